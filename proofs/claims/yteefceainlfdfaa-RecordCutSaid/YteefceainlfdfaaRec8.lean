
/- awake of layer 4. -/
import Derived.Test.YteefceainlfdfaaRec7
namespace Go.Proofs.Yteefceainlfdfaa
set_option linter.unusedSimpArgs false
set_option linter.unusedVariables false
open Go.ChangeShapes Go.WideShapes Go.ChangeAt Go.RowKit

theorem vw_blk {w : World} {g : Nat} {l : List UInt8} {t : TypeId} {fr : Nat × Nat} (h : w.heap[g]? = some (.cells (bvs l).toArray t fr)) (hl : l.length ≤ 1000000) : Vw w (some ⟨g, 0, none⟩) l.length l.length 1 (bvs l) := by
  refine ⟨by simp [bvs], Nat.le_refl _, by unfold maxLen; omega, (fun h => by cases h), fun x hx j u hu => ?_⟩
  cases hx
  have ha : (Addr.add ⟨g, 0, none⟩ j) = ⟨g, j, none⟩ := by unfold Addr.add; split <;> simp_all
  rw [ha, cell_of_row _ _ _ _ _ _ h]
  simpa using hu
theorem one_record {ts : List Tri} {x : List UInt8} (h : ts.map (·.2.2) = [x]) : ∃ p q, ts = [(p, q, x)] := by
  match ts, h with
  | [(p, q, y)], h => simp at h; subst h; exact ⟨p, q, rfl⟩

set_option maxRecDepth 100000 in
set_option maxHeartbeats 4000000 in
theorem awake04_any (w : World) : Calls Try.prog 7 #[] w fun e w' => e = .returned (.bool true) ∧ Upd (fun _ => False) w w' := by
  obtain ⟨i0, hi, hz0, hz1, hz2⟩ := info_parts infoU8
  have HIU := Lib.hid (And.intro hi (And.intro hz0 (And.intro hz1 hz2)))
  clear hi hz0 hz1 hz2
  have kc := fun (w : World) (C : Array Value) (n c : Nat) => Lib.run_convert_bytes_const (P := Try.prog) w 22 5 C n c Try.underlying22 Try.underlying5
  go_enter Try.func7, Try.ntmps7
  go_wp2_with fail
  have hv1 : Vw (w.alloc (Obj.cells #[.int .u8 97] 5 (1, 2))) (some ⟨w.heap.size, 0, none⟩) 1 1 1 (bvs [97]) := vw_blk (l := [97]) (heap_alloc_new w _) (by decide)
  have hU1 := Upd.alloc (fun _ => False) w (Obj.cells #[.int .u8 97] 5 (1, 2))
  have hz1 : (w.alloc (Obj.cells #[.int .u8 97] 5 (1, 2))).heap.size = w.heap.size + 1 := by simp
  generalize w.alloc (Obj.cells #[.int .u8 97] 5 (1, 2)) = w1 at *
  refine (frame_any (some ⟨w.heap.size, 0, none⟩) 1 [97] w1 hv1 (by decide) (fun b hb => by cases hb; show w.heap.size < _; omega)).mono ?_
  rintro e w2 ⟨a2, c2, rfl, hown2, hU2, hfr2, hnil2⟩
  have hlen2 := frameL_length [97]
  have hscan := scan_frame [97] [7] (by decide)
  rw [scan_short [7] (by decide)] at hscan
  generalize frameL [97] = f at *
  have hl9 : f.length = 9 := hlen2
  have HSC := Lib.hid hscan
  have HL9 := Lib.hid hl9
  clear hscan hlen2
  rw [hl9] at hown2 ⊢
  have hU02 := hU1.trans hU2
  have hown3 := hown2.alloc (Obj.cells #[.int .u8 7] 5)
  have hnew : (w2.alloc (Obj.cells #[.int .u8 7] 5)).heap[w2.heap.size]? = _ := heap_alloc_new w2 _
  have hsr : Src Try.prog 1 22 (.slice (some ⟨w2.heap.size, 0, none⟩) 1 1) 1 [.int .u8 7] (w2.alloc (Obj.cells #[.int .u8 7] 5)) :=
    Src.ofSlice _ Try.underlying22 _ 1 1 _ rfl (World.news_of_block hnew) (fun u hu => by simp at hu; subst hu; rfl)
  have hU03 := hU02.trans (Upd.alloc (fun _ => False) w2 (Obj.cells #[.int .u8 7] 5))
  have HFR := Lib.hid hfr2
  have hz2 := hU2.size
  clear hnew hown2 hU1 hU2 hU02 hnil2 hfr2 hv1 hl9
  go_wp2_with (at_builtin; refine wpList_app _ rfl (.tmp 6) (.tmp 7) 22 22 rfl 5 i0 (.int .u8 0) 1 1 Try.underlying22 HIU.out.1 HIU.out.2.1 HIU.out.2.2.1 HIU.out.2.2.2 rfl a2 9 c2 (bvs f) rfl hown3 (.slice (some ⟨w2.heap.size, 0, none⟩) 1 1) 1 _ rfl hsr ?_ ?_ ?_)
  · unfold maxLen; omega
  · omega
  intro a4 c4 w4 hown4 hg4 hat4 hnil4
  have hU4 := Upd.grown (S := fun k => blk a2 = some k) hg4 (fun k hk => hk)
  have hU04 := hU03.next hU4 (fun i hi h => by have := HFR.out i h; omega)
  have hfl : (f ++ [7]).length = 10 := by simp [HL9.out]
  have hown5 : w4.ownsRow 0 5 1 (.slice a4 (f ++ [7]).length c4) (f ++ [7]).length (bvs (f ++ [7])) := by
    rw [hfl]
    simpa [bvs, bv] using hown4
  have hsc := scan_any a4 c4 (f ++ [7]) w4 (Vw.of_own hown5) (by rw [hfl]; decide) (fun k hk => (hown5.lt k ((own_blk _ _ _).trans hk)).2)
  rw [hfl] at hsc
  clear hown4 hg4 hat4 hnil4 hU4 hU03 hown3 hsr hown5 hfl
  go_wp2_with fail
  refine hsc.mono ?_
  rintro e w5 ⟨ar, cr, ts, rfl, hts, hR, hU5⟩
  rw [HSC.out] at hts ⊢
  obtain ⟨p, q, rfl⟩ := one_record hts
  have hv5 := (hR.each (p, q, [97]) (by simp)).1
  obtain ⟨b, o, hbo, hcell⟩ := (Vw.of_own hR.own).at (by simp) (by decide)
  subst hbo
  have q0 := hcell 0 (cellT (p, q, [97])) (by simp)
  rw [Nat.add_zero] at q0
  unfold cellT at q0
  simp only [List.length_cons, List.length_nil, Nat.zero_add] at q0 hv5 ⊢
  have hU05 := hU04.trans hU5
  have HV5 := Lib.hid hv5
  clear hcell hR hts hU5 hU04 hsc hv5
  go_wp2_with fail
  have hv6 : Vw (w5.alloc (Obj.cells #[.int .u8 97] 5 (1, 2))) (some ⟨w5.heap.size, 0, none⟩) 1 1 1 (bvs [97]) := vw_blk (l := [97]) (heap_alloc_new w5 _) (by decide)
  have hv5' := HV5.out.upd (Upd.alloc (fun _ => False) w5 (Obj.cells #[.int .u8 97] 5 (1, 2))) (fun _ _ h => h)
  refine (sBytes_any p (some ⟨w5.heap.size, 0, none⟩) q 1 [97] [97] _ hv5' hv6).mono ?_
  rintro e w6 ⟨rfl, rfl⟩
  have hU06 := hU05.trans (Upd.alloc (fun _ => False) w5 (Obj.cells #[.int .u8 97] 5 (1, 2)))
  go_wp2_with fail
  go_ret
  exact ⟨rfl, hU06⟩
end Go.Proofs.Yteefceainlfdfaa
