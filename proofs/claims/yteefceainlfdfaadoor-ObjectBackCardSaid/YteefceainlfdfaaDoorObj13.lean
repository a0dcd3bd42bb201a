
/- Copies of entries with room behind, and whether they are as they were. -/
import Derived.Test.YteefceainlfdfaaDoorObj12
namespace Go.Proofs.YteefceainlfdfaaDoor
set_option linter.unusedSimpArgs false
set_option linter.unusedVariables false
set_option maxRecDepth 100000
open Go.ChangeShapes Go.WideShapes Go.ChangeAt Go.RowKit

theorem setCells_heap {g : Nat} {e : TypeId} {fr : Nat × Nat} : ∀ (vs : List Value) (o : Nat) (cur : Array Value) (w : World), w.heap[g]? = some (.cells cur e fr) →
    ∃ cur', (w.setCells g o vs).heap[g]? = some (.cells cur' e fr) ∧ cur'.size = cur.size ∧ (o + vs.length ≤ cur.size → cur'.toList = cur.toList.take o ++ (vs ++ cur.toList.drop (o + vs.length)))
  | [], o, cur, w, h => ⟨cur, h, rfl, fun _ => by simp⟩
  | v :: r, o, cur, w, h => by
    obtain ⟨cur', h1, h2, h3⟩ := setCells_heap r (o + 1) (cur.setIfInBounds o v) (w.setCell ⟨g, o, none⟩ v) (setCell_heap o v h)
    refine ⟨cur', h1, by simpa using h2, fun hle => ?_⟩
    rw [List.length_cons] at hle
    rw [h3 (by simp; omega), Array.toList_setIfInBounds, List.length_cons]
    have hl : o < cur.toList.length := by rw [Array.length_toList]; omega
    rw [List.take_succ_eq_append_getElem (by simpa using hl), List.take_set_of_le (Nat.le_refl o), List.drop_set_of_lt (by omega), show o + 1 + r.length = o + (r.length + 1) from by omega]
    simp
theorem Upd.setCells {S : Nat → Prop} {g : Nat} (hg : S g) : ∀ (vs : List Value) (o : Nat) (w : World), Upd S w (w.setCells g o vs)
  | [], o, w => Upd.refl _ _
  | v :: r, o, w => (Upd.setCell (S := S) w (p := ⟨g, o, none⟩) hg v).trans (Upd.setCells hg r (o + 1) _)
theorem ownsRow_moreN {w : World} {e : TypeId} {size g n c : Nat} {xs : List Value} (h : w.ownsRow 0 e size (.slice (some ⟨g, 0, none⟩) n c) n xs) (hn : n < c) (vs : List Value) (hvs : vs.length = size) :
    (w.setCells g (n * size) vs).ownsRow 0 e size (.slice (some ⟨g, 0, none⟩) (n + 1) c) (n + 1) (xs ++ vs) := by
  rcases h.2 with ⟨hv, _⟩ | ⟨g', cap, cur, hv, hbg, hg, hnc, hcm, hcs, htake⟩
  · cases hv
  · simp only [Value.slice.injEq, Option.some.injEq, Addr.mk.injEq, and_true, true_and] at hv
    obtain ⟨rfl, rfl⟩ := hv
    obtain ⟨cur', h1, h2, h3⟩ := setCells_heap vs (n * size) cur w hg
    have hle : n * size + vs.length ≤ cur.size := by
      rw [hcs, hvs, ← Nat.succ_mul]; exact Nat.mul_le_mul_right _ hn
    refine ⟨by rw [List.length_append, h.1, hvs, Nat.succ_mul], .inr ⟨g, c, cur', rfl, hbg, h1, hn, hcm, by rw [h2, hcs], ?_⟩⟩
    rw [h3 hle, htake, Nat.succ_mul, ← List.append_assoc]
    rw [List.take_append_of_le_length (by rw [List.length_append, h.1, hvs]; exact Nat.le_refl _), List.take_of_length_le (by rw [List.length_append, h.1, hvs]; exact Nat.le_refl _)]
theorem ownsRow_there {w : World} {e : TypeId} {size g n c : Nat} {xs : List Value} (h : w.ownsRow 0 e size (.slice (some ⟨g, 0, none⟩) n c) n xs) (hn : n < c) : w.there g (n * size) size := by
  rcases h.2 with ⟨hv, _⟩ | ⟨g', cap, cur, hv, hbg, hg, hnc, hcm, hcs, htake⟩
  · cases hv
  · simp only [Value.slice.injEq, Option.some.injEq, Addr.mk.injEq, and_true, true_and] at hv
    obtain ⟨rfl, rfl⟩ := hv
    intro j hj
    have hle : n * size + size ≤ cur.size := by rw [hcs, ← Nat.succ_mul]; exact Nat.mul_le_mul_right _ hn
    rw [cell_of_row _ _ _ _ _ _ hg]
    exact ⟨by simp; omega, by simp [World.frozen?, hg]⟩
theorem entV_cells (l : List Ent) : ∀ u ∈ l.flatMap entV, u.oneCell' = true := by
  intro u hu
  obtain ⟨x, _, hx⟩ := List.mem_flatMap.1 hu
  have := entA_one x
  rw [Array.all_eq_true_iff_forall_mem] at this
  exact this u (by simpa [entA] using hx)
def entZ : Ent := ⟨[], false, key0, rfl⟩
theorem infoEntZ : (Tryd.prog.info? 44).map (fun i => (i.zero, i.size, i.bytes)) = some (some (.agg (entA entZ)), 34, 56) := by kernel_rfl
theorem flatMap_more (l : List Ent) (j : Nat) (f : Ent) : (l ++ List.replicate j f).flatMap entV ++ entV f = (l ++ List.replicate (j + 1) f).flatMap entV := by
  rw [List.replicate_succ', ← List.append_assoc, List.flatMap_append (xs := l ++ List.replicate j f)]
  simp

/-- A copy with three more behind it. -/
def OwnedE (w : World) (l : List Ent) (f : Ent) (e : Ending) (w' : World) : Prop :=
  ∃ g, e = .returned (.slice (some ⟨g, 0, none⟩) l.length (l.length + 3)) ∧ w'.ownsRow 0 44 34 (.slice (some ⟨g, 0, none⟩) (l.length + 3) (l.length + 3)) (l.length + 3) ((l ++ [f, f, f]).flatMap entV) ∧ Upd (fun _ => False) w w' ∧ w.heap.size ≤ g
set_option maxHeartbeats 2000000 in
theorem ownE_any (a : Option Addr) (c : Nat) (l : List Ent) (f : Ent) (w : World) (hv : Vw w a l.length c 34 (l.flatMap entV)) (hl : l.length ≤ 1000) :
    Calls Tryd.prog 15 #[.slice a l.length c, .agg (entA f)] w (OwnedE w l f) := by
  obtain ⟨i0, hi, hz0, hz1, hz2⟩ := info_parts2 infoEntZ
  have hs3 : IntKind.i64.wrap ((l.length : Int) + 3) = (l.length : Int) + 3 := IntWalk.i64_in _ (by omega)
  have hUa := Upd.alloc (fun _ => False) w (.cells (entA f) 44)
  have hrow := heap_alloc_new w (.cells (entA f) 44)
  have hva := hv.upd hUa (fun _ _ h => h)
  have hzz : (w.alloc (.cells (entA f) 44)).heap.size = w.heap.size + 1 := by simp
  have HROW := Lib.hid hrow
  have HUA := Lib.hid hUa
  clear hv hrow hUa
  have HI := Lib.hid (And.intro hi (And.intro hz0 (And.intro hz1 hz2)))
  clear hi hz0 hz1 hz2
  go_enter Tryd.func15, Tryd.ntmps15
  go_upto_region 1 with (fail)
  obtain ⟨hi, hz0, hz1, hz2⟩ := HI.out
  generalize w.alloc (.cells (entA f) 44) = y at *
  obtain ⟨B, hB⟩ : ∃ B, B = w.heap.size := ⟨_, rfl⟩
  rw [← hB] at hzz HROW ⊢
  have HB := Lib.hid hB
  obtain ⟨g, hg⟩ : ∃ g, g = y.heap.size := ⟨_, rfl⟩
  have HG := Lib.hid hg
  have hgB : g = B + 1 := by omega
  have HGB := Lib.hid hgB
  clear hB hgB hzz hg
  go_wp2_with (at_make; refine wpList_make_own y rfl (.const (.int .i64 0)) (.tmp 10) 36 rfl 0 44 i0 (.agg (entA entZ)) 34 Tryd.underlying36 hi hz0 hz1 .i64 .i64 ((l.length : Int) + 3) (l.length + 3) rfl rfl (by omega) ?_ ?_ (Nat.zero_le _) ?_)
  · rw [hz2]; omega
  · unfold maxLen; omega
  intro w1 hown1 hg1
  have hU1 : Upd (fun _ => False) y w1 := Upd.grown hg1 (fun k hk => by cases hk)
  have hv1 := hva.upd hU1 (fun _ _ h => h)
  have hsrc := hv1.src (P := Tryd.prog) (t := 36) Tryd.underlying36 (entV_cells l)
  rw [← HG.out] at hown1 ⊢
  clear hg1 hva
  go_wp2_with (at_builtin; refine wpList_fits _ rfl (.tmp 12) (.tmp 13) 36 36 rfl 44 i0 34 Tryd.underlying36 hi hz1 (some ⟨g, 0, none⟩) 0 (l.length + 3) [] rfl hown1 (.slice a l.length c) l.length (l.flatMap entV) rfl hsrc ?_ ?_)
  · omega
  intro w2 hown2 hg2
  try simp only [Nat.zero_add, List.nil_append] at hown2
  have hU2 : Upd (fun i => i = g) y w2 := (hU1.mono (fun _ _ h => h.elim)).next (Upd.grown (S := fun k => k = g) hg2 (fun k hk => by simpa [blk] using hk.symm)) (fun i hi h => h)
  have hrow2 : w2.heap[B]? = some (.cells (entA f) 44) := (hU2.block B (lt_of_heap HROW.out) (fun h => by have := HGB.out; omega)).trans HROW.out
  have hU02 : Upd (fun _ => False) w w2 := HUA.out.next hU2 (fun i hi h => by have := HB.out; have := HGB.out; omega)
  have HI2 := Lib.hid (And.intro hown2 (And.intro hrow2 hU02))
  clear hown1 hU1 hg2 hsrc hv1 hi hz0 hz1 hz2 hown2 hrow2 hU02 hU2
  have hq : (l.length : Int) + 3 = ((l.length + 3 : Nat) : Int) := by omega
  have HQ := Lib.hid hq; clear hq
  go_wp2_with fail
  go_loopw [7] (fun i wr => ∃ j : Nat, j ≤ 3 ∧ i = .int .i64 ((l.length + j : Nat) : Int) ∧ Hid (wr.ownsRow 0 44 34 (.slice (some ⟨g, 0, none⟩) (l.length + j) (l.length + 3)) (l.length + j) ((l ++ List.replicate j f).flatMap entV) ∧ wr.heap[B]? = some (.cells (entA f) 44) ∧ Upd (fun _ => False) w wr)) (fun i _ => (l.length + 3) - (intOf i).toNat)
  case atStart => exact ⟨0, by omega, rfl, Lib.hid ⟨by simpa using HI2.out.1, HI2.out.2⟩⟩
  case round =>
    clear HI2
    obtain ⟨j, hj, rfl, HH⟩ := hrel
    by_cases hlt : j < 3
    · have hth := ownsRow_there HH.out.1 (by omega)
      have hown' := ownsRow_moreN HH.out.1 (by omega) (entV f) (entV_len f)
      rw [flatMap_more] at hown'
      have hU' : Upd (fun _ => False) w (wr.setCells g ((l.length + j) * 34) (entV f)) := HH.out.2.2.next (Upd.setCells (S := fun k => k = g) rfl _ _ wr) (fun i hi h => by have := HB.out; have := HGB.out; omega)
      have hrow' : (wr.setCells g ((l.length + j) * 34) (entV f)).heap[B]? = some (.cells (entA f) 44) := ((Upd.setCells (S := fun k => k = g) rfl (entV f) _ wr).block B (lt_of_heap HH.out.2.1) (fun h => by have := HGB.out; omega)).trans HH.out.2.1
      have hrg : wr.rangeAt B 0 (entV f) := fun j u hu => by
        rw [cell_of_row _ _ _ _ _ _ HH.out.2.1]; simpa [entA] using hu
      have hI : ((l.length + j : Nat) : Int) < ((l.length : Nat) : Int) + 3 := by omega
      have hI2 : ((l.length + j : Nat) : Int).toNat = l.length + j := by omega
      have H1 := Lib.hid (And.intro hown' (And.intro hrow' hU'))
      have HT := Lib.hid hth
      clear hown' hU' hrow' hth
      go_wp2_with first
        | refine wpList_load_ent rfl (.tmp 3) rfl B 0 rfl f hrg ?_
        | (refine wpList_store_mid rfl 44 (.tmp 31) (.tmp 30) rfl g ((l.length + j) * 34) (entA f) rfl rfl (by rw [entA_size]; exact HT.out) (by rw [infoEnt, entA_size]) (entA_one f) ?_; show wpList _ _ _ _ _ (wr.setCells g ((l.length + j) * 34) (entV f)))
      go_roundw
      case rel => exact ⟨j + 1, by omega, by go_num, H1⟩
      case measure => simp [intOf]; omega
    · obtain rfl : j = 3 := by omega
      go_wp2_with fail
      go_ret
      exact ⟨g, rfl, by simpa using HH.out.1, HH.out.2.2, by have := HB.out; have := HGB.out; omega⟩
end Go.Proofs.YteefceainlfdfaaDoor
