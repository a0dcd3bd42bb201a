/- The walk of DigestTells. -/
import Derived.Test.YtafkcmgfkecljaaDigestOrderWalk
import Derived.Test.YtafkcmgfkecljaaItems
namespace Go.Proofs.Ytafkcmgfkecljaa
set_option linter.unusedSimpArgs false
set_option linter.unusedVariables false
open Go.ChangeShapes Go.WideShapes Go.ChangeAt Go.RowKit

/-- What stays in DigestTells. -/
structure Stay (w : World) (B : Nat) (kx ky : Array Value) (g : Nat) (a : Option Addr) (c : Nat) (l : List UInt8) : Prop where
  two : Two w B kx ky
  own : w.ownsRow 0 5 1 (.slice (some ⟨g, 0, none⟩) (l.length + 3) (l.length + 3)) (l.length + 3) (bvs (l ++ [71, 71, 71]))
  vw : Vw w a l.length c 1 (bvs l)
  lt : g < w.heap.size
  ltb : ∀ b, blk a = some b → b < w.heap.size
theorem Stay.upd {w w' : World} {B : Nat} {kx ky : Array Value} {g : Nat} {a : Option Addr} {c : Nat} {l : List UInt8} (h : Stay w B kx ky g a c l) (hU : Upd (fun _ => False) w w') : Stay w' B kx ky g a c l :=
  ⟨h.two.upd hU, ownsRow_upd h.own hU (fun _ _ h => h), h.vw.upd hU (fun _ _ h => h), Nat.lt_of_lt_of_le h.lt hU.size, fun b hb => Nat.lt_of_lt_of_le (h.ltb b hb) hU.size⟩
theorem Stay.in' {w : World} {B : Nat} {kx ky : Array Value} {g : Nat} {a : Option Addr} {c : Nat} {l : List UInt8} (h : Stay w B kx ky g a c l) : Vw w (some ⟨g, 0, none⟩) l.length (l.length + 3) 1 (bvs l) := by
  have := (Vw.of_own h.own).pre l.length (by omega)
  simpa [bvs] using this

set_option maxRecDepth 100000 in
set_option maxHeartbeats 8000000 in
theorem DigestTells_walk (w : World) (a : Option Addr) (c : Nat) (l : List UInt8) (hv : Vw w a l.length c 1 (bvs l)) (hlb : ∀ b, blk a = some b → b < w.heap.size) (x : List UInt8) (hx : x.length = 32) (y : List UInt8) (hy : y.length = 32) :
    Calls Try.prog 5 #[.slice a l.length c, .agg (bvs x).toArray, .agg (bvs y).toArray] w fun e w' => e = .returned (.bool true) ∧ Below w.heap.size w w' := by
  have hL1 := fun w => less_any x y w hx hy
  have hL2 := fun w => refLess_any x y w hx hy
  have hH1 := fun w => hex_any x w hx
  have hH2 := fun w => refHex_any x w hx
  have hS1 := fun (w : World) (g : Nat) (hv : Vw w (some ⟨g, 0, none⟩) l.length (l.length + 3) 1 (bvs l)) (hl : l.length ≤ 3000) (hg : g < w.heap.size) => sum_any (some ⟨g, 0, none⟩) (l.length + 3) l w hv (by omega) (fun b hb => by cases hb; exact hg)
  have hS2 := fun (w : World) (hv : Vw w a l.length c 1 (bvs l)) (hl : l.length ≤ 3000) (hlb : ∀ b, blk a = some b → b < w.heap.size) => refSum_any a c l w hv (by omega) hlb
  have hek := fun w => key_eql (sumL l) (sumL l) (sumL_length l) (sumL_length l) w
  have hikx := key_info x hx
  have hiky := key_info y hy
  generalize lessL x y = p at *
  generalize hsx : str (hexL x) = sx at *
  obtain ⟨ks, hks⟩ : ∃ ks, (bvs (sumL l)).toArray = ks := ⟨_, rfl⟩
  obtain ⟨kx, hkx⟩ : ∃ kx, (bvs x).toArray = kx := ⟨_, rfl⟩
  obtain ⟨ky, hky⟩ : ∃ ky, (bvs y).toArray = ky := ⟨_, rfl⟩
  rw [hks] at hek
  simp only [hks] at hS1 hS2
  simp only [beq_self_eq_true] at hek
  rw [hkx] at hL1 hL2 hH1 hH2 hikx ⊢
  rw [hky] at hL1 hL2 hiky ⊢
  have HX := Lib.hid hx
  have HY := Lib.hid hy
  clear hkx hky hks hsx hx hy
  go_enter Try.func5, Try.ntmps5
  go_upto_region 1 with (fail)
  have hT := Two.new w kx ky
  have hU0 : Upd (fun i => w.heap.size ≤ i) w ((w.alloc (Obj.cells kx 32)).alloc (Obj.cells ky 32)) := (Upd.alloc _ _ _).trans (Upd.alloc _ _ _)
  have hv1 := hv.upd hU0 (fun k hk h => by have := hlb k hk; omega)
  have hlb1 := fun b hb => Nat.lt_of_lt_of_le (hlb b hb) hU0.size
  generalize (w.alloc (Obj.cells kx 32)).alloc (Obj.cells ky 32) = w1 at *
  obtain ⟨B, hB⟩ : ∃ B, w.heap.size = B := ⟨_, rfl⟩
  rw [hB] at hT hU0 ⊢
  have HB := Lib.hid hB
  clear hB hlb
  by_cases h3000 : 3000 < l.length
  · have hd : decide (3000 < (l.length : Int)) = true := by simp; omega
    go_wp2_with fail
    refine (awake02_any w1).mono ?_
    rintro e w3 ⟨rfl, hU1⟩
    go_wp2_with fail
    go_ret
    exact ⟨rfl, (hU0.trans (hU1.mono (fun _ _ h => h.elim))).below (Nat.le_refl _) (fun i hi hs => by have := HB.out; omega)⟩
  have hd : decide (3000 < (l.length : Int)) = false := by simp; omega
  go_wp2_with fail
  refine (ownB_any a c l 71 w1 hv1 (by omega)).mono ?_
  rintro e w2 ⟨g, rfl, hown2, hU2, hg⟩
  have hg2 : g < w2.heap.size := (hown2.lt g (by simp [own_blk, blk])).2
  have hSt : Stay w2 B kx ky g a c l := ⟨hT.upd hU2, hown2, hv1.upd hU2 (fun _ _ h => h), hg2, fun b hb => Nat.lt_of_lt_of_le (hlb1 b hb) hU2.size⟩
  have hU02 := hU0.trans (hU2.mono (fun _ _ h => h.elim))
  have hl3 : l.length ≤ 3000 := by omega
  clear hT hown2 hv1 hg2 hU0 hU2 hlb1 hg hd h3000 hv
  go_upto_region 4 with (fail)
  have hSt3 := hSt.upd (Upd.drew (fun _ => False) _)
  have hW3 : Upd (fun _ => False) w2 w2.drew := Upd.drew _ _
  refine wp_region_plan_last [([], 0), ([1, 2, 4], 3), ([], 5), ([6, 7, 8, 9, 11], 10), ([], 12), ([13, 14, 15, 16, 17, 19, 20], 18), ([], 21), ([22, 23, 24, 25, 26], 27)] [28, 29] (fun w' => Two w' B kx ky) (by kernel_rfl) (by kernel_rfl) hSt3.two ?_
  refine plan_act rfl (fun KK hKK => ?_)
  go_wp2_with fail
  refine (awake02_any _).mono ?_
  rintro e w4 ⟨rfl, hU4⟩
  have hSt4 := hSt3.upd hU4
  have hW4 := hW3.trans hU4
  go_wp2_with fail
  refine hKK.out _ _ (.inr hSt4.two) ?_
  iterate 3
    first
    | (refine plan_skip rfl rfl ?_)
    | (refine plan_take (v := ?_) rfl rfl (fun w' hS => ?_) ?_
       rotate_left
       · skip
         go_simp; try with_reducible rfl)
    simp only [Act.put, List.getElem_toArray, List.getElem_cons_zero, List.getElem_cons_succ, List.setIfInBounds_toArray, List.set_cons_zero, List.set_cons_succ]
  refine plan_act rfl (fun KK hKK => ?_)
  go_wp2_with fail
  refine (hS1 _ g hSt4.in' hl3 hSt4.lt).mono ?_
  rintro e w5 ⟨rfl, hU5⟩
  have hSt5 := hSt4.upd hU5
  have hW5 := hW4.trans hU5
  go_wp2_with fail
  refine hKK.out _ _ (.inr hSt5.two) ?_
  refine plan_act rfl (fun KK hKK => ?_)
  go_wp2_with fail
  refine (hS2 _ hSt5.vw hl3 hSt5.ltb).mono ?_
  rintro e w6 ⟨rfl, hU6⟩
  have hSt6 := hSt5.upd hU6
  have hW6 := hW5.trans hU6
  go_wp2_with fail
  refine hKK.out _ _ (.inr hSt6.two) ?_
  iterate 3
    first
    | (refine plan_skip rfl rfl ?_)
    | (refine plan_take (v := ?_) rfl rfl (fun w' hS => ?_) ?_
       rotate_left
       · skip
         go_simp; try with_reducible rfl)
    simp only [Act.put, List.getElem_toArray, List.getElem_cons_zero, List.getElem_cons_succ, List.setIfInBounds_toArray, List.set_cons_zero, List.set_cons_succ]
  refine plan_take (v := .agg kx) rfl rfl (fun w' hS => exec_load_row 32 (.tmp 4) rfl B kx 32 (0, 0) _ rfl hS.a Try.underlying32 rfl hikx) ?_
  simp only [Act.put, List.getElem_toArray, List.getElem_cons_zero, List.getElem_cons_succ, List.setIfInBounds_toArray, List.set_cons_zero, List.set_cons_succ]
  refine plan_take (v := .agg kx) rfl rfl (fun w' hS => exec_load_row 32 (.tmp 4) rfl B kx 32 (0, 0) _ rfl hS.a Try.underlying32 rfl hikx) ?_
  simp only [Act.put, List.getElem_toArray, List.getElem_cons_zero, List.getElem_cons_succ, List.setIfInBounds_toArray, List.set_cons_zero, List.set_cons_succ]
  refine plan_act rfl (fun KK hKK => ?_)
  go_wp2_with fail
  refine (hH1 _).mono ?_
  rintro e w7 ⟨rfl, hU7⟩
  have hSt7 := hSt6.upd hU7
  have hW7 := hW6.trans hU7
  go_wp2_with fail
  refine hKK.out _ _ (.inr hSt7.two) ?_
  refine plan_act rfl (fun KK hKK => ?_)
  go_wp2_with fail
  refine (hH2 _).mono ?_
  rintro e w8 ⟨rfl, hU8⟩
  have hSt8 := hSt7.upd hU8
  have hW8 := hW7.trans hU8
  go_wp2_with fail
  refine hKK.out _ _ (.inr hSt8.two) ?_
  iterate 3
    first
    | (refine plan_skip rfl rfl ?_)
    | (refine plan_take (v := ?_) rfl rfl (fun w' hS => ?_) ?_
       rotate_left
       · skip
         go_simp; try with_reducible rfl)
    simp only [Act.put, List.getElem_toArray, List.getElem_cons_zero, List.getElem_cons_succ, List.setIfInBounds_toArray, List.set_cons_zero, List.set_cons_succ]
  refine plan_take (v := .agg kx) rfl rfl (fun w' hS => exec_load_row 32 (.tmp 4) rfl B kx 32 (0, 0) _ rfl hS.a Try.underlying32 rfl hikx) ?_
  simp only [Act.put, List.getElem_toArray, List.getElem_cons_zero, List.getElem_cons_succ, List.setIfInBounds_toArray, List.set_cons_zero, List.set_cons_succ]
  refine plan_take (v := .agg ky) rfl rfl (fun w' hS => exec_load_row 32 (.tmp 5) rfl (B + 1) ky 32 (0, 0) _ rfl hS.b Try.underlying32 rfl hiky) ?_
  simp only [Act.put, List.getElem_toArray, List.getElem_cons_zero, List.getElem_cons_succ, List.setIfInBounds_toArray, List.set_cons_zero, List.set_cons_succ]
  refine plan_take (v := .agg kx) rfl rfl (fun w' hS => exec_load_row 32 (.tmp 4) rfl B kx 32 (0, 0) _ rfl hS.a Try.underlying32 rfl hikx) ?_
  simp only [Act.put, List.getElem_toArray, List.getElem_cons_zero, List.getElem_cons_succ, List.setIfInBounds_toArray, List.set_cons_zero, List.set_cons_succ]
  refine plan_take (v := .agg ky) rfl rfl (fun w' hS => exec_load_row 32 (.tmp 5) rfl (B + 1) ky 32 (0, 0) _ rfl hS.b Try.underlying32 rfl hiky) ?_
  simp only [Act.put, List.getElem_toArray, List.getElem_cons_zero, List.getElem_cons_succ, List.setIfInBounds_toArray, List.set_cons_zero, List.set_cons_succ]
  refine plan_act rfl (fun KK hKK => ?_)
  go_wp2_with fail
  refine (hL1 _).mono ?_
  rintro e w9 ⟨rfl, hU9⟩
  have hSt9 := hSt8.upd hU9
  have hW9 := hW8.trans hU9
  go_wp2_with fail
  refine hKK.out _ _ (.inr hSt9.two) ?_
  refine plan_act rfl (fun KK hKK => ?_)
  go_wp2_with fail
  refine (hL2 _).mono ?_
  rintro e w10 ⟨rfl, hU10⟩
  have hSt10 := hSt9.upd hU10
  have hW10 := hW9.trans hU10
  go_wp2_with fail
  refine hKK.out _ _ (.inr hSt10.two) ?_
  iterate 5
    first
    | (refine plan_skip rfl rfl ?_)
    | (refine plan_take (v := ?_) rfl rfl (fun w' hS => ?_) ?_
       rotate_left
       · skip
         go_simp; try with_reducible rfl)
    simp only [Act.put, List.getElem_toArray, List.getElem_cons_zero, List.getElem_cons_succ, List.setIfInBounds_toArray, List.set_cons_zero, List.set_cons_succ]
  refine plan_act rfl (fun KK hKK => ?_)
  go_wp2_with fail
  refine (keptB_any g a c l 71 _ (by omega) hSt10.own hSt10.vw).mono ?_
  rintro e w11 ⟨rfl, hU11⟩
  have hSt11 := hSt10.upd hU11
  have hW11 := hW10.trans hU11
  go_wp2_with fail
  refine hKK.out _ _ (.inr hSt11.two) ?_
  iterate 2
    first
    | (refine plan_lskip rfl rfl ?_)
    | (refine plan_last (v := ?_) rfl rfl (fun w' hS => ?_) ?_
       rotate_left
       · skip
         go_simp; try with_reducible rfl)
    simp only [Act.put, List.getElem_toArray, List.getElem_cons_zero, List.getElem_cons_succ, List.setIfInBounds_toArray, List.set_cons_zero, List.set_cons_succ]
  refine plan_end ?_
  go_wp2_with fail
  go_ret
  exact ⟨rfl, (hU02.trans (hW11.mono (fun _ _ h => h.elim))).below (Nat.le_refl _) (fun i hi hs => by have := HB.out; omega)⟩

end Go.Proofs.Ytafkcmgfkecljaa
