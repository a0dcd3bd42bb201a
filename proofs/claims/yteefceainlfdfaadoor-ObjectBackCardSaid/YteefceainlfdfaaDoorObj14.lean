
/- Kept of entries; Kind of both. -/
import Derived.Test.YteefceainlfdfaaDoorObj13
namespace Go.Proofs.YteefceainlfdfaaDoor
set_option linter.unusedSimpArgs false
set_option linter.unusedVariables false
set_option maxRecDepth 100000
open Go.ChangeShapes Go.WideShapes Go.ChangeAt Go.RowKit

set_option maxHeartbeats 2000000 in
theorem keptE_any (g : Nat) (a2 : Option Addr) (c2 : Nat) (l : List Ent) (f : Ent) (w : World) (hl : l.length ≤ 1000)
    (hown : w.ownsRow 0 44 34 (.slice (some ⟨g, 0, none⟩) (l.length + 3) (l.length + 3)) (l.length + 3) ((l ++ [f, f, f]).flatMap entV)) (hv2 : Vw w a2 l.length c2 34 (l.flatMap entV)) :
    Calls Tryd.prog 23 #[.slice (some ⟨g, 0, none⟩) l.length (l.length + 3), .slice a2 l.length c2, .agg (entA f)] w fun e w' => e = .returned (.bool true) ∧ Upd (fun _ => False) w w' := by
  have hv := Vw.of_own hown
  have hp := hv.pre l.length (by omega)
  have htk : ((l ++ [f, f, f]).flatMap entV).take (l.length * 34) = l.flatMap entV := by
    rw [ent_take _ _ (by simp), List.take_left]
  rw [htk] at hp
  have hv' : Vw w (some ⟨g, 0, none⟩) (l ++ [f, f, f]).length (l.length + 3) 34 ((l ++ [f, f, f]).flatMap entV) := by
    rw [List.length_append]; exact hv
  obtain ⟨b, o, hb, hcell⟩ := ent_at hv' (by simp)
  cases hb
  have hfil : ∀ j, j < 3 → w.rangeAt g ((l.length + j) * 34) (entV f) := fun j hj => by
    have h1 := hcell (l.length + j) (by simp; omega)
    have h2 : (l ++ [f, f, f])[l.length + j]'(by simp; omega) = f := by
      rw [List.getElem_append_right (by omega)]
      match j, hj with
      | 0, _ => simp
      | 1, _ => simp
      | 2, _ => simp
    rw [h2, Nat.zero_add] at h1
    exact h1
  clear hv hv' hcell htk hown
  have hs3 : IntKind.i64.wrap ((l.length : Int) + 3) = (l.length : Int) + 3 := IntWalk.i64_in _ (by omega)
  have hq : (l.length : Int) + 3 = ((l.length + 3 : Nat) : Int) := by omega
  have HQ := Lib.hid hq; clear hq
  have hUa := Upd.alloc (fun _ => False) w (.cells (entA f) 44)
  have HX := Lib.hid (And.intro (ent_row w f) hUa)
  have HF := Lib.hid (fun j hj => range_upd (hfil j hj) hUa (fun h => h))
  have hpl := plainE_any (some ⟨g, 0, none⟩) a2 (l.length + 3) c2 l _ (hp.upd hUa (fun _ _ h => h)) (hv2.upd hUa (fun _ _ h => h))
  have HPL := Lib.hid hpl
  clear hfil hUa hpl hp hv2
  go_enter Tryd.func23, Tryd.ntmps23
  go_upto_region 1 with (fail)
  have hpl := HPL.out
  obtain ⟨B, hB⟩ : ∃ B, B = w.heap.size := ⟨_, rfl⟩
  rw [← hB] at HX ⊢
  generalize w.alloc (.cells (entA f) 44) = y at *
  clear hB HPL
  go_wp2_with fail
  refine hpl.mono ?_
  rintro e w1 ⟨rfl, hU⟩
  have HR := Lib.hid (And.intro (range_upd HX.out.1 hU (fun h => h)) (And.intro (fun j hj => range_upd (HF.out j hj) hU (fun h => h)) (HX.out.2.trans hU)))
  clear hpl hU HF HX
  go_wp2_with fail
  go_loopw [8] (fun i wr => ∃ j : Nat, j ≤ 3 ∧ i = .int .i64 ((l.length + j : Nat) : Int) ∧ Upd (fun _ => False) w1 wr) (fun i _ => (l.length + 3) - (intOf i).toNat)
  case atStart => exact ⟨0, by omega, rfl, Upd.refl _ _⟩
  case round =>
    obtain ⟨j, hj, rfl, hU⟩ := hrel
    by_cases hlt : j < 3
    · have hI : ((l.length + j : Nat) : Int) < ((l.length : Nat) : Int) + 3 := by omega
      have hI0 : 0 ≤ (l.length : Int) + (j : Int) := by omega
      have hI2 : ((l.length : Int) + (j : Int)).toNat = l.length + j := by omega
      have HS := Lib.hid (And.intro (range_upd (HR.out.2.1 j hlt) hU (fun h => h)) (range_upd HR.out.1 hU (fun h => h)))
      have HU := Lib.hid hU
      clear hU
      go_upto_region 7 with (fail)
      refine wp_region_plan_last [] [0, 1, 2, 3, 4, 5] (fun w' => w'.rangeAt g ((l.length + j) * 34) (entV f) ∧ w'.rangeAt B 0 (entV f)) (by kernel_rfl) (by kernel_rfl) HS.out ?_
      iterate 3
        refine plan_last (v := ?_) rfl rfl (fun w' hS => ?_) ?_
        rotate_left
        · skip
          go_simp; try with_reducible rfl
        simp only [Act.put, List.getElem_toArray, List.getElem_cons_zero, List.getElem_cons_succ, List.setIfInBounds_toArray, List.set_cons_zero, List.set_cons_succ]
      refine plan_last (v := .agg (entA f)) rfl rfl (fun w' hS => exec_load_ent (.tmp 36) rfl g ((l.length + j) * 34) rfl f hS.1) ?_
      simp only [Act.put, List.getElem_toArray, List.getElem_cons_zero, List.getElem_cons_succ, List.setIfInBounds_toArray, List.set_cons_zero, List.set_cons_succ]
      refine plan_last (v := .agg (entA f)) rfl rfl (fun w' hS => exec_load_ent (.tmp 5) rfl B 0 rfl f hS.2) ?_
      simp only [Act.put, List.getElem_toArray, List.getElem_cons_zero, List.getElem_cons_succ, List.setIfInBounds_toArray, List.set_cons_zero, List.set_cons_succ]
      refine plan_last (v := .bool false) rfl rfl (fun w' hS => exec_neq_ent (.tmp 37) (.tmp 38) _ rfl f rfl rfl) ?_
      simp only [Act.put, List.getElem_toArray, List.getElem_cons_zero, List.getElem_cons_succ, List.setIfInBounds_toArray, List.set_cons_zero, List.set_cons_succ]
      refine plan_end ?_
      go_wp2_with fail
      go_roundw
      case rel => exact ⟨j + 1, by omega, by go_num, HU.out.trans (Upd.drew _ _)⟩
      case measure => simp [intOf]; omega
    · obtain rfl : j = 3 := by omega
      go_wp2_with fail
      go_ret
      exact ⟨rfl, HR.out.2.2.trans hU⟩

/-- What kind of object bytes are. -/
def kindL : List UInt8 → Int
  | [] => 0
  | x :: _ => if x.toNat < 1 ∨ 3 < x.toNat then 0 else x.toNat

set_option maxHeartbeats 1000000 in
theorem oKind_any (a : Option Addr) (c : Nat) (l : List UInt8) (w : World) (hv : Vw w a l.length c 1 (bvs l)) : Calls Tryd.prog 39 #[.slice a l.length c] w fun e w' => e = .returned (.int .i64 (kindL l)) ∧ w = w' := by
  have hcap := hv.cap
  have hlc := hv.le
  unfold maxLen at hcap
  cases l with
  | nil =>
    have hk : Hid (kindL [] = 0) := Lib.hid rfl
    go_enter Tryd.func39, Tryd.ntmps39
    go_wp2_with fail
    go_ret
    exact ⟨by rw [hk.out]; rfl, rfl⟩
  | cons x t =>
    obtain ⟨b, o, hb, hcell⟩ := hv.at (by simp) (by decide)
    subst hb
    have q0 : w.cell? ⟨b, o, none⟩ = some (.int .u8 (x.toNat : Int)) := hcell 0 _ rfl
    have hx := x.toNat_lt
    have hk : Hid (kindL (x :: t) = if x.toNat < 1 ∨ 3 < x.toNat then 0 else (x.toNat : Int)) := Lib.hid rfl
    obtain ⟨n, hn⟩ : ∃ n, (x :: t).length = n := ⟨_, rfl⟩
    rw [hn] at hlc ⊢
    have hn0 : 0 < n := by rw [← hn]; simp
    have hn1 : ((n : Int) == 0) = false := by rw [beq_eq_false_iff_ne]; omega
    have hn2 : (0 : Int) < (n : Int) := by omega
    generalize kindL (x :: t) = r at *
    clear hv hcell hn
    by_cases h1 : x.toNat < 1
    · have hI : (x.toNat : Int) < 1 := by omega
      rw [if_pos (.inl h1)] at hk
      go_enter Tryd.func39, Tryd.ntmps39
      go_wp2_with fail
      go_ret
      exact ⟨by rw [hk.out]; rfl, rfl⟩
    · have hI : (1 : Int) ≤ (x.toNat : Int) := by omega
      by_cases h3 : 3 < x.toNat
      · have hI3 : (3 : Int) < (x.toNat : Int) := by omega
        rw [if_pos (.inr h3)] at hk
        go_enter Tryd.func39, Tryd.ntmps39
        go_wp2_with fail
        go_ret
        exact ⟨by rw [hk.out]; rfl, rfl⟩
      · have hI3 : (x.toNat : Int) ≤ 3 := by omega
        have hwx : IntKind.i64.wrap (x.toNat : Int) = (x.toNat : Int) := IntWalk.i64_in _ (by omega)
        rw [if_neg (by omega)] at hk
        go_enter Tryd.func39, Tryd.ntmps39
        go_wp2_with fail
        go_ret
        exact ⟨by rw [hk.out]; rfl, rfl⟩

set_option maxHeartbeats 1000000 in
theorem r15Kind_any (a : Option Addr) (c : Nat) (l : List UInt8) (w : World) (hv : Vw w a l.length c 1 (bvs l)) : Calls Tryd.prog 40 #[.slice a l.length c] w fun e w' => e = .returned (.int .i64 (kindL l)) ∧ w = w' := by
  have hcap := hv.cap
  have hlc := hv.le
  unfold maxLen at hcap
  cases l with
  | nil =>
    have hk : Hid (kindL [] = 0) := Lib.hid rfl
    go_enter Tryd.func40, Tryd.ntmps40
    go_wp2_with fail
    go_ret
    exact ⟨by rw [hk.out]; rfl, rfl⟩
  | cons x t =>
    obtain ⟨b, o, hb, hcell⟩ := hv.at (by simp) (by decide)
    subst hb
    have q0 : w.cell? ⟨b, o, none⟩ = some (.int .u8 (x.toNat : Int)) := hcell 0 _ rfl
    have hx := x.toNat_lt
    have hk : Hid (kindL (x :: t) = if x.toNat < 1 ∨ 3 < x.toNat then 0 else (x.toNat : Int)) := Lib.hid rfl
    obtain ⟨n, hn⟩ : ∃ n, (x :: t).length = n := ⟨_, rfl⟩
    rw [hn] at hlc ⊢
    have hn0 : 0 < n := by rw [← hn]; simp
    have hn1 : ((n : Int) == 0) = false := by rw [beq_eq_false_iff_ne]; omega
    have hn2 : (0 : Int) < (n : Int) := by omega
    generalize kindL (x :: t) = r at *
    clear hv hcell hn
    by_cases h1 : x.toNat < 1
    · have hI : (x.toNat : Int) < 1 := by omega
      rw [if_pos (.inl h1)] at hk
      go_enter Tryd.func40, Tryd.ntmps40
      go_wp2_with fail
      go_ret
      exact ⟨by rw [hk.out]; rfl, rfl⟩
    · have hI : (1 : Int) ≤ (x.toNat : Int) := by omega
      by_cases h3 : 3 < x.toNat
      · have hI3 : (3 : Int) < (x.toNat : Int) := by omega
        rw [if_pos (.inr h3)] at hk
        go_enter Tryd.func40, Tryd.ntmps40
        go_wp2_with fail
        go_ret
        exact ⟨by rw [hk.out]; rfl, rfl⟩
      · have hI3 : (x.toNat : Int) ≤ 3 := by omega
        have hwx : IntKind.i64.wrap (x.toNat : Int) = (x.toNat : Int) := IntWalk.i64_in _ (by omega)
        rw [if_neg (by omega)] at hk
        go_enter Tryd.func40, Tryd.ntmps40
        go_wp2_with fail
        go_ret
        exact ⟨by rw [hk.out]; rfl, rfl⟩
end Go.Proofs.YteefceainlfdfaaDoor
