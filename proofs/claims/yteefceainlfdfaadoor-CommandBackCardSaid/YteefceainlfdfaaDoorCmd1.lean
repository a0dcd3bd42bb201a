
/- A command plainly; what slices.ContainsFunc answers on changes, on paths, on a name. -/
import Derived.Test.YteefceainlfdfaaDoorPath4
namespace Go.Proofs.YteefceainlfdfaaDoor
set_option linter.unusedSimpArgs false
set_option linter.unusedVariables false
set_option maxRecDepth 100000
open Go.ChangeShapes Go.WideShapes Go.ChangeAt Go.RowKit

/-- A change. -/
structure Chg where
  path : List UInt8
  del : Bool
  exec : Bool
  text : List UInt8
def chV (x : Chg) : List Value := [sv x.path, .bool x.del, .bool x.exec, sv x.text]
theorem chV_get (l : List Chg) (i r : Nat) (hi : i < l.length) (hr : r < 4) : (l.flatMap chV)[i * 4 + r]? = (chV l[i])[r]? := by
  rw [flatMap_get chV 4 (fun _ => rfl) l i r hr, List.getElem?_eq_getElem hi]; rfl
def longT (x : Chg) : Bool := decide (20000 < x.text.length)
def badCh (x : Chg) : Bool := !pathL x.path
def badPa (x : List UInt8) : Bool := !pathL x

theorem cName1_any (x : UInt8) (w : World) : Calls Tryd.prog 91 #[.int .u8 (x.toNat : Int)] w fun e w' => e = .returned (.bool (badB x)) ∧ w = w' := by
  have hx := x.toNat_lt
  by_cases h1 : x.toNat < 33
  · have hb : badB x = true := by simp [badB, h1]
    have HB := Lib.hid hb
    have hi : (x.toNat : Int) < 33 := by omega
    clear hb
    go_enter Tryd.func91, Tryd.ntmps91
    go_wp2_with fail
    go_ret
    exact ⟨by rw [HB.out]; rfl, rfl⟩
  · have hi : decide ((x.toNat : Int) < 33) = false := by rw [decide_eq_false_iff_not]; omega
    have hb : badB x = decide (126 < x.toNat) := by simp [badB, h1]
    have HB := Lib.hid hb
    clear hb
    by_cases h2 : 126 < x.toNat
    · have hi2 : (126 : Int) < (x.toNat : Int) := by omega
      go_enter Tryd.func91, Tryd.ntmps91
      go_wp2_with fail
      go_ret
      exact ⟨by rw [HB.out, decide_eq_true h2]; rfl, rfl⟩
    · have hi2 : decide ((126 : Int) < (x.toNat : Int)) = false := by rw [decide_eq_false_iff_not]; omega
      go_enter Tryd.func91, Tryd.ntmps91
      go_wp2_with fail
      go_ret
      exact ⟨by rw [HB.out, decide_eq_false h2]; rfl, rfl⟩

set_option maxHeartbeats 1000000 in
theorem ifB_cName1 (a : Option Addr) (c : Nat) (l : List UInt8) (w : World) (hv : Vw w a l.length c 1 (l.map bv)) :
    Calls Tryd.prog 112 #[.slice a l.length c, .func (.func 91) #[] #[]] w fun e w' => ∃ k : Int, e = .returned (.int .i64 k) ∧ decide (0 ≤ k) = l.any badB ∧ w = w' := by
  have hcap := hv.cap
  have hlc := hv.le
  unfold maxLen at hcap
  have HV := Lib.hid hv
  clear hv
  go_enter Tryd.func112, Tryd.ntmps112
  go_wp2_with fail
  go_loop [8] (fun i => ∃ j : Nat, j ≤ l.length ∧ i = .int .i64 (j : Int) ∧ Hid ((l.take j).any badB = false)) (fun i => l.length - (intOf i).toNat)
  case atStart => exact ⟨0, Nat.zero_le _, rfl, (by show _ = _; simp)⟩
  case round =>
    obtain ⟨j, hj, rfl, hA⟩ := hrel
    by_cases hlt : j < l.length
    · have hI : (j : Int) < (l.length : Int) := by omega
      obtain ⟨b, o, hb, hcell⟩ := HV.out.at (by omega) (by decide)
      subst hb
      have q := hcell j (bv l[j]) (by simp [hlt])
      have hs := any_take_succ badB l j hlt
      rw [hA.out, Bool.false_or] at hs
      have hall := any_of_take badB l (j + 1)
      rw [hs] at hall
      generalize l[j] = x at *
      unfold bv at q
      have HS := Lib.hid hs
      have HALL := Lib.hid hall
      clear hcell hs hall hA
      cases hp : badB x with
      | true =>
        have hany := HALL.out hp
        have HANY := Lib.hid hany
        have HP := Lib.hid hp
        clear hany hp
        go_wp2_with fail
        refine (cName1_any x w).mono ?_
        rintro e w' ⟨rfl, rfl⟩
        rw [HP.out]
        go_wp2_with fail
        go_ret
        exact ⟨(j : Int), rfl, by rw [HANY.out]; exact decide_eq_true (by omega), rfl⟩
      | false =>
        have HP := Lib.hid hp
        clear hp
        go_wp2_with fail
        refine (cName1_any x w).mono ?_
        rintro e w' ⟨rfl, rfl⟩
        rw [HP.out]
        go_wp2_with fail
        go_round
        case rel => exact ⟨j + 1, by omega, by first | rfl | go_num, (by show _ = _; rw [HS.out, HP.out])⟩
        case measure => simp [intOf]; omega
    · obtain rfl : j = l.length := by omega
      have h0 := hA.out
      rw [List.take_length] at h0
      have H0 := Lib.hid h0
      clear h0 hA
      go_wp2_with fail
      go_ret
      exact ⟨-1, rfl, by rw [H0.out]; decide, rfl⟩
theorem cfB_cName1 (a : Option Addr) (c : Nat) (l : List UInt8) (w : World) (hv : Vw w a l.length c 1 (l.map bv)) :
    Calls Tryd.prog 90 #[.slice a l.length c, .func (.func 91) #[] #[]] w fun e w' => e = .returned (.bool (l.any badB)) ∧ w = w' := by
  have h := ifB_cName1 a c l w hv
  clear hv
  go_enter Tryd.func90, Tryd.ntmps90
  go_wp2_with fail
  refine h.mono ?_
  rintro e w' ⟨k, rfl, hk, rfl⟩
  have HK := Lib.hid hk
  clear hk h
  go_wp2_with fail
  go_ret
  exact ⟨by rw [← HK.out]; rfl, rfl⟩

theorem cPaths2_any (x : List UInt8) (w : World) : Calls Tryd.prog 89 #[sv x] w fun e w' => e = .returned (.bool (badPa x)) ∧ Upd (fun _ => False) w w' := by
  have h := pRight_any x w
  unfold badPa
  unfold sv at h ⊢
  go_enter Tryd.func89, Tryd.ntmps89
  go_wp2_with fail
  refine h.mono ?_
  rintro e w' ⟨rfl, hU⟩
  clear h
  go_wp2_with fail
  go_ret
  exact ⟨rfl, hU⟩
theorem cPaths1_any (x : Chg) (w : World) : Calls Tryd.prog 86 #[.agg #[sv x.path, .bool x.del, .bool x.exec, sv x.text]] w fun e w' => e = .returned (.bool (badCh x)) ∧ Upd (fun _ => False) w w' := by
  unfold badCh
  obtain ⟨p, d, e, t⟩ := x
  dsimp only
  have hU1 := Upd.alloc (fun _ => False) w (.cells #[sv p, .bool d, .bool e, sv t] 30)
  have h := pRight_any p (w.alloc (.cells #[sv p, .bool d, .bool e, sv t] 30))
  unfold sv at h hU1 ⊢
  go_enter Tryd.func86, Tryd.ntmps86
  go_wp2_with fail
  refine h.mono ?_
  rintro e w' ⟨rfl, hU⟩
  clear h
  go_wp2_with fail
  go_ret
  exact ⟨rfl, hU1.trans hU⟩
theorem cLong1_any (x : Chg) (w : World) : Calls Tryd.prog 85 #[.agg #[sv x.path, .bool x.del, .bool x.exec, sv x.text]] w fun e w' => e = .returned (.bool (longT x)) ∧ Upd (fun _ => False) w w' := by
  unfold longT
  obtain ⟨p, d, e, t⟩ := x
  dsimp only
  have hU1 := Upd.alloc (fun _ => False) w (.cells #[sv p, .bool d, .bool e, sv t] 30)
  have hsz := str_size t
  have hB : decide ((20000 : Int) < (t.length : Int)) = decide (20000 < t.length) := by congr 1; apply propext; omega
  unfold sv at hU1 ⊢
  go_enter Tryd.func85, Tryd.ntmps85
  go_wp2_with fail
  go_ret
  exact ⟨rfl, hU1⟩

end Go.Proofs.YteefceainlfdfaaDoor
