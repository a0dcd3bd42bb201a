
/- What slices.ContainsFunc answers on bytes, and on texts, for each function that is asked of them. -/
import Derived.Test.YtccejkikphpnfaaGreatDoorOpen
namespace Go.Proofs.YtccejkikphpnfaaGreatDoor
set_option linter.unusedSimpArgs false
set_option linter.unusedVariables false
set_option maxRecDepth 100000
open Go.ChangeShapes Go.WideShapes Go.ChangeAt Go.RowKit

def badB (x : UInt8) : Bool := decide (x.toNat < 33) || decide (126 < x.toNat)
/-- A text as a value. -/
def sv (l : List UInt8) : Value := .string (str l)
def badP (l : List UInt8) : Bool := l == [] || (l == [46] || l == [46, 46])
theorem bad_byte (f : Nat) : True := trivial
theorem any_take_succ {X : Type} (p : X → Bool) (l : List X) (j : Nat) (h : j < l.length) : (l.take (j + 1)).any p = ((l.take j).any p || p l[j]) := by
  rw [List.take_succ_eq_append_getElem h, List.any_append]; simp
theorem any_of_take {X : Type} (p : X → Bool) (l : List X) (j : Nat) (h : (l.take j).any p = true) : l.any p = true := by
  rw [List.any_eq_true] at h ⊢
  obtain ⟨x, hx, hp⟩ := h
  exact ⟨x, List.mem_of_mem_take hx, hp⟩

theorem pRight1_any (x : UInt8) (w : World) : Calls Tryz.prog 153 #[.int .u8 (x.toNat : Int)] w fun e w' => e = .returned (.bool (badB x)) ∧ w = w' := by
  have hx := x.toNat_lt
  by_cases h1 : x.toNat < 33
  · have hb : badB x = true := by simp [badB, h1]
    have HB := Lib.hid hb
    have hi : (x.toNat : Int) < 33 := by omega
    clear hb
    go_enter Tryz.func153, Tryz.ntmps153
    go_wp2_with fail
    go_ret
    exact ⟨by rw [HB.out]; rfl, rfl⟩
  · have hi : decide ((x.toNat : Int) < 33) = false := by rw [decide_eq_false_iff_not]; omega
    have hb : badB x = decide (126 < x.toNat) := by simp [badB, h1]
    have HB := Lib.hid hb
    clear hb
    by_cases h2 : 126 < x.toNat
    · have hi2 : (126 : Int) < (x.toNat : Int) := by omega
      go_enter Tryz.func153, Tryz.ntmps153
      go_wp2_with fail
      go_ret
      exact ⟨by rw [HB.out, decide_eq_true h2]; rfl, rfl⟩
    · have hi2 : decide ((126 : Int) < (x.toNat : Int)) = false := by rw [decide_eq_false_iff_not]; omega
      go_enter Tryz.func153, Tryz.ntmps153
      go_wp2_with fail
      go_ret
      exact ⟨by rw [HB.out, decide_eq_false h2]; rfl, rfl⟩

theorem str_eq (a b : List UInt8) : (str a).toList == (str b).toList ↔ a = b := by
  rw [str_toList2, str_toList2]; simp
theorem pRight2_any (x : List UInt8) (w : World) : Calls Tryz.prog 156 #[sv x] w fun e w' => e = .returned (.bool (badP x)) ∧ w = w' := by
  unfold sv
  have e0 : (x == ([] : List UInt8)) = decide (x = []) := by cases x <;> rfl
  by_cases h1 : x = []
  · subst h1
    go_enter Tryz.func156, Tryz.ntmps156
    go_wp2_with fail
    go_ret
    exact ⟨rfl, rfl⟩
  · by_cases h2 : x = [46]
    · subst h2
      go_enter Tryz.func156, Tryz.ntmps156
      go_wp2_with fail
      go_ret
      exact ⟨rfl, rfl⟩
    · by_cases h3 : x = [46, 46]
      · subst h3
        go_enter Tryz.func156, Tryz.ntmps156
        go_wp2_with fail
        go_ret
        exact ⟨rfl, rfl⟩
      · have b1 : (x == ([] : List UInt8)) = false := by simpa using h1
        have b2 : (x == ([46] : List UInt8)) = false := by simpa using h2
        have b3 : (x == ([46, 46] : List UInt8)) = false := by simpa using h3
        have hb : badP x = false := by unfold badP; rw [b1, b2, b3]; rfl
        have HB := Lib.hid hb
        clear hb e0 h1 h2 h3
        go_enter Tryz.func156, Tryz.ntmps156
        go_wp2_with fail
        go_ret
        exact ⟨by rw [HB.out]; rfl, rfl⟩

set_option maxHeartbeats 1000000 in
theorem ifB_pRight1 (a : Option Addr) (c : Nat) (l : List UInt8) (w : World) (hv : Vw w a l.length c 1 (l.map bv)) :
    Calls Tryz.prog 163 #[.slice a l.length c, .func (.func 153) #[] #[]] w fun e w' => ∃ k : Int, e = .returned (.int .i64 k) ∧ decide (0 ≤ k) = l.any badB ∧ w = w' := by
  have hcap := hv.cap
  have hlc := hv.le
  unfold maxLen at hcap
  have HV := Lib.hid hv
  clear hv
  go_enter Tryz.func163, Tryz.ntmps163
  go_wp2_with fail
  go_loop [8] (fun i => ∃ j : Nat, j ≤ l.length ∧ i = .int .i64 (j : Int) ∧ Hid ((l.take j).any badB = false)) (fun i => l.length - (intOf i).toNat)
  case atStart => exact ⟨0, Nat.zero_le _, rfl, (by show _ = _; simp)⟩
  case round =>
    obtain ⟨j, hj, rfl, hA⟩ := hrel
    by_cases hlt : j < l.length
    · have hI : (j : Int) < (l.length : Int) := by omega
      obtain ⟨b, o, hb, hcell⟩ := HV.out.at (by omega) (by decide)
      subst hb
      have q := hcell j (bv l[j]) (by simp [hlt])
      have hs := any_take_succ badB l j hlt
      rw [hA.out, Bool.false_or] at hs
      have hall := any_of_take badB l (j + 1)
      rw [hs] at hall
      generalize l[j] = x at *
      unfold bv at q
      have HS := Lib.hid hs
      have HALL := Lib.hid hall
      clear hcell hs hall hA
      cases hp : badB x with
      | true =>
        have hany := HALL.out hp
        have HANY := Lib.hid hany
        have HP := Lib.hid hp
        clear hany hp
        go_wp2_with fail
        refine (pRight1_any x w).mono ?_
        rintro e w' ⟨rfl, rfl⟩
        rw [HP.out]
        go_wp2_with fail
        go_ret
        exact ⟨(j : Int), rfl, by rw [HANY.out]; exact decide_eq_true (by omega), rfl⟩
      | false =>
        have HP := Lib.hid hp
        clear hp
        go_wp2_with fail
        refine (pRight1_any x w).mono ?_
        rintro e w' ⟨rfl, rfl⟩
        rw [HP.out]
        go_wp2_with fail
        go_round
        case rel => exact ⟨j + 1, by omega, by first | rfl | go_num, (by show _ = _; rw [HS.out, HP.out])⟩
        case measure => simp [intOf]; omega
    · obtain rfl : j = l.length := by omega
      have h0 := hA.out
      rw [List.take_length] at h0
      have H0 := Lib.hid h0
      clear h0 hA
      go_wp2_with fail
      go_ret
      exact ⟨-1, rfl, by rw [H0.out]; decide, rfl⟩
theorem cfB_pRight1 (a : Option Addr) (c : Nat) (l : List UInt8) (w : World) (hv : Vw w a l.length c 1 (l.map bv)) :
    Calls Tryz.prog 152 #[.slice a l.length c, .func (.func 153) #[] #[]] w fun e w' => e = .returned (.bool (l.any badB)) ∧ w = w' := by
  have h := ifB_pRight1 a c l w hv
  clear hv
  go_enter Tryz.func152, Tryz.ntmps152
  go_wp2_with fail
  refine h.mono ?_
  rintro e w' ⟨k, rfl, hk, rfl⟩
  have HK := Lib.hid hk
  clear hk h
  go_wp2_with fail
  go_ret
  exact ⟨by rw [← HK.out]; rfl, rfl⟩

set_option maxHeartbeats 1000000 in
theorem ifS_pRight2 (a : Option Addr) (c : Nat) (l : List (List UInt8)) (w : World) (hv : Vw w a l.length c 1 (l.map sv)) :
    Calls Tryz.prog 164 #[.slice a l.length c, .func (.func 156) #[] #[]] w fun e w' => ∃ k : Int, e = .returned (.int .i64 k) ∧ decide (0 ≤ k) = l.any badP ∧ w = w' := by
  have hcap := hv.cap
  have hlc := hv.le
  unfold maxLen at hcap
  have HV := Lib.hid hv
  clear hv
  go_enter Tryz.func164, Tryz.ntmps164
  go_wp2_with fail
  go_loop [8] (fun i => ∃ j : Nat, j ≤ l.length ∧ i = .int .i64 (j : Int) ∧ Hid ((l.take j).any badP = false)) (fun i => l.length - (intOf i).toNat)
  case atStart => exact ⟨0, Nat.zero_le _, rfl, (by show _ = _; simp)⟩
  case round =>
    obtain ⟨j, hj, rfl, hA⟩ := hrel
    by_cases hlt : j < l.length
    · have hI : (j : Int) < (l.length : Int) := by omega
      obtain ⟨b, o, hb, hcell⟩ := HV.out.at (by omega) (by decide)
      subst hb
      have q := hcell j (sv l[j]) (by simp [hlt])
      have hs := any_take_succ badP l j hlt
      rw [hA.out, Bool.false_or] at hs
      have hall := any_of_take badP l (j + 1)
      rw [hs] at hall
      generalize l[j] = x at *
      unfold sv at q
      have HS := Lib.hid hs
      have HALL := Lib.hid hall
      clear hcell hs hall hA
      cases hp : badP x with
      | true =>
        have hany := HALL.out hp
        have HANY := Lib.hid hany
        have HP := Lib.hid hp
        clear hany hp
        go_wp2_with fail
        refine (pRight2_any x w).mono ?_
        rintro e w' ⟨rfl, rfl⟩
        rw [HP.out]
        go_wp2_with fail
        go_ret
        exact ⟨(j : Int), rfl, by rw [HANY.out]; exact decide_eq_true (by omega), rfl⟩
      | false =>
        have HP := Lib.hid hp
        clear hp
        go_wp2_with fail
        refine (pRight2_any x w).mono ?_
        rintro e w' ⟨rfl, rfl⟩
        rw [HP.out]
        go_wp2_with fail
        go_round
        case rel => exact ⟨j + 1, by omega, by first | rfl | go_num, (by show _ = _; rw [HS.out, HP.out])⟩
        case measure => simp [intOf]; omega
    · obtain rfl : j = l.length := by omega
      have h0 := hA.out
      rw [List.take_length] at h0
      have H0 := Lib.hid h0
      clear h0 hA
      go_wp2_with fail
      go_ret
      exact ⟨-1, rfl, by rw [H0.out]; decide, rfl⟩
theorem cfS_pRight2 (a : Option Addr) (c : Nat) (l : List (List UInt8)) (w : World) (hv : Vw w a l.length c 1 (l.map sv)) :
    Calls Tryz.prog 154 #[.slice a l.length c, .func (.func 156) #[] #[]] w fun e w' => e = .returned (.bool (l.any badP)) ∧ w = w' := by
  have h := ifS_pRight2 a c l w hv
  clear hv
  go_enter Tryz.func154, Tryz.ntmps154
  go_wp2_with fail
  refine h.mono ?_
  rintro e w' ⟨k, rfl, hk, rfl⟩
  have HK := Lib.hid hk
  clear hk h
  go_wp2_with fail
  go_ret
  exact ⟨by rw [← HK.out]; rfl, rfl⟩

end Go.Proofs.YtccejkikphpnfaaGreatDoor
