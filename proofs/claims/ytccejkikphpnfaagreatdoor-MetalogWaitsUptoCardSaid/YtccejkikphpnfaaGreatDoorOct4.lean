
/- The walks of octets: texts and truths that are read; the document's writer and reader (rickref01). -/
import Derived.Test.YtccejkikphpnfaaGreatDoorOct3
namespace Go.Proofs.YtccejkikphpnfaaGreatDoor
set_option linter.unusedSimpArgs false
set_option linter.unusedVariables false
open Go.ChangeShapes Go.WideShapes Go.ChangeAt Go.RowKit

theorem takeS_len (n : Nat) (s : RS) : (takeS n s).2.l.length ≤ s.l.length := by
  unfold takeS; split
  · exact Nat.le_refl _
  · split <;> simp
/-- What Text reads, and what it leaves. -/
def textS (s : RS) : List UInt8 × RS :=
  if (takeS 4 s).2.e ≠ 0 then ([], (takeS 4 s).2) else if intV s < 0 then ([], ⟨[], 5⟩) else takeS (intV s).toNat (takeS 4 s).2
theorem intV_bd (s : RS) : -1 ≤ intV s ∧ intV s < 4294967296 := by
  unfold intV
  split
  · rename_i h
    have := leN_lt (s.l.take 4)
    have e : (s.l.take 4).length = 4 := by simp; omega
    rw [e] at this
    omega
  · omega
theorem rtext_nil (w : World) : Calls Tryz.prog 136 #[.pointer none] w fun e w' => e = .returned (.string (str [])) ∧ w = w' := by
  go_enter Tryz.func136, Tryz.ntmps136
  go_wp2_with (first | (go_at_call 98; refine (rint_nil _).mono ?_; rintro e w' ⟨rfl, rfl⟩) | (go_at_call 140; refine (err_nil _).mono ?_; rintro e w' ⟨rfl, rfl⟩))
  go_ret
  exact ⟨rfl, rfl⟩
theorem rtext_any (br : Nat) (F : Option Nat) (s : RS) (w : World) (hr : Rd w br F s.l s.e) (hl : s.l.length ≤ 100000000) :
    Calls Tryz.prog 136 #[.pointer (some ⟨br, 0, none⟩)] w (ReadN w br F (textS s).2 (.string (str (textS s).1))) := by
  have hlen := takeS_len 4 s
  go_enter Tryz.func136, Tryz.ntmps136
  go_wp2_with fail
  refine (rint_any br F s w hr hl).mono ?_
  rintro e w1 ⟨rfl, hR, hU⟩
  have hd1 : textS s = if (takeS 4 s).2.e ≠ 0 then ([], (takeS 4 s).2) else if intV s < 0 then ([], ⟨[], 5⟩) else takeS (intV s).toNat (takeS 4 s).2 := rfl
  have hbd := intV_bd s
  generalize (takeS 4 s).2 = s1 at *
  generalize intV s = n at *
  have hbd1 := hbd.1
  have hbd2 : n ≤ 4294967296 := by omega
  clear hbd
  by_cases he : s1.e = 0
  · have hb : (s1.e != 0) = false := by simp [he]
    by_cases hn : n < 0
    · have hd : textS s = ([], ⟨[], 5⟩) := by rw [hd1, if_neg (by simp [he]), if_pos hn]
      have HD := Lib.hid hd
      clear hd hd1 he
      go_wp2_with fail
      refine (err_any br F s1.l s1.e w1 hR).mono ?_
      rintro e w' ⟨rfl, rfl⟩
      go_wp2_with fail
      refine (wrong_any br F s1.l s1.e 5 w1 hR).mono ?_
      rintro e w2 ⟨rfl, hR2, hU2⟩
      go_wp2_with fail
      go_ret
      unfold ReadN
      rw [HD.out]
      exact ⟨rfl, hR2, hU.trans hU2⟩
    · have hd : textS s = takeS n.toNat s1 := by rw [hd1, if_neg (by simp [he]), if_neg hn]
      have HD := Lib.hid hd
      clear hd hd1 he
      obtain ⟨k, rfl⟩ := Int.eq_ofNat_of_zero_le (by omega : 0 ≤ n)
      go_wp2_with fail
      refine (err_any br F s1.l s1.e w1 hR).mono ?_
      rintro e w' ⟨rfl, rfl⟩
      go_wp2_with fail
      refine (take_any br F s1 k w1 hR (by omega)).mono ?_
      rintro e w2 ⟨a, c, rfl, hv, hb2, hz, hR2, hU2⟩
      have hconv := hv.conv
      generalize hT : (takeS k s1).1 = t at *
      have HT := Lib.hid hT
      clear hT
      go_wp2_with fail
      go_ret
      unfold ReadN
      rw [HD.out]
      simp only [Int.toNat_natCast]
      rw [HT.out]
      exact ⟨rfl, hR2, hU.trans hU2⟩
  · have hb : (s1.e != 0) = true := by simp [he]
    have hd : textS s = ([], s1) := by rw [hd1, if_pos he]
    have HD := Lib.hid hd
    clear hd hd1 he
    go_wp2_with fail
    refine (err_any br F s1.l s1.e w1 hR).mono ?_
    rintro e w' ⟨rfl, rfl⟩
    go_wp2_with fail
    go_ret
    unfold ReadN
    rw [HD.out]
    exact ⟨rfl, hR, hU⟩

/-- What Bool reads, and what it leaves. -/
def boolS (s : RS) : Bool × RS :=
  if (takeS 1 s).2.e = 0 ∧ 1 < leN (takeS 1 s).1 then (false, ⟨[], 5⟩) else (leN (takeS 1 s).1 == 1, (takeS 1 s).2)
theorem rbool_nil (w : World) : Calls Tryz.prog 99 #[.pointer none] w fun e w' => e = .returned (.bool false) ∧ w = w' := by
  go_enter Tryz.func99, Tryz.ntmps99
  go_wp2_with (first | (go_at_call 94; refine (rnum_nil _ _).mono ?_; rintro e w' ⟨rfl, rfl⟩) | (go_at_call 140; refine (err_nil _).mono ?_; rintro e w' ⟨rfl, rfl⟩))
  go_ret
  exact ⟨rfl, rfl⟩
theorem rbool_any (br : Nat) (F : Option Nat) (s : RS) (w : World) (hr : Rd w br F s.l s.e) (hl : s.l.length ≤ 100000000) :
    Calls Tryz.prog 99 #[.pointer (some ⟨br, 0, none⟩)] w (ReadN w br F (boolS s).2 (.bool (boolS s).1)) := by
  go_enter Tryz.func99, Tryz.ntmps99
  go_wp2_with fail
  refine (rnum_any br F s 1 w hr hl).mono ?_
  have h1 : heldN 1 = 1 := rfl
  rw [h1]
  rintro e w1 ⟨rfl, hR, hU⟩
  have hd1 : boolS s = if (takeS 1 s).2.e = 0 ∧ 1 < leN (takeS 1 s).1 then (false, ⟨[], 5⟩) else (leN (takeS 1 s).1 == 1, (takeS 1 s).2) := rfl
  generalize (takeS 1 s).2 = s1 at *
  generalize leN (takeS 1 s).1 = n at *
  by_cases he : s1.e = 0
  · have hb : (s1.e == 0) = true := by simp [he]
    by_cases hn : 1 < n
    · have hn1 : (1 : Int) < (n : Int) := by omega
      have hd : boolS s = (false, ⟨[], 5⟩) := by rw [hd1, if_pos ⟨he, hn⟩]
      have HD := Lib.hid hd
      clear hd hd1 he h1
      go_wp2_with fail
      refine (err_any br F s1.l s1.e w1 hR).mono ?_
      rintro e w' ⟨rfl, rfl⟩
      go_wp2_with fail
      refine (wrong_any br F s1.l s1.e 5 w1 hR).mono ?_
      rintro e w2 ⟨rfl, hR2, hU2⟩
      go_wp2_with fail
      go_ret
      unfold ReadN
      rw [HD.out]
      exact ⟨rfl, hR2, hU.trans hU2⟩
    · have hn1 : ¬ (1 : Int) < (n : Int) := by omega
      have hd : boolS s = (n == 1, s1) := by rw [hd1, if_neg (fun h => hn h.2)]
      have HD := Lib.hid hd
      have hq : ((n : Int) == 1) = (n == 1) := by rw [Bool.eq_iff_iff]; simp; omega
      have HQ := Lib.hid hq
      clear hd hd1 he h1 hq
      go_wp2_with fail
      refine (err_any br F s1.l s1.e w1 hR).mono ?_
      rintro e w' ⟨rfl, rfl⟩
      go_wp2_with fail
      go_ret
      unfold ReadN
      rw [HD.out, ← HQ.out]
      exact ⟨rfl, hR, hU⟩
  · have hb : (s1.e == 0) = false := by simp [he]
    have hd : boolS s = (n == 1, s1) := by rw [hd1, if_neg (fun h => he h.1)]
    have HD := Lib.hid hd
    have hq : ((n : Int) == 1) = (n == 1) := by rw [Bool.eq_iff_iff]; simp; omega
    have HQ := Lib.hid hq
    clear hd hd1 he h1 hq
    go_wp2_with fail
    refine (err_any br F s1.l s1.e w1 hR).mono ?_
    rintro e w' ⟨rfl, rfl⟩
    go_wp2_with fail
    go_ret
    unfold ReadN
    rw [HD.out, ← HQ.out]
    exact ⟨rfl, hR, hU⟩
end Go.Proofs.YtccejkikphpnfaaGreatDoor
