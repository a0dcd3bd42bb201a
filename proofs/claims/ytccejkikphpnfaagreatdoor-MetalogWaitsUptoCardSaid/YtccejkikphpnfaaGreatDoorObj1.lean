
/- path.Clash, and the reference's. -/
import Derived.Test.YtccejkikphpnfaaGreatDoorPath6
namespace Go.Proofs.YtccejkikphpnfaaGreatDoor
set_option linter.unusedSimpArgs false
set_option linter.unusedVariables false
set_option maxRecDepth 100000
open Go.ChangeShapes Go.WideShapes Go.ChangeAt Go.RowKit

def hpL (s q : List UInt8) : Bool := decide (q.length ≤ s.length) && (s.take q.length == q)
def withinL (p d : List UInt8) : Bool := hpL p (d ++ [47])
def clashL (a b : List UInt8) : Bool := a == b || withinL a b || withinL b a
def leS (a b : List UInt8) : Bool := Op.bytesLess a b || a == b
theorem str_slash (l : List UInt8) : str l ++ ⟨#[47]⟩ = str (l ++ [47]) := by
  have e : (⟨#[47]⟩ : ByteArray) = str [47] := rfl
  rw [e]
  apply ByteArray.ext
  rw [ByteArray.data_append]
  simp only [str, List.append_toArray]
theorem leq_str (a b : List UInt8) (w : World) : (binOp .leq 9 (.string (str a)) (.string (str b))).run Tryz.prog w = .ok (.bool (leS a b)) w := by
  simp [binOp, Op.stringOp, leS, str_toList2]

theorem within_hit (p d : List UInt8) (h : d.length < p.length) : withinL p d = ((p.take d.length == d) && (p[d.length] == 47)) := by
  unfold withinL hpL
  rw [List.length_append, List.length_singleton, decide_eq_true (by omega), Bool.true_and, List.take_succ_eq_append_getElem h, Bool.eq_iff_iff]
  simp only [beq_iff_eq, Bool.and_eq_true]
  constructor
  · intro he
    have := List.append_inj he (by rw [List.length_take]; omega)
    exact ⟨this.1, by simpa using this.2⟩
  · rintro ⟨h1, h2⟩
    rw [h1, h2]
theorem within_short (p d : List UInt8) (h : ¬ d.length < p.length) : withinL p d = false := by
  unfold withinL hpL
  rw [List.length_append, List.length_singleton, decide_eq_false (by omega)]; rfl
theorem r11Within_any (p d : List UInt8) (w : World) (hp : p.length ≤ 1000000) (hd : d.length ≤ 100000) : Calls Tryz.prog 158 #[sv p, sv d] w fun e w' => e = .returned (.bool (withinL p d)) ∧ w = w' := by
  have hs1 := str_size p
  have hs2 := str_size d
  unfold sv
  by_cases h : d.length < p.length
  · have hI : (d.length : Int) < (p.length : Int) := by omega
    have htk := fun w => str_take p d.length (by omega) w
    have hix := fun w => str_at p d.length h w
    have hE := within_hit p d h
    have hb : (((p[d.length].toNat : Nat) : Int) == 47) = (p[d.length] == 47) := by
      rw [Bool.eq_iff_iff]; simp [← UInt8.toNat_inj]; omega
    generalize p[d.length] = x at *
    generalize hc : (p.take d.length == d) = c at *
    have HE := Lib.hid hE
    clear hE
    cases c
    · go_enter Tryz.func158, Tryz.ntmps158
      go_wp2_with fail
      go_ret
      exact ⟨by rw [HE.out]; rfl, rfl⟩
    · go_enter Tryz.func158, Tryz.ntmps158
      go_wp2_with fail
      go_ret
      exact ⟨by rw [HE.out]; rfl, rfl⟩
  · have hI : ¬ (d.length : Int) < (p.length : Int) := by omega
    have hE := Lib.hid (within_short p d h)
    go_enter Tryz.func158, Tryz.ntmps158
    go_wp2_with fail
    go_ret
    exact ⟨by rw [hE.out]; rfl, rfl⟩

set_option maxHeartbeats 1000000 in
theorem r11Clash_any (a b : List UInt8) (w : World) (ha : a.length ≤ 100000) (hb : b.length ≤ 100000) : Calls Tryz.prog 128 #[sv a, sv b] w fun e w' => e = .returned (.bool (clashL a b)) ∧ w = w' := by
  have h1 := r11Within_any a b w (by omega) hb
  have h2 := r11Within_any b a w (by omega) ha
  have hE : Hid (clashL a b = (a == b || withinL a b || withinL b a)) := Lib.hid rfl
  unfold sv at h1 h2 ⊢
  cases hc : (a == b)
  · cases hx : withinL a b
    · rw [hx] at h1
      rw [hc, hx] at hE
      have HX := Lib.hid hx
      clear hx
      go_enter Tryz.func128, Tryz.ntmps128
      go_wp2_with fail
      refine h1.mono ?_
      rintro e w' ⟨rfl, rfl⟩
      go_wp2_with fail
      refine h2.mono ?_
      rintro e w' ⟨rfl, rfl⟩
      go_wp2_with fail
      go_ret
      exact ⟨by rw [hE.out]; rfl, rfl⟩
    · rw [hx] at h1
      rw [hc, hx] at hE
      have HX := Lib.hid hx
      clear hx
      go_enter Tryz.func128, Tryz.ntmps128
      go_wp2_with fail
      refine h1.mono ?_
      rintro e w' ⟨rfl, rfl⟩
      go_wp2_with fail
      go_ret
      exact ⟨by rw [hE.out]; rfl, rfl⟩
  · rw [hc] at hE
    go_enter Tryz.func128, Tryz.ntmps128
    go_wp2_with fail
    go_ret
    exact ⟨by rw [hE.out]; rfl, rfl⟩
end Go.Proofs.YtccejkikphpnfaaGreatDoor
