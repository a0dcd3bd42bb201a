
/- path.Clash, and the reference's. -/
import Derived.Test.YteefceainlfdfaaDoorPath6
namespace Go.Proofs.YteefceainlfdfaaDoor
set_option linter.unusedSimpArgs false
set_option linter.unusedVariables false
set_option maxRecDepth 100000
open Go.ChangeShapes Go.WideShapes Go.ChangeAt Go.RowKit

def hpL (s q : List UInt8) : Bool := decide (q.length ≤ s.length) && (s.take q.length == q)
def withinL (p d : List UInt8) : Bool := hpL p (d ++ [47])
def clashL (a b : List UInt8) : Bool := a == b || withinL a b || withinL b a
def leS (a b : List UInt8) : Bool := Op.bytesLess a b || a == b
theorem str_slash (l : List UInt8) : str l ++ ⟨#[47]⟩ = str (l ++ [47]) := by
  have e : (⟨#[47]⟩ : ByteArray) = str [47] := rfl
  rw [e]
  apply ByteArray.ext
  rw [ByteArray.data_append]
  simp only [str, List.append_toArray]
theorem leq_str (a b : List UInt8) (w : World) : (binOp .leq 9 (.string (str a)) (.string (str b))).run Tryd.prog w = .ok (.bool (leS a b)) w := by
  simp [binOp, Op.stringOp, leS, str_toList2]

theorem slHas_any (s q : List UInt8) (w : World) (hs : s.length ≤ 1000000) (hq : q.length ≤ 1000000) : Calls Tryd.prog 119 #[sv s, sv q] w fun e w' => e = .returned (.bool (hpL s q)) ∧ w = w' := by
  have hs1 := str_size s
  have hs2 := str_size q
  unfold sv
  by_cases h : q.length ≤ s.length
  · have hI : (q.length : Int) ≤ (s.length : Int) := by omega
    have htk := fun w => str_take s q.length h w
    have hE : Hid (hpL s q = (s.take q.length == q)) := by show _ = _; unfold hpL; rw [decide_eq_true h]; rfl
    go_enter Tryd.func119, Tryd.ntmps119
    go_wp2_with fail
    go_ret
    exact ⟨by rw [hE.out]; rfl, rfl⟩
  · have hI : ¬ (q.length : Int) ≤ (s.length : Int) := by omega
    have hE : Hid (hpL s q = false) := by show _ = _; unfold hpL; rw [decide_eq_false h]; rfl
    go_enter Tryd.func119, Tryd.ntmps119
    go_wp2_with fail
    go_ret
    exact ⟨by rw [hE.out]; rfl, rfl⟩
theorem sHas_any (s q : List UInt8) (w : World) (hs : s.length ≤ 1000000) (hq : q.length ≤ 1000000) : Calls Tryd.prog 117 #[sv s, sv q] w fun e w' => e = .returned (.bool (hpL s q)) ∧ w = w' := by
  have h := slHas_any s q w hs hq
  unfold sv at h ⊢
  go_enter Tryd.func117, Tryd.ntmps117
  go_wp2_with fail
  refine h.mono ?_
  rintro e w' ⟨rfl, rfl⟩
  go_wp2_with fail
  go_ret
  exact ⟨rfl, rfl⟩
theorem pWithin_any (p d : List UInt8) (w : World) (hp : p.length ≤ 1000000) (hd : d.length ≤ 100000) : Calls Tryd.prog 114 #[sv p, sv d] w fun e w' => e = .returned (.bool (withinL p d)) ∧ w = w' := by
  have h := sHas_any p (d ++ [47]) w hp (by simp; omega)
  have hsz : ¬ 9223372036854775807 < (str d).size + 1 := by rw [str_size]; omega
  have hadd := str_slash d
  have hE : Hid (withinL p d = hpL p (d ++ [47])) := rfl
  unfold sv at h ⊢
  go_enter Tryd.func114, Tryd.ntmps114
  go_wp2_with fail
  refine h.mono ?_
  rintro e w' ⟨rfl, rfl⟩
  go_wp2_with fail
  go_ret
  exact ⟨by rw [hE.out]; rfl, rfl⟩
theorem within_hit (p d : List UInt8) (h : d.length < p.length) : withinL p d = ((p.take d.length == d) && (p[d.length] == 47)) := by
  unfold withinL hpL
  rw [List.length_append, List.length_singleton, decide_eq_true (by omega), Bool.true_and, List.take_succ_eq_append_getElem h, Bool.eq_iff_iff]
  simp only [beq_iff_eq, Bool.and_eq_true]
  constructor
  · intro he
    have := List.append_inj he (by rw [List.length_take]; omega)
    exact ⟨this.1, by simpa using this.2⟩
  · rintro ⟨h1, h2⟩
    rw [h1, h2]
theorem within_short (p d : List UInt8) (h : ¬ d.length < p.length) : withinL p d = false := by
  unfold withinL hpL
  rw [List.length_append, List.length_singleton, decide_eq_false (by omega)]; rfl
theorem r11Within_any (p d : List UInt8) (w : World) (hp : p.length ≤ 1000000) (hd : d.length ≤ 100000) : Calls Tryd.prog 115 #[sv p, sv d] w fun e w' => e = .returned (.bool (withinL p d)) ∧ w = w' := by
  have hs1 := str_size p
  have hs2 := str_size d
  unfold sv
  by_cases h : d.length < p.length
  · have hI : (d.length : Int) < (p.length : Int) := by omega
    have htk := fun w => str_take p d.length (by omega) w
    have hix := fun w => str_at p d.length h w
    have hE := within_hit p d h
    have hb : (((p[d.length].toNat : Nat) : Int) == 47) = (p[d.length] == 47) := by
      rw [Bool.eq_iff_iff]; simp [← UInt8.toNat_inj]; omega
    generalize p[d.length] = x at *
    generalize hc : (p.take d.length == d) = c at *
    have HE := Lib.hid hE
    clear hE
    cases c
    · go_enter Tryd.func115, Tryd.ntmps115
      go_wp2_with fail
      go_ret
      exact ⟨by rw [HE.out]; rfl, rfl⟩
    · go_enter Tryd.func115, Tryd.ntmps115
      go_wp2_with fail
      go_ret
      exact ⟨by rw [HE.out]; rfl, rfl⟩
  · have hI : ¬ (d.length : Int) < (p.length : Int) := by omega
    have hE := Lib.hid (within_short p d h)
    go_enter Tryd.func115, Tryd.ntmps115
    go_wp2_with fail
    go_ret
    exact ⟨by rw [hE.out]; rfl, rfl⟩

set_option maxHeartbeats 1000000 in
theorem pClash_any (a b : List UInt8) (w : World) (ha : a.length ≤ 100000) (hb : b.length ≤ 100000) : Calls Tryd.prog 94 #[sv a, sv b] w fun e w' => e = .returned (.bool (clashL a b)) ∧ w = w' := by
  have h1 := pWithin_any a b w (by omega) hb
  have h2 := pWithin_any b a w (by omega) ha
  have hE : Hid (clashL a b = (a == b || withinL a b || withinL b a)) := Lib.hid rfl
  unfold sv at h1 h2 ⊢
  cases hc : (a == b)
  · cases hx : withinL a b
    · rw [hx] at h1
      rw [hc, hx] at hE
      have HX := Lib.hid hx
      clear hx
      go_enter Tryd.func94, Tryd.ntmps94
      go_wp2_with fail
      refine h1.mono ?_
      rintro e w' ⟨rfl, rfl⟩
      go_wp2_with fail
      refine h2.mono ?_
      rintro e w' ⟨rfl, rfl⟩
      go_wp2_with fail
      go_ret
      exact ⟨by rw [hE.out]; rfl, rfl⟩
    · rw [hx] at h1
      rw [hc, hx] at hE
      have HX := Lib.hid hx
      clear hx
      go_enter Tryd.func94, Tryd.ntmps94
      go_wp2_with fail
      refine h1.mono ?_
      rintro e w' ⟨rfl, rfl⟩
      go_wp2_with fail
      go_ret
      exact ⟨by rw [hE.out]; rfl, rfl⟩
  · rw [hc] at hE
    go_enter Tryd.func94, Tryd.ntmps94
    go_wp2_with fail
    go_ret
    exact ⟨by rw [hE.out]; rfl, rfl⟩
set_option maxHeartbeats 1000000 in
theorem r11Clash_any (a b : List UInt8) (w : World) (ha : a.length ≤ 100000) (hb : b.length ≤ 100000) : Calls Tryd.prog 97 #[sv a, sv b] w fun e w' => e = .returned (.bool (clashL a b)) ∧ w = w' := by
  have h1 := r11Within_any a b w (by omega) hb
  have h2 := r11Within_any b a w (by omega) ha
  have hE : Hid (clashL a b = (a == b || withinL a b || withinL b a)) := Lib.hid rfl
  unfold sv at h1 h2 ⊢
  cases hc : (a == b)
  · cases hx : withinL a b
    · rw [hx] at h1
      rw [hc, hx] at hE
      have HX := Lib.hid hx
      clear hx
      go_enter Tryd.func97, Tryd.ntmps97
      go_wp2_with fail
      refine h1.mono ?_
      rintro e w' ⟨rfl, rfl⟩
      go_wp2_with fail
      refine h2.mono ?_
      rintro e w' ⟨rfl, rfl⟩
      go_wp2_with fail
      go_ret
      exact ⟨by rw [hE.out]; rfl, rfl⟩
    · rw [hx] at h1
      rw [hc, hx] at hE
      have HX := Lib.hid hx
      clear hx
      go_enter Tryd.func97, Tryd.ntmps97
      go_wp2_with fail
      refine h1.mono ?_
      rintro e w' ⟨rfl, rfl⟩
      go_wp2_with fail
      go_ret
      exact ⟨by rw [hE.out]; rfl, rfl⟩
  · rw [hc] at hE
    go_enter Tryd.func97, Tryd.ntmps97
    go_wp2_with fail
    go_ret
    exact ⟨by rw [hE.out]; rfl, rfl⟩
end Go.Proofs.YteefceainlfdfaaDoor
