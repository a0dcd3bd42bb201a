
/- The reference's Path. -/
import Derived.Test.YtccejkikphpnfaaGreatDoorPath5
namespace Go.Proofs.YtccejkikphpnfaaGreatDoor
set_option linter.unusedSimpArgs false
set_option linter.unusedVariables false
set_option maxRecDepth 100000
open Go.ChangeShapes Go.WideShapes Go.ChangeAt Go.RowKit

set_option maxHeartbeats 4000000 in
theorem r11Path_any (s : List UInt8) (w : World) : Calls Tryz.prog 127 #[sv s] w fun e w' => e = .returned (.bool (pathL s)) ∧ Upd (fun _ => False) w w' := by
  have hsz := str_size s
  by_cases h0 : s.length < 1
  · have hb : pathL s = false := by unfold pathL; rw [decide_eq_false (show ¬ 1 ≤ s.length by omega)]; rfl
    have HB := Lib.hid hb
    have hi : (s.length : Int) < 1 := by omega
    unfold sv
    clear hb h0
    go_enter Tryz.func127, Tryz.ntmps127
    go_wp2_with fail
    go_ret
    exact ⟨by rw [HB.out]; rfl, Upd.refl _ _⟩
  have hi0 : decide ((s.length : Int) < 1) = false := by rw [decide_eq_false_iff_not]; omega
  by_cases h100 : 100 < s.length
  · have hb : pathL s = false := by unfold pathL; rw [decide_eq_false (show ¬ s.length ≤ 100 by omega)]; simp
    have HB := Lib.hid hb
    have hi : (100 : Int) < (s.length : Int) := by omega
    unfold sv
    clear hb h0
    go_enter Tryz.func127, Tryz.ntmps127
    go_wp2_with fail
    go_ret
    exact ⟨by rw [HB.out]; rfl, Upd.refl _ _⟩
  have hi100 : decide ((100 : Int) < (s.length : Int)) = false := by rw [decide_eq_false_iff_not]; omega
  have hpl : pathL s = (!s.any badB && !(partsL s).any badP) := by
    unfold pathL; rw [decide_eq_true (show 1 ≤ s.length by omega), decide_eq_true (show s.length ≤ 100 by omega)]; rfl
  have hpn := parts_len s
  have hcl := List.count_le_length (a := (47 : UInt8)) (l := s)
  have hsp := r11Parts_any s w (by omega)
  unfold sv at hsp ⊢
  have HPL := Lib.hid hpl
  have HPN := Lib.hid (show (partsL s).length ≤ 101 by omega)
  have HSP := Lib.hid hsp
  have hle : s.length ≤ 100 := by omega
  clear hpl h0 h100 hpn hcl hsp
  go_enter Tryz.func127, Tryz.ntmps127
  go_wp2_with fail
  go_loop [3] (fun i => ∃ j : Nat, j ≤ s.length ∧ i = .int .i64 (j : Int) ∧ Hid ((s.take j).any badB = false)) (fun i => s.length - (intOf i).toNat)
  case atStart => exact ⟨0, Nat.zero_le _, rfl, (by show _ = _; simp)⟩
  case round =>
    obtain ⟨j, hj, rfl, hA⟩ := hrel
    by_cases hlt : j < s.length
    · have hI : (j : Int) < (s.length : Int) := by omega
      have hix := fun w => str_at s j hlt w
      have hs := any_take_succ badB s j hlt
      rw [hA.out, Bool.false_or] at hs
      have hall := any_of_take badB s (j + 1)
      rw [hs] at hall
      generalize s[j] = x at *
      have HS := Lib.hid hs
      have HALL := Lib.hid hall
      clear hs hall hA
      have hx := x.toNat_lt
      by_cases h1 : x.toNat < 33
      · have hany := HALL.out (by simp [badB, h1])
        have HANY := Lib.hid hany
        have hi : (x.toNat : Int) < 33 := by omega
        clear hany
        go_wp2_with fail
        go_ret
        exact ⟨by rw [HPL.out, HANY.out]; rfl, Upd.refl _ _⟩
      · have hi : decide ((x.toNat : Int) < 33) = false := by rw [decide_eq_false_iff_not]; omega
        by_cases h2 : 126 < x.toNat
        · have hany := HALL.out (by simp [badB, h2])
          have HANY := Lib.hid hany
          have hi2 : (126 : Int) < (x.toNat : Int) := by omega
          clear hany h1
          go_wp2_with fail
          go_ret
          exact ⟨by rw [HPL.out, HANY.out]; rfl, Upd.refl _ _⟩
        · have hi2 : decide ((126 : Int) < (x.toNat : Int)) = false := by rw [decide_eq_false_iff_not]; omega
          have HBD := Lib.hid (show badB x = false by simp [badB, h1, h2])
          clear h1 h2
          go_wp2_with fail
          go_round
          case rel => exact ⟨j + 1, by omega, by first | rfl | go_num, (by show _ = _; rw [HS.out, HBD.out])⟩
          case measure => simp [intOf]; omega
    · obtain rfl : j = s.length := by omega
      have h0 := hA.out
      rw [List.take_length] at h0
      have H0 := Lib.hid h0
      have hsp := HSP.out
      clear h0 hA hlt
      go_wp2_with fail
      refine hsp.mono ?_
      rintro e w1 ⟨g, c, rfl, hv, hU, hg⟩
      have hcap := hv.cap
      have hlc := hv.le
      unfold maxLen at hcap
      have HV := Lib.hid hv
      have hN := HPN.out
      have hbp : ∃ bp, (partsL s).any badP = bp := ⟨_, rfl⟩
      obtain ⟨bp, hbp⟩ := hbp
      have HBP := Lib.hid hbp
      have HU := Lib.hid hU
      clear hv hsp hU hbp
      generalize hL : partsL s = L at *
      have HL := Lib.hid hL
      clear hL
      go_wp2_with fail
      go_loop [5] (fun i => ∃ j : Nat, j ≤ L.length ∧ i = .int .i64 (j : Int) ∧ Hid ((L.take j).any badP = false)) (fun i => L.length - (intOf i).toNat)
      case atStart => exact ⟨0, Nat.zero_le _, rfl, (by show _ = _; simp)⟩
      case round =>
        obtain ⟨j, hj, rfl, hA⟩ := hrel
        by_cases hlt : j < L.length
        · have hI : (j : Int) < (L.length : Int) := by omega
          obtain ⟨b, o, hb, hcell⟩ := HV.out.at (by omega) (by decide)
          simp only [Option.some.injEq, Addr.mk.injEq] at hb
          obtain ⟨rfl, rfl, _⟩ := hb
          have q := hcell j (sv L[j]) (by simp [hlt])
          rw [Nat.zero_add] at q
          have hs := any_take_succ badP L j hlt
          rw [hA.out, Bool.false_or] at hs
          have hall := any_of_take badP L (j + 1)
          rw [hs] at hall
          generalize L[j] = x at *
          unfold sv at q
          have HS := Lib.hid hs
          have HALL := Lib.hid hall
          clear hcell hs hall hA
          by_cases h1 : x = []
          · subst h1
            have hany := HALL.out rfl
            have HANY := Lib.hid hany
            clear hany
            go_wp2_with fail
            go_ret
            exact ⟨by rw [HPL.out, HANY.out]; simp, HU.out⟩
          · by_cases h2 : x = [46]
            · subst h2
              have hany := HALL.out rfl
              have HANY := Lib.hid hany
              clear hany h1
              go_wp2_with fail
              go_ret
              exact ⟨by rw [HPL.out, HANY.out]; simp, HU.out⟩
            · by_cases h3 : x = [46, 46]
              · subst h3
                have hany := HALL.out rfl
                have HANY := Lib.hid hany
                clear hany h1 h2
                go_wp2_with fail
                go_ret
                exact ⟨by rw [HPL.out, HANY.out]; simp, HU.out⟩
              · have b1 : (x == ([] : List UInt8)) = false := by simpa using h1
                have b2 : (x == ([46] : List UInt8)) = false := by simpa using h2
                have b3 : (x == ([46, 46] : List UInt8)) = false := by simpa using h3
                have hb : badP x = false := by unfold badP; rw [b1, b2, b3]; rfl
                have HB := Lib.hid hb
                clear hb h1 h2 h3
                go_wp2_with fail
                go_round
                case rel => exact ⟨j + 1, by omega, by first | rfl | go_num, (by show _ = _; rw [HS.out, HB.out])⟩
                case measure => simp [intOf]; omega
        · obtain rfl : j = L.length := by omega
          have h0 := hA.out
          rw [List.take_length] at h0
          have H2 := Lib.hid h0
          clear h0 hA
          go_wp2_with fail
          go_ret
          exact ⟨by rw [HPL.out, H0.out, H2.out]; rfl, HU.out⟩
end Go.Proofs.YtccejkikphpnfaaGreatDoor
