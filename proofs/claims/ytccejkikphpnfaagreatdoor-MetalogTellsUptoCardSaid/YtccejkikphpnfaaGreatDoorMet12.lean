
/- Lists of numbers held against each other; what a program that does nothing does not answer. -/
import Derived.Test.YtccejkikphpnfaaGreatDoorMet11
import Derived.Test.YtccejkikphpnfaaGreatDoorHelp
namespace Go.Proofs.YtccejkikphpnfaaGreatDoor
set_option linter.unusedSimpArgs false
set_option linter.unusedVariables false
set_option maxRecDepth 100000
open Go.ChangeShapes Go.WideShapes Go.ChangeAt Go.RowKit

theorem iv_get (l : List Int) (j : Nat) (h : j < l.length) : (l.map iv)[j]? = some (.int .i64 l[j]) := by simp [iv, h]
theorem take_succ_getI (l : List Int) (j : Nat) (h : j < l.length) : l.take (j + 1) = l.take j ++ [l[j]] := List.take_succ_eq_append_getElem h
theorem eqlI_any (x y : Int) (w : World) : Calls Tryz.prog 68 #[.int .i64 x, .int .i64 y] w fun e w' => e = .returned (.bool (x == y)) ∧ w = w' := by
  go_enter Tryz.func68, Tryz.ntmps68
  go_wp2
  go_ret
  exact ⟨rfl, rfl⟩
set_option maxRecDepth 100000 in
set_option maxHeartbeats 1000000 in
theorem sameI_any (a a2 : Option Addr) (c c2 : Nat) (l k : List Int) (w : World) (hv : Vw w a l.length c 1 (l.map iv)) (hv2 : Vw w a2 k.length c2 1 (k.map iv)) :
    Calls Tryz.prog 67 #[.slice a l.length c, .slice a2 k.length c2, .func (.func 68) #[] #[]] w fun e w' => e = .returned (.bool (l == k)) ∧ Upd (fun _ => False) w w' := by
  have hcap := hv.cap
  have hlc := hv.le
  have hcap2 := hv2.cap
  have hlc2 := hv2.le
  unfold maxLen at hcap hcap2
  by_cases hlen : l.length = k.length
  · have hb : ((l.length : Int) != (k.length : Int)) = false := by simp [hlen]
    have HL := Lib.hid hlen
    clear hlen
    go_enter Tryz.func67, Tryz.ntmps67
    go_wp2_with fail
    go_loopw [7] (fun i wr => ∃ j : Nat, j ≤ l.length ∧ i = .int .i64 (j : Int) ∧ Upd (fun _ => False) w wr ∧ Hid (l.take j = k.take j)) (fun i _ => l.length - (intOf i).toNat)
    case atStart => exact ⟨0, Nat.zero_le _, rfl, Upd.refl _ _, rfl⟩
    case round =>
      obtain ⟨j, hj, rfl, hU, hE⟩ := hrel
      have hvr := hv.upd hU (fun _ _ h => h)
      have hvr2 := hv2.upd hU (fun _ _ h => h)
      by_cases hlt : j < l.length
      · have hlt2 : j < k.length := by have := HL.out; omega
        obtain ⟨b, off, rfl, hcell⟩ := hvr.at (by omega) (by decide)
        obtain ⟨b2, off2, rfl, hcell2⟩ := hvr2.at (by omega) (by decide)
        have hce : wr.cell? ⟨b, off + j, none⟩ = some (.int .i64 l[j]) := hcell j _ (iv_get l j hlt)
        have hce2 : wr.cell? ⟨b2, off2 + j, none⟩ = some (.int .i64 k[j]) := hcell2 j _ (iv_get k j hlt2)
        have hI : (j : Int) < (l.length : Int) := by omega
        have hI2 : (j : Int) < (k.length : Int) := by omega
        have hI0 : (0 : Int) ≤ (j : Int) := by omega
        by_cases hxy : l[j] = k[j]
        · have hbe : (l[j] == k[j]) = true := by simpa using hxy
          have HX := Lib.hid hxy; clear hxy
          go_wp2_with fail
          go_quiet ((go_at_call 68; exact Calls.quiet_of_same ((eqlI_any _ _ _).mono fun e w' h => ⟨h.1, h.2.symm⟩)))
          go_wp2_with fail
          go_roundw
          case rel => exact ⟨j + 1, by omega, by go_num, hU.trans (Upd.drewN _ _ _), by show _ = _; rw [take_succ_getI l j hlt, take_succ_getI k j hlt2, hE.out, HX.out]⟩
          case measure => simp [intOf]; omega
        · have hbe : (l[j] == k[j]) = false := by simpa using hxy
          have hne : (l == k) = false := by
            cases h : l == k
            · rfl
            · have e := eq_of_beq h
              exact absurd (by subst e; rfl) hxy
          have HNE := Lib.hid hne; clear hne hxy
          go_wp2_with fail
          go_quiet ((go_at_call 68; exact Calls.quiet_of_same ((eqlI_any _ _ _).mono fun e w' h => ⟨h.1, h.2.symm⟩)))
          go_wp2_with fail
          go_ret
          exact ⟨by rw [HNE.out]; rfl, hU.trans (Upd.drewN _ _ _)⟩
      · have hI : ¬ (j : Int) < (l.length : Int) := by omega
        have heq : (l == k) = true := by
          have := hE.out
          rw [List.take_of_length_le (by omega), List.take_of_length_le (by have := HL.out; omega)] at this
          simpa using this
        have HE := Lib.hid heq; clear heq
        go_wp2_with fail
        go_ret
        exact ⟨by rw [HE.out]; rfl, hU⟩
  · have hb : ((l.length : Int) != (k.length : Int)) = true := by simp; omega
    have hne : (l == k) = false := by
      cases h : l == k
      · rfl
      · exact absurd (by rw [eq_of_beq h]) hlen
    have HNE := Lib.hid hne; clear hne hlen
    go_enter Tryz.func67, Tryz.ntmps67
    go_wp2_with fail
    go_ret
    exact ⟨by rw [HNE.out]; rfl, Upd.refl _ _⟩
theorem plainI_any (a a2 : Option Addr) (c c2 : Nat) (l k : List Int) (w : World) (hv : Vw w a l.length c 1 (l.map iv)) (hv2 : Vw w a2 k.length c2 1 (k.map iv)) :
    Calls Tryz.prog 29 #[.slice a l.length c, .slice a2 k.length c2] w fun e w' => e = .returned (.bool (l == k)) ∧ Upd (fun _ => False) w w' := by
  go_enter Tryz.func29, Tryz.ntmps29
  go_wp2_with (go_at_call 67; refine (sameI_any a a2 c c2 l k w hv hv2).mono ?_; rintro e w1 ⟨rfl, hU⟩)
  go_ret
  exact ⟨rfl, hU⟩

set_option maxHeartbeats 4000000 in
theorem awake21_any (w : World) : Calls Tryz.prog 10 #[] w fun e w' => e = .returned (.bool true) ∧ Upd (fun _ => False) w w' := by
  have hpk := mPackRoot_any (-1) none 0 [] (-1) w ⟨by decide, by decide, by decide, by decide, by decide⟩ (Vw.nl _ _)
  unfold rootA at hpk
  dsimp only [List.length_nil] at hpk
  go_enter Tryz.func10, Tryz.ntmps10
  go_wp2_with fail
  refine hpk.mono ?_
  unfold Packed
  rintro e w1 ⟨a, c, rfl, hv, hf, hU⟩
  have hnew := mNew_any w1
  have HV := Lib.hid (And.intro hv hU)
  clear hpk hv hf hU
  go_wp2_with fail
  refine hnew.mono ?_
  rintro e w2 ⟨lb, rfl, hL, hU2, hlb⟩
  have hat := mAt_any hL (by decide) (by decide)
  have hadd := add_root ⟨[], [], [], 0, [], 0⟩ _ lb [] (-1) a c w2 hL ⟨⟨by decide, by decide, by decide, by decide, by decide⟩, by decide, by decide, by decide, by decide, by decide, by decide, by decide⟩ (HV.out.1.upd hU2 (fun _ _ h => h))
  have HU2 := Lib.hid (HV.out.2.trans hU2)
  have hlbw : w.heap.size ≤ lb := Nat.le_trans HV.out.2.size hlb
  try dsimp only at hat
  try dsimp only at hadd
  rw [show (0 : Int) - 1 = -1 from rfl] at hat hadd
  clear hnew hL hU2 hlb
  go_wp2_with fail
  refine hat.mono ?_
  rintro e w' ⟨rfl, rfl⟩
  clear hat
  go_wp2_with fail
  refine hadd.mono ?_
  rintro e w3 ⟨rfl, A', x, hx, hL, hU3⟩
  try dsimp only at hx
  have htop : (lgRoot ⟨[], [], [], 0, [], 0⟩ x [] (0 + 1)).top = 1 := rfl
  have hat := mAt_any hL (by rw [htop]; decide) (by rw [htop]; decide)
  have hrec := mRecords_any hL
  have hline := mLine_any _ _ lb [0] w3 hL ⟨rfl, by rw [htop]; decide, x, rfl, by show x.p < 0; rw [hx]; decide⟩ (by rw [htop]; decide) (by rw [htop]; decide) (by decide)
  have HU3 := Lib.hid (HU2.out.next hU3 (fun i hi e => by omega))
  rw [show (lgRoot ⟨[], [], [], 0, [], 0⟩ x [] (0 + 1)).top - 1 = 0 from rfl] at hat
  rw [show (lgRoot ⟨[], [], [], 0, [], 0⟩ x [] (0 + 1)).n = 1 from rfl] at hrec
  dsimp only [List.length_cons, List.length_nil, List.reverse_cons, List.reverse_nil, List.nil_append] at hline
  clear hadd hL hU3 hx htop
  go_wp2_with fail
  refine hat.mono ?_
  rintro e w' ⟨rfl, rfl⟩
  clear hat
  go_wp2_with fail
  refine hrec.mono ?_
  rintro e w' ⟨rfl, rfl⟩
  clear hrec
  go_wp2_with fail
  refine hline.mono ?_
  rintro e w4 ⟨a4, c4, rfl, hown, hfr, hU4⟩
  have hUl := Upd.alloc (fun _ => False) w4 (.cells #[.int .i64 0] 3)
  have hvl : Vw (w4.alloc (.cells #[.int .i64 0] 3)) (some ⟨w4.heap.size, 0, none⟩) ([0] : List Int).length 1 1 (([0] : List Int).map iv) := by
    refine ⟨by simp, Nat.le_refl _, by decide, (fun h => by cases h), fun y hy j u hu => ?_⟩
    cases hy
    have ha : (Addr.add ⟨w4.heap.size, 0, none⟩ j) = ⟨w4.heap.size, j, none⟩ := by unfold Addr.add; split <;> simp_all
    rw [ha, cell_of_row _ _ _ _ _ _ (heap_alloc_new _ _)]
    simpa [iv] using hu
  have hpl := plainI_any a4 (some ⟨w4.heap.size, 0, none⟩) c4 1 [0] [0] _ ((Vw.of_own hown).upd hUl (fun _ _ h => h)) hvl
  have hb : (([0] : List Int) == [0]) = true := rfl
  rw [hb] at hpl
  dsimp only [List.length_cons, List.length_nil] at hpl
  have HU4 := Lib.hid (HU3.out.trans (hU4.trans hUl))
  clear hline hown hfr hU4 hUl hvl hb
  go_wp2_with fail
  refine hpl.mono ?_
  rintro e w5 ⟨rfl, hU5⟩
  have HU5 := Lib.hid (HU4.out.trans hU5)
  clear hpl hU5
  go_wp2_with fail
  go_ret
  exact ⟨rfl, HU5.out⟩
end Go.Proofs.YtccejkikphpnfaaGreatDoor
