
/- tree.within. -/
import Derived.Test.YtccejkikphpnfaaGreatDoorTs2
namespace Go.Proofs.YtccejkikphpnfaaGreatDoor
set_option linter.unusedSimpArgs false
set_option linter.unusedVariables false
set_option maxRecDepth 100000
open Go.ChangeShapes Go.WideShapes Go.ChangeAt Go.RowKit
open Go.Maps

/-- From here on, with this behind: does one of the set stand on the way? -/
def wiR (S : List (List UInt8)) : List UInt8 → List (List UInt8) → Bool
  | _, [] => false
  | q, s :: r => S.contains q || wiR S (q ++ 47 :: s) r
def waySet (S : List (List UInt8)) (p : List UInt8) : Bool := match partsL p with
  | [] => false
  | s :: r => wiR S s r
def sumP (l : List (List UInt8)) : Nat := (l.map fun s => s.length + 1).sum
theorem sumP_cons (x : List UInt8) (l : List (List UInt8)) : sumP (x :: l) = x.length + 1 + sumP l := by simp [sumP]
theorem partsL_sum (p : List UInt8) : sumP (partsL p) = p.length + 1 := by
  induction p with
  | nil => rfl
  | cons b s ih =>
    unfold partsL
    split
    · rw [sumP_cons, ih]; simp; omega
    · have hne := partsL_ne s
      cases h : partsL s with
      | nil => exact absurd h hne
      | cons x xs =>
        rw [h, sumP_cons] at ih
        dsimp only
        rw [sumP_cons]
        simp only [List.length_cons]
        omega
theorem str_app (a b : List UInt8) : str a ++ str b = str (a ++ b) := by
  apply ByteArray.ext
  simp [str]

set_option maxHeartbeats 4000000 in
theorem twithin_any (b : Nat) (S : List (List UInt8)) (p : List UInt8) (w : World) (hS : SetM w b S) (hq : ∀ q ∈ S, q.length ≤ maxLen) (hp : p.length ≤ 1000000) :
    Calls Tryz.prog 125 #[.map (some b), sv p] w fun e w' => e = .returned (.bool (waySet S p)) ∧ Upd (fun _ => False) w w' := by
  have hsp := split_any p w hp
  have hsum := partsL_sum p
  have hD : waySet S p = match partsL p with
    | [] => false
    | s :: r => wiR S s r := rfl
  generalize waySet S p = R at *
  have hne := partsL_ne p
  unfold Split at hsp
  have HS := Lib.hid hS
  have hblt := hS.lt
  unfold sv at hsp ⊢
  clear hS
  go_enter Tryz.func125, Tryz.ntmps125
  go_wp2_with fail
  refine hsp.mono ?_
  rintro e w1 ⟨g, c, rfl, hv, hU, hg⟩
  generalize partsL p = ps at *
  obtain ⟨s0, rest, rfl⟩ : ∃ s0 rest, ps = s0 :: rest := by
    cases ps with
    | nil => exact absurd rfl hne
    | cons x xs => exact ⟨x, xs, rfl⟩
  dsimp only at hD
  have HV := Lib.hid (And.intro hv hU)
  have HD := Lib.hid hD
  have hcap := hv.cap
  have hlc := hv.le
  unfold maxLen at hcap
  clear hsp hv hU hD hne
  go_wp2_with fail
  go_loopw [5, 11] (fun q i wr => ∃ (j : Nat) (at' : List UInt8), j ≤ (s0 :: rest).length ∧ i = .int .i64 (j : Int) ∧ q = .string (str at') ∧ Hid (Upd (fun _ => False) w1 wr) ∧
      Hid ((j = 0 ∧ at' = []) ∨ (1 ≤ j ∧ R = wiR S at' (rest.drop (j - 1)) ∧ at'.length + sumP (rest.drop (j - 1)) ≤ p.length))) (fun _ i _ => (s0 :: rest).length - (intOf i).toNat)
  case atStart => exact ⟨0, [], Nat.zero_le _, rfl, rfl, Lib.hid (Upd.refl _ _), Lib.hid (.inl ⟨rfl, rfl⟩)⟩
  case round =>
    obtain ⟨j, at', hj, rfl, rfl, HU, HI⟩ := hrel
    by_cases hlt : j < (s0 :: rest).length
    · have hI : (j : Int) < ((s0 :: rest).length : Int) := by omega
      have hcell : wr.cell? ⟨g, j, none⟩ = some (.string (str (s0 :: rest)[j])) := by
        have := (HV.out.1.upd HU.out (fun _ _ h => h)).cell ⟨g, 0, none⟩ rfl j (sv (s0 :: rest)[j]) (by rw [List.getElem?_map, List.getElem?_eq_getElem hlt]; rfl)
        have ha : (Addr.add ⟨g, 0, none⟩ j) = ⟨g, j, none⟩ := by unfold Addr.add; split <;> simp_all
        rw [ha] at this
        exact this
      have hcapj : (j : Int) < (c : Int) := by omega
      rcases HI.out with ⟨rfl, rfl⟩ | ⟨h1, hR, hsz⟩
      · have hsz2 : ¬ 9223372036854775807 < (str ([] : List UInt8)).size + (str s0).size := by
          rw [str_size, str_size]; rw [sumP_cons] at hsum; simp; omega
        have hadd := str_app [] s0
        rw [List.nil_append] at hadd
        have e0 : (s0 :: rest)[0] = s0 := rfl
        rw [e0] at hcell
        have hsm : s0.length + sumP rest ≤ p.length := by rw [sumP_cons] at hsum; omega
        rw [show str [] = (⟨#[]⟩ : ByteArray) from rfl] at hadd hsz2
        go_wp2_with fail
        refine ⟨⟨1, s0, by simp, rfl, by rw [show str [] = (⟨#[]⟩ : ByteArray) from rfl, hadd], HU, Lib.hid (.inr ⟨Nat.le_refl _, HD.out, by simpa using hsm⟩)⟩, ?_⟩
        simp [intOf]
      · have hj1 : j - 1 < rest.length := by simp only [List.length_cons] at hlt; omega
        have ex : (s0 :: rest)[j] = rest[j - 1] := by
          rw [List.getElem_cons]
          rw [dif_neg (by omega)]
        rw [ex] at hcell
        have hdr : rest.drop (j - 1) = rest[j - 1] :: rest.drop j := by
          rw [List.drop_eq_getElem_cons hj1, show j - 1 + 1 = j from by omega]
        rw [hdr] at hR hsz
        rw [sumP_cons] at hsz
        generalize rest[j - 1] = x at *
        have hal : at'.length ≤ 1000000 := by omega
        have hI1 : (0 : Int) < (j : Int) := by omega
        have hI2 : 0 < j := by omega
        have hI3 : (j : Int) < (rest.length : Int) + 1 := by simp only [List.length_cons] at hlt; omega
        have hlook := (HS.out.upd (HV.out.2.trans HU.out) (fun h => h)).look hq at' (by unfold maxLen; omega)
        have hRR : R = (S.contains at' || wiR S (at' ++ 47 :: x) (rest.drop j)) := hR
        unfold tkV at hlook
        generalize S.contains at' = bb at *
        have HRR := Lib.hid hRR
        have HSZ := Lib.hid hsz
        clear hR hRR hdr ex HI
        cases bb with
        | true =>
          have HR2 : Hid (R = true) := Lib.hid (by rw [HRR.out]; rfl)
          go_wp2_with fail
          go_ret
          exact ⟨by rw [HR2.out]; rfl, HV.out.2.trans HU.out⟩
        | false =>
          have HR2 : Hid (R = wiR S (at' ++ 47 :: x) (rest.drop j)) := Lib.hid (by rw [HRR.out]; rfl)
          have hz1 : ¬ 9223372036854775807 < (str at').size + 1 := by rw [str_size]; omega
          have ha1 := str_app at' [47]
          have ha2 := str_app (at' ++ [47]) x
          have hz2 : ¬ 9223372036854775807 < (str (at' ++ [47])).size + (str x).size := by rw [str_size, str_size]; simp; omega
          rw [show str [47] = (⟨#[47]⟩ : ByteArray) from rfl] at ha1
          rw [show at' ++ [47] ++ x = at' ++ 47 :: x from by simp] at ha2
          go_wp2_with fail
          refine ⟨⟨j + 1, at' ++ 47 :: x, by simp only [List.length_cons]; omega, by simp, rfl, HU, Lib.hid (.inr ⟨by omega, by rw [Nat.add_sub_cancel]; exact HR2.out, ?_⟩)⟩, ?_⟩
          · rw [Nat.add_sub_cancel]
            have := HSZ.out
            simp only [List.length_append, List.length_cons]
            omega
          · simp [intOf]; omega
    · have hj2 : j = rest.length + 1 := by simp only [List.length_cons] at hj hlt; omega
      have hR : R = false := by
        rcases HI.out with ⟨h, _⟩ | ⟨h1, hR, _⟩
        · omega
        · rw [hR, List.drop_of_length_le (by omega)]; rfl
      have HR := Lib.hid hR
      have hI : ¬ (j : Int) < ((s0 :: rest).length : Int) := by omega
      have hI3 : ¬ (j : Int) < (rest.length : Int) + 1 := by omega
      clear hR HI hlt hj hj2
      go_wp2_with fail
      go_ret
      exact ⟨by rw [HR.out]; rfl, HV.out.2.trans HU.out⟩
end Go.Proofs.YtccejkikphpnfaaGreatDoor
