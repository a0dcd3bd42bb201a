
/- The record that bytes begin with: record.next. -/
import Derived.Test.YteefceainlfdfaaRec2
namespace Go.Proofs.Yteefceainlfdfaa
set_option linter.unusedSimpArgs false
set_option linter.unusedVariables false
open Go.ChangeShapes Go.WideShapes Go.ChangeAt Go.RowKit

def sizeL (l : List UInt8) : Nat := leN (l.take 4)
def saidL (l : List UInt8) : Nat := leN ((l.drop 4).take 4)
/-- The record that bytes begin with. -/
def nextL (l : List UInt8) : Option (List UInt8) :=
  if l.length < 8 ∨ 200000 < sizeL l ∨ l.length - 8 < sizeL l ∨ sum32L ((l.drop 8).take (sizeL l)) ≠ saidL l then none else some ((l.drop 8).take (sizeL l))
def Nexted (w : World) (l : List UInt8) (a : Option Addr) (e : Ending) (w' : World) : Prop :=
  Upd (fun _ => False) w w' ∧ match nextL l with
    | none => e = .returned (.tuple #[.slice none 0 0, .bool false])
    | some x => ∃ a' c', e = .returned (.tuple #[.slice a' x.length c', .bool true]) ∧ Vw w' a' x.length c' 1 (bvs x) ∧ blk a' = blk a
theorem take_one (l : List UInt8) (h : 8 ≤ l.length) : takeS (heldN 4) ⟨l.take 8, 0⟩ = (l.take 4, ⟨(l.drop 4).take 4, 0⟩) := by
  rw [four_heldN, takeS, if_neg (by simp), if_neg (by simp; omega)]
  simp [List.take_take, List.drop_take]
theorem take_two (l : List UInt8) (h : 8 ≤ l.length) : takeS (heldN 4) ⟨(l.drop 4).take 4, 0⟩ = ((l.drop 4).take 4, ⟨[], 0⟩) := by
  rw [four_heldN, takeS, if_neg (by simp), if_neg (by simp; omega)]
  simp [List.take_take, List.drop_take]
theorem le4_lt (l : List UInt8) (h : l.length ≤ 4) : leN l < 4294967296 := by
  have h1 := leN_lt l
  have h2 : 256 ^ l.length ≤ 256 ^ 4 := Nat.pow_le_pow_right (by decide) h
  have h3 : (256 : Nat) ^ 4 = 4294967296 := by decide
  omega

set_option maxRecDepth 100000 in
set_option maxHeartbeats 4000000 in
theorem next_any (a : Option Addr) (c : Nat) (l : List UInt8) (w : World) (hv : Vw w a l.length c 1 (bvs l)) (hl : l.length ≤ 100000000) (hlb : ∀ b, blk a = some b → b < w.heap.size) :
    Calls Try.prog 18 #[.slice a l.length c] w (Nexted w l a) := by
  by_cases h8 : l.length < 8
  · have hnx : nextL l = none := by unfold nextL; rw [if_pos (.inl h8)]
    have HN := Lib.hid hnx
    have hd : decide ((l.length : Int) < 8) = true := by simp; omega
    clear hnx
    go_enter Try.func18, Try.ntmps18
    go_wp2_with fail
    go_ret2
    unfold Nexted
    rw [HN.out]
    exact ⟨Upd.refl _ _, rfl⟩
  have h8' : 8 ≤ l.length := by omega
  have hd : decide ((l.length : Int) < 8) = false := by simp; omega
  have hcap := hv.cap
  have hlc := hv.le
  unfold maxLen at hcap
  obtain ⟨b, off, rfl, hcells⟩ := hv.at (by omega) (by omega)
  have hvp := hv.pre 8 h8'
  have hvp' : Vw w (some ⟨b, off, none⟩) (l.take 8).length c 1 (bvs (l.take 8)) := by
    have e : (l.take 8).length = 8 := by simp; omega
    rw [e]
    simpa [bvs, List.map_take] using hvp
  have hrd := read_any (some ⟨b, off, none⟩) c (l.take 8) w hvp' (by simp; omega)
  have ht8 : (l.take 8).length = 8 := by simp; omega
  rw [ht8] at hrd
  have ht1 := take_one l h8'
  have ht2 := take_two l h8'
  have hn32 : sizeL l < 4294967296 := le4_lt _ (by simp; omega)
  have hm32 : saidL l < 4294967296 := le4_lt _ (by simp; omega)
  have hnum1 := fun (br : Nat) (F : Option Nat) (w : World) (hR : Rd w br F (l.take 8) 0) => rnum_any br F ⟨l.take 8, 0⟩ 4 w hR (by simp; omega)
  have hnum2 := fun (br : Nat) (F : Option Nat) (w : World) (hR : Rd w br F ((l.drop 4).take 4) 0) => rnum_any br F ⟨(l.drop 4).take 4, 0⟩ 4 w hR (by simp; omega)
  simp only [ht1] at hnum1
  simp only [ht2] at hnum2
  have e1 : leN (l.take 4) = sizeL l := rfl
  have e2 : leN ((l.drop 4).take 4) = saidL l := rfl
  simp only [e1] at hnum1
  simp only [e2] at hnum2
  clear ht1 ht2 hvp hvp' ht8 e1 e2
  have HNX : Hid (nextL l = if l.length < 8 ∨ 200000 < sizeL l ∨ l.length - 8 < sizeL l ∨ sum32L ((l.drop 8).take (sizeL l)) ≠ saidL l then none else some ((l.drop 8).take (sizeL l))) := rfl
  have HV := Lib.hid hv
  have HL8 := Lib.hid h8'
  have HLB := Lib.hid hlb
  generalize sizeL l = n at *
  generalize saidL l = m at *
  generalize l.take 8 = l8 at *
  generalize (l.drop 4).take 4 = l4 at *
  have hn32' : (n : Int) < 4294967296 := by omega
  have hm32' : (m : Int) < 4294967296 := by omega
  have hmw : IntKind.u32.wrap (m : Int) = (m : Int) := by rw [IntKind.wrap_u32']; omega
  clear hv hcells hlb h8
  go_enter Try.func18, Try.ntmps18
  go_wp2_with fail
  refine hrd.mono ?_
  rintro e w1 ⟨br, F, rfl, hR1, hU1, hbr, hF⟩
  go_wp2_with fail
  refine (hnum1 br F w1 hR1).mono ?_
  rintro e w2 ⟨rfl, hR2, hU2⟩
  go_wp2_with fail
  refine (hnum2 br F w2 hR2).mono ?_
  rintro e w3 ⟨rfl, hR3, hU3⟩
  have hz1 := hU1.size
  have hU03 : Upd (fun _ => False) w w3 := hU1.next (hU2.trans hU3) (fun i hi h => by omega)
  have hz3 := hU03.size
  clear hrd hnum1 hnum2 hR1 hR2 hR3 hU1 hU2 hU3 hF hz1 hbr
  by_cases hA : 200000 < n
  · have hdA : decide (200000 < (n : Int)) = true := by simp; omega
    have HNX2 : Hid (nextL l = none) := by have := HNX.out; rw [if_pos (.inr (.inl hA))] at this; exact this
    go_wp2_with fail
    go_ret2
    unfold Nexted
    rw [HNX2.out]
    exact ⟨hU03, rfl⟩
  have hdA : decide (200000 < (n : Int)) = false := by simp; omega
  by_cases hB : l.length - 8 < n
  · have hdB : (l.length : Int) - 8 < (n : Int) := by omega
    have HNX2 : Hid (nextL l = none) := by have := HNX.out; rw [if_pos (.inr (.inr (.inl hB)))] at this; exact this
    go_wp2_with fail
    go_ret2
    unfold Nexted
    rw [HNX2.out]
    exact ⟨hU03, rfl⟩
  have hdB : decide ((l.length : Int) - 8 < (n : Int)) = false := by rw [decide_eq_false_iff_not]; omega
  have hvq := HV.out.part 8 (8 + n) c (by omega) (by omega) (Nat.le_refl _) (by omega)
  rw [show 8 + n - 8 = n from by omega] at hvq
  simp only [Nat.mul_one] at hvq
  have hxl : ((l.drop 8).take n).length = n := by simp; omega
  have hq2 : (bvs l).drop 8 = bvs (l.drop 8) := by simp [bvs, List.map_drop]
  have hq3 : (bvs (l.drop 8)).take n = bvs ((l.drop 8).take n) := by simp [bvs, List.map_take]
  rw [hq2, hq3] at hvq
  generalize (l.drop 8).take n = x at *
  obtain ⟨a8, ha8⟩ : ∃ a8, (if c = 8 then some (⟨b, off, none⟩ : Addr) else (some (⟨b, off, none⟩ : Addr)).map (·.add 8)) = a8 := ⟨_, rfl⟩
  rw [ha8] at hvq
  have hb8 : blk a8 = some b := by
    rw [← ha8]
    split
    · rfl
    · simp [blk, Addr.add]
  have hblt : b < w.heap.size := HLB.out b rfl
  have hv3 := hvq.upd hU03 (fun _ _ h => h)
  rw [← hxl] at hv3
  have hsum := recSum_any a8 (c - 8) x w3 (hv3) (by omega) (fun k hk => by rw [hb8] at hk; cases hk; omega)
  rw [hxl] at hsum
  have HV3 := Lib.hid hv3
  have HXL := Lib.hid hxl
  have HB8 := Lib.hid hb8
  have hs32 : sum32L x < 4294967296 := sum32_lt x
  generalize sum32L x = sx at *
  have hnle : (n : Int) + 8 ≤ (c : Int) := by omega
  have hnl : (n : Int) + 8 ≤ (l.length : Int) := by omega
  clear hvq hv3 hxl hb8 hq2 hq3 hblt hB
  by_cases hc8 : c = 8
  · subst hc8
    rw [if_pos rfl] at ha8
    subst ha8
    have ha8 : (some ⟨b, off, none⟩ : Option Addr) = some ⟨b, off, none⟩ := rfl
    have HA8 := Lib.hid ha8
    have h88 : 8 + n - 8 = n := by omega
    clear ha8
    by_cases hC : sx = m
    · subst hC
      have HNX2 : Hid (nextL l = some x) := by have := HNX.out; rw [if_neg (by have := HL8.out; omega)] at this; exact this
      go_wp2_with fail
      refine hsum.mono ?_
      rintro e w4 ⟨rfl, hU4⟩
      go_wp2_with fail
      go_ret2
      unfold Nexted
      rw [HNX2.out]
      refine ⟨hU03.trans hU4, _, _, ?_, HV3.out.upd hU4 (fun _ _ h => h), HB8.out⟩
      rw [HXL.out]
      show Ending.returned (.tuple #[.slice _ (8 + n - 8) _, .bool true]) = _
      rw [show 8 + n - 8 = n from by omega]
    · have hne : ((sx : Int) != (m : Int)) = true := by simp; omega
      have HNX2 : Hid (nextL l = none) := by have := HNX.out; rw [if_pos (.inr (.inr (.inr hC)))] at this; exact this
      go_wp2_with fail
      refine hsum.mono ?_
      rintro e w4 ⟨rfl, hU4⟩
      go_wp2_with fail
      go_ret2
      unfold Nexted
      rw [HNX2.out]
      exact ⟨hU03.trans hU4, rfl⟩

  · rw [if_neg hc8] at ha8
    have ha8' : (some (⟨b, off + 8, none⟩ : Addr)) = a8 := by rw [← ha8]; simp [Addr.add]
    subst ha8'
    clear ha8
    have ha8 : (some ⟨b, off + 8, none⟩ : Option Addr) = some ⟨b, off + 8, none⟩ := rfl
    have HA8 := Lib.hid ha8
    have h88 : 8 + n - 8 = n := by omega
    clear ha8
    by_cases hC : sx = m
    · subst hC
      have HNX2 : Hid (nextL l = some x) := by have := HNX.out; rw [if_neg (by have := HL8.out; omega)] at this; exact this
      go_wp2_with fail
      refine hsum.mono ?_
      rintro e w4 ⟨rfl, hU4⟩
      go_wp2_with fail
      go_ret2
      unfold Nexted
      rw [HNX2.out]
      refine ⟨hU03.trans hU4, _, _, ?_, HV3.out.upd hU4 (fun _ _ h => h), HB8.out⟩
      rw [HXL.out]
      show Ending.returned (.tuple #[.slice _ (8 + n - 8) _, .bool true]) = _
      rw [show 8 + n - 8 = n from by omega]
    · have hne : ((sx : Int) != (m : Int)) = true := by simp; omega
      have HNX2 : Hid (nextL l = none) := by have := HNX.out; rw [if_pos (.inr (.inr (.inr hC)))] at this; exact this
      go_wp2_with fail
      refine hsum.mono ?_
      rintro e w4 ⟨rfl, hU4⟩
      go_wp2_with fail
      go_ret2
      unfold Nexted
      rw [HNX2.out]
      exact ⟨hU03.trans hU4, rfl⟩

end Go.Proofs.Yteefceainlfdfaa
