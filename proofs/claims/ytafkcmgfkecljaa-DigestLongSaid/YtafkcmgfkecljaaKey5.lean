/- Plain laws on names and their digits: digits lead back, others are none; the order of names is that of their digits. -/
import Derived.Test.YtafkcmgfkecljaaKey4
namespace Go.Proofs.Ytafkcmgfkecljaa
set_option linter.unusedSimpArgs false
set_option linter.unusedVariables false
open Go.ChangeShapes Go.WideShapes Go.ChangeAt Go.RowKit

/-! The order. -/
theorem compare_self (x : List UInt8) : Lib.compareBytes x x = 0 := by
  induction x with
  | nil => rfl
  | cons a x ih => simp [Lib.compareBytes, UInt8.lt_irrefl, ih]
theorem compare_swap : ∀ (x y : List UInt8), Lib.compareBytes x y = - Lib.compareBytes y x
  | [], [] => rfl
  | [], _ :: _ => rfl
  | _ :: _, [] => rfl
  | a :: x, b :: y => by
    unfold Lib.compareBytes
    by_cases h1 : a < b
    · have h2 : ¬ b < a := fun h => absurd (UInt8.lt_iff_toNat_lt.1 h) (by have := UInt8.lt_iff_toNat_lt.1 h1; omega)
      simp [h1, h2]
    · by_cases h2 : b < a
      · simp [h1, h2]
      · simp [h1, h2, compare_swap x y]
theorem compare_zero : ∀ (x y : List UInt8), Lib.compareBytes x y = 0 → x = y
  | [], [], _ => rfl
  | [], _ :: _, h => by simp [Lib.compareBytes] at h
  | _ :: _, [], h => by simp [Lib.compareBytes] at h
  | a :: x, b :: y, h => by
    unfold Lib.compareBytes at h
    by_cases h1 : a < b
    · simp [h1] at h
    · by_cases h2 : b < a
      · simp [h1, h2] at h
      · simp [h1, h2] at h
        have e : a = b := UInt8.toNat_inj.1 (by
          have := UInt8.not_lt.1 h1; have := UInt8.not_lt.1 h2
          rw [UInt8.le_iff_toNat_le] at *; omega)
        rw [e, compare_zero x y h]
theorem less_both (x y : List UInt8) : (lessL x y && lessL y x) = false := by
  unfold lessL
  have := compare_swap x y
  by_cases h : Lib.compareBytes x y < 0
  · have h2 : ¬ Lib.compareBytes y x < 0 := by omega
    simp [h2]
  · simp [h]
theorem less_either (x y : List UInt8) : (lessL x y || lessL y x) = !(x == y) := by
  unfold lessL
  have hs := compare_swap x y
  by_cases e : x = y
  · subst e
    simp [compare_self]
  · have h0 : Lib.compareBytes x y ≠ 0 := fun h => e (compare_zero x y h)
    have : (x == y) = false := by simpa using e
    rw [this]
    by_cases h : Lib.compareBytes x y < 0
    · simp [h]
    · have h2 : Lib.compareBytes y x < 0 := by omega
      simp [h2]
theorem dig_lt : ∀ i j : Fin 16, decide (dig i.val < dig j.val) = decide (i.val < j.val) := by decide +kernel
theorem dig_eq : ∀ i j : Fin 16, decide (dig i.val = dig j.val) = decide (i.val = j.val) := by decide +kernel
theorem dig_lt' {m n : Nat} (hm : m < 16) (hn : n < 16) : (dig m < dig n) ↔ m < n := by
  have := dig_lt ⟨m, hm⟩ ⟨n, hn⟩
  simpa using this
theorem hexL_cons (b : UInt8) (k : List UInt8) : hexL (b :: k) = dig (b.toNat / 16) :: dig (b.toNat % 16) :: hexL k := by simp [hexL]
theorem less_hex : ∀ (x y : List UInt8), x.length = y.length → Op.bytesLess (hexL x) (hexL y) = lessL x y
  | [], [], _ => by simp [hexL, Op.bytesLess, lessL, Lib.compareBytes]
  | a :: x, b :: y, h => by
    have ih := less_hex x y (by simpa using h)
    rw [hexL_cons, hexL_cons]
    unfold lessL at ih ⊢
    unfold Lib.compareBytes
    have ha := a.toNat_lt
    have hb := b.toNat_lt
    simp only [Op.bytesLess]
    have e1 : decide (dig (a.toNat / 16) < dig (b.toNat / 16)) = decide (a.toNat / 16 < b.toNat / 16) := dig_lt ⟨a.toNat / 16, by omega⟩ ⟨b.toNat / 16, by omega⟩
    have e2 : (dig (a.toNat / 16) == dig (b.toNat / 16)) = decide (a.toNat / 16 = b.toNat / 16) := dig_eq ⟨a.toNat / 16, by omega⟩ ⟨b.toNat / 16, by omega⟩
    have e3 : decide (dig (a.toNat % 16) < dig (b.toNat % 16)) = decide (a.toNat % 16 < b.toNat % 16) := dig_lt ⟨a.toNat % 16, by omega⟩ ⟨b.toNat % 16, by omega⟩
    have e4 : (dig (a.toNat % 16) == dig (b.toNat % 16)) = decide (a.toNat % 16 = b.toNat % 16) := dig_eq ⟨a.toNat % 16, by omega⟩ ⟨b.toNat % 16, by omega⟩
    rw [e1, e2, e3, e4, ih]
    by_cases h1 : a < b
    · have h2 := UInt8.lt_iff_toNat_lt.1 h1
      rw [if_pos h1, decide_eq_true (show (-1 : Int) < 0 by decide)]
      by_cases h3 : a.toNat / 16 < b.toNat / 16
      · simp [h3]
      · have h4 : a.toNat / 16 = b.toNat / 16 := by omega
        have h5 : a.toNat % 16 < b.toNat % 16 := by omega
        simp [h4, h5]
    · by_cases h2 : b < a
      · have h3 := UInt8.lt_iff_toNat_lt.1 h2
        rw [if_neg h1, if_pos h2, decide_eq_false (show ¬ (1 : Int) < 0 by decide)]
        have h4 : ¬ a.toNat / 16 < b.toNat / 16 := by omega
        by_cases h5 : a.toNat / 16 = b.toNat / 16
        · have h6 : ¬ a.toNat % 16 < b.toNat % 16 := by omega
          have h7 : ¬ a.toNat % 16 = b.toNat % 16 := by omega
          simp [h4, h6, h7]
        · simp [h4, h5]
      · rw [if_neg h1, if_neg h2]
        have h3 := UInt8.not_lt.1 h1
        have h4 := UInt8.not_lt.1 h2
        rw [UInt8.le_iff_toNat_le] at h3 h4
        have h5 : a.toNat = b.toNat := by omega
        simp [h5]
  | [], _ :: _, h => by simp at h
  | _ :: _, [], h => by simp at h

/-! Digits. -/
theorem idx_dig : ∀ i : Fin 16, idx (dig i.val) = (i.val : Int) := by decide +kernel
theorem dig_idx : ∀ b : Fin 256, 0 ≤ idx (UInt8.ofNat b.val) → dig (idx (UInt8.ofNat b.val)).toNat = UInt8.ofNat b.val := by decide +kernel
theorem is_digit : ∀ b : Fin 256, decide (0 ≤ idx (UInt8.ofNat b.val)) = ((decide (48 ≤ b.val) && decide (b.val ≤ 57)) || (decide (97 ≤ b.val) && decide (b.val ≤ 102))) := by decide +kernel
/-- What stands behind n digits. -/
theorem kAt_get (s : List UInt8) (n j : Nat) (hn : n ≤ 64) (hj : j < 32) : (kAt s n).getD j 0 =
    if 2 * j + 1 < n then stepB (stepB 0 (s.getD (2 * j) 0)) (s.getD (2 * j + 1) 0) else if 2 * j < n then stepB 0 (s.getD (2 * j) 0) else 0 := by
  induction n with
  | zero =>
    simp only [kAt, List.getD_eq_getElem?_getD, List.getElem?_replicate]
    rw [if_pos hj, if_neg (by omega), if_neg (by omega)]; rfl
  | succ n ih =>
    have ih := ih (by omega)
    have hl := kAt_length s n
    rw [kAt]
    by_cases e : n / 2 = j
    · rw [List.getD_eq_getElem?_getD, List.getElem?_set]
      rw [if_pos e, if_pos (by omega)]
      simp only [Option.getD_some]
      rw [e, ih]
      by_cases h2 : n = 2 * j
      · subst h2
        rw [if_neg (by omega), if_neg (by omega), if_neg (by omega), if_pos (by omega)]
      · have h3 : n = 2 * j + 1 := by omega
        subst h3
        rw [if_neg (by omega), if_pos (by omega), if_pos (by omega)]
    · rw [List.getD_eq_getElem?_getD, List.getElem?_set, if_neg e, ← List.getD_eq_getElem?_getD, ih]
      by_cases h1 : 2 * j + 1 < n
      · rw [if_pos h1, if_pos (by omega)]
      · rw [if_neg h1]
        by_cases h2 : 2 * j < n
        · omega
        · rw [if_neg h2, if_neg (by omega), if_neg (by omega)]
theorem hexL_get (k : List UInt8) (j : Nat) (hj : j < k.length) : (hexL k).getD (2 * j) 0 = dig ((k.getD j 0).toNat / 16) ∧ (hexL k).getD (2 * j + 1) 0 = dig ((k.getD j 0).toNat % 16) := by
  induction k generalizing j with
  | nil => simp at hj
  | cons b k ih =>
    rw [hexL_cons]
    cases j with
    | zero => simp
    | succ j =>
      have := ih j (by simpa using hj)
      rw [show 2 * (j + 1) = 2 * j + 1 + 1 from by omega]
      simpa using this
theorem step_two : ∀ i j : Fin 16, ((((0 : UInt8) <<< 4) ||| UInt8.ofNat i.val) <<< 4) ||| UInt8.ofNat j.val = UInt8.ofNat (16 * i.val + j.val) := by decide +kernel
theorem stepB_two (x y : UInt8) (hx : 0 ≤ idx x) (hy : 0 ≤ idx y) : stepB (stepB 0 x) y = UInt8.ofNat (16 * (idx x).toNat + (idx y).toNat) := by
  have h1 := idx_in x
  have h2 := idx_in y
  exact step_two ⟨(idx x).toNat, by omega⟩ ⟨(idx y).toNat, by omega⟩
theorem isHex_hexL (k : List UInt8) (hk : k.length = 32) : isHex (hexL k) = true := by
  unfold isHex
  refine decide_eq_true ⟨by rw [hexL_length, hk], fun i hi => ?_⟩
  rw [hexL_length, hk] at hi
  obtain ⟨h1, h2⟩ := hexL_get k (i / 2) (by omega)
  have hb := (k.getD (i / 2) 0).toNat_lt
  have e : i = 2 * (i / 2) ∨ i = 2 * (i / 2) + 1 := by omega
  rcases e with e | e <;> rw [e]
  · rw [h1]
    have := idx_dig ⟨(k.getD (i / 2) 0).toNat / 16, by omega⟩
    simp only at this
    omega
  · rw [h2]
    have := idx_dig ⟨(k.getD (i / 2) 0).toNat % 16, by omega⟩
    simp only at this
    omega
theorem list_ext32 {x y : List UInt8} (hx : x.length = 32) (hy : y.length = 32) (h : ∀ j, j < 32 → x.getD j 0 = y.getD j 0) : x = y := by
  apply List.ext_getElem (by omega)
  intro j h1 h2
  have := h j (by omega)
  simpa [List.getElem?_eq_getElem h1, List.getElem?_eq_getElem h2] using this
theorem fromL_length (s : List UInt8) : (fromL s).length = 32 := by
  unfold fromL; split
  · exact kAt_length s 64
  · simp
/-- Digits lead back. -/
theorem fromL_hexL (k : List UInt8) (hk : k.length = 32) : fromL (hexL k) = k := by
  unfold fromL
  rw [isHex_hexL k hk, if_pos rfl]
  refine list_ext32 (kAt_length _ _) hk fun j hj => ?_
  rw [kAt_get _ 64 j (by omega) hj, if_pos (by omega)]
  obtain ⟨h1, h2⟩ := hexL_get k j (by omega)
  rw [h1, h2]
  have hb := (k.getD j 0).toNat_lt
  generalize k.getD j 0 = b at *
  have e1 := idx_dig ⟨b.toNat / 16, by omega⟩
  have e2 := idx_dig ⟨b.toNat % 16, by omega⟩
  simp only at e1 e2
  rw [stepB_two _ _ (by omega) (by omega), e1, e2]
  apply UInt8.toNat_inj.1
  rw [UInt8.toNat_ofNat']
  omega
theorem hexL_fromL (s : List UInt8) (h : isHex s = true) : hexL (fromL s) = s := by
  have h' := of_decide_eq_true h
  obtain ⟨hl, hd⟩ := h'
  apply List.ext_getElem (by rw [hexL_length, fromL_length, hl])
  intro i h1 h2
  have hi : i < 64 := by omega
  obtain ⟨g1, g2⟩ := hexL_get (fromL s) (i / 2) (by rw [fromL_length]; omega)
  have hg : (fromL s).getD (i / 2) 0 = stepB (stepB 0 (s.getD (2 * (i / 2)) 0)) (s.getD (2 * (i / 2) + 1) 0) := by
    unfold fromL
    rw [h, if_pos rfl, kAt_get s 64 (i / 2) (by omega) (by omega), if_pos (by omega)]
  have d1 := hd (2 * (i / 2)) (by omega)
  have d2 := hd (2 * (i / 2) + 1) (by omega)
  rw [stepB_two _ _ d1 d2] at hg
  rw [hg] at g1 g2
  have b1 := dig_idx ⟨(s.getD (2 * (i / 2)) 0).toNat, (s.getD (2 * (i / 2)) 0).toNat_lt⟩
  have b2 := dig_idx ⟨(s.getD (2 * (i / 2) + 1) 0).toNat, (s.getD (2 * (i / 2) + 1) 0).toNat_lt⟩
  simp only [UInt8.ofNat_toNat] at b1 b2
  have b1 := b1 d1
  have b2 := b2 d2
  have r1 := idx_in (s.getD (2 * (i / 2)) 0)
  have r2 := idx_in (s.getD (2 * (i / 2) + 1) 0)
  rw [UInt8.toNat_ofNat'] at g1 g2
  have e : i = 2 * (i / 2) ∨ i = 2 * (i / 2) + 1 := by omega
  have f1 : (hexL (fromL s))[i] = (hexL (fromL s)).getD i 0 := by simp [List.getElem?_eq_getElem h1]
  have f2 : s[i] = s.getD i 0 := by simp [List.getElem?_eq_getElem h2]
  rw [f1, f2]
  rcases e with e | e
  · rw [e, g1, ← b1]
    congr 1
    rw [b1]; omega
  · rw [e, g2, ← b2]
    congr 1
    rw [b2]; omega
/-- Of digits one turned. -/
theorem isHex_set (k : List UInt8) (hk : k.length = 32) (p : Nat) (hp : p < 64) (b : UInt8) : isHex ((hexL k).set p b) = decide (0 ≤ idx b) := by
  have h := of_decide_eq_true (isHex_hexL k hk)
  obtain ⟨hl, hd⟩ := h
  unfold isHex
  by_cases hb : 0 ≤ idx b
  · rw [decide_eq_true hb]
    refine decide_eq_true ⟨by simpa using hl, fun i hi => ?_⟩
    simp only [List.length_set] at hi
    rw [List.getD_eq_getElem?_getD, List.getElem?_set]
    by_cases e : p = i
    · subst e
      rw [if_pos rfl, if_pos hi]; exact hb
    · rw [if_neg e, ← List.getD_eq_getElem?_getD]
      exact hd i hi
  · rw [decide_eq_false hb]
    refine decide_eq_false fun h => hb ?_
    have := h.2 p (by simp; omega)
    rw [List.getD_eq_getElem?_getD, List.getElem?_set, if_pos rfl, if_pos (by omega)] at this
    exact this
theorem isHex_short (k : List UInt8) (hk : k.length = 32) : isHex ((hexL k).drop 1) = false := by
  unfold isHex
  refine decide_eq_false fun h => ?_
  have := h.1
  rw [List.length_drop, hexL_length, hk] at this
  omega
end Go.Proofs.Ytafkcmgfkecljaa
