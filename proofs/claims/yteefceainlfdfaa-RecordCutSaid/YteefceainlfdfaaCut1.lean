
/- Frames, one behind the other, cut anywhere: which ones are whole. Plain laws. -/
import Derived.Test.YteefceainlfdfaaRec8
namespace Go.Proofs.Yteefceainlfdfaa
set_option linter.unusedSimpArgs false
set_option linter.unusedVariables false
open Go.ChangeShapes Go.WideShapes Go.ChangeAt Go.RowKit

def totL : List (List UInt8) → Nat
  | [] => 0
  | x :: R => x.length + 8 + totL R
def catL : List (List UInt8) → List UInt8
  | [] => []
  | x :: R => frameL x ++ catL R
def cutN : List (List UInt8) → Nat → Nat
  | [], _ => 0
  | x :: R, k => if x.length + 8 ≤ k then cutN R (k - (x.length + 8)) + 1 else 0
theorem catL_length (R : List (List UInt8)) : (catL R).length = totL R := by
  induction R with
  | nil => rfl
  | cons x R ih => rw [catL, totL, List.length_append, frameL_length, ih]
theorem catL_snoc (R : List (List UInt8)) (x : List UInt8) : catL (R ++ [x]) = catL R ++ frameL x := by
  induction R with
  | nil => simp [catL]
  | cons y R ih => simp [catL, ih]
theorem totL_snoc (R : List (List UInt8)) (x : List UInt8) : totL (R ++ [x]) = totL R + (x.length + 8) := by
  induction R with
  | nil => simp [totL]
  | cons y R ih => simp [totL, ih]; omega
theorem totL_take_succ (R : List (List UInt8)) (i : Nat) (h : i < R.length) : totL (R.take (i + 1)) = totL (R.take i) + (R[i].length + 8) := by
  rw [List.take_succ_eq_append_getElem h, totL_snoc]
theorem catL_take_succ (R : List (List UInt8)) (i : Nat) (h : i < R.length) : catL (R.take (i + 1)) = catL (R.take i) ++ frameL R[i] := by
  rw [List.take_succ_eq_append_getElem h, catL_snoc]
theorem totL_le (R : List (List UInt8)) (m : Nat) (h : ∀ x ∈ R, x.length ≤ m) : totL R ≤ R.length * (m + 8) := by
  induction R with
  | nil => simp [totL]
  | cons x R ih =>
    have h1 := h x (by simp)
    have h2 := ih (fun y hy => h y (by simp [hy]))
    rw [totL, List.length_cons, Nat.succ_mul]
    omega
theorem cutN_le (R : List (List UInt8)) : ∀ k, cutN R k ≤ R.length := by
  induction R with
  | nil => intro k; simp [cutN]
  | cons x R ih =>
    intro k
    rw [cutN]
    split
    · have := ih (k - (x.length + 8)); simp; exact this
    · simp
theorem next_cut (x : List UInt8) (k : Nat) (hx : x.length ≤ 200000) (hk : k < x.length + 8) : nextL ((frameL x).take k) = none := by
  have hl : ((frameL x).take k).length = k := by rw [List.length_take, frameL_length]; omega
  unfold nextL
  by_cases h8 : k < 8
  · rw [if_pos (.inl (by omega))]
  · have h4 : (le x.length 4).length = 4 := le_length _ _
    have e1 : ((frameL x).take k).take 4 = le x.length 4 := by
      rw [List.take_take, Nat.min_eq_left (by omega)]
      unfold frameL
      rw [List.append_assoc, List.take_append_of_le_length (by omega), List.take_of_length_le (by omega)]
    have hs : sizeL ((frameL x).take k) = x.length := by unfold sizeL; rw [e1, leN_le4 _ (by omega)]
    rw [if_pos (.inr (.inr (.inl (by rw [hs, hl]; omega))))]
theorem scan_cut (R : List (List UInt8)) : ∀ k, (∀ x ∈ R, x.length ≤ 200000) → k ≤ totL R → scanL ((catL R).take k) = (R.take (cutN R k), totL (R.take (cutN R k))) := by
  induction R with
  | nil =>
    intro k _ _
    simp only [catL, List.take_nil, cutN, totL]
    exact scan_short [] (by decide)
  | cons x R ih =>
    intro k hx hk
    have h1 := hx x (by simp)
    rw [totL] at hk
    rw [catL, cutN]
    by_cases h : x.length + 8 ≤ k
    · have e : (frameL x ++ catL R).take k = frameL x ++ (catL R).take (k - (x.length + 8)) := by
        rw [List.take_append, frameL_length, List.take_of_length_le (by rw [frameL_length]; omega)]
      rw [if_pos h, e, scan_frame x _ h1, ih (k - (x.length + 8)) (fun y hy => hx y (by simp [hy])) (by omega)]
      simp only [List.take_succ_cons, totL]
      congr 1
      omega
    · have e : (frameL x ++ catL R).take k = (frameL x).take k := by rw [List.take_append_of_le_length (by rw [frameL_length]; omega)]
      rw [if_neg h, e, scan_none (next_cut x k h1 (by omega))]
      simp [totL]
theorem ends_lt (R : List (List UInt8)) : ∀ i k, i < R.length → (totL (R.take (i + 1)) ≤ k ↔ i < cutN R k) := by
  induction R with
  | nil => intro i k h; simp at h
  | cons x R ih =>
    intro i k hi
    rw [cutN, List.take_succ_cons, totL]
    cases i with
    | zero =>
      simp only [List.take_zero, totL]
      split <;> omega
    | succ i =>
      have := ih i (k - (x.length + 8)) (by simpa using hi)
      split
      · rename_i h
        constructor
        · intro h'; have := this.1 (by omega); omega
        · intro h'; have := this.2 (by omega); omega
      · rename_i h
        constructor
        · intro h'; omega
        · intro h'; omega
end Go.Proofs.Yteefceainlfdfaa
