
/- The walks of octets: texts and truths that are read; the document's writer and reader (rickref01). -/
import Derived.Test.YteefceainlfdfaaOct3
namespace Go.Proofs.Yteefceainlfdfaa
set_option linter.unusedSimpArgs false
set_option linter.unusedVariables false
open Go.ChangeShapes Go.WideShapes Go.ChangeAt Go.RowKit

theorem takeS_len (n : Nat) (s : RS) : (takeS n s).2.l.length ≤ s.l.length := by
  unfold takeS; split
  · exact Nat.le_refl _
  · split <;> simp
/-- What Text reads, and what it leaves. -/
def textS (s : RS) : List UInt8 × RS :=
  if (takeS 4 s).2.e ≠ 0 then ([], (takeS 4 s).2) else if intV s < 0 then ([], ⟨[], 5⟩) else takeS (intV s).toNat (takeS 4 s).2
theorem intV_bd (s : RS) : -1 ≤ intV s ∧ intV s < 4294967296 := by
  unfold intV
  split
  · rename_i h
    have := leN_lt (s.l.take 4)
    have e : (s.l.take 4).length = 4 := by simp; omega
    rw [e] at this
    omega
  · omega
/-- What Bool reads, and what it leaves. -/
def boolS (s : RS) : Bool × RS :=
  if (takeS 1 s).2.e = 0 ∧ 1 < leN (takeS 1 s).1 then (false, ⟨[], 5⟩) else (leN (takeS 1 s).1 == 1, (takeS 1 s).2)
end Go.Proofs.Yteefceainlfdfaa
