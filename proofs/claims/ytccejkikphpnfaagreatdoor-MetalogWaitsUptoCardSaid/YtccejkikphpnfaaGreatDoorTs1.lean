
/- A set of paths, as tree.paths lays it: a map of bools with a struct's key. -/
import Derived.Test.YtccejkikphpnfaaGreatDoorMet2
import Derived.Maps.OwnOps
import Derived.Maps.Views
import Derived.DeepKeys5
namespace Go.Proofs.YtccejkikphpnfaaGreatDoor
set_option linter.unusedSimpArgs false
set_option linter.unusedVariables false
set_option maxRecDepth 100000
open Go.ChangeShapes Go.WideShapes Go.ChangeAt Go.RowKit
open Go.Maps

theorem tk_keyed : Keyed Tryz.prog 182 := Keyed.of_law (deep_law_gate (by kernel_rfl) (by decide +kernel) (by decide +kernel) (by kernel_rfl) (by kernel_rfl))
def klit (q : List UInt8) : Lit := .string (keyBytes [.string q])
def tkV (q : List UInt8) : Value := .agg #[.string (str q)]
theorem tk_key (q : List UInt8) (h : q.length ≤ maxLen) : keyOf Tryz.prog 182 (tkV q) = some (klit q) := by
  have hk : Tryz.prog.keyType 182 = true := by kernel_rfl
  have hf : (tkV q).formed Tryz.prog 182 = true := by
    unfold tkV Value.formed
    rw [Tryz.underlying182]
    have hc : Tryz.prog.cellsOf 182 = 1 := by kernel_rfl
    simp [hc]
  have h1 : 1 ≤ Tryz.prog.types.size := by decide +kernel
  have hs : ∃ m, Tryz.prog.types.size + 1 = m + 2 := ⟨Tryz.prog.types.size - 1, by omega⟩
  obtain ⟨m, hm⟩ := hs
  have hc : Tryz.prog.cellsOf 182 = 1 := by kernel_rfl
  have hc2 : Tryz.prog.cellsOf 9 = 1 := by kernel_rfl
  have hl : (str q).size ≤ maxLen := by rw [str_size]; exact h
  have hkl : Tryz.prog.keyLits (m + 2) 182 [.string (str q)] = some [.string q] := by
    simp [Program.keyLits, Tryz.underlying182, Tryz.underlying9, hc, hc2]
    rw [if_pos hl]
    rfl
  unfold keyOf
  rw [hk, hf, Tryz.underlying182, hm]
  simp only [tkV, Value.cells, Bool.and_self, if_true, hkl, Option.map_some]
  rfl
theorem klit_inj {p q : List UInt8} (hp : p.length ≤ maxLen) (hq : q.length ≤ maxLen) (h : klit p = klit q) : p = q := by
  have := tk_keyed.inj (tk_key p hp) (by rw [h]; exact tk_key q hq)
  unfold tkV at this
  simp only [Value.agg.injEq] at this
  have h2 := congrArg (fun a : Array Value => a[0]?) this
  simp [str] at h2
  exact h2
/-- What a set reads as. -/
def setD : List (List UInt8) → DataW Unit
  | [] => .map []
  | q :: S => (setD S).put (klit q) (.lit (.bool true))
theorem setD_map (S : List (List UInt8)) : IsMap (setD S) := by
  induction S with
  | nil => exact isMap_empty
  | cons q S ih => exact ih.put _ _
theorem setD_at (S : List (List UInt8)) (hS : ∀ q ∈ S, q.length ≤ maxLen) (q : List UInt8) (hq : q.length ≤ maxLen) : (setD S).atKey (klit q) (.lit (.bool false)) = .lit (.bool (S.contains q)) := by
  induction S with
  | nil => rfl
  | cons x S ih =>
    by_cases hx : klit q = klit x
    · have := klit_inj hq (hS x (by simp)) hx
      subst this
      unfold setD
      rw [atKey_put_same (setD_map S) (tk_keyed.key (tk_key q hq))]
      simp
    · unfold setD
      rw [atKey_put_other hx, ih (fun y hy => hS y (by simp [hy]))]
      have : ¬ q = x := fun e => hx (by rw [e])
      simp [this]
/-- The block is a set of paths. -/
def SetM (w : World) (b : Nat) (S : List (List UInt8)) : Prop := w.ownsMap Tryz.prog 182 (plainElem Tryz.prog 4) b S.length (setD S)
theorem SetM.lt {w : World} {b : Nat} {S : List (List UInt8)} (h : SetM w b S) : b < w.heap.size := World.ownsMap.lt h
theorem SetM.upd {S0 : Nat → Prop} {w w' : World} {b : Nat} {S : List (List UInt8)} (h : SetM w b S) (hU : Upd S0 w w') (hb : ¬ S0 b) : SetM w' b S := by
  obtain ⟨es, clock, h1, h2, h3, h4⟩ := h
  exact ⟨es, clock, (hU.block b (lt_of_heap h1) hb).trans h1, h2, h3, h4⟩
theorem zero_bool (w : World) : (zeroValue 4).run Tryz.prog w = .ok (.bool false) w := by kernel_rfl
theorem SetM.look {w : World} {b : Nat} {S : List (List UInt8)} (h : SetM w b S) (hS : ∀ q ∈ S, q.length ≤ maxLen) (q : List UInt8) (hq : q.length ≤ maxLen) : (Instr.lookup 162 (.map (some b)) (tkV q) false).run Tryz.prog w = .ok (.bool (S.contains q)) w := by
  obtain ⟨v, ps, hrun, hR⟩ := World.ownsMap.lookup h tk_keyed Tryz.underlying162 (zero_bool w) (plainElem_bool Tryz.underlying4 false) (tk_key q hq)
  rw [setD_at S hS q hq] at hR
  have hv : v = .bool (S.contains q) := by
    unfold plainElem at hR
    rw [Tryz.underlying4] at hR
    cases v <;> simp at hR
    rename_i x
    rw [hR.1]
    simp
  rw [hv] at hrun
  exact hrun
end Go.Proofs.YtccejkikphpnfaaGreatDoor
