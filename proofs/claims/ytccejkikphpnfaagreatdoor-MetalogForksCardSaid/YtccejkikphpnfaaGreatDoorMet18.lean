
/- What the walks of MetalogUndo and MetalogForks share: a log of which each root stands on the one ahead. -/
import Derived.Test.YtccejkikphpnfaaGreatDoorFrame
import Derived.Test.YtccejkikphpnfaaGreatDoorOpen
import Derived.Test.YtccejkikphpnfaaGreatDoorMet17
namespace Go.Proofs.YtccejkikphpnfaaGreatDoor
set_option linter.unusedSimpArgs false
set_option linter.unusedVariables false
set_option maxRecDepth 100000
open Go.ChangeShapes Go.WideShapes Go.ChangeAt Go.RowKit

def decInt (z : Int) : List Value := [.int .i64 z]
theorem open_intl {H : Type} {enc : TypeId × Value → H} {W : World} {base : Nat} {v : Value} {d : DataW H} {ps : List MemPlace} (hval : Value.okWide Tryz.prog W .any base 49 v)
    (h : DataW.Trod enc Tryz.prog W 0 (fun _ => true) true 49 v d ps) : ∃ (a : Option Addr) (c : Nat) (xs : List Int), v = .slice a xs.length c ∧ Vw W a xs.length c 1 (xs.map iv) ∧ (∀ b, blk a = some b → b < W.heap.size) := by
  obtain ⟨a, c, xs, h1, h2, _, h3⟩ := open_list decInt (fun _ => True) 49 3 1 Tryz.underlying49 (by kernel_rfl) (by decide) (fun _ => rfl) (by
    intro fuel cs y hl hy
    obtain ⟨b, e1, _⟩ := DataW.trod_int Tryz.underlying3 hy
    exact ⟨b, e1, trivial⟩) hval h
  have e : ∀ l : List Int, l.flatMap decInt = l.map iv := fun l => by
    induction l with
    | nil => rfl
    | cons x l ih => rw [List.flatMap_cons, ih]; rfl
  rw [e] at h2
  exact ⟨a, c, xs, h1, h2, h3⟩

/-- The key of a root: its first byte is the number's. -/
def ky1 (i : Nat) : Ky := ⟨UInt8.ofNat i :: List.replicate 31 0, rfl⟩
theorem ky1_built (i : Nat) : Tryz.prog.built 52 [(0, .int .u8 ((UInt8.ofNat i).toNat : Int))] = some (kyA (ky1 i)) := by kernel_rfl
theorem wpList_build_ky {ops : Array Oper} {rest : List Oper} {op : Oper} {ac : Act} {w : World} {Q : Exit → Act → World → Prop} (hgd : op.guard = none) (x : Operand) (ho : op.op = .build 52 #[(0, x)])
    (i : Nat) (hx : ac.eval x = .int .u8 ((UInt8.ofNat i).toNat : Int)) (h : wpList Tryz.prog ops Q rest (ac.put op.dst (.agg (kyA (ky1 i)))) w) : wpList Tryz.prog ops Q (op :: rest) ac w :=
  wpList_plain hgd fun _ hK => by
    unfold Oper.wp execOp
    have h1 := run_build (P := Tryz.prog) w 52 #[(0, .int .u8 ((UInt8.ofNat i).toNat : Int))] (kyA (ky1 i)) (ky1_built i)
    simp only [ho, List.map_toArray, List.map_cons, List.map_nil, hx, Sem.run_bind, h1, Result.andThen_ok, Sem.run_pure]
    exact hK _ _ h
/-- The log of which each root stands on the one ahead. -/
structure LogG (g : Lg) (i : Nat) : Prop where
  rr : g.rr.length = i
  fs : g.fs.length = i
  cs : g.cs.length = i
  each : ∀ (j : Nat) (x : RRow), g.rr[j]? = some x → x.p = (j : Int) - 1
theorem LogG.zero (n : Int) : LogG ⟨[], [], [], 0, [], n⟩ 0 := ⟨rfl, rfl, rfl, fun j x h => by simp at h⟩
theorem LogG.more {g : Lg} {i : Nat} (h : LogG g i) (x : RRow) (hx : x.p = (i : Int) - 1) (k : Ky) (m : Int) : LogG (lgRoot g x [k] m) (i + 1) := by
  refine ⟨by simp [lgRoot, h.rr], by simp [lgRoot, h.fs], by simp [lgRoot, h.cs], fun j y hy => ?_⟩
  unfold lgRoot at hy
  dsimp only at hy
  by_cases hj : j < g.rr.length
  · rw [List.getElem?_append_left hj] at hy
    exact h.each j y hy
  · rw [List.getElem?_append_right (by omega), List.getElem?_singleton] at hy
    split at hy
    · cases hy
      have := h.rr
      rw [hx]; omega
    · cases hy
theorem LogG.same {g g' : Lg} {i : Nat} (h : LogG g i) (h1 : g'.rr = g.rr) (h2 : g'.fs = g.fs) (h3 : g'.cs = g.cs) : LogG g' i :=
  ⟨by rw [h1]; exact h.rr, by rw [h2]; exact h.fs, by rw [h3]; exact h.cs, fun j x hx => h.each j x (by rw [← h1]; exact hx)⟩
/-- m - 1, m - 2, .., 0. -/
def downL : Nat → List Int
  | 0 => []
  | m + 1 => (m : Int) :: downL m
theorem downL_len (m : Nat) : (downL m).length = m := by induction m <;> simp [downL, *]
theorem LogG.chain {g : Lg} {i : Nat} (h : LogG g i) : ∀ m, m ≤ i → Chain g.rr ((m : Int) - 1) (downL m)
  | 0, _ => by show (0 : Int) - 1 < 0; decide
  | m + 1, hm => by
    have hl := h.rr
    have hlt : m < g.rr.length := by omega
    have hx := h.each m _ (List.getElem?_eq_getElem hlt)
    refine ⟨by omega, by omega, g.rr[m], ?_, ?_⟩
    · rw [show (((m + 1 : Nat) : Int) - 1).toNat = m from by omega, List.getElem?_eq_getElem hlt]
    · rw [hx]; exact h.chain m (by omega)
end Go.Proofs.YtccejkikphpnfaaGreatDoor
