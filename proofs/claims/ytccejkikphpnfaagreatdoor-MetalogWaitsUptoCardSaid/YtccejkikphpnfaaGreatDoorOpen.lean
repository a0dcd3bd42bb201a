
/- How slices that come in are opened, whatever their elements: a list of plain things, each laid in so many cells. -/
import Derived.Test.YtccejkikphpnfaaGreatDoorFrame
namespace Go.Proofs.YtccejkikphpnfaaGreatDoor
set_option linter.unusedSimpArgs false
set_option linter.unusedVariables false
set_option maxRecDepth 100000
open Go.ChangeShapes Go.WideShapes Go.ChangeAt Go.RowKit

theorem Addr.add_add (a : Addr) (m r : Nat) : (a.add m).add r = a.add (m + r) := by
  unfold Addr.add
  by_cases h1 : m = 0 <;> by_cases h2 : r = 0 <;> simp_all [Nat.add_assoc]
theorem flatMap_length {X : Type} (dec : X → List Value) (k : Nat) (hk : ∀ x, (dec x).length = k) (xs : List X) : (xs.flatMap dec).length = xs.length * k := by
  induction xs with
  | nil => simp
  | cons x xs ih => rw [List.flatMap_cons, List.length_append, hk, ih, List.length_cons, Nat.succ_mul, Nat.add_comm]
theorem flatMap_get {X : Type} (dec : X → List Value) (k : Nat) (hk : ∀ x, (dec x).length = k) : ∀ (xs : List X) (i r : Nat), r < k → (xs.flatMap dec)[i * k + r]? = (xs[i]?).bind fun x => (dec x)[r]? := by
  intro xs
  induction xs with
  | nil => intro i r _; simp
  | cons x xs ih =>
    intro i r hr
    cases i with
    | zero =>
      rw [List.flatMap_cons, Nat.zero_mul, Nat.zero_add, List.getElem?_append_left (by rw [hk]; exact hr)]
      simp
    | succ i =>
      rw [List.flatMap_cons, List.getElem?_append_right (by rw [hk, Nat.succ_mul]; omega), hk, Nat.succ_mul, show i * k + k + r - k = i * k + r from by omega, ih i r hr]
      simp
theorem cells?_get {w : World} {base : Nat} {a : Addr} {n : Nat} {cs : List Value} (h : w.cells? base a n = some cs) : cs.length = n ∧ ∀ r, r < n → w.cell? (a.add r) = cs[r]? := by
  unfold World.cells? at h
  split at h
  · have h1 := mapM_some_length h
    refine ⟨by simpa using h1, fun r hr => ?_⟩
    have := mapM_some_get h r r (by simp [hr])
    exact this
  · cases h

section
variable {H : Type} {enc : TypeId × Value → H} {W : World}
theorem open_elems {X : Type} (dec : X → List Value) (good : X → Prop) (t e : TypeId) (k : Nat) (ht : Tryz.prog.underlying t = some (.slice e)) (hk : Tryz.prog.cellsOf e = k) (h0 : 0 < k) (hl : ∀ x, (dec x).length = k)
    (hdec : ∀ fuel cs y, cs.length = k → DataW.trod enc Tryz.prog W 0 (fun _ => true) true fuel e cs = some y → ∃ x, cs = dec x ∧ good x)
    {fuel : Nat} {cs : List Value} {y : DataW H × List MemPlace} (h : DataW.trod enc Tryz.prog W 0 (fun _ => true) true fuel t cs = some y) :
    ∃ (a : Option Addr) (c : Nat) (xs : List X), cs = [.slice a xs.length c] ∧ Vw W a xs.length c k (xs.flatMap dec) ∧ (∀ x ∈ xs, good x) ∧ (xs ≠ [] → ∀ b, blk a = some b → b < W.heap.size) := by
  subst hk
  rcases DataW.trod_slice ht h with ⟨rfl, _⟩ | ⟨a, len, cap, elems, rest, n, _, rfl, rfl, hb, hlc, hm, hlen, hel, hsp, hns⟩
  · exact ⟨none, 0, [], rfl, Vw.nl _ _, (fun x hx => by cases hx), (fun h => absurd rfl h)⟩
  · have each : ∀ i, i < len → ∃ cs x, W.cells? 0 (a.add (i * Tryz.prog.cellsOf e)) (Tryz.prog.cellsOf e) = some cs ∧ cs = dec x ∧ good x := by
      intro i hi
      have h1 := hel i hi
      rw [List.getElem?_eq_getElem (by omega : i < elems.length)] at h1
      obtain ⟨cs, hcs, htr⟩ := Option.bind_eq_some_iff.1 h1
      obtain ⟨x, hx, hg⟩ := hdec n cs _ (cells?_get hcs).1 htr
      exact ⟨cs, x, hcs, hx, hg⟩
    have all : ∀ m, m ≤ len → ∃ xs : List X, xs.length = m ∧ (∀ x ∈ xs, good x) ∧ ∀ i x, xs[i]? = some x → W.cells? 0 (a.add (i * Tryz.prog.cellsOf e)) (Tryz.prog.cellsOf e) = some (dec x) := by
      intro m
      induction m with
      | zero => intro _; exact ⟨[], rfl, (fun x hx => by cases hx), (fun i x hx => by simp at hx)⟩
      | succ m ih =>
        intro hm
        obtain ⟨xs, hx1, hx2, hx3⟩ := ih (by omega)
        obtain ⟨cs, x, hcs, rfl, hg⟩ := each m (by omega)
        refine ⟨xs ++ [x], by simp [hx1], ?_, ?_⟩
        · intro z hz
          rcases List.mem_append.1 hz with hz | hz
          · exact hx2 z hz
          · simp at hz; subst hz; exact hg
        · intro i z hz
          rcases Nat.lt_or_ge i xs.length with hi | hi
          · rw [List.getElem?_append_left hi] at hz; exact hx3 i z hz
          · rw [List.getElem?_append_right hi] at hz
            have : i = xs.length := by
              have := (List.getElem?_eq_some_iff.1 hz).1
              simp at this; omega
            subst this
            simp at hz
            subst hz
            rw [hx1]; exact hcs
    obtain ⟨xs, hx1, hx2, hx3⟩ := all len (Nat.le_refl _)
    have hcell : ∀ j u, (xs.flatMap dec)[j]? = some u → W.cell? (a.add j) = some u := by
      intro j u hu
      have hj : j = j / Tryz.prog.cellsOf e * Tryz.prog.cellsOf e + j % Tryz.prog.cellsOf e := by rw [Nat.mul_comm]; exact (Nat.div_add_mod _ _).symm
      have hr := Nat.mod_lt j h0
      rw [hj] at hu
      rw [flatMap_get dec _ hl xs _ _ hr] at hu
      obtain ⟨x, hx, hxu⟩ := Option.bind_eq_some_iff.1 hu
      have := (cells?_get (hx3 _ x hx)).2 _ hr
      rw [Addr.add_add, ← hj] at this
      rw [this]; exact hxu
    refine ⟨some a, cap, xs, by rw [hx1], ⟨by rw [flatMap_length dec _ hl], by omega, hm, (fun h => by cases h), (fun z hz => by cases hz; exact hcell)⟩, hx2, ?_⟩
    intro hne b hb'
    cases xs with
    | nil => exact absurd rfl hne
    | cons x xs =>
      have h1 : 0 < (dec x).length := by rw [hl]; exact h0
      have hc := hcell 0 (dec x)[0] (by simp [List.flatMap_cons, h1, List.getElem?_append_left h1])
      have := World.block_lt_of_cell? W _ hc
      simp only [blk, Option.map_some, Option.some.injEq] at hb'
      subst hb'
      simpa [Addr.add] using this
theorem okWide_blk {base : Nat} {t e : TypeId} {a : Option Addr} {n c : Nat} (ht : Tryz.prog.underlying t = some (.slice e)) (hval : Value.okWide Tryz.prog W .any base t (.slice a n c)) : ∀ k, blk a = some k → k < W.heap.size := by
  intro k hk
  cases a with
  | none => cases hk
  | some x =>
    simp only [Value.okWide, ht, Cell.okWide, Cell.ok] at hval
    obtain ⟨_, _, _, _, row, cells, hsh, _⟩ := hval
    simp only [blk, Option.map_some, Option.some.injEq] at hk
    subst hk
    unfold World.shape? at hsh
    split at hsh
    · rename_i h; exact (Array.getElem?_eq_some_iff.1 h).1
    · cases hsh
theorem open_list {X : Type} (dec : X → List Value) (good : X → Prop) (t e : TypeId) (k : Nat) (ht : Tryz.prog.underlying t = some (.slice e)) (hk : Tryz.prog.cellsOf e = k) (h0 : 0 < k) (hl : ∀ x, (dec x).length = k)
    (hdec : ∀ fuel cs y, cs.length = k → DataW.trod enc Tryz.prog W 0 (fun _ => true) true fuel e cs = some y → ∃ x, cs = dec x ∧ good x)
    {base : Nat} {v : Value} {d : DataW H} {ps : List MemPlace} (hval : Value.okWide Tryz.prog W .any base t v) (h : DataW.Trod enc Tryz.prog W 0 (fun _ => true) true t v d ps) :
    ∃ (a : Option Addr) (c : Nat) (xs : List X), v = .slice a xs.length c ∧ Vw W a xs.length c k (xs.flatMap dec) ∧ (∀ x ∈ xs, good x) ∧ (∀ b, blk a = some b → b < W.heap.size) := by
  have hv := hval
  obtain ⟨a, len, cap, rfl⟩ := okWide_slice ht hval
  obtain ⟨fuel, hf⟩ := h
  obtain ⟨a', c', xs, hcs, hvw, hg, _⟩ := open_elems dec good t e k ht hk h0 hl hdec hf
  simp [Value.cells] at hcs
  obtain ⟨rfl, rfl, rfl⟩ := hcs
  exact ⟨a, cap, xs, rfl, hvw, hg, okWide_blk ht hv⟩
end
end Go.Proofs.YtccejkikphpnfaaGreatDoor
