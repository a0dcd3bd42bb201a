
/- a slice in a variable's field, appended to while the document's reader is read. -/
import Derived.Test.YtccejkikphpnfaaGreatDoorQ20
namespace Go.Proofs.YtccejkikphpnfaaGreatDoor
set_option linter.unusedSimpArgs false
set_option linter.unusedVariables false
set_option maxRecDepth 100000
open Go.ChangeShapes Go.WideShapes Go.ChangeAt Go.RowKit
/-- Since w0 the variable's block BX has got a slice of xs (at the row's place), of which each may own a block; the document's reader br stands at s. -/
structure Qh {X : Type} (dec : X → List Value) (sz : Nat) (eT : TypeId) (ib : X → Option Nat) (inn : World → X → Prop) (T : TypeId) (row : Option Addr → Nat → Nat → Array Value) (br BX : Nat) (F : Option Nat) (w0 : World)
  (s : RS) (xs : List X) (a : Option Addr) (c : Nat) (wk : World) : Prop where
 rd : Rf wk br F s
 var : wk.heap[BX]? = some (.cells (row a xs.length c) T)
 own : wk.ownsRow 0 eT sz (.slice a xs.length c) xs.length (xs.flatMap dec)
 fr : ∀ g, blk a = some g → w0.heap.size ≤ g
 ind : ∀ x ∈ xs, inn wk x ∧ ∀ g, ib x = some g → w0.heap.size ≤ g ∧ g < wk.heap.size ∧ blk a ≠ some g
 upd : Upd (fun q => q = br ∨ q = BX) w0 wk
 n1 : br < w0.heap.size
 n3 : BX < w0.heap.size
 n5 : BX ≠ br
 n7 : ∀ g, F = some g → g < w0.heap.size ∧ g ≠ BX
section
variable {X : Type} {dec : X → List Value} {sz : Nat} {eT : TypeId} {ib : X → Option Nat} {inn : World → X → Prop} {T : TypeId} {row : Option Addr → Nat → Nat → Array Value} {br BX : Nat} {F : Option Nat} {w0 : World}
 {s s' : RS} {xs : List X} {a : Option Addr} {c : Nat} {wk w' : World}
theorem Qh.read (hst : Stays ib inn) (h : Qh dec sz eT ib inn T row br BX F w0 s xs a c wk) (hR : Rf w' br F s') (hU : Upd (fun k => k = br) wk w') : Qh dec sz eT ib inn T row br BX F w0 s' xs a c w' := by
 have h1 := h.n1; have h5 := h.n5
 refine ⟨hR, (hU.block BX (lt_of_heap h.var) h5).trans h.var,
  ownsRow_upd h.own hU (fun q hq e => by rw [own_blk] at hq; have := h.fr q hq; omega), h.fr, fun x hx => ?_, h.upd.trans (hU.mono (fun _ _ e => .inl e)), h1, h.n3, h5, h.n7⟩
 obtain ⟨i1, i2⟩ := h.ind x hx
 exact ⟨hst _ _ _ x i1 hU (fun g hg e => by have := (i2 g hg).1; omega), fun g hg => ⟨(i2 g hg).1, Nat.lt_of_lt_of_le (i2 g hg).2.1 hU.size, (i2 g hg).2.2⟩⟩
theorem Qh.same (hst : Stays ib inn) (h : Qh dec sz eT ib inn T row br BX F w0 s xs a c wk) (hU : Upd (fun _ => False) wk w') : Qh dec sz eT ib inn T row br BX F w0 s xs a c w' :=
 h.read hst (h.rd.upd hU (fun h => h) (fun _ _ h => h)) (hU.mono (fun _ _ h => h.elim))
theorem Qh.q1 (h : Qh dec sz eT ib inn T row br BX F w0 s xs a c wk) (j : Nat) (hget : ∀ a n c, (row a n c)[j]? = some (.slice a n c)) : wk.cell? ⟨BX, j, none⟩ = some (.slice a xs.length c) := by rw [cell_of_row _ _ _ _ _ _ h.var]; exact hget _ _ _
theorem Qh.lt (h : Qh dec sz eT ib inn T row br BX F w0 s xs a c wk) : BX < wk.heap.size := lt_of_heap h.var
theorem Qh.add (hst : Stays ib inn) (h : Qh dec sz eT ib inn T row br BX F w0 s xs a c wk) (j : Nat) (hget : ∀ a n c, (row a n c)[j]? = some (.slice a n c)) (hset : ∀ a n c a' n' c', (row a n c).setIfInBounds j (.slice a' n' c') = row a' n' c')
  (x : X) (hix : inn wk x) (hbx : ∀ g, ib x = some g → w0.heap.size ≤ g ∧ g < wk.heap.size ∧ blk a ≠ some g) (o : Obj) {w8 : World} {a8 : Option Addr} {c8 : Nat} (hown : w8.ownsRow 0 eT sz (.slice a8 (xs.length + 1) c8) (xs.length + 1) (xs.flatMap dec ++ dec x))
  (hg : (wk.alloc o).grownBy w8 (blk a)) (hat : blk a8 = blk a ∨ blk a8 = some (wk.alloc o).heap.size) :
  Qh dec sz eT ib inn T row br BX F w0 s (xs ++ [x]) a8 c8 (w8.setCell ⟨BX, j, none⟩ (.slice a8 (xs.length + 1) c8)) ∧ w8.cell? ⟨BX, j, none⟩ = some (.slice a xs.length c) ∧ w8.frozen? ⟨BX, j, none⟩ = false := by
 have h1 := h.n1; have h3 := h.n3; have h5 := h.n5
 have hlt := h.lt
 have hUa := Upd.alloc (fun _ => False) wk o
 have hUg := Upd.grown (S := fun k => blk a = some k) hg (fun k hk => hk)
 have hz := hUa.size
 have hz0 := h.upd.size
 have hU8 : Upd (fun q => blk a = some q) wk w8 := (hUa.mono (fun _ _ e => e.elim)).next hUg (fun i hi e => e)
 have hkeep : ∀ q, q < w0.heap.size → w8.heap[q]? = wk.heap[q]? := fun q hq => hU8.block q (Nat.lt_of_lt_of_le hq hz0) (fun e => by have := h.fr q e; omega)
 have hvar8 := (hkeep BX h3).trans h.var
 have hst8 := Upd.setCell (S := fun q => q = BX) w8 (p := ⟨BX, j, none⟩) rfl (.slice a8 (xs.length + 1) c8)
 have hf8 : ∀ g, blk a8 = some g → blk a = some g ∨ wk.heap.size ≤ g := fun g hg' => by
  rcases hat with e | e
  ·exact .inl (e.symm.trans hg')
  ·rw [e] at hg'; cases hg'; exact .inr hz
 have hfx : ∀ g, blk a8 = some g → w0.heap.size ≤ g := fun g hg' => by
  rcases hf8 g hg' with e | e
  ·exact h.fr g e
  ·omega
 have hUall : Upd (fun q => q = BX ∨ blk a = some q) wk (w8.setCell ⟨BX, j, none⟩ (.slice a8 (xs.length + 1) c8)) :=
  (hU8.mono (fun _ _ e => .inr e)).trans (hst8.mono (fun _ _ e => .inl e))
 have hll : (xs ++ [x]).length = xs.length + 1 := by simp
 have hind : ∀ y, inn wk y → (∀ g, ib y = some g → w0.heap.size ≤ g ∧ g < wk.heap.size ∧ blk a ≠ some g) → inn (w8.setCell ⟨BX, j, none⟩ (.slice a8 (xs.length + 1) c8)) y ∧ ∀ g, ib y = some g → w0.heap.size ≤ g ∧ g < (w8.setCell ⟨BX, j, none⟩ (.slice a8 (xs.length + 1) c8)).heap.size ∧ blk a8 ≠ some g := fun y i1 i2 =>
  ⟨hst _ _ _ y i1 hUall (fun g hg' e => by
   obtain ⟨j1, j2, j3⟩ := i2 g hg'
   rcases e with e | e
   ·omega
   ·exact j3 e), fun g hg' => by
   obtain ⟨j1, j2, j3⟩ := i2 g hg'
   refine ⟨j1, Nat.lt_of_lt_of_le j2 hUall.size, fun e => ?_⟩
   rcases hf8 g e with e2 | e2
   ·exact j3 e2
   ·omega⟩
 refine ⟨⟨?_, ?_, ?_, hfx, fun y hy => ?_, ?_, h1, h3, h5, h.n7⟩, ?_, free_row hvar8⟩
 ·refine h.rd.upd hUall (fun e => ?_) (fun g hg' e => ?_)
  ·rcases e with e | e
   ·omega
   ·have := h.fr _ e; omega
  ·have := h.n7 g hg'
   rcases e with e | e
   ·omega
   ·have := h.fr _ e; omega
 ·rw [setCell_heap j (.slice a8 (xs.length + 1) c8) hvar8, hll, hset]
 ·have := ownsRow_setCell_ne hown (a := ⟨BX, j, none⟩) (by rw [own_blk]; intro e; have := hfx _ e; simp at this; omega) (.slice a8 (xs.length + 1) c8)
  rw [hll]
  simpa using this
 ·rcases List.mem_append.1 hy with hy | hy
  ·exact hind y (h.ind y hy).1 (h.ind y hy).2
  ·simp at hy
   subst hy
   exact hind y hix hbx
 ·refine h.upd.next hUall (fun i hi e => ?_)
  rcases e with e | e
  ·exact .inr e
  ·have := h.fr _ e; omega
 ·rw [cell_of_row _ _ _ _ _ _ hvar8]; exact hget _ _ _
end
end Go.Proofs.YtccejkikphpnfaaGreatDoor
