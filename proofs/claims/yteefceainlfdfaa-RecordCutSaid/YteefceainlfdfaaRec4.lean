
/- The records that bytes begin with, plainly; and how a list of them lies in memory. -/
import Derived.Test.YteefceainlfdfaaRec3
namespace Go.Proofs.Yteefceainlfdfaa
set_option linter.unusedSimpArgs false
set_option linter.unusedVariables false
open Go.ChangeShapes Go.WideShapes Go.ChangeAt Go.RowKit

/-! Plainly. -/
def scanF : Nat → List UInt8 → List (List UInt8) × Nat
  | 0, _ => ([], 0)
  | f + 1, l => match nextL l with
    | none => ([], 0)
    | some x => (x :: (scanF f (l.drop (8 + x.length))).1, 8 + x.length + (scanF f (l.drop (8 + x.length))).2)
def scanL (l : List UInt8) : List (List UInt8) × Nat := scanF (l.length + 1) l
theorem nextL_len {l x : List UInt8} (h : nextL l = some x) : 8 + x.length ≤ l.length ∧ x = (l.drop 8).take x.length ∧ x.length = sizeL l := by
  unfold nextL at h
  split at h
  · cases h
  · rename_i hc
    cases h
    have h1 : ((l.drop 8).take (sizeL l)).length = sizeL l := by simp; omega
    rw [h1]
    exact ⟨by omega, rfl, rfl⟩
theorem scanF_enough : ∀ (f g : Nat) (l : List UInt8), l.length < f → l.length < g → scanF f l = scanF g l := by
  intro f
  induction f with
  | zero => intro g l h; omega
  | succ f ih =>
    intro g l hf hg
    cases g with
    | zero => omega
    | succ g =>
      unfold scanF
      cases hn : nextL l with
      | none => rfl
      | some x =>
        have := (nextL_len hn).1
        simp only
        rw [ih g (l.drop (8 + x.length)) (by simp; omega) (by simp; omega)]
theorem scan_none {l : List UInt8} (h : nextL l = none) : scanL l = ([], 0) := by unfold scanL scanF; rw [h]
theorem scan_some {l x : List UInt8} (h : nextL l = some x) : scanL l = (x :: (scanL (l.drop (8 + x.length))).1, 8 + x.length + (scanL (l.drop (8 + x.length))).2) := by
  have hl := (nextL_len h).1
  have e : scanL l = scanF (l.length + 1) l := rfl
  rw [e, scanF, h]
  simp only
  rw [scanF_enough l.length ((l.drop (8 + x.length)).length + 1) (l.drop (8 + x.length)) (by simp; omega) (by simp)]
  rfl
/-- So far. -/
def Far (l : List UInt8) (R : List (List UInt8)) (n : Nat) : Prop := scanL l = (R ++ (scanL (l.drop n)).1, n + (scanL (l.drop n)).2)
theorem Far.start (l : List UInt8) : Far l [] 0 := by simp [Far]
theorem Far.more {l : List UInt8} {R : List (List UInt8)} {n : Nat} (h : Far l R n) {x : List UInt8} (hx : nextL (l.drop n) = some x) : Far l (R ++ [x]) (n + (8 + x.length)) := by
  unfold Far at *
  rw [h, scan_some hx, List.drop_drop]
  simp [Nat.add_assoc]
theorem Far.done {l : List UInt8} {R : List (List UInt8)} {n : Nat} (h : Far l R n) (hx : nextL (l.drop n) = none) : scanL l = (R, n) := by
  unfold Far at h
  rw [h, scan_none hx]
  simp

/-! In memory. -/
abbrev Tri := Option Addr × Nat × List UInt8
def cellT (t : Tri) : Value := .slice t.1 t.2.2.length t.2.1
structure Recs (B : Nat) (w : World) (a : Option Addr) (c : Nat) (ts : List Tri) : Prop where
  own : w.ownsRow 0 22 1 (.slice a ts.length c) ts.length (ts.map cellT)
  base : ∀ k, blk a = some k → B ≤ k
  each : ∀ t ∈ ts, Vw w t.1 t.2.2.length t.2.1 1 (bvs t.2.2) ∧ ∀ k, blk t.1 = some k → B ≤ k ∧ k < w.heap.size ∧ blk a ≠ some k
theorem infoBytes : (Try.prog.info? 22).map (fun i => (i.zero, i.size, i.bytes)) = some (some (.slice none 0 0), 1, 24) := by kernel_rfl
theorem Recs.nil (B : Nat) (w : World) : Recs B w none 0 [] := ⟨World.ownsRow_nil _ _ _ _, (fun k h => by cases h), (fun t h => by cases h)⟩
theorem Recs.upd {B : Nat} {w w' : World} {a : Option Addr} {c : Nat} {ts : List Tri} (h : Recs B w a c ts) (hU : Upd (fun _ => False) w w') : Recs B w' a c ts :=
  ⟨ownsRow_upd h.own hU (fun _ _ h => h), h.base, fun t ht => ⟨(h.each t ht).1.upd hU (fun _ _ h => h), fun k hk => ⟨((h.each t ht).2 k hk).1, Nat.lt_of_lt_of_le ((h.each t ht).2 k hk).2.1 hU.size, ((h.each t ht).2 k hk).2.2⟩⟩⟩
theorem Recs.lt {B : Nat} {w : World} {a : Option Addr} {c : Nat} {ts : List Tri} (h : Recs B w a c ts) (k : Nat) (hk : blk a = some k) : k < w.heap.size := (h.own.lt k ((own_blk _ _ _).trans hk)).2
/-- One more, appended. w0: ahead of the copy; w1: the copy is made; w2: it lies in a row of its own; w3: appended. -/
theorem Recs.more {B : Nat} {w0 w1 w3 : World} {a a3 : Option Addr} {c c3 : Nat} {ts : List Tri} {t : Tri} (h : Recs B w0 a c ts) (hB : B ≤ w0.heap.size) (hU : Upd (fun _ => False) w0 w1)
    (hv : Vw w1 t.1 t.2.2.length t.2.1 1 (bvs t.2.2)) (hfr : ∀ g, blk t.1 = some g → w0.heap.size ≤ g) (hlt : ∀ g, blk t.1 = some g → g < w1.heap.size)
    (hown : w3.ownsRow 0 22 1 (.slice a3 (ts.length + 1) c3) (ts.length + 1) (ts.map cellT ++ [cellT t])) (hg : (w1.alloc (.cells #[cellT t] 22)).grownBy w3 (blk a))
    (hat : blk a3 = blk a ∨ blk a3 = some (w1.heap.size + 1)) : Recs B w3 a3 c3 (ts ++ [t]) ∧ Upd (fun i => B ≤ i) w0 w3 := by
  have hz := hU.size
  have hU1 := Upd.alloc (fun k => blk a = some k) w1 (Obj.cells #[cellT t] 22)
  have hU3 : Upd (fun k => blk a = some k) w1 w3 := hU1.trans (Upd.grown hg (fun k hk => hk))
  have hz3 := hU3.size
  have hz3' : w1.heap.size + 1 ≤ w3.heap.size := by
    have := (Upd.grown (S := fun k => blk a = some k) hg (fun k hk => hk)).size
    simpa using this
  refine ⟨⟨by simpa using hown, fun k hk => ?_, fun t' ht' => ?_⟩, ?_⟩
  · rcases hat with e | e
    · rw [e] at hk; exact h.base k hk
    · rw [e] at hk; cases hk; omega
  · rcases List.mem_append.1 ht' with h1 | h1
    · obtain ⟨v, hk'⟩ := h.each t' h1
      refine ⟨(v.upd hU (fun _ _ h => h)).upd hU3 (fun k hk => (hk' k hk).2.2), fun k hk => ?_⟩
      obtain ⟨p, q, r⟩ := hk' k hk
      refine ⟨p, by omega, fun e => ?_⟩
      rcases hat with e' | e'
      · exact r (e' ▸ e)
      · rw [e'] at e; cases e; omega
    · simp at h1
      subst h1
      refine ⟨hv.upd hU3 (fun k hk e => ?_), fun k hk => ?_⟩
      · have := hfr k hk
        have := h.lt k e
        omega
      · have h1 := hfr k hk
        have h2 := hlt k hk
        refine ⟨by omega, by omega, fun e => ?_⟩
        rcases hat with e' | e'
        · rw [e'] at e; have := h.lt k e; omega
        · rw [e'] at e; cases e; omega
  · exact (hU.mono (fun _ _ h => h.elim)).trans (hU3.mono (fun k _ hk => h.base k hk))
end Go.Proofs.Yteefceainlfdfaa
