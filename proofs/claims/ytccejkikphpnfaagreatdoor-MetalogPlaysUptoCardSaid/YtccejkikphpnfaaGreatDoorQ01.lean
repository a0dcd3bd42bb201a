
/- The walks of octets: what the writer's methods do. -/
import Derived.Test.YtccejkikphpnfaaGreatDoorRows
import Derived.WalkKit
import Derived.ProofKit
import Derived.OpenShut
import Derived.ShutString
import Derived.Below
import Derived.Lib.Hide
import Derived.WalkLawsBesides
import Derived.Deep.RegionHeld3
import Derived.Deep.AppendLies
import Derived.Deep.QuietTactic
import Derived.BigQuiet
import Derived.OwnWalk
import Derived.Outline
import Derived.IntWalk
import Derived.Deep.DeepCutAuto
import Derived.OrdersHeld
namespace Go.Proofs.YtccejkikphpnfaaGreatDoor
set_option linter.unusedSimpArgs false
set_option linter.unusedVariables false
set_option maxRecDepth 100000
open Go.ChangeShapes Go.WideShapes Go.ChangeAt Go.RowKit
/-- A byte as a value. -/
def bv (b : UInt8) : Value := .int .u8 (b.toNat : Int)
def bvs (l : List UInt8) : List Value := l.map bv
theorem bvs_length (l : List UInt8) : (bvs l).length = l.length := by simp [bvs]
theorem bvs_append (l k : List UInt8) : bvs (l ++ k) = bvs l ++ bvs k := by simp [bvs]
theorem bvs_cells (l : List UInt8) : ∀ u ∈ bvs l, u.oneCell' = true := by
 intro u hu; simp only [bvs, List.mem_map] at hu; obtain ⟨b, _, rfl⟩ := hu; rfl
/-- From w to w' only the blocks of S, and new ones, have changed. -/
structure Upd (S : Nat → Prop) (w w' : World) : Prop where
 os : w'.os = w.os
 tape : w'.tape = w.tape
 output : w'.output = w.output
 size : w.heap.size ≤ w'.heap.size
 block : ∀ k, k < w.heap.size → ¬ S k → w'.heap[k]? = w.heap[k]?
theorem Upd.refl (S : Nat → Prop) (w : World) : Upd S w w := ⟨rfl, rfl, rfl, Nat.le_refl _, fun _ _ _ => rfl⟩
theorem Upd.trans {S : Nat → Prop} {a b c : World} (h : Upd S a b) (k : Upd S b c) : Upd S a c :=
 ⟨k.os.trans h.os, k.tape.trans h.tape, k.output.trans h.output, Nat.le_trans h.size k.size, fun i hi hs => (k.block i (Nat.lt_of_lt_of_le hi h.size) hs).trans (h.block i hi hs)⟩
/-- What is new since a may be in the second set. -/
theorem Upd.next {S T : Nat → Prop} {a b c : World} (h : Upd S a b) (k : Upd T b c) (hT : ∀ i, i < a.heap.size → T i → S i) : Upd S a c :=
 ⟨k.os.trans h.os, k.tape.trans h.tape, k.output.trans h.output, Nat.le_trans h.size k.size, fun i hi hs => (k.block i (Nat.lt_of_lt_of_le hi h.size) (fun ht => hs (hT i hi ht))).trans (h.block i hi hs)⟩
theorem Upd.mono {S T : Nat → Prop} {a b : World} (h : Upd S a b) (hT : ∀ i, i < a.heap.size → S i → T i) : Upd T a b :=
 ⟨h.os, h.tape, h.output, h.size, fun i hi hs => h.block i hi (fun x => hs (hT i hi x))⟩
theorem Upd.below {S : Nat → Prop} {B : Nat} {a b : World} (h : Upd S a b) (hB : B ≤ a.heap.size) (hS : ∀ i, i < B → ¬ S i) : Below B a b :=
 ⟨h.os, h.tape, h.output, h.size, fun i hi => h.block i (Nat.lt_of_lt_of_le hi hB) (hS i hi)⟩
theorem Upd.of_below {B : Nat} {a b : World} (h : Below B a b) : Upd (fun i => B ≤ i) a b :=
 ⟨h.os, h.tape, h.output, h.size, fun i _ hs => h.block i (by omega)⟩
theorem Upd.drew (S : Nat → Prop) (w : World) : Upd S w w.drew := ⟨rfl, rfl, rfl, Nat.le_refl _, fun _ _ _ => rfl⟩
theorem Upd.drewN (S : Nat → Prop) (w : World) (n : Nat) : Upd S w (w.drewN n) := ⟨rfl, rfl, rfl, Nat.le_refl _, fun _ _ _ => rfl⟩
theorem Upd.alloc (S : Nat → Prop) (w : World) (o : Obj) : Upd S w (w.alloc o) := ⟨rfl, rfl, rfl, by simp, fun k hk _ => Below.heap_alloc _ _ _ hk⟩
theorem Upd.setCell {S : Nat → Prop} (w : World) {p : Addr} (hp : S p.block) (u : Value) : Upd S w (w.setCell p u) :=
 ⟨rfl, rfl, rfl, by simp [World.setCell], fun k _ hs => Below.heap_setCell _ _ _ _ (fun e => hs (e ▸ hp))⟩
theorem Upd.grown {S : Nat → Prop} {w w' : World} {row : Option Nat} (h : w.grownBy w' row) (hr : ∀ k, row = some k → S k) : Upd S w w' :=
 ⟨h.os, h.tape, h.output, h.size, fun k hk hs => h.block k hk (fun e => hs (hr k e.symm))⟩
theorem Upd.cell {S : Nat → Prop} {a b : World} (h : Upd S a b) {p : Addr} (hp : p.block < a.heap.size) (hS : ¬ S p.block) : b.cell? p = a.cell? p := World.cell?_of_block (h.block _ hp hS)
theorem lt_of_heap {w : World} {b : Nat} {o : Obj} (h : w.heap[b]? = some o) : b < w.heap.size := (Array.getElem?_eq_some_iff.1 h).1
/-- The lesser, the greater of two. -/
@[go_sem] theorem ite_min (x y : Int) : (if y < x then y else x) = min x y := by split <;> omega
@[go_sem] theorem ite_max (x y : Int) : (if x < y then y else x) = max x y := by split <;> omega
/-- The block to which a slice leads. -/
def blk (a : Option Addr) : Option Nat := a.map (·.block)
theorem own_blk (a : Option Addr) (n c : Nat) : (Value.slice a n c).ownBlock = blk a := by cases a <;> rfl
theorem setCell_heap {w : World} {b : Nat} {cs : Array Value} {t : TypeId} {fr : Nat × Nat} (o : Nat) (u : Value) (h : w.heap[b]? = some (.cells cs t fr)) :
  (w.setCell ⟨b, o, none⟩ u).heap[b]? = some (.cells (cs.setIfInBounds o u) t fr) := by
 simp [World.setCell, Array.getElem?_modify, h]
theorem ownsRow_setCell_ne {w : World} {base : Nat} {e : TypeId} {size : Nat} {v : Value} {n : Nat} {xs : List Value} (h : w.ownsRow base e size v n xs) {a : Addr} (ha : v.ownBlock ≠ some a.block) (u : Value) : (w.setCell a u).ownsRow base e size v n xs :=
 h.kept (row := some a.block) ⟨rfl, rfl, rfl, by simp [World.setCell], fun k _ hk => Below.heap_setCell _ _ _ _ (fun e => hk (e ▸ rfl))⟩ (.inr ha)
theorem ownsRow_upd {S : Nat → Prop} {w w' : World} {base : Nat} {e : TypeId} {size : Nat} {v : Value} {n : Nat} {xs : List Value} (h : w.ownsRow base e size v n xs) (hU : Upd S w w') (hS : ∀ k, v.ownBlock = some k → ¬ S k) : w'.ownsRow base e size v n xs := by
 refine ⟨h.1, ?_⟩
 rcases h.2 with hn | ⟨g, cap, cur, rfl, hb, hg, rest⟩
 ·exact .inl hn
 ·exact .inr ⟨g, cap, cur, rfl, hb, (hU.block g (lt_of_heap hg) (hS g rfl)).trans hg, rest⟩
theorem putL : (∀ (a : Act) (d : Tmp) (v : Value), a.put (some d) v = { a with tmps := a.tmps.setIfInBounds d v }) ∧ (∀ (a : Act) (v : Value), a.put none v = a) ∧
  (∀ {α : Type} (l : List α) (i : Nat) (h : i < l.toArray.size), l.toArray[i] = l[i]'(by simpa using h)) ∧ (∀ {α : Type} (x : α) (l : List α) (h : 0 < (x :: l).length), (x :: l)[0] = x) ∧
  (∀ {α : Type} (x : α) (l : List α) (i : Nat) (h : i + 1 < (x :: l).length), (x :: l)[i + 1] = l[i]'(Nat.lt_of_succ_lt_succ h)) ∧
  (∀ {α : Type} (l : List α) (i : Nat) (x : α), l.toArray.setIfInBounds i x = (l.set i x).toArray) ∧ (∀ {α : Type} (x y : α) (l : List α), (x :: l).set 0 y = y :: l) ∧
  (∀ {α : Type} (x y : α) (l : List α) (i : Nat), (x :: l).set (i + 1) y = x :: l.set i y) :=
 ⟨fun _ _ _ => rfl, fun _ _ => rfl, fun _ _ _ => List.getElem_toArray .., fun _ _ _ => rfl, fun _ _ _ _ => rfl, fun _ _ _ => List.setIfInBounds_toArray .., fun _ _ _ => rfl, fun _ _ _ _ => rfl⟩
section
variable {P : Program} {ops : Array Oper} {Q : Exit → Act → World → Prop} {md : Region.Mode} {S : World → Prop} {ex : Nat}
/-- As 'wpAnyH', but behind operation 'ex' nothing is asked of the world. -/
def wpAnyX (P : Program) (md : Region.Mode) (ops : Array Oper) (Q : Exit → Act → World → Prop) (S : World → Prop) (ex : Nat) : Nat → Array Bool → Act → World → Prop
 | 0, listed, a, w => Region.ready md ops listed = [] ∧ Q .normal a w
 | fuel + 1, listed, a, w =>
  (Region.ready md ops listed = [] → Q .normal a w) ∧
  ∀ i ∈ Region.ready md ops listed, wpOp P ops Q i (fun a' w' => (i = ex ∨ S w') ∧ wpAnyX P md ops Q S ex fuel (listed.setIfInBounds i true) a' w') a w
theorem wpAny_of_X : ∀ (fuel : Nat) (listed : Array Bool) (a : Act) (w : World), wpAnyX P md ops Q S ex fuel listed a w → wpAny P md ops Q fuel listed a w
 | 0, _, _, _, h => h
 | fuel + 1, _, _, _, h => ⟨h.1, fun i hi => wpOp_mono (fun a' w' h' => wpAny_of_X fuel _ a' w' h'.2) (h.2 i hi)⟩
/-- What is listed is listed with all that it waits for. -/
def Down (md : Region.Mode) (ops : Array Oper) (listed : Array Bool) : Prop :=
 ∀ (j : Nat) (o : Oper), ops[j]? = some o → listed.getD j false = true → ∀ e ∈ o.after, Region.binds md e = true → listed.getD e.on false = true
theorem Down.next {listed : Array Bool} {i : Nat} (h : Down md ops listed) (hi : i ∈ Region.ready md ops listed) : Down md ops (listed.setIfInBounds i true) := by
 intro j o ho hj e he hb
 obtain ⟨_, o', ho', hall⟩ := mem_ready.1 hi
 by_cases hji : i = j
 ·subst hji
  rw [ho] at ho'; cases ho'
  exact getD_set_true (hall e he hb)
 ·rw [getD_set_ne false hji] at hj
  exact getD_set_true (h j o ho hj e he hb)
/-- Everything else waits ahead of the last operation. -/
def lastOk (md : Region.Mode) (ops : Array Oper) : Bool :=
 (List.range (ops.size - 1)).all fun k => (List.range ops.size).any fun m => decide (k < m) && match ops[m]? with
  | some o => o.after.any fun e => Region.binds md e && e.on == k
  | none => false
theorem last_all {listed : Array Bool} (hok : lastOk md ops = true) (hd : Down md ops listed) (hs : listed.size = ops.size) (hr : ops.size - 1 ∈ Region.ready md ops listed) :
  ∀ i, i < ops.size → listed.getD i true = false → i = ops.size - 1 := by
 have key : ∀ n i, i < ops.size - 1 → ops.size - 1 - i ≤ n → listed.getD i false = true := by
  intro n
  induction n with
  | zero => intro i h1 h2; omega
  | succ n ih =>
   intro i h1 h2
   have h := List.all_eq_true.1 hok i (List.mem_range.2 h1)
   obtain ⟨m, hm, hx⟩ := List.any_eq_true.1 h
   have hm := List.mem_range.1 hm
   simp only [Bool.and_eq_true, decide_eq_true_eq] at hx
   obtain ⟨hlt, hx⟩ := hx
   cases ho : ops[m]? with
   | none => rw [ho] at hx; cases hx
   | some o =>
    rw [ho] at hx
    obtain ⟨e, he, hb⟩ := Array.any_eq_true'.1 hx
    simp only [Bool.and_eq_true, beq_iff_eq] at hb
    obtain ⟨hb1, hb2⟩ := hb
    by_cases hml : m = ops.size - 1
    ·subst hml
     obtain ⟨_, o', ho', hall⟩ := mem_ready.1 hr
     rw [ho] at ho'; cases ho'
     exact hb2 ▸ hall e he hb1
    ·exact hb2 ▸ hd m o ho (ih m (by omega) (by omega)) e he hb1
 intro i hi hu
 rcases Nat.lt_or_ge i (ops.size - 1) with h | h
 ·have := key _ i h (Nat.le_refl _)
  have hlt : i < listed.size := by omega
  simp [hlt] at this hu
  rw [this] at hu; cases hu
 ·omega
theorem wpAnyX_first {i : Nat} {oi : Oper} {v : Value} (hi : ops[i]? = some oi) (hsel : ∀ (j : Nat) (o : Oper) cs b, ops[j]? = some o → o.op ≠ .select cs b)
  (hQ : ∀ c a w, Q (.panic c) (a.put oi.dst v) w → Q (.panic c) a w)
  (hex : ∀ listed : Array Bool, listed.size = ops.size → Down md ops listed → ex ∈ Region.ready md ops listed → ∀ k, k < ops.size → listed.getD k true = false → k = ex) :
  ∀ (fuel : Nat) (listed : Array Bool) (a : Act) (w : World), listed.size = ops.size → Down md ops listed →
   (∀ j oj, ops[j]? = some oj → j ≠ i → listed.getD j true = false → (∀ e ∈ oj.after, Region.binds md e = true → e.on ≠ i) → oi.apart ops oj = true) →
   i ∈ Region.ready md ops listed → YieldsIf P ops S oi v a → S w →
   wpAnyX P md ops Q S ex fuel (listed.setIfInBounds i true) (a.put oi.dst v) w → wpAnyX P md ops Q S ex (fuel + 1) listed a w := by
 intro fuel
 induction fuel with
 | zero =>
  intro listed a w _ _ _ hr hy hS H
  refine ⟨fun h => (by rw [h] at hr; cases hr), fun j hj => ?_⟩
  by_cases hji : j = i
  ·subst hji; exact hy.wpOp hi hS ⟨.inr hS, H⟩
  ·have := ready_mono hj hji
   rw [H.1] at this
   cases this
 | succ fuel ih =>
  intro listed a w hsz hdn hfree hr hy hS H
  refine ⟨fun h => (by rw [h] at hr; cases hr), fun j hj => ?_⟩
  by_cases hji : j = i
  ·subst hji; exact hy.wpOp hi hS ⟨.inr hS, H⟩
  ·have hjx : j ≠ ex := fun e => by
    subst e
    exact hji (hex listed hsz hdn hj i (Array.getElem?_eq_some_iff.1 hi).1 (mem_ready.1 hr).1).symm
   have h1 := H.2 j (ready_mono hj hji)
   obtain ⟨hjun, oj, hoj, hall⟩ := mem_ready.1 hj
   have hnot : ∀ e ∈ oj.after, Region.binds md e = true → e.on ≠ i := fun e he hb heq => by
    have h1 := hall e he hb
    have h0 := (mem_ready.1 hr).1
    rw [heq] at h1
    rcases Nat.lt_or_ge i listed.size with h' | h'
    ·simp [h'] at h0 h1; rw [h0] at h1; cases h1
    ·simp [Array.getElem?_eq_none h'] at h1
   have h2 := wpOp_putIf hoj (hfree j oj hoj hji hjun hnot) (fun cs b => hsel i oi cs b hi) (fun cs b => hsel j oj cs b hoj) hQ hy h1
   refine wpOp_mono (fun a' w' h3 => ?_) h2
   have hS' : S w' := h3.2.1.resolve_left hjx
   refine ⟨.inr hS', ih (listed.setIfInBounds j true) a' w' (by simpa using hsz) (hdn.next hj) ?_ (ready_mono hr (Ne.symm hji)) h3.1 hS' ?_⟩
   ·intro k ok hk hki hun hno
    refine hfree k ok hk hki ?_ hno
    by_cases hjk : j = k
    ·subst hjk; exact hjun
    ·rw [getD_set_ne true hjk] at hun; exact hun
   ·rw [Array.setIfInBounds_comm _ _ hji]
    exact h3.2.2
/-! The plan -/
/-- The operations 'l' yield, one behind the other, whatever the world, if it meets S; then N. -/
def takes (P : Program) (ops : Array Oper) (S : World → Prop) : List Nat → (Act → Prop) → Act → Prop
 | [], N, a => N a
 | i :: r, N, a => ∃ o v, ops[i]? = some o ∧ YieldsIf P ops S o v a ∧ takes P ops S r N (a.put o.dst v)
/-- No way out by a panic. -/
def calmQ (Q : Exit → Act → World → Prop) : Exit → Act → World → Prop
 | .panic _, _, _ => False
 | e, a, w => Q e a w
def planWp (P : Program) (ops : Array Oper) (Q : Exit → Act → World → Prop) (S : World → Prop) (ex : Nat) : List (List Nat × Nat) → List Nat → Act → World → Prop
 | [], last, a, w => takes P ops S last (fun A => Q .normal A w) a
 | (seg, e) :: rest, last, a, w => takes P ops S seg (fun A => ∃ o, ops[e]? = some o ∧
   wpList P ops (Exit.then (fun a' w' => (e = ex ∨ S w') ∧ planWp P ops Q S ex rest last a' w') (calmQ Q)) [o] A w) a
def takesOk (md : Region.Mode) (ops : Array Oper) : List Nat → Array Bool → Bool
 | [], _ => true
 | i :: r, listed => Region.free md ops listed i && (Region.ready md ops listed).contains i && takesOk md ops r (listed.setIfInBounds i true)
def marked (l : List Nat) (listed : Array Bool) : Array Bool := l.foldl (fun b i => b.setIfInBounds i true) listed
def planOk (md : Region.Mode) (ops : Array Oper) : List (List Nat × Nat) → List Nat → Array Bool → Bool
 | [], last, listed => takesOk md ops last listed && (Region.ready md ops (marked last listed)).isEmpty
 | (seg, e) :: rest, last, listed => takesOk md ops seg listed && (Region.ready md ops (marked seg listed) == [e]) && planOk md ops rest last ((marked seg listed).setIfInBounds e true)
def planSize : List (List Nat × Nat) → List Nat → Nat
 | [], last => last.length
 | (seg, _) :: rest, last => seg.length + 1 + planSize rest last
theorem takes_sound (hs : Region.noSelect ops = true) (hQ : ∀ c a w, ¬ Q (.panic c) a w)
  (hex : ∀ listed : Array Bool, listed.size = ops.size → Down md ops listed → ex ∈ Region.ready md ops listed → ∀ k, k < ops.size → listed.getD k true = false → k = ex) (fuel : Nat) :
  ∀ (l : List Nat) (listed : Array Bool) (a : Act) (w : World) (N : Act → Prop), listed.size = ops.size → Down md ops listed → takesOk md ops l listed = true → S w →
   (∀ A, (marked l listed).size = ops.size → Down md ops (marked l listed) → N A → wpAnyX P md ops Q S ex fuel (marked l listed) A w) → takes P ops S l N a → wpAnyX P md ops Q S ex (l.length + fuel) listed a w := by
 intro l
 induction l with
 | nil => intro listed a w N h1 h2 _ _ h h'; have := h a h1 h2 h'; simpa [marked] using this
 | cons i r ih =>
  intro listed a w N h1 h2 hok hS h h'
  obtain ⟨o, v, ho, hy, h'⟩ := h'
  simp only [takesOk, Bool.and_eq_true] at hok
  obtain ⟨⟨hf, hr⟩, hok⟩ := hok
  have hr : i ∈ Region.ready md ops listed := by simpa using hr
  have := ih (listed.setIfInBounds i true) (a.put o.dst v) w N (by simpa using h1) (h2.next hr) hok hS h h'
  rw [show (i :: r).length + fuel = (r.length + fuel) + 1 from by simp only [List.length_cons]; omega]
  exact wpAnyX_first ho (Region.noSelect_spec hs) (fun c a w hq => absurd hq (hQ _ _ _)) hex _ listed a w h1 h2 (Region.free_spec ho hf) hr hy hS this
theorem calmQ_imp : ∀ (e : Exit) (a : Act) (w : World), calmQ Q e a w → Q e a w := fun e a w h => by
 cases e <;> first | exact h | exact (h : False).elim
theorem plan_sound (hs : Region.noSelect ops = true)
  (hex : ∀ listed : Array Bool, listed.size = ops.size → Down md ops listed → ex ∈ Region.ready md ops listed → ∀ k, k < ops.size → listed.getD k true = false → k = ex) :
  ∀ (plan : List (List Nat × Nat)) (last : List Nat) (listed : Array Bool) (a : Act) (w : World), listed.size = ops.size → Down md ops listed → planOk md ops plan last listed = true →
   (S w ∨ plan = [] ∧ last = []) → planWp P ops Q S ex plan last a w → wpAnyX P md ops (calmQ Q) S ex (planSize plan last) listed a w := by
 intro plan
 induction plan with
 | nil =>
  intro last listed a w h1 h2 hok hS h
  simp only [planOk, Bool.and_eq_true, List.isEmpty_iff] at hok
  rcases hS with hS | ⟨_, rfl⟩
  ·have := takes_sound (P := P) (Q := calmQ Q) (S := S) hs (fun _ _ _ h => h) hex 0 last listed a w (fun A => Q .normal A w) h1 h2 hok.1 hS (fun A _ _ hA => ⟨hok.2, hA⟩) h
   simpa [planSize] using this
  ·exact ⟨hok.2, h⟩
 | cons x rest ih =>
  obtain ⟨seg, e⟩ := x
  intro last listed a w h1 h2 hok hS h
  have hS : S w := hS.resolve_right (by simp)
  simp only [planOk, Bool.and_eq_true, beq_iff_eq] at hok
  obtain ⟨⟨hok1, hok2⟩, hok3⟩ := hok
  rw [show planSize ((seg, e) :: rest) last = seg.length + (planSize rest last + 1) from by simp [planSize]; omega]
  refine takes_sound (P := P) (Q := calmQ Q) (S := S) hs (fun _ _ _ h => h) hex (planSize rest last + 1) seg listed a w _ h1 h2 hok1 hS ?_ h
  intro A hz hd hN
  obtain ⟨o, ho, hA⟩ := hN
  refine ⟨fun h0 => (by rw [hok2] at h0; cases h0), fun i hi => ?_⟩
  have hmem := hi
  rw [hok2, List.mem_singleton] at hi
  subst hi
  have hA : wpOp P ops (calmQ Q) i (fun a' w' => (i = ex ∨ S w') ∧ planWp P ops Q S ex rest last a' w') A w := by
   unfold wpOp
   rw [ho]
   simp only [wpList] at hA
   have hK : ∀ (a' : Act) (w' : World), Exit.then (fun a' w' => (i = ex ∨ S w') ∧ planWp P ops Q S ex rest last a' w') (calmQ Q) .normal a' w' → ((i = ex ∨ S w') ∧ planWp P ops Q S ex rest last a' w') := fun _ _ h => h
   split at hA
   ·rename_i hw
    simp only [hw, if_true]
    rcases hA with hA | hA
    ·refine .inl ?_
     unfold Oper.wp at *
     generalize (execOp A.eval o).run P w = r at *
     cases r with
     | ok n w' =>
      cases n <;> simp only [Oper.upon] at hA ⊢ <;> exact hA
     | halt x w' => cases x <;> simp only [Oper.upon] at hA ⊢ <;> exact hA
    ·exact .inr ⟨hA.1, hA.2⟩
   ·rename_i hw
    simp only [hw]
    exact hA
  refine wpOp_mono (fun a' w' h3 => ⟨h3.1, ?_⟩) hA
  refine ih last _ a' w' (by simpa using hz) (hd.next hmem) hok3 ?_ h3.2
  rcases h3.1 with rfl | h4
  ·-- behind the last one nothing is left
   right
   have hall := hex _ hz hd hmem
   have hnone : ∀ k, k < ops.size → ((marked seg listed).setIfInBounds i true).getD k true = true := by
    intro k hk
    by_cases hki : i = k
    ·subst hki
     simp [show i < (marked seg listed).size by omega]
    ·rw [getD_set_ne true hki]
     cases hv : (marked seg listed).getD k true
     ·exact absurd (hall k hk hv).symm hki
     ·rfl
   have hempty : Region.ready md ops ((marked seg listed).setIfInBounds i true) = [] := by
    cases hr : Region.ready md ops ((marked seg listed).setIfInBounds i true) with
    | nil => rfl
    | cons x xs =>
     have hx : x ∈ Region.ready md ops ((marked seg listed).setIfInBounds i true) := by rw [hr]; simp
     obtain ⟨h0, o', ho', _⟩ := mem_ready.1 hx
     rw [hnone x (Array.getElem?_eq_some_iff.1 ho').1] at h0
     cases h0
   cases rest with
   | nil =>
    refine ⟨rfl, ?_⟩
    cases last with
    | nil => rfl
    | cons y ys =>
     simp only [planOk, takesOk, Bool.and_eq_true] at hok3
     have := hok3.1.1.2
     rw [hempty] at this
     simp at this
   | cons y ys =>
    obtain ⟨seg2, e2⟩ := y
    simp only [planOk, Bool.and_eq_true, beq_iff_eq] at hok3
    cases seg2 with
    | nil =>
     have := hok3.1.2
     simp only [marked, List.foldl_nil] at this
     rw [show Region.ready md ops ((List.foldl (fun b i => b.setIfInBounds i true) listed seg).setIfInBounds i true) = [] from hempty] at this
     cases this
    | cons z zs =>
     have := hok3.1.1
     simp only [takesOk, Bool.and_eq_true] at this
     have := this.1.2
     rw [hempty] at this
     simp at this
  ·exact .inl h4
theorem down_none (n : Nat) : Down md ops (Array.replicate n false) := by
 intro j o _ hj
 rcases Nat.lt_or_ge j n with h | h
 ·simp [h] at hj
 ·simp [Nat.not_lt.2 h] at hj
/-- THE LAW, WHERE EVERYTHING WAITS AHEAD OF THE LAST OPERATION: behind it nothing is asked. -/
theorem wp_region_plan_last {id : Nat} {a : Act} {w : World} (plan : List (List Nat × Nat)) (last : List Nat) (S : World → Prop) (hm : P.follows .mixedOrders = true)
  (hok : (Region.noSelect ops && lastOk .any ops && planOk .any ops plan last (Array.replicate ops.size false) && planSize plan last == ops.size) = true) (hS : S w.drew)
  (h : planWp P ops Q S (ops.size - 1) plan last a w.drew) : (Code.region id ops true).wp P Q a w := by
 simp only [Bool.and_eq_true, beq_iff_eq] at hok
 obtain ⟨⟨⟨h1, h2⟩, h3⟩, h4⟩ := hok
 have key := plan_sound h1 (fun l hz hd hx => last_all h2 hd hz hx) plan last (Array.replicate ops.size false) a _ (by simp) (down_none _) h3 (.inl hS) h
 rw [h4] at key
 exact Code.wp_mono calmQ_imp (wp_region_any hm (wpAny_of_X (S := S) (ex := ops.size - 1) _ _ _ _ key))
/-! The moves -/
theorem plan_take {i e : Nat} {r : List Nat} {rest : List (List Nat × Nat)} {last : List Nat} {a : Act} {w : World} {o : Oper} {v : Value} (ho : ops[i]? = some o) (hw : Region.wanted o (yielded ops a.tmps) = true)
  (hy : ∀ w', S w' → (execOp a.eval o).run P w' = .ok (.value v) w') (h : planWp P ops Q S ex ((r, e) :: rest) last (a.put o.dst v) w) : planWp P ops Q S ex ((i :: r, e) :: rest) last a w :=
 ⟨o, v, ho, .inl ⟨hw, hy⟩, h⟩
theorem plan_skip {i e : Nat} {r : List Nat} {rest : List (List Nat × Nat)} {last : List Nat} {a : Act} {w : World} {o : Oper} (ho : ops[i]? = some o) (hw : Region.wanted o (yielded ops a.tmps) = false)
  (h : planWp P ops Q S ex ((r, e) :: rest) last (a.put o.dst undef) w) : planWp P ops Q S ex ((i :: r, e) :: rest) last a w :=
 ⟨o, undef, ho, .inr ⟨hw, rfl⟩, h⟩
theorem plan_last {i : Nat} {r : List Nat} {a : Act} {w : World} {o : Oper} {v : Value} (ho : ops[i]? = some o) (hw : Region.wanted o (yielded ops a.tmps) = true)
  (hy : ∀ w', S w' → (execOp a.eval o).run P w' = .ok (.value v) w') (h : planWp P ops Q S ex [] r (a.put o.dst v) w) : planWp P ops Q S ex [] (i :: r) a w :=
 ⟨o, v, ho, .inl ⟨hw, hy⟩, h⟩
theorem plan_lskip {i : Nat} {r : List Nat} {a : Act} {w : World} {o : Oper} (ho : ops[i]? = some o) (hw : Region.wanted o (yielded ops a.tmps) = false)
  (h : planWp P ops Q S ex [] r (a.put o.dst undef) w) : planWp P ops Q S ex [] (i :: r) a w :=
 ⟨o, undef, ho, .inr ⟨hw, rfl⟩, h⟩
theorem plan_end {a : Act} {w : World} (h : Q .normal a w) : planWp P ops Q S ex [] [] a w := h
/-- An operation that acts: what follows stands behind a letter. -/
theorem plan_act {e : Nat} {rest : List (List Nat × Nat)} {last : List Nat} {a : Act} {w : World} {o : Oper} (ho : ops[e]? = some o)
  (h : ∀ K : Act → World → Prop, Shut (∀ a' w', (e = ex ∨ S w') → planWp P ops Q S ex rest last a' w' → K a' w') → wpList P ops (Exit.then K (calmQ Q)) [o] a w) : planWp P ops Q S ex (([], e) :: rest) last a w :=
 ⟨o, ho, h _ (fun _ _ h1 h2 => ⟨h1, h2⟩)⟩
end
theorem infoU8 : (Tryz.prog.info? 5).map (fun i => (i.zero, i.size, i.bytes)) = some (some (.int .u8 0), 1, 1) := by kernel_rfl
/-- The bytes of a number, the lowest first. -/
def le (x : Nat) : Nat → List UInt8
 | 0 => []
 | n + 1 => UInt8.ofNat x :: le (x / 256) n
theorem le_length (x n : Nat) : (le x n).length = n := by induction n generalizing x <;> simp [le, *]
theorem le_snoc (x k : Nat) : le x (k + 1) = le x k ++ [UInt8.ofNat (x / 256 ^ k)] := by
 induction k generalizing x with
 | zero => simp [le]
 | succ k ih => rw [le, ih, le, List.cons_append, Nat.div_div_eq_div_mul, Nat.pow_succ, Nat.mul_comm 256]
/-- A writer: the block bw holds the slice (a, n, c), which owns the bytes l. -/
structure Wr (w : World) (bw : Nat) (T : TypeId) (a : Option Addr) (c : Nat) (l : List UInt8) : Prop where
 here : w.heap[bw]? = some (.cells #[.slice a l.length c] T (0, 0))
 own : w.ownsRow 0 5 1 (.slice a l.length c) l.length (bvs l)
 ne : blk a ≠ some bw
/-- The blocks of a writer. -/
def WrS (bw : Nat) (a : Option Addr) : Nat → Prop := fun k => k = bw ∨ blk a = some k
/-- Where its bytes lie now: where they lay, or in a new block. -/
def Slid (w : World) (a a' : Option Addr) : Prop := ∀ g, blk a' = some g → blk a = some g ∨ w.heap.size ≤ g
/-- What a writer's method leaves: it has written k more. -/
def Wrote (w : World) (bw : Nat) (T : TypeId) (a : Option Addr) (l : List UInt8) (e : Ending) (w' : World) : Prop :=
 e = .returned (.tuple #[]) ∧ ∃ a' c', Wr w' bw T a' c' l ∧ Upd (WrS bw a) w w' ∧ Slid w a a'
theorem wr_store {w1 : World} {bw g cap : Nat} {T : TypeId} {v0 : Value} {lk : List UInt8} {b : UInt8} (hb : w1.heap[bw]? = some (.cells #[v0] T (0, 0)))
  (ho : w1.ownsRow 0 5 1 (.slice (some ⟨g, 0, none⟩) (lk.length + 1) cap) (lk.length + 1) (bvs lk ++ [bv b])) (hne : g ≠ bw) :
  Wr (w1.setCell ⟨bw, 0, none⟩ (.slice (some ⟨g, 0, none⟩) (lk.length + 1) cap)) bw T (some ⟨g, 0, none⟩) cap (lk ++ [b]) := by
 refine ⟨?_, ?_, ?_⟩
 ·rw [setCell_heap 0 _ hb]; simp
 ·have := ownsRow_setCell_ne ho (a := ⟨bw, 0, none⟩) (by simpa [Value.ownBlock] using hne) (.slice (some ⟨g, 0, none⟩) (lk.length + 1) cap)
  simpa [bvs] using this
 ·simpa [blk] using hne
theorem held_any (n : Int) (w : World) : Calls Tryz.prog 83 #[.int .i64 n] w fun e w' => e = .returned (.int .i64 (min (max n 1) 8)) ∧ w = w' := by
 go_enter Tryz.func83, Tryz.ntmps83
 go_wp2
 go_ret
 exact ⟨rfl, rfl⟩
/-- The byte that is appended, as the walk spells it. -/
theorem byte_of (x k : Nat) : Value.int IntKind.u8 ((x : Int) / 2 ^ (8 * k) % 256) = bv (UInt8.ofNat (x / 256 ^ k)) := by
 have e2 : (2 : Int) ^ (8 * k) = ((256 ^ k : Nat) : Int) := by rw [Int.pow_mul]; simp
 rw [e2]
 simp only [bv, UInt8.toNat_ofNat']
 generalize 256 ^ k = m
 rfl
set_option maxHeartbeats 1000000 in
theorem num_any (bw : Nat) (T : TypeId) (a : Option Addr) (c : Nat) (l : List UInt8) (x : Nat) (n : Int) (w : World) (hw : Wr w bw T a c l) (hx : x < 2 ^ 64) (hl : l.length ≤ 100000000) :
  Calls Tryz.prog 44 #[.pointer (some ⟨bw, 0, none⟩), .int .u64 x, .int .i64 n] w (Wrote w bw T a (l ++ le x (min (max n 1) 8).toNat)) := by
 obtain ⟨i0, hi, hz0, hz1, hz2⟩ := info_parts infoU8
 go_enter Tryz.func44, Tryz.ntmps44
 go_wp2_with (go_at_call 83; refine (held_any _ _).mono ?_; rintro e w' ⟨rfl, rfl⟩)
 go_loopw [11] (fun i wr => ∃ k : Nat, (k : Int) ≤ min (max n 1) 8 ∧ i = .int .i64 k ∧ ∃ a' c' lk, Hid (lk = l ++ le x k) ∧ Wr wr bw T a' c' lk ∧ Upd (WrS bw a) w wr ∧ Slid w a a') (fun i _ => 8 - (intOf i).toNat)
 case atStart => exact ⟨0, by omega, rfl, a, c, l, (by show _ = _; simp [le]), hw, Upd.refl _ _, fun g h => .inl h⟩
 case round =>
  obtain ⟨k, hk, rfl, a', c', lk, hlk, hW, hU, hG⟩ := hrel
  by_cases hlt : (k : Int) < min (max n 1) 8
  ·have hc : wr.cell? ⟨bw, 0, none⟩ = some (.slice a' lk.length c') := by rw [cell_of_row _ _ _ _ _ _ hW.here]; rfl
   have hf : wr.frozen? ⟨bw, 0, none⟩ = false := by simp [World.frozen?, hW.here]
   have hmul : IntKind.i64.wrap (8 * ↑k) = 8 * ↑k := IntWalk.i64_in _ (by omega)
   have h0 : (0 : Int) ≤ 8 * ↑k := by omega
   have hlen : lk.length ≤ 200000000 := by rw [hlk.out]; simp [le_length]; omega
   have hlt0 : bw < wr.heap.size := lt_of_heap hW.here
   go_wp2_with fail
   refine wp_region_plan_last [([0, 1, 2, 3, 4, 5, 6, 7, 8, 9], 10), ([], 11), ([12, 13], 14)] [] (fun w' => w'.cell? ⟨bw, 0, none⟩ = some (.slice a' lk.length c')) (by kernel_rfl) (by kernel_rfl) hc ?_
   iterate 10
    refine plan_take (v := ?_) rfl rfl (fun w' hS => ?_) ?_
    rotate_left; · (go_simp; try with_reducible rfl)
    simp only [putL]
   refine plan_act rfl (fun K hK => ?_)
   go_wp2_with fail
   rw [byte_of x k]
   have hown := (hW.own.alloc (Obj.cells #[bv (UInt8.ofNat (x / 256 ^ k))] 5)).drew
   have hnew : (wr.alloc (Obj.cells #[bv (UInt8.ofNat (x / 256 ^ k))] 5)).drew.heap[wr.heap.size]? = _ := heap_alloc_new wr _
   have hc1 : (wr.alloc (Obj.cells #[bv (UInt8.ofNat (x / 256 ^ k))] 5)).drew.cell? ⟨bw, 0, none⟩ = some (.slice a' lk.length c') := (World.cell?_alloc_lt _ _ _ hlt0).trans hc
   have hf1 : (wr.alloc (Obj.cells #[bv (UInt8.ofNat (x / 256 ^ k))] 5)).drew.frozen? ⟨bw, 0, none⟩ = false := (World.frozen?_of_block (w := wr) (Below.heap_alloc _ _ _ hlt0)).trans hf
   have hblk1 : (wr.alloc (Obj.cells #[bv (UInt8.ofNat (x / 256 ^ k))] 5)).drew.heap[bw]? = _ := (Below.heap_alloc wr _ _ hlt0).trans hW.here
   have hU1 : Upd (WrS bw a) w (wr.alloc (Obj.cells #[bv (UInt8.ofNat (x / 256 ^ k))] 5)).drew := (hU.next (Upd.alloc (WrS bw a) wr _) (fun _ _ h => h)).next (Upd.drew (WrS bw a) _) (fun _ _ h => h)
   have hz : (wr.alloc (Obj.cells #[bv (UInt8.ofNat (x / 256 ^ k))] 5)).drew.heap.size = wr.heap.size + 1 := by simp
   have hw0 := hU.size
   generalize hWd : (wr.alloc (Obj.cells #[bv (UInt8.ofNat (x / 256 ^ k))] 5)).drew = wd at *
   clear hWd
   refine hK.out _ _ (.inr hc1) ?_
   refine plan_act rfl (fun K hK => ?_)
   refine wpList_append_lies _ rfl (.tmp 18) (.tmp 24) 33 rfl 0 5 i0 (.int .u8 0) 1 1 Tryz.underlying33 hi hz0 hz1 hz2 rfl (by decide) (.slice a' lk.length c') lk.length (bvs lk) rfl hown ⟨wr.heap.size, 0, none⟩ 1 1 [bv (UInt8.ofNat (x / 256 ^ k))] rfl rfl (World.news_of_block hnew) (fun u hu => by simp at hu; subst hu; rfl) (by decide) (by unfold maxLen; omega) (by omega) (Nat.zero_le _) _ rfl ?_
   intro g cap w1 hown1 hgrow hat hlt1
   have hc2 := hgrow.cell hc1 (fun e => hW.ne ((own_blk _ _ _).symm.trans e.symm))
   have hf2 := (hgrow.frozen_far ⟨bw, 0, none⟩ (by show bw < _; omega) (fun e => hW.ne ((own_blk _ _ _).symm.trans e.symm))).trans hf1
   have hblk2 := (hgrow.block bw (by omega) (fun e => hW.ne ((own_blk _ _ _).symm.trans e.symm))).trans hblk1
   go_wp2_with fail
   refine hK.out _ _ (.inr hc2) ?_
   iterate 2
    refine plan_take (v := ?_) rfl rfl (fun w' hS => ?_) ?_
    rotate_left; · (go_simp; try with_reducible rfl)
    simp only [putL]
   refine plan_act rfl (fun K hK => ?_)
   go_wp2_with fail
   refine hK.out _ _ (.inl rfl) (plan_end ?_)
   go_wp2_with fail
   rw [own_blk] at hat
   have hgne : g ≠ bw := by
    rcases hat with h | h
    ·rintro rfl; exact hW.ne h
    ·omega
   have hW' := wr_store (b := UInt8.ofNat (x / 256 ^ k)) hblk2 hown1 hgne
   have hU' : Upd (WrS bw a) w (w1.setCell ⟨bw, 0, none⟩ (.slice (some ⟨g, 0, none⟩) (lk.length + 1) cap)) := by
    refine (hU1.next (Upd.grown (S := fun k => blk a' = some k) hgrow (fun k hk => (own_blk _ _ _).symm.trans hk)) (fun i hi hs => ?_)).next (Upd.setCell (S := fun k => k = bw) w1 rfl _) (fun i _ hs => .inl hs)
    rcases hG i hs with h | h
    ·exact .inr h
    ·omega
   have hG' : Slid w a (some ⟨g, 0, none⟩) := by
    intro j hj
    simp only [blk, Option.map_some, Option.some.injEq] at hj
    subst hj
    rcases hat with h | h
    ·exact hG _ h
    ·right; omega
   go_roundw
   case rel => exact ⟨k + 1, by omega, by go_num, _, _, _, (by show _ = _; rw [le_snoc, ← List.append_assoc, ← hlk.out]), hW', hU', hG'⟩
   case measure => simp [intOf]; omega
  ·go_wp2_with fail
   go_end0
   have e : (min (max n 1) 8).toNat = k := by omega
   exact ⟨rfl, a', c', by rw [e, ← hlk.out]; exact hW, hU, hG⟩
end Go.Proofs.YtccejkikphpnfaaGreatDoor
