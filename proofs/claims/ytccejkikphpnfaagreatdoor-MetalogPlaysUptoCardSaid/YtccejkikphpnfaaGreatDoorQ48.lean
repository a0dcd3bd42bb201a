
/- As XReg's law, with another condition on the world behind one operation (c) than ahead of it. -/
import Derived.Test.YtccejkikphpnfaaGreatDoorQ32
import Derived.Test.YtccejkikphpnfaaGreatDoorQ47
namespace Go.Proofs.YtccejkikphpnfaaGreatDoor
set_option linter.unusedSimpArgs false
set_option linter.unusedVariables false
set_option maxRecDepth 100000
open Go.ChangeShapes Go.WideShapes Go.ChangeAt Go.RowKit
def ownR (r : Rt) (a1 : Option Addr) (c1 : Nat) (a : Option Addr) (c : Nat) (a3 : Option Addr) (c3 : Nat) : Array Value := #[.int .i64 r.p, .slice a1 r.ks.length c1, .slice a r.ms.length c, .slice a3 r.ns.length c3, .int .i64 r.k]
/-- In own's round. -/
structure Po (w : World) (r : Rt) (X : Nat) (xs : List Mk) (a1 : Option Addr) (c1 : Nat) (a : Option Addr) (c : Nat) (a3 : Option Addr) (c3 : Nat) (wr : World) : Prop where
 row : wr.heap[w.heap.size]? = some (.cells (ownR r a1 c1 a c a3 c3) 26)
 res : wr.heap[w.heap.size + 1]? = some (.cells (rtA rt0) 26)
 own : wr.ownsRow (w.heap.size + 2) 77 2 (.slice a r.ms.length c) r.ms.length (xs.flatMap mkV)
 ky : Vw wr a1 r.ks.length c1 32 (r.ks.flatMap kyV)
 nm : Vw wr a3 r.ns.length c3 2 (r.ns.flatMap nmV)
 a1b : ∀ k, blk a1 = some k → w.heap.size + 2 ≤ k ∧ blk a ≠ some k
 a3b : ∀ k, blk a3 = some k → w.heap.size + 2 ≤ k ∧ blk a ≠ some k
 ins : ∀ m ∈ xs, MkIn wr m ∧ ∀ k, blk m.a = some k → blk a ≠ some k ∧ k ≠ w.heap.size + 1 ∧ k ≠ X
 same : xs.map mkC = r.ms.map mkC
 upd : Upd (fun _ => False) w wr
theorem flat_setM (xs : List Mk) (j : Nat) (m : Mk) (v : Value) (hj : j < xs.length) (hm : mkV m = [.int .i64 (xs[j]).old, v]) : (xs.flatMap mkV).set (j * 2 + 1) v = (xs.set j m).flatMap mkV := by
 induction xs generalizing j with
 | nil => cases hj
 | cons x r ih =>
  cases j with
  | zero =>
   simp only [List.flatMap_cons, List.set_cons_zero, List.getElem_cons_zero] at hm ⊢
   rw [hm]
   rfl
  | succ j =>
   simp only [List.flatMap_cons, List.set_cons_succ, List.getElem_cons_succ, List.length_cons] at hm hj ⊢
   rw [← ih j (by omega) hm]
   rw [show (j + 1) * 2 + 1 = (mkV x).length + (j * 2 + 1) from by rw [mkV_len]; omega, List.set_append]
   rw [if_neg (by omega), Nat.add_sub_cancel_left]
section
variable {w wr w2 : World} {r : Rt} {xs : List Mk} {a a1 a3 : Option Addr} {c c1 c3 g X : Nat}
theorem Po.other (h : Po w r X xs a1 c1 a c a3 c3 wr) (hU : Upd (fun _ => False) wr w2) : Po w r X xs a1 c1 a c a3 c3 w2 :=
 ⟨(hU.block _ (lt_of_heap h.row) (fun h => h)).trans h.row, (hU.block _ (lt_of_heap h.res) (fun h => h)).trans h.res, ownsRow_upd h.own hU (fun _ _ h => h), h.ky.upd hU (fun _ _ h => h), h.nm.upd hU (fun _ _ h => h), h.a1b, h.a3b, fun m hm => ⟨(h.ins m hm).1.upd hU, (h.ins m hm).2⟩, h.same, h.upd.trans hU⟩
theorem Po.len (h : Po w r X xs a1 c1 a c a3 c3 wr) : xs.length = r.ms.length := by have := congrArg List.length h.same; simpa using this
theorem Po.step (h : Po w r X xs a1 c1 (some ⟨g, 0, none⟩) c a3 c3 w2) (j : Nat) (x : Mk) (hx : xs[j]? = some x) (a' : Option Addr) (c' : Nat) (hf : Vw w2 a' x.new.length c' 1 (x.new.map iv)) (hb : ∀ k, blk a' = some k → k ≠ g ∧ k ≠ w.heap.size + 1 ∧ k ≠ X) :
  Po w r X (xs.set j ⟨x.old, x.new, a', c'⟩) a1 c1 (some ⟨g, 0, none⟩) c a3 c3 (w2.setCell ⟨g, j * 2 + 1, none⟩ (.slice a' x.new.length c')) := by
 obtain ⟨hj, rfl⟩ := List.getElem?_eq_some_iff.1 hx
 have hst := Upd.setCell (S := fun k => k = g) w2 (p := ⟨g, j * 2 + 1, none⟩) rfl (.slice a' (xs[j]).new.length c')
 have hg := h.own.lt g rfl
 have ho := (h.own.stored (j * 2 + 1) (.slice a' (xs[j]).new.length c')).1
 rw [flat_setM xs j ⟨(xs[j]).old, (xs[j]).new, a', c'⟩ _ hj rfl] at ho
 refine ⟨(hst.block _ (lt_of_heap h.row) (by omega)).trans h.row, (hst.block _ (lt_of_heap h.res) (by omega)).trans h.res, ho, h.ky.upd hst (fun k hk e => (h.a1b k hk).2 (by rw [e]; rfl)), h.nm.upd hst (fun k hk e => (h.a3b k hk).2 (by rw [e]; rfl)), h.a1b, h.a3b, fun m hm => ?_, ?_, h.upd.next hst (fun i hi e => by omega)⟩
 ·rcases List.mem_or_eq_of_mem_set hm with hm | rfl
  ·exact ⟨Vw.upd (h.ins m hm).1 hst (fun k hk e => ((h.ins m hm).2 k hk).1 (by rw [e]; rfl)), (h.ins m hm).2⟩
  ·exact ⟨Vw.upd hf hst (fun k hk e => (hb k hk).1 e), fun k hk => ⟨fun e => (hb k hk).1 (Option.some.inj e).symm, (hb k hk).2⟩⟩
 ·rw [List.map_set, ← h.same]
  apply List.ext_getElem?
  intro i
  rw [List.getElem?_set]
  split
  ·rename_i e
   subst e
   simp [hj, mkC]
  ·rfl
end
section
variable {P : Program} {ops : Array Oper} {Q : Exit → Act → World → Prop} {md : Region.Mode} {S0 S1 : World → Prop} {c : Nat}
/-- What is asked of the world when 'listed' is done. -/
def SB (S0 S1 : World → Prop) (c : Nat) (listed : Array Bool) (w : World) : Prop := if listed.getD c false = true then S1 w else S0 w
def wpAnyB (P : Program) (md : Region.Mode) (ops : Array Oper) (Q : Exit → Act → World → Prop) (S0 S1 : World → Prop) (c : Nat) : Nat → Array Bool → Act → World → Prop
 | 0, listed, a, w => Region.ready md ops listed = [] ∧ Q .normal a w
 | fuel + 1, listed, a, w =>
  (Region.ready md ops listed = [] → Q .normal a w) ∧
  ∀ i ∈ Region.ready md ops listed, wpOp P ops Q i (fun a' w' => SB S0 S1 c (listed.setIfInBounds i true) w' ∧ wpAnyB P md ops Q S0 S1 c fuel (listed.setIfInBounds i true) a' w') a w
theorem wpAny_of_B : ∀ (fuel : Nat) (listed : Array Bool) (a : Act) (w : World), wpAnyB P md ops Q S0 S1 c fuel listed a w → wpAny P md ops Q fuel listed a w
 | 0, _, _, _, h => h
 | fuel + 1, _, _, _, h => ⟨h.1, fun i hi => wpOp_mono (fun a' w' h' => wpAny_of_B fuel _ a' w' h'.2) (h.2 i hi)⟩
theorem SB_skip {i : Nat} {listed : Array Bool} {w : World} (hic : i ≠ c) : SB S0 S1 c (listed.setIfInBounds i true) w ↔ SB S0 S1 c listed w := by
 unfold SB
 rw [getD_set_ne false hic]
theorem getD_un {listed : Array Bool} {i : Nat} (h : listed.getD i true = false) : listed.getD i false = false := by
 rcases Nat.lt_or_ge i listed.size with h' | h'
 ·simp [h'] at h ⊢; exact h
 ·simp [Array.getElem?_eq_none h'] at h
theorem SB_at {T : World → Prop} {i : Nat} {listed : Array Bool} {w : World} (h0 : (∀ listed : Array Bool, Down md ops listed → i ∈ Region.ready md ops listed → listed.getD c false = true) ∨ ∀ w, S0 w → T w) (h1 : (∀ listed : Array Bool, listed.size = ops.size → Down md ops listed → listed.getD c false = true → listed.getD i false = true) ∨ ∀ w, S1 w → T w)
  (hz : listed.size = ops.size) (hd : Down md ops listed) (hr : i ∈ Region.ready md ops listed) (hi : listed.getD i false = false) (hS : SB S0 S1 c listed w) : T w := by
 unfold SB at hS
 by_cases hc : listed.getD c false = true
 ·rw [if_pos hc] at hS
  rcases h1 with h1 | h1
  ·rw [h1 listed hz hd hc] at hi; cases hi
  ·exact h1 w hS
 ·rw [if_neg hc] at hS
  rcases h0 with h0 | h0
  ·exact absurd (h0 listed hd hr) hc
  ·exact h0 w hS
theorem wpAnyB_first {T : World → Prop} {i : Nat} {oi : Oper} {v : Value} (hic : i ≠ c) (hi : ops[i]? = some oi) (hsel : ∀ (j : Nat) (o : Oper) cs b, ops[j]? = some o → o.op ≠ .select cs b)
  (hQ : ∀ c a w, Q (.panic c) (a.put oi.dst v) w → Q (.panic c) a w) (h0 : (∀ listed : Array Bool, Down md ops listed → i ∈ Region.ready md ops listed → listed.getD c false = true) ∨ ∀ w, S0 w → T w)
  (h1 : (∀ listed : Array Bool, listed.size = ops.size → Down md ops listed → listed.getD c false = true → listed.getD i false = true) ∨ ∀ w, S1 w → T w) :
  ∀ (fuel : Nat) (listed : Array Bool) (a : Act) (w : World), listed.size = ops.size → Down md ops listed →
   (∀ j oj, ops[j]? = some oj → j ≠ i → listed.getD j true = false → (∀ e ∈ oj.after, Region.binds md e = true → e.on ≠ i) → oi.apart ops oj = true) →
   i ∈ Region.ready md ops listed → YieldsIf P ops T oi v a → SB S0 S1 c listed w →
   wpAnyB P md ops Q S0 S1 c fuel (listed.setIfInBounds i true) (a.put oi.dst v) w → wpAnyB P md ops Q S0 S1 c (fuel + 1) listed a w := by
 intro fuel
 induction fuel with
 | zero =>
  intro listed a w hz hdn _ hr hy hS H
  have hT := SB_at h0 h1 hz hdn hr (getD_un (mem_ready.1 hr).1) hS
  refine ⟨fun h => (by rw [h] at hr; cases hr), fun j hj => ?_⟩
  by_cases hji : j = i
  ·subst hji; exact hy.wpOp hi hT ⟨(SB_skip hic).2 hS, H⟩
  ·have := ready_mono hj hji
   rw [H.1] at this
   cases this
 | succ fuel ih =>
  intro listed a w hsz hdn hfree hr hy hS H
  have hT := SB_at h0 h1 hsz hdn hr (getD_un (mem_ready.1 hr).1) hS
  refine ⟨fun h => (by rw [h] at hr; cases hr), fun j hj => ?_⟩
  by_cases hji : j = i
  ·subst hji; exact hy.wpOp hi hT ⟨(SB_skip hic).2 hS, H⟩
  ·have hj1 := H.2 j (ready_mono hj hji)
   obtain ⟨hjun, oj, hoj, hall⟩ := mem_ready.1 hj
   have hnot : ∀ e ∈ oj.after, Region.binds md e = true → e.on ≠ i := fun e he hb heq => by
    have h1 := hall e he hb
    have h0 := (mem_ready.1 hr).1
    rw [heq] at h1
    rcases Nat.lt_or_ge i listed.size with h' | h'
    ·simp [h'] at h0 h1; rw [h0] at h1; cases h1
    ·simp [Array.getElem?_eq_none h'] at h1
   have h2 := wpOp_putIf hoj (hfree j oj hoj hji hjun hnot) (fun cs b => hsel i oi cs b hi) (fun cs b => hsel j oj cs b hoj) hQ hy hj1
   refine wpOp_mono (fun a' w' h3 => ?_) h2
   have hS2 := h3.2.1
   have hH2 := h3.2.2
   rw [Array.setIfInBounds_comm _ _ (Ne.symm hji)] at hS2 hH2
   have hS' : SB S0 S1 c (listed.setIfInBounds j true) w' := (SB_skip hic).1 hS2
   refine ⟨hS', ih (listed.setIfInBounds j true) a' w' (by simpa using hsz) (hdn.next hj) ?_ (ready_mono hr (Ne.symm hji)) h3.1 hS' hH2⟩
   intro k ok hk hki hun hno
   refine hfree k ok hk hki ?_ hno
   by_cases hjk : j = k
   ·subst hjk; exact hjun
   ·rw [getD_set_ne true hjk] at hun; exact hun
/-- Operation c waits for i, by a chain of at most n steps. -/
def waitsFor (md : Region.Mode) (ops : Array Oper) : Nat → Nat → Nat → Bool
 | 0, _, _ => false
 | n + 1, c, i => match ops[c]? with
  | some o => o.after.any fun e => Region.binds md e && (e.on == i || waitsFor md ops n e.on i)
  | none => false
theorem waits_sound {i : Nat} {listed : Array Bool} (hd : Down md ops listed) : ∀ (n c : Nat), waitsFor md ops n c i = true → listed.getD c false = true → listed.getD i false = true := by
 intro n
 induction n with
 | zero => intro c h; cases h
 | succ n ih =>
  intro c h hc
  unfold waitsFor at h
  cases ho : ops[c]? with
  | none => rw [ho] at h; cases h
  | some o =>
   rw [ho] at h
   obtain ⟨e, he, hb⟩ := Array.any_eq_true'.1 h
   simp only [Bool.and_eq_true, Bool.or_eq_true, beq_iff_eq] at hb
   obtain ⟨hb1, hb2⟩ := hb
   have hl := hd c o ho hc e he hb1
   rcases hb2 with hb2 | hb2
   ·rw [← hb2]; exact hl
   ·exact ih e.on hb2 hl
theorem waits_ready {i : Nat} {listed : Array Bool} (hd : Down md ops listed) : ∀ (n : Nat), waitsFor md ops n i c = true → i ∈ Region.ready md ops listed → listed.getD c false = true := by
 intro n h hr
 cases n with
 | zero => cases h
 | succ n =>
  obtain ⟨_, o, ho, hall⟩ := mem_ready.1 hr
  unfold waitsFor at h
  rw [ho] at h
  obtain ⟨e, he, hb⟩ := Array.any_eq_true'.1 h
  simp only [Bool.and_eq_true, Bool.or_eq_true, beq_iff_eq] at hb
  obtain ⟨hb1, hb2⟩ := hb
  have hl := hall e he hb1
  rcases hb2 with hb2 | hb2
  ·rw [← hb2]; exact hl
  ·exact waits_sound hd _ _ hb2 hl
/-! The plan -/
/-- The operations 'l' yield, one behind the other: each under S0, and under S1 where c does not wait for it. -/
def takesB (P : Program) (md : Region.Mode) (ops : Array Oper) (S0 S1 : World → Prop) (c : Nat) : List Nat → (Act → Prop) → Act → Prop
 | [], N, a => N a
 | i :: r, N, a => ∃ o v, ∃ T : World → Prop, ops[i]? = some o ∧ (waitsFor md ops ops.size i c = true ∨ ∀ w, S0 w → T w) ∧ (waitsFor md ops ops.size c i = true ∨ ∀ w, S1 w → T w) ∧ YieldsIf P ops T o v a ∧ takesB P md ops S0 S1 c r N (a.put o.dst v)
def planB (P : Program) (md : Region.Mode) (ops : Array Oper) (Q : Exit → Act → World → Prop) (S0 S1 : World → Prop) (c : Nat) : List (List Nat × Nat) → List Nat → Array Bool → Act → World → Prop
 | [], last, _, a, w => takesB P md ops S0 S1 c last (fun A => Q .normal A w) a
 | (seg, e) :: rest, last, listed, a, w => takesB P md ops S0 S1 c seg (fun A => ∃ o, ops[e]? = some o ∧
   wpList P ops (Exit.then (fun a' w' => SB S0 S1 c ((marked seg listed).setIfInBounds e true) w' ∧ planB P md ops Q S0 S1 c rest last ((marked seg listed).setIfInBounds e true) a' w') (calmQ Q)) [o] A w) a
theorem takesB_sound (hs : Region.noSelect ops = true) (hQ : ∀ c a w, ¬ Q (.panic c) a w) (fuel : Nat) :
  ∀ (l : List Nat) (listed : Array Bool) (a : Act) (w : World) (N : Act → Prop), c ∉ l → listed.size = ops.size → Down md ops listed → takesOk md ops l listed = true → SB S0 S1 c listed w →
   (∀ A, (marked l listed).size = ops.size → Down md ops (marked l listed) → SB S0 S1 c (marked l listed) w → N A → wpAnyB P md ops Q S0 S1 c fuel (marked l listed) A w) → takesB P md ops S0 S1 c l N a → wpAnyB P md ops Q S0 S1 c (l.length + fuel) listed a w := by
 intro l
 induction l with
 | nil => intro listed a w N _ h1 h2 _ hS h h'; have := h a h1 h2 hS h'; simpa [marked] using this
 | cons i r ih =>
  intro listed a w N hcl h1 h2 hok hS h h'
  have hic : i ≠ c := fun e => hcl (by rw [e]; exact List.mem_cons_self)
  obtain ⟨o, v, T, ho, hT0, hT1, hy, h'⟩ := h'
  simp only [takesOk, Bool.and_eq_true] at hok
  obtain ⟨⟨hf, hr⟩, hok⟩ := hok
  have hr : i ∈ Region.ready md ops listed := by simpa using hr
  have := ih (listed.setIfInBounds i true) (a.put o.dst v) w N (fun hm => hcl (List.mem_cons_of_mem _ hm)) (by simpa using h1) (h2.next hr) hok ((SB_skip hic).2 hS) h h'
  rw [show (i :: r).length + fuel = (r.length + fuel) + 1 from by simp only [List.length_cons]; omega]
  exact wpAnyB_first hic ho (Region.noSelect_spec hs) (fun c a w hq => absurd hq (hQ _ _ _)) (hT0.imp (fun hw listed hd hr => waits_ready hd _ hw hr) id) (hT1.imp (fun hw listed _ hd hc => waits_sound hd _ _ hw hc) id) _ listed a w h1 h2 (Region.free_spec ho hf) hr hy hS this
theorem planB_sound (hs : Region.noSelect ops = true) :
  ∀ (plan : List (List Nat × Nat)) (last : List Nat) (listed : Array Bool) (a : Act) (w : World), (∀ p ∈ plan, c ∉ p.1) → c ∉ last → listed.size = ops.size → Down md ops listed → planOk md ops plan last listed = true →
   SB S0 S1 c listed w → planB P md ops Q S0 S1 c plan last listed a w → wpAnyB P md ops (calmQ Q) S0 S1 c (planSize plan last) listed a w := by
 intro plan
 induction plan with
 | nil =>
  intro last listed a w _ hl h1 h2 hok hS h
  simp only [planOk, Bool.and_eq_true, List.isEmpty_iff] at hok
  have := takesB_sound (P := P) (Q := calmQ Q) hs (fun _ _ _ h => h) 0 last listed a w (fun A => Q .normal A w) hl h1 h2 hok.1 hS (fun A _ _ _ hA => ⟨hok.2, hA⟩) h
  simpa [planSize] using this
 | cons x rest ih =>
  obtain ⟨seg, e⟩ := x
  intro last listed a w hp hl h1 h2 hok hS h
  simp only [planOk, Bool.and_eq_true, beq_iff_eq] at hok
  obtain ⟨⟨hok1, hok2⟩, hok3⟩ := hok
  rw [show planSize ((seg, e) :: rest) last = seg.length + (planSize rest last + 1) from by simp [planSize]; omega]
  refine takesB_sound (P := P) (Q := calmQ Q) hs (fun _ _ _ h => h) (planSize rest last + 1) seg listed a w _ (hp _ List.mem_cons_self) h1 h2 hok1 hS ?_ h
  intro A hz hd hSm hN
  obtain ⟨o, ho, hA⟩ := hN
  refine ⟨fun h0 => (by rw [hok2] at h0; cases h0), fun i hi => ?_⟩
  have hmem := hi
  rw [hok2, List.mem_singleton] at hi
  subst hi
  have hA : wpOp P ops (calmQ Q) i (fun a' w' => SB S0 S1 c ((marked seg listed).setIfInBounds i true) w' ∧ planB P md ops Q S0 S1 c rest last ((marked seg listed).setIfInBounds i true) a' w') A w := by
   unfold wpOp
   rw [ho]
   simp only [wpList] at hA
   split at hA
   ·rename_i hw
    simp only [hw, if_true]
    rcases hA with hA | hA
    ·refine .inl ?_
     unfold Oper.wp at *
     generalize (execOp A.eval o).run P w = r at *
     cases r with
     | ok n w' =>
      cases n <;> simp only [Oper.upon] at hA ⊢ <;> exact hA
     | halt x w' => cases x <;> simp only [Oper.upon] at hA ⊢ <;> exact hA
    ·exact .inr ⟨hA.1, hA.2⟩
   ·rename_i hw
    simp only [hw]
    exact hA
  exact wpOp_mono (fun a' w' h3 => ⟨h3.1, ih last _ a' w' (fun p hp' => hp p (List.mem_cons_of_mem _ hp')) hl (by simpa using hz) (hd.next hmem) hok3 h3.1 h3.2⟩) hA
/-- THE LAW, with one condition on the world ahead of operation c, and another behind it. -/
theorem wp_region_bar {id : Nat} {a : Act} {w : World} (plan : List (List Nat × Nat)) (last : List Nat) (c : Nat) (S0 S1 : World → Prop) (hm : P.follows .mixedOrders = true)
  (hok : (Region.noSelect ops && planOk .any ops plan last (Array.replicate ops.size false) && planSize plan last == ops.size && plan.all (fun p => !p.1.contains c) && !last.contains c) = true) (hS : S0 w.drew)
  (h : planB P .any ops Q S0 S1 c plan last (Array.replicate ops.size false) a w.drew) : (Code.region id ops true).wp P Q a w := by
 simp only [Bool.and_eq_true, beq_iff_eq] at hok
 obtain ⟨⟨⟨⟨h1, h3⟩, h4⟩, h5⟩, h6⟩ := hok
 have hS' : SB S0 S1 c (Array.replicate ops.size false) w.drew := by
  unfold SB
  rw [if_neg]
  ·exact hS
  ·rcases Nat.lt_or_ge c ops.size with h | h
   ·simp [h]
   ·simp [Nat.not_lt.2 h]
 have key := planB_sound h1 plan last (Array.replicate ops.size false) a _ (fun p hp => by have := List.all_eq_true.1 h5 p hp; simpa using this) (by simpa using h6) (by simp) (down_none _) h3 hS' h
 rw [h4] at key
 exact Code.wp_mono calmQ_imp (wp_region_any hm (wpAny_of_B _ _ _ _ key))
theorem bar_take {i e : Nat} {r : List Nat} {rest : List (List Nat × Nat)} {last : List Nat} {listed : Array Bool} {a : Act} {w : World} {o : Oper} {v : Value} (T : World → Prop) (ho : ops[i]? = some o) (hT0 : waitsFor md ops ops.size i c = true ∨ ∀ w, S0 w → T w)
  (hT1 : waitsFor md ops ops.size c i = true ∨ ∀ w, S1 w → T w) (hw : Region.wanted o (yielded ops a.tmps) = true) (hy : ∀ w', T w' → (execOp a.eval o).run P w' = .ok (.value v) w')
  (h : planB P md ops Q S0 S1 c ((r, e) :: rest) last (listed.setIfInBounds i true) (a.put o.dst v) w) : planB P md ops Q S0 S1 c ((i :: r, e) :: rest) last listed a w :=
 ⟨o, v, T, ho, hT0, hT1, .inl ⟨hw, hy⟩, h⟩
theorem bar_end {listed : Array Bool} {a : Act} {w : World} (h : Q .normal a w) : planB P md ops Q S0 S1 c [] [] listed a w := h
/-- An operation that acts: what follows stands behind a letter. -/
theorem bar_act {e : Nat} {rest : List (List Nat × Nat)} {last : List Nat} {listed : Array Bool} {a : Act} {w : World} {o : Oper} (ho : ops[e]? = some o)
  (h : ∀ K : Act → World → Prop, Shut (∀ a' w', SB S0 S1 c (listed.setIfInBounds e true) w' → planB P md ops Q S0 S1 c rest last (listed.setIfInBounds e true) a' w' → K a' w') → wpList P ops (Exit.then K (calmQ Q)) [o] a w) : planB P md ops Q S0 S1 c (([], e) :: rest) last listed a w :=
 ⟨o, ho, h _ (fun _ _ h1 h2 => ⟨h1, h2⟩)⟩
end
end Go.Proofs.YtccejkikphpnfaaGreatDoor
