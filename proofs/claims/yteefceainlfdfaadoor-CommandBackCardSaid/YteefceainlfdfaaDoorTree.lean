
/- A law on a statement whose order of evaluation is open, where again and again one of two operations that act may come first: a tree of plans. -/
import Derived.Test.YteefceainlfdfaaDoorFork
namespace Go.Proofs.YteefceainlfdfaaDoor
open Go.ChangeShapes Go.WideShapes Go.ChangeAt Go.RowKit

inductive PT where
  | last (l : List Nat)
  | one (seg : List Nat) (e : Nat) (t : PT)
  | two (seg : List Nat) (e1 : Nat) (t1 : PT) (e2 : Nat) (t2 : PT)
section
variable {P : Program} {ops : Array Oper} {Q : Exit → Act → World → Prop} {md : Region.Mode} {S : World → Prop}

def treeWp (P : Program) (ops : Array Oper) (Q : Exit → Act → World → Prop) (S : World → Prop) : PT → Act → World → Prop
  | .last l, a, w => takes P ops S l (fun A => Q .normal A w) a
  | .one sg e t, a, w => takes P ops S sg (fun A => ∃ o, ops[e]? = some o ∧ wpList P ops (Exit.then (fun a' w' => S w' ∧ treeWp P ops Q S t a' w') (calmQ Q)) [o] A w) a
  | .two sg e1 t1 e2 t2, a, w => takes P ops S sg (fun A => (∃ o, ops[e1]? = some o ∧ wpList P ops (Exit.then (fun a' w' => S w' ∧ treeWp P ops Q S t1 a' w') (calmQ Q)) [o] A w) ∧
      (∃ o, ops[e2]? = some o ∧ wpList P ops (Exit.then (fun a' w' => S w' ∧ treeWp P ops Q S t2 a' w') (calmQ Q)) [o] A w)) a
def treeOk (md : Region.Mode) (ops : Array Oper) : PT → Array Bool → Bool
  | .last l, listed => takesOk md ops l listed && (Region.ready md ops (marked l listed)).isEmpty
  | .one sg e t, listed => takesOk md ops sg listed && (Region.ready md ops (marked sg listed) == [e]) && treeOk md ops t ((marked sg listed).setIfInBounds e true)
  | .two sg e1 t1 e2 t2, listed => takesOk md ops sg listed && (Region.ready md ops (marked sg listed) == [e1, e2]) && treeOk md ops t1 ((marked sg listed).setIfInBounds e1 true) && treeOk md ops t2 ((marked sg listed).setIfInBounds e2 true)
def treeSize : PT → Nat
  | .last l => l.length
  | .one sg _ t => sg.length + 1 + treeSize t
  | .two sg _ t1 _ _ => sg.length + 1 + treeSize t1
def treeEven : PT → Bool
  | .last _ => true
  | .one _ _ t => treeEven t
  | .two _ _ t1 _ t2 => (treeSize t1 == treeSize t2) && treeEven t1 && treeEven t2

theorem tree_sound (hs : Region.noSelect ops = true) : ∀ (t : PT) (listed : Array Bool) (a : Act) (w : World), listed.size = ops.size → Down md ops listed → treeOk md ops t listed = true → treeEven t = true →
      S w → treeWp P ops Q S t a w → wpAnyX P md ops (calmQ Q) S ops.size (treeSize t) listed a w := by
  have hex : ∀ listed : Array Bool, listed.size = ops.size → Down md ops listed → ops.size ∈ Region.ready md ops listed → ∀ k, k < ops.size → listed.getD k true = false → k = ops.size := by
    intro l _ _ hx
    obtain ⟨_, o, ho, _⟩ := mem_ready.1 hx
    have := (Array.getElem?_eq_some_iff.1 ho).1
    omega
  have hlt : ∀ {i : Nat} {o : Oper}, ops[i]? = some o → i ≠ ops.size := fun ho e => by
    have := (Array.getElem?_eq_some_iff.1 ho).1
    omega
  intro t
  induction t with
  | last l =>
    intro listed a w h1 h2 hok _ hS h
    simp only [treeOk, Bool.and_eq_true, List.isEmpty_iff] at hok
    have := takes_sound (P := P) (Q := calmQ Q) (S := S) hs (fun _ _ _ h => h) hex 0 l listed a w (fun A => Q .normal A w) h1 h2 hok.1 hS (fun A _ _ hA => ⟨hok.2, hA⟩) h
    simpa [treeSize] using this
  | one sg e t ih =>
    intro listed a w h1 h2 hok hev hS h
    simp only [treeOk, Bool.and_eq_true, beq_iff_eq] at hok
    obtain ⟨⟨hok1, hok2⟩, hok3⟩ := hok
    rw [show treeSize (.one sg e t) = sg.length + (treeSize t + 1) from by simp [treeSize]; omega]
    refine takes_sound (P := P) (Q := calmQ Q) (S := S) hs (fun _ _ _ h => h) hex (treeSize t + 1) sg listed a w _ h1 h2 hok1 hS ?_ h
    intro A hz hd hN
    obtain ⟨o, ho, hA⟩ := hN
    refine ⟨fun h0 => (by rw [hok2] at h0; cases h0), fun i hi => ?_⟩
    have hmem := hi
    rw [hok2, List.mem_singleton] at hi
    subst hi
    refine wpOp_mono (fun a' w' h3 => ⟨.inr h3.1, ?_⟩) (wpOp_of_list ho hA)
    exact ih _ a' w' (by simpa using hz) (hd.next hmem) hok3 hev h3.1 h3.2
  | two sg e1 t1 e2 t2 ih1 ih2 =>
    intro listed a w h1 h2 hok hev hS h
    simp only [treeOk, Bool.and_eq_true, beq_iff_eq] at hok
    simp only [treeEven, Bool.and_eq_true, beq_iff_eq] at hev
    obtain ⟨⟨⟨hok1, hok2⟩, hok3⟩, hok4⟩ := hok
    rw [show treeSize (.two sg e1 t1 e2 t2) = sg.length + (treeSize t1 + 1) from by simp [treeSize]; omega]
    refine takes_sound (P := P) (Q := calmQ Q) (S := S) hs (fun _ _ _ h => h) hex (treeSize t1 + 1) sg listed a w _ h1 h2 hok1 hS ?_ h
    intro A hz hd hN
    obtain ⟨⟨o1, ho1, hA1⟩, o2, ho2, hA2⟩ := hN
    refine ⟨fun h0 => (by rw [hok2] at h0; cases h0), fun i hi => ?_⟩
    have hmem := hi
    rw [hok2] at hi
    simp only [List.mem_cons, List.not_mem_nil, or_false] at hi
    rcases hi with rfl | rfl
    · refine wpOp_mono (fun a' w' h3 => ⟨.inr h3.1, ?_⟩) (wpOp_of_list ho1 hA1)
      exact ih1 _ a' w' (by simpa using hz) (hd.next hmem) hok3 hev.1.2 h3.1 h3.2
    · refine wpOp_mono (fun a' w' h3 => ⟨.inr h3.1, ?_⟩) (wpOp_of_list ho2 hA2)
      rw [hev.1.1]
      exact ih2 _ a' w' (by simpa using hz) (hd.next hmem) hok4 hev.2 h3.1 h3.2

/-- THE LAW. -/
theorem wp_region_tree {id : Nat} {a : Act} {w : World} (t : PT) (S : World → Prop) (hm : P.follows .mixedOrders = true)
    (hok : (Region.noSelect ops && treeOk .any ops t (Array.replicate ops.size false) && treeSize t == ops.size && treeEven t) = true) (hS : S w.drew)
    (h : treeWp P ops Q S t a w.drew) : (Code.region id ops true).wp P Q a w := by
  simp only [Bool.and_eq_true, beq_iff_eq] at hok
  obtain ⟨⟨⟨h1, h3⟩, h4⟩, h5⟩ := hok
  have key := tree_sound (P := P) (S := S) h1 t (Array.replicate ops.size false) a _ (by simp) (down_none _) h3 h5 hS h
  rw [h4] at key
  exact Code.wp_mono calmQ_imp (wp_region_any hm (wpAny_of_X (S := S) (ex := ops.size) _ _ _ _ key))

/-! The moves -/
theorem tree_take {i e : Nat} {r : List Nat} {t : PT} {a : Act} {w : World} {o : Oper} {v : Value} (ho : ops[i]? = some o) (hw : Region.wanted o (yielded ops a.tmps) = true)
    (hy : ∀ w', S w' → (execOp a.eval o).run P w' = .ok (.value v) w') (h : treeWp P ops Q S (.one r e t) (a.put o.dst v) w) : treeWp P ops Q S (.one (i :: r) e t) a w :=
  ⟨o, v, ho, .inl ⟨hw, hy⟩, h⟩
theorem tree_take2 {i e1 e2 : Nat} {r : List Nat} {t1 t2 : PT} {a : Act} {w : World} {o : Oper} {v : Value} (ho : ops[i]? = some o) (hw : Region.wanted o (yielded ops a.tmps) = true)
    (hy : ∀ w', S w' → (execOp a.eval o).run P w' = .ok (.value v) w') (h : treeWp P ops Q S (.two r e1 t1 e2 t2) (a.put o.dst v) w) : treeWp P ops Q S (.two (i :: r) e1 t1 e2 t2) a w :=
  ⟨o, v, ho, .inl ⟨hw, hy⟩, h⟩
theorem tree_last {i : Nat} {r : List Nat} {a : Act} {w : World} {o : Oper} {v : Value} (ho : ops[i]? = some o) (hw : Region.wanted o (yielded ops a.tmps) = true)
    (hy : ∀ w', S w' → (execOp a.eval o).run P w' = .ok (.value v) w') (h : treeWp P ops Q S (.last r) (a.put o.dst v) w) : treeWp P ops Q S (.last (i :: r)) a w :=
  ⟨o, v, ho, .inl ⟨hw, hy⟩, h⟩
theorem tree_end {a : Act} {w : World} (h : Q .normal a w) : treeWp P ops Q S (.last []) a w := h
theorem tree_act {e : Nat} {t : PT} {a : Act} {w : World} {o : Oper} (ho : ops[e]? = some o)
    (h : ∀ K : Act → World → Prop, Shut (∀ a' w', S w' → treeWp P ops Q S t a' w' → K a' w') → wpList P ops (Exit.then K (calmQ Q)) [o] a w) : treeWp P ops Q S (.one [] e t) a w :=
  ⟨o, ho, h _ (fun _ _ h1 h2 => ⟨h1, h2⟩)⟩
theorem tree_both {e1 e2 : Nat} {t1 t2 : PT} {a : Act} {w : World} (h1 : treeWp P ops Q S (.one [] e1 t1) a w) (h2 : treeWp P ops Q S (.one [] e2 t2) a w) : treeWp P ops Q S (.two [] e1 t1 e2 t2) a w :=
  ⟨h1, h2⟩
end
end Go.Proofs.YteefceainlfdfaaDoor
