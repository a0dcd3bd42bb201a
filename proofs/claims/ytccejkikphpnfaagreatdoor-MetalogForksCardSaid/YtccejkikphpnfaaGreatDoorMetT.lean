
/- A law on a statement whose order of evaluation is open, where again and again one of two, or of three, operations that act may come first: a tree of plans. -/
import Derived.Test.YtccejkikphpnfaaGreatDoorFork
namespace Go.Proofs.YtccejkikphpnfaaGreatDoor
open Go.ChangeShapes Go.WideShapes Go.ChangeAt Go.RowKit

inductive PU where
  | last (l : List Nat)
  | one (seg : List Nat) (e : Nat) (t : PU)
  | two (seg : List Nat) (e1 : Nat) (t1 : PU) (e2 : Nat) (t2 : PU)
  | three (seg : List Nat) (e1 : Nat) (t1 : PU) (e2 : Nat) (t2 : PU) (e3 : Nat) (t3 : PU)
section
variable {P : Program} {ops : Array Oper} {Q : Exit → Act → World → Prop} {md : Region.Mode} {S : World → Prop}

def triWp (P : Program) (ops : Array Oper) (Q : Exit → Act → World → Prop) (S : World → Prop) : PU → Act → World → Prop
  | .last l, a, w => takes P ops S l (fun A => Q .normal A w) a
  | .one sg e t, a, w => takes P ops S sg (fun A => ∃ o, ops[e]? = some o ∧ wpList P ops (Exit.then (fun a' w' => S w' ∧ triWp P ops Q S t a' w') (calmQ Q)) [o] A w) a
  | .two sg e1 t1 e2 t2, a, w => takes P ops S sg (fun A => (∃ o, ops[e1]? = some o ∧ wpList P ops (Exit.then (fun a' w' => S w' ∧ triWp P ops Q S t1 a' w') (calmQ Q)) [o] A w) ∧
      (∃ o, ops[e2]? = some o ∧ wpList P ops (Exit.then (fun a' w' => S w' ∧ triWp P ops Q S t2 a' w') (calmQ Q)) [o] A w)) a
  | .three sg e1 t1 e2 t2 e3 t3, a, w => takes P ops S sg (fun A => (∃ o, ops[e1]? = some o ∧ wpList P ops (Exit.then (fun a' w' => S w' ∧ triWp P ops Q S t1 a' w') (calmQ Q)) [o] A w) ∧ (∃ o, ops[e2]? = some o ∧ wpList P ops (Exit.then (fun a' w' => S w' ∧ triWp P ops Q S t2 a' w') (calmQ Q)) [o] A w) ∧ (∃ o, ops[e3]? = some o ∧ wpList P ops (Exit.then (fun a' w' => S w' ∧ triWp P ops Q S t3 a' w') (calmQ Q)) [o] A w)) a
def triOk (md : Region.Mode) (ops : Array Oper) : PU → Array Bool → Bool
  | .last l, listed => takesOk md ops l listed && (Region.ready md ops (marked l listed)).isEmpty
  | .one sg e t, listed => takesOk md ops sg listed && (Region.ready md ops (marked sg listed) == [e]) && triOk md ops t ((marked sg listed).setIfInBounds e true)
  | .two sg e1 t1 e2 t2, listed => takesOk md ops sg listed && (Region.ready md ops (marked sg listed) == [e1, e2]) && triOk md ops t1 ((marked sg listed).setIfInBounds e1 true) && triOk md ops t2 ((marked sg listed).setIfInBounds e2 true)
  | .three sg e1 t1 e2 t2 e3 t3, listed => takesOk md ops sg listed && (Region.ready md ops (marked sg listed) == [e1, e2, e3]) && triOk md ops t1 ((marked sg listed).setIfInBounds e1 true) && triOk md ops t2 ((marked sg listed).setIfInBounds e2 true) && triOk md ops t3 ((marked sg listed).setIfInBounds e3 true)
def triSize : PU → Nat
  | .last l => l.length
  | .one sg _ t => sg.length + 1 + triSize t
  | .two sg _ t1 _ _ => sg.length + 1 + triSize t1
  | .three sg _ t1 _ _ _ _ => sg.length + 1 + triSize t1
def triEven : PU → Bool
  | .last _ => true
  | .one _ _ t => triEven t
  | .two _ _ t1 _ t2 => (triSize t1 == triSize t2) && triEven t1 && triEven t2
  | .three _ _ t1 _ t2 _ t3 => (triSize t1 == triSize t2) && (triSize t1 == triSize t3) && triEven t1 && triEven t2 && triEven t3

theorem tri_sound (hs : Region.noSelect ops = true) : ∀ (t : PU) (listed : Array Bool) (a : Act) (w : World), listed.size = ops.size → Down md ops listed → triOk md ops t listed = true → triEven t = true →
      S w → triWp P ops Q S t a w → wpAnyX P md ops (calmQ Q) S ops.size (triSize t) listed a w := by
  have hex : ∀ listed : Array Bool, listed.size = ops.size → Down md ops listed → ops.size ∈ Region.ready md ops listed → ∀ k, k < ops.size → listed.getD k true = false → k = ops.size := by
    intro l _ _ hx
    obtain ⟨_, o, ho, _⟩ := mem_ready.1 hx
    have := (Array.getElem?_eq_some_iff.1 ho).1
    omega
  have hlt : ∀ {i : Nat} {o : Oper}, ops[i]? = some o → i ≠ ops.size := fun ho e => by
    have := (Array.getElem?_eq_some_iff.1 ho).1
    omega
  intro t
  induction t with
  | last l =>
    intro listed a w h1 h2 hok _ hS h
    simp only [triOk, Bool.and_eq_true, List.isEmpty_iff] at hok
    have := takes_sound (P := P) (Q := calmQ Q) (S := S) hs (fun _ _ _ h => h) hex 0 l listed a w (fun A => Q .normal A w) h1 h2 hok.1 hS (fun A _ _ hA => ⟨hok.2, hA⟩) h
    simpa [triSize] using this
  | one sg e t ih =>
    intro listed a w h1 h2 hok hev hS h
    simp only [triOk, Bool.and_eq_true, beq_iff_eq] at hok
    obtain ⟨⟨hok1, hok2⟩, hok3⟩ := hok
    rw [show triSize (.one sg e t) = sg.length + (triSize t + 1) from by simp [triSize]; omega]
    refine takes_sound (P := P) (Q := calmQ Q) (S := S) hs (fun _ _ _ h => h) hex (triSize t + 1) sg listed a w _ h1 h2 hok1 hS ?_ h
    intro A hz hd hN
    obtain ⟨o, ho, hA⟩ := hN
    refine ⟨fun h0 => (by rw [hok2] at h0; cases h0), fun i hi => ?_⟩
    have hmem := hi
    rw [hok2, List.mem_singleton] at hi
    subst hi
    refine wpOp_mono (fun a' w' h3 => ⟨.inr h3.1, ?_⟩) (wpOp_of_list ho hA)
    exact ih _ a' w' (by simpa using hz) (hd.next hmem) hok3 hev h3.1 h3.2
  | two sg e1 t1 e2 t2 ih1 ih2 =>
    intro listed a w h1 h2 hok hev hS h
    simp only [triOk, Bool.and_eq_true, beq_iff_eq] at hok
    simp only [triEven, Bool.and_eq_true, beq_iff_eq] at hev
    obtain ⟨⟨⟨hok1, hok2⟩, hok3⟩, hok4⟩ := hok
    rw [show triSize (.two sg e1 t1 e2 t2) = sg.length + (triSize t1 + 1) from by simp [triSize]; omega]
    refine takes_sound (P := P) (Q := calmQ Q) (S := S) hs (fun _ _ _ h => h) hex (triSize t1 + 1) sg listed a w _ h1 h2 hok1 hS ?_ h
    intro A hz hd hN
    obtain ⟨⟨o1, ho1, hA1⟩, o2, ho2, hA2⟩ := hN
    refine ⟨fun h0 => (by rw [hok2] at h0; cases h0), fun i hi => ?_⟩
    have hmem := hi
    rw [hok2] at hi
    simp only [List.mem_cons, List.not_mem_nil, or_false] at hi
    rcases hi with rfl | rfl
    · refine wpOp_mono (fun a' w' h3 => ⟨.inr h3.1, ?_⟩) (wpOp_of_list ho1 hA1)
      exact ih1 _ a' w' (by simpa using hz) (hd.next hmem) hok3 hev.1.2 h3.1 h3.2
    · refine wpOp_mono (fun a' w' h3 => ⟨.inr h3.1, ?_⟩) (wpOp_of_list ho2 hA2)
      rw [hev.1.1]
      exact ih2 _ a' w' (by simpa using hz) (hd.next hmem) hok4 hev.2 h3.1 h3.2
  | three sg e1 t1 e2 t2 e3 t3 ih1 ih2 ih3 =>
    intro listed a w h1 h2 hok hev hS h
    simp only [triOk, Bool.and_eq_true, beq_iff_eq] at hok
    simp only [triEven, Bool.and_eq_true, beq_iff_eq] at hev
    obtain ⟨⟨⟨⟨hok1, hok2⟩, hok3⟩, hok4⟩, hok5⟩ := hok
    obtain ⟨⟨⟨⟨hev1, hev2⟩, hev3⟩, hev4⟩, hev5⟩ := hev
    rw [show triSize (.three sg e1 t1 e2 t2 e3 t3) = sg.length + (triSize t1 + 1) from by simp [triSize]; omega]
    refine takes_sound (P := P) (Q := calmQ Q) (S := S) hs (fun _ _ _ h => h) hex (triSize t1 + 1) sg listed a w _ h1 h2 hok1 hS ?_ h
    intro A hz hd hN
    obtain ⟨⟨o1, ho1, hA1⟩, ⟨o2, ho2, hA2⟩, o3, ho3, hA3⟩ := hN
    refine ⟨fun h0 => (by rw [hok2] at h0; cases h0), fun i hi => ?_⟩
    have hmem := hi
    rw [hok2] at hi
    simp only [List.mem_cons, List.not_mem_nil, or_false] at hi
    rcases hi with rfl | rfl | rfl
    · refine wpOp_mono (fun a' w' h3 => ⟨.inr h3.1, ?_⟩) (wpOp_of_list ho1 hA1)
      exact ih1 _ a' w' (by simpa using hz) (hd.next hmem) hok3 hev3 h3.1 h3.2
    · refine wpOp_mono (fun a' w' h3 => ⟨.inr h3.1, ?_⟩) (wpOp_of_list ho2 hA2)
      rw [hev1]
      exact ih2 _ a' w' (by simpa using hz) (hd.next hmem) hok4 hev4 h3.1 h3.2
    · refine wpOp_mono (fun a' w' h3 => ⟨.inr h3.1, ?_⟩) (wpOp_of_list ho3 hA3)
      rw [hev2]
      exact ih3 _ a' w' (by simpa using hz) (hd.next hmem) hok5 hev5 h3.1 h3.2

/-- THE LAW. -/
theorem wp_region_tri {id : Nat} {a : Act} {w : World} (t : PU) (S : World → Prop) (hm : P.follows .mixedOrders = true)
    (hok : (Region.noSelect ops && triOk .any ops t (Array.replicate ops.size false) && triSize t == ops.size && triEven t) = true) (hS : S w.drew)
    (h : triWp P ops Q S t a w.drew) : (Code.region id ops true).wp P Q a w := by
  simp only [Bool.and_eq_true, beq_iff_eq] at hok
  obtain ⟨⟨⟨h1, h3⟩, h4⟩, h5⟩ := hok
  have key := tri_sound (P := P) (S := S) h1 t (Array.replicate ops.size false) a _ (by simp) (down_none _) h3 h5 hS h
  rw [h4] at key
  exact Code.wp_mono calmQ_imp (wp_region_any hm (wpAny_of_X (S := S) (ex := ops.size) _ _ _ _ key))

/-! The moves -/
theorem tri_take {i e : Nat} {r : List Nat} {t : PU} {a : Act} {w : World} {o : Oper} {v : Value} (ho : ops[i]? = some o) (hw : Region.wanted o (yielded ops a.tmps) = true)
    (hy : ∀ w', S w' → (execOp a.eval o).run P w' = .ok (.value v) w') (h : triWp P ops Q S (.one r e t) (a.put o.dst v) w) : triWp P ops Q S (.one (i :: r) e t) a w :=
  ⟨o, v, ho, .inl ⟨hw, hy⟩, h⟩
theorem tri_take2 {i e1 e2 : Nat} {r : List Nat} {t1 t2 : PU} {a : Act} {w : World} {o : Oper} {v : Value} (ho : ops[i]? = some o) (hw : Region.wanted o (yielded ops a.tmps) = true)
    (hy : ∀ w', S w' → (execOp a.eval o).run P w' = .ok (.value v) w') (h : triWp P ops Q S (.two r e1 t1 e2 t2) (a.put o.dst v) w) : triWp P ops Q S (.two (i :: r) e1 t1 e2 t2) a w :=
  ⟨o, v, ho, .inl ⟨hw, hy⟩, h⟩
theorem tri_last {i : Nat} {r : List Nat} {a : Act} {w : World} {o : Oper} {v : Value} (ho : ops[i]? = some o) (hw : Region.wanted o (yielded ops a.tmps) = true)
    (hy : ∀ w', S w' → (execOp a.eval o).run P w' = .ok (.value v) w') (h : triWp P ops Q S (.last r) (a.put o.dst v) w) : triWp P ops Q S (.last (i :: r)) a w :=
  ⟨o, v, ho, .inl ⟨hw, hy⟩, h⟩
theorem tri_end {a : Act} {w : World} (h : Q .normal a w) : triWp P ops Q S (.last []) a w := h
theorem tri_act {e : Nat} {t : PU} {a : Act} {w : World} {o : Oper} (ho : ops[e]? = some o)
    (h : ∀ K : Act → World → Prop, Shut (∀ a' w', S w' → triWp P ops Q S t a' w' → K a' w') → wpList P ops (Exit.then K (calmQ Q)) [o] a w) : triWp P ops Q S (.one [] e t) a w :=
  ⟨o, ho, h _ (fun _ _ h1 h2 => ⟨h1, h2⟩)⟩
theorem tri_both {e1 e2 : Nat} {t1 t2 : PU} {a : Act} {w : World} (h1 : triWp P ops Q S (.one [] e1 t1) a w) (h2 : triWp P ops Q S (.one [] e2 t2) a w) : triWp P ops Q S (.two [] e1 t1 e2 t2) a w :=
  ⟨h1, h2⟩
theorem tri_take3 {i e1 e2 e3 : Nat} {r : List Nat} {t1 t2 t3 : PU} {a : Act} {w : World} {o : Oper} {v : Value} (ho : ops[i]? = some o) (hw : Region.wanted o (yielded ops a.tmps) = true)
    (hy : ∀ w', S w' → (execOp a.eval o).run P w' = .ok (.value v) w') (h : triWp P ops Q S (.three r e1 t1 e2 t2 e3 t3) (a.put o.dst v) w) : triWp P ops Q S (.three (i :: r) e1 t1 e2 t2 e3 t3) a w :=
  ⟨o, v, ho, .inl ⟨hw, hy⟩, h⟩
theorem tri_all {e1 e2 e3 : Nat} {t1 t2 t3 : PU} {a : Act} {w : World} (h1 : triWp P ops Q S (.one [] e1 t1) a w) (h2 : triWp P ops Q S (.one [] e2 t2) a w) (h3 : triWp P ops Q S (.one [] e3 t3) a w) : triWp P ops Q S (.three [] e1 t1 e2 t2 e3 t3) a w :=
  ⟨h1, h2, h3⟩
end
end Go.Proofs.YtccejkikphpnfaaGreatDoor
