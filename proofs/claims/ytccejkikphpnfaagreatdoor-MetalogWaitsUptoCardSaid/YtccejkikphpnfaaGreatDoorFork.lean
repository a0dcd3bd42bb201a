
/- A law on a statement whose order of evaluation is open, where at one place either of two operations that act may come first: both ways are walked from there. -/
import Derived.Test.YtccejkikphpnfaaGreatDoorReg
namespace Go.Proofs.YtccejkikphpnfaaGreatDoor
open Go.ChangeShapes Go.WideShapes Go.ChangeAt Go.RowKit
section
variable {P : Program} {ops : Array Oper} {Q : Exit → Act → World → Prop} {md : Region.Mode} {S : World → Prop} {ex : Nat}

theorem wpOp_of_list {i : Nat} {o : Oper} {K : Act → World → Prop} {A : Act} {w : World} (ho : ops[i]? = some o) (hA : wpList P ops (Exit.then K (calmQ Q)) [o] A w) : wpOp P ops (calmQ Q) i K A w := by
  unfold wpOp
  rw [ho]
  simp only [wpList] at hA
  have hK : ∀ (a' : Act) (w' : World), Exit.then K (calmQ Q) .normal a' w' → K a' w' := fun _ _ h => h
  split at hA
  · rename_i hw
    simp only [hw, if_true]
    rcases hA with hA | hA
    · refine .inl ?_
      unfold Oper.wp at *
      generalize (execOp A.eval o).run P w = r at *
      cases r with
      | ok n w' =>
        cases n <;> simp only [Oper.upon] at hA ⊢ <;> exact hA
      | halt x w' => cases x <;> simp only [Oper.upon] at hA ⊢ <;> exact hA
    · exact .inr ⟨hA.1, hA.2⟩
  · rename_i hw
    simp only [hw]
    exact hA

abbrev Plan := List (List Nat × Nat) × List Nat
def forkWp (P : Program) (ops : Array Oper) (Q : Exit → Act → World → Prop) (S : World → Prop) (ex : Nat) (seg : List Nat) (e1 e2 : Nat) (p1 p2 : Plan) : List (List Nat × Nat) → Act → World → Prop
  | [], a, w => takes P ops S seg (fun A => (∃ o, ops[e1]? = some o ∧ wpList P ops (Exit.then (fun a' w' => (e1 = ex ∨ S w') ∧ planWp P ops Q S ex p1.1 p1.2 a' w') (calmQ Q)) [o] A w) ∧
      (∃ o, ops[e2]? = some o ∧ wpList P ops (Exit.then (fun a' w' => (e2 = ex ∨ S w') ∧ planWp P ops Q S ex p2.1 p2.2 a' w') (calmQ Q)) [o] A w)) a
  | (sg, e) :: rest, a, w => takes P ops S sg (fun A => ∃ o, ops[e]? = some o ∧
      wpList P ops (Exit.then (fun a' w' => (e = ex ∨ S w') ∧ forkWp P ops Q S ex seg e1 e2 p1 p2 rest a' w') (calmQ Q)) [o] A w) a
def forkOk (md : Region.Mode) (ops : Array Oper) (seg : List Nat) (e1 e2 : Nat) (p1 p2 : Plan) : List (List Nat × Nat) → Array Bool → Bool
  | [], listed => takesOk md ops seg listed && (Region.ready md ops (marked seg listed) == [e1, e2]) && planOk md ops p1.1 p1.2 ((marked seg listed).setIfInBounds e1 true) && planOk md ops p2.1 p2.2 ((marked seg listed).setIfInBounds e2 true)
  | (sg, e) :: rest, listed => takesOk md ops sg listed && (Region.ready md ops (marked sg listed) == [e]) && forkOk md ops seg e1 e2 p1 p2 rest ((marked sg listed).setIfInBounds e true)
def forkSize (seg : List Nat) (p1 : Plan) : List (List Nat × Nat) → Nat
  | [] => seg.length + 1 + planSize p1.1 p1.2
  | (sg, _) :: rest => sg.length + 1 + forkSize seg p1 rest

theorem fork_sound (hs : Region.noSelect ops = true) (seg : List Nat) (e1 e2 : Nat) (p1 p2 : Plan) (hsz : planSize p1.1 p1.2 = planSize p2.1 p2.2) :
    ∀ (plan : List (List Nat × Nat)) (listed : Array Bool) (a : Act) (w : World), listed.size = ops.size → Down md ops listed → forkOk md ops seg e1 e2 p1 p2 plan listed = true →
      S w → forkWp P ops Q S ops.size seg e1 e2 p1 p2 plan a w → wpAnyX P md ops (calmQ Q) S ops.size (forkSize seg p1 plan) listed a w := by
  have hex : ∀ listed : Array Bool, listed.size = ops.size → Down md ops listed → ops.size ∈ Region.ready md ops listed → ∀ k, k < ops.size → listed.getD k true = false → k = ops.size := by
    intro l _ _ hx
    obtain ⟨_, o, ho, _⟩ := mem_ready.1 hx
    have := (Array.getElem?_eq_some_iff.1 ho).1
    omega
  have hlt : ∀ {i : Nat} {o : Oper}, ops[i]? = some o → i ≠ ops.size := fun ho e => by
    have := (Array.getElem?_eq_some_iff.1 ho).1
    omega
  intro plan
  induction plan with
  | nil =>
    intro listed a w h1 h2 hok hS h
    simp only [forkOk, Bool.and_eq_true, beq_iff_eq] at hok
    obtain ⟨⟨⟨hok1, hok2⟩, hok3⟩, hok4⟩ := hok
    rw [show forkSize seg p1 [] = seg.length + (planSize p1.1 p1.2 + 1) from by simp [forkSize]; omega]
    refine takes_sound (P := P) (Q := calmQ Q) (S := S) hs (fun _ _ _ h => h) hex (planSize p1.1 p1.2 + 1) seg listed a w _ h1 h2 hok1 hS ?_ h
    intro A hz hd hN
    obtain ⟨⟨o1, ho1, hA1⟩, o2, ho2, hA2⟩ := hN
    refine ⟨fun h0 => (by rw [hok2] at h0; cases h0), fun i hi => ?_⟩
    have hmem := hi
    rw [hok2] at hi
    simp only [List.mem_cons, List.not_mem_nil, or_false] at hi
    rcases hi with rfl | rfl
    · refine wpOp_mono (fun a' w' h3 => ⟨h3.1, ?_⟩) (wpOp_of_list ho1 hA1)
      exact plan_sound hs hex p1.1 p1.2 _ a' w' (by simpa using hz) (hd.next hmem) hok3 (.inl (h3.1.resolve_left (hlt ho1))) h3.2
    · refine wpOp_mono (fun a' w' h3 => ⟨h3.1, ?_⟩) (wpOp_of_list ho2 hA2)
      rw [hsz]
      exact plan_sound hs hex p2.1 p2.2 _ a' w' (by simpa using hz) (hd.next hmem) hok4 (.inl (h3.1.resolve_left (hlt ho2))) h3.2
  | cons x rest ih =>
    obtain ⟨sg, e⟩ := x
    intro listed a w h1 h2 hok hS h
    simp only [forkOk, Bool.and_eq_true, beq_iff_eq] at hok
    obtain ⟨⟨hok1, hok2⟩, hok3⟩ := hok
    rw [show forkSize seg p1 ((sg, e) :: rest) = sg.length + (forkSize seg p1 rest + 1) from by simp [forkSize]; omega]
    refine takes_sound (P := P) (Q := calmQ Q) (S := S) hs (fun _ _ _ h => h) hex (forkSize seg p1 rest + 1) sg listed a w _ h1 h2 hok1 hS ?_ h
    intro A hz hd hN
    obtain ⟨o, ho, hA⟩ := hN
    refine ⟨fun h0 => (by rw [hok2] at h0; cases h0), fun i hi => ?_⟩
    have hmem := hi
    rw [hok2, List.mem_singleton] at hi
    subst hi
    refine wpOp_mono (fun a' w' h3 => ⟨h3.1, ?_⟩) (wpOp_of_list ho hA)
    exact ih _ a' w' (by simpa using hz) (hd.next hmem) hok3 (h3.1.resolve_left (hlt ho)) h3.2

/-- THE LAW. -/
theorem wp_region_fork {id : Nat} {a : Act} {w : World} (plan : List (List Nat × Nat)) (seg : List Nat) (e1 e2 : Nat) (p1 p2 : Plan) (S : World → Prop) (hm : P.follows .mixedOrders = true)
    (hok : (Region.noSelect ops && forkOk .any ops seg e1 e2 p1 p2 plan (Array.replicate ops.size false) && forkSize seg p1 plan == ops.size && planSize p1.1 p1.2 == planSize p2.1 p2.2) = true) (hS : S w.drew)
    (h : forkWp P ops Q S ops.size seg e1 e2 p1 p2 plan a w.drew) : (Code.region id ops true).wp P Q a w := by
  simp only [Bool.and_eq_true, beq_iff_eq] at hok
  obtain ⟨⟨⟨h1, h3⟩, h4⟩, h5⟩ := hok
  have key := fork_sound (P := P) (S := S) h1 seg e1 e2 p1 p2 h5 plan (Array.replicate ops.size false) a _ (by simp) (down_none _) h3 hS h
  rw [h4] at key
  exact Code.wp_mono calmQ_imp (wp_region_any hm (wpAny_of_X (S := S) (ex := ops.size) _ _ _ _ key))

/-! The moves -/
variable {seg : List Nat} {e1 e2 : Nat} {p1 p2 : Plan}
theorem fork_take {i e : Nat} {r : List Nat} {rest : List (List Nat × Nat)} {a : Act} {w : World} {o : Oper} {v : Value} (ho : ops[i]? = some o) (hw : Region.wanted o (yielded ops a.tmps) = true)
    (hy : ∀ w', S w' → (execOp a.eval o).run P w' = .ok (.value v) w') (h : forkWp P ops Q S ex seg e1 e2 p1 p2 ((r, e) :: rest) (a.put o.dst v) w) : forkWp P ops Q S ex seg e1 e2 p1 p2 ((i :: r, e) :: rest) a w :=
  ⟨o, v, ho, .inl ⟨hw, hy⟩, h⟩
theorem fork_skip {i e : Nat} {r : List Nat} {rest : List (List Nat × Nat)} {a : Act} {w : World} {o : Oper} (ho : ops[i]? = some o) (hw : Region.wanted o (yielded ops a.tmps) = false)
    (h : forkWp P ops Q S ex seg e1 e2 p1 p2 ((r, e) :: rest) (a.put o.dst undef) w) : forkWp P ops Q S ex seg e1 e2 p1 p2 ((i :: r, e) :: rest) a w :=
  ⟨o, undef, ho, .inr ⟨hw, rfl⟩, h⟩
theorem fork_last {i : Nat} {r : List Nat} {a : Act} {w : World} {o : Oper} {v : Value} (ho : ops[i]? = some o) (hw : Region.wanted o (yielded ops a.tmps) = true)
    (hy : ∀ w', S w' → (execOp a.eval o).run P w' = .ok (.value v) w') (h : forkWp P ops Q S ex r e1 e2 p1 p2 [] (a.put o.dst v) w) : forkWp P ops Q S ex (i :: r) e1 e2 p1 p2 [] a w :=
  ⟨o, v, ho, .inl ⟨hw, hy⟩, h⟩
theorem fork_lskip {i : Nat} {r : List Nat} {a : Act} {w : World} {o : Oper} (ho : ops[i]? = some o) (hw : Region.wanted o (yielded ops a.tmps) = false)
    (h : forkWp P ops Q S ex r e1 e2 p1 p2 [] (a.put o.dst undef) w) : forkWp P ops Q S ex (i :: r) e1 e2 p1 p2 [] a w :=
  ⟨o, undef, ho, .inr ⟨hw, rfl⟩, h⟩
theorem fork_act {e : Nat} {rest : List (List Nat × Nat)} {a : Act} {w : World} {o : Oper} (ho : ops[e]? = some o)
    (h : ∀ K : Act → World → Prop, Shut (∀ a' w', (e = ex ∨ S w') → forkWp P ops Q S ex seg e1 e2 p1 p2 rest a' w' → K a' w') → wpList P ops (Exit.then K (calmQ Q)) [o] a w) : forkWp P ops Q S ex seg e1 e2 p1 p2 (([], e) :: rest) a w :=
  ⟨o, ho, h _ (fun _ _ h1 h2 => ⟨h1, h2⟩)⟩
/-- The two ways. -/
theorem fork_both {a : Act} {w : World} (h1 : planWp P ops Q S ex (([], e1) :: p1.1) p1.2 a w) (h2 : planWp P ops Q S ex (([], e2) :: p2.1) p2.2 a w) : forkWp P ops Q S ex [] e1 e2 p1 p2 [] a w :=
  ⟨h1, h2⟩
end
end Go.Proofs.YtccejkikphpnfaaGreatDoor
