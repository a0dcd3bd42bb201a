
/- A law on a statement whose order of evaluation is open: it may be walked in ONE order, planned ahead: what only reads is taken first, what acts comes up one by one. No condition on the program but that it follows every order. -/
import Derived.Test.YtccejkikphpnfaaGreatDoorBase
import Derived.OrdersHeld
namespace Go.Proofs.YtccejkikphpnfaaGreatDoor
open Go.ChangeShapes Go.WideShapes Go.ChangeAt Go.RowKit
section
variable {P : Program} {ops : Array Oper} {Q : Exit → Act → World → Prop} {md : Region.Mode} {S : World → Prop} {ex : Nat}

/-- As 'wpAnyH', but behind operation 'ex' nothing is asked of the world. -/
def wpAnyX (P : Program) (md : Region.Mode) (ops : Array Oper) (Q : Exit → Act → World → Prop) (S : World → Prop) (ex : Nat) : Nat → Array Bool → Act → World → Prop
  | 0, listed, a, w => Region.ready md ops listed = [] ∧ Q .normal a w
  | fuel + 1, listed, a, w =>
    (Region.ready md ops listed = [] → Q .normal a w) ∧
    ∀ i ∈ Region.ready md ops listed, wpOp P ops Q i (fun a' w' => (i = ex ∨ S w') ∧ wpAnyX P md ops Q S ex fuel (listed.setIfInBounds i true) a' w') a w

theorem wpAny_of_X : ∀ (fuel : Nat) (listed : Array Bool) (a : Act) (w : World), wpAnyX P md ops Q S ex fuel listed a w → wpAny P md ops Q fuel listed a w
  | 0, _, _, _, h => h
  | fuel + 1, _, _, _, h => ⟨h.1, fun i hi => wpOp_mono (fun a' w' h' => wpAny_of_X fuel _ a' w' h'.2) (h.2 i hi)⟩

/-- What is listed is listed with all that it waits for. -/
def Down (md : Region.Mode) (ops : Array Oper) (listed : Array Bool) : Prop :=
  ∀ (j : Nat) (o : Oper), ops[j]? = some o → listed.getD j false = true → ∀ e ∈ o.after, Region.binds md e = true → listed.getD e.on false = true

theorem Down.next {listed : Array Bool} {i : Nat} (h : Down md ops listed) (hi : i ∈ Region.ready md ops listed) : Down md ops (listed.setIfInBounds i true) := by
  intro j o ho hj e he hb
  obtain ⟨_, o', ho', hall⟩ := mem_ready.1 hi
  by_cases hji : i = j
  · subst hji
    rw [ho] at ho'; cases ho'
    exact getD_set_true (hall e he hb)
  · rw [getD_set_ne false hji] at hj
    exact getD_set_true (h j o ho hj e he hb)

/-- Everything else waits ahead of the last operation. -/
def lastOk (md : Region.Mode) (ops : Array Oper) : Bool :=
  (List.range (ops.size - 1)).all fun k => (List.range ops.size).any fun m => decide (k < m) && match ops[m]? with
    | some o => o.after.any fun e => Region.binds md e && e.on == k
    | none => false

theorem last_all {listed : Array Bool} (hok : lastOk md ops = true) (hd : Down md ops listed) (hs : listed.size = ops.size) (hr : ops.size - 1 ∈ Region.ready md ops listed) :
    ∀ i, i < ops.size → listed.getD i true = false → i = ops.size - 1 := by
  have key : ∀ n i, i < ops.size - 1 → ops.size - 1 - i ≤ n → listed.getD i false = true := by
    intro n
    induction n with
    | zero => intro i h1 h2; omega
    | succ n ih =>
      intro i h1 h2
      have h := List.all_eq_true.1 hok i (List.mem_range.2 h1)
      obtain ⟨m, hm, hx⟩ := List.any_eq_true.1 h
      have hm := List.mem_range.1 hm
      simp only [Bool.and_eq_true, decide_eq_true_eq] at hx
      obtain ⟨hlt, hx⟩ := hx
      cases ho : ops[m]? with
      | none => rw [ho] at hx; cases hx
      | some o =>
        rw [ho] at hx
        obtain ⟨e, he, hb⟩ := Array.any_eq_true'.1 hx
        simp only [Bool.and_eq_true, beq_iff_eq] at hb
        obtain ⟨hb1, hb2⟩ := hb
        by_cases hml : m = ops.size - 1
        · subst hml
          obtain ⟨_, o', ho', hall⟩ := mem_ready.1 hr
          rw [ho] at ho'; cases ho'
          exact hb2 ▸ hall e he hb1
        · exact hb2 ▸ hd m o ho (ih m (by omega) (by omega)) e he hb1
  intro i hi hu
  rcases Nat.lt_or_ge i (ops.size - 1) with h | h
  · have := key _ i h (Nat.le_refl _)
    have hlt : i < listed.size := by omega
    simp [hlt] at this hu
    rw [this] at hu; cases hu
  · omega

theorem wpAnyX_first {i : Nat} {oi : Oper} {v : Value} (hi : ops[i]? = some oi) (hsel : ∀ (j : Nat) (o : Oper) cs b, ops[j]? = some o → o.op ≠ .select cs b)
    (hQ : ∀ c a w, Q (.panic c) (a.put oi.dst v) w → Q (.panic c) a w)
    (hex : ∀ listed : Array Bool, listed.size = ops.size → Down md ops listed → ex ∈ Region.ready md ops listed → ∀ k, k < ops.size → listed.getD k true = false → k = ex) :
    ∀ (fuel : Nat) (listed : Array Bool) (a : Act) (w : World), listed.size = ops.size → Down md ops listed →
      (∀ j oj, ops[j]? = some oj → j ≠ i → listed.getD j true = false → (∀ e ∈ oj.after, Region.binds md e = true → e.on ≠ i) → oi.apart ops oj = true) →
      i ∈ Region.ready md ops listed → YieldsIf P ops S oi v a → S w →
      wpAnyX P md ops Q S ex fuel (listed.setIfInBounds i true) (a.put oi.dst v) w → wpAnyX P md ops Q S ex (fuel + 1) listed a w := by
  intro fuel
  induction fuel with
  | zero =>
    intro listed a w _ _ _ hr hy hS H
    refine ⟨fun h => (by rw [h] at hr; cases hr), fun j hj => ?_⟩
    by_cases hji : j = i
    · subst hji; exact hy.wpOp hi hS ⟨.inr hS, H⟩
    · have := ready_mono hj hji
      rw [H.1] at this
      cases this
  | succ fuel ih =>
    intro listed a w hsz hdn hfree hr hy hS H
    refine ⟨fun h => (by rw [h] at hr; cases hr), fun j hj => ?_⟩
    by_cases hji : j = i
    · subst hji; exact hy.wpOp hi hS ⟨.inr hS, H⟩
    · have hjx : j ≠ ex := fun e => by
        subst e
        exact hji (hex listed hsz hdn hj i (Array.getElem?_eq_some_iff.1 hi).1 (mem_ready.1 hr).1).symm
      have h1 := H.2 j (ready_mono hj hji)
      obtain ⟨hjun, oj, hoj, hall⟩ := mem_ready.1 hj
      have hnot : ∀ e ∈ oj.after, Region.binds md e = true → e.on ≠ i := fun e he hb heq => by
        have h1 := hall e he hb
        have h0 := (mem_ready.1 hr).1
        rw [heq] at h1
        rcases Nat.lt_or_ge i listed.size with h' | h'
        · simp [h'] at h0 h1; rw [h0] at h1; cases h1
        · simp [Array.getElem?_eq_none h'] at h1
      have h2 := wpOp_putIf hoj (hfree j oj hoj hji hjun hnot) (fun cs b => hsel i oi cs b hi) (fun cs b => hsel j oj cs b hoj) hQ hy h1
      refine wpOp_mono (fun a' w' h3 => ?_) h2
      have hS' : S w' := h3.2.1.resolve_left hjx
      refine ⟨.inr hS', ih (listed.setIfInBounds j true) a' w' (by simpa using hsz) (hdn.next hj) ?_ (ready_mono hr (Ne.symm hji)) h3.1 hS' ?_⟩
      · intro k ok hk hki hun hno
        refine hfree k ok hk hki ?_ hno
        by_cases hjk : j = k
        · subst hjk; exact hjun
        · rw [getD_set_ne true hjk] at hun; exact hun
      · rw [Array.setIfInBounds_comm _ _ hji]
        exact h3.2.2

/-! The plan -/
/-- The operations 'l' yield, one behind the other, whatever the world, if it meets S; then N. -/
def takes (P : Program) (ops : Array Oper) (S : World → Prop) : List Nat → (Act → Prop) → Act → Prop
  | [], N, a => N a
  | i :: r, N, a => ∃ o v, ops[i]? = some o ∧ YieldsIf P ops S o v a ∧ takes P ops S r N (a.put o.dst v)
/-- No way out by a panic. -/
def calmQ (Q : Exit → Act → World → Prop) : Exit → Act → World → Prop
  | .panic _, _, _ => False
  | e, a, w => Q e a w
def planWp (P : Program) (ops : Array Oper) (Q : Exit → Act → World → Prop) (S : World → Prop) (ex : Nat) : List (List Nat × Nat) → List Nat → Act → World → Prop
  | [], last, a, w => takes P ops S last (fun A => Q .normal A w) a
  | (seg, e) :: rest, last, a, w => takes P ops S seg (fun A => ∃ o, ops[e]? = some o ∧
      wpList P ops (Exit.then (fun a' w' => (e = ex ∨ S w') ∧ planWp P ops Q S ex rest last a' w') (calmQ Q)) [o] A w) a
def takesOk (md : Region.Mode) (ops : Array Oper) : List Nat → Array Bool → Bool
  | [], _ => true
  | i :: r, listed => Region.free md ops listed i && (Region.ready md ops listed).contains i && takesOk md ops r (listed.setIfInBounds i true)
def marked (l : List Nat) (listed : Array Bool) : Array Bool := l.foldl (fun b i => b.setIfInBounds i true) listed
def planOk (md : Region.Mode) (ops : Array Oper) : List (List Nat × Nat) → List Nat → Array Bool → Bool
  | [], last, listed => takesOk md ops last listed && (Region.ready md ops (marked last listed)).isEmpty
  | (seg, e) :: rest, last, listed => takesOk md ops seg listed && (Region.ready md ops (marked seg listed) == [e]) && planOk md ops rest last ((marked seg listed).setIfInBounds e true)
def planSize : List (List Nat × Nat) → List Nat → Nat
  | [], last => last.length
  | (seg, _) :: rest, last => seg.length + 1 + planSize rest last

theorem takes_sound (hs : Region.noSelect ops = true) (hQ : ∀ c a w, ¬ Q (.panic c) a w)
    (hex : ∀ listed : Array Bool, listed.size = ops.size → Down md ops listed → ex ∈ Region.ready md ops listed → ∀ k, k < ops.size → listed.getD k true = false → k = ex) (fuel : Nat) :
    ∀ (l : List Nat) (listed : Array Bool) (a : Act) (w : World) (N : Act → Prop), listed.size = ops.size → Down md ops listed → takesOk md ops l listed = true → S w →
      (∀ A, (marked l listed).size = ops.size → Down md ops (marked l listed) → N A → wpAnyX P md ops Q S ex fuel (marked l listed) A w) → takes P ops S l N a → wpAnyX P md ops Q S ex (l.length + fuel) listed a w := by
  intro l
  induction l with
  | nil => intro listed a w N h1 h2 _ _ h h'; have := h a h1 h2 h'; simpa [marked] using this
  | cons i r ih =>
    intro listed a w N h1 h2 hok hS h h'
    obtain ⟨o, v, ho, hy, h'⟩ := h'
    simp only [takesOk, Bool.and_eq_true] at hok
    obtain ⟨⟨hf, hr⟩, hok⟩ := hok
    have hr : i ∈ Region.ready md ops listed := by simpa using hr
    have := ih (listed.setIfInBounds i true) (a.put o.dst v) w N (by simpa using h1) (h2.next hr) hok hS h h'
    rw [show (i :: r).length + fuel = (r.length + fuel) + 1 from by simp only [List.length_cons]; omega]
    exact wpAnyX_first ho (Region.noSelect_spec hs) (fun c a w hq => absurd hq (hQ _ _ _)) hex _ listed a w h1 h2 (Region.free_spec ho hf) hr hy hS this

theorem calmQ_imp : ∀ (e : Exit) (a : Act) (w : World), calmQ Q e a w → Q e a w := fun e a w h => by
  cases e <;> first | exact h | exact (h : False).elim

theorem plan_sound (hs : Region.noSelect ops = true)
    (hex : ∀ listed : Array Bool, listed.size = ops.size → Down md ops listed → ex ∈ Region.ready md ops listed → ∀ k, k < ops.size → listed.getD k true = false → k = ex) :
    ∀ (plan : List (List Nat × Nat)) (last : List Nat) (listed : Array Bool) (a : Act) (w : World), listed.size = ops.size → Down md ops listed → planOk md ops plan last listed = true →
      (S w ∨ plan = [] ∧ last = []) → planWp P ops Q S ex plan last a w → wpAnyX P md ops (calmQ Q) S ex (planSize plan last) listed a w := by
  intro plan
  induction plan with
  | nil =>
    intro last listed a w h1 h2 hok hS h
    simp only [planOk, Bool.and_eq_true, List.isEmpty_iff] at hok
    rcases hS with hS | ⟨_, rfl⟩
    · have := takes_sound (P := P) (Q := calmQ Q) (S := S) hs (fun _ _ _ h => h) hex 0 last listed a w (fun A => Q .normal A w) h1 h2 hok.1 hS (fun A _ _ hA => ⟨hok.2, hA⟩) h
      simpa [planSize] using this
    · exact ⟨hok.2, h⟩
  | cons x rest ih =>
    obtain ⟨seg, e⟩ := x
    intro last listed a w h1 h2 hok hS h
    have hS : S w := hS.resolve_right (by simp)
    simp only [planOk, Bool.and_eq_true, beq_iff_eq] at hok
    obtain ⟨⟨hok1, hok2⟩, hok3⟩ := hok
    rw [show planSize ((seg, e) :: rest) last = seg.length + (planSize rest last + 1) from by simp [planSize]; omega]
    refine takes_sound (P := P) (Q := calmQ Q) (S := S) hs (fun _ _ _ h => h) hex (planSize rest last + 1) seg listed a w _ h1 h2 hok1 hS ?_ h
    intro A hz hd hN
    obtain ⟨o, ho, hA⟩ := hN
    refine ⟨fun h0 => (by rw [hok2] at h0; cases h0), fun i hi => ?_⟩
    have hmem := hi
    rw [hok2, List.mem_singleton] at hi
    subst hi
    have hA : wpOp P ops (calmQ Q) i (fun a' w' => (i = ex ∨ S w') ∧ planWp P ops Q S ex rest last a' w') A w := by
      unfold wpOp
      rw [ho]
      simp only [wpList] at hA
      have hK : ∀ (a' : Act) (w' : World), Exit.then (fun a' w' => (i = ex ∨ S w') ∧ planWp P ops Q S ex rest last a' w') (calmQ Q) .normal a' w' → ((i = ex ∨ S w') ∧ planWp P ops Q S ex rest last a' w') := fun _ _ h => h
      split at hA
      · rename_i hw
        simp only [hw, if_true]
        rcases hA with hA | hA
        · refine .inl ?_
          unfold Oper.wp at *
          generalize (execOp A.eval o).run P w = r at *
          cases r with
          | ok n w' =>
            cases n <;> simp only [Oper.upon] at hA ⊢ <;> exact hA
          | halt x w' => cases x <;> simp only [Oper.upon] at hA ⊢ <;> exact hA
        · exact .inr ⟨hA.1, hA.2⟩
      · rename_i hw
        simp only [hw]
        exact hA
    refine wpOp_mono (fun a' w' h3 => ⟨h3.1, ?_⟩) hA
    refine ih last _ a' w' (by simpa using hz) (hd.next hmem) hok3 ?_ h3.2
    rcases h3.1 with rfl | h4
    · -- behind the last one nothing is left
      right
      have hall := hex _ hz hd hmem
      have hnone : ∀ k, k < ops.size → ((marked seg listed).setIfInBounds i true).getD k true = true := by
        intro k hk
        by_cases hki : i = k
        · subst hki
          simp [show i < (marked seg listed).size by omega]
        · rw [getD_set_ne true hki]
          cases hv : (marked seg listed).getD k true
          · exact absurd (hall k hk hv).symm hki
          · rfl
      have hempty : Region.ready md ops ((marked seg listed).setIfInBounds i true) = [] := by
        cases hr : Region.ready md ops ((marked seg listed).setIfInBounds i true) with
        | nil => rfl
        | cons x xs =>
          have hx : x ∈ Region.ready md ops ((marked seg listed).setIfInBounds i true) := by rw [hr]; simp
          obtain ⟨h0, o', ho', _⟩ := mem_ready.1 hx
          rw [hnone x (Array.getElem?_eq_some_iff.1 ho').1] at h0
          cases h0
      cases rest with
      | nil =>
        refine ⟨rfl, ?_⟩
        cases last with
        | nil => rfl
        | cons y ys =>
          simp only [planOk, takesOk, Bool.and_eq_true] at hok3
          have := hok3.1.1.2
          rw [hempty] at this
          simp at this
      | cons y ys =>
        obtain ⟨seg2, e2⟩ := y
        simp only [planOk, Bool.and_eq_true, beq_iff_eq] at hok3
        cases seg2 with
        | nil =>
          have := hok3.1.2
          simp only [marked, List.foldl_nil] at this
          rw [show Region.ready md ops ((List.foldl (fun b i => b.setIfInBounds i true) listed seg).setIfInBounds i true) = [] from hempty] at this
          cases this
        | cons z zs =>
          have := hok3.1.1
          simp only [takesOk, Bool.and_eq_true] at this
          have := this.1.2
          rw [hempty] at this
          simp at this
    · exact .inl h4

theorem down_none (n : Nat) : Down md ops (Array.replicate n false) := by
  intro j o _ hj
  rcases Nat.lt_or_ge j n with h | h
  · simp [h] at hj
  · simp [Nat.not_lt.2 h] at hj

/-- THE LAW, WHERE EVERYTHING WAITS AHEAD OF THE LAST OPERATION: behind it nothing is asked. -/
theorem wp_region_plan_last {id : Nat} {a : Act} {w : World} (plan : List (List Nat × Nat)) (last : List Nat) (S : World → Prop) (hm : P.follows .mixedOrders = true)
    (hok : (Region.noSelect ops && lastOk .any ops && planOk .any ops plan last (Array.replicate ops.size false) && planSize plan last == ops.size) = true) (hS : S w.drew)
    (h : planWp P ops Q S (ops.size - 1) plan last a w.drew) : (Code.region id ops true).wp P Q a w := by
  simp only [Bool.and_eq_true, beq_iff_eq] at hok
  obtain ⟨⟨⟨h1, h2⟩, h3⟩, h4⟩ := hok
  have key := plan_sound h1 (fun l hz hd hx => last_all h2 hd hz hx) plan last (Array.replicate ops.size false) a _ (by simp) (down_none _) h3 (.inl hS) h
  rw [h4] at key
  exact Code.wp_mono calmQ_imp (wp_region_any hm (wpAny_of_X (S := S) (ex := ops.size - 1) _ _ _ _ key))
/-- THE LAW in general: S is asked behind every operation that acts. -/
theorem wp_region_plan {id : Nat} {a : Act} {w : World} (plan : List (List Nat × Nat)) (last : List Nat) (S : World → Prop) (hm : P.follows .mixedOrders = true)
    (hok : (Region.noSelect ops && planOk .any ops plan last (Array.replicate ops.size false) && planSize plan last == ops.size) = true) (hS : S w.drew)
    (h : planWp P ops Q S ops.size plan last a w.drew) : (Code.region id ops true).wp P Q a w := by
  simp only [Bool.and_eq_true, beq_iff_eq] at hok
  obtain ⟨⟨h1, h3⟩, h4⟩ := hok
  have key := plan_sound h1 (fun l hz hd hx => by
    obtain ⟨_, o, ho, _⟩ := mem_ready.1 hx
    have := (Array.getElem?_eq_some_iff.1 ho).1
    omega) plan last (Array.replicate ops.size false) a _ (by simp) (down_none _) h3 (.inl hS) h
  rw [h4] at key
  exact Code.wp_mono calmQ_imp (wp_region_any hm (wpAny_of_X (S := S) (ex := ops.size) _ _ _ _ key))

/-! The moves -/
theorem plan_take {i e : Nat} {r : List Nat} {rest : List (List Nat × Nat)} {last : List Nat} {a : Act} {w : World} {o : Oper} {v : Value} (ho : ops[i]? = some o) (hw : Region.wanted o (yielded ops a.tmps) = true)
    (hy : ∀ w', S w' → (execOp a.eval o).run P w' = .ok (.value v) w') (h : planWp P ops Q S ex ((r, e) :: rest) last (a.put o.dst v) w) : planWp P ops Q S ex ((i :: r, e) :: rest) last a w :=
  ⟨o, v, ho, .inl ⟨hw, hy⟩, h⟩
theorem plan_skip {i e : Nat} {r : List Nat} {rest : List (List Nat × Nat)} {last : List Nat} {a : Act} {w : World} {o : Oper} (ho : ops[i]? = some o) (hw : Region.wanted o (yielded ops a.tmps) = false)
    (h : planWp P ops Q S ex ((r, e) :: rest) last (a.put o.dst undef) w) : planWp P ops Q S ex ((i :: r, e) :: rest) last a w :=
  ⟨o, undef, ho, .inr ⟨hw, rfl⟩, h⟩
theorem plan_last {i : Nat} {r : List Nat} {a : Act} {w : World} {o : Oper} {v : Value} (ho : ops[i]? = some o) (hw : Region.wanted o (yielded ops a.tmps) = true)
    (hy : ∀ w', S w' → (execOp a.eval o).run P w' = .ok (.value v) w') (h : planWp P ops Q S ex [] r (a.put o.dst v) w) : planWp P ops Q S ex [] (i :: r) a w :=
  ⟨o, v, ho, .inl ⟨hw, hy⟩, h⟩
theorem plan_lskip {i : Nat} {r : List Nat} {a : Act} {w : World} {o : Oper} (ho : ops[i]? = some o) (hw : Region.wanted o (yielded ops a.tmps) = false)
    (h : planWp P ops Q S ex [] r (a.put o.dst undef) w) : planWp P ops Q S ex [] (i :: r) a w :=
  ⟨o, undef, ho, .inr ⟨hw, rfl⟩, h⟩
theorem plan_end {a : Act} {w : World} (h : Q .normal a w) : planWp P ops Q S ex [] [] a w := h
/-- An operation that acts: what follows stands behind a letter. -/
theorem plan_act {e : Nat} {rest : List (List Nat × Nat)} {last : List Nat} {a : Act} {w : World} {o : Oper} (ho : ops[e]? = some o)
    (h : ∀ K : Act → World → Prop, Shut (∀ a' w', (e = ex ∨ S w') → planWp P ops Q S ex rest last a' w' → K a' w') → wpList P ops (Exit.then K (calmQ Q)) [o] a w) : planWp P ops Q S ex (([], e) :: rest) last a w :=
  ⟨o, ho, h _ (fun _ _ h1 h2 => ⟨h1, h2⟩)⟩
end
end Go.Proofs.YtccejkikphpnfaaGreatDoor
