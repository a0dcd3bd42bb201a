
/- few of layer 21: it answers. -/
import Derived.Test.YtccejkikphpnfaaGreatDoorQ46
import Derived.Test.YtccejkikphpnfaaGreatDoorQ49
namespace Go.Proofs.YtccejkikphpnfaaGreatDoor
set_option linter.unusedSimpArgs false
set_option linter.unusedVariables false
set_option maxRecDepth 100000
open Go.ChangeShapes Go.WideShapes Go.ChangeAt Go.RowKit
section
variable {P : Program} {ops : Array Oper} {Q : Exit → Act → World → Prop} {md : Region.Mode} {c ex : Nat}
def wpAnyD (P : Program) (md : Region.Mode) (ops : Array Oper) (Q : Exit → Act → World → Prop) (c ex : Nat) : Nat → Array Bool → Act → World → Prop
 | 0, listed, a, w => Region.ready md ops listed = [] ∧ Q .normal a w
 | fuel + 1, listed, a, w =>
  (Region.ready md ops listed = [] → Q .normal a w) ∧
  ∀ i ∈ Region.ready md ops listed, wpOp P ops Q i (fun a' w' => (i = c → ∃ S : World → Prop, wpAnyX P md ops Q S ex fuel (listed.setIfInBounds i true) a' w') ∧ (i ≠ c → wpAnyD P md ops Q c ex fuel (listed.setIfInBounds i true) a' w')) a w
theorem wpAny_of_D : ∀ (fuel : Nat) (listed : Array Bool) (a : Act) (w : World), wpAnyD P md ops Q c ex fuel listed a w → wpAny P md ops Q fuel listed a w
 | 0, _, _, _, h => h
 | fuel + 1, _, _, _, h => ⟨h.1, fun i hi => wpOp_mono (fun a' w' h' => by
   by_cases hic : i = c
   ·obtain ⟨S, hS⟩ := h'.1 hic
    exact wpAny_of_X (S := S) (ex := ex) fuel _ a' w' hS
   ·exact wpAny_of_D fuel _ a' w' (h'.2 hic)) (h.2 i hi)⟩
theorem wpAnyD_first {i : Nat} {oi : Oper} {v : Value} (hic : i ≠ c) (hwt : waitsFor md ops ops.size c i = true) (hi : ops[i]? = some oi) (hsel : ∀ (j : Nat) (o : Oper) cs b, ops[j]? = some o → o.op ≠ .select cs b)
  (hQ : ∀ c a w, Q (.panic c) (a.put oi.dst v) w → Q (.panic c) a w) :
  ∀ (fuel : Nat) (listed : Array Bool) (a : Act) (w : World), listed.size = ops.size → Down md ops listed →
   (∀ j oj, ops[j]? = some oj → j ≠ i → listed.getD j true = false → (∀ e ∈ oj.after, Region.binds md e = true → e.on ≠ i) → oi.apart ops oj = true) →
   i ∈ Region.ready md ops listed → YieldsIf P ops (fun _ => True) oi v a →
   wpAnyD P md ops Q c ex fuel (listed.setIfInBounds i true) (a.put oi.dst v) w → wpAnyD P md ops Q c ex (fuel + 1) listed a w := by
 intro fuel
 induction fuel with
 | zero =>
  intro listed a w hz hdn _ hr hy H
  refine ⟨fun h => (by rw [h] at hr; cases hr), fun j hj => ?_⟩
  by_cases hji : j = i
  ·subst hji; exact hy.wpOp hi trivial ⟨fun h => absurd h hic, fun _ => H⟩
  ·have := ready_mono hj hji
   rw [H.1] at this
   cases this
 | succ fuel ih =>
  intro listed a w hsz hdn hfree hr hy H
  refine ⟨fun h => (by rw [h] at hr; cases hr), fun j hj => ?_⟩
  by_cases hji : j = i
  ·subst hji; exact hy.wpOp hi trivial ⟨fun h => absurd h hic, fun _ => H⟩
  ·have hjc : j ≠ c := by
    rintro rfl
    have h1 := waits_ready (c := i) (i := j) hdn _ hwt hj
    have h0 := getD_un (mem_ready.1 hr).1
    rw [h1] at h0
    cases h0
   have hj1 := H.2 j (ready_mono hj hji)
   obtain ⟨hjun, oj, hoj, hall⟩ := mem_ready.1 hj
   have hnot : ∀ e ∈ oj.after, Region.binds md e = true → e.on ≠ i := fun e he hb heq => by
    have h1 := hall e he hb
    have h0 := (mem_ready.1 hr).1
    rw [heq] at h1
    rcases Nat.lt_or_ge i listed.size with h' | h'
    ·simp [h'] at h0 h1; rw [h0] at h1; cases h1
    ·simp [Array.getElem?_eq_none h'] at h1
   have h2 := wpOp_putIf hoj (hfree j oj hoj hji hjun hnot) (fun cs b => hsel i oi cs b hi) (fun cs b => hsel j oj cs b hoj) hQ hy hj1
   refine wpOp_mono (fun a' w' h3 => ?_) h2
   have hH2 := h3.2.2 hjc
   rw [Array.setIfInBounds_comm _ _ (Ne.symm hji)] at hH2
   refine ⟨fun h => absurd h hjc, fun _ => ih (listed.setIfInBounds j true) a' w' (by simpa using hsz) (hdn.next hj) ?_ (ready_mono hr (Ne.symm hji)) h3.1 hH2⟩
   intro k ok hk hki hun hno
   refine hfree k ok hk hki ?_ hno
   by_cases hjk : j = k
   ·subst hjk; exact hjun
   ·rw [getD_set_ne true hjk] at hun; exact hun
def takesD (P : Program) (md : Region.Mode) (ops : Array Oper) (c : Nat) : List Nat → (Act → Prop) → Act → Prop
 | [], N, a => N a
 | i :: r, N, a => ∃ o v, ops[i]? = some o ∧ (i ≠ c ∧ waitsFor md ops ops.size c i = true) ∧ YieldsIf P ops (fun _ => True) o v a ∧ takesD P md ops c r N (a.put o.dst v)
theorem takesD_sound (hs : Region.noSelect ops = true) (hQ : ∀ c a w, ¬ Q (.panic c) a w) (fuel : Nat) :
  ∀ (l : List Nat) (listed : Array Bool) (a : Act) (w : World) (N : Act → Prop), listed.size = ops.size → Down md ops listed → takesOk md ops l listed = true →
   (∀ A, (marked l listed).size = ops.size → Down md ops (marked l listed) → N A → wpAnyD P md ops Q c ex fuel (marked l listed) A w) → takesD P md ops c l N a → wpAnyD P md ops Q c ex (l.length + fuel) listed a w := by
 intro l
 induction l with
 | nil => intro listed a w N h1 h2 _ h h'; have := h a h1 h2 h'; simpa [marked] using this
 | cons i r ih =>
  intro listed a w N h1 h2 hok h h'
  obtain ⟨o, v, ho, hwt, hy, h'⟩ := h'
  simp only [takesOk, Bool.and_eq_true] at hok
  obtain ⟨⟨hf, hr⟩, hok⟩ := hok
  have hr : i ∈ Region.ready md ops listed := by simpa using hr
  have := ih (listed.setIfInBounds i true) (a.put o.dst v) w N (by simpa using h1) (h2.next hr) hok h h'
  rw [show (i :: r).length + fuel = (r.length + fuel) + 1 from by simp only [List.length_cons]; omega]
  exact wpAnyD_first hwt.1 hwt.2 ho (Region.noSelect_spec hs) (fun c a w hq => absurd hq (hQ _ _ _)) _ listed a w h1 h2 (Region.free_spec ho hf) hr hy this
/-- The plan ahead of c, and behind it. -/
def planD (P : Program) (md : Region.Mode) (ops : Array Oper) (Q : Exit → Act → World → Prop) (c ex : Nat) (segc : List Nat) (rest : List (List Nat × Nat)) (last : List Nat) : List (List Nat × Nat) → Act → World → Prop
 | [], a, w => takesD P md ops c segc (fun A => ∃ o, ops[c]? = some o ∧ wpList P ops (Exit.then (fun a' w' => ∃ S : World → Prop, S w' ∧ planWp P ops Q S ex rest last a' w') (calmQ Q)) [o] A w) a
 | (seg, e) :: r, a, w => e ≠ c ∧ takesD P md ops c seg (fun A => ∃ o, ops[e]? = some o ∧ wpList P ops (Exit.then (fun a' w' => planD P md ops Q c ex segc rest last r a' w') (calmQ Q)) [o] A w) a
theorem act_sound {o : Oper} {i : Nat} {K : Act → World → Prop} {A : Act} {w : World} (ho : ops[i]? = some o) (hA : wpList P ops (Exit.then K (calmQ Q)) [o] A w) : wpOp P ops (calmQ Q) i K A w := by
 unfold wpOp
 rw [ho]
 simp only [wpList] at hA
 split at hA
 ·rename_i hw
  simp only [hw, if_true]
  rcases hA with hA | hA
  ·refine .inl ?_
   unfold Oper.wp at *
   generalize (execOp A.eval o).run P w = r at *
   cases r with
   | ok n w' =>
    cases n <;> simp only [Oper.upon] at hA ⊢ <;> exact hA
   | halt x w' => cases x <;> simp only [Oper.upon] at hA ⊢ <;> exact hA
  ·exact .inr ⟨hA.1, hA.2⟩
 ·rename_i hw
  simp only [hw]
  exact hA
theorem planD_sound (hs : Region.noSelect ops = true)
  (hex : ∀ listed : Array Bool, listed.size = ops.size → Down md ops listed → ex ∈ Region.ready md ops listed → ∀ k, k < ops.size → listed.getD k true = false → k = ex) (segc : List Nat) (rest : List (List Nat × Nat)) (last : List Nat) :
  ∀ (plan : List (List Nat × Nat)) (listed : Array Bool) (a : Act) (w : World), listed.size = ops.size → Down md ops listed → planOk md ops (plan ++ (segc, c) :: rest) last listed = true →
   planD P md ops Q c ex segc rest last plan a w → wpAnyD P md ops (calmQ Q) c ex (planSize (plan ++ (segc, c) :: rest) last) listed a w := by
 intro plan
 induction plan with
 | nil =>
  intro listed a w h1 h2 hok h
  simp only [List.nil_append, planOk, Bool.and_eq_true, beq_iff_eq] at hok
  obtain ⟨⟨hok1, hok2⟩, hok3⟩ := hok
  rw [List.nil_append, show planSize ((segc, c) :: rest) last = segc.length + (planSize rest last + 1) from by simp [planSize]; omega]
  refine takesD_sound (P := P) (Q := calmQ Q) hs (fun _ _ _ h => h) (planSize rest last + 1) segc listed a w _ h1 h2 hok1 ?_ h
  intro A hz hd hN
  obtain ⟨o, ho, hA⟩ := hN
  refine ⟨fun h0 => (by rw [hok2] at h0; cases h0), fun i hi => ?_⟩
  have hmem := hi
  rw [hok2, List.mem_singleton] at hi
  subst hi
  refine wpOp_mono (fun a' w' h3 => ⟨fun _ => ?_, fun h => absurd rfl h⟩) (act_sound ho hA)
  obtain ⟨S, hS, hp⟩ := h3
  exact ⟨S, plan_sound hs hex rest last _ a' w' (by simpa using hz) (hd.next hmem) hok3 (.inl hS) hp⟩
 | cons x r ih =>
  obtain ⟨seg, e⟩ := x
  intro listed a w h1 h2 hok h
  obtain ⟨hec, h⟩ := h
  simp only [List.cons_append, planOk, Bool.and_eq_true, beq_iff_eq] at hok
  obtain ⟨⟨hok1, hok2⟩, hok3⟩ := hok
  rw [List.cons_append, show planSize ((seg, e) :: (r ++ (segc, c) :: rest)) last = seg.length + (planSize (r ++ (segc, c) :: rest) last + 1) from by simp [planSize]; omega]
  refine takesD_sound (P := P) (Q := calmQ Q) hs (fun _ _ _ h => h) (planSize (r ++ (segc, c) :: rest) last + 1) seg listed a w _ h1 h2 hok1 ?_ h
  intro A hz hd hN
  obtain ⟨o, ho, hA⟩ := hN
  refine ⟨fun h0 => (by rw [hok2] at h0; cases h0), fun i hi => ?_⟩
  have hmem := hi
  rw [hok2, List.mem_singleton] at hi
  subst hi
  exact wpOp_mono (fun a' w' h3 => ⟨fun h => absurd h hec, fun _ => ih _ a' w' (by simpa using hz) (hd.next hmem) hok3 h3⟩) (act_sound ho hA)
/-- THE LAW: what is asked of the world is chosen when c is done; ahead of it nothing is. -/
theorem wp_region_split {id : Nat} {a : Act} {w : World} (plan : List (List Nat × Nat)) (segc : List Nat) (c : Nat) (rest : List (List Nat × Nat)) (last : List Nat) (hm : P.follows .mixedOrders = true)
  (hok : (Region.noSelect ops && lastOk .any ops && planOk .any ops (plan ++ (segc, c) :: rest) last (Array.replicate ops.size false) && planSize (plan ++ (segc, c) :: rest) last == ops.size) = true)
  (h : planD P .any ops Q c (ops.size - 1) segc rest last plan a w.drew) : (Code.region id ops true).wp P Q a w := by
 simp only [Bool.and_eq_true, beq_iff_eq] at hok
 obtain ⟨⟨⟨h1, h2⟩, h3⟩, h4⟩ := hok
 have key := planD_sound h1 (fun l hz hd hx => last_all h2 hd hz hx) segc rest last plan (Array.replicate ops.size false) a _ (by simp) (down_none _) h3 h
 rw [h4] at key
 exact Code.wp_mono calmQ_imp (wp_region_any hm (wpAny_of_D _ _ _ _ key))
section
variable {segc : List Nat} {rest : List (List Nat × Nat)} {last : List Nat}
theorem spl_take {i e : Nat} {r : List Nat} {pl : List (List Nat × Nat)} {a : Act} {w : World} {o : Oper} {v : Value} (ho : ops[i]? = some o) (hwt : (i != c && waitsFor md ops ops.size c i) = true) (hec : e ≠ c)
  (hw : Region.wanted o (yielded ops a.tmps) = true) (hy : ∀ w', True → (execOp a.eval o).run P w' = .ok (.value v) w') (h : planD P md ops Q c ex segc rest last ((r, e) :: pl) (a.put o.dst v) w) : planD P md ops Q c ex segc rest last ((i :: r, e) :: pl) a w := by
 rw [Bool.and_eq_true, bne_iff_ne] at hwt
 exact ⟨hec, o, v, ho, hwt, .inl ⟨hw, hy⟩, h.2⟩
theorem spl_act {e : Nat} {pl : List (List Nat × Nat)} {a : Act} {w : World} {o : Oper} (hec : e ≠ c) (ho : ops[e]? = some o)
  (h : ∀ K : Act → World → Prop, Shut (∀ a' w', planD P md ops Q c ex segc rest last pl a' w' → K a' w') → wpList P ops (Exit.then K (calmQ Q)) [o] a w) : planD P md ops Q c ex segc rest last (([], e) :: pl) a w :=
 ⟨hec, o, ho, h _ (fun _ _ h => h)⟩
theorem spl_bar {a : Act} {w : World} {o : Oper} (ho : ops[c]? = some o)
  (h : ∀ K : Act → World → Prop, Shut (∀ a' w' (S : World → Prop), S w' → planWp P ops Q S ex rest last a' w' → K a' w') → wpList P ops (Exit.then K (calmQ Q)) [o] a w) : planD P md ops Q c ex [] rest last [] a w :=
 ⟨o, ho, h _ (fun _ _ S h1 h2 => ⟨S, h1, h2⟩)⟩
end
end
theorem rNew_any (w : World) : Calls Tryz.prog 31 #[] w fun e w' => e = .returned (.pointer (some ⟨w.heap.size, 0, none⟩)) ∧ w'.heap[w.heap.size]? = some (.cells (refA ⟨[], -1, [], wt0, 0⟩ ⟨none, 0, none, 0⟩) 69) ∧ Upd (fun _ => False) w w' := by
 have h1 := heap_alloc_new w (.cells (refA ⟨[], -1, [], wt0, 0⟩ ⟨none, 0, none, 0⟩) 69)
 have h2 := Upd.alloc (fun _ => False) w (.cells (refA ⟨[], -1, [], wt0, 0⟩ ⟨none, 0, none, 0⟩) 69)
 have HF := Lib.hid (And.intro h1 h2)
 clear h1 h2
 go_enter Tryz.func31, Tryz.ntmps31
 go_wp2_with fail
 go_ret
 exact ⟨rfl, HF.out.1, HF.out.2⟩
theorem Vw.updL {S : Nat → Prop} {w w' : World} {a : Option Addr} {c : Nat} {L : List UInt8} (h : Vw w a L.length c 1 (bvs L)) (hU : Upd S w w') (hS : L ≠ [] → ∀ k, blk a = some k → ¬ S k) : Vw w' a L.length c 1 (bvs L) := by
 by_cases hL : L = []
 ·subst hL
  exact ⟨h.len, h.le, h.cap, h.nil, fun x hx j u hu => by simp [bvs] at hu⟩
 ·exact h.upd hU (hS hL)
theorem Vw.in_heap {w : World} {a : Option Addr} {c : Nat} {L : List UInt8} (h : Vw w a L.length c 1 (bvs L)) (hL : L ≠ []) (q : Nat) (hq : blk a = some q) : q < w.heap.size := by
 obtain ⟨b, o, hb, hcell⟩ := h.at (List.length_pos_iff.2 hL) (by decide)
 rw [hb] at hq
 cases hq
 cases L with
 | nil => exact absurd rfl hL
 | cons x L => exact World.block_lt_of_cell? _ _ (hcell 0 (bv x) (by simp [bvs]))
structure Two (W : World) (rb lb : Nat) (P : Nat → Prop) (gm : Lx) (Am : LA) (gr : RX) (Ar : RA) (m : MS) (w : World) : Prop where
 log : @LogX ⟨⟨P⟩⟩ w lb gm Am
 ms : gm.ms = m
 ref : RefX w rb lb gr Ar
 twin : Twin m gr
 n : gr.n = m.n
 prb : P rb
 pra : ∀ q, blk Ar.ra = some q → P q
 upd : Upd (fun _ => False) W w
 wl : W.heap.size ≤ lb
 wr : W.heap.size ≤ rb
 wa : ∀ q, blk Ar.ra = some q → W.heap.size ≤ q
section
variable {W w w1 w2 : World} {rb lb : Nat} {P : Nat → Prop} {gm gm' : Lx} {Am Am' : LA} {gr gr' : RX} {Ar Ar' : RA} {m m' : MS}
theorem Two.other (h : Two W rb lb P gm Am gr Ar m w) (hU : Upd (fun _ => False) w w2) : Two W rb lb P gm Am gr Ar m w2 :=
 ⟨(letI : Inhabited RbT := ⟨⟨P⟩⟩; LogX.other h.log hU), h.ms, h.ref.other hU, h.twin, h.n, h.prb, h.pra, h.upd.trans hU, h.wl, h.wr, h.wa⟩
theorem Two.add (h : Two W rb lb P gm Am gr Ar m w) (hl : @LogX ⟨⟨P⟩⟩ w1 lb gm' Am') (hm : gm'.ms = m') (hU1 : Upd (fun q => q = lb) w w1) (hr : RefX w2 rb lb gr' Ar') (ht : Twin m' gr') (hn : gr'.n = m'.n)
  (hU2 : Upd (fun q => q = rb ∨ blk Ar.ra = some q) w1 w2) (hf : ∀ q, blk Ar'.ra = some q → blk Ar.ra = some q ∨ w1.heap.size ≤ q) :
  Two W rb lb (fun q => P q ∨ (w1.heap.size ≤ q ∧ q < w2.heap.size)) gm' Am' gr' Ar' m' w2 := by
 have hz := hU1.size
 have hW := h.upd.size
 refine ⟨LogX.rebase hl hU2 (fun q hq => .inl (hq.elim (fun e => ?_) (fun e => h.pra q e))) (fun q hq => hq), hm, hr, ht, hn, .inl h.prb, fun q hq => ?_, ?_, h.wl, h.wr, fun q hq => ?_⟩
 ·show P q
  rw [e]; exact h.prb
 ·rcases hf q hq with e | e
  ·exact .inl (h.pra q e)
  ·exact .inr ⟨e, (hr.n1 q hq).2.2⟩
 ·refine (h.upd.next hU1 (fun i hi e => by have := h.wl; omega)).next hU2 (fun i hi e => ?_)
  rcases e with e | e
  ·have := h.wr; omega
  ·have := h.wa i e; omega
 ·rcases hf q hq with e | e
  ·exact h.wa q e
  ·omega
theorem RefX.fork {lb2 : Nat} {g : RX} {A : RA} (h : RefX w rb lb g A) (hU : Upd (fun q => q = lb) w w2) (hl : w.heap.size ≤ lb2) (hl2 : lb2 < w2.heap.size) : RefX w2 rb lb2 g A := by
 have hlt := h.lt
 have h2 := h.log hU
 have hc : ∀ q, Cd w rb lb q → Cd w2 rb lb2 q := fun q hq => ⟨hq.1, by have := hq.2.2; omega, Nat.lt_of_lt_of_le hq.2.2 hU.size⟩
 exact ⟨h2.row, h2.rr, h2.ds, fun q hq => hc q (h.n1 q hq), fun q hq => ⟨hc q (h.n2 q hq).1, (h.n2 q hq).2⟩,
  fun r hr => ⟨(h2.re r hr).1, (h.re r hr).2.mono (fun q hq => ⟨hc q hq.1, hq.2⟩)⟩, ⟨h2.pw.1, h.pw.2.mono (fun q hq => ⟨hc q hq.1, hq.2⟩)⟩, by omega, hl2⟩
theorem Two.fork (h : Two W rb lb P gm Am gr Ar m w) (hU1 : Upd (fun _ => False) w w1) (hrow : w1.heap[w.heap.size]? = some (.cells (logX gm Am) 105)) (hU2 : Upd (fun q => q = lb) w1 w2) : Two W rb w.heap.size P gm Am gr Ar m w2 := by
 have hlb : lb < w.heap.size := (letI : Inhabited RbT := ⟨⟨P⟩⟩; LogX.lt h.log)
 have hU : Upd (fun q => q = lb) w w2 := (hU1.mono (fun _ _ h => h.elim)).trans hU2
 have hrow2 := (hU2.block _ (lt_of_heap hrow) (by omega)).trans hrow
 exact ⟨(letI : Inhabited RbT := ⟨⟨P⟩⟩; LogX.fork h.log hU hrow2 (Nat.le_refl _)), h.ms, h.ref.fork hU (Nat.le_refl _) (lt_of_heap hrow2), h.twin, h.n, h.prb, h.pra, h.upd.next hU (fun i hi e => by have := h.wl; omega), by have := h.upd.size; omega, h.wr, h.wa⟩
end
theorem Two.start {W w1 w2 : World} {lb : Nat} (h : LogW w1 lb ⟨[], [], [], 0, [], 0⟩ ⟨none, 0, none, 0, none, 0, none, 0⟩) (hU1 : Upd (fun _ => False) W w1) (hl : W.heap.size ≤ lb) (hrow : w2.heap[w1.heap.size]? = some (.cells (refA ⟨[], -1, [], wt0, 0⟩ ⟨none, 0, none, 0⟩) 69)) (hU2 : Upd (fun _ => False) w1 w2) :
  Two W w1.heap.size lb (fun q => q = w1.heap.size) g0 ⟨none, 0, none, 0, none, 0, none, 0⟩ ⟨[], -1, [], wt0, 0⟩ ⟨none, 0, none, 0⟩ g0.ms w2 := by
 have hlt : lb < w1.heap.size := lt_of_heap h.row
 have hz := hU1.size
 refine ⟨?_, rfl, ⟨hrow, World.ownsRow_nil _ _ _ _, Vw.nl _ _, (fun q e => by cases e), (fun q e => by cases e), (fun r hr => by cases hr), ⟨wt0_in _, wt0_bl _⟩, by omega, Nat.lt_of_lt_of_le hlt hU2.size⟩, ⟨rfl, rfl, rfl, rfl, rfl⟩, rfl, rfl, (fun q e => by cases e), hU1.trans hU2, hl, by omega, (fun q e => by cases e)⟩
 letI : Inhabited RbT := ⟨⟨fun q => q = w1.heap.size⟩⟩
 refine logX_new ?_ (fun q hq => ?_)
 ·exact h.other hU2
 ·have hq : q = w1.heap.size := hq
  subst hq
  exact ⟨lt_of_heap hrow, by omega⟩
def opV (o : Opx) : List Value := (opA o).toList
theorem opV_len (o : Opx) : (opV o).length = 17 := rfl
theorem opA_one (o : Opx) : (opA o).all (·.oneCell') = true := by simp [opA, Value.oneCell']
theorem infoOp17 : (Tryz.prog.info? 63).map (·.size) = some 17 := by kernel_rfl
theorem op_range (ops : List Opx) (i : Nat) (x : Opx) (hx : ops[i]? = some x) (j : Nat) (u : Value) (hu : (opV x)[j]? = some u) : (ops.flatMap opV)[i * 17 + j]? = some u := by
 have hj : j < 17 := (List.getElem?_eq_some_iff.1 hu).1
 rw [flatMap_get opV 17 opV_len ops i j hj, hx]
 exact hu
/-- It answers; nothing changes. -/
def Told (w : World) (e : Ending) (w' : World) : Prop := ∃ b, e = .returned (.bool b) ∧ Upd (fun _ => False) w w'
set_option maxHeartbeats 8000000 in
theorem few21_any (r : Rt) (p : Wt) (w : World) (h : RtIn w r) (hp : WtIn w p) : Calls Tryz.prog 9 #[.agg (rtA r), .agg (wtA p)] w (Told w) := by
 have hU1 := Upd.alloc (fun _ => False) w (.cells (rtA r) 26)
 have hrow1 := heap_alloc_new w (.cells (rtA r) 26)
 have hU2 := Upd.alloc (fun _ => False) (w.alloc (.cells (rtA r) 26)) (.cells (wtA p) 30)
 have hrow2 := heap_alloc_new (w.alloc (.cells (rtA r) 26)) (.cells (wtA p) 30)
 rw [show (w.alloc (.cells (rtA r) 26)).heap.size = w.heap.size + 1 from by simp] at hrow2
 have hrow1' := (hU2.block _ (lt_of_heap hrow1) (fun h => h)).trans hrow1
 have hi := h.upd (hU1.trans hU2)
 have hj := hp.upd (hU1.trans hU2)
 have hcm := h.mv.cap
 have hlm := h.mv.le
 have hcs := hp.sv.cap
 have hls := hp.sv.le
 unfold maxLen at hcm hcs
 obtain ⟨q, ca, cc, ks, ma, mc, ms, na, nc, ns, k⟩ := r
 obtain ⟨on, re, src, dst, sa, sc, ss, com, cla, clc, cs⟩ := p
 unfold rtA wtA at *
 dsimp only at *
 have HP := Lib.hid (And.intro (hU1.trans hU2) (And.intro hrow1' (And.intro hrow2 (And.intro hi hj))))
 clear hU1 hrow1 hU2 hrow2 hrow1' hi hj h hp
 go_enter Tryz.func9, Tryz.ntmps9
 go_upto_region 1 with (fail)
 obtain ⟨hU, hr1, hr2, hi, hj⟩ := HP.out
 generalize (w.alloc (Obj.cells #[.int .i64 q, .slice ca ks.length cc, .slice ma ms.length mc, .slice na ns.length nc, .int .i64 k] 26)).alloc (Obj.cells #[.bool on, .bool re, .int .i64 src, .int .i64 dst, .slice sa ss.length sc, .int .i64 com, .slice cla cs.length clc] 30) = y0 at *
 generalize w.heap.size = RB at *
 have HU := Lib.hid hU
 have HI := Lib.hid hi
 have HJ := Lib.hid hj
 have HCC : Hid (∀ w', Upd (fun _ => False) y0 w' → w'.cell? ⟨RB, 1, none⟩ = some (.slice ca ks.length cc) ∧ w'.cell? ⟨RB, 2, none⟩ = some (.slice ma ms.length mc) ∧ w'.cell? ⟨RB, 3, none⟩ = some (.slice na ns.length nc) ∧ w'.cell? ⟨RB + 1, 4, none⟩ = some (.slice sa ss.length sc) ∧ w'.cell? ⟨RB + 1, 6, none⟩ = some (.slice cla cs.length clc)) := Lib.hid (fun w' h => by
  obtain ⟨a0, a1, a2, a3, a4⟩ := row5 ((h.block RB (lt_of_heap hr1) (fun h => h)).trans hr1)
  obtain ⟨c0, c1, c2, c3, c4, c5, c6⟩ := row7 ((h.block (RB + 1) (lt_of_heap hr2) (fun h => h)).trans hr2)
  exact ⟨a1, a2, a3, c4, c6⟩)
 obtain ⟨z0, z1, z2, z3, z4⟩ := HCC.out y0 (Upd.refl _ _)
 clear hU hr1 hr2 hi hj HP
 go_upto_block 0 with (fail)
 go_cut [5] (fun v wx => ∃ z : Int, v = .int .i64 z ∧ Hid (Upd (fun _ => False) y0 wx))
 case first =>
  go_wp2_with fail
  go_loopw [5, 6] (fun v i wr => ∃ (j : Nat) (z : Int), j ≤ ms.length ∧ i = .int .i64 (j : Int) ∧ v = .int .i64 z ∧ Hid (Upd (fun _ => False) y0 wr)) (fun _ i _ => ms.length - (intOf i).toNat)
  case atStart => exact ⟨0, _, Nat.zero_le _, rfl, rfl, Lib.hid (Upd.refl _ _)⟩
  case round =>
   obtain ⟨j, z, hj, rfl, rfl, HUr⟩ := hrel
   obtain ⟨z0, z1, z2, z3, z4⟩ := HCC.out _ HUr.out
   clear z0 z2 z3 z4
   by_cases hlt : j < ms.length
   case neg =>
    have hI : ¬ (j : Int) < (ms.length : Int) := by omega
    go_wp2_with fail
    go_meet
    case rel => exact ⟨z, rfl, HUr⟩
   by_cases hz : z < 200
   case neg =>
    have hI : (j : Int) < (ms.length : Int) := by omega
    have hZ : decide (z < 200) = false := decide_eq_false hz
    go_wp2_with fail
    go_meet
    case rel => exact ⟨z, rfl, HUr⟩
   have hI : (j : Int) < (ms.length : Int) := by omega
   obtain ⟨b, o, hb, hcell⟩ := (HI.out.mv.upd HUr.out (fun _ _ h => h)).at (show 0 < ms.length by omega) (by decide)
   dsimp only at hb
   subst hb
   have q1 : wr.cell? ⟨b, o + j * 2 + 1, none⟩ = some (.slice ms[j].a ms[j].new.length ms[j].c) := hcell (j * 2 + 1) _ (mk_get ms j 1 hlt (by decide))
   clear hcell
   generalize ms[j] = x at *
   obtain ⟨xo, xn, xa, xc⟩ := x
   dsimp only at *
   go_wp2_with fail
   clear z1 q1
   go_roundw
   case rel => exact ⟨j + 1, _, by omega, by first | rfl | go_num, rfl, HUr⟩
   case measure => simp [intOf]; omega
 case rest =>
  obtain ⟨z, rfl, HU1⟩ := hcut
  go_wp2_with fail
  go_loopw [5, 7] (fun v i wr => ∃ (j : Nat) (z : Int), j ≤ ss.length ∧ i = .int .i64 (j : Int) ∧ v = .int .i64 z ∧ Hid (Upd (fun _ => False) y0 wr)) (fun _ i _ => ss.length - (intOf i).toNat)
  case atStart => exact ⟨0, _, Nat.zero_le _, rfl, rfl, HU1⟩
  case round =>
   obtain ⟨j, z, hj, rfl, rfl, HUr⟩ := hrel
   obtain ⟨z0, z1, z2, z3, z4⟩ := HCC.out _ HUr.out
   clear z0 z1 z2 z4
   by_cases hlt : j < ss.length
   case neg =>
    have hI : ¬ (j : Int) < (ss.length : Int) := by omega
    go_wp2_with fail
    go_ret
    exact ⟨decide (z < 120), rfl, HU.out.trans HUr.out⟩
   by_cases hz : z < 200
   case neg =>
    have hI : (j : Int) < (ss.length : Int) := by omega
    have hZ : decide (z < 200) = false := decide_eq_false hz
    go_wp2_with fail
    go_ret
    exact ⟨decide (z < 120), rfl, HU.out.trans HUr.out⟩
   have hI : (j : Int) < (ss.length : Int) := by omega
   obtain ⟨b, o, hb, hcell⟩ := (HJ.out.sv.upd HUr.out (fun _ _ h => h)).at (show 0 < ss.length by omega) (by decide)
   dsimp only at hb
   subst hb
   have q1 : wr.cell? ⟨b, o + j * 2 + 1, none⟩ = some (.slice ss[j].a ss[j].fs.length ss[j].c) := hcell (j * 2 + 1) _ (st_get ss j 1 hlt (by decide))
   clear hcell
   generalize ss[j] = x at *
   obtain ⟨xo, xn, xa, xc⟩ := x
   dsimp only at *
   go_wp2_with fail
   clear z3 q1
   go_roundw
   case rel => exact ⟨j + 1, _, by omega, by first | rfl | go_num, rfl, HUr⟩
   case measure => simp [intOf]; omega
end Go.Proofs.YtccejkikphpnfaaGreatDoor
