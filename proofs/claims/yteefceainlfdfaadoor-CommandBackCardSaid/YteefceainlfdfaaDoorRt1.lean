
/- What bytes are as a command: a reading of them, in the mind. -/
import Derived.Test.YteefceainlfdfaaDoorItems
import Derived.Test.YteefceainlfdfaaDoorCmd5
namespace Go.Proofs.YteefceainlfdfaaDoor
set_option linter.unusedSimpArgs false
set_option linter.unusedVariables false
set_option maxRecDepth 100000
open Go.ChangeShapes Go.WideShapes Go.ChangeAt Go.RowKit

def endC (re e : Int) (k l : List UInt8) : Int := if re ≠ 0 then re else if e ≠ 0 then 5 else if k ≠ l then 5 else 0
def chgS (s : RS) : Chg × RS :=
  (⟨(textS s).1, (boolS (textS s).2).1, (boolS (boolS (textS s).2).2).1, (textS (boolS (boolS (textS s).2).2).2).1⟩, (textS (boolS (boolS (textS s).2).2).2).2)
theorem chgS_at (s : RS) : ∃ (x : Chg) (s2 : RS), chgS s = (x, s2) ∧ (textS s).1 = x.path ∧ (boolS (textS s).2).1 = x.del ∧ (boolS (boolS (textS s).2).2).1 = x.exec ∧ (textS (boolS (boolS (textS s).2).2).2).1 = x.text ∧
    (textS (boolS (boolS (textS s).2).2).2).2 = s2 := ⟨_, _, rfl, rfl, rfl, rfl, rfl, rfl⟩
def chgsS : Nat → RS → List Chg × RS
  | 0, s => ([], s)
  | n + 1, s => if s.e ≠ 0 then ([], s) else ((chgS s).1 :: (chgsS n (chgS s).2).1, (chgsS n (chgS s).2).2)
theorem chgsS_stop (n : Nat) (s : RS) (h : s.e ≠ 0) : chgsS n s = ([], s) := by
  cases n with
  | zero => rfl
  | succ n => rw [chgsS, if_pos h]
def txtsS : Nat → RS → List (List UInt8) × RS
  | 0, s => ([], s)
  | n + 1, s => if s.e ≠ 0 then ([], s) else ((textS s).1 :: (txtsS n (textS s).2).1, (txtsS n (textS s).2).2)
theorem txtsS_stop (n : Nat) (s : RS) (h : s.e ≠ 0) : txtsS n s = ([], s) := by
  cases n with
  | zero => rfl
  | succ n => rw [txtsS, if_pos h]
/-- A number of things is beyond what may be. -/
def oddS (v : Int) (s : RS) : Bool := decide (s.e = 0) && (decide (v < 0) || decide (1000 < v))
def tkK (l : List UInt8) : List UInt8 × RS := takeS 1 ⟨l, 0⟩
def tkM (l : List UInt8) : List UInt8 × RS := textS (tkK l).2
def tkN (l : List UInt8) : Int × RS := (intV (tkM l).2, (takeS 4 (tkM l).2).2)
def tkCh (l : List UInt8) : List Chg × RS := chgsS (tkN l).1.toNat (tkN l).2
def tkP (l : List UInt8) : Int × RS := (intV (tkCh l).2, (takeS 4 (tkCh l).2).2)
def tkPs (l : List UInt8) : List (List UInt8) × RS := txtsS (tkP l).1.toNat (tkP l).2
def tk7 (l : List UInt8) : Int × RS := (intV (tkPs l).2, (takeS 4 (tkPs l).2).2)
def tk8 (l : List UInt8) : Int × RS := (intV (tk7 l).2, (takeS 4 (tk7 l).2).2)
def tk9 (l : List UInt8) : Int × RS := (intV (tk8 l).2, (takeS 4 (tk8 l).2).2)
def tkNm (l : List UInt8) : List UInt8 × RS := textS (tk9 l).2
def tkC (l : List UInt8) : Cmd := ⟨(leN (tkK l).1 : Nat), (tkM l).1, (tkCh l).1, (tkPs l).1, (tk7 l).1, (tk8 l).1, (tk9 l).1, (tkNm l).1⟩
def cmdZ : Cmd := ⟨0, [], [], [], 0, 0, 0, []⟩
def takeE (l : List UInt8) : Int := if oddS (tkN l).1 (tkN l).2 then 5 else if oddS (tkP l).1 (tkP l).2 then 5 else endC (tkNm l).2.e (rightL (tkC l)) (packL (tkC l)) l
def takeC (l : List UInt8) : Cmd := if takeE l ≠ 0 then cmdZ else tkC l
/-- What Take answers. -/
def TookCmd (w : World) (c : Cmd) (e0 : Int) (e : Ending) (w' : World) : Prop :=
  ∃ a1 c1 a2 c2, e = .returned (.tuple #[cmdV c a1 c1 a2 c2, .int .i64 e0]) ∧ CmdIn w' c a1 c1 a2 c2 ∧ Upd (fun _ => False) w w' ∧ (∀ g, blk a1 = some g → w.heap.size ≤ g) ∧ (∀ g, blk a2 = some g → w.heap.size ≤ g)

/-! What is packed is read again; a beginning of it is too short. -/
def short : RS := ⟨[], 4⟩
theorem take_short (n : Nat) : takeS n short = ([], short) := by unfold takeS short; simp
theorem text_short : textS short = ([], short) := by unfold textS; rw [take_short, if_pos (by decide)]
theorem bool_short : (boolS short).2 = short := by
  unfold boolS
  rw [take_short]
  simp [short]
theorem int_short : intV short = 0 := by unfold intV short; simp
/-- A reading f takes just the bytes a; of a beginning of them it says that they are too short. -/
structure Reads {X : Type} (f : RS → X × RS) (a : List UInt8) (x : X) : Prop where
  all : ∀ r, f ⟨a ++ r, 0⟩ = (x, ⟨r, 0⟩)
  cut : ∀ p q, a = p ++ q → q ≠ [] → (f ⟨p, 0⟩).2 = short
  stay : (f short).2 = short
theorem takeS_cut (n : Nat) (p : List UInt8) (h : p.length < n) : takeS n ⟨p, 0⟩ = ([], short) := by
  unfold takeS short
  rw [if_neg (by simp), if_pos h]
theorem reads_take (n : Nat) (a : List UInt8) (h : a.length = n) : Reads (takeS n) a a :=
  ⟨fun r => takeS_app' n a r h, fun p q e hq => by
    have : 0 < q.length := List.length_pos_iff.2 hq
    have := congrArg List.length e
    rw [List.length_append] at this
    rw [takeS_cut n p (by omega)], by rw [take_short]⟩
theorem reads_int (v : Int) (h0 : -1 ≤ v) (h1 : v ≤ 4294967294) : Reads (fun s => (intV s, (takeS 4 s).2)) (i4 v) v := by
  have h := reads_take 4 (i4 v) (i4_length v)
  exact ⟨fun r => by rw [intV_i4 v r h0 h1, h.all], fun p q e hq => h.cut p q e hq, h.stay⟩
theorem textS_tx (s r : List UInt8) (h : s.length ≤ 100000000) : textS ⟨tx s ++ r, 0⟩ = (s, ⟨r, 0⟩) := by
  rw [← t4_str, textS_t4 (str s) r (by rw [str_size]; exact h)]; rfl
theorem append_cut {a b p q : List UInt8} (e : a ++ b = p ++ q) : (∃ q', q' ≠ [] ∧ a = p ++ q') ∨ (∃ p', p = a ++ p' ∧ b = p' ++ q) := by
  rcases List.append_eq_append_iff.1 e with ⟨z, h1, h2⟩ | ⟨z, h1, h2⟩
  · exact .inr ⟨z, h1, h2⟩
  · by_cases hz : z = []
    · subst hz
      exact .inr ⟨[], by simpa using h1.symm, by simpa using h2.symm⟩
    · exact .inl ⟨z, hz, h1⟩
theorem reads_text (s : List UInt8) (h : s.length ≤ 100000000) : Reads textS (tx s) s := by
  refine ⟨fun r => textS_tx s r h, fun p q e hq => ?_, by rw [text_short]⟩
  unfold tx at e
  rcases append_cut e with ⟨q', hq', h1⟩ | ⟨p', h1, h2⟩
  · have hc := (reads_take 4 (i4 s.length) (i4_length _)).cut p q' h1 hq'
    unfold textS
    rw [hc, if_pos (by decide)]
  · subst h1
    have hn := intV_i4 (s.length : Int) p' (by omega) (by omega)
    have ht := takeS_i4 (s.length : Int) p'
    have hl := congrArg List.length h2
    have : 0 < q.length := List.length_pos_iff.2 hq
    rw [List.length_append] at hl
    unfold textS
    rw [ht, hn]
    dsimp only
    rw [if_neg (by decide), if_neg (by omega), takeS_cut _ _ (by omega)]
theorem reads_bool (b : Bool) : Reads boolS (b1 b) b := by
  refine ⟨fun r => boolS_b1 b r, fun p q e hq => ?_, bool_short⟩
  have hl := congrArg List.length e
  have : 0 < q.length := List.length_pos_iff.2 hq
  simp only [b1, List.length_append, List.length_cons, List.length_nil] at hl
  have hp : p = [] := List.eq_nil_of_length_eq_zero (by omega)
  subst hp
  unfold boolS
  rw [takeS_cut 1 [] (by decide)]
  simp [short]
/-- One reading behind another. -/
theorem Reads.two {X Y Z : Type} {f : RS → X × RS} {g : RS → Y × RS} {a b : List UInt8} {x : X} {y : Y} (hf : Reads f a x) (hg : Reads g b y) (k : RS → Z × RS) (m : X → Y → Z)
    (hk : ∀ s : RS, s.e = 0 → k s = (m (f s).1 (g (f s).2).1, (g (f s).2).2)) (hs : (k short).2 = short) : Reads k (a ++ b) (m x y) := by
  refine ⟨fun r => ?_, fun p q e hq => ?_, hs⟩
  · rw [hk _ rfl, List.append_assoc, hf.all]
    dsimp only
    rw [hg.all]
  · rw [hk _ rfl]
    dsimp only
    rcases append_cut e with ⟨q', hq', h1⟩ | ⟨p', h1, h2⟩
    · rw [hf.cut p q' h1 hq', hg.stay]
    · subst h1
      rw [hf.all]
      exact hg.cut p' q h2 hq
theorem reads_chg (x : Chg) (h : x.path.length ≤ 100000000 ∧ x.text.length ≤ 100000000) : Reads chgS (encCh x) x := by
  have h3 : Reads (fun s => ((boolS s).1, (textS (boolS s).2).1, (textS (boolS s).2).2) |> fun p => ((p.1, p.2.1), p.2.2)) (b1 x.exec ++ tx x.text) (x.exec, x.text) :=
    (reads_bool x.exec).two (reads_text x.text h.2) _ (fun u v => (u, v)) (fun s _ => rfl) (by show (textS (boolS short).2).2 = _; rw [bool_short, text_short])
  have h2 : Reads (fun s => (((boolS s).1, (boolS (boolS s).2).1, (textS (boolS (boolS s).2).2).1), (textS (boolS (boolS s).2).2).2)) (b1 x.del ++ (b1 x.exec ++ tx x.text)) (x.del, x.exec, x.text) :=
    (reads_bool x.del).two h3 _ (fun u v => (u, v)) (fun s _ => rfl) (by show (textS (boolS (boolS short).2).2).2 = _; rw [bool_short, bool_short, text_short])
  have h1 : Reads chgS (tx x.path ++ (b1 x.del ++ (b1 x.exec ++ tx x.text))) (⟨x.path, x.del, x.exec, x.text⟩ : Chg) :=
    (reads_text x.path h.1).two h2 _ (fun u v => (⟨u, v.1, v.2.1, v.2.2⟩ : Chg)) (fun s _ => rfl) (by show (textS (boolS (boolS (textS short).2).2).2).2 = _; rw [text_short, bool_short, bool_short, text_short])
  have e : encCh x = tx x.path ++ (b1 x.del ++ (b1 x.exec ++ tx x.text)) := by simp [encCh]
  rw [e]
  exact h1
theorem reads_nil {X : Type} (x : X) (f : RS → X × RS) (h : ∀ s, f s = (x, s)) : Reads f [] x :=
  ⟨fun r => by rw [h]; rfl, fun p q e hq => by
    have : q = [] := (List.append_eq_nil_iff.1 e.symm).2
    exact absurd this hq, by rw [h]⟩
theorem reads_chgs : ∀ (l : List Chg), (∀ x ∈ l, x.path.length ≤ 100000000 ∧ x.text.length ≤ 100000000) → Reads (chgsS l.length) (l.flatMap encCh) l
  | [], _ => reads_nil [] _ (fun s => rfl)
  | x :: l, h => by
    have h1 := reads_chg x (h x (by simp))
    have h2 := reads_chgs l (fun y hy => h y (by simp [hy]))
    rw [List.flatMap_cons]
    exact h1.two h2 _ (fun u v => u :: v) (fun s hs => by rw [List.length_cons, chgsS, if_neg (by simp [hs])]) (by rw [chgsS_stop _ _ (by decide)])
theorem reads_txts : ∀ (l : List (List UInt8)), (∀ x ∈ l, x.length ≤ 100000000) → Reads (txtsS l.length) (l.flatMap tx) l
  | [], _ => reads_nil [] _ (fun s => rfl)
  | x :: l, h => by
    have h1 := reads_text x (h x (by simp))
    have h2 := reads_txts l (fun y hy => h y (by simp [hy]))
    rw [List.flatMap_cons]
    exact h1.two h2 _ (fun u v => u :: v) (fun s hs => by rw [List.length_cons, txtsS, if_neg (by simp [hs])]) (by rw [txtsS_stop _ _ (by decide)])
/-- What is to be read is cut off. -/
def Cut (s : RS) (b : List UInt8) : Prop := s = short ∨ ∃ p q, s = ⟨p, 0⟩ ∧ b = p ++ q ∧ q ≠ []
theorem Cut.step {X : Type} {f : RS → X × RS} {s : RS} {a b : List UInt8} {x : X} (h : Cut s (a ++ b)) (hf : Reads f a x) : Cut (f s).2 b ∧ ((f s).2 = short ∨ (f s).1 = x) := by
  rcases h with rfl | ⟨p, q, rfl, e, hq⟩
  · exact ⟨.inl hf.stay, .inl hf.stay⟩
  · rcases append_cut e with ⟨q', hq', h1⟩ | ⟨p', h1, h2⟩
    · have := hf.cut p q' h1 hq'
      exact ⟨.inl this, .inl this⟩
    · subst h1
      rw [hf.all]
      exact ⟨.inr ⟨p', q, rfl, h2, hq⟩, .inr rfl⟩
theorem Cut.done {s : RS} (h : Cut s []) : s = short := by
  rcases h with rfl | ⟨p, q, rfl, e, hq⟩
  · rfl
  · exact absurd (List.append_eq_nil_iff.1 e.symm).2 hq

def heldCmd (c : Cmd) : Cmd := ⟨c.kind, c.msg, c.ch, c.ps, heldC c.count, heldC c.commit, heldC c.dest, c.name⟩
theorem heldC_bd (v : Int) : -1 ≤ heldC v ∧ heldC v ≤ 2147483646 := by unfold heldC; omega
theorem heldC_idem (v : Int) : heldC (heldC v) = heldC v := by unfold heldC; omega
theorem encCmd_held (c : Cmd) : encCmd (heldCmd c) = encCmd c := by
  unfold encCmd heldCmd
  dsimp only
  rw [heldC_idem, heldC_idem, heldC_idem]
theorem right_held (c : Cmd) (h : rightL c = 0) : rightL (heldCmd c) = 0 := by
  have e : rightL (heldCmd c) = rightOf c.kind (heldC c.count) (longL c) (pathsL c) (nameL c.name) := rfl
  have e0 : rightL c = rightOf c.kind c.count (longL c) (pathsL c) (nameL c.name) := rfl
  rw [e0] at h
  rw [e]
  unfold rightOf at h ⊢
  unfold heldC
  split at h
  · cases h
  split at h
  · cases h
  split at h
  · cases h
  split at h
  · cases h
  split at h
  · cases h
  rename_i h1 h2 h3 h4 h5
  rw [if_neg h1, if_neg h2, if_neg h3, if_neg h4, if_neg (by omega)]
theorem encCmd_r (c : Cmd) (r : List UInt8) : encCmd c ++ r = le c.kind.toNat 1 ++ (tx c.msg ++ (i4 c.ch.length ++ (c.ch.flatMap encCh ++ (i4 c.ps.length ++ (c.ps.flatMap tx ++ (i4 (heldC c.count) ++ (i4 (heldC c.commit) ++ (i4 (heldC c.dest) ++ (tx c.name ++ r))))))))) := by
  unfold encCmd
  simp only [List.nil_append, List.append_assoc]
theorem kind_le (k : Int) (h1 : 1 ≤ k) (h15 : k ≤ 15) : ((leN (le k.toNat 1) : Nat) : Int) = k := by
  rw [leN_le]
  have : (256 ^ 1 : Nat) = 256 := by decide
  omega
theorem read_all (c : Cmd) (r : List UInt8) (h : Small c) (hn : c.name.length ≤ 100000000) :
    oddS (tkN (encCmd c ++ r)).1 (tkN (encCmd c ++ r)).2 = false ∧ oddS (tkP (encCmd c ++ r)).1 (tkP (encCmd c ++ r)).2 = false ∧ tkC (encCmd c ++ r) = heldCmd c ∧ (tkNm (encCmd c ++ r)).2 = ⟨r, 0⟩ := by
  have hch := h.ch
  have hps := h.ps
  have q1 := (reads_take 1 (le c.kind.toNat 1) (le_length _ _)).all (tx c.msg ++ (i4 c.ch.length ++ (c.ch.flatMap encCh ++ (i4 c.ps.length ++ (c.ps.flatMap tx ++ (i4 (heldC c.count) ++ (i4 (heldC c.commit) ++ (i4 (heldC c.dest) ++ (tx c.name ++ r)))))))))
  have q2 := (reads_text c.msg (by have := h.msg; omega)).all (i4 c.ch.length ++ (c.ch.flatMap encCh ++ (i4 c.ps.length ++ (c.ps.flatMap tx ++ (i4 (heldC c.count) ++ (i4 (heldC c.commit) ++ (i4 (heldC c.dest) ++ (tx c.name ++ r))))))))
  have q3 := (reads_int c.ch.length (by omega) (by omega)).all (c.ch.flatMap encCh ++ (i4 c.ps.length ++ (c.ps.flatMap tx ++ (i4 (heldC c.count) ++ (i4 (heldC c.commit) ++ (i4 (heldC c.dest) ++ (tx c.name ++ r)))))))
  have q4 := (reads_chgs c.ch (fun x hx => by have := h.each x hx; omega)).all (i4 c.ps.length ++ (c.ps.flatMap tx ++ (i4 (heldC c.count) ++ (i4 (heldC c.commit) ++ (i4 (heldC c.dest) ++ (tx c.name ++ r))))))
  have q5 := (reads_int c.ps.length (by omega) (by omega)).all (c.ps.flatMap tx ++ (i4 (heldC c.count) ++ (i4 (heldC c.commit) ++ (i4 (heldC c.dest) ++ (tx c.name ++ r)))))
  have q6 := (reads_txts c.ps (fun x hx => by have := h.path x hx; omega)).all (i4 (heldC c.count) ++ (i4 (heldC c.commit) ++ (i4 (heldC c.dest) ++ (tx c.name ++ r))))
  have q7 := (reads_int (heldC c.count) (heldC_bd _).1 (by have := heldC_bd c.count; omega)).all (i4 (heldC c.commit) ++ (i4 (heldC c.dest) ++ (tx c.name ++ r)))
  have q8 := (reads_int (heldC c.commit) (heldC_bd _).1 (by have := heldC_bd c.commit; omega)).all (i4 (heldC c.dest) ++ (tx c.name ++ r))
  have q9 := (reads_int (heldC c.dest) (heldC_bd _).1 (by have := heldC_bd c.dest; omega)).all (tx c.name ++ r)
  have q10 := (reads_text c.name hn).all r
  rw [← encCmd_r c r] at q1
  generalize encCmd c ++ r = L at *
  have k1 := (show tkK L = takeS 1 ⟨L, 0⟩ from rfl).trans q1
  have k2 := (show tkM L = textS (tkK L).2 from rfl)
  rw [k1] at k2
  replace k2 := k2.trans q2
  have k3 := (show tkN L = (intV (tkM L).2, (takeS 4 (tkM L).2).2) from rfl)
  rw [k2] at k3
  replace k3 := k3.trans q3
  have k4 := (show tkCh L = chgsS (tkN L).1.toNat (tkN L).2 from rfl)
  rw [k3] at k4
  replace k4 := k4.trans q4
  have k5 := (show tkP L = (intV (tkCh L).2, (takeS 4 (tkCh L).2).2) from rfl)
  rw [k4] at k5
  replace k5 := k5.trans q5
  have k6 := (show tkPs L = txtsS (tkP L).1.toNat (tkP L).2 from rfl)
  rw [k5] at k6
  replace k6 := k6.trans q6
  have k7 := (show tk7 L = (intV (tkPs L).2, (takeS 4 (tkPs L).2).2) from rfl)
  rw [k6] at k7
  replace k7 := k7.trans q7
  have k8 := (show tk8 L = (intV (tk7 L).2, (takeS 4 (tk7 L).2).2) from rfl)
  rw [k7] at k8
  replace k8 := k8.trans q8
  have k9 := (show tk9 L = (intV (tk8 L).2, (takeS 4 (tk8 L).2).2) from rfl)
  rw [k8] at k9
  replace k9 := k9.trans q9
  have k10 := (show tkNm L = textS (tk9 L).2 from rfl)
  rw [k9] at k10
  replace k10 := k10.trans q10
  refine ⟨?_, ?_, ?_, by rw [k10]⟩
  · rw [k3]
    simp [oddS]; omega
  · rw [k5]
    simp [oddS]; omega
  · unfold tkC
    rw [k1, k2, k4, k6, k7, k8, k9, k10]
    unfold heldCmd
    rw [kind_le _ h.k1 h.k15]
theorem oddS_short (v : Int) : oddS v short = false := by simp [oddS, short]
theorem read_cut (c : Cmd) (p q : List UInt8) (h : Small c) (hn : c.name.length ≤ 100000000) (e : encCmd c = p ++ q) (hq : q ≠ []) :
    oddS (tkN p).1 (tkN p).2 = false ∧ oddS (tkP p).1 (tkP p).2 = false ∧ (tkNm p).2 = short := by
  have hch := h.ch
  have hps := h.ps
  have e0 := encCmd_r c []
  rw [List.append_nil, List.append_nil] at e0
  have c0 : Cut ⟨p, 0⟩ (encCmd c) := .inr ⟨p, q, rfl, e, hq⟩
  rw [e0] at c0
  have c1 : Cut (tkK p).2 _ := (c0.step (reads_take 1 (le c.kind.toNat 1) (le_length _ _))).1
  have c2 : Cut (tkM p).2 _ := (c1.step (reads_text c.msg (by have := h.msg; omega))).1
  have c3 := c2.step (reads_int c.ch.length (by omega) (by omega))
  have o3 : oddS (tkN p).1 (tkN p).2 = false := by
    unfold tkN
    dsimp only at c3 ⊢
    rcases c3.2 with h1 | h1
    · rw [h1, oddS_short]
    · rw [h1]
      simp [oddS]; omega
  have c4 : Cut (tkCh p).2 (i4 c.ps.length ++ (c.ps.flatMap tx ++ (i4 (heldC c.count) ++ (i4 (heldC c.commit) ++ (i4 (heldC c.dest) ++ tx c.name))))) := by
    unfold tkCh tkN
    dsimp only at c3 ⊢
    rcases c3.2 with h1 | h1
    · rw [h1, chgsS_stop _ _ (by decide)]
      exact .inl rfl
    · rw [h1, show ((c.ch.length : Nat) : Int).toNat = c.ch.length from by omega]
      exact (c3.1.step (reads_chgs c.ch (fun x hx => by have := h.each x hx; omega))).1
  have c5 := c4.step (reads_int c.ps.length (by omega) (by omega))
  have o5 : oddS (tkP p).1 (tkP p).2 = false := by
    unfold tkP
    dsimp only at c5 ⊢
    rcases c5.2 with h1 | h1
    · rw [h1, oddS_short]
    · rw [h1]
      simp [oddS]; omega
  have c6 : Cut (tkPs p).2 (i4 (heldC c.count) ++ (i4 (heldC c.commit) ++ (i4 (heldC c.dest) ++ tx c.name))) := by
    unfold tkPs tkP
    dsimp only at c5 ⊢
    rcases c5.2 with h1 | h1
    · rw [h1, txtsS_stop _ _ (by decide)]
      exact .inl rfl
    · rw [h1, show ((c.ps.length : Nat) : Int).toNat = c.ps.length from by omega]
      exact (c5.1.step (reads_txts c.ps (fun x hx => by have := h.path x hx; omega))).1
  have c7 : Cut (tk7 p).2 _ := (c6.step (reads_int (heldC c.count) (heldC_bd _).1 (by have := heldC_bd c.count; omega))).1
  have c8 : Cut (tk8 p).2 _ := (c7.step (reads_int (heldC c.commit) (heldC_bd _).1 (by have := heldC_bd c.commit; omega))).1
  have c9 : Cut (tk9 p).2 _ := (c8.step (reads_int (heldC c.dest) (heldC_bd _).1 (by have := heldC_bd c.dest; omega))).1
  rw [← List.append_nil (tx c.name)] at c9
  have c10 : Cut (tkNm p).2 [] := (c9.step (reads_text c.name hn)).1
  exact ⟨o3, o5, c10.done⟩
theorem pack_held (c : Cmd) (h : rightL c = 0) : packL (heldCmd c) = encCmd c := by
  unfold packL
  rw [if_pos (right_held c h), encCmd_held]
theorem pack_back (c : Cmd) (h : rightL c = 0) (hn : c.name.length ≤ 100000000) : takeE (encCmd c) = 0 ∧ takeC (encCmd c) = heldCmd c := by
  obtain ⟨h1, h2, h3, h4⟩ := read_all c [] (right_small c h) hn
  rw [List.append_nil] at h1 h2 h3 h4
  have hE : takeE (encCmd c) = 0 := by
    unfold takeE
    rw [h1, h2, h3, h4, right_held c h, pack_held c h]
    simp [endC]
  refine ⟨hE, ?_⟩
  unfold takeC
  rw [hE, if_neg (by decide), h3]
theorem pack_more (c : Cmd) (h : rightL c = 0) (hn : c.name.length ≤ 100000000) (b : UInt8) : takeE (encCmd c ++ [b]) = 5 := by
  obtain ⟨h1, h2, h3, h4⟩ := read_all c [b] (right_small c h) hn
  unfold takeE
  rw [h1, h2, h3, h4, right_held c h, pack_held c h]
  have hne : encCmd c ≠ encCmd c ++ [b] := fun e => by
    have := congrArg List.length e
    simp at this
  simp [endC]
theorem pack_cut (c : Cmd) (h : rightL c = 0) (hn : c.name.length ≤ 100000000) (p q : List UInt8) (e : encCmd c = p ++ q) (hq : q ≠ []) : takeE p = 4 := by
  obtain ⟨h1, h2, h3⟩ := read_cut c p q (right_small c h) hn e hq
  unfold takeE
  rw [h1, h2, h3]
  simp [endC, short]
theorem take_pack (l : List UInt8) (h : takeE l = 0) : rightL (takeC l) = 0 ∧ packL (takeC l) = l := by
  have hC : takeC l = tkC l := by unfold takeC; rw [h, if_neg (by decide)]
  rw [hC]
  unfold takeE at h
  split at h
  · cases h
  split at h
  · cases h
  unfold endC at h
  split at h
  · rename_i h1; exact absurd h h1
  split at h
  · cases h
  rename_i h1 h2
  split at h
  · cases h
  rename_i h3
  exact ⟨by simpa using h2, by simpa using h3⟩
end Go.Proofs.YteefceainlfdfaaDoor
