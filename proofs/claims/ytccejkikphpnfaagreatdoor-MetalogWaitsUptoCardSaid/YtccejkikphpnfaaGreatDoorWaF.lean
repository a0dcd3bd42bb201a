
/- read of a wait's record. -/
import Derived.Test.YtccejkikphpnfaaGreatDoorWaC
import Derived.Test.YtccejkikphpnfaaGreatDoorMtA
import Derived.Test.YtccejkikphpnfaaGreatDoorWaD
import Derived.Test.YtccejkikphpnfaaGreatDoorWaE
namespace Go.Proofs.YtccejkikphpnfaaGreatDoor
set_option linter.unusedSimpArgs false
set_option linter.unusedVariables false
open Go.ChangeShapes Go.WideShapes Go.ChangeAt Go.RowKit

def badMC (m : Int × List Int) : Bool := decide (m.1 < 0) || (!numB m.1 || !allB m.2)
def markersBC (l : List (Int × List Int)) : Bool := decide (l.length ≤ 2000) && !l.any badMC
def rootBC (r : RC) : Bool := (decide (-1 ≤ r.p) && decide (r.p ≤ 1999)) && (decide (r.ks.length ≤ 2000) && (markersBC r.ms && (marksB r.ns && numB r.k)))
def mkBC (m : Int × List Int) : List UInt8 := i4 m.1 ++ numsB m.2
def rootGC (r : RC) : List UInt8 := [1] ++ i4 r.p ++ i4 r.ks.length ++ kysB r.ks ++ i4 r.ms.length ++ r.ms.flatMap mkBC ++ i4 r.ns.length ++ r.ns.flatMap nmB ++ i4 r.k
theorem rootB_c (r : Rt) : rootB r = rootBC (rtC r) := by
  unfold rootB rootBC rtC markersB markersBC
  rw [List.length_map, List.any_map]
  rfl
theorem flatMap_map' {X Y Z : Type} (f : X → Y) (g : Y → List Z) (l : List X) : (l.map f).flatMap g = l.flatMap (fun x => g (f x)) := by
  induction l with
  | nil => rfl
  | cons x l ih => rw [List.map_cons, List.flatMap_cons, List.flatMap_cons, ih]
theorem rootG_c (r : Rt) : rootG r = rootGC (rtC r) := by
  unfold rootG rootGC rtC
  rw [List.length_map, flatMap_map']
  rfl
def badSC (m : Int × List Fl) : Bool := !numB m.1 || !rightT m.2
def waitBC (p : WC) : Bool := numB p.src && (numB p.dst && (numB p.com && (decide (p.ss.length ≤ 2000) && (decide (p.cs.length ≤ 100) && (!p.ss.any badSC && !p.cs.any badC)))))
def stBC (m : Int × List Fl) : List UInt8 := i4 m.1 ++ flsB m.2
def waitGC (p : WC) : List UInt8 := [3] ++ b1 p.re ++ i4 p.src ++ i4 p.dst ++ i4 p.com ++ i4 p.ss.length ++ p.ss.flatMap stBC ++ i4 p.cs.length ++ p.cs.flatMap clB
theorem waitB_c (p : Wt) : waitB p = (p.on && waitBC (wtC p)) := by
  unfold waitB waitBC wtC
  rw [List.length_map, List.any_map]
  rfl
theorem waitG_c (p : Wt) : waitG p = waitGC (wtC p) := by
  unfold waitG waitGC wtC
  rw [List.length_map, flatMap_map']
  rfl
theorem waitGC_len (p : WC) : (waitGC p).length = 22 + (p.ss.flatMap stBC).length + (p.cs.flatMap clB).length := by
  unfold waitGC; simp only [List.length_append, i4_length, b1_len, List.length_cons, List.length_nil]; omega

/-! What is written is read again. -/
theorem listS_back {X : Type} {f : RS → X × RS} {enc : X → List UInt8} : ∀ (l : List X), (∀ x ∈ l, ∀ r, f ⟨enc x ++ r, 0⟩ = (x, ⟨r, 0⟩)) → ∀ r, listS f l.length ⟨l.flatMap enc ++ r, 0⟩ = (l, ⟨r, 0⟩)
  | [], _, r => rfl
  | x :: l, h, r => by
    rw [List.length_cons, listS_go f _ _ rfl, List.flatMap_cons, List.append_assoc, h x (by simp)]
    dsimp only
    rw [listS_back l (fun y hy => h y (by simp [hy])) r]
theorem someS_back {X : Type} {f : RS → X × RS} {enc : X → List UInt8} (l : List X) (hl : l.length ≤ 4294967294) (h : ∀ x ∈ l, ∀ r, f ⟨enc x ++ r, 0⟩ = (x, ⟨r, 0⟩)) (r : List UInt8) : someS f ⟨i4 l.length ++ (l.flatMap enc ++ r), 0⟩ = (l, ⟨r, 0⟩) := by
  unfold someS
  rw [intV_i4 _ _ (by omega) (by omega), takeS_i4, Int.toNat_natCast]
  exact listS_back l h r
theorem intF_back (v : Int) (h : -1 ≤ v ∧ v ≤ 1999) (r : List UInt8) : intF ⟨i4 v ++ r, 0⟩ = (v, ⟨r, 0⟩) := by
  unfold intF; rw [intV_i4 v r h.1 (by omega), takeS_i4]
theorem numB_iff (v : Int) : numB v = true ↔ -1 ≤ v ∧ v ≤ 1999 := by
  unfold numB; rw [Bool.and_eq_true, decide_eq_true_eq, decide_eq_true_eq]
theorem Ky.ext' {x y : Ky} (h : x.b = y.b) : x = y := by cases x; cases y; cases h; rfl
theorem ky_back (x : Ky) (r : List UInt8) : kyS ⟨x.b ++ r, 0⟩ = (x, ⟨r, 0⟩) :=
  Prod.ext (Ky.ext' (by rw [kyS_fst, keyS_app])) (by rw [kyS_snd, keyS_app])
theorem nums_back (l : List Int) (hl : l.length ≤ 2000) (h : ∀ v ∈ l, -1 ≤ v ∧ v ≤ 1999) (r : List UInt8) : numsS ⟨numsB l ++ r, 0⟩ = (l, ⟨r, 0⟩) := by
  unfold numsS numsB
  rw [List.append_assoc]
  exact someS_back l (by omega) (fun v hv r => intF_back v (h v hv) r) r
theorem badN_false (v : Int) (h : badN v = false) : -1 ≤ v ∧ v ≤ 1999 := by
  unfold badN at h
  rw [Bool.or_eq_false_iff, Bool.not_eq_false'] at h
  exact (numB_iff v).1 h.2
theorem mk_back (m : Int × List Int) (h : badMC m = false) (r : List UInt8) : mkS ⟨mkBC m ++ r, 0⟩ = (m, ⟨r, 0⟩) := by
  unfold badMC at h
  rw [Bool.or_eq_false_iff, Bool.or_eq_false_iff, Bool.not_eq_false', Bool.not_eq_false'] at h
  obtain ⟨_, h1, h2⟩ := h
  have h1 := (numB_iff _).1 h1
  unfold allB at h2
  rw [Bool.and_eq_true, decide_eq_true_eq, Bool.not_eq_true', List.any_eq_false] at h2
  unfold mkS mkBC
  rw [List.append_assoc, intV_i4 _ _ h1.1 (by omega), takeS_i4]
  dsimp only
  rw [nums_back m.2 h2.1 (fun v hv => badN_false v (by simpa using h2.2 v hv)) r]
theorem text_back (s r : List UInt8) (h : s.length ≤ 100000000) : textS ⟨tx s ++ r, 0⟩ = (s, ⟨r, 0⟩) := by
  rw [← t4_str, textS_t4 (str s) r (by rw [str_size]; exact h)]; rfl
theorem badK_false (l : List Nm) (h : (List.range l.length).any (badK l) = false) : ∀ x ∈ l, x.name.length ≤ 50 ∧ -1 ≤ x.com ∧ x.com ≤ 1999 := by
  intro x hx
  obtain ⟨i, hi, rfl⟩ := List.mem_iff_getElem.1 hx
  rw [List.any_eq_false] at h
  have hb := h i (by rw [List.mem_range]; exact hi)
  unfold badK at hb
  rw [List.getElem?_eq_getElem hi] at hb
  rw [Bool.not_eq_true, Bool.or_eq_false_iff, Bool.or_eq_false_iff, Bool.or_eq_false_iff, Bool.not_eq_false', Bool.not_eq_false'] at hb
  obtain ⟨h1, _, h3, _⟩ := hb
  have h3 := (numB_iff l[i].com).1 h3
  unfold lenB at h1
  rw [Bool.and_eq_true, decide_eq_true_eq, decide_eq_true_eq] at h1
  exact ⟨h1.2, h3.1, h3.2⟩
theorem nm_back (x : Nm) (h : x.name.length ≤ 50 ∧ -1 ≤ x.com ∧ x.com ≤ 1999) (r : List UInt8) : nmS ⟨nmB x ++ r, 0⟩ = (x, ⟨r, 0⟩) := by
  unfold nmS nmB
  rw [List.append_assoc, text_back _ _ (by omega)]
  dsimp only
  rw [intV_i4 _ _ h.2.1 (by omega), takeS_i4]
def kindL (l : List UInt8) : Nat := leN (takeS 1 ⟨l, 0⟩).1
def s1L (l : List UInt8) : RS := (takeS 1 ⟨l, 0⟩).2
theorem kind_cons (b : UInt8) (l : List UInt8) : kindL (b :: l) = b.toNat ∧ s1L (b :: l) = ⟨l, 0⟩ := by
  unfold kindL s1L takeS
  simp [leN]
theorem root_back (c : RC) (h : rootBC c = true) : kindL (rootGC c) = 1 ∧ rootS (s1L (rootGC c)) = (c, ⟨[], 0⟩) := by
  simp only [rootBC, markersBC, marksB, sortB, Bool.and_eq_true, decide_eq_true_eq, Bool.not_eq_true', List.any_eq_false] at h
  obtain ⟨⟨h1, h2⟩, h3, ⟨h4, h5⟩, ⟨h6, h7⟩, h8⟩ := h
  have h8 := (numB_iff _).1 h8
  have e : rootGC c = 1 :: (i4 c.p ++ (i4 c.ks.length ++ (c.ks.flatMap Ky.b ++ (i4 c.ms.length ++ (c.ms.flatMap mkBC ++ (i4 c.ns.length ++ (c.ns.flatMap nmB ++ (i4 c.k ++ [])))))))) := by
    unfold rootGC kysB; simp only [List.append_assoc, List.append_nil, List.cons_append, List.nil_append]
  have k := kind_cons 1 (i4 c.p ++ (i4 c.ks.length ++ (c.ks.flatMap Ky.b ++ (i4 c.ms.length ++ (c.ms.flatMap mkBC ++ (i4 c.ns.length ++ (c.ns.flatMap nmB ++ (i4 c.k ++ []))))))))
  rw [e]
  refine ⟨k.1, ?_⟩
  rw [k.2]
  have q1 := someS_back c.ks (by omega) (fun x _ r => ky_back x r) (i4 c.ms.length ++ (c.ms.flatMap mkBC ++ (i4 c.ns.length ++ (c.ns.flatMap nmB ++ (i4 c.k ++ [])))))
  have q2 := someS_back c.ms (by omega) (fun x hx r => mk_back x (by simpa using h5 x hx) r) (i4 c.ns.length ++ (c.ns.flatMap nmB ++ (i4 c.k ++ [])))
  have q3 := someS_back c.ns (by omega) (fun x hx r => nm_back x (badK_false c.ns (by rw [List.any_eq_false]; exact fun i hi => by simpa using h6 i hi) x hx) r) (i4 c.k ++ [])
  unfold rootS rS3 rS2 rS1
  rw [intV_i4 _ _ h1 (by omega), takeS_i4]
  dsimp only
  rw [q1]
  dsimp only
  rw [q2]
  dsimp only
  rw [q3]
  dsimp only
  rw [intV_i4 _ _ h8.1 (by omega), takeS_i4]
theorem fl_back (x : Fl) (h : x.path.length ≤ 100000000 ∧ x.text.length ≤ 100000000) (r : List UInt8) : flS ⟨encF x ++ r, 0⟩ = (x, ⟨r, 0⟩) := by
  unfold flS encF
  rw [List.append_assoc, List.append_assoc, text_back _ _ h.1]
  dsimp only
  rw [boolS_b1]
  dsimp only
  rw [text_back _ _ h.2]
theorem st_back (m : Int × List Fl) (h : -1 ≤ m.1 ∧ m.1 ≤ 1999) (hl : (stBC m).length ≤ 80000000) (r : List UInt8) : stS ⟨stBC m ++ r, 0⟩ = (m, ⟨r, 0⟩) := by
  have h3 : (m.2.flatMap encF).length ≤ 80000000 := by
    unfold stBC flsB at hl
    rw [List.length_append, List.length_append] at hl; omega
  have h4 : m.2.length ≤ (m.2.flatMap encF).length := by
    have : ∀ l : List Fl, l.length ≤ (l.flatMap encF).length := fun l => by
      induction l with
      | nil => simp
      | cons x l ih => rw [List.flatMap_cons, List.length_append, List.length_cons, encF_len]; omega
    exact this _
  unfold stS stBC flsB
  rw [List.append_assoc, List.append_assoc, intV_i4 _ _ h.1 (by omega), takeS_i4]
  dsimp only
  rw [someS_back m.2 (by omega) (fun x hx r => fl_back x (by
    have := flat_mem_le encF m.2 x hx
    rw [encF_len] at this
    omega) r) r]
theorem cl_back (x : Cl) (h : -1 ≤ x.kind ∧ x.kind ≤ 1999) (hl : (clB x).length ≤ 80000000) (r : List UInt8) : clS ⟨clB x ++ r, 0⟩ = (x, ⟨r, 0⟩) := by
  rw [clB_len] at hl
  unfold clS clB
  rw [List.append_assoc, List.append_assoc, text_back _ _ (by omega)]
  dsimp only
  rw [intV_i4 _ _ h.1 (by omega), takeS_i4]
  dsimp only
  rw [text_back _ _ (by omega)]
theorem wait_back (c : WC) (h : waitBC c = true) (hl : (waitGC c).length ≤ 80000000) : kindL (waitGC c) = 3 ∧ waitS (s1L (waitGC c)) = (c, ⟨[], 0⟩) := by
  rw [waitGC_len] at hl
  simp only [waitBC, Bool.and_eq_true, decide_eq_true_eq, Bool.not_eq_true', List.any_eq_false] at h
  obtain ⟨h1, h2, h3, h4, h5, h6, h7⟩ := h
  have h1 := (numB_iff _).1 h1
  have h2 := (numB_iff _).1 h2
  have h3 := (numB_iff _).1 h3
  have e : waitGC c = 3 :: (b1 c.re ++ (i4 c.src ++ (i4 c.dst ++ (i4 c.com ++ (i4 c.ss.length ++ (c.ss.flatMap stBC ++ (i4 c.cs.length ++ (c.cs.flatMap clB ++ [])))))))) := by
    unfold waitGC; simp only [List.append_assoc, List.append_nil, List.cons_append, List.nil_append]
  have k := kind_cons 3 (b1 c.re ++ (i4 c.src ++ (i4 c.dst ++ (i4 c.com ++ (i4 c.ss.length ++ (c.ss.flatMap stBC ++ (i4 c.cs.length ++ (c.cs.flatMap clB ++ []))))))))
  rw [e]
  refine ⟨k.1, ?_⟩
  rw [k.2]
  have q1 := someS_back c.ss (by omega) (fun x hx r => st_back x (by
    have := h6 x hx
    simp only [badSC, Bool.or_eq_true, not_or, Bool.not_eq_true', Bool.not_eq_false] at this
    exact (numB_iff _).1 this.1) (by have := flat_mem_le stBC c.ss x hx; omega) r) (i4 c.cs.length ++ (c.cs.flatMap clB ++ []))
  have q2 := someS_back c.cs (by omega) (fun x hx r => cl_back x (by
    have := h7 x hx
    simp only [badC, Bool.not_eq_true', Bool.not_eq_false] at this
    exact (numB_iff _).1 this) (by have := flat_mem_le clB c.cs x hx; omega) r) []
  unfold waitS wS2 wS1 wS0
  rw [boolS_b1]
  dsimp only
  rw [intV_i4 _ _ h1.1 (by omega), takeS_i4]
  dsimp only
  rw [intV_i4 _ _ h2.1 (by omega), takeS_i4]
  dsimp only
  rw [intV_i4 _ _ h3.1 (by omega), takeS_i4]
  dsimp only
  rw [q1]
  dsimp only
  rw [q2]
end Go.Proofs.YtccejkikphpnfaaGreatDoor

namespace Go.Proofs.YtccejkikphpnfaaGreatDoor
set_option linter.unusedSimpArgs false
set_option linter.unusedVariables false
open Go.ChangeShapes Go.WideShapes Go.ChangeAt Go.RowKit

structure Enc {X : Type} (f : RS → X × RS) (enc : X → List UInt8) (C : Nat) : Prop where
  le : ∀ s, (enc (f s).1).length + (f s).2.l.length ≤ s.l.length + C
  ok : ∀ s, s.e = 0 → (f s).2.e = 0 → (enc (f s).1).length + (f s).2.l.length ≤ s.l.length
theorem Enc.list {X : Type} {f : RS → X × RS} {enc : X → List UInt8} {C : Nat} (h : Enc f enc C) (hf : Goes f) : ∀ n s, ((listS f n s).1.flatMap enc).length + (listS f n s).2.l.length ≤ s.l.length + C ∧ (s.e = 0 → (listS f n s).2.e = 0 → ((listS f n s).1.flatMap enc).length + (listS f n s).2.l.length ≤ s.l.length)
  | 0, s => ⟨by simp [listS], fun _ _ => by simp [listS]⟩
  | n + 1, s => by
    by_cases he : s.e = 0
    · rw [listS_go f n s he]
      dsimp only
      rw [List.flatMap_cons, List.length_append]
      by_cases h1 : (f s).2.e = 0
      · have ih := Enc.list h hf n (f s).2
        have h2 := h.ok s he h1
        exact ⟨by have := ih.1; omega, fun _ h3 => by have := ih.2 h1 h3; omega⟩
      · rw [listS_stop f n _ h1]
        have h2 := h.le s
        exact ⟨by simp; omega, fun _ h3 => absurd h3 h1⟩
    · rw [listS_stop f _ s he]
      exact ⟨by simp, fun h => absurd h he⟩
theorem take_enc (n : Nat) (s : RS) : n + (takeS n s).2.l.length ≤ s.l.length + n ∧ (s.e = 0 → (takeS n s).2.e = 0 → n + (takeS n s).2.l.length ≤ s.l.length) := by
  have h := takeS_len n s
  refine ⟨by omega, fun he h2 => ?_⟩
  unfold takeS at h2 ⊢
  rw [if_neg (by simp [he])] at h2 ⊢
  split
  · rename_i h3; rw [if_pos h3] at h2; exact absurd h2 (by decide)
  · simp; omega
/-- A number ahead of a list, and the list. -/
theorem Enc.some {X : Type} {f : RS → X × RS} {enc : X → List UInt8} {C : Nat} (h : Enc f enc C) (hf : Goes f) : Enc (someS f) (fun l => i4 l.length ++ l.flatMap enc) (C + 4) := by
  refine ⟨fun s => ?_, fun s he h2 => ?_⟩
  · rw [List.length_append, i4_length]
    have h1 := (take_enc 4 s).1
    have h3 := (h.list hf (intV s).toNat (takeS 4 s).2).1
    unfold someS
    omega
  · rw [List.length_append, i4_length]
    have hk : (takeS 4 s).2.e = 0 := by
      by_cases e : (takeS 4 s).2.e = 0
      · exact e
      · exact absurd h2 ((list_goes hf _).stuck _ e)
    have h1 := (take_enc 4 s).2 he hk
    have h3 := (h.list hf (intV s).toNat (takeS 4 s).2).2 hk h2
    unfold someS at h2 ⊢
    omega
theorem Enc.two {X Y Z : Type} {f : RS → X × RS} {g : RS → Y × RS} {k : RS → Z × RS} {ef : X → List UInt8} {eg : Y → List UInt8} {ek : Z → List UInt8} {C D : Nat} (hf : Enc f ef C) (hg : Enc g eg D) (gg : Goes g)
    (hk : ∀ s, (k s).2 = (g (f s).2).2) (he : ∀ s, (ek (k s).1).length = (ef (f s).1).length + (eg (g (f s).2).1).length) : Enc k ek (C + D) := by
  refine ⟨fun s => ?_, fun s h1 h2 => ?_⟩
  · have a := hf.le s
    have b := hg.le (f s).2
    rw [he, hk]; omega
  · rw [hk] at h2
    have h3 : (f s).2.e = 0 := by
      by_cases e : (f s).2.e = 0
      · exact e
      · exact absurd h2 (gg.stuck _ e)
    have a := hf.ok s h1 h3
    have b := hg.ok (f s).2 h3 h2
    rw [he, hk]; omega
theorem int_enc : Enc intF i4 4 := ⟨fun s => by rw [i4_length]; exact (take_enc 4 s).1, fun s h h2 => by rw [i4_length]; exact (take_enc 4 s).2 h h2⟩
theorem takeS_both (n : Nat) (s : RS) : (takeS n s).1.length + (takeS n s).2.l.length ≤ s.l.length := by
  unfold takeS
  split
  · simp
  · split
    · simp
    · simp; omega
theorem text_enc : Enc textS tx 4 := by
  refine ⟨fun s => ?_, fun s h h2 => ?_⟩
  · rw [tx_len]
    unfold textS
    have h1 := takeS_len 4 s
    split
    · simp; omega
    · split
      · simp
      · have := takeS_both (intV s).toNat (takeS 4 s).2; omega
  · rw [tx_len]
    unfold textS at h2 ⊢
    by_cases h4 : (takeS 4 s).2.e ≠ 0
    · rw [if_pos h4] at h2; exact absurd h2 h4
    · rw [if_neg h4] at h2 ⊢
      have h1 := (take_enc 4 s).2 h (by simpa using h4)
      split
      · rename_i h5; rw [if_pos h5] at h2; exact absurd h2 (by decide)
      · have := takeS_both (intV s).toNat (takeS 4 s).2; omega
theorem bool_enc : Enc boolS b1 1 := by
  refine ⟨fun s => ?_, fun s h h2 => ?_⟩
  · rw [b1_len]; have := bool_goes.le s; omega
  · rw [b1_len]
    unfold boolS at h2 ⊢
    split
    · rename_i h5; rw [if_pos h5] at h2; exact absurd h2 (by decide)
    · rename_i h5
      rw [if_neg h5] at h2
      exact (take_enc 1 s).2 h h2
theorem fl_enc : Enc flS encF 9 :=
  (text_enc.two (bool_enc.two text_enc text_goes (k := fun s => (((boolS s).1, (textS (boolS s).2).1), (textS (boolS s).2).2)) (ek := fun p => b1 p.1 ++ tx p.2) (fun _ => rfl) (fun s => by rw [List.length_append]))
    (bool_goes.seq text_goes (fun _ => rfl)) (k := flS) (ek := encF) (fun _ => rfl) (fun s => by unfold encF flS; simp only [List.length_append]; omega))
theorem st_enc : Enc stS stBC 17 :=
  int_enc.two (fl_enc.some fl_eats.toGoes) (some_goes fl_eats.toGoes) (k := stS) (ek := stBC) (fun _ => rfl) (fun s => by unfold stBC flsB stS intF; rw [List.length_append])
theorem cl_enc : Enc clS clB 12 :=
  (text_enc.two (int_enc.two text_enc text_goes (k := fun s => (((intF s).1, (textS (intF s).2).1), (textS (intF s).2).2)) (ek := fun p => i4 p.1 ++ tx p.2) (fun _ => rfl) (fun s => by rw [List.length_append]))
    (int_eats.toGoes.seq text_goes (fun _ => rfl)) (k := clS) (ek := clB) (fun _ => rfl) (fun s => by unfold clB clS intF; simp only [List.length_append]; omega))
theorem waitS_len (s : RS) : (waitGC (waitS s).1).length ≤ s.l.length + 100 := by
  rw [waitGC_len]
  have h1 := (st_enc.some st_eats.toGoes).le (wS0 s)
  have h2 := (cl_enc.some cl_eats.toGoes).le (wS1 s).2
  have h3 : (wS0 s).l.length ≤ s.l.length := by
    unfold wS0
    have a := takeS_len 4 (takeS 4 (takeS 4 (boolS s).2).2).2
    have b := takeS_len 4 (takeS 4 (boolS s).2).2
    have c := takeS_len 4 (boolS s).2
    have d := bool_goes.le s
    omega
  rw [List.length_append, i4_length] at h1 h2
  have e1 : (waitS s).1.ss = (wS1 s).1 := rfl
  have e2 : (waitS s).1.cs = (wS2 s).1 := rfl
  have e3 : wS1 s = someS stS (wS0 s) := rfl
  have e4 : wS2 s = someS clS (wS1 s).2 := rfl
  rw [e1, e2, e4]
  rw [← e3] at h1
  omega
end Go.Proofs.YtccejkikphpnfaaGreatDoor

namespace Go.Proofs.YtccejkikphpnfaaGreatDoor
set_option linter.unusedSimpArgs false
set_option linter.unusedVariables false
set_option maxRecDepth 100000
open Go.ChangeShapes Go.WideShapes Go.ChangeAt Go.RowKit

def ReadNo (w : World) (e : Ending) (w' : World) : Prop := e = .returned (.tuple #[.nilFunc, .int .i64 5]) ∧ Upd (fun _ => False) w w'
def okRoot (l : List UInt8) : Bool := rootBC (rootS (s1L l)).1 && (rootGC (rootS (s1L l)).1 == l)
def okWait (l : List UInt8) : Bool := waitBC (waitS (s1L l)).1 && (waitGC (waitS (s1L l)).1 == l)
def DoRoot (w : World) (lb : Nat) (v : RC) (e : Ending) (w' : World) : Prop :=
  ∃ L2 BX r, e = .returned (.tuple #[.func (.func 96) #[] #[.pointer (some ⟨L2, 0, none⟩), .pointer (some ⟨BX, 0, none⟩)], .int .i64 0]) ∧ w'.heap[L2]? = some (.cells #[.pointer (some ⟨lb, 0, none⟩)] 42) ∧ w'.heap[BX]? = some (.cells (rtA r) 26) ∧
    rtC r = v ∧ RtIn w' r ∧ RtBl (fun g => w.heap.size ≤ g ∧ g < w'.heap.size) r ∧ Upd (fun _ => False) w w'
def DoWait (w : World) (lb : Nat) (v : WC) (e : Ending) (w' : World) : Prop :=
  ∃ L2 BX p, e = .returned (.tuple #[.func (.func 103) #[] #[.pointer (some ⟨BX, 0, none⟩), .pointer (some ⟨L2, 0, none⟩)], .int .i64 0]) ∧ w'.heap[L2]? = some (.cells #[.pointer (some ⟨lb, 0, none⟩)] 42) ∧ w'.heap[BX]? = some (.cells (wtA p) 30) ∧
    (p.on = true ∧ wtC p = v) ∧ WtIn w' p ∧ WtBl (fun g => w.heap.size ≤ g ∧ g < w'.heap.size) p ∧ Upd (fun _ => False) w w'
def ReadRt (w : World) (lb : Nat) (l : List UInt8) (e : Ending) (w' : World) : Prop := if okRoot l = true then DoRoot w lb (rootS (s1L l)).1 e w' else ReadNo w e w'
def ReadWt (w : World) (lb : Nat) (l : List UInt8) (e : Ending) (w' : World) : Prop := if okWait l = true then DoWait w lb (waitS (s1L l)).1 e w' else ReadNo w e w'
theorem rtC_no {r : Rt} (h : false = rootBC (rtC r)) : rootBC (rtC r) = false := h.symm
theorem rtC_yes {r : Rt} (h : true = rootBC (rtC r)) : rootBC (rtC r) = true := h.symm
theorem wtC_no {p : Wt} (h : false = waitBC (wtC p)) : waitBC (wtC p) = false := h.symm
theorem wtC_yes {p : Wt} (h : true = waitBC (wtC p)) : waitBC (wtC p) = true := h.symm
theorem infoPend7' : (Tryz.prog.info? 30).map (·.size) = some 7 := by kernel_rfl

set_option maxHeartbeats 16000000 in
theorem read_rootX (lb : Nat) (a : Option Addr) (c : Nat) (l : List UInt8) (w : World) (hv : Vw w a l.length c 1 (bvs l)) (hl : l.length ≤ 70000000) (hk : kindL l = 1) :
    Calls Tryz.prog 57 #[.pointer (some ⟨lb, 0, none⟩), .slice a l.length c] w (ReadRt w lb l) := by
  have HOK : Hid (okRoot l = (rootBC (rootS (s1L l)).1 && (rootGC (rootS (s1L l)).1 == l))) := Lib.hid rfl
  have HG1 : Hid (okRoot l = true → ∀ e w', DoRoot w lb (rootS (s1L l)).1 e w' → ReadRt w lb l e w') := Lib.hid (fun h e w' hd => by unfold ReadRt; rw [if_pos h]; exact hd)
  have HG0 : Hid (okRoot l = false → ∀ e w', ReadNo w e w' → ReadRt w lb l e w') := Lib.hid (fun h e w' hd => by unfold ReadRt; rw [h, if_neg (by decide)]; exact hd)
  generalize ReadRt w lb l = GG at *
  generalize okRoot l = OO at *
  have hU0 := Upd.alloc (fun _ => False) w (.cells #[.pointer (some ⟨lb, 0, none⟩)] 42)
  have hb0 := heap_alloc_new w (.cells #[.pointer (some ⟨lb, 0, none⟩)] 42)
  have HI0 := Lib.hid hv
  have HI := Lib.hid (And.intro (hv.upd hU0 (fun _ _ h => h)) (And.intro hb0 hU0))
  have hkk : takeS (heldN 1) ⟨l, 0⟩ = ((takeS 1 ⟨l, 0⟩).1, s1L l) := rfl
  have hkl : leN (takeS 1 ⟨l, 0⟩).1 = 1 := hk
  have hs1 : (s1L l).l.length ≤ l.length := takeS_len 1 ⟨l, 0⟩
  have HK := Lib.hid (And.intro hkk (And.intro hkl hs1))
  clear hv hU0 hb0 hkk hkl hs1 hk
  go_enter Tryz.func57, Tryz.ntmps57
  go_upto_region 1 with (fail)
  generalize w.alloc (.cells #[.pointer (some ⟨lb, 0, none⟩)] 42) = y0 at *
  obtain ⟨L2, hL2⟩ : ∃ B, w.heap.size = B := ⟨_, rfl⟩
  rw [hL2] at HI ⊢
  have HB := Lib.hid hL2
  clear hL2
  go_wp2_with fail
  refine (read_any3 a c l y0 HI.out.1 (by omega)).mono ?_
  rintro e w1 ⟨br, F, rfl, hR, hU, hbr, hF⟩
  obtain ⟨BR, hBR⟩ : ∃ B, w1.heap.size = B := ⟨_, rfl⟩
  have hbrl : br < BR := by
    obtain ⟨a9, c9, hh, _⟩ := hR.ex
    rw [← hBR]
    exact lt_of_heap hh
  have hz0 := hU.size
  have hUn := Upd.alloc (fun _ => False) w1 (.cells #[.pointer (some ⟨br, 0, none⟩)] 139)
  have hrow := heap_alloc_new w1 (.cells #[.pointer (some ⟨br, 0, none⟩)] 139)
  have hL2 := ((hU.trans hUn).block L2 (lt_of_heap HI.out.2.1) (fun h => h)).trans HI.out.2.1
  have hltL := lt_of_heap HI.out.2.1
  have hUw := HI.out.2.2.trans (hU.trans hUn)
  rw [hBR] at hrow
  have HJ := Lib.hid (And.intro (hR.upd hUn (fun h => h) (fun _ _ h => h)) (And.intro hrow (And.intro hL2 hUw)))
  have hnum := rnum_any br F ⟨l, 0⟩ 1 _ HJ.out.1 (by show l.length ≤ _; omega)
  rw [HK.out.1] at hnum
  unfold ReadN at hnum
  dsimp only at hnum
  rw [HK.out.2.1] at hnum
  have hF2 : ∀ g, F = some g → g < BR := fun g hg => by have := (hF g hg).2; omega
  have hbrL : L2 < br := by omega
  have HN := Lib.hid (And.intro hbrl (And.intro hF2 (And.intro hbrL (fun g (hg : F = some g) => show L2 < g from by have := (hF g hg).1; omega))))
  have HS1 : Hid ((s1L l).l.length ≤ 100000000) := Lib.hid (by have := HK.out.2.2; omega)
  clear hR hU hbr hF hbrl hz0 hUn hrow hL2 hltL hUw hF2 hbrL HI HK
  generalize s1L l = s1 at *
  go_upto_region 5 with (fail)
  generalize w1.alloc (.cells #[.pointer (some ⟨br, 0, none⟩)] 139) = w2 at *
  clear hBR
  have q : w2.cell? ⟨BR, 0, none⟩ = some (.pointer (some ⟨br, 0, none⟩)) := by rw [cell_of_row _ _ _ _ _ _ HJ.out.2.1]; rfl
  go_wp2_with fail
  refine hnum.mono ?_
  rintro e w3 ⟨rfl, hR, hU⟩
  have hn1 := HN.out.1
  have hn2 := HN.out.2.2.1
  have hrow := (hU.block BR (lt_of_heap HJ.out.2.1) (by omega)).trans HJ.out.2.1
  have hL2 := (hU.block L2 (lt_of_heap HJ.out.2.2.1) (by omega)).trans HJ.out.2.2.1
  have hBz := lt_of_heap hrow
  have HB' := HB.out
  have hUw : Upd (fun _ => False) w w3 := HJ.out.2.2.2.next hU (fun i hi e => by omega)
  have HR := Lib.hid (And.intro hR (And.intro hrow (And.intro hL2 (And.intro hUw hBz))))
  clear q hnum
  have q : w3.cell? ⟨BR, 0, none⟩ = some (.pointer (some ⟨br, 0, none⟩)) := by rw [cell_of_row _ _ _ _ _ _ hrow]; rfl
  clear hR hU hrow hL2 hUw hBz HB' hn1 hn2 HJ
  have hmr := mrroot_gen br F s1 w3 HR.out.1 (fun g hg => by have := HN.out.2.1 g hg; have := HR.out.2.2.2.2; omega) HS1.out
  go_wp2_with fail
  refine hmr.mono ?_
  unfold GotRt
  rintro e w4 ⟨r, rfl, hcc, hin, hbl, _, hU4⟩
  rw [← hcc] at HOK HG1
  have HCC := Lib.hid hcc
  clear hmr q hcc
  have hn := HN.out
  have hL4 := (hU4.block L2 (lt_of_heap HR.out.2.2.1) (by omega)).trans HR.out.2.2.1
  have hUw4 : Upd (fun _ => False) w w4 := HR.out.2.2.2.1.next hU4 (fun i hi e => by have := HB.out; omega)
  have hz3 := HR.out.2.2.2.1.size
  have hbl2 : RtBl (fun g => w.heap.size ≤ g ∧ g < w4.heap.size) r := hbl.mono (fun g hg => ⟨by omega, hg.2⟩)
  have HH := Lib.hid (And.intro hL4 (And.intro hUw4 (And.intro hin hbl2)))
  clear hL4 hUw4 hz3 hbl hbl2 hin hU4 hn HR HN
  obtain ⟨BX, hBX⟩ : ∃ B, w4.heap.size = B := ⟨_, rfl⟩
  have hUx := Upd.alloc (fun _ => False) w4 (.cells (rtA r) 26)
  have hrx := heap_alloc_new w4 (.cells (rtA r) 26)
  rw [hBX] at hrx
  have hin5 := HH.out.2.2.1.upd hUx
  have hz5 := hUx.size
  have HX : Hid (World.heap (w4.alloc (.cells (rtA r) 26)) = World.heap (w4.alloc (.cells (rtA r) 26)) ∧ (w4.alloc (.cells (rtA r) 26)).heap[L2]? = some (.cells #[.pointer (some ⟨lb, 0, none⟩)] 42) ∧ (w4.alloc (.cells (rtA r) 26)).heap[BX]? = some (.cells (rtA r) 26) ∧ RtIn (w4.alloc (.cells (rtA r) 26)) r ∧ RtBl (fun g => w.heap.size ≤ g ∧ g < (w4.alloc (.cells (rtA r) 26)).heap.size) r ∧ Upd (fun _ => False) w (w4.alloc (.cells (rtA r) 26))) :=
    Lib.hid ⟨rfl, (hUx.block L2 (lt_of_heap HH.out.1) (fun h => h)).trans HH.out.1, hrx, hin5, HH.out.2.2.2.mono (fun g hg => ⟨hg.1, Nat.lt_of_lt_of_le hg.2 hz5⟩), HH.out.2.1.trans hUx⟩
  have hBc : rootB r = rootBC (rtC r) := rootB_c r
  have hGc : rootG r = rootGC (rtC r) := rootG_c r
  have HBC := Lib.hid (And.intro hBc hGc)
  clear hUx hrx hin5 hz5 HH hBc hGc
  have hpk := mPackRoot_gen r _ HX.out.2.2.2.1
  have hRR : rootGR r = if rootB r then rootG r else [] := rfl
  have hEE : rootGE r = if rootB r then 0 else 5 := rfl
  generalize rootGR r = RL at *
  generalize rootGE r = EE at *
  have HRE := Lib.hid (And.intro hRR hEE)
  clear hRR hEE
  obtain ⟨r0, hr0⟩ : ∃ r0, r0 = r := ⟨_, rfl⟩
  rw [← hr0] at HX HRE HBC HOK HG1 HCC
  have HR0 := Lib.hid hr0
  clear hr0
  obtain ⟨p, ca, cc, ks, ma, mc, ms, na, nc, ns, k⟩ := r
  have hAl : rtA r0 = #[.int .i64 p, .slice ca ks.length cc, .slice ma ms.length mc, .slice na ns.length nc, .int .i64 k] := by rw [HR0.out]; rfl
  rw [hAl] at HX
  unfold rtA at hpk ⊢
  dsimp only at hpk ⊢
  have HAL := Lib.hid hAl
  clear hAl
  go_upto_region 8 with (fail)
  generalize w4.alloc (.cells #[.int .i64 p, .slice ca ks.length cc, .slice ma ms.length mc, .slice na ns.length nc, .int .i64 k] 26) = w5 at *
  clear hBX
  have hrx := HX.out.2.2.1
  go_wp2_with (refine wpList_load_row rfl 26 (.tmp 10) rfl BX #[.int .i64 p, .slice ca ks.length cc, .slice ma ms.length mc, .slice na ns.length nc, .int .i64 k] 26 (0, 0) _ rfl hrx Tryz.underlying26 rfl (by rw [infoRoot]; rfl) ?_)
  refine hpk.mono ?_
  unfold Packed
  rintro e w6 ⟨a3, c3, rfl, hv3, hf3, hU6⟩
  have HY : Hid (w6.heap[L2]? = some (.cells #[.pointer (some ⟨lb, 0, none⟩)] 42) ∧ w6.heap[BX]? = some (.cells #[.int .i64 p, .slice ca ks.length cc, .slice ma ms.length mc, .slice na ns.length nc, .int .i64 k] 26) ∧ RtIn w6 r0 ∧ RtBl (fun g => w.heap.size ≤ g ∧ g < w6.heap.size) r0 ∧ Upd (fun _ => False) w w6) :=
    Lib.hid ⟨(hU6.block L2 (lt_of_heap HX.out.2.1) (fun h => h)).trans HX.out.2.1, (hU6.block BX (lt_of_heap HX.out.2.2.1) (fun h => h)).trans HX.out.2.2.1, HX.out.2.2.2.1.upd hU6, HX.out.2.2.2.2.1.mono (fun g hg => ⟨hg.1, Nat.lt_of_lt_of_le hg.2 hU6.size⟩), HX.out.2.2.2.2.2.trans hU6⟩
  have HV3 := Lib.hid hv3
  clear hpk hv3 hf3 hU6 hrx HX
  cases hB : rootB r0 with
  | false =>
    have hE := HRE.out.2
    rw [hB] at hE
    simp only [Bool.false_eq_true, if_false] at hE
    subst hE
    have HF : Hid (OO = false) := Lib.hid (by have h1 := HBC.out.1; rw [hB] at h1; rw [HOK.out, rtC_no h1]; rfl)
    clear hB
    go_wp2_with fail
    try go_ret2
    exact HG0.out HF.out _ _ ⟨rfl, HY.out.2.2.2.2⟩
  | true =>
    have hE := HRE.out.2
    have hL := HRE.out.1
    rw [hB] at hE hL
    simp only [if_true] at hE hL
    subst hE
    have h1 := HBC.out.1
    rw [hB] at h1
    have hOK : OO = (RL == l) := by rw [HOK.out, rtC_yes h1, hL, HBC.out.2]; rfl
    have HOK2 := Lib.hid hOK
    have hse := slEqB_any a3 a c3 c RL l w6 HV3.out (HI0.out.upd HY.out.2.2.2.2 (fun _ _ h => h))
    rw [← hOK] at hse
    clear hB h1 hOK hL HV3
    go_wp2_with fail
    refine hse.mono ?_
    rintro e w7 ⟨rfl, hU7⟩
    have HZ : Hid (w7.heap[L2]? = some (.cells #[.pointer (some ⟨lb, 0, none⟩)] 42) ∧ w7.heap[BX]? = some (.cells #[.int .i64 p, .slice ca ks.length cc, .slice ma ms.length mc, .slice na ns.length nc, .int .i64 k] 26) ∧ RtIn w7 r0 ∧ RtBl (fun g => w.heap.size ≤ g ∧ g < w7.heap.size) r0 ∧ Upd (fun _ => False) w w7) :=
      Lib.hid ⟨(hU7.block L2 (lt_of_heap HY.out.1) (fun h => h)).trans HY.out.1, (hU7.block BX (lt_of_heap HY.out.2.1) (fun h => h)).trans HY.out.2.1, HY.out.2.2.1.upd hU7, HY.out.2.2.2.1.mono (fun g hg => ⟨hg.1, Nat.lt_of_lt_of_le hg.2 hU7.size⟩), HY.out.2.2.2.2.trans hU7⟩
    clear hse hU7 HY
    cases OO with
    | false =>
      go_wp2_with fail
      try go_ret2
      exact HG0.out (by first | rfl | trivial) _ _ ⟨rfl, HZ.out.2.2.2.2⟩
    | true =>
      go_wp2_with fail
      try go_ret2
      exact HG1.out (by first | rfl | trivial) _ _ ⟨L2, BX, r0, rfl, HZ.out.1, by rw [HAL.out]; exact HZ.out.2.1, rfl, HZ.out.2.2.1, HZ.out.2.2.2.1, HZ.out.2.2.2.2⟩
end Go.Proofs.YtccejkikphpnfaaGreatDoor

namespace Go.Proofs.YtccejkikphpnfaaGreatDoor
set_option linter.unusedSimpArgs false
set_option linter.unusedVariables false
set_option maxRecDepth 100000
open Go.ChangeShapes Go.WideShapes Go.ChangeAt Go.RowKit

set_option maxHeartbeats 16000000 in
theorem read_waitX (lb : Nat) (a : Option Addr) (c : Nat) (l : List UInt8) (w : World) (hv : Vw w a l.length c 1 (bvs l)) (hl : l.length ≤ 70000000) (hk : kindL l = 3) :
    Calls Tryz.prog 57 #[.pointer (some ⟨lb, 0, none⟩), .slice a l.length c] w (ReadWt w lb l) := by
  have HOK : Hid (okWait l = (waitBC (waitS (s1L l)).1 && (waitGC (waitS (s1L l)).1 == l))) := Lib.hid rfl
  have HG1 : Hid (okWait l = true → ∀ e w', DoWait w lb (waitS (s1L l)).1 e w' → ReadWt w lb l e w') := Lib.hid (fun h e w' hd => by unfold ReadWt; rw [if_pos h]; exact hd)
  have HG0 : Hid (okWait l = false → ∀ e w', ReadNo w e w' → ReadWt w lb l e w') := Lib.hid (fun h e w' hd => by unfold ReadWt; rw [h, if_neg (by decide)]; exact hd)
  generalize ReadWt w lb l = GG at *
  generalize okWait l = OO at *
  have HCL : Hid ((waitGC (waitS (s1L l)).1).length ≤ 80000000) := Lib.hid (by have h1 := waitS_len (s1L l); have h2 : (s1L l).l.length ≤ l.length := takeS_len 1 ⟨l, 0⟩; omega)
  have hU0 := Upd.alloc (fun _ => False) w (.cells #[.pointer (some ⟨lb, 0, none⟩)] 42)
  have hb0 := heap_alloc_new w (.cells #[.pointer (some ⟨lb, 0, none⟩)] 42)
  have HI0 := Lib.hid hv
  have HI := Lib.hid (And.intro (hv.upd hU0 (fun _ _ h => h)) (And.intro hb0 hU0))
  have hkk : takeS (heldN 1) ⟨l, 0⟩ = ((takeS 1 ⟨l, 0⟩).1, s1L l) := rfl
  have hkl : leN (takeS 1 ⟨l, 0⟩).1 = 3 := hk
  have hs1 : (s1L l).l.length ≤ l.length := takeS_len 1 ⟨l, 0⟩
  have HK := Lib.hid (And.intro hkk (And.intro hkl hs1))
  clear hv hU0 hb0 hkk hkl hs1 hk
  go_enter Tryz.func57, Tryz.ntmps57
  go_upto_region 1 with (fail)
  generalize w.alloc (.cells #[.pointer (some ⟨lb, 0, none⟩)] 42) = y0 at *
  obtain ⟨L2, hL2⟩ : ∃ B, w.heap.size = B := ⟨_, rfl⟩
  rw [hL2] at HI ⊢
  have HB := Lib.hid hL2
  clear hL2
  go_wp2_with fail
  refine (read_any3 a c l y0 HI.out.1 (by omega)).mono ?_
  rintro e w1 ⟨br, F, rfl, hR, hU, hbr, hF⟩
  obtain ⟨BR, hBR⟩ : ∃ B, w1.heap.size = B := ⟨_, rfl⟩
  have hbrl : br < BR := by
    obtain ⟨a9, c9, hh, _⟩ := hR.ex
    rw [← hBR]
    exact lt_of_heap hh
  have hz0 := hU.size
  have hUn := Upd.alloc (fun _ => False) w1 (.cells #[.pointer (some ⟨br, 0, none⟩)] 139)
  have hrow := heap_alloc_new w1 (.cells #[.pointer (some ⟨br, 0, none⟩)] 139)
  have hL2 := ((hU.trans hUn).block L2 (lt_of_heap HI.out.2.1) (fun h => h)).trans HI.out.2.1
  have hltL := lt_of_heap HI.out.2.1
  have hUw := HI.out.2.2.trans (hU.trans hUn)
  rw [hBR] at hrow
  have HJ := Lib.hid (And.intro (hR.upd hUn (fun h => h) (fun _ _ h => h)) (And.intro hrow (And.intro hL2 hUw)))
  have hnum := rnum_any br F ⟨l, 0⟩ 1 _ HJ.out.1 (by show l.length ≤ _; omega)
  rw [HK.out.1] at hnum
  unfold ReadN at hnum
  dsimp only at hnum
  rw [HK.out.2.1] at hnum
  have hF2 : ∀ g, F = some g → g < BR := fun g hg => by have := (hF g hg).2; omega
  have hbrL : L2 < br := by omega
  have HN := Lib.hid (And.intro hbrl (And.intro hF2 (And.intro hbrL (fun g (hg : F = some g) => show L2 < g from by have := (hF g hg).1; omega))))
  have HS1 : Hid ((s1L l).l.length ≤ 100000000) := Lib.hid (by have := HK.out.2.2; omega)
  clear hR hU hbr hF hbrl hz0 hUn hrow hL2 hltL hUw hF2 hbrL HI HK
  generalize s1L l = s1 at *
  go_upto_region 5 with (fail)
  generalize w1.alloc (.cells #[.pointer (some ⟨br, 0, none⟩)] 139) = w2 at *
  clear hBR
  have q : w2.cell? ⟨BR, 0, none⟩ = some (.pointer (some ⟨br, 0, none⟩)) := by rw [cell_of_row _ _ _ _ _ _ HJ.out.2.1]; rfl
  go_wp2_with fail
  refine hnum.mono ?_
  rintro e w3 ⟨rfl, hR, hU⟩
  have hn1 := HN.out.1
  have hn2 := HN.out.2.2.1
  have hrow := (hU.block BR (lt_of_heap HJ.out.2.1) (by omega)).trans HJ.out.2.1
  have hL2 := (hU.block L2 (lt_of_heap HJ.out.2.2.1) (by omega)).trans HJ.out.2.2.1
  have hBz := lt_of_heap hrow
  have HB' := HB.out
  have hUw : Upd (fun _ => False) w w3 := HJ.out.2.2.2.next hU (fun i hi e => by omega)
  have HR := Lib.hid (And.intro hR (And.intro hrow (And.intro hL2 (And.intro hUw hBz))))
  clear q hnum
  have q : w3.cell? ⟨BR, 0, none⟩ = some (.pointer (some ⟨br, 0, none⟩)) := by rw [cell_of_row _ _ _ _ _ _ hrow]; rfl
  clear hR hU hrow hL2 hUw hBz HB' hn1 hn2 HJ
  have hmr := mrwait_gen br F s1 w3 HR.out.1 (fun g hg => by have := HN.out.2.1 g hg; have := HR.out.2.2.2.2; omega) HS1.out
  go_wp2_with fail
  refine hmr.mono ?_
  unfold GotWt
  rintro e w4 ⟨r, rfl, hon, hcc, hin, hbl, _, hU4⟩
  rw [← hcc] at HOK HG1
  have HCC := Lib.hid hcc
  have HON := Lib.hid hon
  clear hon
  clear hmr q hcc
  have hn := HN.out
  have hL4 := (hU4.block L2 (lt_of_heap HR.out.2.2.1) (by omega)).trans HR.out.2.2.1
  have hUw4 : Upd (fun _ => False) w w4 := HR.out.2.2.2.1.next hU4 (fun i hi e => by have := HB.out; omega)
  have hz3 := HR.out.2.2.2.1.size
  have hbl2 : WtBl (fun g => w.heap.size ≤ g ∧ g < w4.heap.size) r := hbl.mono (fun g hg => ⟨by omega, hg.2⟩)
  have HH := Lib.hid (And.intro hL4 (And.intro hUw4 (And.intro hin hbl2)))
  clear hL4 hUw4 hz3 hbl hbl2 hin hU4 hn HR HN
  obtain ⟨BX, hBX⟩ : ∃ B, w4.heap.size = B := ⟨_, rfl⟩
  have hUx := Upd.alloc (fun _ => False) w4 (.cells (wtA r) 30)
  have hrx := heap_alloc_new w4 (.cells (wtA r) 30)
  rw [hBX] at hrx
  have hin5 := HH.out.2.2.1.upd hUx
  have hz5 := hUx.size
  have HX : Hid (World.heap (w4.alloc (.cells (wtA r) 30)) = World.heap (w4.alloc (.cells (wtA r) 30)) ∧ (w4.alloc (.cells (wtA r) 30)).heap[L2]? = some (.cells #[.pointer (some ⟨lb, 0, none⟩)] 42) ∧ (w4.alloc (.cells (wtA r) 30)).heap[BX]? = some (.cells (wtA r) 30) ∧ WtIn (w4.alloc (.cells (wtA r) 30)) r ∧ WtBl (fun g => w.heap.size ≤ g ∧ g < (w4.alloc (.cells (wtA r) 30)).heap.size) r ∧ Upd (fun _ => False) w (w4.alloc (.cells (wtA r) 30))) :=
    Lib.hid ⟨rfl, (hUx.block L2 (lt_of_heap HH.out.1) (fun h => h)).trans HH.out.1, hrx, hin5, HH.out.2.2.2.mono (fun g hg => ⟨hg.1, Nat.lt_of_lt_of_le hg.2 hz5⟩), HH.out.2.1.trans hUx⟩
  have hBc : waitB r = waitBC (wtC r) := by rw [waitB_c, HON.out]; rfl
  have hGc : waitG r = waitGC (wtC r) := waitG_c r
  have HBC := Lib.hid (And.intro hBc hGc)
  clear hUx hrx hin5 hz5 HH hBc hGc
  have hsmall : (waitG r).length ≤ 80000000 := by
    rw [HBC.out.2]
    have := HCL.out
    rw [← HCC.out] at this
    exact this
  have hpk := mPackWait_any r _ HX.out.2.2.2.1 hsmall
  clear hsmall
  have hRR : waitR r = if waitB r then waitG r else [] := rfl
  have hEE : waitE r = if waitB r then 0 else 5 := rfl
  generalize waitR r = RL at *
  generalize waitE r = EE at *
  have HRE := Lib.hid (And.intro hRR hEE)
  clear hRR hEE
  obtain ⟨r0, hr0⟩ : ∃ r0, r0 = r := ⟨_, rfl⟩
  rw [← hr0] at HX HRE HBC HOK HG1 HCC HON
  have HR0 := Lib.hid hr0
  clear hr0
  obtain ⟨on, re, src, dst, sa, sc, ss, com, cla, clc, cs⟩ := r
  have hAl : wtA r0 = #[.bool on, .bool re, .int .i64 src, .int .i64 dst, .slice sa ss.length sc, .int .i64 com, .slice cla cs.length clc] := by rw [HR0.out]; rfl
  rw [hAl] at HX
  unfold wtA at hpk ⊢
  dsimp only at hpk ⊢
  have HAL := Lib.hid hAl
  clear hAl
  go_upto_region 16 with (fail)
  generalize w4.alloc (.cells #[.bool on, .bool re, .int .i64 src, .int .i64 dst, .slice sa ss.length sc, .int .i64 com, .slice cla cs.length clc] 30) = w5 at *
  clear hBX
  have hrx := HX.out.2.2.1
  go_wp2_with (refine wpList_load_row rfl 30 (.tmp 13) rfl BX #[.bool on, .bool re, .int .i64 src, .int .i64 dst, .slice sa ss.length sc, .int .i64 com, .slice cla cs.length clc] 30 (0, 0) _ rfl hrx Tryz.underlying30 rfl (by rw [infoPend]; rfl) ?_)
  refine hpk.mono ?_
  unfold Packed
  rintro e w6 ⟨a3, c3, rfl, hv3, hf3, hU6⟩
  have HY : Hid (w6.heap[L2]? = some (.cells #[.pointer (some ⟨lb, 0, none⟩)] 42) ∧ w6.heap[BX]? = some (.cells #[.bool on, .bool re, .int .i64 src, .int .i64 dst, .slice sa ss.length sc, .int .i64 com, .slice cla cs.length clc] 30) ∧ WtIn w6 r0 ∧ WtBl (fun g => w.heap.size ≤ g ∧ g < w6.heap.size) r0 ∧ Upd (fun _ => False) w w6) :=
    Lib.hid ⟨(hU6.block L2 (lt_of_heap HX.out.2.1) (fun h => h)).trans HX.out.2.1, (hU6.block BX (lt_of_heap HX.out.2.2.1) (fun h => h)).trans HX.out.2.2.1, HX.out.2.2.2.1.upd hU6, HX.out.2.2.2.2.1.mono (fun g hg => ⟨hg.1, Nat.lt_of_lt_of_le hg.2 hU6.size⟩), HX.out.2.2.2.2.2.trans hU6⟩
  have HV3 := Lib.hid hv3
  clear hpk hv3 hf3 hU6 hrx HX
  cases hB : waitB r0 with
  | false =>
    have hE := HRE.out.2
    rw [hB] at hE
    simp only [Bool.false_eq_true, if_false] at hE
    subst hE
    have HF : Hid (OO = false) := Lib.hid (by have h1 := HBC.out.1; rw [hB] at h1; rw [HOK.out, wtC_no h1]; rfl)
    clear hB
    go_wp2_with fail
    try go_ret2
    exact HG0.out HF.out _ _ ⟨rfl, HY.out.2.2.2.2⟩
  | true =>
    have hE := HRE.out.2
    have hL := HRE.out.1
    rw [hB] at hE hL
    simp only [if_true] at hE hL
    subst hE
    have h1 := HBC.out.1
    rw [hB] at h1
    have hOK : OO = (RL == l) := by rw [HOK.out, wtC_yes h1, hL, HBC.out.2]; rfl
    have HOK2 := Lib.hid hOK
    have hse := slEqB_any a3 a c3 c RL l w6 HV3.out (HI0.out.upd HY.out.2.2.2.2 (fun _ _ h => h))
    rw [← hOK] at hse
    clear hB h1 hOK hL HV3
    go_wp2_with fail
    refine hse.mono ?_
    rintro e w7 ⟨rfl, hU7⟩
    have HZ : Hid (w7.heap[L2]? = some (.cells #[.pointer (some ⟨lb, 0, none⟩)] 42) ∧ w7.heap[BX]? = some (.cells #[.bool on, .bool re, .int .i64 src, .int .i64 dst, .slice sa ss.length sc, .int .i64 com, .slice cla cs.length clc] 30) ∧ WtIn w7 r0 ∧ WtBl (fun g => w.heap.size ≤ g ∧ g < w7.heap.size) r0 ∧ Upd (fun _ => False) w w7) :=
      Lib.hid ⟨(hU7.block L2 (lt_of_heap HY.out.1) (fun h => h)).trans HY.out.1, (hU7.block BX (lt_of_heap HY.out.2.1) (fun h => h)).trans HY.out.2.1, HY.out.2.2.1.upd hU7, HY.out.2.2.2.1.mono (fun g hg => ⟨hg.1, Nat.lt_of_lt_of_le hg.2 hU7.size⟩), HY.out.2.2.2.2.trans hU7⟩
    clear hse hU7 HY
    cases OO with
    | false =>
      go_wp2_with fail
      try go_ret2
      exact HG0.out (by first | rfl | trivial) _ _ ⟨rfl, HZ.out.2.2.2.2⟩
    | true =>
      go_wp2_with fail
      try go_ret2
      exact HG1.out (by first | rfl | trivial) _ _ ⟨L2, BX, r0, rfl, HZ.out.1, by rw [HAL.out]; exact HZ.out.2.1, ⟨HON.out, rfl⟩, HZ.out.2.2.1, HZ.out.2.2.2.1, HZ.out.2.2.2.2⟩
end Go.Proofs.YtccejkikphpnfaaGreatDoor
