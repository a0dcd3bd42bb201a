
/- What bytes are as a root, and as a wait, in the mind. -/
import Derived.Test.YtccejkikphpnfaaGreatDoorQ15
namespace Go.Proofs.YtccejkikphpnfaaGreatDoor
set_option linter.unusedSimpArgs false
set_option linter.unusedVariables false
set_option maxRecDepth 100000
open Go.ChangeShapes Go.WideShapes Go.ChangeAt Go.RowKit
theorem take_goes (n : Nat) : Goes (takeS n) := ⟨takeS_len n, fun s h => by unfold takeS; rw [if_pos h]; exact h⟩
theorem take_eats (n : Nat) (hn : 0 < n) : Eats (takeS n) := { take_goes n with
 less := fun s h h2 => by
  unfold takeS at h2 ⊢
  rw [if_neg (by simp [h])] at h2 ⊢
  split
  ·rename_i h3; rw [if_pos h3] at h2; exact absurd h2 (by decide)
  ·simp; omega }
/-- One reading behind another. -/
theorem Goes.seq {X Y Z : Type} {f : RS → X × RS} {g : RS → Y × RS} {k : RS → Z × RS} (hf : Goes f) (hg : Goes g) (hk : ∀ s, (k s).2 = (g (f s).2).2) : Goes k :=
 ⟨fun s => by rw [hk]; exact Nat.le_trans (hg.le _) (hf.le _), fun s h => by rw [hk]; exact hg.stuck _ (hf.stuck _ h)⟩
theorem Eats.seq {X Y Z : Type} {f : RS → X × RS} {g : RS → Y × RS} {k : RS → Z × RS} (hf : Eats f) (hg : Goes g) (hk : ∀ s, (k s).2 = (g (f s).2).2) : Eats k :=
 { Goes.seq hf.toGoes hg hk with
  less := fun s h h2 => by
   rw [hk] at h2 ⊢
   have h3 : (f s).2.e = 0 := by
    by_cases e : (f s).2.e = 0
    ·exact e
    ·exact absurd h2 (hg.stuck _ e)
   exact Nat.lt_of_le_of_lt (hg.le _) (hf.less s h h3) }
theorem Goes.like {X Y : Type} {f : RS → X × RS} {k : RS → Y × RS} (hf : Goes f) (hk : ∀ s, (k s).2 = (f s).2) : Goes k := ⟨fun s => by rw [hk]; exact hf.le s, fun s h => by rw [hk]; exact hf.stuck s h⟩
theorem Eats.like {X Y : Type} {f : RS → X × RS} {k : RS → Y × RS} (hf : Eats f) (hk : ∀ s, (k s).2 = (f s).2) : Eats k := { hf.toGoes.like hk with less := fun s h h2 => by rw [hk] at h2 ⊢; exact hf.less s h h2 }
def intF (s : RS) : Int × RS := (intV s, (takeS 4 s).2)
theorem int_eats : Eats intF := (take_eats 4 (by decide)).like (fun _ => rfl)
theorem text_goes : Goes textS := ⟨fun s => by
  unfold textS
  split
  ·exact takeS_len 4 s
  ·split
   ·simp
   ·exact Nat.le_trans (takeS_len _ _) (takeS_len 4 s), fun s h => by
  unfold textS
  rw [if_pos (by exact (take_goes 4).stuck s h)]
  exact (take_goes 4).stuck s h⟩
theorem text_eats : Eats textS := { text_goes with
 less := fun s h h2 => by
  unfold textS at h2 ⊢
  by_cases h4 : (takeS 4 s).2.e ≠ 0
  ·rw [if_pos h4] at h2; exact absurd h2 h4
  ·rw [if_neg h4] at h2 ⊢
   split
   ·rename_i h5; rw [if_pos h5] at h2; exact absurd h2 (by decide)
   ·exact Nat.lt_of_le_of_lt (takeS_len _ _) ((take_eats 4 (by decide)).less s h (by simpa using h4)) }
theorem bool_goes : Goes boolS := ⟨fun s => by
  unfold boolS
  split
  ·simp
  ·exact takeS_len 1 s, fun s h => by
  have h1 := (take_goes 1).stuck s h
  unfold boolS
  rw [if_neg (by intro hx; exact h1 hx.1)]
  exact h1⟩
theorem list_goes {X : Type} {f : RS → X × RS} (hf : Goes f) : ∀ n, Goes (listS f n)
 | 0 => ⟨fun _ => Nat.le_refl _, fun _ h => h⟩
 | n + 1 => ⟨fun s => by
   by_cases h : s.e = 0
   ·rw [listS_go f n s h]; exact Nat.le_trans ((list_goes hf n).le _) (hf.le s)
   ·rw [listS_stop f _ s h]; exact Nat.le_refl _, fun s h => by rw [listS_stop f _ s h]; exact h⟩
theorem some_goes {X : Type} {f : RS → X × RS} (hf : Goes f) : Goes (someS f) :=
 ⟨fun s => Nat.le_trans ((list_goes hf _).le _) (takeS_len 4 s), fun s h => (list_goes hf _).stuck _ ((take_goes 4).stuck s h)⟩
theorem keyN_eats : ∀ n, Eats (keyN (n + 1))
 | 0 => (take_eats 1 (by decide)).like (fun _ => rfl)
 | n + 1 => (keyN_eats n).seq (take_goes 1) (fun _ => rfl)
def kyS (s : RS) : Ky × RS := (⟨(keyS s).1, keyS_len s⟩, (keyS s).2)
theorem key32_eats : Eats (keyN 32) := keyN_eats 31
theorem keyS_eq (s : RS) : keyS s = keyN 32 s := by unfold keyS; with_reducible rfl
theorem kyS_snd (s : RS) : (kyS s).2 = (keyS s).2 := by unfold kyS; with_reducible rfl
theorem ky_eats : Eats kyS := key32_eats.like (fun s => by rw [kyS_snd, keyS_eq])
def numsS (s : RS) : List Int × RS := someS intF s
def mkS (s : RS) : (Int × List Int) × RS := ((intV s, (numsS (takeS 4 s).2).1), (numsS (takeS 4 s).2).2)
theorem mk_eats : Eats mkS := int_eats.seq (some_goes int_eats.toGoes) (fun _ => rfl)
def nmS (s : RS) : Nm × RS := (⟨(textS s).1, intV (textS s).2⟩, (takeS 4 (textS s).2).2)
theorem nm_eats : Eats nmS := text_eats.seq int_eats.toGoes (fun _ => rfl)
def flS (s : RS) : Fl × RS := (⟨(textS s).1, (boolS (textS s).2).1, (textS (boolS (textS s).2).2).1⟩, (textS (boolS (textS s).2).2).2)
theorem fl_eats : Eats flS := (text_eats.seq bool_goes (k := fun s => boolS (textS s).2) (fun _ => rfl)).seq text_goes (fun _ => rfl)
def stS (s : RS) : (Int × List Fl) × RS := ((intV s, (someS flS (takeS 4 s).2).1), (someS flS (takeS 4 s).2).2)
theorem st_eats : Eats stS := int_eats.seq (some_goes fl_eats.toGoes) (fun _ => rfl)
def clS (s : RS) : Cl × RS := (⟨(textS s).1, intV (textS s).2, (textS (takeS 4 (textS s).2).2).1⟩, (textS (takeS 4 (textS s).2).2).2)
theorem cl_eats : Eats clS := (text_eats.seq int_eats.toGoes (k := fun s => intF (textS s).2) (fun _ => rfl)).seq text_goes (fun _ => rfl)
theorem listS_mem {X : Type} {f : RS → X × RS} (hf : Goes f) : ∀ (n : Nat) (s : RS) (x : X), x ∈ (listS f n s).1 → ∃ s', x = (f s').1 ∧ s'.l.length ≤ s.l.length
 | 0, s, x, h => by cases h
 | n + 1, s, x, h => by
  by_cases he : s.e = 0
  ·rw [listS_go f n s he] at h
   rcases List.mem_cons.1 h with h | h
   ·exact ⟨s, h, Nat.le_refl _⟩
   ·obtain ⟨s', h1, h2⟩ := listS_mem hf n _ x h
    exact ⟨s', h1, Nat.le_trans h2 (hf.le s)⟩
  ·rw [listS_stop f _ s he] at h; cases h
theorem someS_mem {X : Type} {f : RS → X × RS} (hf : Goes f) (s : RS) (x : X) (h : x ∈ (someS f s).1) : ∃ s', x = (f s').1 ∧ s'.l.length ≤ s.l.length := by
 obtain ⟨s', h1, h2⟩ := listS_mem hf _ _ x h
 exact ⟨s', h1, Nat.le_trans h2 (takeS_len 4 s)⟩
theorem takeS_fst (n : Nat) (s : RS) : (takeS n s).1.length ≤ s.l.length := by
 unfold takeS
 split
 ·simp
 ·split
  ·simp
  ·rw [List.length_take]; omega
theorem textS_fst (s : RS) : (textS s).1.length ≤ s.l.length := by
 unfold textS
 split
 ·simp
 ·split
  ·simp
  ·exact Nat.le_trans (takeS_fst _ _) (takeS_len 4 s)
theorem fl_long (s : RS) : ∀ x ∈ (someS flS s).1, x.path.length ≤ s.l.length ∧ x.text.length ≤ s.l.length := fun x h => by
 obtain ⟨s', rfl, h2⟩ := someS_mem fl_eats.toGoes s x h
 have h1 : (flS s').1.path.length ≤ s'.l.length := textS_fst s'
 have h3 : (flS s').1.text.length ≤ (boolS (textS s').2).2.l.length := textS_fst _
 have h4 := bool_goes.le (textS s').2
 have h5 := text_goes.le s'
 exact ⟨by omega, by omega⟩
theorem nm_long (s : RS) : ∀ x ∈ (someS nmS s).1, x.name.length ≤ s.l.length := fun x h => by
 obtain ⟨s', rfl, h2⟩ := someS_mem nm_eats.toGoes s x h
 have h1 : (nmS s').1.name.length ≤ s'.l.length := textS_fst s'
 omega
/-- A root, a wait: what they hold. -/
structure RC where
 p : Int
 ks : List Ky
 ms : List (Int × List Int)
 ns : List Nm
 k : Int
structure WC where
 re : Bool
 src : Int
 dst : Int
 ss : List (Int × List Fl)
 com : Int
 cs : List Cl
def rS1 (s : RS) : List Ky × RS := someS kyS (takeS 4 s).2
def rS2 (s : RS) : List (Int × List Int) × RS := someS mkS (rS1 s).2
def rS3 (s : RS) : List Nm × RS := someS nmS (rS2 s).2
def rootS (s : RS) : RC × RS := (⟨intV s, (rS1 s).1, (rS2 s).1, (rS3 s).1, intV (rS3 s).2⟩, (takeS 4 (rS3 s).2).2)
def wS0 (s : RS) : RS := (takeS 4 (takeS 4 (takeS 4 (boolS s).2).2).2).2
def wS1 (s : RS) : List (Int × List Fl) × RS := someS stS (wS0 s)
def wS2 (s : RS) : List Cl × RS := someS clS (wS1 s).2
def waitS (s : RS) : WC × RS := (⟨(boolS s).1, intV (boolS s).2, intV (takeS 4 (boolS s).2).2, (wS1 s).1, intV (takeS 4 (takeS 4 (boolS s).2).2).2, (wS2 s).1⟩, (wS2 s).2)
end Go.Proofs.YtccejkikphpnfaaGreatDoor
