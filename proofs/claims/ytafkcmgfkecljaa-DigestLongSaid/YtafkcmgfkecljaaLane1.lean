/- Many numbers side by side in one: lanes of 64 bits. What '+', '&', '^', '>>' do to all of them at once. Plain laws. -/
import Derived.Test.YtafkcmgfkecljaaSum1
import Derived.Laws.BitsAllLaws
namespace Go.Proofs.Ytafkcmgfkecljaa
set_option linter.unusedSimpArgs false
set_option linter.unusedVariables false

def pack : Nat → (Nat → Nat) → Nat
  | 0, _ => 0
  | n + 1, f => f 0 + 18446744073709551616 * pack n (fun i => f (i + 1))
theorem pack_congr {L : Nat} {f g : Nat → Nat} (h : ∀ i, f i = g i) : pack L f = pack L g := by rw [show f = g from funext h]
theorem pack_add (L : Nat) : ∀ (f g : Nat → Nat), pack L f + pack L g = pack L (fun i => f i + g i) := by
  induction L with
  | zero => intro f g; rfl
  | succ n ih => intro f g; simp only [pack]; rw [← ih]; omega
theorem pack_mul (L c : Nat) : ∀ (f : Nat → Nat), c * pack L f = pack L (fun i => c * f i) := by
  induction L with
  | zero => intro f; rfl
  | succ n ih =>
    intro f; simp only [pack]; rw [← ih, Nat.mul_add]
    congr 1
    exact Nat.mul_left_comm _ _ _
theorem pack_testBit (L : Nat) : ∀ (f : Nat → Nat), (∀ i, f i < 2 ^ 64) → ∀ j, (pack L f).testBit j = (decide (j / 64 < L) && (f (j / 64)).testBit (j % 64)) := by
  induction L with
  | zero => intro f _ j; simp [pack]
  | succ n ih =>
    intro f hf j
    rw [pack, show (18446744073709551616 : Nat) = 2 ^ 64 from rfl, Nat.add_comm, Nat.testBit_two_pow_mul_add _ (hf 0)]
    by_cases h : j < 64
    · rw [if_pos h]
      have h1 : j / 64 = 0 := by omega
      have h2 : j % 64 = j := by omega
      rw [h1, h2]; simp
    · rw [if_neg h, ih _ (fun i => hf (i + 1))]
      have h1 : (j - 64) / 64 + 1 = j / 64 := by omega
      have h2 : (j - 64) % 64 = j % 64 := by omega
      rw [h1, h2]
      congr 1
      simp; omega
theorem pack_and (L : Nat) (f g : Nat → Nat) (hf : ∀ i, f i < 2 ^ 64) (hg : ∀ i, g i < 2 ^ 64) : pack L f &&& pack L g = pack L (fun i => f i &&& g i) := by
  apply Nat.eq_of_testBit_eq
  intro j
  rw [Nat.testBit_and, pack_testBit L f hf, pack_testBit L g hg, pack_testBit L _ (fun i => Nat.and_lt_two_pow _ (hg i)), Nat.testBit_and]
  cases decide (j / 64 < L) <;> simp
theorem pack_xor (L : Nat) (f g : Nat → Nat) (hf : ∀ i, f i < 2 ^ 64) (hg : ∀ i, g i < 2 ^ 64) : pack L f ^^^ pack L g = pack L (fun i => f i ^^^ g i) := by
  apply Nat.eq_of_testBit_eq
  intro j
  rw [Nat.testBit_xor, pack_testBit L f hf, pack_testBit L g hg, pack_testBit L _ (fun i => Nat.xor_lt_two_pow (hf i) (hg i)), Nat.testBit_xor]
  cases decide (j / 64 < L) <;> simp
theorem lt_bits {x k j : Nat} (h : x < 2 ^ k) (hj : k ≤ j) : x.testBit j = false :=
  Nat.testBit_lt_two_pow (Nat.lt_of_lt_of_le h (Nat.pow_le_pow_right (by decide) hj))
theorem pack_shr (L n : Nat) (f m : Nat → Nat) (hf : ∀ i, f i < 2 ^ 64) (hm : ∀ i, m i < 2 ^ 32) (hn : n ≤ 32) : (pack L f >>> n) &&& pack L m = pack L (fun i => (f i >>> n) &&& m i) := by
  have hm' : ∀ i, m i < 2 ^ 64 := fun i => Nat.lt_of_lt_of_le (hm i) (by decide)
  apply Nat.eq_of_testBit_eq
  intro j
  rw [Nat.testBit_and, Nat.testBit_shiftRight, pack_testBit L f hf, pack_testBit L m hm', pack_testBit L _ (fun i => Nat.and_lt_two_pow _ (hm' i)), Nat.testBit_and, Nat.testBit_shiftRight]
  by_cases h : j % 64 < 32
  · have h1 : (n + j) / 64 = j / 64 := by omega
    have h2 : (n + j) % 64 = n + j % 64 := by omega
    rw [h1, h2]
    cases decide (j / 64 < L) <;> simp
  · rw [lt_bits (hm _) (show 32 ≤ j % 64 by omega)]
    simp
theorem pack_inj (L : Nat) : ∀ (f g : Nat → Nat), (∀ i, f i < 2 ^ 64) → (∀ i, g i < 2 ^ 64) → pack L f = pack L g → ∀ i, i < L → f i = g i := by
  intro f g hf hg h i hi
  apply Nat.eq_of_testBit_eq
  intro j
  by_cases hj : j < 64
  · have h1 := pack_testBit L f hf (64 * i + j)
    have h2 := pack_testBit L g hg (64 * i + j)
    rw [h] at h1
    rw [h1] at h2
    have e1 : (64 * i + j) / 64 = i := by omega
    have e2 : (64 * i + j) % 64 = j := by omega
    rw [e1, e2] at h2
    simpa [hi] using h2
  · rw [lt_bits (hf i) (by omega), lt_bits (hg i) (by omega)]
theorem pack_zero (L : Nat) : pack L (fun _ => 0) = 0 := by
  induction L with
  | zero => rfl
  | succ n ih => simp [pack, ih]

/-! SHA-256 over lanes. -/
def dblP (X : Nat) : Nat := Nat.add X (Nat.shiftLeft X 32)
def rot3 (M X a b c : Nat) : Nat := Nat.land (Nat.xor (Nat.xor (Nat.shiftRight (dblP X) a) (Nat.shiftRight (dblP X) b)) (Nat.shiftRight (dblP X) c)) M
def rot2 (M X a b c : Nat) : Nat := Nat.land (Nat.xor (Nat.xor (Nat.shiftRight (dblP X) a) (Nat.shiftRight (dblP X) b)) (Nat.shiftRight X c)) M
def chP (e f g : Nat) : Nat := Nat.xor g (Nat.land e (Nat.xor f g))
def majP (a b c : Nat) : Nat := Nat.xor (Nat.land a (Nat.xor b c)) (Nat.land b c)
def t1P (M O k w e f g h : Nat) : Nat := Nat.add (Nat.add (Nat.add (Nat.add h (rot3 M e 6 11 25)) (chP e f g)) (Nat.mul k O)) w
def rndP (M O k w : Nat) : List Nat → List Nat
  | [a, b, c, d, e, f, g, h] => [Nat.land (Nat.add (Nat.add (t1P M O k w e f g h) (rot3 M a 2 13 22)) (majP a b c)) M, a, b, c, Nat.land (Nat.add d (t1P M O k w e f g h)) M, e, f, g]
  | s => s
def rndsP (M O : Nat) (K W s : List Nat) : Nat → List Nat
  | 0 => s
  | n + 1 => rndP M O (K.getD n 0) (W.getD n 0) (rndsP M O K W s n)
def nextP (M a b c d : Nat) : Nat := Nat.land (Nat.add (Nat.add (Nat.add a (rot2 M b 7 18 3)) c) (rot2 M d 17 19 10)) M
def extP (M : Nat) (ws : List Nat) : Nat → List Nat
  | 0 => ws
  | k + 1 => (extP M ws k).set (16 + k) (nextP M ((extP M ws k).getD k 0) ((extP M ws k).getD (k + 1) 0) ((extP M ws k).getD (k + 9) 0) ((extP M ws k).getD (k + 14) 0))
def addP (M : Nat) (h s : List Nat) : Nat → List Nat
  | 0 => h
  | n + 1 => (addP M h s n).set n (Nat.land (Nat.add ((addP M h s n).getD n 0) (s.getD n 0)) M)
def wordP (x0 x1 x2 x3 : Nat) : Nat := Nat.add (Nat.add (Nat.add (Nat.shiftLeft x0 24) (Nat.shiftLeft x1 16)) (Nat.shiftLeft x2 8)) x3
/-- The words of block k of the bytes g. -/
def fillP (g : Nat → Nat) (k : Nat) : Nat → List Nat
  | 0 => List.replicate 64 0
  | t + 1 => (fillP g k t).set t (wordP (g (64 * k + 4 * t)) (g (64 * k + (4 * t + 1))) (g (64 * k + (4 * t + 2))) (g (64 * k + (4 * t + 3))))
def KN : List Nat := K64.map Int.toNat
def HN : List Nat := H8.map Int.toNat
def blksP (M O : Nat) (g : Nat → Nat) : Nat → List Nat
  | 0 => HN.map (Nat.mul O)
  | k + 1 => addP M (blksP M O g k) (rndsP M O KN (extP M (fillP g k 16) 48) (blksP M O g k) 64) 8

/-! What each does to the lanes. -/
section
variable {L : Nat}
def mk (_ : Nat) : Nat := 4294967295
def on (_ : Nat) : Nat := 1
def Small (f : Nat → Nat) : Prop := ∀ i, f i < 4294967296
theorem mk_small : ∀ i, mk i < 2 ^ 32 := fun _ => (by decide : (4294967295 : Nat) < 2 ^ 32)
theorem mk_small' : ∀ i, mk i < 2 ^ 64 := fun _ => (by decide : (4294967295 : Nat) < 2 ^ 64)
theorem Small.wide {f : Nat → Nat} (h : Small f) : ∀ i, f i < 2 ^ 64 := fun i => Nat.lt_of_lt_of_le (h i) (by decide)
theorem dbl_lt {x : Nat} (h : x < 4294967296) : dblP x < 2 ^ 64 := by
  show x + x <<< 32 < 2 ^ 64
  rw [Nat.shiftLeft_eq]; omega
theorem dbl_pack (f : Nat → Nat) : dblP (pack L f) = pack L (fun i => dblP (f i)) := by
  show pack L f + pack L f <<< 32 = pack L (fun i => f i + f i <<< 32)
  rw [Nat.shiftLeft_eq, Nat.mul_comm, pack_mul, pack_add]
  apply pack_congr
  intro i
  rw [Nat.shiftLeft_eq, Nat.mul_comm]
theorem and_mk_lt (x : Nat) : Nat.land x 4294967295 < 4294967296 := Nat.and_lt_two_pow (n := 32) x (by decide)
theorem rot3_pack (f : Nat → Nat) (hf : Small f) (a b c : Nat) (ha : a ≤ 32) (hb : b ≤ 32) (hc : c ≤ 32) : rot3 (pack L mk) (pack L f) a b c = pack L (fun i => rot3 4294967295 (f i) a b c) := by
  have hd : ∀ i, dblP (f i) < 2 ^ 64 := fun i => dbl_lt (hf i)
  show (((dblP (pack L f) >>> a) ^^^ (dblP (pack L f) >>> b)) ^^^ (dblP (pack L f) >>> c)) &&& pack L mk = _
  have hl : ∀ n i, ((fun i => dblP (f i) >>> n &&& mk i) i) < 2 ^ 64 := fun n i => Nat.and_lt_two_pow _ (mk_small' i)
  rw [Nat.and_xor_distrib_right, Nat.and_xor_distrib_right, dbl_pack, pack_shr L a _ _ hd mk_small ha, pack_shr L b _ _ hd mk_small hb, pack_shr L c _ _ hd mk_small hc, pack_xor _ _ _ (hl a) (hl b),
    pack_xor _ _ _ (fun i => Nat.xor_lt_two_pow (hl a i) (hl b i)) (hl c)]
  apply pack_congr
  intro i
  rw [← Nat.and_xor_distrib_right, ← Nat.and_xor_distrib_right]
  rfl
theorem rot2_pack (f : Nat → Nat) (hf : Small f) (a b c : Nat) (ha : a ≤ 32) (hb : b ≤ 32) (hc : c ≤ 32) : rot2 (pack L mk) (pack L f) a b c = pack L (fun i => rot2 4294967295 (f i) a b c) := by
  have hd : ∀ i, dblP (f i) < 2 ^ 64 := fun i => dbl_lt (hf i)
  show (((dblP (pack L f) >>> a) ^^^ (dblP (pack L f) >>> b)) ^^^ (pack L f >>> c)) &&& pack L mk = _
  have hl : ∀ n i, ((fun i => dblP (f i) >>> n &&& mk i) i) < 2 ^ 64 := fun n i => Nat.and_lt_two_pow _ (mk_small' i)
  have hl2 : ∀ n i, ((fun i => f i >>> n &&& mk i) i) < 2 ^ 64 := fun n i => Nat.and_lt_two_pow _ (mk_small' i)
  rw [Nat.and_xor_distrib_right, Nat.and_xor_distrib_right, dbl_pack, pack_shr L a _ _ hd mk_small ha, pack_shr L b _ _ hd mk_small hb, pack_shr L c _ _ hf.wide mk_small hc, pack_xor _ _ _ (hl a) (hl b),
    pack_xor _ _ _ (fun i => Nat.xor_lt_two_pow (hl a i) (hl b i)) (hl2 c)]
  apply pack_congr
  intro i
  rw [← Nat.and_xor_distrib_right, ← Nat.and_xor_distrib_right]
  rfl
theorem ch_pack (e f g : Nat → Nat) (he : Small e) (hf : Small f) (hg : Small g) : chP (pack L e) (pack L f) (pack L g) = pack L (fun i => chP (e i) (f i) (g i)) := by
  show pack L g ^^^ (pack L e &&& (pack L f ^^^ pack L g)) = _
  rw [pack_xor _ _ _ hf.wide hg.wide, pack_and _ _ _ he.wide (fun i => Nat.xor_lt_two_pow (hf.wide i) (hg.wide i)), pack_xor _ _ _ hg.wide (fun i => Nat.and_lt_two_pow _ (Nat.xor_lt_two_pow (hf.wide i) (hg.wide i)))]
  rfl
theorem maj_pack (a b c : Nat → Nat) (ha : Small a) (hb : Small b) (hc : Small c) : majP (pack L a) (pack L b) (pack L c) = pack L (fun i => majP (a i) (b i) (c i)) := by
  show (pack L a &&& (pack L b ^^^ pack L c)) ^^^ (pack L b &&& pack L c) = _
  rw [pack_xor _ _ _ hb.wide hc.wide, pack_and _ _ _ ha.wide (fun i => Nat.xor_lt_two_pow (hb.wide i) (hc.wide i)), pack_and _ _ _ hb.wide hc.wide,
    pack_xor _ _ _ (fun i => Nat.and_lt_two_pow _ (Nat.xor_lt_two_pow (hb.wide i) (hc.wide i))) (fun i => Nat.and_lt_two_pow _ (hc.wide i))]
  rfl
theorem ch_lt {e f g : Nat} (hf : f < 4294967296) (hg : g < 4294967296) : chP e f g < 4294967296 :=
  Nat.xor_lt_two_pow (n := 32) hg (Nat.and_lt_two_pow _ (Nat.xor_lt_two_pow (n := 32) hf hg))
theorem maj_lt {a b c : Nat} (hb : b < 4294967296) (hc : c < 4294967296) : majP a b c < 4294967296 :=
  Nat.xor_lt_two_pow (n := 32) (Nat.and_lt_two_pow _ (Nat.xor_lt_two_pow (n := 32) hb hc)) (Nat.and_lt_two_pow _ hc)
theorem rot3_lt (x a b c : Nat) : rot3 4294967295 x a b c < 4294967296 := and_mk_lt _
theorem rot2_lt (x a b c : Nat) : rot2 4294967295 x a b c < 4294967296 := and_mk_lt _
theorem pack_const (k : Nat) : Nat.mul k (pack L on) = pack L (fun _ => Nat.mul k 1) := pack_mul L k on
theorem t1_pack (k : Nat) (hk : k < 4294967296) (w e f g h : Nat → Nat) (he : Small e) (hf : Small f) (hg : Small g) :
    t1P (pack L mk) (pack L on) k (pack L w) (pack L e) (pack L f) (pack L g) (pack L h) = pack L (fun i => t1P 4294967295 1 k (w i) (e i) (f i) (g i) (h i)) := by
  unfold t1P
  rw [rot3_pack e he 6 11 25 (by decide) (by decide) (by decide), ch_pack e f g he hf hg, pack_const]
  show (((pack L h + _) + _) + _) + _ = _
  rw [pack_add, pack_add, pack_add, pack_add]
  rfl
theorem t1_lt {k w e f g h : Nat} (hk : k < 4294967296) (hw : w < 4294967296) (hf : f < 4294967296) (hg : g < 4294967296) (hh : h < 4294967296) : t1P 4294967295 1 k w e f g h < 21474836480 := by
  have h1 := rot3_lt e 6 11 25
  have h2 := ch_lt (e := e) hf hg
  show h + rot3 4294967295 e 6 11 25 + chP e f g + k * 1 + w < _
  omega
theorem and_pack (f : Nat → Nat) (hf : ∀ i, f i < 2 ^ 64) : Nat.land (pack L f) (pack L mk) = pack L (fun i => Nat.land (f i) 4294967295) := pack_and L f mk hf mk_small'

/-- The rows of lanes. -/
def cols (fs : List (Nat → Nat)) (i : Nat) : List Nat := fs.map (fun f => f i)
def All (fs : List (Nat → Nat)) : Prop := ∀ f ∈ fs, Small f
theorem getD_pack (fs : List (Nat → Nat)) (j : Nat) : (fs.map (pack L)).getD j 0 = pack L (fs.getD j (fun _ => 0)) := by
  rw [List.getD_eq_getElem?_getD, List.getElem?_map, List.getD_eq_getElem?_getD]
  cases fs[j]? with
  | none => simp [pack_zero]
  | some f => rfl
theorem getD_cols (fs : List (Nat → Nat)) (j i : Nat) : (cols fs i).getD j 0 = (fs.getD j (fun _ => 0)) i := by
  rw [cols, List.getD_eq_getElem?_getD, List.getElem?_map, List.getD_eq_getElem?_getD]
  cases fs[j]? with
  | none => rfl
  | some f => rfl
theorem All.getD {fs : List (Nat → Nat)} (h : All fs) (j : Nat) : Small (fs.getD j (fun _ => 0)) := by
  rw [List.getD_eq_getElem?_getD]
  cases hj : fs[j]? with
  | none => intro i; show 0 < _; decide
  | some f => exact h f (List.mem_of_getElem? hj)
theorem All.set {fs : List (Nat → Nat)} (h : All fs) (j : Nat) {f : Nat → Nat} (hf : Small f) : All (fs.set j f) := by
  intro g hg
  rcases List.mem_or_eq_of_mem_set hg with h1 | h1
  · exact h g h1
  · rw [h1]; exact hf
theorem cols_set (fs : List (Nat → Nat)) (j : Nat) (f : Nat → Nat) (i : Nat) : cols (fs.set j f) i = (cols fs i).set j (f i) := by simp [cols, List.map_set]
theorem eightF {s : List (Nat → Nat)} (h : s.length = 8) : ∃ a b c d e f g i, s = [a, b, c, d, e, f, g, i] := by
  match s, h with
  | [a, b, c, d, e, f, g, i], _ => exact ⟨a, b, c, d, e, f, g, i, rfl⟩

theorem rnd_pack (k : Nat) (hk : k < 4294967296) (w : Nat → Nat) (hw : Small w) (fs : List (Nat → Nat)) (h8 : fs.length = 8) (hA : All fs) :
    ∃ fs', rndP (pack L mk) (pack L on) k (pack L w) (fs.map (pack L)) = fs'.map (pack L) ∧ (∀ i, rndP 4294967295 1 k (w i) (cols fs i) = cols fs' i) ∧ fs'.length = 8 ∧ All fs' := by
  obtain ⟨a, b, c, d, e, f, g, h, rfl⟩ := eightF h8
  have ha := hA a (by simp); have hb := hA b (by simp); have hc := hA c (by simp); have hd := hA d (by simp)
  have he := hA e (by simp); have hf := hA f (by simp); have hg := hA g (by simp); have hh := hA h (by simp)
  have ht := fun i => t1_lt (e := e i) hk (hw i) (hf i) (hg i) (hh i)
  have hr := fun i => rot3_lt (a i) 2 13 22
  have hm := fun i => maj_lt (a := a i) (hb i) (hc i)
  refine ⟨[fun i => Nat.land (Nat.add (Nat.add (t1P 4294967295 1 k (w i) (e i) (f i) (g i) (h i)) (rot3 4294967295 (a i) 2 13 22)) (majP (a i) (b i) (c i))) 4294967295, a, b, c,
    fun i => Nat.land (Nat.add (d i) (t1P 4294967295 1 k (w i) (e i) (f i) (g i) (h i))) 4294967295, e, f, g], ?_, fun i => rfl, rfl, ?_⟩
  · simp only [List.map_cons, List.map_nil, rndP]
    rw [t1_pack k hk w e f g h he hf hg, rot3_pack a ha 2 13 22 (by decide) (by decide) (by decide), maj_pack a b c ha hb hc]
    have e1 : Nat.add (Nat.add (pack L fun i => t1P 4294967295 1 k (w i) (e i) (f i) (g i) (h i)) (pack L fun i => rot3 4294967295 (a i) 2 13 22)) (pack L fun i => majP (a i) (b i) (c i)) = pack L (fun i => Nat.add (Nat.add (t1P 4294967295 1 k (w i) (e i) (f i) (g i) (h i)) (rot3 4294967295 (a i) 2 13 22)) (majP (a i) (b i) (c i))) := by
      show ((_ : Nat) + (_ : Nat)) + (_ : Nat) = _
      rw [pack_add, pack_add]; rfl
    have e2 : Nat.add (pack L d) (pack L fun i => t1P 4294967295 1 k (w i) (e i) (f i) (g i) (h i)) = pack L (fun i => Nat.add (d i) (t1P 4294967295 1 k (w i) (e i) (f i) (g i) (h i))) := pack_add L _ _
    rw [e1, e2, and_pack, and_pack]
    · intro i
      show d i + t1P 4294967295 1 k (w i) (e i) (f i) (g i) (h i) < 18446744073709551616
      have := ht i; have := hd i; omega
    · intro i
      show t1P 4294967295 1 k (w i) (e i) (f i) (g i) (h i) + rot3 4294967295 (a i) 2 13 22 + majP (a i) (b i) (c i) < 18446744073709551616
      have := ht i; have := hr i; have := hm i; omega
  · intro x hx
    simp only [List.mem_cons, List.not_mem_nil, or_false] at hx
    rcases hx with rfl | rfl | rfl | rfl | rfl | rfl | rfl | rfl
    · exact fun i => and_mk_lt _
    · exact ha
    · exact hb
    · exact hc
    · exact fun i => and_mk_lt _
    · exact he
    · exact hf
    · exact hg
theorem rnds_pack (K : List Nat) (hK : ∀ n, K.getD n 0 < 4294967296) (W : List (Nat → Nat)) (hW : All W) (fs : List (Nat → Nat)) (h8 : fs.length = 8) (hA : All fs) : ∀ n,
    ∃ fs', rndsP (pack L mk) (pack L on) K (W.map (pack L)) (fs.map (pack L)) n = fs'.map (pack L) ∧ (∀ i, rndsP 4294967295 1 K (cols W i) (cols fs i) n = cols fs' i) ∧ fs'.length = 8 ∧ All fs' := by
  intro n
  induction n with
  | zero => exact ⟨fs, rfl, fun _ => rfl, h8, hA⟩
  | succ n ih =>
    obtain ⟨s, e1, e2, h1, h2⟩ := ih
    obtain ⟨s', f1, f2, h3, h4⟩ := rnd_pack (L := L) (K.getD n 0) (hK n) (W.getD n (fun _ => 0)) (hW.getD n) s h1 h2
    refine ⟨s', ?_, fun i => ?_, h3, h4⟩
    · rw [rndsP, e1, getD_pack]; exact f1
    · rw [rndsP, e2, getD_cols]; exact f2 i
theorem next_pack (a b c d : Nat → Nat) (ha : Small a) (hb : Small b) (hc : Small c) (hd : Small d) : nextP (pack L mk) (pack L a) (pack L b) (pack L c) (pack L d) = pack L (fun i => nextP 4294967295 (a i) (b i) (c i) (d i)) := by
  unfold nextP
  rw [rot2_pack b hb 7 18 3 (by decide) (by decide) (by decide), rot2_pack d hd 17 19 10 (by decide) (by decide) (by decide)]
  have e1 : Nat.add (Nat.add (Nat.add (pack L a) (pack L fun i => rot2 4294967295 (b i) 7 18 3)) (pack L c)) (pack L fun i => rot2 4294967295 (d i) 17 19 10) = pack L (fun i => Nat.add (Nat.add (Nat.add (a i) (rot2 4294967295 (b i) 7 18 3)) (c i)) (rot2 4294967295 (d i) 17 19 10)) := by
    show (((_ : Nat) + (_ : Nat)) + (_ : Nat)) + (_ : Nat) = _
    rw [pack_add, pack_add, pack_add]; rfl
  rw [e1, and_pack]
  intro i
  show a i + rot2 4294967295 (b i) 7 18 3 + c i + rot2 4294967295 (d i) 17 19 10 < 18446744073709551616
  have := ha i; have := hc i; have := rot2_lt (b i) 7 18 3; have := rot2_lt (d i) 17 19 10; omega
theorem ext_pack (W : List (Nat → Nat)) (hW : All W) : ∀ k, ∃ W', extP (pack L mk) (W.map (pack L)) k = W'.map (pack L) ∧ (∀ i, extP 4294967295 (cols W i) k = cols W' i) ∧ All W' := by
  intro k
  induction k with
  | zero => exact ⟨W, rfl, fun _ => rfl, hW⟩
  | succ k ih =>
    obtain ⟨V, e1, e2, hV⟩ := ih
    refine ⟨V.set (16 + k) (fun i => nextP 4294967295 (V.getD k (fun _ => 0) i) (V.getD (k + 1) (fun _ => 0) i) (V.getD (k + 9) (fun _ => 0) i) (V.getD (k + 14) (fun _ => 0) i)), ?_, fun i => ?_, hV.set _ (fun i => and_mk_lt _)⟩
    · rw [extP, e1, getD_pack, getD_pack, getD_pack, getD_pack, next_pack _ _ _ _ (hV.getD _) (hV.getD _) (hV.getD _) (hV.getD _), List.map_set]
    · rw [extP, e2, getD_cols, getD_cols, getD_cols, getD_cols, cols_set]
theorem add_pack (h s : List (Nat → Nat)) (hh : All h) (hs : All s) : ∀ n, ∃ h', addP (pack L mk) (h.map (pack L)) (s.map (pack L)) n = h'.map (pack L) ∧ (∀ i, addP 4294967295 (cols h i) (cols s i) n = cols h' i) ∧ h'.length = h.length ∧ All h' := by
  intro n
  induction n with
  | zero => exact ⟨h, rfl, fun _ => rfl, rfl, hh⟩
  | succ n ih =>
    obtain ⟨v, e1, e2, hl, hv⟩ := ih
    refine ⟨v.set n (fun i => Nat.land (Nat.add (v.getD n (fun _ => 0) i) (s.getD n (fun _ => 0) i)) 4294967295), ?_, fun i => ?_, by simpa using hl, hv.set _ (fun i => and_mk_lt _)⟩
    · rw [addP, e1, getD_pack, getD_pack, List.map_set]
      have e3 : Nat.add (pack L (v.getD n fun _ => 0)) (pack L (s.getD n fun _ => 0)) = pack L (fun i => Nat.add (v.getD n (fun _ => 0) i) (s.getD n (fun _ => 0) i)) := pack_add L _ _
      rw [e3, and_pack]
      intro i
      show v.getD n (fun _ => 0) i + s.getD n (fun _ => 0) i < 18446744073709551616
      have := hv.getD n i; have := hs.getD n i; omega
    · rw [addP, e2, getD_cols, getD_cols, cols_set]
theorem word_pack (x0 x1 x2 x3 : Nat → Nat) : wordP (pack L x0) (pack L x1) (pack L x2) (pack L x3) = pack L (fun i => wordP (x0 i) (x1 i) (x2 i) (x3 i)) := by
  show ((pack L x0 <<< 24 + pack L x1 <<< 16) + pack L x2 <<< 8) + pack L x3 = _
  simp only [Nat.shiftLeft_eq, Nat.mul_comm _ (2 ^ _)]
  rw [pack_mul, pack_mul, pack_mul, pack_add, pack_add, pack_add]
  apply pack_congr
  intro i
  show _ = ((x0 i <<< 24 + x1 i <<< 16) + x2 i <<< 8) + x3 i
  simp only [Nat.shiftLeft_eq, Nat.mul_comm _ (2 ^ _)]
theorem word_lt {x0 x1 x2 x3 : Nat} (h0 : x0 < 256) (h1 : x1 < 256) (h2 : x2 < 256) (h3 : x3 < 256) : wordP x0 x1 x2 x3 < 4294967296 := by
  show ((x0 <<< 24 + x1 <<< 16) + x2 <<< 8) + x3 < _
  simp only [Nat.shiftLeft_eq]; omega
/-- The bytes: G i is the byte of each lane at place i. -/
theorem fill_pack (G : Nat → Nat → Nat) (hG : ∀ t i, G t i < 256) (k : Nat) : ∀ t, ∃ W, fillP (fun t => pack L (G t)) k t = W.map (pack L) ∧ (∀ i, fillP (fun t => G t i) k t = cols W i) ∧ All W := by
  intro t
  induction t with
  | zero =>
    refine ⟨List.replicate 64 (fun _ => 0), ?_, fun i => ?_, fun f hf => ?_⟩
    · rw [fillP, List.map_replicate, pack_zero]
    · rw [fillP, cols, List.map_replicate]
    · rw [List.eq_of_mem_replicate hf]; intro i; show 0 < _; decide
  | succ t ih =>
    obtain ⟨W, e1, e2, hW⟩ := ih
    refine ⟨W.set t (fun i => wordP (G (64 * k + 4 * t) i) (G (64 * k + (4 * t + 1)) i) (G (64 * k + (4 * t + 2)) i) (G (64 * k + (4 * t + 3)) i)), ?_, fun i => ?_, hW.set _ (fun i => word_lt (hG _ _) (hG _ _) (hG _ _) (hG _ _))⟩
    · rw [fillP, e1, word_pack, List.map_set]
    · rw [fillP, e2, cols_set]
theorem KN_lt : ∀ n, KN.getD n 0 < 4294967296 := by
  intro n
  by_cases h : n < 64
  · have key : ∀ m : Fin 64, KN.getD m.val 0 < 4294967296 := by decide +kernel
    exact key ⟨n, h⟩
  · rw [List.getD_eq_getElem?_getD, List.getElem?_eq_none (by show 64 ≤ n; omega)]; decide
theorem blks_pack (G : Nat → Nat → Nat) (hG : ∀ t i, G t i < 256) : ∀ k, ∃ h, blksP (pack L mk) (pack L on) (fun t => pack L (G t)) k = h.map (pack L) ∧ (∀ i, blksP 4294967295 1 (fun t => G t i) k = cols h i) ∧ h.length = 8 ∧ All h := by
  intro k
  induction k with
  | zero =>
    refine ⟨HN.map (fun x _ => Nat.mul 1 x), ?_, fun i => ?_, rfl, ?_⟩
    · rw [blksP, List.map_map]
      refine List.map_congr_left fun x hx => ?_
      show pack L on * x = pack L (fun _ => 1 * x)
      rw [Nat.mul_comm, pack_mul]
      apply pack_congr
      intro i
      show x * 1 = 1 * x
      omega
    · rw [blksP, cols, List.map_map]; rfl
    · intro f hf
      obtain ⟨x, hx, rfl⟩ := List.mem_map.1 hf
      have key : ∀ x ∈ HN, x < 4294967296 := by decide +kernel
      intro i
      show 1 * x < _
      have := key x hx
      omega
  | succ k ih =>
    obtain ⟨h, e1, e2, hl, hA⟩ := ih
    obtain ⟨W, w1, w2, hW⟩ := fill_pack (L := L) G hG k 16
    obtain ⟨V, v1, v2, hV⟩ := ext_pack (L := L) W hW 48
    obtain ⟨s, s1, s2, sl, hs⟩ := rnds_pack (L := L) KN KN_lt V hV h hl hA 64
    obtain ⟨h', a1, a2, al, ha⟩ := add_pack (L := L) h s hA hs 8
    refine ⟨h', ?_, fun i => ?_, by omega, ha⟩
    · rw [blksP, e1, w1, v1, s1, a1]
    · rw [blksP, e2, w2, v2, s2, a2]
end
end Go.Proofs.Ytafkcmgfkecljaa
