/- One lane is SHA-256 as it was said over integers. Plain laws. -/
import Derived.Test.YtafkcmgfkecljaaLane1
namespace Go.Proofs.Ytafkcmgfkecljaa
set_option linter.unusedSimpArgs false
set_option linter.unusedVariables false

def cz (x : Nat) : Int := (x : Int)
def Bd (s : List Nat) : Prop := ∀ j, s.getD j 0 < 4294967296
theorem getD_cz (s : List Nat) (j : Nat) : (s.map cz).getD j 0 = ((s.getD j 0 : Nat) : Int) := by
  rw [List.getD_eq_getElem?_getD, List.getElem?_map, List.getD_eq_getElem?_getD]
  cases s[j]? with
  | none => rfl
  | some f => rfl
theorem Bd.set {s : List Nat} (h : Bd s) (j x : Nat) (hx : x < 4294967296) : Bd (s.set j x) := by
  intro i
  rw [List.getD_eq_getElem?_getD, List.getElem?_set]
  by_cases e : j = i
  · rw [if_pos e]
    split
    · exact hx
    · show 0 < _; decide
  · rw [if_neg e, ← List.getD_eq_getElem?_getD]; exact h i
theorem mask32 (x : Nat) : x &&& 4294967295 = x % 4294967296 := Nat.and_two_pow_sub_one_eq_mod x 32
theorem land32 (x : Nat) : Nat.land x 4294967295 = x % 4294967296 := mask32 x
theorem dbl_bit (x j : Nat) (hx : x < 4294967296) : (dblP x).testBit j = if j < 32 then x.testBit j else x.testBit (j - 32) := by
  show (x + x <<< 32).testBit j = _
  rw [Nat.shiftLeft_eq, Nat.mul_comm, Nat.add_comm, Nat.testBit_two_pow_mul_add _ (show x < 2 ^ 32 from hx)]
theorem rot_nat (x n : Nat) (hx : x < 4294967296) (h1 : 1 ≤ n) (h2 : n ≤ 31) : rotI (x : Int) n = (((dblP x >>> n) &&& 4294967295 : Nat) : Int) := by
  unfold rotI
  have e1 : (x : Int) / 2 ^ n = ((x / 2 ^ n : Nat) : Int) := by simp
  have e2 : (x : Int) * 2 ^ (32 - n) % 4294967296 = ((x * 2 ^ (32 - n) % 4294967296 : Nat) : Int) := by simp
  rw [e1, e2, u32_or_nat _ _ (Nat.lt_of_le_of_lt (Nat.div_le_self _ _) hx) (Nat.mod_lt _ (by decide))]
  congr 1
  apply Nat.eq_of_testBit_eq
  intro j
  rw [Nat.testBit_or, Nat.testBit_and, Nat.testBit_shiftRight, dbl_bit x _ hx, show (4294967296 : Nat) = 2 ^ 32 from rfl, Nat.testBit_mod_two_pow, ← Nat.shiftLeft_eq, Nat.testBit_shiftLeft, show (4294967295 : Nat) = 2 ^ 32 - 1 from rfl, Nat.testBit_two_pow_sub_one, Nat.testBit_div_two_pow]
  by_cases hj : j < 32
  · by_cases hn : n + j < 32
    · have h3 : ¬ 32 - n ≤ j := by omega
      rw [Nat.add_comm j n]
      simp [hj, hn, h3]
    · have h3 : 32 - n ≤ j := by omega
      have h4 : x.testBit (j + n) = false := lt_bits (k := 32) hx (by omega)
      have h5 : j - (32 - n) = n + j - 32 := by omega
      simp [hj, hn, h3, h4, h5]
  · have h4 : x.testBit (j + n) = false := lt_bits (k := 32) hx (by omega)
    simp [hj, h4]
theorem m_lt (y : Nat) : y &&& 4294967295 < 4294967296 := by rw [mask32]; omega
theorem rot3_nat (x a b c : Nat) (hx : x < 4294967296) (ha : 1 ≤ a ∧ a ≤ 31) (hb : 1 ≤ b ∧ b ≤ 31) (hc : 1 ≤ c ∧ c ≤ 31) :
    bits BinOp.xor IntKind.u32 (bits BinOp.xor IntKind.u32 (rotI x a) (rotI x b)) (rotI x c) = ((rot3 4294967295 x a b c : Nat) : Int) := by
  rw [rot_nat x a hx ha.1 ha.2, rot_nat x b hx hb.1 hb.2, rot_nat x c hx hc.1 hc.2, u32_xor_nat _ _ (m_lt _) (m_lt _), u32_xor_nat _ _ (Nat.xor_lt_two_pow (n := 32) (m_lt _) (m_lt _)) (m_lt _)]
  rw [← Nat.and_xor_distrib_right, ← Nat.and_xor_distrib_right]
  rfl
theorem rot2_nat (x a b c : Nat) (hx : x < 4294967296) (ha : 1 ≤ a ∧ a ≤ 31) (hb : 1 ≤ b ∧ b ≤ 31) :
    bits BinOp.xor IntKind.u32 (bits BinOp.xor IntKind.u32 (rotI x a) (rotI x b)) ((x >>> c : Nat) : Int) = ((rot2 4294967295 x a b c : Nat) : Int) := by
  have hc : x >>> c < 4294967296 := by rw [Nat.shiftRight_eq_div_pow]; exact Nat.lt_of_le_of_lt (Nat.div_le_self _ _) hx
  rw [rot_nat x a hx ha.1 ha.2, rot_nat x b hx hb.1 hb.2, u32_xor_nat _ _ (m_lt _) (m_lt _), u32_xor_nat _ _ (Nat.xor_lt_two_pow (n := 32) (m_lt _) (m_lt _)) hc]
  have e : x >>> c = x >>> c &&& 4294967295 := by rw [mask32, Nat.mod_eq_of_lt hc]
  rw [e, ← Nat.and_xor_distrib_right, ← Nat.and_xor_distrib_right]
  rfl
theorem ch_nat (e f g : Nat) (he : e < 4294967296) (hf : f < 4294967296) (hg : g < 4294967296) : chI e f g = ((chP e f g : Nat) : Int) := by
  have hn : notI (e : Int) = ((4294967295 ^^^ e : Nat) : Int) := by
    unfold notI
    rw [show (if IntKind.u32.signed = true then (-1 : Int) else IntKind.u32.max) = ((4294967295 : Nat) : Int) from rfl]
    exact u32_xor_nat _ _ (by decide) he
  unfold chI
  rw [hn, u32_and_nat _ _ he hf, u32_and_nat _ _ (Nat.xor_lt_two_pow (n := 32) (by decide) he) hg, u32_xor_nat _ _ (Nat.and_lt_two_pow (n := 32) _ hf) (Nat.and_lt_two_pow (n := 32) _ hg)]
  congr 1
  show _ = g ^^^ (e &&& (f ^^^ g))
  apply Nat.eq_of_testBit_eq
  intro j
  simp only [Nat.testBit_xor, Nat.testBit_and]
  rw [show (4294967295 : Nat) = 2 ^ 32 - 1 from rfl, Nat.testBit_two_pow_sub_one]
  by_cases hj : j < 32
  · simp only [hj, decide_true]
    cases e.testBit j <;> cases f.testBit j <;> cases g.testBit j <;> rfl
  · rw [lt_bits (k := 32) he (by omega), lt_bits (k := 32) hf (by omega), lt_bits (k := 32) hg (by omega)]
    simp
theorem maj_nat (a b c : Nat) (ha : a < 4294967296) (hb : b < 4294967296) (hc : c < 4294967296) : majI a b c = ((majP a b c : Nat) : Int) := by
  unfold majI
  rw [u32_and_nat _ _ ha hb, u32_and_nat _ _ ha hc, u32_and_nat _ _ hb hc, u32_xor_nat _ _ (Nat.and_lt_two_pow (n := 32) _ hb) (Nat.and_lt_two_pow (n := 32) _ hc),
    u32_xor_nat _ _ (Nat.xor_lt_two_pow (n := 32) (Nat.and_lt_two_pow _ hb) (Nat.and_lt_two_pow _ hc)) (Nat.and_lt_two_pow (n := 32) _ hc)]
  rw [← Nat.and_xor_distrib_left]
  rfl
theorem t1_nat (k w e f g h : Nat) (he : e < 4294967296) (hf : f < 4294967296) (hg : g < 4294967296) : pI e f g h k w = ((t1P 4294967295 1 k w e f g h % 4294967296 : Nat) : Int) := by
  unfold pI m32 bigS1
  rw [rot3_nat e 6 11 25 he (by decide) (by decide) (by decide), ch_nat e f g he hf hg]
  show _ = (((h + rot3 4294967295 e 6 11 25 + chP e f g + k * 1 + w) % 4294967296 : Nat) : Int)
  rw [Nat.mul_one]
  simp
theorem round_nat (k w : Nat) (s : List Nat) (h8 : s.length = 8) (hs : Bd s) : roundI k w (s.map cz) = (rndP 4294967295 1 k w s).map cz ∧ (rndP 4294967295 1 k w s).length = 8 ∧ Bd (rndP 4294967295 1 k w s) := by
  have h8' : ∃ a b c d e f g i, s = [a, b, c, d, e, f, g, i] := by
    match s, h8 with
    | [a, b, c, d, e, f, g, i], _ => exact ⟨a, b, c, d, e, f, g, i, rfl⟩
  obtain ⟨a, b, c, d, e, f, g, h, rfl⟩ := h8'
  have ha := hs 0; have hb := hs 1; have hc := hs 2; have hd := hs 3
  have he := hs 4; have hf := hs 5; have hg := hs 6; have hh := hs 7
  simp at ha hb hc hd he hf hg hh
  refine ⟨?_, rfl, ?_⟩
  · simp only [List.map_cons, List.map_nil, roundI, rndP]
    unfold cz
    rw [t1_nat k w e f g h he hf hg, maj_nat a b c ha hb hc]
    unfold bigS0
    rw [rot3_nat a 2 13 22 ha (by decide) (by decide) (by decide)]
    generalize t1P 4294967295 1 k w e f g h = t
    generalize rot3 4294967295 a 2 13 22 = r
    generalize majP a b c = m
    rw [land32, land32]
    show [m32 (((t % 4294967296 : Nat) : Int) + (r : Int) + (m : Int)), (a : Int), (b : Int), (c : Int), m32 ((d : Int) + ((t % 4294967296 : Nat) : Int)), (e : Int), (f : Int), (g : Int)] = [(((t + r + m) % 4294967296 : Nat) : Int), (a : Int), (b : Int), (c : Int), (((d + t) % 4294967296 : Nat) : Int), (e : Int), (f : Int), (g : Int)]
    unfold m32
    congr 1
    · omega
    · congr 4
      omega
  · intro j
    unfold rndP
    match j with
    | 0 => exact and_mk_lt _
    | 1 => exact ha
    | 2 => exact hb
    | 3 => exact hc
    | 4 => exact and_mk_lt _
    | 5 => exact he
    | 6 => exact hf
    | 7 => exact hg
    | j + 8 => show 0 < _; decide
theorem rounds_nat (K W s : List Nat) (h8 : s.length = 8) (hs : Bd s) : ∀ n, roundsI (K.map cz) (W.map cz) (s.map cz) n = (rndsP 4294967295 1 K W s n).map cz ∧ (rndsP 4294967295 1 K W s n).length = 8 ∧ Bd (rndsP 4294967295 1 K W s n) := by
  intro n
  induction n with
  | zero => exact ⟨rfl, h8, hs⟩
  | succ n ih =>
    obtain ⟨e, h1, h2⟩ := ih
    rw [roundsI, e, getD_cz, getD_cz, rndsP]
    exact round_nat _ _ _ h1 h2
theorem next_nat (a b c d : Nat) (hb : b < 4294967296) (hd : d < 4294967296) : nextI a b c d = ((nextP 4294967295 a b c d : Nat) : Int) := by
  unfold nextI sig0 sig1
  have e1 : ∀ z : Int, z = (b : Int) → z / (8 : Int) = cz (b >>> 3) := by intro z h; rw [cz, Nat.shiftRight_eq_div_pow, h]; simp
  have e1 := e1 _ rfl
  have e2 : ∀ z : Int, z = (d : Int) → z / (1024 : Int) = cz (d >>> 10) := by intro z h; rw [cz, Nat.shiftRight_eq_div_pow, h]; simp
  have e2 := e2 _ rfl
  rw [e1, e2, show cz (b >>> 3) = ((b >>> 3 : Nat) : Int) from rfl, show cz (d >>> 10) = ((d >>> 10 : Nat) : Int) from rfl, rot2_nat b 7 18 3 hb (by decide) (by decide), rot2_nat d 17 19 10 hd (by decide) (by decide), IntKind.wrap_u32']
  unfold nextP
  rw [land32]
  show _ = (((a + rot2 4294967295 b 7 18 3 + c + rot2 4294967295 d 17 19 10) % 4294967296 : Nat) : Int)
  generalize rot2 4294967295 b 7 18 3 = r
  generalize rot2 4294967295 d 17 19 10 = t
  omega
theorem ext_nat (ws : List Nat) (hw : Bd ws) : ∀ k, extW (ws.map cz) k = (extP 4294967295 ws k).map cz ∧ Bd (extP 4294967295 ws k) := by
  intro k
  induction k with
  | zero => exact ⟨rfl, hw⟩
  | succ k ih =>
    obtain ⟨e, h⟩ := ih
    refine ⟨?_, ?_⟩
    · rw [extW, e, getD_cz, getD_cz, getD_cz, getD_cz, next_nat _ _ _ _ (h _) (h _), extP, List.map_set]; rfl
    · rw [extP]; exact h.set _ _ (and_mk_lt _)
theorem add_nat (h s : List Nat) (hh : Bd h) : ∀ n, addW (h.map cz) (s.map cz) n = (addP 4294967295 h s n).map cz ∧ (addP 4294967295 h s n).length = h.length ∧ Bd (addP 4294967295 h s n) := by
  intro n
  induction n with
  | zero => exact ⟨rfl, rfl, hh⟩
  | succ n ih =>
    obtain ⟨e, hl, hb⟩ := ih
    refine ⟨?_, ?_, ?_⟩
    · rw [addW, e, getD_cz, getD_cz, addP, List.map_set]
      congr 1
      unfold m32 cz
      rw [land32]
      show _ = ((((addP 4294967295 h s n).getD n 0 + s.getD n 0) % 4294967296 : Nat) : Int)
      simp
    · rw [addP]; simpa using hl
    · rw [addP]; exact hb.set _ _ (and_mk_lt _)
theorem word_nat (x0 x1 x2 x3 : UInt8) : wordI x0 x1 x2 x3 = ((wordP x0.toNat x1.toNat x2.toNat x3.toNat : Nat) : Int) := by
  have h0 := x0.toNat_lt; have h1 := x1.toNat_lt; have h2 := x2.toNat_lt; have h3 := x3.toNat_lt
  unfold wordI
  generalize x0.toNat = a at *
  generalize x1.toNat = b at *
  generalize x2.toNat = c at *
  generalize x3.toNat = d at *
  simp only [IntKind.wrap_u32']
  have e0 : ∀ z : Int, z = (a : Int) → (z % (4294967296 : Int) * (16777216 : Int)) % (4294967296 : Int) = cz (a <<< 24) := by intro z h; rw [cz, Nat.shiftLeft_eq]; omega
  have e0 := e0 _ rfl
  have e1 : ∀ z : Int, z = (b : Int) → (z % (4294967296 : Int) * (65536 : Int)) % (4294967296 : Int) = cz (b <<< 16) := by intro z h; rw [cz, Nat.shiftLeft_eq]; omega
  have e1 := e1 _ rfl
  have e2 : ∀ z : Int, z = (c : Int) → (z % (4294967296 : Int) * (256 : Int)) % (4294967296 : Int) = cz (c <<< 8) := by intro z h; rw [cz, Nat.shiftLeft_eq]; omega
  have e2 := e2 _ rfl
  have e3 : (d : Int) % 4294967296 = (d : Int) := by omega
  have l0 : a <<< 24 < 4294967296 := by rw [Nat.shiftLeft_eq]; omega
  have l1 : b <<< 16 < 2 ^ 24 := by rw [Nat.shiftLeft_eq]; omega
  have l2 : c <<< 8 < 2 ^ 16 := by rw [Nat.shiftLeft_eq]; omega
  have o1 : a <<< 24 ||| b <<< 16 = a <<< 24 + b <<< 16 := (Nat.shiftLeft_add_eq_or_of_lt l1 a).symm
  have o2 : (a <<< 24 + b <<< 16) ||| c <<< 8 = a <<< 24 + b <<< 16 + c <<< 8 := by
    have e : a <<< 24 + b <<< 16 = (a * 256 + b) <<< 16 := by simp only [Nat.shiftLeft_eq]; omega
    rw [e]; exact (Nat.shiftLeft_add_eq_or_of_lt l2 _).symm
  have o3 : (a <<< 24 + b <<< 16 + c <<< 8) ||| d = a <<< 24 + b <<< 16 + c <<< 8 + d := by
    have e : a <<< 24 + b <<< 16 + c <<< 8 = ((a * 256 + b) * 256 + c) <<< 8 := by simp only [Nat.shiftLeft_eq]; omega
    rw [e]; exact (Nat.shiftLeft_add_eq_or_of_lt h3 _).symm
  have s1 : a <<< 24 + b <<< 16 < 4294967296 := by simp only [Nat.shiftLeft_eq]; omega
  have s2 : a <<< 24 + b <<< 16 + c <<< 8 < 4294967296 := by simp only [Nat.shiftLeft_eq]; omega
  rw [e0, e1, e2, e3]
  simp only [show ∀ x : Nat, cz x = (x : Int) from fun _ => rfl]
  rw [u32_or_nat _ _ l0 (by omega), o1, u32_or_nat _ _ s1 (by omega), o2, u32_or_nat _ _ s2 (by omega), o3]
  rfl
theorem fill_nat (P : List UInt8) (k : Nat) : ∀ t, t ≤ 16 → fillW ((P.drop (64 * k)).take 64) t = (fillP (fun t => (P.getD t 0).toNat) k t).map cz ∧ Bd (fillP (fun t => (P.getD t 0).toNat) k t) := by
  intro t
  induction t with
  | zero =>
    intro _
    refine ⟨by rw [fillW, fillP, List.map_replicate]; rfl, fun j => ?_⟩
    rw [fillP, List.getD_eq_getElem?_getD, List.getElem?_replicate]
    split <;> (show 0 < _; decide)
  | succ t ih =>
    intro ht
    obtain ⟨e, hb⟩ := ih (by omega)
    have hg : ∀ j, j < 64 → ((P.drop (64 * k)).take 64).getD j 0 = P.getD (64 * k + j) 0 := by
      intro j hj
      rw [List.getD_eq_getElem?_getD, List.getElem?_take, if_pos hj, List.getElem?_drop, ← List.getD_eq_getElem?_getD]
    refine ⟨?_, ?_⟩
    · rw [fillW, e, hg _ (by omega), hg _ (by omega), hg _ (by omega), hg _ (by omega), word_nat, fillP, List.map_set]; rfl
    · rw [fillP]
      exact hb.set _ _ (word_lt (UInt8.toNat_lt _) (UInt8.toNat_lt _) (UInt8.toNat_lt _) (UInt8.toNat_lt _))
theorem K_nat : K64 = KN.map cz := by decide +kernel
theorem H_nat : H8 = (HN.map (Nat.mul 1)).map cz := by decide +kernel
theorem H_bd : Bd (HN.map (Nat.mul 1)) := by
  intro j
  by_cases h : j < 8
  · have key : ∀ m : Fin 8, (HN.map (Nat.mul 1)).getD m.val 0 < 4294967296 := by decide +kernel
    exact key ⟨j, h⟩
  · rw [List.getD_eq_getElem?_getD, List.getElem?_eq_none (by show 8 ≤ j; omega)]; decide
theorem blks_nat (P : List UInt8) : ∀ k, blocksI P k = (blksP 4294967295 1 (fun t => (P.getD t 0).toNat) k).map cz ∧ (blksP 4294967295 1 (fun t => (P.getD t 0).toNat) k).length = 8 ∧ Bd (blksP 4294967295 1 (fun t => (P.getD t 0).toNat) k) := by
  intro k
  induction k with
  | zero => exact ⟨H_nat, rfl, H_bd⟩
  | succ k ih =>
    obtain ⟨e, hl, hb⟩ := ih
    obtain ⟨f1, f2⟩ := fill_nat P k 16 (Nat.le_refl _)
    obtain ⟨x1, x2⟩ := ext_nat _ f2 48
    obtain ⟨r1, r2, r3⟩ := rounds_nat KN (extP 4294967295 (fillP (fun t => (P.getD t 0).toNat) k 16) 48) _ hl hb 64
    obtain ⟨a1, a2, a3⟩ := add_nat _ (rndsP 4294967295 1 KN (extP 4294967295 (fillP (fun t => (P.getD t 0).toNat) k 16) 48) (blksP 4294967295 1 (fun t => (P.getD t 0).toNat) k) 64) hb 8
    refine ⟨?_, ?_, ?_⟩
    · rw [blocksI, blockI, wordsW, e, f1, x1, K_nat, r1, a1]; rfl
    · rw [blksP, a2, hl]
    · rw [blksP]; exact a3
/-- The first word of a name. -/
def w0 (l : List UInt8) : Nat := (blksP 4294967295 1 (fun t => ((padL l).getD t 0).toNat) ((padL l).length / 64)).getD 0 0
theorem outB_w (l : List UInt8) (i : Nat) (hi : i < 4) : (outB (hashI l) i).toNat = w0 l / 2 ^ (24 - 8 * i) % 256 := by
  unfold outB hashI w0
  obtain ⟨e, _, _⟩ := blks_nat (padL l) ((padL l).length / 64)
  rw [e, show i / 4 = 0 from by omega, getD_cz, show i % 4 = i from by omega]
  generalize (blksP 4294967295 1 (fun t => ((padL l).getD t 0).toNat) ((padL l).length / 64)).getD 0 0 = x
  rw [UInt8.toNat_ofNat']
  have : (x : Int) / 2 ^ (24 - 8 * i) % 256 = ((x / 2 ^ (24 - 8 * i) % 256 : Nat) : Int) := by simp
  rw [this, Int.toNat_natCast]
  exact Nat.mod_eq_of_lt (Nat.mod_lt _ (by decide))
theorem sum_ne (l l' : List UInt8) (h : w0 l ≠ w0 l') : sumL l ≠ sumL l' := by
  intro e
  apply h
  have hb := (blks_nat (padL l) ((padL l).length / 64)).2.2 0
  have hb' := (blks_nat (padL l') ((padL l').length / 64)).2.2 0
  have key : ∀ i, i < 4 → w0 l / 2 ^ (24 - 8 * i) % 256 = w0 l' / 2 ^ (24 - 8 * i) % 256 := by
    intro i hi
    rw [← outB_w l i hi, ← outB_w l' i hi]
    have h1 : (sumL l)[i]? = some (outB (hashI l) i) := by simp [sumL, List.getElem?_range (show i < 32 by omega)]
    have h2 : (sumL l')[i]? = some (outB (hashI l') i) := by simp [sumL, List.getElem?_range (show i < 32 by omega)]
    rw [e] at h1
    rw [h1] at h2
    rw [Option.some.inj h2]
  have k0 := key 0 (by decide)
  have k1 := key 1 (by decide)
  have k2 := key 2 (by decide)
  have k3 := key 3 (by decide)
  change w0 l < 4294967296 at hb
  change w0 l' < 4294967296 at hb'
  simp at k0 k1 k2 k3
  omega
end Go.Proofs.Ytafkcmgfkecljaa
