/- For each length below 300 and each filling: a byte more has another name. -/
import Derived.Test.YtafkcmgfkecljaaLane4
import Derived.Test.YtafkcmgfkecljaaLane5
namespace Go.Proofs.Ytafkcmgfkecljaa
set_option linter.unusedSimpArgs false
set_option linter.unusedVariables false

theorem add_len (M : Nat) (h s : List Nat) (n : Nat) : (addP M h s n).length = h.length := by induction n <;> simp [addP, *]
theorem blks_len (M O : Nat) (g : Nat → Nat) (k : Nat) : (blksP M O g k).length = 8 := by
  induction k with
  | zero => rfl
  | succ k ih => rw [blksP, add_len, ih]
theorem fill_congr {g g' : Nat → Nat} (k : Nat) : ∀ t, t ≤ 16 → (∀ i, i < 64 * (k + 1) → g i = g' i) → fillP g k t = fillP g' k t := by
  intro t
  induction t with
  | zero => intros; rfl
  | succ t ih =>
    intro ht h
    rw [fillP, fillP, ih (by omega) h, h _ (by omega), h _ (by omega), h _ (by omega), h _ (by omega)]
theorem blks_congr {g g' : Nat → Nat} (M O : Nat) : ∀ k, (∀ i, i < 64 * k → g i = g' i) → blksP M O g k = blksP M O g' k := by
  intro k
  induction k with
  | zero => intros; rfl
  | succ k ih =>
    intro h
    rw [blksP, blksP, ih (fun i hi => h i (by omega)), fill_congr k 16 (Nat.le_refl _) h]
theorem blks_step (g : Nat → Nat) (k : Nat) : stepF MM ON g k (blksP MM ON g k) = blksP MM ON g (k + 1) := by
  rw [step_eq _ _ _ _ _ (blks_len _ _ _ _), blksP]
theorem pre_eq (k : Nat) : pre k = blksP MM ON byteP k := by
  induction k with
  | zero => rfl
  | succ k ih => rw [pre, ih, blks_step]
theorem blt_true {a b : Nat} (h : a < b) : Nat.blt a b = true := by unfold Nat.blt; exact Nat.ble_eq_true_of_le h
theorem blt_false {a b : Nat} (h : ¬ a < b) : Nat.blt a b = false := by
  cases e : Nat.blt a b
  · rfl
  · exact absurd (Nat.le_of_ble_eq_true e) h
theorem P0_small (n t : Nat) (h : t < n) : P0 n t = byteP t := by rw [P0, blt_true h, cond_true]
theorem P1_small (n t : Nat) (h : t < n) : P1 n t = byteP t := by rw [P1, blt_true h, cond_true]
theorem last_eq (g : Nat → Nat) (n m : Nat) (hg : ∀ t, t < n → g t = byteP t) (hm : m / 64 = n / 64 + 1 ∨ m / 64 = n / 64 + 2) :
    cond (Nat.beq (m / 64) (n / 64 + 1)) (stepF MM ON g (n / 64) (pre (n / 64))) (stepF MM ON g (n / 64 + 1) (stepF MM ON g (n / 64) (pre (n / 64)))) = blksP MM ON g (m / 64) := by
  have hp : pre (n / 64) = blksP MM ON g (n / 64) := by
    rw [pre_eq]
    exact blks_congr _ _ _ (fun i hi => (hg i (by omega)).symm)
  rw [hp, blks_step, blks_step]
  rcases hm with hm | hm
  · rw [hm, Nat.beq_refl]; rfl
  · rw [hm, show Nat.beq (n / 64 + 2) (n / 64 + 1) = false from by
      cases e : Nat.beq (n / 64 + 2) (n / 64 + 1)
      · rfl
      · have := Nat.eq_of_beq_eq_true e; omega]
    rfl
theorem last0_eq (n : Nat) : last0 n = blksP MM ON (P0 n) ((n + 72) / 64) := by
  rw [last0]
  exact last_eq (P0 n) n (n + 72) (P0_small n) (by omega)
theorem last1_eq (n : Nat) : last1 n = blksP MM ON (P1 n) ((n + 73) / 64) := by
  rw [last1]
  exact last_eq (P1 n) n (n + 73) (P1_small n) (by omega)

/-! The lanes. -/
def G0 (n t i : Nat) : Nat := if t < n then (i % 256 + t) % 256 else (padT n).getD (t - n) 0
def G1 (n t i : Nat) : Nat := if t < n then (i % 256 + t) % 256 else if t = n then i % 256 else (padT (n + 1)).getD (t - (n + 1)) 0
theorem padT_map (n : Nat) : padT n = (([128] ++ List.replicate (zer n) 0 ++ beL (n * 8) 8 : List UInt8)).map UInt8.toNat := by
  simp [padT]
theorem padT_lt (n j : Nat) : (padT n).getD j 0 < 256 := by
  rw [padT_map, List.getD_eq_getElem?_getD, List.getElem?_map]
  cases (([128] ++ List.replicate (zer n) 0 ++ beL (n * 8) 8 : List UInt8))[j]? with
  | none => show 0 < 256; decide
  | some b => exact b.toNat_lt
theorem G0_lt (n t i : Nat) : G0 n t i < 256 := by
  unfold G0; split
  · exact Nat.mod_lt _ (by decide)
  · exact padT_lt _ _
theorem G1_lt (n t i : Nat) : G1 n t i < 256 := by
  unfold G1; split
  · exact Nat.mod_lt _ (by decide)
  · split
    · exact Nat.mod_lt _ (by decide)
    · exact padT_lt _ _
theorem byte_pack (t : Nat) (ht : t < 1000000) : byteP t = pack 256 (fun i => (i % 256 + t) % 256) := by
  unfold byteP
  rw [BY_eq, M8_eq, ON_eq]
  show (pack 256 _ + t * pack 256 on) &&& pack 256 _ = _
  rw [pack_mul, pack_add, pack_and]
  · apply pack_congr
    intro i
    show (i % 256 + t * 1) &&& 255 = _
    rw [Nat.mul_one]
    exact Nat.and_two_pow_sub_one_eq_mod _ 8
  · intro i
    show i % 256 + t * 1 < 2 ^ 64
    have : i % 256 < 256 := Nat.mod_lt _ (by decide)
    have : (1000256 : Nat) < 2 ^ 64 := by decide
    omega
  · intro i; exact (by decide : (255 : Nat) < 2 ^ 64)
theorem const_pack (c : Nat) : Nat.mul c ON = pack 256 (fun _ => c) := by
  rw [ON_eq]
  show c * pack 256 on = _
  rw [pack_mul]
  apply pack_congr
  intro i; exact Nat.mul_one c
theorem P0_pack (n : Nat) (hn : n < 1000) : P0 n = fun t => pack 256 (G0 n t) := by
  funext t
  by_cases h : t < n
  · rw [P0_small n t h, byte_pack t (by omega)]
    apply pack_congr
    intro i; simp [G0, h]
  · rw [P0, blt_false h]
    show Nat.mul _ ON = _
    rw [const_pack]
    apply pack_congr
    intro i; simp [G0, h]
theorem P1_pack (n : Nat) (hn : n < 1000) : P1 n = fun t => pack 256 (G1 n t) := by
  funext t
  by_cases h : t < n
  · rw [P1_small n t h, byte_pack t (by omega)]
    apply pack_congr
    intro i; simp [G1, h]
  · rw [P1, blt_false h]
    by_cases e : t = n
    · subst e
      show cond (Nat.beq t t) BY _ = _
      rw [Nat.beq_refl]
      show BY = _
      rw [BY_eq]
      apply pack_congr
      intro i; simp [G1]
    · have hb : Nat.beq t n = false := by
        cases e2 : Nat.beq t n
        · rfl
        · exact absurd (Nat.eq_of_beq_eq_true e2) e
      show cond (Nat.beq t n) BY _ = _
      rw [hb]
      show Nat.mul _ ON = _
      rw [const_pack]
      apply pack_congr
      intro i; simp [G1, h, e]

/-! The bytes. -/
def bL (n b : Nat) : List UInt8 := (List.range n).map fun i => UInt8.ofNat (b + i)
theorem bL_length (n b : Nat) : (bL n b).length = n := by simp [bL]
theorem padL_get (l : List UInt8) (t : Nat) : ((padL l).getD t 0).toNat = if t < l.length then (l.getD t 0).toNat else (padT l.length).getD (t - l.length) 0 := by
  have e : padL l = l ++ ([128] ++ List.replicate (zer l.length) 0 ++ beL (l.length * 8) 8) := by simp [padL]
  rw [e, padT_map]
  by_cases h : t < l.length
  · rw [if_pos h, List.getD_eq_getElem?_getD, List.getElem?_append_left h, ← List.getD_eq_getElem?_getD]
  · rw [if_neg h, List.getD_eq_getElem?_getD, List.getElem?_append_right (by omega), List.getD_eq_getElem?_getD, List.getElem?_map]
    cases ([128] ++ List.replicate (zer l.length) 0 ++ beL (l.length * 8) 8)[t - l.length]? <;> rfl
theorem padL_len (l : List UInt8) : (padL l).length / 64 = (l.length + 72) / 64 := by
  have : (padL l).length = l.length + 1 + zer l.length + 8 := by simp [padL, beL_length]; omega
  rw [this]
  unfold zer
  omega
theorem w0_lane (l : List UInt8) (n i N : Nat) (G : Nat → Nat → Nat) (hN : N = (l.length + 72) / 64) (hG : ∀ t, ((padL l).getD t 0).toNat = G t i) : w0 l = (blksP 4294967295 1 (fun t => G t i) N).getD 0 0 := by
  unfold w0
  rw [padL_len, ← hN]
  congr 2
  funext t
  exact hG t
theorem bL_get (n b t : Nat) (hb : b < 256) (h : t < n) : ((bL n b).getD t 0).toNat = (b % 256 + t) % 256 := by
  rw [List.getD_eq_getElem?_getD, bL, List.getElem?_map, List.getElem?_range h]
  show (UInt8.ofNat (b + t)).toNat = _
  rw [UInt8.toNat_ofNat']; omega
theorem lane_ne {L : Nat} (f g : Nat → Nat) (hf : Small f) (hg : Small g) (h : Nat.land (Nat.add (Nat.xor (pack L f) (pack L g)) (pack L mk)) (pack L (fun _ => 4294967296)) = pack L (fun _ => 4294967296)) (i : Nat) (hi : i < L) : f i ≠ g i := by
  have hx : ∀ j, (fun i => f i ^^^ g i) j < 4294967296 := fun j => Nat.xor_lt_two_pow (n := 32) (hf j) (hg j)
  change (((pack L f) ^^^ (pack L g)) + pack L mk) &&& pack L (fun _ => 4294967296) = _ at h
  rw [pack_xor _ _ _ hf.wide hg.wide, pack_add, pack_and] at h
  · have := pack_inj L _ _ (fun i => Nat.and_lt_two_pow _ (by decide)) (fun i => by decide) h i hi
    intro e
    simp only [e, Nat.xor_self, mk] at this
    exact absurd this (by decide)
  · intro j
    show (f j ^^^ g j) + 4294967295 < 18446744073709551616
    have := hx j
    simp only at this
    omega
  · intro j; decide
theorem chk_spec (n : Nat) (hn : n < 1000) (h : chk n = true) (i : Nat) (hi : i < 256) : sumL (bL n i) ≠ sumL (bL n i ++ [UInt8.ofNat i]) := by
  apply sum_ne
  have hc := Nat.eq_of_beq_eq_true h
  rw [last0_eq, last1_eq, P0_pack n hn, P1_pack n hn, MM_eq, ON_eq, TT_eq] at hc
  obtain ⟨f, f1, f2, _, fA⟩ := blks_pack (L := 256) (G0 n) (G0_lt n) ((n + 72) / 64)
  obtain ⟨g, g1, g2, _, gA⟩ := blks_pack (L := 256) (G1 n) (G1_lt n) ((n + 73) / 64)
  rw [f1, g1, getD_pack, getD_pack] at hc
  have key := lane_ne _ _ (fA.getD 0) (gA.getD 0) hc i hi
  have e0 : w0 (bL n i) = f.getD 0 (fun _ => 0) i := by
    rw [w0_lane (bL n i) n i ((n + 72) / 64) (G0 n) (by rw [bL_length]) (fun t => by
      rw [padL_get, bL_length, G0]
      by_cases ht : t < n
      · rw [if_pos ht, if_pos ht, bL_get n i t hi ht]
      · rw [if_neg ht, if_neg ht]), f2 i, getD_cols]
  have e1 : w0 (bL n i ++ [UInt8.ofNat i]) = g.getD 0 (fun _ => 0) i := by
    have hl : (bL n i ++ [UInt8.ofNat i]).length = n + 1 := by simp [bL_length]
    rw [w0_lane (bL n i ++ [UInt8.ofNat i]) n i ((n + 73) / 64) (G1 n) (by rw [hl]) (fun t => by
      rw [padL_get, hl, G1]
      by_cases ht : t < n
      · rw [if_pos ht, if_pos (by omega), List.getD_eq_getElem?_getD, List.getElem?_append_left (by rw [bL_length]; exact ht), ← List.getD_eq_getElem?_getD, bL_get n i t hi ht]
      · by_cases e : t = n
        · subst e
          rw [if_neg ht, if_pos rfl, if_pos (by omega), List.getD_eq_getElem?_getD, List.getElem?_append_right (by rw [bL_length]; omega), bL_length]
          simp
        · rw [if_neg ht, if_neg e, if_neg (by omega)]), g2 i, getD_cols]
  rw [e0, e1]
  exact key
theorem chkAll_spec (a m : Nat) (h : chkAll a m = true) : ∀ n, a ≤ n → n < a + m → chk n = true := by
  induction m with
  | zero => intro n h1 h2; omega
  | succ m ih =>
    intro n h1 h2
    rw [chkAll, Bool.and_eq_true] at h
    by_cases e : n = a + m
    · subst e; exact h.1
    · exact ih h.2 n h1 (by omega)
theorem long_ne (n i : Nat) (hn : n < 300) (hi : i < 256) : sumL (bL n i) ≠ sumL (bL n i ++ [UInt8.ofNat i]) := by
  refine chk_spec n (by omega) ?_ i hi
  by_cases h0 : n < 15
  · exact chkAll_spec 0 15 chk_0 n (by omega) (by omega)
  by_cases h15 : n < 30
  · exact chkAll_spec 15 15 chk_15 n (by omega) (by omega)
  by_cases h30 : n < 45
  · exact chkAll_spec 30 15 chk_30 n (by omega) (by omega)
  by_cases h45 : n < 60
  · exact chkAll_spec 45 15 chk_45 n (by omega) (by omega)
  by_cases h60 : n < 75
  · exact chkAll_spec 60 15 chk_60 n (by omega) (by omega)
  by_cases h75 : n < 90
  · exact chkAll_spec 75 15 chk_75 n (by omega) (by omega)
  by_cases h90 : n < 105
  · exact chkAll_spec 90 15 chk_90 n (by omega) (by omega)
  by_cases h105 : n < 120
  · exact chkAll_spec 105 15 chk_105 n (by omega) (by omega)
  by_cases h120 : n < 135
  · exact chkAll_spec 120 15 chk_120 n (by omega) (by omega)
  by_cases h135 : n < 150
  · exact chkAll_spec 135 15 chk_135 n (by omega) (by omega)
  by_cases h150 : n < 165
  · exact chkAll_spec 150 15 chk_150 n (by omega) (by omega)
  by_cases h165 : n < 180
  · exact chkAll_spec 165 15 chk_165 n (by omega) (by omega)
  by_cases h180 : n < 195
  · exact chkAll_spec 180 15 chk_180 n (by omega) (by omega)
  by_cases h195 : n < 210
  · exact chkAll_spec 195 15 chk_195 n (by omega) (by omega)
  by_cases h210 : n < 225
  · exact chkAll_spec 210 15 chk_210 n (by omega) (by omega)
  by_cases h225 : n < 240
  · exact chkAll_spec 225 15 chk_225 n (by omega) (by omega)
  by_cases h240 : n < 255
  · exact chkAll_spec 240 15 chk_240 n (by omega) (by omega)
  by_cases h255 : n < 270
  · exact chkAll_spec 255 15 chk_255 n (by omega) (by omega)
  by_cases h270 : n < 285
  · exact chkAll_spec 270 15 chk_270 n (by omega) (by omega)
  by_cases h285 : n < 300
  · exact chkAll_spec 285 15 chk_285 n (by omega) (by omega)
  omega
end Go.Proofs.Ytafkcmgfkecljaa
