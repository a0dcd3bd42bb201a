
/- What MetalogPlays computes. -/
import Derived.Test.YtccejkikphpnfaaGreatDoorQ51
namespace Go.Proofs.YtccejkikphpnfaaGreatDoor
set_option linter.unusedSimpArgs false
set_option linter.unusedVariables false
set_option maxRecDepth 100000
open Go.ChangeShapes Go.WideShapes Go.ChangeAt Go.RowKit
theorem bulk_append {H : Type} (l r : List (DataW H)) : Rows.uptoBulkAll (l ++ r) = Rows.uptoBulkAll l + Rows.uptoBulkAll r := by
 induction l with
 | nil => simp [Rows.uptoBulkAll]
 | cons x l ih => simp only [List.cons_append, Rows.uptoBulkAll, ih]; omega
theorem bulk_one {H : Type} (d : DataW H) : 1 ≤ Rows.uptoBulk d := by
 cases d with
 | lit l => cases l <;> simp [Rows.uptoBulk]
 | nil => simp [Rows.uptoBulk]
 | ptr d => simp [Rows.uptoBulk]
 | slice elems spare => simp [Rows.uptoBulk]
 | agg parts => simp [Rows.uptoBulk]
 | iface t d => simp [Rows.uptoBulk]
 | map entries => simp [Rows.uptoBulk]
 | held h => simp [Rows.uptoBulk]
section
variable {H : Type} {enc : TypeId × Value → H} {W : World}
theorem open_elemsB {X : Type} (dec : X → List Value) (good : X → Prop) (f : X → List UInt8) (t e : TypeId) (k : Nat) (ht : Tryz.prog.underlying t = some (.slice e)) (hk : Tryz.prog.cellsOf e = k) (h0 : 0 < k) (hl : ∀ x, (dec x).length = k)
  (hdec : ∀ fuel cs y, cs.length = k → DataW.trod enc Tryz.prog W 0 (fun _ => true) true fuel e cs = some y → ∃ x, cs = dec x ∧ good x ∧ (f x).length ≤ 16 * Rows.uptoBulk y.1)
  {fuel : Nat} {cs : List Value} {y : DataW H × List MemPlace} (h : DataW.trod enc Tryz.prog W 0 (fun _ => true) true fuel t cs = some y) :
  ∃ (a : Option Addr) (c : Nat) (xs : List X), cs = [.slice a xs.length c] ∧ Vw W a xs.length c k (xs.flatMap dec) ∧ (∀ x ∈ xs, good x) ∧ (xs.flatMap f).length ≤ 16 * Rows.uptoBulk y.1 := by
 subst hk
 rcases DataW.trod_slice ht h with ⟨rfl, rfl⟩ | ⟨a, len, cap, elems, rest, n, _, rfl, rfl, hb, hlc, hm, hlen, hel, hsp, hns⟩
 ·exact ⟨none, 0, [], rfl, Vw.nl _ _, (fun x hx => by cases hx), by simp⟩
 ·have each : ∀ i, (hi : i < elems.length) → ∃ cs x, W.cells? 0 (a.add (i * Tryz.prog.cellsOf e)) (Tryz.prog.cellsOf e) = some cs ∧ cs = dec x ∧ good x ∧ (f x).length ≤ 16 * Rows.uptoBulk elems[i].1 := by
   intro i hi
   have h1 := hel i (by omega)
   rw [List.getElem?_eq_getElem hi] at h1
   obtain ⟨cs, hcs, htr⟩ := Option.bind_eq_some_iff.1 h1
   obtain ⟨x, hx, hg, hf⟩ := hdec n cs _ (cells?_get hcs).1 htr
   exact ⟨cs, x, hcs, hx, hg, hf⟩
  have all : ∀ m, m ≤ len → ∃ xs : List X, xs.length = m ∧ (∀ x ∈ xs, good x) ∧ (xs.flatMap f).length ≤ 16 * Rows.uptoBulkAll ((elems.take m).map (·.1)) ∧ ∀ i x, xs[i]? = some x → W.cells? 0 (a.add (i * Tryz.prog.cellsOf e)) (Tryz.prog.cellsOf e) = some (dec x) := by
   intro m
   induction m with
   | zero => intro _; exact ⟨[], rfl, (fun x hx => by cases hx), by simp, (fun i x hx => by simp at hx)⟩
   | succ m ih =>
    intro hm
    obtain ⟨xs, hx1, hx2, hx4, hx3⟩ := ih (by omega)
    obtain ⟨cs, x, hcs, rfl, hg, hf⟩ := each m (by omega)
    refine ⟨xs ++ [x], by simp [hx1], ?_, ?_, ?_⟩
    ·intro z hz
     rcases List.mem_append.1 hz with hz | hz
     ·exact hx2 z hz
     ·simp at hz; subst hz; exact hg
    ·rw [List.take_succ_eq_append_getElem (by omega), List.map_append, bulk_append, List.flatMap_append, List.length_append]
     simp only [List.flatMap_cons, List.flatMap_nil, List.append_nil, List.map_cons, List.map_nil, Rows.uptoBulkAll, Nat.add_zero]
     omega
    ·intro i z hz
     rcases Nat.lt_or_ge i xs.length with hi | hi
     ·rw [List.getElem?_append_left hi] at hz; exact hx3 i z hz
     ·rw [List.getElem?_append_right hi] at hz
      have : i = xs.length := by
       have := (List.getElem?_eq_some_iff.1 hz).1
       simp at this; omega
      subst this
      simp at hz
      subst hz
      rw [hx1]; exact hcs
  obtain ⟨xs, hx1, hx2, hx4, hx3⟩ := all len (Nat.le_refl _)
  have hcell : ∀ j u, (xs.flatMap dec)[j]? = some u → W.cell? (a.add j) = some u := by
   intro j u hu
   have hj : j = j / Tryz.prog.cellsOf e * Tryz.prog.cellsOf e + j % Tryz.prog.cellsOf e := by rw [Nat.mul_comm]; exact (Nat.div_add_mod _ _).symm
   have hr := Nat.mod_lt j h0
   rw [hj] at hu
   rw [flatMap_get dec _ hl xs _ _ hr] at hu
   obtain ⟨x, hx, hxu⟩ := Option.bind_eq_some_iff.1 hu
   have := (cells?_get (hx3 _ x hx)).2 _ hr
   rw [Addr.add_add, ← hj] at this
   rw [this]; exact hxu
  refine ⟨some a, cap, xs, by rw [hx1], ⟨by rw [flatMap_length dec _ hl], by omega, hm, (fun h => by cases h), (fun z hz => by cases hz; exact hcell)⟩, hx2, ?_⟩
  rw [List.take_of_length_le (by omega)] at hx4
  simp only [Rows.uptoBulk]
  omega
theorem key_list {fuel : Nat} {cs : List Value} {y : DataW H × List MemPlace} (hf : DataW.trod enc Tryz.prog W 0 (fun _ => true) true fuel 52 cs = some y) : ∃ x : List UInt8, cs = bvs x ∧ x.length = 32 := by
 obtain ⟨xs, m, _, _, hlen, hl, hel⟩ := DataW.trod_array Tryz.underlying52 hf
 have hc1 : Tryz.prog.cellsOf 5 = 1 := by kernel_rfl
 have hc32 : Tryz.prog.cellsOf 52 = 32 := by kernel_rfl
 rw [hc32] at hlen
 have hcs : ∀ i, i < 32 → ∃ b : UInt8, cs[i]? = some (bv b) := by
  intro i hi
  have he := hel i hi
  rw [hc1, Nat.mul_one] at he
  have hx : i < xs.length := by omega
  rw [List.getElem?_eq_getElem hx] at he
  obtain ⟨a, ea, _, wa⟩ := DataW.trod_int Tryz.underlying5 he
  have hb := bounds_u8 wa
  refine ⟨UInt8.ofNat a.toNat, ?_⟩
  have h0 : (cs.drop i)[0]? = some (.int .u8 a) := by
   have : ((cs.drop i).take 1)[0]? = some (.int .u8 a) := by rw [ea]; rfl
   simpa [List.getElem?_take] using this
  rw [List.getElem?_drop] at h0
  rw [Nat.add_zero] at h0
  rw [h0]
  unfold bv
  rw [UInt8.toNat_ofNat']
  congr 2
  omega
 have key : ∀ (l : List Value), (∀ i, i < l.length → ∃ b : UInt8, l[i]? = some (bv b)) → ∃ x, l = bvs x := by
  intro l
  induction l with
  | nil => intro _; exact ⟨[], rfl⟩
  | cons v l ih =>
   intro h
   obtain ⟨b, hb⟩ := h 0 (by simp)
   obtain ⟨x, hx⟩ := ih (fun i hi => h (i + 1) (by simpa using hi))
   refine ⟨b :: x, ?_⟩
   simp at hb
   rw [hb, hx]; rfl
 obtain ⟨x, hx⟩ := key cs (fun i hi => hcs i (by omega))
 refine ⟨x, hx, ?_⟩
 rw [hx] at hlen
 simpa [bvs] using hlen
theorem flat_iv : ∀ (l : List Int), l.flatMap (fun x => [iv x]) = l.map iv
 | [] => rfl
 | x :: l => by rw [List.flatMap_cons, flat_iv l, List.map_cons]; rfl
theorem open_ints {fuel : Nat} {cs : List Value} {y : DataW H × List MemPlace} (hy : DataW.trod enc Tryz.prog W 0 (fun _ => true) true fuel 49 cs = some y) :
  ∃ (a : Option Addr) (c : Nat) (xs : List Int), cs = [.slice a xs.length c] ∧ Vw W a xs.length c 1 (xs.map iv) := by
 obtain ⟨a, c, xs, h1, h2, _, _⟩ := open_elemsB (fun x => [iv x]) (fun _ => True) (fun _ => []) 49 3 1 Tryz.underlying49 (by kernel_rfl) (by decide) (fun _ => rfl) (fun fuel cs y hl hy => by
  obtain ⟨n, e, _, _⟩ := DataW.trod_int Tryz.underlying3 hy
  exact ⟨n, e, trivial, by simp⟩) hy
 rw [flat_iv] at h2
 exact ⟨a, c, xs, h1, h2⟩
theorem open_kys {fuel : Nat} {cs : List Value} {y : DataW H × List MemPlace} (hy : DataW.trod enc Tryz.prog W 0 (fun _ => true) true fuel 22 cs = some y) :
  ∃ (a : Option Addr) (c : Nat) (xs : List Ky), cs = [.slice a xs.length c] ∧ Vw W a xs.length c 32 (xs.flatMap kyV) := by
 obtain ⟨a, c, xs, h1, h2, _, _⟩ := open_elemsB kyV (fun _ => True) (fun _ => []) 22 52 32 Tryz.underlying22 (by kernel_rfl) (by decide) kyV_len (fun fuel cs y hl hy => by
  obtain ⟨x, e, hx⟩ := key_list hy
  exact ⟨⟨x, hx⟩, e, trivial, by simp⟩) hy
 exact ⟨a, c, xs, h1, h2⟩
theorem open_mkE {fuel : Nat} {cs : List Value} {y : DataW H × List MemPlace} (hl : cs.length = 2) (hy : DataW.trod enc Tryz.prog W 0 (fun _ => true) true fuel 77 cs = some y) :
  ∃ x : Mk, cs = mkV x ∧ MkIn W x ∧ ((fun _ => []) x : List UInt8).length ≤ 16 * Rows.uptoBulk y.1 := by
 obtain ⟨xs, n, _, hx, _, hlen, hg⟩ := DataW.trod_struct Tryz.underlying77 hy
 match cs, hl with
 | [c0, c1], _ =>
  match xs, hlen with
  | [y0, y1], _ =>
   have k0 : Tryz.prog.cellsOf 3 = 1 := by kernel_rfl
   have k1 : Tryz.prog.cellsOf 49 = 1 := by kernel_rfl
   have g0 : DataW.trod enc Tryz.prog W 0 (fun _ => true) true n 3 (([c0, c1].drop 0).take (Tryz.prog.cellsOf 3)) = some y0 := hg 0 _ rfl
   have g1 : DataW.trod enc Tryz.prog W 0 (fun _ => true) true n 49 (([c0, c1].drop 1).take (Tryz.prog.cellsOf 49)) = some y1 := hg 1 _ rfl
   rw [k0] at g0
   rw [k1] at g1
   obtain ⟨n0, e0, f0, _⟩ := DataW.trod_int Tryz.underlying3 g0
   obtain ⟨a1, q1, x1, e1, v1⟩ := open_ints g1
   simp at e0 e1
   subst e0 e1
   exact ⟨⟨n0, x1, a1, q1⟩, rfl, v1, by simp⟩
theorem open_nmE {fuel : Nat} {cs : List Value} {y : DataW H × List MemPlace} (hl : cs.length = 2) (hy : DataW.trod enc Tryz.prog W 0 (fun _ => true) true fuel 92 cs = some y) :
  ∃ x : Nm, cs = nmV x ∧ x.name.length ≤ maxLen ∧ ((fun _ => []) x : List UInt8).length ≤ 16 * Rows.uptoBulk y.1 := by
 obtain ⟨xs, n, _, hx, _, hlen, hg⟩ := DataW.trod_struct Tryz.underlying92 hy
 match cs, hl with
 | [c0, c1], _ =>
  match xs, hlen with
  | [y0, y1], _ =>
   have k0 : Tryz.prog.cellsOf 9 = 1 := by kernel_rfl
   have k1 : Tryz.prog.cellsOf 3 = 1 := by kernel_rfl
   have g0 : DataW.trod enc Tryz.prog W 0 (fun _ => true) true n 9 (([c0, c1].drop 0).take (Tryz.prog.cellsOf 9)) = some y0 := hg 0 _ rfl
   have g1 : DataW.trod enc Tryz.prog W 0 (fun _ => true) true n 3 (([c0, c1].drop 1).take (Tryz.prog.cellsOf 3)) = some y1 := hg 1 _ rfl
   rw [k0] at g0
   rw [k1] at g1
   obtain ⟨s0, e0, f0, l0⟩ := DataW.trod_string Tryz.underlying9 g0
   obtain ⟨n1, e1, f1, _⟩ := DataW.trod_int Tryz.underlying3 g1
   simp at e0 e1
   subst e0 e1
   exact ⟨⟨s0.data.toList, n1⟩, by simp [nmV, sv, str_data], by rw [Array.length_toList]; exact l0, by simp⟩
theorem open_flE {fuel : Nat} {cs : List Value} {y : DataW H × List MemPlace} (hl : cs.length = 3) (hy : DataW.trod enc Tryz.prog W 0 (fun _ => true) true fuel 103 cs = some y) :
  ∃ x : Fl, cs = flV x ∧ (x.path.length ≤ maxLen ∧ x.text.length ≤ maxLen) ∧ (encF x).length ≤ 16 * Rows.uptoBulk y.1 := by
 obtain ⟨xs, n, _, hx, _, hlen, hg⟩ := DataW.trod_struct Tryz.underlying103 hy
 match cs, hl with
 | [c0, c1, c2], _ =>
  match xs, hlen with
  | [y0, y1, y2], _ =>
   have k0 : Tryz.prog.cellsOf 9 = 1 := by kernel_rfl
   have k1 : Tryz.prog.cellsOf 4 = 1 := by kernel_rfl
   have k2 : Tryz.prog.cellsOf 9 = 1 := by kernel_rfl
   have g0 : DataW.trod enc Tryz.prog W 0 (fun _ => true) true n 9 (([c0, c1, c2].drop 0).take (Tryz.prog.cellsOf 9)) = some y0 := hg 0 _ rfl
   have g1 : DataW.trod enc Tryz.prog W 0 (fun _ => true) true n 4 (([c0, c1, c2].drop 1).take (Tryz.prog.cellsOf 4)) = some y1 := hg 1 _ rfl
   have g2 : DataW.trod enc Tryz.prog W 0 (fun _ => true) true n 9 (([c0, c1, c2].drop 2).take (Tryz.prog.cellsOf 9)) = some y2 := hg 2 _ rfl
   rw [k0] at g0
   rw [k1] at g1
   rw [k2] at g2
   obtain ⟨s0, e0, f0, l0⟩ := DataW.trod_string Tryz.underlying9 g0
   obtain ⟨b1, e1, f1⟩ := DataW.trod_bool Tryz.underlying4 g1
   obtain ⟨s2, e2, f2, l2⟩ := DataW.trod_string Tryz.underlying9 g2
   simp at e0 e1 e2
   subst e0 e1 e2
   refine ⟨⟨s0.data.toList, b1, s2.data.toList⟩, by simp [flV, sv, str_data], ⟨by rw [Array.length_toList]; exact l0, by rw [Array.length_toList]; exact l2⟩, ?_⟩
   rw [hx, f0, f1, f2, encF_len]
   simp only [List.map_cons, List.map_nil, Rows.uptoBulk, Rows.uptoBulkAll]
   omega
theorem open_fls {fuel : Nat} {cs : List Value} {y : DataW H × List MemPlace} (hy : DataW.trod enc Tryz.prog W 0 (fun _ => true) true fuel 78 cs = some y) :
  ∃ (a : Option Addr) (c : Nat) (xs : List Fl), cs = [.slice a xs.length c] ∧ Vw W a xs.length c 3 (xs.flatMap flV) ∧ (∀ x ∈ xs, x.path.length ≤ maxLen ∧ x.text.length ≤ maxLen) ∧ (xs.flatMap encF).length ≤ 16 * Rows.uptoBulk y.1 :=
 open_elemsB flV (fun x => x.path.length ≤ maxLen ∧ x.text.length ≤ maxLen) encF 78 103 3 Tryz.underlying78 (by kernel_rfl) (by decide) (fun _ => rfl) (fun fuel cs y hl hy => open_flE hl hy) hy
theorem open_stE {fuel : Nat} {cs : List Value} {y : DataW H × List MemPlace} (hl : cs.length = 2) (hy : DataW.trod enc Tryz.prog W 0 (fun _ => true) true fuel 80 cs = some y) :
  ∃ x : St, cs = stV x ∧ StIn W x ∧ (stB x).length ≤ 16 * Rows.uptoBulk y.1 := by
 obtain ⟨xs, n, _, hx, _, hlen, hg⟩ := DataW.trod_struct Tryz.underlying80 hy
 match cs, hl with
 | [c0, c1], _ =>
  match xs, hlen with
  | [y0, y1], _ =>
   have k0 : Tryz.prog.cellsOf 3 = 1 := by kernel_rfl
   have k1 : Tryz.prog.cellsOf 78 = 1 := by kernel_rfl
   have g0 : DataW.trod enc Tryz.prog W 0 (fun _ => true) true n 3 (([c0, c1].drop 0).take (Tryz.prog.cellsOf 3)) = some y0 := hg 0 _ rfl
   have g1 : DataW.trod enc Tryz.prog W 0 (fun _ => true) true n 78 (([c0, c1].drop 1).take (Tryz.prog.cellsOf 78)) = some y1 := hg 1 _ rfl
   rw [k0] at g0
   rw [k1] at g1
   obtain ⟨n0, e0, f0, _⟩ := DataW.trod_int Tryz.underlying3 g0
   obtain ⟨a1, q1, x1, e1, v1, o1, z1⟩ := open_fls g1
   simp at e0 e1
   subst e0 e1
   refine ⟨⟨n0, x1, a1, q1⟩, rfl, ⟨v1, fun x hx => (o1 x hx).1, fun x hx => (o1 x hx).2⟩, ?_⟩
   rw [hx, stB_len, f0]
   unfold flsB
   rw [List.length_append, i4_length]
   have h1 := bulk_one y1.1
   simp only [List.map_cons, List.map_nil, Rows.uptoBulk, Rows.uptoBulkAll]
   omega
theorem open_clE {fuel : Nat} {cs : List Value} {y : DataW H × List MemPlace} (hl : cs.length = 3) (hy : DataW.trod enc Tryz.prog W 0 (fun _ => true) true fuel 100 cs = some y) :
  ∃ x : Cl, cs = clV x ∧ True ∧ (clB x).length ≤ 16 * Rows.uptoBulk y.1 := by
 obtain ⟨xs, n, _, hx, _, hlen, hg⟩ := DataW.trod_struct Tryz.underlying100 hy
 match cs, hl with
 | [c0, c1, c2], _ =>
  match xs, hlen with
  | [y0, y1, y2], _ =>
   have k0 : Tryz.prog.cellsOf 9 = 1 := by kernel_rfl
   have k1 : Tryz.prog.cellsOf 3 = 1 := by kernel_rfl
   have k2 : Tryz.prog.cellsOf 9 = 1 := by kernel_rfl
   have g0 : DataW.trod enc Tryz.prog W 0 (fun _ => true) true n 9 (([c0, c1, c2].drop 0).take (Tryz.prog.cellsOf 9)) = some y0 := hg 0 _ rfl
   have g1 : DataW.trod enc Tryz.prog W 0 (fun _ => true) true n 3 (([c0, c1, c2].drop 1).take (Tryz.prog.cellsOf 3)) = some y1 := hg 1 _ rfl
   have g2 : DataW.trod enc Tryz.prog W 0 (fun _ => true) true n 9 (([c0, c1, c2].drop 2).take (Tryz.prog.cellsOf 9)) = some y2 := hg 2 _ rfl
   rw [k0] at g0
   rw [k1] at g1
   rw [k2] at g2
   obtain ⟨s0, e0, f0, l0⟩ := DataW.trod_string Tryz.underlying9 g0
   obtain ⟨n1, e1, f1, _⟩ := DataW.trod_int Tryz.underlying3 g1
   obtain ⟨s2, e2, f2, l2⟩ := DataW.trod_string Tryz.underlying9 g2
   simp at e0 e1 e2
   subst e0 e1 e2
   refine ⟨⟨s0.data.toList, n1, s2.data.toList⟩, by simp [clV, sv, str_data], trivial, ?_⟩
   rw [hx, f0, f1, f2, clB_len]
   simp only [List.map_cons, List.map_nil, Rows.uptoBulk, Rows.uptoBulkAll]
   omega
theorem open_rtE {fuel : Nat} {cs : List Value} {y : DataW H × List MemPlace} (hl : cs.length = 5) (hy : DataW.trod enc Tryz.prog W 0 (fun _ => true) true fuel 26 cs = some y) :
  ∃ x : Rt, cs = (rtA x).toList ∧ RtIn W x ∧ True := by
 obtain ⟨xs, n, _, hx, _, hlen, hg⟩ := DataW.trod_struct Tryz.underlying26 hy
 match cs, hl with
 | [c0, c1, c2, c3, c4], _ =>
  match xs, hlen with
  | [y0, y1, y2, y3, y4], _ =>
   have k0 : Tryz.prog.cellsOf 3 = 1 := by kernel_rfl
   have k1 : Tryz.prog.cellsOf 22 = 1 := by kernel_rfl
   have k2 : Tryz.prog.cellsOf 23 = 1 := by kernel_rfl
   have k3 : Tryz.prog.cellsOf 24 = 1 := by kernel_rfl
   have k4 : Tryz.prog.cellsOf 3 = 1 := by kernel_rfl
   have g0 : DataW.trod enc Tryz.prog W 0 (fun _ => true) true n 3 (([c0, c1, c2, c3, c4].drop 0).take (Tryz.prog.cellsOf 3)) = some y0 := hg 0 _ rfl
   have g1 : DataW.trod enc Tryz.prog W 0 (fun _ => true) true n 22 (([c0, c1, c2, c3, c4].drop 1).take (Tryz.prog.cellsOf 22)) = some y1 := hg 1 _ rfl
   have g2 : DataW.trod enc Tryz.prog W 0 (fun _ => true) true n 23 (([c0, c1, c2, c3, c4].drop 2).take (Tryz.prog.cellsOf 23)) = some y2 := hg 2 _ rfl
   have g3 : DataW.trod enc Tryz.prog W 0 (fun _ => true) true n 24 (([c0, c1, c2, c3, c4].drop 3).take (Tryz.prog.cellsOf 24)) = some y3 := hg 3 _ rfl
   have g4 : DataW.trod enc Tryz.prog W 0 (fun _ => true) true n 3 (([c0, c1, c2, c3, c4].drop 4).take (Tryz.prog.cellsOf 3)) = some y4 := hg 4 _ rfl
   rw [k0] at g0
   rw [k1] at g1
   rw [k2] at g2
   rw [k3] at g3
   rw [k4] at g4
   obtain ⟨n0, e0, f0, _⟩ := DataW.trod_int Tryz.underlying3 g0
   obtain ⟨a1, q1, x1, e1, v1⟩ := open_kys g1
   obtain ⟨a2, q2, x2, e2, v2, o2, z2⟩ := open_elemsB (mkV) (MkIn W) (fun _ => []) 23 77 2 Tryz.underlying23 (by kernel_rfl) (by decide) ((fun _ => rfl)) (fun fuel cs y hl hy => open_mkE hl hy) g2
   obtain ⟨a3, q3, x3, e3, v3, o3, z3⟩ := open_elemsB (nmV) (fun x => x.name.length ≤ maxLen) (fun _ => []) 24 92 2 Tryz.underlying24 (by kernel_rfl) (by decide) ((fun _ => rfl)) (fun fuel cs y hl hy => open_nmE hl hy) g3
   obtain ⟨n4, e4, f4, _⟩ := DataW.trod_int Tryz.underlying3 g4
   simp at e0 e1 e2 e3 e4
   subst e0 e1 e2 e3 e4
   exact ⟨⟨n0, a1, q1, x1, a2, q2, x2, a3, q3, x3, n4⟩, rfl, ⟨v1, v2, o2, v3, o3⟩, trivial⟩
theorem open_wtE {fuel : Nat} {cs : List Value} {y : DataW H × List MemPlace} (hl : cs.length = 7) (hy : DataW.trod enc Tryz.prog W 0 (fun _ => true) true fuel 30 cs = some y) :
  ∃ x : Wt, cs = (wtA x).toList ∧ WtIn W x ∧ (waitG x).length ≤ 22 + 16 * Rows.uptoBulk y.1 := by
 obtain ⟨xs, n, _, hx, _, hlen, hg⟩ := DataW.trod_struct Tryz.underlying30 hy
 match cs, hl with
 | [c0, c1, c2, c3, c4, c5, c6], _ =>
  match xs, hlen with
  | [y0, y1, y2, y3, y4, y5, y6], _ =>
   have k0 : Tryz.prog.cellsOf 4 = 1 := by kernel_rfl
   have k1 : Tryz.prog.cellsOf 4 = 1 := by kernel_rfl
   have k2 : Tryz.prog.cellsOf 3 = 1 := by kernel_rfl
   have k3 : Tryz.prog.cellsOf 3 = 1 := by kernel_rfl
   have k4 : Tryz.prog.cellsOf 27 = 1 := by kernel_rfl
   have k5 : Tryz.prog.cellsOf 3 = 1 := by kernel_rfl
   have k6 : Tryz.prog.cellsOf 28 = 1 := by kernel_rfl
   have g0 : DataW.trod enc Tryz.prog W 0 (fun _ => true) true n 4 (([c0, c1, c2, c3, c4, c5, c6].drop 0).take (Tryz.prog.cellsOf 4)) = some y0 := hg 0 _ rfl
   have g1 : DataW.trod enc Tryz.prog W 0 (fun _ => true) true n 4 (([c0, c1, c2, c3, c4, c5, c6].drop 1).take (Tryz.prog.cellsOf 4)) = some y1 := hg 1 _ rfl
   have g2 : DataW.trod enc Tryz.prog W 0 (fun _ => true) true n 3 (([c0, c1, c2, c3, c4, c5, c6].drop 2).take (Tryz.prog.cellsOf 3)) = some y2 := hg 2 _ rfl
   have g3 : DataW.trod enc Tryz.prog W 0 (fun _ => true) true n 3 (([c0, c1, c2, c3, c4, c5, c6].drop 3).take (Tryz.prog.cellsOf 3)) = some y3 := hg 3 _ rfl
   have g4 : DataW.trod enc Tryz.prog W 0 (fun _ => true) true n 27 (([c0, c1, c2, c3, c4, c5, c6].drop 4).take (Tryz.prog.cellsOf 27)) = some y4 := hg 4 _ rfl
   have g5 : DataW.trod enc Tryz.prog W 0 (fun _ => true) true n 3 (([c0, c1, c2, c3, c4, c5, c6].drop 5).take (Tryz.prog.cellsOf 3)) = some y5 := hg 5 _ rfl
   have g6 : DataW.trod enc Tryz.prog W 0 (fun _ => true) true n 28 (([c0, c1, c2, c3, c4, c5, c6].drop 6).take (Tryz.prog.cellsOf 28)) = some y6 := hg 6 _ rfl
   rw [k0] at g0
   rw [k1] at g1
   rw [k2] at g2
   rw [k3] at g3
   rw [k4] at g4
   rw [k5] at g5
   rw [k6] at g6
   obtain ⟨b0, e0, f0⟩ := DataW.trod_bool Tryz.underlying4 g0
   obtain ⟨b1, e1, f1⟩ := DataW.trod_bool Tryz.underlying4 g1
   obtain ⟨n2, e2, f2, _⟩ := DataW.trod_int Tryz.underlying3 g2
   obtain ⟨n3, e3, f3, _⟩ := DataW.trod_int Tryz.underlying3 g3
   obtain ⟨a4, q4, x4, e4, v4, o4, z4⟩ := open_elemsB (stV) (StIn W) (stB) 27 80 2 Tryz.underlying27 (by kernel_rfl) (by decide) ((fun _ => rfl)) (fun fuel cs y hl hy => open_stE hl hy) g4
   obtain ⟨n5, e5, f5, _⟩ := DataW.trod_int Tryz.underlying3 g5
   obtain ⟨a6, q6, x6, e6, v6, o6, z6⟩ := open_elemsB (clV) (fun _ => True) (clB) 28 100 3 Tryz.underlying28 (by kernel_rfl) (by decide) ((fun _ => rfl)) (fun fuel cs y hl hy => open_clE hl hy) g6
   simp at e0 e1 e2 e3 e4 e5 e6
   subst e0 e1 e2 e3 e4 e5 e6
   refine ⟨⟨b0, b1, n2, n3, a4, q4, x4, n5, a6, q6, x6⟩, rfl, ⟨v4, o4, v6⟩, ?_⟩
   rw [hx, waitG_len]
   dsimp only
   simp only [List.map_cons, List.map_nil, Rows.uptoBulk, Rows.uptoBulkAll]
   omega
end
section
variable {H : Type} {enc : TypeId × Value → H} {W : World}
theorem flat_bv : ∀ (l : List UInt8), l.flatMap (fun b => [bv b]) = bvs l
 | [] => rfl
 | x :: l => by rw [List.flatMap_cons, flat_bv l]; rfl
theorem open_byE {fuel : Nat} {cs : List Value} {y : DataW H × List MemPlace} (hf : DataW.trod enc Tryz.prog W 0 (fun _ => true) true fuel 33 cs = some y) :
  ∃ (a : Option Addr) (c : Nat) (l : List UInt8), cs = [.slice a l.length c] ∧ Vw W a l.length c 1 (bvs l) := by
 obtain ⟨a, c, l, h1, h2, _, _⟩ := open_elemsB (fun b : UInt8 => [bv b]) (fun _ => True) (fun _ => []) 33 5 1 Tryz.underlying33 (by kernel_rfl) (by decide) (fun _ => rfl) (fun fuel cs y hl hy => by
  obtain ⟨n, e, _, wz⟩ := DataW.trod_int Tryz.underlying5 hy
  have hb := bounds_u8 wz
  refine ⟨UInt8.ofNat n.toNat, ?_, trivial, by simp⟩
  rw [e]
  unfold bv
  rw [UInt8.toNat_ofNat']
  congr 2
  omega) hf
 rw [flat_bv] at h2
 exact ⟨a, c, l, h1, h2⟩
theorem open_opE {fuel : Nat} {cs : List Value} {y : DataW H × List MemPlace} (hl : cs.length = 17) (hy : DataW.trod enc Tryz.prog W 0 (fun _ => true) true fuel 63 cs = some y) :
  ∃ x : Opx, cs = opV x ∧ OpIn W x ∧ (waitG x.p).length ≤ 16 * Rows.uptoBulk y.1 := by
 obtain ⟨xs, n, _, hx, _, hlen, hg⟩ := DataW.trod_struct Tryz.underlying63 hy
 match cs, hl with
 | [c0, c1, c2, c3, c4, c5, c6, c7, c8, c9, c10, c11, c12, c13, c14, c15, c16], _ =>
  match xs, hlen with
  | [y0, y1, y2, y3, y4, y5, y6], _ =>
   have k0 : Tryz.prog.cellsOf 3 = 1 := by kernel_rfl
   have k1 : Tryz.prog.cellsOf 4 = 1 := by kernel_rfl
   have k2 : Tryz.prog.cellsOf 26 = 5 := by kernel_rfl
   have k5 : Tryz.prog.cellsOf 30 = 7 := by kernel_rfl
   have k6 : Tryz.prog.cellsOf 33 = 1 := by kernel_rfl
   have g0 : DataW.trod enc Tryz.prog W 0 (fun _ => true) true n 3 (([c0, c1, c2, c3, c4, c5, c6, c7, c8, c9, c10, c11, c12, c13, c14, c15, c16].drop 0).take (Tryz.prog.cellsOf 3)) = some y0 := hg 0 _ rfl
   have g1 : DataW.trod enc Tryz.prog W 0 (fun _ => true) true n 4 (([c0, c1, c2, c3, c4, c5, c6, c7, c8, c9, c10, c11, c12, c13, c14, c15, c16].drop 1).take (Tryz.prog.cellsOf 4)) = some y1 := hg 1 _ rfl
   have g2 : DataW.trod enc Tryz.prog W 0 (fun _ => true) true n 26 (([c0, c1, c2, c3, c4, c5, c6, c7, c8, c9, c10, c11, c12, c13, c14, c15, c16].drop 2).take (Tryz.prog.cellsOf 26)) = some y2 := hg 2 _ rfl
   have g3 : DataW.trod enc Tryz.prog W 0 (fun _ => true) true n 3 (([c0, c1, c2, c3, c4, c5, c6, c7, c8, c9, c10, c11, c12, c13, c14, c15, c16].drop 7).take (Tryz.prog.cellsOf 3)) = some y3 := hg 3 _ rfl
   have g4 : DataW.trod enc Tryz.prog W 0 (fun _ => true) true n 4 (([c0, c1, c2, c3, c4, c5, c6, c7, c8, c9, c10, c11, c12, c13, c14, c15, c16].drop 8).take (Tryz.prog.cellsOf 4)) = some y4 := hg 4 _ rfl
   have g5 : DataW.trod enc Tryz.prog W 0 (fun _ => true) true n 30 (([c0, c1, c2, c3, c4, c5, c6, c7, c8, c9, c10, c11, c12, c13, c14, c15, c16].drop 9).take (Tryz.prog.cellsOf 30)) = some y5 := hg 5 _ rfl
   have g6 : DataW.trod enc Tryz.prog W 0 (fun _ => true) true n 33 (([c0, c1, c2, c3, c4, c5, c6, c7, c8, c9, c10, c11, c12, c13, c14, c15, c16].drop 16).take (Tryz.prog.cellsOf 33)) = some y6 := hg 6 _ rfl
   rw [k0] at g0 g3
   rw [k1] at g1 g4
   rw [k2] at g2
   rw [k5] at g5
   rw [k6] at g6
   obtain ⟨n0, e0, f0, _⟩ := DataW.trod_int Tryz.underlying3 g0
   obtain ⟨b1, e1, f1⟩ := DataW.trod_bool Tryz.underlying4 g1
   obtain ⟨r, e2, hr, _⟩ := open_rtE rfl g2
   obtain ⟨n3, e3, f3, _⟩ := DataW.trod_int Tryz.underlying3 g3
   obtain ⟨b4, e4, f4⟩ := DataW.trod_bool Tryz.underlying4 g4
   obtain ⟨p, e5, hp, hpl⟩ := open_wtE rfl g5
   obtain ⟨a6, q6, l6, e6, v6⟩ := open_byE g6
   simp only [rtA, List.drop_succ_cons, List.drop_zero, List.take_succ_cons, List.take_zero, List.cons.injEq, and_true] at e0 e1 e2 e3 e4 e6
   simp only [wtA, List.drop_succ_cons, List.drop_zero, List.take_succ_cons, List.take_zero, List.cons.injEq, and_true] at e5
   obtain ⟨rfl, rfl, rfl, rfl, rfl⟩ := e2
   obtain ⟨rfl, rfl, rfl, rfl, rfl, rfl, rfl⟩ := e5
   subst e0 e1 e3 e4 e6
   have b0 := bulk_one y0.1
   have b1' := bulk_one y1.1
   refine ⟨⟨n0, b1, r, n3, b4, p, l6, a6, q6⟩, rfl, ⟨hr, hp, v6⟩, ?_⟩
   rw [hx]
   simp only [List.map_cons, List.map_nil, Rows.uptoBulk, Rows.uptoBulkAll]
   omega
theorem flat_mem {X : Type} (f : X → List UInt8) : ∀ (l : List X) (x : X), x ∈ l → (f x).length ≤ (l.flatMap f).length
 | y :: l, x, h => by
  rw [List.flatMap_cons, List.length_append]
  rcases List.mem_cons.1 h with rfl | h
  ·omega
  ·have := flat_mem f l x h
   omega
def opW (x : Opx) : List UInt8 := waitG x.p
theorem open_ops {base : Nat} {v : Value} {d : DataW H} {ps : List MemPlace} (hval : Value.okWide Tryz.prog W .any base 59 v) (h : DataW.Trod enc Tryz.prog W 0 (fun _ => true) true 59 v d ps) :
  ∃ (a : Option Addr) (c : Nat) (xs : List Opx), v = .slice a xs.length c ∧ Vw W a xs.length c 17 (xs.flatMap opV) ∧ ∀ x ∈ xs, OpIn W x ∧ (waitG x.p).length ≤ 16 * Rows.uptoBulk d := by
 obtain ⟨a, len, cap, rfl⟩ := okWide_slice Tryz.underlying59 hval
 obtain ⟨fuel, hf⟩ := h
 have hE : ∀ (fuel : Nat) (cs : List Value) (y : DataW H × List MemPlace), cs.length = 17 → DataW.trod enc Tryz.prog W 0 (fun _ => true) true fuel 63 cs = some y → ∃ x : Opx, cs = opV x ∧ OpIn W x ∧ (opW x).length ≤ 16 * Rows.uptoBulk y.1 := fun fuel cs y hl hy => open_opE hl hy
 have hk : Tryz.prog.cellsOf 63 = 17 := by kernel_rfl
 obtain ⟨a', c', xs, hcs, hvw, hg, hlen⟩ := open_elemsB opV (OpIn W) opW 59 63 17 Tryz.underlying59 hk (by decide) opV_len hE hf
 simp [Value.cells] at hcs
 obtain ⟨rfl, rfl, rfl⟩ := hcs
 exact ⟨a, cap, xs, rfl, hvw, fun x hx => ⟨hg x hx, Nat.le_trans (flat_mem opW xs x hx) hlen⟩⟩
end
theorem MetalogPlays_walk (w : World) (a : Option Addr) (c : Nat) (ops : List Opx) (hv : Vw w a ops.length c 17 (ops.flatMap opV)) (ho : ∀ o ∈ ops, OpIn w o ∧ (waitG o.p).length ≤ 17000000) :
  Calls Tryz.prog 7 #[.slice a ops.length c] w fun e w' => e = .returned (.bool true) ∧ Below w.heap.size w w' :=
 (plays_walk w a c ops hv ho).mono fun e w' h => ⟨h.1, h.2.below (Nat.le_refl _) (fun _ _ h => h)⟩
end Go.Proofs.YtccejkikphpnfaaGreatDoor
