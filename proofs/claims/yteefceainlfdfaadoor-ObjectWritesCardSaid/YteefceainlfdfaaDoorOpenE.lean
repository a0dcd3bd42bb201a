
/- Entries, and a commit, that come in, opened. -/
import Derived.Test.YteefceainlfdfaaDoorObj8
import Derived.Test.YteefceainlfdfaaDoorOpen
import Derived.OpenShut
namespace Go.Proofs.YteefceainlfdfaaDoor
set_option linter.unusedSimpArgs false
set_option linter.unusedVariables false
set_option maxRecDepth 100000
open Go.ChangeShapes Go.WideShapes Go.ChangeAt Go.RowKit

section
variable {H : Type} {enc : TypeId × Value → H} {W : World}
theorem key_list {fuel : Nat} {cs : List Value} {y : DataW H × List MemPlace} (hf : DataW.trod enc Tryd.prog W 0 (fun _ => true) true fuel 38 cs = some y) : ∃ x : List UInt8, cs = bvs x ∧ x.length = 32 := by
  obtain ⟨xs, m, _, _, hlen, hl, hel⟩ := DataW.trod_array Tryd.underlying38 hf
  have hc1 : Tryd.prog.cellsOf 5 = 1 := by kernel_rfl
  have hc32 : Tryd.prog.cellsOf 38 = 32 := by kernel_rfl
  rw [hc32] at hlen
  have hcs : ∀ i, i < 32 → ∃ b : UInt8, cs[i]? = some (bv b) := by
    intro i hi
    have he := hel i hi
    rw [hc1, Nat.mul_one] at he
    have hx : i < xs.length := by omega
    rw [List.getElem?_eq_getElem hx] at he
    obtain ⟨a, ea, _, wa⟩ := DataW.trod_int Tryd.underlying5 he
    have hb := bounds_u8 wa
    refine ⟨UInt8.ofNat a.toNat, ?_⟩
    have h0 : (cs.drop i)[0]? = some (.int .u8 a) := by
      have : ((cs.drop i).take 1)[0]? = some (.int .u8 a) := by rw [ea]; rfl
      simpa [List.getElem?_take] using this
    rw [List.getElem?_drop] at h0
    rw [Nat.add_zero] at h0
    rw [h0]
    unfold bv
    rw [UInt8.toNat_ofNat']
    congr 2
    omega
  have key : ∀ (l : List Value), (∀ i, i < l.length → ∃ b : UInt8, l[i]? = some (bv b)) → ∃ x, l = bvs x := by
    intro l
    induction l with
    | nil => intro _; exact ⟨[], rfl⟩
    | cons v l ih =>
      intro h
      obtain ⟨b, hb⟩ := h 0 (by simp)
      obtain ⟨x, hx⟩ := ih (fun i hi => h (i + 1) (by simpa using hi))
      refine ⟨b :: x, ?_⟩
      simp at hb
      rw [hb, hx]; rfl
  obtain ⟨x, hx⟩ := key cs (fun i hi => hcs i (by omega))
  refine ⟨x, hx, ?_⟩
  rw [hx] at hlen
  simpa [bvs] using hlen
theorem open_entries {base : Nat} {v : Value} {d : DataW H} {ps : List MemPlace} (hval : Value.okWide Tryd.prog W .any base 36 v)
    (h : DataW.Trod enc Tryd.prog W 0 (fun _ => true) true 36 v d ps) : ∃ (a : Option Addr) (c : Nat) (xs : List Ent), v = .slice a xs.length c ∧ Vw W a xs.length c 34 (xs.flatMap entV) := by
  obtain ⟨a, c, xs, h1, h2, _, _⟩ := open_list entV (fun _ => True) 36 44 34 Tryd.underlying36 (by kernel_rfl) (by decide) entV_len (fun fuel cs y hl hy => by
    obtain ⟨xs, n, _, hx, _, hlen, hg⟩ := DataW.trod_struct Tryd.underlying44 hy
    match cs, hl with
    | c0 :: c1 :: rest, hl =>
      match xs, hlen with
      | [y0, y1, y2], _ =>
        have k0 : Tryd.prog.cellsOf 9 = 1 := by kernel_rfl
        have k1 : Tryd.prog.cellsOf 4 = 1 := by kernel_rfl
        have k2 : Tryd.prog.cellsOf 38 = 32 := by kernel_rfl
        have g0 : DataW.trod enc Tryd.prog W 0 (fun _ => true) true n 9 (((c0 :: c1 :: rest).drop 0).take (Tryd.prog.cellsOf 9)) = some y0 := hg 0 _ rfl
        have g1 : DataW.trod enc Tryd.prog W 0 (fun _ => true) true n 4 (((c0 :: c1 :: rest).drop 1).take (Tryd.prog.cellsOf 4)) = some y1 := hg 1 _ rfl
        have g2 : DataW.trod enc Tryd.prog W 0 (fun _ => true) true n 38 (((c0 :: c1 :: rest).drop 2).take (Tryd.prog.cellsOf 38)) = some y2 := hg 2 _ rfl
        rw [k0] at g0
        rw [k1] at g1
        rw [k2] at g2
        obtain ⟨s, e0, _⟩ := DataW.trod_string Tryd.underlying9 g0
        obtain ⟨b, e1, _⟩ := DataW.trod_bool Tryd.underlying4 g1
        obtain ⟨k, e2, hk⟩ := key_list g2
        simp at e0 e1
        simp only [List.drop_succ_cons, List.drop_zero] at e2
        rw [List.take_of_length_le (by simp at hl; omega)] at e2
        subst e0 e1 e2
        exact ⟨⟨s.data.toList, b, k, hk⟩, by simp [entV, sv, str_data], trivial⟩) hval h
  exact ⟨a, c, xs, h1, h2⟩
theorem split5 (cs : List Value) : cs = cs.take 1 ++ ((cs.drop 1).take 32 ++ ((cs.drop 33).take 32 ++ ((cs.drop 65).take 1 ++ cs.drop 66))) := by
  have h1 := List.take_append_drop 1 cs
  have h2 := List.take_append_drop 32 (cs.drop 1)
  have h3 := List.take_append_drop 32 (cs.drop 33)
  have h4 := List.take_append_drop 1 (cs.drop 65)
  rw [List.drop_drop] at h2 h3 h4
  rw [h4, h3, h2, h1]
theorem open_com {base : Nat} {v : Value} {d : DataW H} {ps : List MemPlace} (hval : Value.okWide Tryd.prog W .any base 41 v)
    (h : DataW.Trod enc Tryd.prog W 0 (fun _ => true) true 41 v d ps) : ∃ x : Com, v = .agg (comA x) := by
  have hv : ∃ cs : Array Value, v = .agg cs := by
    simp only [Value.okWide, Tryd.underlying41] at hval
    obtain ⟨cs, h1, h2, _⟩ := hval
    exact ⟨cs, h1⟩
  obtain ⟨cs, rfl⟩ := hv
  obtain ⟨fuel, hf⟩ := h
  simp only [Value.cells] at hf
  obtain ⟨xs, n, _, hx, hcl, hlen, hg⟩ := DataW.trod_struct Tryd.underlying41 hf
  have hc67 : Tryd.prog.cellsOf 41 = 67 := by kernel_rfl
  rw [hc67] at hcl
  match xs, hlen with
  | [y0, y1, y2, y3, y4], _ =>
    have k0 : Tryd.prog.cellsOf 9 = 1 := by kernel_rfl
    have k1 : Tryd.prog.cellsOf 4 = 1 := by kernel_rfl
    have k2 : Tryd.prog.cellsOf 38 = 32 := by kernel_rfl
    have k3 : Tryd.prog.cellsOf 39 = 1 := by kernel_rfl
    have g0 : DataW.trod enc Tryd.prog W 0 (fun _ => true) true n 4 ((cs.toList.drop 0).take (Tryd.prog.cellsOf 4)) = some y0 := hg 0 _ rfl
    have g1 : DataW.trod enc Tryd.prog W 0 (fun _ => true) true n 38 ((cs.toList.drop 1).take (Tryd.prog.cellsOf 38)) = some y1 := hg 1 _ rfl
    have g2 : DataW.trod enc Tryd.prog W 0 (fun _ => true) true n 38 ((cs.toList.drop 33).take (Tryd.prog.cellsOf 38)) = some y2 := hg 2 _ rfl
    have g3 : DataW.trod enc Tryd.prog W 0 (fun _ => true) true n 9 ((cs.toList.drop 65).take (Tryd.prog.cellsOf 9)) = some y3 := hg 3 _ rfl
    have g4 : DataW.trod enc Tryd.prog W 0 (fun _ => true) true n 39 ((cs.toList.drop 66).take (Tryd.prog.cellsOf 39)) = some y4 := hg 4 _ rfl
    rw [k1] at g0
    rw [k2] at g1 g2
    rw [k0] at g3
    rw [k3] at g4
    obtain ⟨b, e0, _⟩ := DataW.trod_bool Tryd.underlying4 g0
    obtain ⟨p, e1, hp⟩ := key_list g1
    obtain ⟨t, e2, ht⟩ := key_list g2
    obtain ⟨s, e3, _⟩ := DataW.trod_string Tryd.underlying9 g3
    obtain ⟨n4, e4, _, w4⟩ := DataW.trod_int Tryd.underlying39 g4
    have hb := bounds_u64 w4
    rw [List.drop_zero] at e0
    have e4' : cs.toList.drop 66 = [.int .u64 n4] := by
      rw [← e4, List.take_of_length_le]
      rw [List.length_drop]; omega
    have hs := split5 cs.toList
    rw [e0, e1, e2, e3, e4'] at hs
    refine ⟨⟨b, p, t, s.data.toList, n4, hp, ht, by omega, by omega⟩, ?_⟩
    have : cs = (cs.toList).toArray := by simp
    rw [this, hs]
    simp [comA, comV, sv, str_data]
end
end Go.Proofs.YteefceainlfdfaaDoor
