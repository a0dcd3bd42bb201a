
/- A list of texts of bytes that comes in, opened. -/
import Derived.Test.YteefceainlfdfaaCut1
import Derived.Test.YteefceainlfdfaaOpen
namespace Go.Proofs.Yteefceainlfdfaa
set_option linter.unusedSimpArgs false
set_option linter.unusedVariables false
open Go.ChangeShapes Go.WideShapes Go.ChangeAt Go.RowKit

theorem elem_bytes {H : Type} {enc : TypeId × Value → H} {W : World} {fuel : Nat} {cs : List Value} {y : DataW H × List MemPlace} (hf : DataW.trod enc Try.prog W 0 (fun _ => true) true fuel 22 cs = some y) :
    ∃ t : Tri, cs = [cellT t] ∧ Vw W t.1 t.2.2.length t.2.1 1 (bvs t.2.2) := by
  rcases open_ints Try.underlying22 Try.underlying5 (by kernel_rfl) hf with ⟨hcs, _⟩ | ⟨x, n, c, zs, hcs, _, hl, hm, hz, _, hcell, hwz⟩
  · exact ⟨(none, 0, []), hcs, Vw.nl _ _⟩
  · have hz' : zs.length = c := by simpa using hz
    have hle : (zs.take n).length = n := by rw [List.length_take]; omega
    have hll : ((zs.take n).map (fun z => UInt8.ofNat z.toNat)).length = n := by rw [List.length_map, hle]
    refine ⟨(some x, c, (zs.take n).map (fun z => UInt8.ofNat z.toNat)), by rw [hcs, cellT, hll], ?_⟩
    refine ⟨by rw [bvs_length]; simp, by simp only; rw [hll]; exact hl, hm, (fun h => by cases h), ?_⟩
    intro y hy j u hu
    cases hy
    have hj : j < n := by
      have := (List.getElem?_eq_some_iff.1 hu).1
      rw [bvs_length, hll] at this; exact this
    have hjz : j < zs.length := by omega
    have hc := hcell j hjz
    have hg : zs.getD j 0 = zs[j] := by simp [hjz]
    rw [hg] at hc
    have hb := bounds_u8 (hwz zs[j] (List.getElem_mem _))
    rw [hc]
    rw [← hu]
    simp only [bvs, bv, List.map_map, List.getElem?_map, List.getElem?_take, hj, if_true]
    rw [List.getElem?_eq_getElem hjz]
    have key : ∀ z : Int, 0 ≤ z → z ≤ 255 → z = (((UInt8.ofNat z.toNat).toNat : Nat) : Int) := by
      intro z h0 h1
      rw [UInt8.toNat_ofNat']
      omega
    simp only [Option.map_some, Function.comp, Option.some.injEq]
    exact congrArg (Value.int .u8) (key _ hb.1 hb.2)
theorem flat_cells (xs : List Tri) : xs.flatMap (fun t : Tri => [cellT t]) = xs.map cellT := by
  induction xs with
  | nil => rfl
  | cons x xs ih => rw [List.flatMap_cons, ih]; rfl
theorem open_bytesl {H : Type} {enc : TypeId × Value → H} {W : World} {base : Nat} {v : Value} {d : DataW H} {ps : List MemPlace} (hval : Value.okWide Try.prog W .any base 25 v)
    (h : DataW.Trod enc Try.prog W 0 (fun _ => true) true 25 v d ps) : ∃ (a : Option Addr) (c : Nat) (ts : List Tri), v = .slice a ts.length c ∧ Vw W a ts.length c 1 (ts.map cellT) ∧ (∀ t ∈ ts, Vw W t.1 t.2.2.length t.2.1 1 (bvs t.2.2)) := by
  obtain ⟨a, c, xs, h1, h2, h3, h4⟩ := open_list (fun t : Tri => [cellT t]) (fun t => Vw W t.1 t.2.2.length t.2.1 1 (bvs t.2.2)) 25 22 1 Try.underlying25 (by kernel_rfl) (by decide) (fun _ => rfl) (fun fuel cs y _ hf => elem_bytes hf) hval h
  refine ⟨a, c, xs, h1, ?_, h3⟩
  have e := flat_cells xs
  rw [e] at h2
  exact h2
end Go.Proofs.Yteefceainlfdfaa
