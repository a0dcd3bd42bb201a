
/- What the frames of the laws share: how arguments are opened, and that they read as before where nothing that was there has changed. -/
import Derived.Test.YtccejkikphpnfaaGreatDoorHelp
import Derived.Carry
import Derived.ChangeOld
namespace Go.Proofs.YtccejkikphpnfaaGreatDoor
set_option linter.unusedSimpArgs false
set_option linter.unusedVariables false
set_option maxRecDepth 100000
open Go.ChangeShapes Go.WideShapes Go.ChangeAt Go.RowKit

theorem Frame.own : ownKnob Tryz.prog.godebug = none := by kernel_rfl
theorem Frame.laidOut : laidOutB Tryz.prog = true := by kernel_rfl
theorem trodAll_below {H : Type} {enc : TypeId × Value → H} {P : Program} (hl : laidOutB P = true) {W W' : World} (hb : Below W.heap.size W W') :
    ∀ (ts : List TypeId) (vs : List Value) (ds : List (DataW H)) (ps : List MemPlace), (ts.all fun t => P.readableRec t && decide (t < P.types.size)) = true →
      DataW.TrodAll enc P W 0 (fun _ => true) true ts vs ds ps → DataW.TrodAll enc P W' 0 (fun b => decide (b < W.heap.size)) true ts vs ds ps := by
  intro ts
  induction ts with
  | nil =>
    intro vs ds ps _ h
    obtain ⟨rfl, rfl, rfl⟩ := trodAll_nil h
    exact trodAll_mk0
  | cons t ts ih =>
    intro vs ds ps hr h
    obtain ⟨v, vs', d, ds', p, p', rfl, rfl, rfl, h1, h2⟩ := trodAll_cons h
    simp only [List.all_cons, Bool.and_eq_true, decide_eq_true_eq] at hr
    have lt : ∀ x ∈ p, x.block < W.heap.size := by obtain ⟨m, hm⟩ := h1; exact DataW.trod_lt m _ _ _ hm
    exact trodAll_cons_mk (Below.trod hl hr.1.1 hr.1.2 h1 hb lt) (ih vs' ds' p' (by simpa [List.all_eq_true] using hr.2) h2)

/-- Bytes that come in. -/
theorem open_bytes {H : Type} {enc : TypeId × Value → H} {W : World} {base : Nat} {v : Value} {d : DataW H} {ps : List MemPlace} (hval : Value.okWide Tryz.prog W .any base 33 v)
    (h : DataW.Trod enc Tryz.prog W 0 (fun _ => true) true 33 v d ps) : ∃ a c l, v = .slice a l.length c ∧ Vw W a l.length c 1 (bvs l) ∧ (∀ k, blk a = some k → k < W.heap.size) := by
  have hv := hval
  obtain ⟨a, len, cap, rfl⟩ := okWide_slice Tryz.underlying33 hval
  have hblk : ∀ k, blk a = some k → k < W.heap.size := by
    intro k hk
    cases a with
    | none => cases hk
    | some x =>
      simp only [Value.okWide, Tryz.underlying33, Cell.okWide, Cell.ok] at hv
      obtain ⟨_, _, _, _, row, cells, hsh, _⟩ := hv
      simp only [blk, Option.map_some, Option.some.injEq] at hk
      subst hk
      unfold World.shape? at hsh
      split at hsh
      · rename_i h; exact (Array.getElem?_eq_some_iff.1 h).1
      · cases hsh
  obtain ⟨fuel, hf⟩ := h
  rcases open_ints Tryz.underlying33 Tryz.underlying5 (by kernel_rfl) hf with ⟨hcs, _⟩ | ⟨x, n, c, zs, hcs, _, hl, hm, hz, _, hcell, hwz⟩
  · simp [Value.cells] at hcs
    obtain ⟨rfl, rfl, rfl⟩ := hcs
    exact ⟨none, 0, [], rfl, Vw.nl _ _, hblk⟩
  · simp [Value.cells] at hcs
    obtain ⟨rfl, rfl, rfl⟩ := hcs
    have hz' : zs.length = cap := by simpa using hz
    have hle : (zs.take len).length = len := by rw [List.length_take]; omega
    have hll : ((zs.take len).map (fun z => UInt8.ofNat z.toNat)).length = len := by rw [List.length_map, hle]
    refine ⟨some x, cap, (zs.take len).map (fun z => UInt8.ofNat z.toNat), by rw [hll], ?_, hblk⟩
    refine ⟨by rw [bvs_length, hll]; simp, by rw [hll]; exact hl, hm, (fun h => by cases h), ?_⟩
    intro y hy j u hu
    cases hy
    have hj : j < len := by
      have := (List.getElem?_eq_some_iff.1 hu).1
      rw [bvs_length, hll] at this; exact this
    have hjz : j < zs.length := by omega
    have hc := hcell j hjz
    have hg : zs.getD j 0 = zs[j] := by simp [hjz]
    rw [hg] at hc
    have hb := bounds_u8 (hwz zs[j] (List.getElem_mem _))
    rw [hc]
    rw [← hu]
    simp only [bvs, bv, List.map_map, List.getElem?_map, List.getElem?_take, hj, if_true]
    rw [List.getElem?_eq_getElem hjz]
    have key : ∀ z : Int, 0 ≤ z → z ≤ 255 → z = (((UInt8.ofNat z.toNat).toNat : Nat) : Int) := by
      intro z h0 h1
      rw [UInt8.toNat_ofNat']
      omega
    simp only [Option.map_some, Function.comp, Option.some.injEq]
    exact congrArg (Value.int .u8) (key _ hb.1 hb.2)
end Go.Proofs.YtccejkikphpnfaaGreatDoor
