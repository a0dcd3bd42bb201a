
/- The state of the log in the walks of MetalogUndo and MetalogForks, and what each call answers there. -/
import Derived.Test.YtccejkikphpnfaaGreatDoorMet18
namespace Go.Proofs.YtccejkikphpnfaaGreatDoor
set_option linter.unusedSimpArgs false
set_option linter.unusedVariables false
set_option maxRecDepth 100000
open Go.ChangeShapes Go.WideShapes Go.ChangeAt Go.RowKit

/-- Behind so many roots, each on the one ahead: where it is, what was undone, how many records. -/
structure US (w : World) (lb : Nat) (i : Nat) (top : Nat) (ds : List Int) (m : Nat) (wr : World) : Prop where
  ex : ∃ g A, LogW wr lb g A ∧ LogG g i ∧ g.top = (top : Int) ∧ g.ds = ds ∧ g.n = (m : Int)
  upd : Upd (fun _ => False) w wr
  lt : w.heap.size ≤ lb
section
variable {w : World} {lb i top m : Nat} {ds : List Int} {wr w' : World}
theorem US.llt (h : US w lb i top ds m wr) : lb < wr.heap.size := by obtain ⟨g, A, hL, _⟩ := h.ex; exact hL.lt
theorem US.other (h : US w lb i top ds m wr) (hU : Upd (fun _ => False) wr w') : US w lb i top ds m w' := by
  obtain ⟨g, A, hL, hG⟩ := h.ex
  exact ⟨⟨g, A, hL.other hU, hG⟩, h.upd.trans hU, h.lt⟩
theorem us_new (hL : LogW wr lb ⟨[], [], [], 0, [], 0⟩ ⟨none, 0, none, 0, none, 0, none, 0⟩) (hU : Upd (fun _ => False) w wr) (hlt : w.heap.size ≤ lb) : US w lb 0 0 [] 0 wr :=
  ⟨⟨_, _, hL, LogG.zero 0, rfl, rfl, rfl⟩, hU, hlt⟩
theorem US.at (h : US w lb i top ds m wr) (ht : top ≤ 2000) : Calls Tryz.prog 24 #[.pointer (some ⟨lb, 0, none⟩)] wr fun e w' => e = .returned (.int .i64 ((top : Int) - 1)) ∧ wr = w' := by
  obtain ⟨g, A, hL, hG, ht', hd, hm⟩ := h.ex
  have := mAt_any hL (by omega) (by omega)
  rw [ht'] at this
  exact this
theorem US.records (h : US w lb i top ds m wr) : Calls Tryz.prog 25 #[.pointer (some ⟨lb, 0, none⟩)] wr fun e w' => e = .returned (.int .i64 (m : Int)) ∧ wr = w' := by
  obtain ⟨g, A, hL, hG, ht', hd, hm⟩ := h.ex
  have := mRecords_any hL
  rw [hm] at this
  exact this
theorem US.redos (h : US w lb i top ds m wr) (hl : ds.length ≤ 2000) : Calls Tryz.prog 27 #[.pointer (some ⟨lb, 0, none⟩)] wr fun e w' => ∃ a' c', e = .returned (.slice a' ds.length c') ∧ Upd (fun _ => False) wr w' := by
  obtain ⟨g, A, hL, hG, ht', hd, hm⟩ := h.ex
  have := mRedos_any hL (by rw [hd]; omega)
  rw [hd] at this
  exact this
theorem US.commits (h : US w lb i top ds m wr) (hi : i ≤ 2000) : Calls Tryz.prog 28 #[.pointer (some ⟨lb, 0, none⟩)] wr fun e w' => ∃ a' c', e = .returned (.slice a' i c') ∧ Upd (fun _ => False) wr w' := by
  obtain ⟨g, A, hL, hG, ht', hd, hm⟩ := h.ex
  have := mCommits_any hL (by rw [hG.cs]; omega)
  rw [hG.cs] at this
  exact this
theorem US.line (h : US w lb i top ds m wr) (ht : top ≤ i) (hi : i ≤ 2000) : Calls Tryz.prog 26 #[.pointer (some ⟨lb, 0, none⟩)] wr fun e w' => ∃ a' c', e = .returned (.slice a' top c') ∧
    w'.ownsRow 0 3 1 (.slice a' top c') top ((downL top).reverse.map iv) ∧ (∀ q, blk a' = some q → q ≠ lb) ∧ Upd (fun _ => False) wr w' := by
  have hll := h.llt
  obtain ⟨g, A, hL, hG, ht', hd, hm⟩ := h.ex
  have hc := hG.chain top ht
  have := mLine_any g A lb (downL top) wr hL (by rw [ht']; exact hc) (by omega) (by omega) (by rw [downL_len]; omega)
  rw [downL_len] at this
  refine this.mono ?_
  rintro e w' ⟨a, c, he, hown, hf, hU⟩
  exact ⟨a, c, he, hown, fun q hq => by have := hf q hq; omega, hU⟩
theorem US.root (h : US w lb i i [] i wr) (hi : i < 1000) (ky : Ky) (k : Int) (hk0 : -1 ≤ k) (hk1 : k < 2000) (a : Option Addr) (c : Nat) (hv : Vw wr a (rootL ((i : Int) - 1) [ky] k).length c 1 (bvs (rootL ((i : Int) - 1) [ky] k))) :
    Calls Tryz.prog 21 #[.pointer (some ⟨lb, 0, none⟩), .slice a (rootL ((i : Int) - 1) [ky] k).length c] wr fun e w' => e = .returned (.int .i64 0) ∧ US w lb (i + 1) (i + 1) [] (i + 1) w' ∧ Upd (fun q => q = lb) wr w' := by
  obtain ⟨g, A, hL, hG, ht', hd, hm⟩ := h.ex
  have hF : Fits g [ky] k := ⟨⟨by omega, by omega, by simp, hk0, hk1⟩, by rw [hG.rr]; omega, by rw [hG.cs]; simp; omega, by rw [hG.fs]; omega, by omega, by omega, by omega, by omega⟩
  have := add_root g A lb [ky] k a c wr hL hF (by rw [ht']; exact hv)
  rw [ht'] at this
  refine this.mono ?_
  rintro e w' ⟨he, A', x, hx, hL', hU⟩
  refine ⟨he, ⟨⟨_, A', hL', hG.more x hx ky _, ?_, rfl, ?_⟩, h.upd.next hU (fun j hj e => by have := h.lt; omega), h.lt⟩, hU⟩
  · show (g.rr.length : Int) + 1 = _
    rw [hG.rr]; omega
  · show g.n + 1 = _
    rw [hm]; omega
theorem US.undo (h : US w lb i (top + 1) ds m wr) (ht : top + 1 ≤ i) (hi : i ≤ 1000) (hd : ds.length ≤ 1000) (hm : m ≤ 10000) (a : Option Addr) (c : Nat) (hv : Vw wr a (moveL ((top : Int) - 1) false).length c 1 (bvs (moveL ((top : Int) - 1) false))) :
    Calls Tryz.prog 21 #[.pointer (some ⟨lb, 0, none⟩), .slice a (moveL ((top : Int) - 1) false).length c] wr fun e w' => e = .returned (.int .i64 0) ∧ US w lb i top (ds ++ [(top : Int)]) (m + 1) w' ∧ Upd (fun q => q = lb) wr w' := by
  obtain ⟨g, A, hL, hG, ht', hds, hn⟩ := h.ex
  have hr := hG.rr
  have hlt : top < g.rr.length := by omega
  have hx := hG.each top _ (List.getElem?_eq_getElem hlt)
  have hxx : g.rr[(g.top - 1).toNat]? = some g.rr[top] := by
    rw [ht', show (((top + 1 : Nat) : Int) - 1).toNat = top from by omega, List.getElem?_eq_getElem hlt]
  have := add_undo g A lb ((top : Int) - 1) _ a c wr hL (by omega) (by omega) hxx hx (by omega) (by omega) (by rw [hds]; omega) (by omega) (by omega) hv
  refine this.mono ?_
  rintro e w' ⟨he, A', hL', hU⟩
  refine ⟨he, ⟨⟨_, A', hL', hG.same rfl rfl rfl, ?_, ?_, ?_⟩, h.upd.next hU (fun j hj e => by have := h.lt; omega), h.lt⟩, hU⟩
  · show (top : Int) - 1 + 1 = _
    omega
  · show g.ds ++ [g.top - 1] = _
    rw [hds, ht', show ((top + 1 : Nat) : Int) - 1 = (top : Int) from by omega]
  · show g.n + 1 = _
    rw [hn]; omega
theorem US.redo (v : Nat) (h : US w lb i top (ds ++ [(v : Int)]) m wr) (hv0 : v < 1000) (hd : ds.length ≤ 1000) (hm : m ≤ 10000) (a : Option Addr) (c : Nat) (hv : Vw wr a (moveL (v : Int) true).length c 1 (bvs (moveL (v : Int) true))) :
    Calls Tryz.prog 21 #[.pointer (some ⟨lb, 0, none⟩), .slice a (moveL (v : Int) true).length c] wr fun e w' => e = .returned (.int .i64 0) ∧ US w lb i (v + 1) ds (m + 1) w' ∧ Upd (fun q => q = lb) wr w' := by
  obtain ⟨g, A, hL, hG, ht', hds, hn⟩ := h.ex
  have := add_redo g A lb (v : Int) ds a c wr hL hds (by omega) (by omega) (by rw [hds]; simp; omega) (by omega) (by omega) hv
  refine this.mono ?_
  rintro e w' ⟨he, A', hL', hU⟩
  refine ⟨he, ⟨⟨_, A', hL', hG.same rfl rfl rfl, ?_, rfl, ?_⟩, h.upd.next hU (fun j hj e => by have := h.lt; omega), h.lt⟩, hU⟩
  · show (v : Int) + 1 = _
    omega
  · show g.n + 1 = _
    rw [hn]; omega
end
end Go.Proofs.YtccejkikphpnfaaGreatDoor
