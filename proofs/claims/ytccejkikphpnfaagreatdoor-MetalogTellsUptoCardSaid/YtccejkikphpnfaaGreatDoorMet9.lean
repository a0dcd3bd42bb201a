
/- A root's record is added. -/
import Derived.Test.YtccejkikphpnfaaGreatDoorMet8
namespace Go.Proofs.YtccejkikphpnfaaGreatDoor
set_option linter.unusedSimpArgs false
set_option linter.unusedVariables false
set_option maxRecDepth 100000
open Go.ChangeShapes Go.WideShapes Go.ChangeAt Go.RowKit

theorem LogW.setN {w : World} {lb : Nat} {g : Lg} {A : LA} (h : LogW w lb g A) (m : Int) : LogW (w.setCell ⟨lb, 12, none⟩ (.int .i64 m)) lb ⟨g.rr, g.fs, g.cs, g.top, g.ds, m⟩ A ∧ Upd (fun q => q = lb) w (w.setCell ⟨lb, 12, none⟩ (.int .i64 m)) :=
  h.put (g' := ⟨g.rr, g.fs, g.cs, g.top, g.ds, m⟩) (A' := A) (Upd.refl _ _) 12 (.int .i64 m) (by simp [logA]) h.rr h.fs h.cs h.ds h.n1 h.n2 h.n3 h.n4

/-- A root's record fits behind a log. -/
structure Fits (g : Lg) (ks : List Ky) (k : Int) : Prop where
  inn : RootIn (g.top - 1) ks.length k
  rr : g.rr.length < 2000
  cs : g.cs.length + ks.length ≤ 2000
  fs : g.fs.length ≤ 2000
  t0 : 0 ≤ g.top
  t1 : g.top ≤ 2000
  n0 : 0 ≤ g.n
  n1 : g.n ≤ 100000
def lgRoot (g : Lg) (x : RRow) (ks : List Ky) (m : Int) : Lg := ⟨g.rr ++ [x], g.fs ++ [(g.cs.length : Int)], g.cs ++ ks, (g.rr.length : Int) + 1, [], m⟩
theorem read1_any (g : Lg) (A : LA) (lb L2 BX : Nat) (a : Option Addr) (c : Nat) (ks : List Ky) (k : Int) (w : World) (h : LogW w lb g A) (hF : Fits g ks k) (ha : ∀ q, blk a = some q → q ≠ lb)
    (hL : w.heap[L2]? = some (.cells #[.pointer (some ⟨lb, 0, none⟩)] 42)) (hX : w.heap[BX]? = some (.cells (rootA (g.top - 1) a ks.length c k) 26)) (hv : Vw w a ks.length c 32 (ks.flatMap kyV)) :
    Calls Tryz.prog 96 #[.pointer (some ⟨L2, 0, none⟩), .pointer (some ⟨BX, 0, none⟩)] w fun e w' => e = .returned (.int .i64 0) ∧ ∃ A' x, x.p = g.top - 1 ∧ LogW w' lb (lgRoot g x ks g.n) A' ∧ Upd (fun q => q = lb) w w' := by
  have hadd := addRoot_any g A lb a c ks k w h hF.rr hF.cs hF.fs hF.t0 hF.t1 ha hv
  have q : w.cell? ⟨L2, 0, none⟩ = some (.pointer (some ⟨lb, 0, none⟩)) := by rw [cell_of_row _ _ _ _ _ _ hL]; rfl
  unfold lgRoot
  clear h hF ha hL hv
  go_enter Tryz.func96, Tryz.ntmps96
  go_wp2_with (refine wpList_load_row rfl 26 (.tmp 1) rfl BX (rootA (g.top - 1) a ks.length c k) 26 (0, 0) _ rfl hX Tryz.underlying26 rfl (by rw [infoRoot]; rfl) ?_)
  refine hadd.mono ?_
  rintro e w1 ⟨rfl, A', hL1, hU1⟩
  have HF := Lib.hid (And.intro hL1 hU1)
  clear hadd hL1 hU1 hX q
  go_wp2_with fail
  go_ret
  exact ⟨rfl, A', ⟨g.top - 1, a, ks.length, c, k⟩, rfl, HF.out⟩

set_option maxHeartbeats 4000000 in
theorem add_root (g : Lg) (A : LA) (lb : Nat) (ks : List Ky) (k : Int) (a : Option Addr) (c : Nat) (w : World) (h : LogW w lb g A) (hF : Fits g ks k)
    (hv : Vw w a (rootL (g.top - 1) ks k).length c 1 (bvs (rootL (g.top - 1) ks k))) :
    Calls Tryz.prog 21 #[.pointer (some ⟨lb, 0, none⟩), .slice a (rootL (g.top - 1) ks k).length c] w fun e w' => e = .returned (.int .i64 0) ∧ ∃ A' x, x.p = g.top - 1 ∧ LogW w' lb (lgRoot g x ks (g.n + 1)) A' ∧ Upd (fun q => q = lb) w w' := by
  have hread := read_root lb (g.top - 1) ks k hF.inn a c w hv
  have hw : IntKind.i64.wrap (g.n + 1) = g.n + 1 := IntWalk.i64_in _ (by have := hF.n0; have := hF.n1; omega)
  have HF := Lib.hid hF
  have HL := Lib.hid h
  have hlt := h.lt
  clear h hF hv
  go_enter Tryz.func21, Tryz.ntmps21
  go_wp2_with fail
  refine hread.mono ?_
  rintro e w1 ⟨L2, BX, a2, c2, rfl, hL2, hBX, hv2, hfr, hU⟩
  have hr1 := read1_any g A lb L2 BX a2 c2 ks k w1 (HL.out.other hU) HF.out (fun q hq => by have := hfr q hq; omega) hL2 hBX hv2
  have HU := Lib.hid hU
  clear hread hL2 hBX hv2 hfr hU
  go_wp2_with fail
  refine hr1.mono ?_
  rintro e w2 ⟨rfl, A', x, hx, hL2, hU2⟩
  have HL2 := Lib.hid hL2
  have HU2 := Lib.hid ((HU.out.mono (fun _ _ h => h.elim)).trans hU2)
  have q := hL2.c12
  have f := hL2.free 12
  have hqn : (lgRoot g x ks g.n).n = g.n := rfl
  rw [hqn] at q
  clear hr1 hL2 hU2 hqn
  go_wp2_with fail
  have hfin := HL2.out.setN (g.n + 1)
  have HZ := Lib.hid (And.intro hfin.1 (HU2.out.trans hfin.2))
  clear hfin q f
  go_ret
  exact ⟨rfl, A', x, hx, HZ.out⟩
end Go.Proofs.YtccejkikphpnfaaGreatDoor
