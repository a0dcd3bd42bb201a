
/- The walk of MetalogNil. -/
import Derived.Test.YtccejkikphpnfaaGreatDoorFrame
import Derived.Test.YtccejkikphpnfaaGreatDoorMet12
namespace Go.Proofs.YtccejkikphpnfaaGreatDoor
set_option linter.unusedSimpArgs false
set_option linter.unusedVariables false
set_option maxRecDepth 100000
open Go.ChangeShapes Go.WideShapes Go.ChangeAt Go.RowKit

theorem mAdd_nil (a : Option Addr) (n c : Nat) (w : World) : Calls Tryz.prog 21 #[.pointer none, .slice a n c] w fun e w' => e = .returned (.int .i64 2) ∧ w = w' := by
  go_enter Tryz.func21, Tryz.ntmps21
  go_wp2
  go_ret
  exact ⟨rfl, rfl⟩
theorem mAt_nil (w : World) : Calls Tryz.prog 24 #[.pointer none] w fun e w' => e = .returned (.int .i64 (-1)) ∧ w = w' := by
  go_enter Tryz.func24, Tryz.ntmps24
  go_wp2
  go_ret
  exact ⟨rfl, rfl⟩
theorem mRecords_nil (w : World) : Calls Tryz.prog 25 #[.pointer none] w fun e w' => e = .returned (.int .i64 0) ∧ w = w' := by
  go_enter Tryz.func25, Tryz.ntmps25
  go_wp2
  go_ret
  exact ⟨rfl, rfl⟩
theorem mRedos_nil (w : World) : Calls Tryz.prog 27 #[.pointer none] w fun e w' => e = .returned (.slice none 0 0) ∧ w = w' := by
  go_enter Tryz.func27, Tryz.ntmps27
  go_wp2
  go_ret
  exact ⟨rfl, rfl⟩
theorem mCommits_nil (w : World) : Calls Tryz.prog 28 #[.pointer none] w fun e w' => e = .returned (.slice none 0 0) ∧ w = w' := by
  go_enter Tryz.func28, Tryz.ntmps28
  go_wp2
  go_ret
  exact ⟨rfl, rfl⟩
theorem mFirst_nil (i : Int) (w : World) : Calls Tryz.prog 30 #[.pointer none, .int .i64 i] w fun e w' => e = .returned (.int .i64 0) ∧ w = w' := by
  go_enter Tryz.func30, Tryz.ntmps30
  go_wp2
  go_ret
  exact ⟨rfl, rfl⟩
theorem mFork_nil (w : World) : Calls Tryz.prog 32 #[.pointer none] w fun e w' => e = .returned (.pointer none) ∧ w = w' := by
  go_enter Tryz.func32, Tryz.ntmps32
  go_wp2
  go_ret
  exact ⟨rfl, rfl⟩
theorem mLine_nil (w : World) : Calls Tryz.prog 26 #[.pointer none] w fun e w' => e = .returned (.slice none 0 0) ∧ Upd (fun _ => False) w w' := by
  have hrev := rev_any none 0 [] w (World.ownsRow_nil _ _ _ _) (by decide)
  dsimp only [List.length_nil] at hrev
  go_enter Tryz.func26, Tryz.ntmps26
  go_wp2_with fail
  refine hrev.mono ?_
  rintro e w' ⟨rfl, hown, hU⟩
  have HU := Lib.hid (hU.mono (T := fun _ => False) (fun i _ e => by cases e))
  clear hrev hown hU
  go_wp2_with fail
  go_ret
  exact ⟨rfl, HU.out⟩
theorem sameSe_nil (f : Value) (w : World) : Calls Tryz.prog 58 #[.slice none 0 0, .slice none 0 0, f] w fun e w' => e = .returned (.bool true) ∧ w = w' := by
  go_enter Tryz.func58, Tryz.ntmps58
  go_wp2_with fail
  go_loopw [7] (fun i wr => i = .int .i64 0 ∧ w = wr) (fun _ _ => 0)
  case atStart => exact ⟨rfl, rfl⟩
  case round =>
    obtain ⟨rfl, rfl⟩ := hrel
    go_wp2_with fail
    go_ret
    exact ⟨rfl, rfl⟩
theorem sameCl_nil (f : Value) (w : World) : Calls Tryz.prog 107 #[.slice none 0 0, .slice none 0 0, f] w fun e w' => e = .returned (.bool true) ∧ w = w' := by
  go_enter Tryz.func107, Tryz.ntmps107
  go_wp2_with fail
  go_loopw [7] (fun i wr => i = .int .i64 0 ∧ w = wr) (fun _ _ => 0)
  case atStart => exact ⟨rfl, rfl⟩
  case round =>
    obtain ⟨rfl, rfl⟩ := hrel
    go_wp2_with fail
    go_ret
    exact ⟨rfl, rfl⟩
theorem plainCl_nil (w : World) : Calls Tryz.prog 60 #[.slice none 0 0, .slice none 0 0] w fun e w' => e = .returned (.bool true) ∧ w = w' := by
  go_enter Tryz.func60, Tryz.ntmps60
  go_wp2_with fail
  refine (sameCl_nil _ w).mono ?_
  rintro e w' ⟨rfl, rfl⟩
  go_wp2_with fail
  go_ret
  exact ⟨rfl, rfl⟩
theorem sPending_nil (w : World) : Calls Tryz.prog 22 #[.agg pendA, .agg pendA] w fun e w' => e = .returned (.bool true) ∧ Upd (fun _ => False) w w' := by
  have HU : Hid (Upd (fun _ => False) w ((w.alloc (.cells pendA 30)).alloc (.cells pendA 30))) := Lib.hid ((Upd.alloc _ _ _).trans (Upd.alloc _ _ _))
  unfold pendA at HU ⊢
  go_enter Tryz.func22, Tryz.ntmps22
  go_wp2_with fail
  refine (sameSe_nil _ _).mono ?_
  rintro e w' ⟨rfl, rfl⟩
  go_wp2_with fail
  refine (plainCl_nil _).mono ?_
  rintro e w' ⟨rfl, rfl⟩
  go_wp2_with fail
  go_ret
  exact ⟨rfl, HU.out⟩
theorem mPending_nil (w : World) : Calls Tryz.prog 23 #[.pointer none] w fun e w' => e = .returned (.agg pendA) ∧ Upd (fun _ => False) w w' := by
  have hU1 := Upd.alloc (fun _ => False) w (.cells pendA 30)
  have hrow := heap_alloc_new w (.cells pendA 30)
  have hU2 : Upd (fun _ => False) w ((w.alloc (.cells pendA 30)).setRow w.heap.size pendA) := hU1.next (Upd.setRow (S := fun q => q = w.heap.size) _ rfl _) (fun i hi e => by omega)
  have HX := Lib.hid (And.intro hrow hU2)
  clear hU1 hU2
  have hrow' := hrow
  unfold pendA at hrow'
  go_enter Tryz.func23, Tryz.ntmps23
  go_wp2_with (refine wpList_store_row rfl 30 (.tmp 2) (.tmp 7) rfl w.heap.size pendA _ 30 rfl rfl hrow' (by rw [infoPend]; rfl) rfl (by simp [pendA, Value.oneCell']) ?_)
  exact ret_row rfl w.heap.size pendA 30 (0, 0) _ rfl (setRow_heap _ _ _ _ _ _ hrow) Tryz.underlying30 rfl (by rw [infoPend]; rfl) rfl ⟨rfl, HX.out.2⟩
theorem ret_root {fn : Func} {R : Ending → World → Prop} {a : Act} {w : World} {p u : Tmp} (h : fn.results = #[.cell p 26, .tmp u]) (b : Nat) (p0 : Int) (ra : Option Addr) (rn rc : Nat) (k : Int) (bb : Bool)
    (hp : a.tmps.getD p undef = .pointer (some ⟨b, 0, none⟩)) (hg : w.heap[b]? = some (.cells (rootA p0 ra rn rc k) 26)) (hv : a.tmps.getD u undef = .bool bb) (hdf : a.defers = []) (hR : R (.returned (.tuple #[.agg (rootA p0 ra rn rc k), .bool bb])) w) : bodyPost Tryz.prog fn R .ret a w := by
  refine bodyPost_ret (v := .tuple #[.agg (rootA p0 ra rn rc k), .bool bb]) ?_ hdf hR
  have := run_loadVar_row (P := Tryz.prog) w b 26 26 (rootA p0 ra rn rc k) (0, 0) _ hg Tryz.underlying26 (by simp) (by rw [infoRoot]; rfl)
  rw [results_cell_tmp h, hp, hv]
  simp [Result.andThen, asAddr, this]
theorem mRoot_nil (i : Int) (w : World) : Calls Tryz.prog 38 #[.pointer none, .int .i64 i] w fun e w' => e = .returned (.tuple #[.agg (rootA 0 none 0 0 0), .bool false]) ∧ Upd (fun _ => False) w w' := by
  have hU1 := Upd.alloc (fun _ => False) w (.cells (rootA 0 none 0 0 0) 26)
  have hrow := heap_alloc_new w (.cells (rootA 0 none 0 0 0) 26)
  have hU2 : Upd (fun _ => False) w ((w.alloc (.cells (rootA 0 none 0 0 0) 26)).setRow w.heap.size (rootA 0 none 0 0 0)) := hU1.next (Upd.setRow (S := fun q => q = w.heap.size) _ rfl _) (fun i hi e => by omega)
  have HX := Lib.hid hU2
  clear hU1 hU2
  have hrow' := hrow
  unfold rootA at hrow'
  go_enter Tryz.func38, Tryz.ntmps38
  go_wp2_with (refine wpList_store_row rfl 26 (.tmp 4) (.tmp 21) rfl w.heap.size (rootA 0 none 0 0 0) _ 26 rfl rfl hrow' (by rw [infoRoot]; rfl) rfl (rootA_one _ _ _ _ _) ?_)
  go_wp2_with fail
  exact ret_root rfl w.heap.size 0 none 0 0 0 false rfl (setRow_heap _ _ _ _ _ _ hrow) rfl rfl ⟨rfl, HX.out⟩

set_option maxHeartbeats 4000000 in
theorem MetalogNil_walk (w : World) (a : Option Addr) (c : Nat) (l : List UInt8) (hv : Vw w a l.length c 1 (bvs l)) (hb : ∀ g, blk a = some g → g < w.heap.size) (i : Int) (wi : (Lit.int .i64 i).wf = true) :
    Calls Tryz.prog 8 #[.slice a l.length c, .int .i64 i] w fun e w' => e = .returned (.bool true) ∧ Below w.heap.size w w' := by
  clear hb wi
  have hcap := hv.cap
  have hlc := hv.le
  unfold maxLen at hcap
  by_cases h300 : 300 < l.length
  · have hI : (300 : Int) < (l.length : Int) := by omega
    clear hv h300
    go_enter Tryz.func8, Tryz.ntmps8
    go_wp2_with fail
    refine (awake21_any w).mono ?_
    rintro e w' ⟨rfl, hU⟩
    have HU := Lib.hid hU
    clear hU
    go_wp2_with fail
    go_ret
    exact ⟨rfl, HU.out.clean⟩
  · have hI : decide ((300 : Int) < (l.length : Int)) = false := by rw [decide_eq_false_iff_not]; omega
    clear hv h300
    go_enter Tryz.func8, Tryz.ntmps8
    go_wp2_with fail
    refine (mRoot_nil i w).mono ?_
    rintro e w1 ⟨rfl, hU1⟩
    have HU1 := Lib.hid (hU1.trans (Upd.alloc (fun _ => False) w1 (.cells (rootA 0 none 0 0 0) 26)))
    unfold rootA at HU1 ⊢
    clear hU1
    go_wp2_with fail
    refine (awake21_any _).mono ?_
    rintro e w2 ⟨rfl, hU⟩
    have HU2 := Lib.hid (HU1.out.trans hU)
    clear hU HU1
    go_wp2_with first
      | (go_at_call 21; refine (mAdd_nil _ _ _ _).mono ?_; rintro e w' ⟨rfl, rfl⟩)
      | (go_at_call 24; refine (mAt_nil _).mono ?_; rintro e w' ⟨rfl, rfl⟩)
    refine (mLine_nil _).mono ?_
    rintro e w3 ⟨rfl, hU⟩
    have HU3 := Lib.hid (HU2.out.trans hU)
    clear hU HU2
    go_wp2_with (go_at_call 27; refine (mRedos_nil _).mono ?_; rintro e w' ⟨rfl, rfl⟩)
    refine (mPending_nil _).mono ?_
    rintro e w4 ⟨rfl, hU⟩
    have HU4 := Lib.hid (HU3.out.trans hU)
    have hsp := sPending_nil w4
    unfold pendA at hsp ⊢
    clear hU HU3
    go_wp2_with fail
    refine hsp.mono ?_
    rintro e w5 ⟨rfl, hU⟩
    have HU5 := Lib.hid (HU4.out.trans hU)
    clear hU HU4 hsp
    go_wp2_with first
      | (go_at_call 28; refine (mCommits_nil _).mono ?_; rintro e w' ⟨rfl, rfl⟩)
      | (go_at_call 30; refine (mFirst_nil _ _).mono ?_; rintro e w' ⟨rfl, rfl⟩)
      | (go_at_call 25; refine (mRecords_nil _).mono ?_; rintro e w' ⟨rfl, rfl⟩)
      | (go_at_call 32; refine (mFork_nil _).mono ?_; rintro e w' ⟨rfl, rfl⟩)
    go_ret
    exact ⟨rfl, HU5.out.clean⟩
end Go.Proofs.YtccejkikphpnfaaGreatDoor
