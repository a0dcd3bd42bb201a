
/- command.Take. -/
import Derived.Test.YteefceainlfdfaaDoorRt5
import Derived.Test.YteefceainlfdfaaDoorTree
namespace Go.Proofs.YteefceainlfdfaaDoor
set_option linter.unusedSimpArgs false
set_option linter.unusedVariables false
set_option maxRecDepth 100000
open Go.ChangeShapes Go.WideShapes Go.ChangeAt Go.RowKit

theorem read_anyC (a : Option Addr) (c : Nat) (l : List UInt8) (w : World) (hv : Vw w a l.length c 1 (bvs l)) (hl : l.length ≤ 100000000) :
    Calls Tryd.prog 60 #[.slice a l.length c] w fun e w' => ∃ br F, e = .returned (.pointer (some ⟨br, 0, none⟩)) ∧ Rd w' br F l 0 ∧ Upd (fun _ => False) w w' ∧ w.heap.size ≤ br ∧ (∀ g, F = some g → w.heap.size ≤ g ∧ g < br) := by
  go_enter Tryd.func60, Tryd.ntmps60
  go_wp2_with fail
  refine (clone_any a c l w hv hl).mono ?_
  rintro e w1 ⟨a', c', rfl, hown, hU, hfr, hnil⟩
  have hz := hU.size
  have hvw := Vw.of_own hown
  have hlt : ∀ g, blk a' = some g → w.heap.size ≤ g ∧ g < w1.heap.size := fun g hg => ⟨hfr g hg, (hown.lt g ((own_blk _ _ _).trans hg)).2⟩
  clear hfr
  have Hlt := Lib.hid hlt; clear hlt
  go_wp2_with fail
  go_ret
  refine ⟨w1.heap.size, blk a', rfl, ⟨⟨a', c', heap_alloc_new _ _, hvw.upd (Upd.alloc (fun _ => False) _ _) (fun _ _ h => h), .inr rfl⟩, ?_⟩, hU.trans (Upd.alloc _ _ _), hz, Hlt.out⟩
  intro e; exact absurd (Hlt.out _ e).2 (Nat.lt_irrefl _)

/-- Ahead of the command: its block may have been made. -/
structure TPre (w : World) (br BR B4 B2 : Nat) (F : Option Nat) (s : RS) (b5 : Option Nat) (wk : World) : Prop where
  rd : Rd wk br F s.l s.e
  row : wk.heap[BR]? = some (.cells #[.pointer (some ⟨br, 0, none⟩), .bool false] 93)
  var : wk.heap[B4]? = some (.cells #[.pointer (some ⟨BR, 0, none⟩)] 89)
  res : wk.heap[B2]? = some (.cells (cmdA cmdZ none 0 none 0) 25)
  upd : Upd (fun _ => False) w wk
  new : ∀ b, b5 = some b → B4 < b ∧ wk.heap[b]? = some (.cells (cmdA cmdZ none 0 none 0) 25)
  n1 : br < BR
  n2 : BR < B4
  n4 : B2 < br
  n5 : w.heap.size ≤ B2
  n6 : ∀ g, F = some g → B2 < g ∧ g < br
section
variable {w : World} {br BR B4 B2 : Nat} {F : Option Nat} {s s' : RS} {b5 : Option Nat} {wk w' : World}
theorem TPre.step (h : TPre w br BR B4 B2 F s b5 wk) (hR : Rd w' br F s'.l s'.e) (hU : Upd (fun k => k = br) wk w') : TPre w br BR B4 B2 F s' b5 w' := by
  have h1 := h.n1; have h2 := h.n2; have h4 := h.n4; have h5 := h.n5
  exact ⟨hR, (hU.block BR (lt_of_heap h.row) (by omega)).trans h.row, (hU.block B4 (lt_of_heap h.var) (by omega)).trans h.var, (hU.block B2 (lt_of_heap h.res) (by omega)).trans h.res, h.upd.next hU (fun i hi e => by omega),
    fun b hb => ⟨(h.new b hb).1, (hU.block b (lt_of_heap (h.new b hb).2) (by have := (h.new b hb).1; omega)).trans (h.new b hb).2⟩, h1, h2, h4, h5, h.n6⟩
theorem TPre.drew (h : TPre w br BR B4 B2 F s b5 wk) : TPre w br BR B4 B2 F s b5 wk.drew :=
  ⟨h.rd.upd (Upd.drew (fun _ => False) wk) (fun h => h) (fun _ _ h => h), h.row, h.var, h.res, h.upd.trans (Upd.drew _ _), h.new, h.n1, h.n2, h.n4, h.n5, h.n6⟩
theorem TPre.alloc (h : TPre w br BR B4 B2 F s none wk) : TPre w br BR B4 B2 F s (some wk.heap.size) (wk.alloc (.cells (cmdA cmdZ none 0 none 0) 25)) := by
  have hU := Upd.alloc (fun _ => False) wk (.cells (cmdA cmdZ none 0 none 0) 25)
  exact ⟨h.rd.upd hU (fun h => h) (fun _ _ h => h), (hU.block BR (lt_of_heap h.row) (fun h => h)).trans h.row, (hU.block B4 (lt_of_heap h.var) (fun h => h)).trans h.var, (hU.block B2 (lt_of_heap h.res) (fun h => h)).trans h.res, h.upd.trans hU,
    fun b hb => by cases hb; exact ⟨lt_of_heap h.var, heap_alloc_new _ _⟩, h.n1, h.n2, h.n4, h.n5, h.n6⟩
theorem TPre.q (h : TPre w br BR B4 B2 F s b5 wk) : wk.cell? ⟨B4, 0, none⟩ = some (.pointer (some ⟨BR, 0, none⟩)) ∧ wk.cell? ⟨BR, 0, none⟩ = some (.pointer (some ⟨br, 0, none⟩)) := by
  refine ⟨?_, ?_⟩
  · rw [cell_of_row _ _ _ _ _ _ h.var]; rfl
  · rw [cell_of_row _ _ _ _ _ _ h.row]; rfl
theorem TPre.store {b : Nat} (h : TPre w br BR B4 B2 F s (some b) wk) (c : Cmd) (h1 : c.ch = []) (h2 : c.ps = []) : TMid w br BR B4 b B2 F s false c none 0 none 0 (wk.setRow b (cmdA c none 0 none 0)) := by
  have k1 := h.n1; have k2 := h.n2; have k4 := h.n4; have k5 := h.n5
  have hb := (h.new b rfl).1
  have hU := Upd.setRow (S := fun k => k = b) wk rfl (cmdA c none 0 none 0)
  have n1 : c.ch.length = 0 := by rw [h1]; rfl
  have n2 : c.ps.length = 0 := by rw [h2]; rfl
  refine ⟨h.rd.upd hU (by omega) (fun g hg e => by have := h.n6 g hg; omega), (hU.block BR (lt_of_heap h.row) (by omega)).trans h.row, (hU.block B4 (lt_of_heap h.var) (by omega)).trans h.var, ⟨setRow_heap _ _ _ _ _ _ (h.new b rfl).2, ?_, ?_, (fun g e => by cases e), (fun g e => by cases e), (fun g e => by cases e)⟩,
    (hU.block B2 (lt_of_heap h.res) (by omega)).trans h.res, h.upd.next hU (fun i hi e => by omega), k1, k2, hb, k4, k5, h.n6⟩
  · rw [h1]; exact World.ownsRow_nil _ _ _ _
  · rw [h2]; exact World.ownsRow_nil _ _ _ _
end

set_option maxHeartbeats 16000000 in
theorem cTake_any (a : Option Addr) (c : Nat) (l : List UInt8) (w : World) (hv : Vw w a l.length c 1 (bvs l)) (hl : l.length ≤ 100000) :
    Calls Tryd.prog 28 #[.slice a l.length c] w (TookCmd w (takeC l) (takeE l)) := by
  obtain ⟨B2, hB2⟩ : ∃ B, B = w.heap.size := ⟨_, rfl⟩
  have hUz := Upd.alloc (fun _ => False) w (.cells (cmdA cmdZ none 0 none 0) 25)
  have hrz := heap_alloc_new w (.cells (cmdA cmdZ none 0 none 0) 25)
  have hzz : (w.alloc (.cells (cmdA cmdZ none 0 none 0) 25)).heap.size = w.heap.size + 1 := by simp
  rw [← hB2] at hrz hzz
  have hrd := read_anyC a c l _ (hv.upd hUz (fun _ _ h => h)) (by omega)
  have hlens := tk_lens l
  have hmf : ∀ (fn : Fn) (first cap : Array Value) (w : World), (Instr.makeFunc fn first cap).run Tryd.prog w = .ok (.func fn first cap) w := fun _ _ _ _ => rfl
  have HV := Lib.hid hv
  have HB := Lib.hid hB2
  have HI := Lib.hid (And.intro hrz (And.intro hzz (And.intro hUz hrd)))
  clear hv hUz hrz hzz hrd
  unfold cmdA sv cmdZ at HI
  dsimp only [List.length_nil] at HI
  rw [show str [] = (⟨#[]⟩ : ByteArray) from rfl] at HI
  go_enter Tryd.func28, Tryd.ntmps28
  go_upto_region 1 with (fail)
  rw [← hB2]
  obtain ⟨hrz, hzz, hUz, hrd⟩ := HI.out
  generalize w.alloc (.cells #[.int .i64 0, .string ⟨#[]⟩, .slice none 0 0, .slice none 0 0, .int .i64 0, .int .i64 0, .int .i64 0, .string ⟨#[]⟩] 25) = y0 at *
  clear HI hB2
  go_wp2_with fail
  refine hrd.mono ?_
  clear hrd
  rintro e w0 ⟨br, F, rfl, hR, hU, hbr, hF⟩
  obtain ⟨BR, hBR⟩ : ∃ B, B = w0.heap.size := ⟨_, rfl⟩
  have hbrl : br < w0.heap.size := by
    obtain ⟨a9, c9, hh, _⟩ := hR.ex
    exact lt_of_heap hh
  have hU1 := Upd.alloc (fun _ => False) w0 (.cells #[.pointer (some ⟨br, 0, none⟩), .bool false] 93)
  have hr1 := heap_alloc_new w0 (.cells #[.pointer (some ⟨br, 0, none⟩), .bool false] 93)
  have hz1 : (w0.alloc (.cells #[.pointer (some ⟨br, 0, none⟩), .bool false] 93)).heap.size = BR + 1 := by rw [hBR]; simp
  have hU2 := Upd.alloc (fun _ => False) (w0.alloc (.cells #[.pointer (some ⟨br, 0, none⟩), .bool false] 93)) (.cells #[.pointer (some ⟨BR, 0, none⟩)] 89)
  have hr2 := heap_alloc_new (w0.alloc (.cells #[.pointer (some ⟨br, 0, none⟩), .bool false] 93)) (.cells #[.pointer (some ⟨BR, 0, none⟩)] 89)
  rw [← hBR] at hr1
  rw [hz1] at hr2
  have HP : Hid (TPre w br BR (BR + 1) B2 F ⟨l, 0⟩ none ((w0.alloc (.cells #[.pointer (some ⟨br, 0, none⟩), .bool false] 93)).alloc (.cells #[.pointer (some ⟨BR, 0, none⟩)] 89))) := Lib.hid
    ⟨hR.upd (hU1.trans hU2) (fun h => h) (fun _ _ h => h), (hU2.block BR (by omega) (fun h => h)).trans hr1, hr2, ((hU.trans (hU1.trans hU2)).block B2 (by omega) (fun h => h)).trans hrz,
      hUz.trans (hU.trans (hU1.trans hU2)), (fun b hb => by cases hb), by omega, by omega, by omega, by have := HB.out; omega, fun g hg => by have := hF g hg; omega⟩
  clear hR hU hbr hF hbrl hU1 hr1 hU2 hr2 hrz hzz hUz
  go_upto_region 2 with (fail)
  rw [← hBR]
  obtain ⟨B4, hB4⟩ : ∃ B, B = BR + 1 := ⟨_, rfl⟩
  rw [← hB4] at HP ⊢
  generalize (w0.alloc (.cells #[.pointer (some ⟨br, 0, none⟩), .bool false] 93)).alloc (.cells #[.pointer (some ⟨BR, 0, none⟩)] 89) = y1 at *
  clear hBR hz1 hB4
  go_cut [5] (fun s5 wx => ∃ BC, s5 = .pointer (some ⟨BC, 0, none⟩) ∧ Hid (TMid w br BR B4 BC B2 F (tkM l).2 false ⟨(leN (tkK l).1 : Nat), (tkM l).1, [], [], 0, 0, 0, []⟩ none 0 none 0 wx))
  case first =>
    have HPd := Lib.hid HP.out.drew
    have hk1 : (takeS 1 ⟨l, 0⟩).1.length ≤ 1 := by
      unfold takeS
      split
      · simp
      split
      · simp
      · simp; omega
    have hk2 := leN_lt (takeS 1 ⟨l, 0⟩).1
    have hk3 : 256 ^ (takeS 1 ⟨l, 0⟩).1.length ≤ 256 ^ 1 := Nat.pow_le_pow_right (by decide) hk1
    have hk4 : leN (takeS 1 ⟨l, 0⟩).1 < 256 := by omega
    have hcv : IntKind.i64.wrap ((leN (tkK l).1 : Nat) : Int) = ((leN (tkK l).1 : Nat) : Int) := IntWalk.i64_in _ (by have : takeS 1 ⟨l, 0⟩ = tkK l := rfl; rw [this] at hk4; omega)
    clear hk1 hk2 hk3 hk4
    have HCV := Lib.hid hcv
    have HN : Hid (∀ wk, Rd wk br F l 0 → Calls Tryd.prog 61 #[.pointer (some ⟨br, 0, none⟩), .int .i64 1] wk (ReadN wk br F (tkK l).2 (.int .u64 (leN (tkK l).1)))) := Lib.hid (fun wk h => rnum_any br F ⟨l, 0⟩ 1 wk h (by show l.length ≤ _; omega))
    have HT : Hid (∀ wk, Rd wk br F (tkK l).2.l (tkK l).2.e → Calls Tryd.prog 62 #[.pointer (some ⟨br, 0, none⟩)] wk (ReadN wk br F (tkM l).2 (.string (str (tkM l).1)))) := Lib.hid (fun wk h => rtext_any br F (tkK l).2 wk h (by omega))
    have hqd := HPd.out.q
    refine wp_region_tree (.two [0, 1, 2, 3, 6, 7, 8, 9] 4 (.two [5] 10 (.one [11] 12 (.one [] 13 (.last []))) 12 (.one [] 10 (.one [11] 13 (.last [])))) 12 (.one [] 4 (.one [5] 10 (.one [11] 13 (.last []))))) (fun w' => w'.cell? ⟨B4, 0, none⟩ = some (.pointer (some ⟨BR, 0, none⟩)) ∧ w'.cell? ⟨BR, 0, none⟩ = some (.pointer (some ⟨br, 0, none⟩))) (by kernel_rfl) (by kernel_rfl) hqd ?_
    iterate 8
      refine tree_take2 (v := ?_) rfl rfl (fun w' hS => ?_) ?_
      rotate_left
      · skip
        go_simp; try with_reducible rfl
      simp only [Act.put, List.getElem_toArray, List.getElem_cons_zero, List.getElem_cons_succ, List.setIfInBounds_toArray, List.set_cons_zero, List.set_cons_succ]
    clear hqd HP
    refine tree_both ?_ ?_
    · refine tree_act rfl (fun K1 hK1 => ?_)
      go_wp2_with fail
      refine (HN.out _ HPd.out.rd).mono ?_
      unfold ReadN
      rintro e w1 ⟨rfl, hR, hU⟩
      have M1 := Lib.hid (HPd.out.step (s' := (tkK l).2) hR hU)
      clear hR hU
      go_wp2_with fail
      refine hK1.out _ _ M1.out.q ?_
      have hcv := HCV.out
      refine tree_take2 (v := ?_) rfl rfl (fun w' hS => ?_) ?_
      rotate_left
      · skip
        go_simp; try with_reducible rfl
      simp only [Act.put, List.getElem_toArray, List.getElem_cons_zero, List.getElem_cons_succ, List.setIfInBounds_toArray, List.set_cons_zero, List.set_cons_succ]
      refine tree_both ?_ ?_
      · refine tree_act rfl (fun K2 hK2 => ?_)
        go_wp2_with fail
        refine (HT.out _ M1.out.rd).mono ?_
        unfold ReadN
        rintro e w2 ⟨rfl, hR, hU⟩
        have M2 := Lib.hid (M1.out.step (s' := (tkM l).2) hR hU)
        clear hR hU
        go_wp2_with fail
        refine hK2.out _ _ M2.out.q ?_
        refine tree_take (v := ?_) rfl rfl (fun w' hS => ?_) ?_
        rotate_left
        · skip
          go_simp; try with_reducible rfl
        simp only [Act.put, List.getElem_toArray, List.getElem_cons_zero, List.getElem_cons_succ, List.setIfInBounds_toArray, List.set_cons_zero, List.set_cons_succ]
        refine tree_act rfl (fun K3 hK3 => ?_)
        have M3 := Lib.hid M2.out.alloc
        have hq3 := M3.out.q
        unfold cmdA sv cmdZ at M3 hq3
        dsimp only [List.length_nil] at M3 hq3
        rw [show str [] = (⟨#[]⟩ : ByteArray) from rfl] at M3 hq3
        go_wp2_with fail
        refine hK3.out _ _ hq3 ?_
        clear hq3
        refine tree_act rfl (fun K4 hK4 => ?_)
        refine wpList_store_row rfl 25 (.tmp 5) (.tmp 24) rfl w2.heap.size (cmdA ⟨(leN (tkK l).1 : Nat), (tkM l).1, [], [], 0, 0, 0, []⟩ none 0 none 0) _ 25 rfl rfl (M3.out.new _ rfl).2 (infoCmd2 _ _ _ _ _) rfl (cmdA_one _ _ _ _ _) ?_
        have M4 := Lib.hid (M3.out.store ⟨(leN (tkK l).1 : Nat), (tkM l).1, [], [], 0, 0, 0, []⟩ rfl rfl)
        have hq4 := And.intro M4.out.q4 M4.out.q0
        go_wp2_with fail
        refine hK4.out _ _ hq4 ?_
        refine tree_end ?_
        go_wp2_with fail
        go_meet
        case rel => exact ⟨w2.heap.size, rfl, M4⟩
      · refine tree_act rfl (fun K2 hK2 => ?_)
        have M2 := Lib.hid M1.out.alloc
        have hq2 := M2.out.q
        unfold cmdA sv cmdZ at M2 hq2
        dsimp only [List.length_nil] at M2 hq2
        rw [show str [] = (⟨#[]⟩ : ByteArray) from rfl] at M2 hq2
        go_wp2_with fail
        refine hK2.out _ _ hq2 ?_
        clear hq2
        refine tree_act rfl (fun K3 hK3 => ?_)
        go_wp2_with fail
        refine (HT.out _ M2.out.rd).mono ?_
        unfold ReadN
        rintro e w3 ⟨rfl, hR, hU⟩
        have M3 := Lib.hid (M2.out.step (s' := (tkM l).2) hR hU)
        clear hR hU
        go_wp2_with fail
        refine hK3.out _ _ M3.out.q ?_
        refine tree_take (v := ?_) rfl rfl (fun w' hS => ?_) ?_
        rotate_left
        · skip
          go_simp; try with_reducible rfl
        simp only [Act.put, List.getElem_toArray, List.getElem_cons_zero, List.getElem_cons_succ, List.setIfInBounds_toArray, List.set_cons_zero, List.set_cons_succ]
        refine tree_act rfl (fun K4 hK4 => ?_)
        refine wpList_store_row rfl 25 (.tmp 5) (.tmp 24) rfl w1.heap.size (cmdA ⟨(leN (tkK l).1 : Nat), (tkM l).1, [], [], 0, 0, 0, []⟩ none 0 none 0) _ 25 rfl rfl (M3.out.new _ rfl).2 (infoCmd2 _ _ _ _ _) rfl (cmdA_one _ _ _ _ _) ?_
        have M4 := Lib.hid (M3.out.store ⟨(leN (tkK l).1 : Nat), (tkM l).1, [], [], 0, 0, 0, []⟩ rfl rfl)
        have hq4 := And.intro M4.out.q4 M4.out.q0
        go_wp2_with fail
        refine hK4.out _ _ hq4 ?_
        refine tree_end ?_
        go_wp2_with fail
        go_meet
        case rel => exact ⟨w1.heap.size, rfl, M4⟩
    · refine tree_act rfl (fun K1 hK1 => ?_)
      have M1 := Lib.hid HPd.out.alloc
      have hq1 := M1.out.q
      unfold cmdA sv cmdZ at M1 hq1
      dsimp only [List.length_nil] at M1 hq1
      rw [show str [] = (⟨#[]⟩ : ByteArray) from rfl] at M1 hq1
      go_wp2_with fail
      refine hK1.out _ _ hq1 ?_
      clear hq1
      refine tree_act rfl (fun K2 hK2 => ?_)
      go_wp2_with fail
      refine (HN.out _ M1.out.rd).mono ?_
      unfold ReadN
      rintro e w2 ⟨rfl, hR, hU⟩
      have M2 := Lib.hid (M1.out.step (s' := (tkK l).2) hR hU)
      clear hR hU
      go_wp2_with fail
      refine hK2.out _ _ M2.out.q ?_
      have hcv := HCV.out
      refine tree_take (v := ?_) rfl rfl (fun w' hS => ?_) ?_
      rotate_left
      · skip
        go_simp; try with_reducible rfl
      simp only [Act.put, List.getElem_toArray, List.getElem_cons_zero, List.getElem_cons_succ, List.setIfInBounds_toArray, List.set_cons_zero, List.set_cons_succ]
      refine tree_act rfl (fun K3 hK3 => ?_)
      go_wp2_with fail
      refine (HT.out _ M2.out.rd).mono ?_
      unfold ReadN
      rintro e w3 ⟨rfl, hR, hU⟩
      have M3 := Lib.hid (M2.out.step (s' := (tkM l).2) hR hU)
      clear hR hU
      go_wp2_with fail
      refine hK3.out _ _ M3.out.q ?_
      refine tree_take (v := ?_) rfl rfl (fun w' hS => ?_) ?_
      rotate_left
      · skip
        go_simp; try with_reducible rfl
      simp only [Act.put, List.getElem_toArray, List.getElem_cons_zero, List.getElem_cons_succ, List.setIfInBounds_toArray, List.set_cons_zero, List.set_cons_succ]
      refine tree_act rfl (fun K4 hK4 => ?_)
      refine wpList_store_row rfl 25 (.tmp 5) (.tmp 24) rfl y1.drew.heap.size (cmdA ⟨(leN (tkK l).1 : Nat), (tkM l).1, [], [], 0, 0, 0, []⟩ none 0 none 0) _ 25 rfl rfl (M3.out.new _ rfl).2 (infoCmd2 _ _ _ _ _) rfl (cmdA_one _ _ _ _ _) ?_
      have M4 := Lib.hid (M3.out.store ⟨(leN (tkK l).1 : Nat), (tkM l).1, [], [], 0, 0, 0, []⟩ rfl rfl)
      have hq4 := And.intro M4.out.q4 M4.out.q0
      go_wp2_with fail
      refine hK4.out _ _ hq4 ?_
      refine tree_end ?_
      go_wp2_with fail
      go_meet
      case rel => exact ⟨y1.drew.heap.size, rfl, M4⟩
  case rest =>
    obtain ⟨BC, rfl, HM⟩ := hcut
    obtain ⟨kk, hkk⟩ : ∃ x : Int, x = (leN (tkK l).1 : Nat) := ⟨_, rfl⟩
    have HKK := Lib.hid hkk
    rw [← hkk] at HM
    have h1 := some1_any HM.out (by omega) rfl (tkN l).1 (tkN l).2 rfl rfl
    have q4 := HM.out.q4
    have HE0 : Hid (takeE l = if oddS (tkN l).1 (tkN l).2 then 5 else if oddS (tkP l).1 (tkP l).2 then 5 else endC (tkNm l).2.e (rightL (tkC l)) (packL (tkC l)) l) := Lib.hid rfl
    clear HP hkk
    go_wp2_with fail
    refine h1.mono ?_
    rintro e x1 ⟨rfl, hx⟩
    clear h1 q4 HM
    rcases hx with ⟨ho, hM⟩ | ⟨ho, a3, c3, hM⟩
    · have HRR : Hid (takeE l = 5 ∧ takeC l = cmdZ) := Lib.hid (by
        have h1 : takeE l = 5 := by rw [HE0.out, if_pos ho]
        exact ⟨h1, by unfold takeC; rw [h1, if_pos (by decide)]⟩)
      have HM1 := Lib.hid hM
      have h2 := fun v => some_odd v hM
      have q4 := hM.q4
      clear hM ho HE0
      go_wp2_with fail
      refine (h2 _).mono ?_
      rintro e x2 ⟨rfl, rfl⟩
      clear h2
      have q1 := HM1.out.q1
      go_wp2_with (refine wpList_store_row rfl 25 (.tmp 2) (.tmp 35) rfl B2 (cmdA cmdZ none 0 none 0) _ 25 rfl rfl HM1.out.res (infoCmd2 _ _ _ _ _) rfl (cmdA_one _ _ _ _ _) ?_)
      refine ret_cmd rfl B2 cmdZ none 0 none 0 5 rfl (setRow_heap _ _ _ _ _ _ HM1.out.res) rfl rfl ?_
      exact HM1.out.fin HRR.out.1 HRR.out.2
    · have HE1 := Lib.hid (HE0.out.trans (if_neg (by simp [ho])))
      rw [show chgsS (tkN l).1.toNat (tkN l).2 = tkCh l from rfl] at hM
      have h2 := some2_any hM (by omega) rfl (tkP l).1 (tkP l).2 rfl rfl
      have q4 := hM.q4
      clear hM ho HE0
      go_wp2_with fail
      refine h2.mono ?_
      rintro e x2 ⟨rfl, hx⟩
      clear h2 q4
      rcases hx with ⟨ho, hM⟩ | ⟨ho, a4, c4, hM⟩
      · have HRR : Hid (takeE l = 5 ∧ takeC l = cmdZ) := Lib.hid (by
          have h1 : takeE l = 5 := by rw [HE1.out, if_pos ho]
          exact ⟨h1, by unfold takeC; rw [h1, if_pos (by decide)]⟩)
        have HM1 := Lib.hid hM
        have q4 := hM.q4
        have q1 := hM.q1
        clear hM ho HE1
        go_wp2_with (refine wpList_store_row rfl 25 (.tmp 2) (.tmp 35) rfl B2 (cmdA cmdZ none 0 none 0) _ 25 rfl rfl HM1.out.res (infoCmd2 _ _ _ _ _) rfl (cmdA_one _ _ _ _ _) ?_)
        refine ret_cmd rfl B2 cmdZ none 0 none 0 5 rfl (setRow_heap _ _ _ _ _ _ HM1.out.res) rfl rfl ?_
        exact HM1.out.fin HRR.out.1 HRR.out.2
      · have HE2 := Lib.hid (HE1.out.trans (if_neg (by simp [ho])))
        rw [show txtsS (tkP l).1.toNat (tkP l).2 = tkPs l from rfl] at hM
        have HM2 := Lib.hid hM
        have HQ := Lib.hid (And.intro hM.q4 hM.q0)
        have q4 := hM.q4
        have q1 := hM.q1
        clear hM ho HE1
        go_upto_region 7 with (fail)
        clear q4 q1
        refine wp_region_plan_last [([0, 1, 2, 3, 5, 6, 7, 8, 10, 11, 12, 13, 15, 16, 17, 18], 4), ([20], 9), ([], 14), ([], 19), ([], 21), ([22], 23), ([24], 25), ([26], 27)] [] (fun w' => w'.cell? ⟨B4, 0, none⟩ = some (.pointer (some ⟨BR, 0, none⟩)) ∧ w'.cell? ⟨BR, 0, none⟩ = some (.pointer (some ⟨br, 0, none⟩))) (by kernel_rfl) (by kernel_rfl) HQ.out ?_
        iterate 16
          refine plan_take (v := ?_) rfl rfl (fun w' hS => ?_) ?_
          rotate_left
          · skip
            go_simp; try with_reducible rfl
          simp only [Act.put, List.getElem_toArray, List.getElem_cons_zero, List.getElem_cons_succ, List.setIfInBounds_toArray, List.set_cons_zero, List.set_cons_succ]
        clear HQ
        refine plan_act rfl (fun K4 hK4 => ?_)
        go_wp2_with fail
        refine (rint_any br F (tkPs l).2 _ HM2.out.drew.rd (by omega)).mono ?_
        unfold ReadN
        rintro e v1 ⟨rfl, hR, hU⟩
        have N1 := Lib.hid (HM2.out.drew.read hR hU)
        rw [show intV (tkPs l).2 = (tk7 l).1 from rfl]
        rw [show (takeS 4 (tkPs l).2).2 = (tk7 l).2 from rfl] at N1
        clear hR hU
        have HQ := Lib.hid (And.intro N1.out.q4 N1.out.q0)
        go_wp2_with fail
        refine hK4.out _ _ (.inr HQ.out) ?_
        clear HQ
        refine plan_take (v := ?_) rfl rfl (fun w' hS => ?_) ?_
        rotate_left
        · skip
          go_simp; try with_reducible rfl
        simp only [Act.put, List.getElem_toArray, List.getElem_cons_zero, List.getElem_cons_succ, List.setIfInBounds_toArray, List.set_cons_zero, List.set_cons_succ]
        refine plan_act rfl (fun K9 hK9 => ?_)
        go_wp2_with fail
        refine (rint_any br F (tk7 l).2 _ N1.out.rd (by omega)).mono ?_
        unfold ReadN
        rintro e v2 ⟨rfl, hR, hU⟩
        have N2 := Lib.hid (N1.out.read hR hU)
        rw [show intV (tk7 l).2 = (tk8 l).1 from rfl]
        rw [show (takeS 4 (tk7 l).2).2 = (tk8 l).2 from rfl] at N2
        clear hR hU
        have HQ := Lib.hid (And.intro N2.out.q4 N2.out.q0)
        go_wp2_with fail
        refine hK9.out _ _ (.inr HQ.out) ?_
        clear HQ
        refine plan_act rfl (fun K14 hK14 => ?_)
        go_wp2_with fail
        refine (rint_any br F (tk8 l).2 _ N2.out.rd (by omega)).mono ?_
        unfold ReadN
        rintro e v3 ⟨rfl, hR, hU⟩
        have N3 := Lib.hid (N2.out.read hR hU)
        rw [show intV (tk8 l).2 = (tk9 l).1 from rfl]
        rw [show (takeS 4 (tk8 l).2).2 = (tk9 l).2 from rfl] at N3
        clear hR hU
        have HQ := Lib.hid (And.intro N3.out.q4 N3.out.q0)
        go_wp2_with fail
        refine hK14.out _ _ (.inr HQ.out) ?_
        clear HQ
        refine plan_act rfl (fun K19 hK19 => ?_)
        go_wp2_with fail
        refine (rtext_any br F (tk9 l).2 _ N3.out.rd (by omega)).mono ?_
        unfold ReadN
        rintro e v4 ⟨rfl, hR, hU⟩
        have N4 := Lib.hid (N3.out.read hR hU)
        rw [show textS (tk9 l).2 = tkNm l from rfl] at N4 ⊢
        clear hR hU
        have HQ := Lib.hid (And.intro N4.out.q4 N4.out.q0)
        go_wp2_with fail
        refine hK19.out _ _ (.inr HQ.out) ?_
        clear HQ
        clear N1 N2 N3
        obtain ⟨cb, uU⟩ := N4.out.cb.set 4 (.int .i64 (tk7 l).1) ⟨kk, (tkM l).1, (tkCh l).1, (tkPs l).1, (tk7 l).1, 0, 0, []⟩ rfl rfl rfl
        have N5 := Lib.hid (N4.out.wr cb uU)
        have s1 := N4.out.cb.cells.2.2.2.2.1
        have t1 := N4.out.cb.thaw 4
        have HQ := Lib.hid (And.intro N5.out.q4 N5.out.q0)
        clear cb uU
        refine plan_act rfl (fun K21 hK21 => ?_)
        go_wp2_with fail
        refine hK21.out _ _ (.inr HQ.out) ?_
        clear s1 t1 HQ
        refine plan_take (v := ?_) rfl rfl (fun w' hS => ?_) ?_
        rotate_left
        · skip
          go_simp; try with_reducible rfl
        simp only [Act.put, List.getElem_toArray, List.getElem_cons_zero, List.getElem_cons_succ, List.setIfInBounds_toArray, List.set_cons_zero, List.set_cons_succ]
        obtain ⟨cb, uU⟩ := N5.out.cb.set 5 (.int .i64 (tk8 l).1) ⟨kk, (tkM l).1, (tkCh l).1, (tkPs l).1, (tk7 l).1, (tk8 l).1, 0, []⟩ rfl rfl rfl
        have N6 := Lib.hid (N5.out.wr cb uU)
        have s1 := N5.out.cb.cells.2.2.2.2.2.1
        have t1 := N5.out.cb.thaw 5
        have HQ := Lib.hid (And.intro N6.out.q4 N6.out.q0)
        clear cb uU
        refine plan_act rfl (fun K23 hK23 => ?_)
        go_wp2_with fail
        refine hK23.out _ _ (.inr HQ.out) ?_
        clear s1 t1 HQ
        refine plan_take (v := ?_) rfl rfl (fun w' hS => ?_) ?_
        rotate_left
        · skip
          go_simp; try with_reducible rfl
        simp only [Act.put, List.getElem_toArray, List.getElem_cons_zero, List.getElem_cons_succ, List.setIfInBounds_toArray, List.set_cons_zero, List.set_cons_succ]
        obtain ⟨cb, uU⟩ := N6.out.cb.set 6 (.int .i64 (tk9 l).1) ⟨kk, (tkM l).1, (tkCh l).1, (tkPs l).1, (tk7 l).1, (tk8 l).1, (tk9 l).1, []⟩ rfl rfl rfl
        have N7 := Lib.hid (N6.out.wr cb uU)
        have s1 := N6.out.cb.cells.2.2.2.2.2.2.1
        have t1 := N6.out.cb.thaw 6
        have HQ := Lib.hid (And.intro N7.out.q4 N7.out.q0)
        clear cb uU
        refine plan_act rfl (fun K25 hK25 => ?_)
        go_wp2_with fail
        refine hK25.out _ _ (.inr HQ.out) ?_
        clear s1 t1 HQ
        refine plan_take (v := ?_) rfl rfl (fun w' hS => ?_) ?_
        rotate_left
        · skip
          go_simp; try with_reducible rfl
        simp only [Act.put, List.getElem_toArray, List.getElem_cons_zero, List.getElem_cons_succ, List.setIfInBounds_toArray, List.set_cons_zero, List.set_cons_succ]
        obtain ⟨cb, uU⟩ := N7.out.cb.set 7 (.string (str (tkNm l).1)) ⟨kk, (tkM l).1, (tkCh l).1, (tkPs l).1, (tk7 l).1, (tk8 l).1, (tk9 l).1, (tkNm l).1⟩ rfl rfl rfl
        have N8 := Lib.hid (N7.out.wr cb uU)
        have s1 := N7.out.cb.cells.2.2.2.2.2.2.2
        have t1 := N7.out.cb.thaw 7
        have HQ := Lib.hid (And.intro N8.out.q4 N8.out.q0)
        clear cb uU
        unfold sv at s1
        refine plan_act rfl (fun K27 hK27 => ?_)
        go_wp2_with fail
        refine hK27.out _ _ (.inl rfl) ?_
        clear s1 t1 HQ
        refine plan_end ?_
        generalize (((v4.setCell ⟨BC, 4, none⟩ (.int .i64 (tk7 l).1)).setCell ⟨BC, 5, none⟩ (.int .i64 (tk8 l).1)).setCell ⟨BC, 6, none⟩ (.int .i64 (tk9 l).1)).setCell ⟨BC, 7, none⟩ (.string (str (tkNm l).1)) = x12 at *
        clear N4 N5 N6 N7 HM2
        have hC : (⟨kk, (tkM l).1, (tkCh l).1, (tkPs l).1, (tk7 l).1, (tk8 l).1, (tk9 l).1, (tkNm l).1⟩ : Cmd) = tkC l := by rw [HKK.out]; rfl
        rw [hC] at N8
        have HEE : Hid (takeE l = endC (tkNm l).2.e (rightL (tkC l)) (packL (tkC l)) l) := HE2
        have herr := err_any br F (tkNm l).2.l (tkNm l).2.e x12 N8.out.rd
        have q4 := N8.out.q4
        have q0 := N8.out.q0
        have hnl : (tkNm l).1.length ≤ 1000000 := by omega
        clear hC HE2
        by_cases he : (tkNm l).2.e = 0
        case neg =>
          have hbn : ((tkNm l).2.e != 0) = true := by simpa using he
          have HRR : Hid (takeE l = (tkNm l).2.e ∧ takeC l = cmdZ) := Lib.hid (by
            have h1 : takeE l = (tkNm l).2.e := by rw [HEE.out]; unfold endC; rw [if_pos he]
            exact ⟨h1, by unfold takeC; rw [h1, if_pos he]⟩)
          clear he
          generalize (tkNm l).2.e = se at *
          go_wp2_with fail
          refine herr.mono ?_
          rintro e x' ⟨rfl, rfl⟩
          clear herr
          go_wp2_with (refine wpList_store_row rfl 25 (.tmp 2) (.tmp 67) rfl B2 (cmdA cmdZ none 0 none 0) _ 25 rfl rfl N8.out.res (infoCmd2 _ _ _ _ _) rfl (cmdA_one _ _ _ _ _) ?_)
          refine ret_cmd rfl B2 cmdZ none 0 none 0 se rfl (setRow_heap _ _ _ _ _ _ N8.out.res) rfl rfl ?_
          exact N8.out.fin HRR.out.1 HRR.out.2
        case pos =>
          rw [he] at herr
          have hE1 : takeE l = if rightL (tkC l) ≠ 0 then 5 else if packL (tkC l) ≠ l then 5 else 0 := by
            have h0 := HEE.out
            unfold endC at h0
            rw [if_neg (by simpa using he)] at h0
            exact h0
          have HE3 := Lib.hid hE1
          have hpk := cPack_any (tkC l) a3 c3 a4 c4 x12 N8.out.cb.inn hnl
          unfold cmdV sv at hpk
          obtain ⟨z0, z1, z2, z3, z4, z5, z6, z7⟩ := N8.out.cb.cells
          unfold sv at z1 z7
          have HPK := Lib.hid hpk
          clear hE1 he HEE hpk
          go_wp2_with fail
          refine herr.mono ?_
          rintro e x' ⟨rfl, rfl⟩
          clear herr
          have hpk := HPK.out
          go_wp2_with fail
          refine hpk.mono ?_
          unfold Packed
          rintro e x13 ⟨a9, d9, rfl, hv9, hf9, hU9⟩
          have HM13 := Lib.hid (N8.out.same hU9)
          have hsb := slEqB_any a9 a d9 c (packL (tkC l)) l x13 hv9 (HV.out.upd HM13.out.upd (fun _ _ h => h))
          have hkl : (packL (tkC l) == l) = decide (packL (tkC l) = l) := by rw [Bool.eq_iff_iff]; simp
          rw [hkl] at hsb
          have HSB := Lib.hid hsb
          clear hpk HPK hv9 hf9 hU9 hsb hkl z0 z1 z2 z3 z4 z5 z6 z7 N8 q4 q0
          by_cases h5 : rightL (tkC l) = 0
          case neg =>
            have hx1 := HE3.out
            rw [if_pos h5] at hx1
            have HRR : Hid (takeE l = 5 ∧ takeC l = cmdZ) := Lib.hid ⟨hx1, by unfold takeC; rw [hx1, if_pos (by decide)]⟩
            have hb5 : (rightL (tkC l) != 0) = true := by simpa using h5
            clear hx1 h5 HSB HE3
            generalize rightL (tkC l) = rr at *
            go_wp2_with (refine wpList_store_row rfl 25 (.tmp 2) (.tmp 82) rfl B2 (cmdA cmdZ none 0 none 0) _ 25 rfl rfl HM13.out.res (infoCmd2 _ _ _ _ _) rfl (cmdA_one _ _ _ _ _) ?_)
            refine ret_cmd rfl B2 cmdZ none 0 none 0 5 rfl (setRow_heap _ _ _ _ _ _ HM13.out.res) rfl rfl ?_
            exact HM13.out.fin HRR.out.1 HRR.out.2
          case pos =>
            have hx1 := HE3.out
            rw [if_neg (by simpa using h5)] at hx1
            rw [h5]
            by_cases h6 : packL (tkC l) = l
            case neg =>
              rw [if_pos h6] at hx1
              have hsb := HSB.out
              rw [decide_eq_false h6] at hsb
              have HRR : Hid (takeE l = 5 ∧ takeC l = cmdZ) := Lib.hid ⟨hx1, by unfold takeC; rw [hx1, if_pos (by decide)]⟩
              clear hx1 h5 h6 HSB HE3
              go_wp2_with fail
              refine hsb.mono ?_
              rintro e x14 ⟨rfl, hU⟩
              have HM14 := Lib.hid (HM13.out.same hU)
              clear hsb hU
              go_wp2_with (refine wpList_store_row rfl 25 (.tmp 2) (.tmp 82) rfl B2 (cmdA cmdZ none 0 none 0) _ 25 rfl rfl HM14.out.res (infoCmd2 _ _ _ _ _) rfl (cmdA_one _ _ _ _ _) ?_)
              refine ret_cmd rfl B2 cmdZ none 0 none 0 5 rfl (setRow_heap _ _ _ _ _ _ HM14.out.res) rfl rfl ?_
              exact HM14.out.fin HRR.out.1 HRR.out.2
            case pos =>
              rw [if_neg (by simpa using h6)] at hx1
              have hsb := HSB.out
              rw [decide_eq_true h6] at hsb
              have HRR : Hid (takeE l = 0 ∧ takeC l = tkC l) := Lib.hid ⟨hx1, by unfold takeC; rw [hx1, if_neg (by decide)]⟩
              clear hx1 h5 h6 HSB HE3
              go_wp2_with fail
              refine hsb.mono ?_
              rintro e x14 ⟨rfl, hU⟩
              have HM14 := Lib.hid (HM13.out.same hU)
              obtain ⟨z0, z1, z2, z3, z4, z5, z6, z7⟩ := HM14.out.cb.cells
              unfold sv at z1 z7
              clear hsb hU
              go_wp2_with (refine wpList_store_row rfl 25 (.tmp 2) (.tmp 83) rfl B2 (cmdA (tkC l) a3 c3 a4 c4) _ 25 rfl rfl HM14.out.res (infoCmd2 _ _ _ _ _) rfl (cmdA_one _ _ _ _ _) ?_)
              refine ret_cmd rfl B2 (tkC l) a3 c3 a4 c4 0 rfl (setRow_heap _ _ _ _ _ _ HM14.out.res) rfl rfl ?_
              exact HM14.out.good HRR.out.1 HRR.out.2
end Go.Proofs.YteefceainlfdfaaDoor
