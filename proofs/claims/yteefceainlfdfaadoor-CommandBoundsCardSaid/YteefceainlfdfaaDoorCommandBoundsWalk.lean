
/- The walk of CommandBounds: a message, a text, a count, a name at its bound and one beyond. -/
import Derived.Test.YteefceainlfdfaaDoorAwake25
import Derived.Test.YteefceainlfdfaaDoorPath6
namespace Go.Proofs.YteefceainlfdfaaDoor
set_option linter.unusedSimpArgs false
set_option linter.unusedVariables false
set_option maxRecDepth 100000
open Go.ChangeShapes Go.WideShapes Go.ChangeAt Go.RowKit

theorem bnd0 (l : List UInt8) : rightL ⟨1, l, [], [], 0, 0, 0, []⟩ = if 1000 < l.length then 6 else 0 := by
  unfold rightL rightOf longL pathsL
  by_cases h : 1000 < l.length <;> simp [h]
theorem pathL_a : pathL [97] = true := by decide +kernel
theorem bnd1 (l : List UInt8) : rightL ⟨1, [], [⟨[97], false, false, l⟩], [], 0, 0, 0, []⟩ = if 20000 < l.length then 6 else 0 := by
  unfold rightL rightOf longL pathsL badCh longT
  by_cases h : 20000 < l.length <;> simp [h, pathL_a]
theorem bnd2 (n : Nat) : rightL ⟨1, [], [], List.replicate n [97], 0, 0, 0, []⟩ = if 100 < n then 6 else 0 := by
  unfold rightL rightOf longL pathsL
  have hb : (List.replicate n ([97] : List UInt8)).any badPa = false := by
    rw [List.any_eq_false]
    intro x hx
    rw [List.eq_of_mem_replicate hx]; unfold badPa; rw [pathL_a]; decide
  by_cases h : 100 < n <;> simp [h, hb]
theorem bnd3 (n : Nat) (h1 : 1 ≤ n) : rightL ⟨12, [], [], [], 0, 0, 0, List.replicate n 97⟩ = if 50 < n then 24 else 0 := by
  unfold rightL rightOf longL pathsL nameL
  have hb : (List.replicate n (97 : UInt8)).any badB = false := by
    rw [List.any_eq_false]
    intro x hx
    rw [List.eq_of_mem_replicate hx]; decide
  by_cases h : 50 < n
  · simp [h, hb, h1]
  · simp [h, hb, h1]
theorem bnd4 (m : Int) : rightL ⟨4, [], [], [], m, 0, 0, []⟩ = if m < 2 ∨ 100 < m then 1 else 0 := by
  unfold rightL rightOf longL pathsL
  by_cases h : m < 2 ∨ 100 < m <;> simp [h]
theorem zeros (w : World) (o : Obj) (N : Nat) (hN : N ≤ 30000) : ∃ l : List UInt8, Hid (l.length = N) ∧
    (convert 28 9 (.slice (some ⟨w.heap.size + 1, 0, none⟩) N N)).run Tryd.prog ((w.alloc o).alloc (.cells (madeCells #[.int .u8 0] N) 5)) = .ok (.string (str l)) ((w.alloc o).alloc (.cells (madeCells #[.int .u8 0] N) 5)) := by
  refine ⟨List.replicate N 0, Lib.hid List.length_replicate, ?_⟩
  have h := World.ownsRow_lit (base := 0) (e := 5) (size := 1) (w.alloc o) (madeCells #[.int .u8 0] N) N (Nat.zero_le _) (by unfold maxLen; omega) (by rw [size_madeCells, Nat.mul_one])
  rw [toList_madeCells_one] at h
  have e : List.replicate N (Value.int .u8 0) = bvs (List.replicate N 0) := by simp [bvs, bv]
  rw [e] at h
  have hv := Vw.conv (l := List.replicate N 0) (c := N) (by rw [List.length_replicate]; exact Vw.of_own h)
  rw [List.length_replicate] at hv
  simpa using hv
theorem one_at (w : World) (o0 : Obj) : Upd (fun i => w.heap.size ≤ i) w (w.alloc o0) ∧ (w.alloc o0).heap[w.heap.size]? = some o0 :=
  ⟨Upd.alloc _ _ _, heap_alloc_new _ _⟩
theorem two_at (w : World) (o0 o1 : Obj) : Upd (fun i => w.heap.size ≤ i) w ((w.alloc o0).alloc o1) ∧
    ((w.alloc o0).alloc o1).heap[w.heap.size]? = some o0 ∧ ((w.alloc o0).alloc o1).heap[w.heap.size + 1]? = some o1 := by
  refine ⟨(Upd.alloc _ _ _).trans (Upd.alloc _ _ _), ?_, ?_⟩
  · rw [Below.heap_alloc _ _ _ (by simp)]
    exact heap_alloc_new _ _
  · have := heap_alloc_new (w.alloc o0) o1
    simpa using this
theorem three_at (w : World) (o0 o1 o2 : Obj) : Upd (fun i => w.heap.size ≤ i) w (((w.alloc o0).alloc o1).alloc o2) ∧
    (((w.alloc o0).alloc o1).alloc o2).heap[w.heap.size]? = some o0 ∧ (((w.alloc o0).alloc o1).alloc o2).heap[w.heap.size + 1 + 1]? = some o2 := by
  refine ⟨((Upd.alloc _ _ _).trans (Upd.alloc _ _ _)).trans (Upd.alloc _ _ _), ?_, ?_⟩
  · rw [Below.heap_alloc _ _ _ (by simp <;> omega), Below.heap_alloc _ _ _ (by simp)]
    exact heap_alloc_new _ _
  · have := heap_alloc_new ((w.alloc o0).alloc o1) o2
    simpa using this
theorem free_of_row {w : World} {b j : Nat} {cs : Array Value} {t : TypeId} (h : w.heap[b]? = some (.cells cs t (0, 0))) : w.frozen? ⟨b, j, none⟩ = false := by simp [World.frozen?, h]
theorem row_set {w : World} {b j : Nat} {cs : Array Value} {u : Value} {t : TypeId} {fr : Nat × Nat} (h : w.heap[b]? = some (.cells cs t fr)) : (w.setCell ⟨b, j, none⟩ u).heap[b]? = some (.cells (cs.setIfInBounds j u) t fr) := by
  have hlt := lt_of_block h
  have h' : w.heap[b] = .cells cs t fr := by simpa [Array.getElem?_eq_getElem hlt] using h
  show (w.heap.modify b _)[b]? = _
  rw [Array.getElem?_eq_getElem (by simpa using hlt), Array.getElem_modify_self, h']
  rfl
theorem str_push_a (n : Nat) : str (List.replicate n 97) ++ ⟨#[97]⟩ = str (List.replicate (n + 1) 97) := by
  have e : (⟨#[97]⟩ : ByteArray) = str [97] := rfl
  rw [List.replicate_succ', e]
  apply ByteArray.ext
  rw [ByteArray.data_append]
  simp only [str, List.append_toArray]
/-- The command of a case in memory. -/
structure Boxed (w0 : World) (c : Cmd) (a1 : Option Addr) (c1 : Nat) (a2 : Option Addr) (c2 : Nat) (r : Int) (w : World) : Prop where
  upd : Upd (fun i => w0.heap.size ≤ i) w0 w
  row : w.heap[w0.heap.size]? = some (.cells (cmdV c a1 c1 a2 c2).cells 25)
  views : CmdIn w c a1 c1 a2 c2
  right : rightL c = r
theorem vw_row1 {w : World} {b n : Nat} {T : TypeId} {cs : Array Value} {fr : Nat × Nat} {size : Nat} (hr : w.heap[b]? = some (.cells cs T fr)) (hn : cs.size = n * size) (hm : n ≤ 1000000) : Vw w (some ⟨b, 0, none⟩) n n size cs.toList := by
  refine ⟨by simpa using hn, Nat.le_refl _, by unfold maxLen; omega, (fun h => by cases h), fun x hx j u hu => ?_⟩
  cases hx
  have ha : (Addr.add ⟨b, 0, none⟩ j) = ⟨b, j, none⟩ := by unfold Addr.add; split <;> simp_all
  rw [ha, cell_of_row _ _ _ _ _ _ hr]
  simpa using hu

set_option maxHeartbeats 8000000 in
theorem Bnd0f (w : World) (k0 : Int) (hk : (IntKind.u64.wrap k0).tmod 6 = 0) :
    Calls Tryd.prog 3 #[.int .i64 k0, .bool false] w fun e w' => e = .returned (.bool true) ∧ Below w.heap.size w w' := by
  obtain ⟨N, hN⟩ : ∃ N : Nat, Hid (N = 1000) := ⟨_, Lib.hid rfl⟩
  have hNi : (N : Int) = 1000 := by have := hN.out; omega
  have hmk := run_make_row' (P := Tryd.prog) 28 5 (.int .u8 0) 1 Tryd.underlying28 infoU8 rfl .i64 .i64 N (by omega) (by omega)
  rw [hNi] at hmk
  clear hNi
  go_enter Tryd.func3, Tryd.ntmps3
  go_upto_region 9 with (fail)
  obtain ⟨l, hl, hz⟩ := zeros w (.cells #[.int .i64 1, .string ⟨#[]⟩, .slice none 0 0, .slice none 0 0, .int .i64 0, .int .i64 0, .int .i64 0, .string ⟨#[]⟩] 25) N (by have := hN.out; omega)
  go_upto_region 27 with (fail)
  have HB : Hid (Boxed w ⟨1, l, [], [], 0, 0, 0, []⟩ none 0 none 0 0 ((w.alloc (.cells #[.int .i64 1, .string (str l), .slice none 0 0, .slice none 0 0, .int .i64 0, .int .i64 0, .int .i64 0, .string ⟨#[]⟩] 25)).alloc (.cells (madeCells #[.int .u8 0] N) 5))) := by
    have hF := two_at w (.cells #[.int .i64 1, .string (str l), .slice none 0 0, .slice none 0 0, .int .i64 0, .int .i64 0, .int .i64 0, .string ⟨#[]⟩] 25) (.cells (madeCells #[.int .u8 0] N) 5)
    refine Lib.hid ⟨hF.1, hF.2.1, ⟨Vw.nl _ 4, Vw.nl _ 1⟩, ?_⟩
    rw [bnd0, hl.out, hN.out]; decide
  generalize ((w.alloc (.cells #[.int .i64 1, .string (str l), .slice none 0 0, .slice none 0 0, .int .i64 0, .int .i64 0, .int .i64 0, .string ⟨#[]⟩] 25)).alloc (.cells (madeCells #[.int .u8 0] N) 5)) = w1 at HB ⊢
  clear hmk hz
  have hrc := fun w' (hU : Upd (fun _ => False) w1 w') => cRight_any ⟨1, l, [], [], 0, 0, 0, []⟩ none 0 none 0 w' (HB.out.views.upd hU)
  simp only [HB.out.right] at hrc
  have hrow := HB.out.row
  unfold cmdV at hrc hrow
  unfold sv at hrc hrow
  dsimp only [Value.cells, List.length_nil, List.length_cons] at hrc hrow
  have hs0 : str [] = ⟨#[]⟩ := rfl
  simp only [hs0] at hrc hrow
  have HC := Lib.hid hrc
  have HR := Lib.hid hrow
  clear hrc hrow hs0
  go_wp2_with fail
  refine (awake25_any _).mono ?_
  rintro e w2 ⟨rfl, hU2⟩
  have hrc := HC.out w2 hU2
  obtain ⟨z0, z1, z2, z3, z4, z5, z6, z7⟩ := cmd_cells HR.out hU2
  have HU2 := Lib.hid hU2
  clear hU2
  go_wp2_with fail
  refine hrc.mono ?_
  rintro e w3 ⟨rfl, hU3⟩
  clear z0 z1 z2 z3 z4 z5 z6 z7 hrc
  go_wp2_with fail
  go_ret
  exact ⟨by first | rfl | simp, (HB.out.upd.trans ((HU2.out.trans hU3).mono (fun _ _ h => h.elim))).below (Nat.le_refl _) (fun i hi hs => by omega)⟩

set_option maxHeartbeats 8000000 in
theorem Bnd1f (w : World) (k0 : Int) (hk : (IntKind.u64.wrap k0).tmod 6 = 1) :
    Calls Tryd.prog 3 #[.int .i64 k0, .bool false] w fun e w' => e = .returned (.bool true) ∧ Below w.heap.size w w' := by
  obtain ⟨N, hN⟩ : ∃ N : Nat, Hid (N = 20000) := ⟨_, Lib.hid rfl⟩
  have hNi : (N : Int) = 20000 := by have := hN.out; omega
  have hmk := run_make_row' (P := Tryd.prog) 28 5 (.int .u8 0) 1 Tryd.underlying28 infoU8 rfl .i64 .i64 N (by omega) (by omega)
  rw [hNi] at hmk
  clear hNi
  go_enter Tryd.func3, Tryd.ntmps3
  go_upto_region 11 with (fail)
  obtain ⟨l, hl, hz⟩ := zeros w (.cells #[.int .i64 1, .string ⟨#[]⟩, .slice none 0 0, .slice none 0 0, .int .i64 0, .int .i64 0, .int .i64 0, .string ⟨#[]⟩] 25) N (by have := hN.out; omega)
  go_upto_region 27 with (fail)
  have HB : Hid (Boxed w ⟨1, [], [⟨[97], false, false, l⟩], [], 0, 0, 0, []⟩ (some ⟨w.heap.size + 1 + 1, 0, none⟩) 1 none 0 0 (((w.alloc (.cells #[.int .i64 1, .string ⟨#[]⟩, .slice (some ⟨w.heap.size + 1 + 1, 0, none⟩) 1 1, .slice none 0 0, .int .i64 0, .int .i64 0, .int .i64 0, .string ⟨#[]⟩] 25)).alloc (.cells (madeCells #[.int .u8 0] N) 5)).alloc (.cells #[.string ⟨#[97]⟩, .bool false, .bool false, .string (str l)] 30))) := by
    have hF := three_at w (.cells #[.int .i64 1, .string ⟨#[]⟩, .slice (some ⟨w.heap.size + 1 + 1, 0, none⟩) 1 1, .slice none 0 0, .int .i64 0, .int .i64 0, .int .i64 0, .string ⟨#[]⟩] 25) (.cells (madeCells #[.int .u8 0] N) 5) (.cells #[.string ⟨#[97]⟩, .bool false, .bool false, .string (str l)] 30)
    refine Lib.hid ⟨hF.1, hF.2.1, ⟨vw_row1 (n := 1) (size := 4) hF.2.2 rfl (by decide), Vw.nl _ 1⟩, ?_⟩
    rw [bnd1, hl.out, hN.out]; decide
  generalize (((w.alloc (.cells #[.int .i64 1, .string ⟨#[]⟩, .slice (some ⟨w.heap.size + 1 + 1, 0, none⟩) 1 1, .slice none 0 0, .int .i64 0, .int .i64 0, .int .i64 0, .string ⟨#[]⟩] 25)).alloc (.cells (madeCells #[.int .u8 0] N) 5)).alloc (.cells #[.string ⟨#[97]⟩, .bool false, .bool false, .string (str l)] 30)) = w1 at HB ⊢
  clear hmk hz
  have hrc := fun w' (hU : Upd (fun _ => False) w1 w') => cRight_any ⟨1, [], [⟨[97], false, false, l⟩], [], 0, 0, 0, []⟩ (some ⟨w.heap.size + 1 + 1, 0, none⟩) 1 none 0 w' (HB.out.views.upd hU)
  simp only [HB.out.right] at hrc
  have hrow := HB.out.row
  unfold cmdV at hrc hrow
  unfold sv at hrc hrow
  dsimp only [Value.cells, List.length_nil, List.length_cons] at hrc hrow
  have hs0 : str [] = ⟨#[]⟩ := rfl
  simp only [hs0] at hrc hrow
  have HC := Lib.hid hrc
  have HR := Lib.hid hrow
  clear hrc hrow hs0
  go_wp2_with fail
  refine (awake25_any _).mono ?_
  rintro e w2 ⟨rfl, hU2⟩
  have hrc := HC.out w2 hU2
  obtain ⟨z0, z1, z2, z3, z4, z5, z6, z7⟩ := cmd_cells HR.out hU2
  have HU2 := Lib.hid hU2
  clear hU2
  go_wp2_with fail
  refine hrc.mono ?_
  rintro e w3 ⟨rfl, hU3⟩
  clear z0 z1 z2 z3 z4 z5 z6 z7 hrc
  go_wp2_with fail
  go_ret
  exact ⟨by first | rfl | simp, (HB.out.upd.trans ((HU2.out.trans hU3).mono (fun _ _ h => h.elim))).below (Nat.le_refl _) (fun i hi hs => by omega)⟩

set_option maxHeartbeats 8000000 in
theorem Bnd2f (w : World) (k0 : Int) (hk : (IntKind.u64.wrap k0).tmod 6 = 2) :
    Calls Tryd.prog 3 #[.int .i64 k0, .bool false] w fun e w' => e = .returned (.bool true) ∧ Below w.heap.size w w' := by
  obtain ⟨N, hN⟩ : ∃ N : Nat, Hid (N = 100) := ⟨_, Lib.hid rfl⟩
  have hNi : (N : Int) = 100 := by have := hN.out; omega
  have hN1 : N ≤ 101 := by omega
  have hmk := run_make_row' (P := Tryd.prog) 23 9 (.string ByteArray.empty) 16 Tryd.underlying23 infoStr rfl .i64 .i64 N (by omega) (by omega)
  rw [hNi] at hmk
  clear hNi
  go_enter Tryd.func3, Tryd.ntmps3
  go_upto_region 14 with (fail)
  have HB : Hid (Upd (fun i => w.heap.size ≤ i) w ((w.alloc (.cells #[.int .i64 1, .string ⟨#[]⟩, .slice none 0 0, .slice (some ⟨w.heap.size + 1, 0, none⟩) N N, .int .i64 0, .int .i64 0, .int .i64 0, .string ⟨#[]⟩] 25)).alloc (.cells (madeCells #[.string ByteArray.empty] N) 9)) ∧ (((w.alloc (.cells #[.int .i64 1, .string ⟨#[]⟩, .slice none 0 0, .slice (some ⟨w.heap.size + 1, 0, none⟩) N N, .int .i64 0, .int .i64 0, .int .i64 0, .string ⟨#[]⟩] 25)).alloc (.cells (madeCells #[.string ByteArray.empty] N) 9))).heap[w.heap.size]? = some (.cells #[.int .i64 1, .string ⟨#[]⟩, .slice none 0 0, .slice (some ⟨w.heap.size + 1, 0, none⟩) N N, .int .i64 0, .int .i64 0, .int .i64 0, .string ⟨#[]⟩] 25)) := by
    have hF := two_at w (.cells #[.int .i64 1, .string ⟨#[]⟩, .slice none 0 0, .slice (some ⟨w.heap.size + 1, 0, none⟩) N N, .int .i64 0, .int .i64 0, .int .i64 0, .string ⟨#[]⟩] 25) (.cells (madeCells #[.string ByteArray.empty] N) 9)
    exact Lib.hid ⟨hF.1, hF.2.1⟩
  have hO1 : Hid ((((w.alloc (.cells #[.int .i64 1, .string ⟨#[]⟩, .slice none 0 0, .slice (some ⟨w.heap.size + 1, 0, none⟩) N N, .int .i64 0, .int .i64 0, .int .i64 0, .string ⟨#[]⟩] 25)).alloc (.cells (madeCells #[.string ByteArray.empty] N) 9))).ownsRow 0 9 1 (.slice (some ⟨w.heap.size + 1, 0, none⟩) N N) N (([] : List (List UInt8)).map sv ++ List.replicate (N - 0) (sv []))) := by
    have hF := made_strs (w.alloc (.cells #[.int .i64 1, .string ⟨#[]⟩, .slice none 0 0, .slice (some ⟨w.heap.size + 1, 0, none⟩) N N, .int .i64 0, .int .i64 0, .int .i64 0, .string ⟨#[]⟩] 25)) N (by omega)
    exact Lib.hid (by simpa using hF)
  generalize ((w.alloc (.cells #[.int .i64 1, .string ⟨#[]⟩, .slice none 0 0, .slice (some ⟨w.heap.size + 1, 0, none⟩) N N, .int .i64 0, .int .i64 0, .int .i64 0, .string ⟨#[]⟩] 25)).alloc (.cells (madeCells #[.string ByteArray.empty] N) 9)) = w1 at HB hO1 ⊢
  clear hmk
  obtain ⟨y0, y1, y2, y3, y4, y5, y6, y7⟩ := cmd_cells HB.out.2 (Upd.refl _ w1)
  go_wp2_with fail
  clear y0 y1 y2 y3 y4 y5 y6 y7
  go_loopw [44] (fun i wr => ∃ (j : Nat), j ≤ N ∧ i = .int .i64 (j : Int) ∧ Hid (wr.ownsRow 0 9 1 (.slice (some ⟨w.heap.size + 1, 0, none⟩) N N) N ((List.replicate j ([97] : List UInt8)).map sv ++ List.replicate (N - j) (sv [])) ∧ Upd (fun i => w.heap.size + 1 = i) w1 wr)) (fun i _ => N - (intOf i).toNat)
  case atStart => exact ⟨0, by omega, rfl, Lib.hid ⟨hO1.out, Upd.refl _ _⟩⟩
  case round =>
    obtain ⟨j, hj, rfl, hH⟩ := hrel
    by_cases hlt : j < N
    · have hI : (j : Int) < (N : Int) := by omega
      obtain ⟨hO, hU⟩ := hH.out
      have hcell : wr.cell? ⟨w.heap.size + 1, j, none⟩ = some (.string (str [])) := by
        rw [hO.cellAt j (by omega)]; exact cells_at _ N j List.length_replicate hlt
      have hth := hO.frozenAt j
      obtain ⟨hst, hgr⟩ := hO.stored j (sv [97])
      rw [cells_set _ [97] N j List.length_replicate hlt] at hst
      have hU2 := hU.trans (Upd.setCell (S := fun i => w.heap.size + 1 = i) wr (p := ⟨w.heap.size + 1, j, none⟩) rfl (sv [97]))
      have hrow3 : wr.cell? ⟨w.heap.size, 3, none⟩ = some (.slice (some ⟨w.heap.size + 1, 0, none⟩) N N) := by
        rw [cell_of_row _ _ _ _ _ _ ((hU.block _ (lt_of_heap HB.out.2) (fun h => by omega)).trans HB.out.2)]; rfl
      have HST := Lib.hid (And.intro hst hU2)
      clear hst hgr hO hU hU2
      go_wp2_with fail
      go_roundw
      case rel =>
        refine ⟨j + 1, by omega, by first | rfl | go_num, Lib.hid ⟨?_, HST.out.2⟩⟩
        have := HST.out.1
        rwa [← List.replicate_succ'] at this
      case measure => simp [intOf]; omega
    · obtain rfl : j = N := by omega
      have hB2 : Hid (Boxed w ⟨1, [], [], List.replicate j [97], 0, 0, 0, []⟩ none 0 (some ⟨w.heap.size + 1, 0, none⟩) j 0 wr) := by
        obtain ⟨hO, hU⟩ := hH.out
        rw [Nat.sub_self, List.replicate_zero, List.append_nil] at hO
        refine Lib.hid ⟨HB.out.1.trans (hU.mono (fun i _ h => by omega)), ?_, ⟨Vw.nl _ 4, ?_⟩, ?_⟩
        · have := (hU.block _ (lt_of_heap HB.out.2) (fun h => by omega)).trans HB.out.2
          rw [this]; unfold cmdV; dsimp only [Value.cells]; rw [List.length_replicate]; rfl
        · show Vw _ _ (List.replicate j [97]).length _ _ _
          rw [List.length_replicate]; exact Vw.of_own hO
        · rw [bnd2, hN.out]; decide
      clear HB hH hO1
      have hrc := fun w' (hU : Upd (fun _ => False) wr w') => cRight_any ⟨1, [], [], List.replicate j [97], 0, 0, 0, []⟩ none 0 (some ⟨w.heap.size + 1, 0, none⟩) j w' (hB2.out.views.upd hU)
      simp only [hB2.out.right] at hrc
      have hrow := hB2.out.row
      unfold cmdV at hrc hrow
      unfold sv at hrc hrow
      dsimp only [Value.cells, List.length_nil, List.length_cons] at hrc hrow
      have hs0 : str [] = ⟨#[]⟩ := rfl
      simp only [hs0, List.length_replicate] at hrc hrow
      have HC := Lib.hid hrc
      have HR := Lib.hid hrow
      clear hrc hrow hs0
      go_wp2_with fail
      refine (awake25_any _).mono ?_
      rintro e w2 ⟨rfl, hU2⟩
      have hrc := HC.out w2 hU2
      obtain ⟨z0, z1, z2, z3, z4, z5, z6, z7⟩ := cmd_cells HR.out hU2
      have HU2 := Lib.hid hU2
      clear hU2
      go_wp2_with fail
      refine hrc.mono ?_
      rintro e w3 ⟨rfl, hU3⟩
      clear z0 z1 z2 z3 z4 z5 z6 z7 hrc
      go_wp2_with fail
      go_ret
      exact ⟨by first | rfl | simp, (hB2.out.upd.trans ((HU2.out.trans hU3).mono (fun _ _ h => h.elim))).below (Nat.le_refl _) (fun i hi hs => by omega)⟩

set_option maxHeartbeats 8000000 in
theorem Bnd3f (w : World) (k0 : Int) (hk : (IntKind.u64.wrap k0).tmod 6 = 3) :
    Calls Tryd.prog 3 #[.int .i64 k0, .bool false] w fun e w' => e = .returned (.bool true) ∧ Below w.heap.size w w' := by
  obtain ⟨N, hN⟩ : ∃ N : Nat, Hid (N = 50) := ⟨_, Lib.hid rfl⟩
  have hNi : (50 : Int) = (N : Int) := by have := hN.out; omega
  have hN1 : N ≤ 51 := by omega
  go_enter Tryd.func3, Tryd.ntmps3
  go_upto_region 21 with (fail)
  have HB : Hid (Upd (fun i => w.heap.size ≤ i) w (w.alloc (.cells #[.int .i64 12, .string ⟨#[]⟩, .slice none 0 0, .slice none 0 0, .int .i64 0, .int .i64 0, .int .i64 0, .string ⟨#[]⟩] 25)) ∧ (w.alloc (.cells #[.int .i64 12, .string ⟨#[]⟩, .slice none 0 0, .slice none 0 0, .int .i64 0, .int .i64 0, .int .i64 0, .string ⟨#[]⟩] 25)).heap[w.heap.size]? = some (.cells ([.int .i64 12, .string ⟨#[]⟩, .slice none 0 0, .slice none 0 0, .int .i64 0, .int .i64 0, .int .i64 0, .string (str [])]).toArray 25)) := by
    have hF := one_at w (.cells #[.int .i64 12, .string ⟨#[]⟩, .slice none 0 0, .slice none 0 0, .int .i64 0, .int .i64 0, .int .i64 0, .string ⟨#[]⟩] 25)
    exact Lib.hid ⟨hF.1, hF.2⟩
  generalize w.alloc (.cells #[.int .i64 12, .string ⟨#[]⟩, .slice none 0 0, .slice none 0 0, .int .i64 0, .int .i64 0, .int .i64 0, .string ⟨#[]⟩] 25) = w1 at HB ⊢
  go_wp2_with fail
  go_loopw [9] (fun i wr => ∃ (j : Nat), j ≤ N ∧ i = .int .i64 (j : Int) ∧ Hid (Upd (fun i => w.heap.size ≤ i) w wr ∧ wr.heap[w.heap.size]? = some (.cells ([.int .i64 12, .string ⟨#[]⟩, .slice none 0 0, .slice none 0 0, .int .i64 0, .int .i64 0, .int .i64 0, .string (str (List.replicate j 97))]).toArray 25))) (fun i _ => N - (intOf i).toNat)
  case atStart => exact ⟨0, by omega, rfl, HB⟩
  case round =>
    clear HB
    obtain ⟨j, hj, rfl, hH⟩ := hrel
    obtain ⟨hU, hrow⟩ := hH.out
    by_cases hlt : j < N
    · have hI : (j : Int) < 50 := by omega
      have hc7 : wr.cell? ⟨w.heap.size, 7, none⟩ = some (.string (str (List.replicate j 97))) := by
        rw [cell_of_row _ _ _ _ _ _ hrow]; rfl
      have hf7 : wr.frozen? ⟨w.heap.size, 7, none⟩ = false := free_of_row hrow
      have hadd := str_push_a j
      have hsz : ¬ 9223372036854775807 < (str (List.replicate j 97)).size + 1 := by rw [str_size, List.length_replicate]; omega
      have hr2 := row_set (j := 7) (u := .string (str (List.replicate (j + 1) 97))) hrow
      have hU2 := hU.trans (Upd.setCell (S := fun i => w.heap.size ≤ i) wr (p := ⟨w.heap.size, 7, none⟩) (Nat.le_refl _) (.string (str (List.replicate (j + 1) 97))))
      have HST := Lib.hid (And.intro hU2 hr2)
      clear hU hrow hU2 hr2
      go_wp2_with fail
      go_roundw
      case rel => exact ⟨j + 1, by omega, by first | rfl | go_num, HST⟩
      case measure => simp [intOf]; omega
    · have hI : decide ((j : Int) < 50) = false := by rw [decide_eq_false_iff_not]; omega
      obtain rfl : j = N := by omega
      have hB2 : Hid (Boxed w ⟨12, [], [], [], 0, 0, 0, List.replicate j 97⟩ none 0 none 0 0 wr) := by
        refine Lib.hid ⟨hU, hrow, ⟨Vw.nl _ 4, Vw.nl _ 1⟩, ?_⟩
        rw [bnd3 _ (by have := hN.out; omega), hN.out]; decide
      clear hU hrow hH
      have hrc := fun w' (hU : Upd (fun _ => False) wr w') => cRight_any ⟨12, [], [], [], 0, 0, 0, List.replicate j 97⟩ none 0 none 0 w' (hB2.out.views.upd hU)
      simp only [hB2.out.right] at hrc
      have hrow := hB2.out.row
      unfold cmdV at hrc hrow
      unfold sv at hrc hrow
      dsimp only [Value.cells, List.length_nil, List.length_cons] at hrc hrow
      have hs0 : str [] = ⟨#[]⟩ := rfl
      simp only [hs0] at hrc hrow
      have HC := Lib.hid hrc
      have HR := Lib.hid hrow
      clear hrc hrow hs0
      go_wp2_with fail
      refine (awake25_any _).mono ?_
      rintro e w2 ⟨rfl, hU2⟩
      have hrc := HC.out w2 hU2
      obtain ⟨z0, z1, z2, z3, z4, z5, z6, z7⟩ := cmd_cells HR.out hU2
      have HU2 := Lib.hid hU2
      clear hU2
      go_wp2_with fail
      refine hrc.mono ?_
      rintro e w3 ⟨rfl, hU3⟩
      clear z0 z1 z2 z3 z4 z5 z6 z7 hrc
      go_wp2_with fail
      go_ret
      exact ⟨by first | rfl | simp, (hB2.out.upd.trans ((HU2.out.trans hU3).mono (fun _ _ h => h.elim))).below (Nat.le_refl _) (fun i hi hs => by omega)⟩

set_option maxHeartbeats 8000000 in
theorem Bnd4f (w : World) (k0 : Int) (hk : (IntKind.u64.wrap k0).tmod 6 = 4) :
    Calls Tryd.prog 3 #[.int .i64 k0, .bool false] w fun e w' => e = .returned (.bool true) ∧ Below w.heap.size w w' := by
  go_enter Tryd.func3, Tryd.ntmps3
  go_upto_region 27 with (fail)
  have HB : Hid (Boxed w ⟨4, [], [], [], 100, 0, 0, []⟩ none 0 none 0 0 (w.alloc (.cells #[.int .i64 4, .string ⟨#[]⟩, .slice none 0 0, .slice none 0 0, .int .i64 100, .int .i64 0, .int .i64 0, .string ⟨#[]⟩] 25))) := by
    have hF := one_at w (.cells #[.int .i64 4, .string ⟨#[]⟩, .slice none 0 0, .slice none 0 0, .int .i64 100, .int .i64 0, .int .i64 0, .string ⟨#[]⟩] 25)
    refine Lib.hid ⟨hF.1, hF.2, ⟨Vw.nl _ 4, Vw.nl _ 1⟩, ?_⟩
    rw [bnd4]; decide
  generalize w.alloc (.cells #[.int .i64 4, .string ⟨#[]⟩, .slice none 0 0, .slice none 0 0, .int .i64 100, .int .i64 0, .int .i64 0, .string ⟨#[]⟩] 25) = w1 at HB ⊢
  have hrc := fun w' (hU : Upd (fun _ => False) w1 w') => cRight_any ⟨4, [], [], [], 100, 0, 0, []⟩ none 0 none 0 w' (HB.out.views.upd hU)
  simp only [HB.out.right] at hrc
  have hrow := HB.out.row
  unfold cmdV at hrc hrow
  unfold sv at hrc hrow
  dsimp only [Value.cells, List.length_nil, List.length_cons] at hrc hrow
  have hs0 : str [] = ⟨#[]⟩ := rfl
  simp only [hs0] at hrc hrow
  have HC := Lib.hid hrc
  have HR := Lib.hid hrow
  clear hrc hrow hs0
  go_wp2_with fail
  refine (awake25_any _).mono ?_
  rintro e w2 ⟨rfl, hU2⟩
  have hrc := HC.out w2 hU2
  obtain ⟨z0, z1, z2, z3, z4, z5, z6, z7⟩ := cmd_cells HR.out hU2
  have HU2 := Lib.hid hU2
  clear hU2
  go_wp2_with fail
  refine hrc.mono ?_
  rintro e w3 ⟨rfl, hU3⟩
  clear z0 z1 z2 z3 z4 z5 z6 z7 hrc
  go_wp2_with fail
  go_ret
  exact ⟨by first | rfl | simp, (HB.out.upd.trans ((HU2.out.trans hU3).mono (fun _ _ h => h.elim))).below (Nat.le_refl _) (fun i hi hs => by omega)⟩

set_option maxHeartbeats 8000000 in
theorem Bnd5f (w : World) (k0 : Int) (hk : (IntKind.u64.wrap k0).tmod 6 = 5) :
    Calls Tryd.prog 3 #[.int .i64 k0, .bool false] w fun e w' => e = .returned (.bool true) ∧ Below w.heap.size w w' := by
  go_enter Tryd.func3, Tryd.ntmps3
  go_upto_region 27 with (fail)
  have HB : Hid (Boxed w ⟨4, [], [], [], 2, 0, 0, []⟩ none 0 none 0 0 (w.alloc (.cells #[.int .i64 4, .string ⟨#[]⟩, .slice none 0 0, .slice none 0 0, .int .i64 2, .int .i64 0, .int .i64 0, .string ⟨#[]⟩] 25))) := by
    have hF := one_at w (.cells #[.int .i64 4, .string ⟨#[]⟩, .slice none 0 0, .slice none 0 0, .int .i64 2, .int .i64 0, .int .i64 0, .string ⟨#[]⟩] 25)
    refine Lib.hid ⟨hF.1, hF.2, ⟨Vw.nl _ 4, Vw.nl _ 1⟩, ?_⟩
    rw [bnd4]; decide
  generalize w.alloc (.cells #[.int .i64 4, .string ⟨#[]⟩, .slice none 0 0, .slice none 0 0, .int .i64 2, .int .i64 0, .int .i64 0, .string ⟨#[]⟩] 25) = w1 at HB ⊢
  have hrc := fun w' (hU : Upd (fun _ => False) w1 w') => cRight_any ⟨4, [], [], [], 2, 0, 0, []⟩ none 0 none 0 w' (HB.out.views.upd hU)
  simp only [HB.out.right] at hrc
  have hrow := HB.out.row
  unfold cmdV at hrc hrow
  unfold sv at hrc hrow
  dsimp only [Value.cells, List.length_nil, List.length_cons] at hrc hrow
  have hs0 : str [] = ⟨#[]⟩ := rfl
  simp only [hs0] at hrc hrow
  have HC := Lib.hid hrc
  have HR := Lib.hid hrow
  clear hrc hrow hs0
  go_wp2_with fail
  refine (awake25_any _).mono ?_
  rintro e w2 ⟨rfl, hU2⟩
  have hrc := HC.out w2 hU2
  obtain ⟨z0, z1, z2, z3, z4, z5, z6, z7⟩ := cmd_cells HR.out hU2
  have HU2 := Lib.hid hU2
  clear hU2
  go_wp2_with fail
  refine hrc.mono ?_
  rintro e w3 ⟨rfl, hU3⟩
  clear z0 z1 z2 z3 z4 z5 z6 z7 hrc
  go_wp2_with fail
  go_ret
  exact ⟨by first | rfl | simp, (HB.out.upd.trans ((HU2.out.trans hU3).mono (fun _ _ h => h.elim))).below (Nat.le_refl _) (fun i hi hs => by omega)⟩

set_option maxHeartbeats 8000000 in
theorem Bnd0t (w : World) (k0 : Int) (hk : (IntKind.u64.wrap k0).tmod 6 = 0) :
    Calls Tryd.prog 3 #[.int .i64 k0, .bool true] w fun e w' => e = .returned (.bool true) ∧ Below w.heap.size w w' := by
  obtain ⟨N, hN⟩ : ∃ N : Nat, Hid (N = 1001) := ⟨_, Lib.hid rfl⟩
  have hNi : (N : Int) = 1001 := by have := hN.out; omega
  have hmk := run_make_row' (P := Tryd.prog) 28 5 (.int .u8 0) 1 Tryd.underlying28 infoU8 rfl .i64 .i64 N (by omega) (by omega)
  rw [hNi] at hmk
  clear hNi
  go_enter Tryd.func3, Tryd.ntmps3
  go_upto_region 9 with (fail)
  obtain ⟨l, hl, hz⟩ := zeros w (.cells #[.int .i64 1, .string ⟨#[]⟩, .slice none 0 0, .slice none 0 0, .int .i64 0, .int .i64 0, .int .i64 0, .string ⟨#[]⟩] 25) N (by have := hN.out; omega)
  go_upto_region 27 with (fail)
  have HB : Hid (Boxed w ⟨1, l, [], [], 0, 0, 0, []⟩ none 0 none 0 6 ((w.alloc (.cells #[.int .i64 1, .string (str l), .slice none 0 0, .slice none 0 0, .int .i64 0, .int .i64 0, .int .i64 0, .string ⟨#[]⟩] 25)).alloc (.cells (madeCells #[.int .u8 0] N) 5))) := by
    have hF := two_at w (.cells #[.int .i64 1, .string (str l), .slice none 0 0, .slice none 0 0, .int .i64 0, .int .i64 0, .int .i64 0, .string ⟨#[]⟩] 25) (.cells (madeCells #[.int .u8 0] N) 5)
    refine Lib.hid ⟨hF.1, hF.2.1, ⟨Vw.nl _ 4, Vw.nl _ 1⟩, ?_⟩
    rw [bnd0, hl.out, hN.out]; decide
  generalize ((w.alloc (.cells #[.int .i64 1, .string (str l), .slice none 0 0, .slice none 0 0, .int .i64 0, .int .i64 0, .int .i64 0, .string ⟨#[]⟩] 25)).alloc (.cells (madeCells #[.int .u8 0] N) 5)) = w1 at HB ⊢
  clear hmk hz
  have hrc := fun w' (hU : Upd (fun _ => False) w1 w') => cRight_any ⟨1, l, [], [], 0, 0, 0, []⟩ none 0 none 0 w' (HB.out.views.upd hU)
  simp only [HB.out.right] at hrc
  have hrow := HB.out.row
  unfold cmdV at hrc hrow
  unfold sv at hrc hrow
  dsimp only [Value.cells, List.length_nil, List.length_cons] at hrc hrow
  have hs0 : str [] = ⟨#[]⟩ := rfl
  simp only [hs0] at hrc hrow
  have HC := Lib.hid hrc
  have HR := Lib.hid hrow
  clear hrc hrow hs0
  go_wp2_with fail
  refine (awake25_any _).mono ?_
  rintro e w2 ⟨rfl, hU2⟩
  have hrc := HC.out w2 hU2
  obtain ⟨z0, z1, z2, z3, z4, z5, z6, z7⟩ := cmd_cells HR.out hU2
  have HU2 := Lib.hid hU2
  clear hU2
  go_wp2_with fail
  refine hrc.mono ?_
  rintro e w3 ⟨rfl, hU3⟩
  clear z0 z1 z2 z3 z4 z5 z6 z7 hrc
  go_wp2_with fail
  go_ret
  exact ⟨by first | rfl | simp, (HB.out.upd.trans ((HU2.out.trans hU3).mono (fun _ _ h => h.elim))).below (Nat.le_refl _) (fun i hi hs => by omega)⟩

set_option maxHeartbeats 8000000 in
theorem Bnd1t (w : World) (k0 : Int) (hk : (IntKind.u64.wrap k0).tmod 6 = 1) :
    Calls Tryd.prog 3 #[.int .i64 k0, .bool true] w fun e w' => e = .returned (.bool true) ∧ Below w.heap.size w w' := by
  obtain ⟨N, hN⟩ : ∃ N : Nat, Hid (N = 20001) := ⟨_, Lib.hid rfl⟩
  have hNi : (N : Int) = 20001 := by have := hN.out; omega
  have hmk := run_make_row' (P := Tryd.prog) 28 5 (.int .u8 0) 1 Tryd.underlying28 infoU8 rfl .i64 .i64 N (by omega) (by omega)
  rw [hNi] at hmk
  clear hNi
  go_enter Tryd.func3, Tryd.ntmps3
  go_upto_region 11 with (fail)
  obtain ⟨l, hl, hz⟩ := zeros w (.cells #[.int .i64 1, .string ⟨#[]⟩, .slice none 0 0, .slice none 0 0, .int .i64 0, .int .i64 0, .int .i64 0, .string ⟨#[]⟩] 25) N (by have := hN.out; omega)
  go_upto_region 27 with (fail)
  have HB : Hid (Boxed w ⟨1, [], [⟨[97], false, false, l⟩], [], 0, 0, 0, []⟩ (some ⟨w.heap.size + 1 + 1, 0, none⟩) 1 none 0 6 (((w.alloc (.cells #[.int .i64 1, .string ⟨#[]⟩, .slice (some ⟨w.heap.size + 1 + 1, 0, none⟩) 1 1, .slice none 0 0, .int .i64 0, .int .i64 0, .int .i64 0, .string ⟨#[]⟩] 25)).alloc (.cells (madeCells #[.int .u8 0] N) 5)).alloc (.cells #[.string ⟨#[97]⟩, .bool false, .bool false, .string (str l)] 30))) := by
    have hF := three_at w (.cells #[.int .i64 1, .string ⟨#[]⟩, .slice (some ⟨w.heap.size + 1 + 1, 0, none⟩) 1 1, .slice none 0 0, .int .i64 0, .int .i64 0, .int .i64 0, .string ⟨#[]⟩] 25) (.cells (madeCells #[.int .u8 0] N) 5) (.cells #[.string ⟨#[97]⟩, .bool false, .bool false, .string (str l)] 30)
    refine Lib.hid ⟨hF.1, hF.2.1, ⟨vw_row1 (n := 1) (size := 4) hF.2.2 rfl (by decide), Vw.nl _ 1⟩, ?_⟩
    rw [bnd1, hl.out, hN.out]; decide
  generalize (((w.alloc (.cells #[.int .i64 1, .string ⟨#[]⟩, .slice (some ⟨w.heap.size + 1 + 1, 0, none⟩) 1 1, .slice none 0 0, .int .i64 0, .int .i64 0, .int .i64 0, .string ⟨#[]⟩] 25)).alloc (.cells (madeCells #[.int .u8 0] N) 5)).alloc (.cells #[.string ⟨#[97]⟩, .bool false, .bool false, .string (str l)] 30)) = w1 at HB ⊢
  clear hmk hz
  have hrc := fun w' (hU : Upd (fun _ => False) w1 w') => cRight_any ⟨1, [], [⟨[97], false, false, l⟩], [], 0, 0, 0, []⟩ (some ⟨w.heap.size + 1 + 1, 0, none⟩) 1 none 0 w' (HB.out.views.upd hU)
  simp only [HB.out.right] at hrc
  have hrow := HB.out.row
  unfold cmdV at hrc hrow
  unfold sv at hrc hrow
  dsimp only [Value.cells, List.length_nil, List.length_cons] at hrc hrow
  have hs0 : str [] = ⟨#[]⟩ := rfl
  simp only [hs0] at hrc hrow
  have HC := Lib.hid hrc
  have HR := Lib.hid hrow
  clear hrc hrow hs0
  go_wp2_with fail
  refine (awake25_any _).mono ?_
  rintro e w2 ⟨rfl, hU2⟩
  have hrc := HC.out w2 hU2
  obtain ⟨z0, z1, z2, z3, z4, z5, z6, z7⟩ := cmd_cells HR.out hU2
  have HU2 := Lib.hid hU2
  clear hU2
  go_wp2_with fail
  refine hrc.mono ?_
  rintro e w3 ⟨rfl, hU3⟩
  clear z0 z1 z2 z3 z4 z5 z6 z7 hrc
  go_wp2_with fail
  go_ret
  exact ⟨by first | rfl | simp, (HB.out.upd.trans ((HU2.out.trans hU3).mono (fun _ _ h => h.elim))).below (Nat.le_refl _) (fun i hi hs => by omega)⟩

set_option maxHeartbeats 8000000 in
theorem Bnd2t (w : World) (k0 : Int) (hk : (IntKind.u64.wrap k0).tmod 6 = 2) :
    Calls Tryd.prog 3 #[.int .i64 k0, .bool true] w fun e w' => e = .returned (.bool true) ∧ Below w.heap.size w w' := by
  obtain ⟨N, hN⟩ : ∃ N : Nat, Hid (N = 101) := ⟨_, Lib.hid rfl⟩
  have hNi : (N : Int) = 101 := by have := hN.out; omega
  have hN1 : N ≤ 101 := by omega
  have hmk := run_make_row' (P := Tryd.prog) 23 9 (.string ByteArray.empty) 16 Tryd.underlying23 infoStr rfl .i64 .i64 N (by omega) (by omega)
  rw [hNi] at hmk
  clear hNi
  go_enter Tryd.func3, Tryd.ntmps3
  go_upto_region 14 with (fail)
  have HB : Hid (Upd (fun i => w.heap.size ≤ i) w ((w.alloc (.cells #[.int .i64 1, .string ⟨#[]⟩, .slice none 0 0, .slice (some ⟨w.heap.size + 1, 0, none⟩) N N, .int .i64 0, .int .i64 0, .int .i64 0, .string ⟨#[]⟩] 25)).alloc (.cells (madeCells #[.string ByteArray.empty] N) 9)) ∧ (((w.alloc (.cells #[.int .i64 1, .string ⟨#[]⟩, .slice none 0 0, .slice (some ⟨w.heap.size + 1, 0, none⟩) N N, .int .i64 0, .int .i64 0, .int .i64 0, .string ⟨#[]⟩] 25)).alloc (.cells (madeCells #[.string ByteArray.empty] N) 9))).heap[w.heap.size]? = some (.cells #[.int .i64 1, .string ⟨#[]⟩, .slice none 0 0, .slice (some ⟨w.heap.size + 1, 0, none⟩) N N, .int .i64 0, .int .i64 0, .int .i64 0, .string ⟨#[]⟩] 25)) := by
    have hF := two_at w (.cells #[.int .i64 1, .string ⟨#[]⟩, .slice none 0 0, .slice (some ⟨w.heap.size + 1, 0, none⟩) N N, .int .i64 0, .int .i64 0, .int .i64 0, .string ⟨#[]⟩] 25) (.cells (madeCells #[.string ByteArray.empty] N) 9)
    exact Lib.hid ⟨hF.1, hF.2.1⟩
  have hO1 : Hid ((((w.alloc (.cells #[.int .i64 1, .string ⟨#[]⟩, .slice none 0 0, .slice (some ⟨w.heap.size + 1, 0, none⟩) N N, .int .i64 0, .int .i64 0, .int .i64 0, .string ⟨#[]⟩] 25)).alloc (.cells (madeCells #[.string ByteArray.empty] N) 9))).ownsRow 0 9 1 (.slice (some ⟨w.heap.size + 1, 0, none⟩) N N) N (([] : List (List UInt8)).map sv ++ List.replicate (N - 0) (sv []))) := by
    have hF := made_strs (w.alloc (.cells #[.int .i64 1, .string ⟨#[]⟩, .slice none 0 0, .slice (some ⟨w.heap.size + 1, 0, none⟩) N N, .int .i64 0, .int .i64 0, .int .i64 0, .string ⟨#[]⟩] 25)) N (by omega)
    exact Lib.hid (by simpa using hF)
  generalize ((w.alloc (.cells #[.int .i64 1, .string ⟨#[]⟩, .slice none 0 0, .slice (some ⟨w.heap.size + 1, 0, none⟩) N N, .int .i64 0, .int .i64 0, .int .i64 0, .string ⟨#[]⟩] 25)).alloc (.cells (madeCells #[.string ByteArray.empty] N) 9)) = w1 at HB hO1 ⊢
  clear hmk
  obtain ⟨y0, y1, y2, y3, y4, y5, y6, y7⟩ := cmd_cells HB.out.2 (Upd.refl _ w1)
  go_wp2_with fail
  clear y0 y1 y2 y3 y4 y5 y6 y7
  go_loopw [44] (fun i wr => ∃ (j : Nat), j ≤ N ∧ i = .int .i64 (j : Int) ∧ Hid (wr.ownsRow 0 9 1 (.slice (some ⟨w.heap.size + 1, 0, none⟩) N N) N ((List.replicate j ([97] : List UInt8)).map sv ++ List.replicate (N - j) (sv [])) ∧ Upd (fun i => w.heap.size + 1 = i) w1 wr)) (fun i _ => N - (intOf i).toNat)
  case atStart => exact ⟨0, by omega, rfl, Lib.hid ⟨hO1.out, Upd.refl _ _⟩⟩
  case round =>
    obtain ⟨j, hj, rfl, hH⟩ := hrel
    by_cases hlt : j < N
    · have hI : (j : Int) < (N : Int) := by omega
      obtain ⟨hO, hU⟩ := hH.out
      have hcell : wr.cell? ⟨w.heap.size + 1, j, none⟩ = some (.string (str [])) := by
        rw [hO.cellAt j (by omega)]; exact cells_at _ N j List.length_replicate hlt
      have hth := hO.frozenAt j
      obtain ⟨hst, hgr⟩ := hO.stored j (sv [97])
      rw [cells_set _ [97] N j List.length_replicate hlt] at hst
      have hU2 := hU.trans (Upd.setCell (S := fun i => w.heap.size + 1 = i) wr (p := ⟨w.heap.size + 1, j, none⟩) rfl (sv [97]))
      have hrow3 : wr.cell? ⟨w.heap.size, 3, none⟩ = some (.slice (some ⟨w.heap.size + 1, 0, none⟩) N N) := by
        rw [cell_of_row _ _ _ _ _ _ ((hU.block _ (lt_of_heap HB.out.2) (fun h => by omega)).trans HB.out.2)]; rfl
      have HST := Lib.hid (And.intro hst hU2)
      clear hst hgr hO hU hU2
      go_wp2_with fail
      go_roundw
      case rel =>
        refine ⟨j + 1, by omega, by first | rfl | go_num, Lib.hid ⟨?_, HST.out.2⟩⟩
        have := HST.out.1
        rwa [← List.replicate_succ'] at this
      case measure => simp [intOf]; omega
    · obtain rfl : j = N := by omega
      have hB2 : Hid (Boxed w ⟨1, [], [], List.replicate j [97], 0, 0, 0, []⟩ none 0 (some ⟨w.heap.size + 1, 0, none⟩) j 6 wr) := by
        obtain ⟨hO, hU⟩ := hH.out
        rw [Nat.sub_self, List.replicate_zero, List.append_nil] at hO
        refine Lib.hid ⟨HB.out.1.trans (hU.mono (fun i _ h => by omega)), ?_, ⟨Vw.nl _ 4, ?_⟩, ?_⟩
        · have := (hU.block _ (lt_of_heap HB.out.2) (fun h => by omega)).trans HB.out.2
          rw [this]; unfold cmdV; dsimp only [Value.cells]; rw [List.length_replicate]; rfl
        · show Vw _ _ (List.replicate j [97]).length _ _ _
          rw [List.length_replicate]; exact Vw.of_own hO
        · rw [bnd2, hN.out]; decide
      clear HB hH hO1
      have hrc := fun w' (hU : Upd (fun _ => False) wr w') => cRight_any ⟨1, [], [], List.replicate j [97], 0, 0, 0, []⟩ none 0 (some ⟨w.heap.size + 1, 0, none⟩) j w' (hB2.out.views.upd hU)
      simp only [hB2.out.right] at hrc
      have hrow := hB2.out.row
      unfold cmdV at hrc hrow
      unfold sv at hrc hrow
      dsimp only [Value.cells, List.length_nil, List.length_cons] at hrc hrow
      have hs0 : str [] = ⟨#[]⟩ := rfl
      simp only [hs0, List.length_replicate] at hrc hrow
      have HC := Lib.hid hrc
      have HR := Lib.hid hrow
      clear hrc hrow hs0
      go_wp2_with fail
      refine (awake25_any _).mono ?_
      rintro e w2 ⟨rfl, hU2⟩
      have hrc := HC.out w2 hU2
      obtain ⟨z0, z1, z2, z3, z4, z5, z6, z7⟩ := cmd_cells HR.out hU2
      have HU2 := Lib.hid hU2
      clear hU2
      go_wp2_with fail
      refine hrc.mono ?_
      rintro e w3 ⟨rfl, hU3⟩
      clear z0 z1 z2 z3 z4 z5 z6 z7 hrc
      go_wp2_with fail
      go_ret
      exact ⟨by first | rfl | simp, (hB2.out.upd.trans ((HU2.out.trans hU3).mono (fun _ _ h => h.elim))).below (Nat.le_refl _) (fun i hi hs => by omega)⟩

set_option maxHeartbeats 8000000 in
theorem Bnd3t (w : World) (k0 : Int) (hk : (IntKind.u64.wrap k0).tmod 6 = 3) :
    Calls Tryd.prog 3 #[.int .i64 k0, .bool true] w fun e w' => e = .returned (.bool true) ∧ Below w.heap.size w w' := by
  obtain ⟨N, hN⟩ : ∃ N : Nat, Hid (N = 51) := ⟨_, Lib.hid rfl⟩
  have hNi : (51 : Int) = (N : Int) := by have := hN.out; omega
  have hN1 : N ≤ 51 := by omega
  go_enter Tryd.func3, Tryd.ntmps3
  go_upto_region 21 with (fail)
  have HB : Hid (Upd (fun i => w.heap.size ≤ i) w (w.alloc (.cells #[.int .i64 12, .string ⟨#[]⟩, .slice none 0 0, .slice none 0 0, .int .i64 0, .int .i64 0, .int .i64 0, .string ⟨#[]⟩] 25)) ∧ (w.alloc (.cells #[.int .i64 12, .string ⟨#[]⟩, .slice none 0 0, .slice none 0 0, .int .i64 0, .int .i64 0, .int .i64 0, .string ⟨#[]⟩] 25)).heap[w.heap.size]? = some (.cells ([.int .i64 12, .string ⟨#[]⟩, .slice none 0 0, .slice none 0 0, .int .i64 0, .int .i64 0, .int .i64 0, .string (str [])]).toArray 25)) := by
    have hF := one_at w (.cells #[.int .i64 12, .string ⟨#[]⟩, .slice none 0 0, .slice none 0 0, .int .i64 0, .int .i64 0, .int .i64 0, .string ⟨#[]⟩] 25)
    exact Lib.hid ⟨hF.1, hF.2⟩
  generalize w.alloc (.cells #[.int .i64 12, .string ⟨#[]⟩, .slice none 0 0, .slice none 0 0, .int .i64 0, .int .i64 0, .int .i64 0, .string ⟨#[]⟩] 25) = w1 at HB ⊢
  go_wp2_with fail
  go_loopw [9] (fun i wr => ∃ (j : Nat), j ≤ N ∧ i = .int .i64 (j : Int) ∧ Hid (Upd (fun i => w.heap.size ≤ i) w wr ∧ wr.heap[w.heap.size]? = some (.cells ([.int .i64 12, .string ⟨#[]⟩, .slice none 0 0, .slice none 0 0, .int .i64 0, .int .i64 0, .int .i64 0, .string (str (List.replicate j 97))]).toArray 25))) (fun i _ => N - (intOf i).toNat)
  case atStart => exact ⟨0, by omega, rfl, HB⟩
  case round =>
    clear HB
    obtain ⟨j, hj, rfl, hH⟩ := hrel
    obtain ⟨hU, hrow⟩ := hH.out
    by_cases hlt : j < N
    · have hI : (j : Int) < 51 := by omega
      have hc7 : wr.cell? ⟨w.heap.size, 7, none⟩ = some (.string (str (List.replicate j 97))) := by
        rw [cell_of_row _ _ _ _ _ _ hrow]; rfl
      have hf7 : wr.frozen? ⟨w.heap.size, 7, none⟩ = false := free_of_row hrow
      have hadd := str_push_a j
      have hsz : ¬ 9223372036854775807 < (str (List.replicate j 97)).size + 1 := by rw [str_size, List.length_replicate]; omega
      have hr2 := row_set (j := 7) (u := .string (str (List.replicate (j + 1) 97))) hrow
      have hU2 := hU.trans (Upd.setCell (S := fun i => w.heap.size ≤ i) wr (p := ⟨w.heap.size, 7, none⟩) (Nat.le_refl _) (.string (str (List.replicate (j + 1) 97))))
      have HST := Lib.hid (And.intro hU2 hr2)
      clear hU hrow hU2 hr2
      go_wp2_with fail
      go_roundw
      case rel => exact ⟨j + 1, by omega, by first | rfl | go_num, HST⟩
      case measure => simp [intOf]; omega
    · have hI : decide ((j : Int) < 51) = false := by rw [decide_eq_false_iff_not]; omega
      obtain rfl : j = N := by omega
      have hB2 : Hid (Boxed w ⟨12, [], [], [], 0, 0, 0, List.replicate j 97⟩ none 0 none 0 24 wr) := by
        refine Lib.hid ⟨hU, hrow, ⟨Vw.nl _ 4, Vw.nl _ 1⟩, ?_⟩
        rw [bnd3 _ (by have := hN.out; omega), hN.out]; decide
      clear hU hrow hH
      have hrc := fun w' (hU : Upd (fun _ => False) wr w') => cRight_any ⟨12, [], [], [], 0, 0, 0, List.replicate j 97⟩ none 0 none 0 w' (hB2.out.views.upd hU)
      simp only [hB2.out.right] at hrc
      have hrow := hB2.out.row
      unfold cmdV at hrc hrow
      unfold sv at hrc hrow
      dsimp only [Value.cells, List.length_nil, List.length_cons] at hrc hrow
      have hs0 : str [] = ⟨#[]⟩ := rfl
      simp only [hs0] at hrc hrow
      have HC := Lib.hid hrc
      have HR := Lib.hid hrow
      clear hrc hrow hs0
      go_wp2_with fail
      refine (awake25_any _).mono ?_
      rintro e w2 ⟨rfl, hU2⟩
      have hrc := HC.out w2 hU2
      obtain ⟨z0, z1, z2, z3, z4, z5, z6, z7⟩ := cmd_cells HR.out hU2
      have HU2 := Lib.hid hU2
      clear hU2
      go_wp2_with fail
      refine hrc.mono ?_
      rintro e w3 ⟨rfl, hU3⟩
      clear z0 z1 z2 z3 z4 z5 z6 z7 hrc
      go_wp2_with fail
      go_ret
      exact ⟨by first | rfl | simp, (hB2.out.upd.trans ((HU2.out.trans hU3).mono (fun _ _ h => h.elim))).below (Nat.le_refl _) (fun i hi hs => by omega)⟩

set_option maxHeartbeats 8000000 in
theorem Bnd4t (w : World) (k0 : Int) (hk : (IntKind.u64.wrap k0).tmod 6 = 4) :
    Calls Tryd.prog 3 #[.int .i64 k0, .bool true] w fun e w' => e = .returned (.bool true) ∧ Below w.heap.size w w' := by
  go_enter Tryd.func3, Tryd.ntmps3
  go_upto_region 27 with (fail)
  have HB : Hid (Boxed w ⟨4, [], [], [], 101, 0, 0, []⟩ none 0 none 0 1 (w.alloc (.cells #[.int .i64 4, .string ⟨#[]⟩, .slice none 0 0, .slice none 0 0, .int .i64 101, .int .i64 0, .int .i64 0, .string ⟨#[]⟩] 25))) := by
    have hF := one_at w (.cells #[.int .i64 4, .string ⟨#[]⟩, .slice none 0 0, .slice none 0 0, .int .i64 101, .int .i64 0, .int .i64 0, .string ⟨#[]⟩] 25)
    refine Lib.hid ⟨hF.1, hF.2, ⟨Vw.nl _ 4, Vw.nl _ 1⟩, ?_⟩
    rw [bnd4]; decide
  generalize w.alloc (.cells #[.int .i64 4, .string ⟨#[]⟩, .slice none 0 0, .slice none 0 0, .int .i64 101, .int .i64 0, .int .i64 0, .string ⟨#[]⟩] 25) = w1 at HB ⊢
  have hrc := fun w' (hU : Upd (fun _ => False) w1 w') => cRight_any ⟨4, [], [], [], 101, 0, 0, []⟩ none 0 none 0 w' (HB.out.views.upd hU)
  simp only [HB.out.right] at hrc
  have hrow := HB.out.row
  unfold cmdV at hrc hrow
  unfold sv at hrc hrow
  dsimp only [Value.cells, List.length_nil, List.length_cons] at hrc hrow
  have hs0 : str [] = ⟨#[]⟩ := rfl
  simp only [hs0] at hrc hrow
  have HC := Lib.hid hrc
  have HR := Lib.hid hrow
  clear hrc hrow hs0
  go_wp2_with fail
  refine (awake25_any _).mono ?_
  rintro e w2 ⟨rfl, hU2⟩
  have hrc := HC.out w2 hU2
  obtain ⟨z0, z1, z2, z3, z4, z5, z6, z7⟩ := cmd_cells HR.out hU2
  have HU2 := Lib.hid hU2
  clear hU2
  go_wp2_with fail
  refine hrc.mono ?_
  rintro e w3 ⟨rfl, hU3⟩
  clear z0 z1 z2 z3 z4 z5 z6 z7 hrc
  go_wp2_with fail
  go_ret
  exact ⟨by first | rfl | simp, (HB.out.upd.trans ((HU2.out.trans hU3).mono (fun _ _ h => h.elim))).below (Nat.le_refl _) (fun i hi hs => by omega)⟩

set_option maxHeartbeats 8000000 in
theorem Bnd5t (w : World) (k0 : Int) (hk : (IntKind.u64.wrap k0).tmod 6 = 5) :
    Calls Tryd.prog 3 #[.int .i64 k0, .bool true] w fun e w' => e = .returned (.bool true) ∧ Below w.heap.size w w' := by
  go_enter Tryd.func3, Tryd.ntmps3
  go_upto_region 27 with (fail)
  have HB : Hid (Boxed w ⟨4, [], [], [], 1, 0, 0, []⟩ none 0 none 0 1 (w.alloc (.cells #[.int .i64 4, .string ⟨#[]⟩, .slice none 0 0, .slice none 0 0, .int .i64 1, .int .i64 0, .int .i64 0, .string ⟨#[]⟩] 25))) := by
    have hF := one_at w (.cells #[.int .i64 4, .string ⟨#[]⟩, .slice none 0 0, .slice none 0 0, .int .i64 1, .int .i64 0, .int .i64 0, .string ⟨#[]⟩] 25)
    refine Lib.hid ⟨hF.1, hF.2, ⟨Vw.nl _ 4, Vw.nl _ 1⟩, ?_⟩
    rw [bnd4]; decide
  generalize w.alloc (.cells #[.int .i64 4, .string ⟨#[]⟩, .slice none 0 0, .slice none 0 0, .int .i64 1, .int .i64 0, .int .i64 0, .string ⟨#[]⟩] 25) = w1 at HB ⊢
  have hrc := fun w' (hU : Upd (fun _ => False) w1 w') => cRight_any ⟨4, [], [], [], 1, 0, 0, []⟩ none 0 none 0 w' (HB.out.views.upd hU)
  simp only [HB.out.right] at hrc
  have hrow := HB.out.row
  unfold cmdV at hrc hrow
  unfold sv at hrc hrow
  dsimp only [Value.cells, List.length_nil, List.length_cons] at hrc hrow
  have hs0 : str [] = ⟨#[]⟩ := rfl
  simp only [hs0] at hrc hrow
  have HC := Lib.hid hrc
  have HR := Lib.hid hrow
  clear hrc hrow hs0
  go_wp2_with fail
  refine (awake25_any _).mono ?_
  rintro e w2 ⟨rfl, hU2⟩
  have hrc := HC.out w2 hU2
  obtain ⟨z0, z1, z2, z3, z4, z5, z6, z7⟩ := cmd_cells HR.out hU2
  have HU2 := Lib.hid hU2
  clear hU2
  go_wp2_with fail
  refine hrc.mono ?_
  rintro e w3 ⟨rfl, hU3⟩
  clear z0 z1 z2 z3 z4 z5 z6 z7 hrc
  go_wp2_with fail
  go_ret
  exact ⟨by first | rfl | simp, (HB.out.upd.trans ((HU2.out.trans hU3).mono (fun _ _ h => h.elim))).below (Nat.le_refl _) (fun i hi hs => by omega)⟩

theorem CommandBounds_walk (w : World) (k0 : Int) (wk : (Lit.int .i64 k0).wf = true) (over : Bool) :
    Calls Tryd.prog 3 #[.int .i64 k0, .bool over] w fun e w' => e = .returned (.bool true) ∧ Below w.heap.size w w' := by
  have hr := wrap_u64 k0
  have h : (IntKind.u64.wrap k0).tmod 6 = (IntKind.u64.wrap k0) % 6 := Int.tmod_eq_emod_of_nonneg hr.1
  have h6 : (IntKind.u64.wrap k0).tmod 6 = 0 ∨ (IntKind.u64.wrap k0).tmod 6 = 1 ∨ (IntKind.u64.wrap k0).tmod 6 = 2 ∨ (IntKind.u64.wrap k0).tmod 6 = 3 ∨ (IntKind.u64.wrap k0).tmod 6 = 4 ∨ (IntKind.u64.wrap k0).tmod 6 = 5 := by omega
  rcases h6 with h | h | h | h | h | h <;> cases over
  · exact Bnd0f w k0 h
  · exact Bnd0t w k0 h
  · exact Bnd1f w k0 h
  · exact Bnd1t w k0 h
  · exact Bnd2f w k0 h
  · exact Bnd2t w k0 h
  · exact Bnd3f w k0 h
  · exact Bnd3t w k0 h
  · exact Bnd4f w k0 h
  · exact Bnd4t w k0 h
  · exact Bnd5f w k0 h
  · exact Bnd5t w k0 h
end Go.Proofs.YteefceainlfdfaaDoor
