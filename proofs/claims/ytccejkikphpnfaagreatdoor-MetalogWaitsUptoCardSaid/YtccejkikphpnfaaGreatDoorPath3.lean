
/- strings.Split at a slash. -/
import Derived.Test.YtccejkikphpnfaaGreatDoorPath2
import Derived.Deep.OwnRows
namespace Go.Proofs.YtccejkikphpnfaaGreatDoor
set_option linter.unusedSimpArgs false
set_option linter.unusedVariables false
set_option maxRecDepth 100000
open Go.ChangeShapes Go.WideShapes Go.ChangeAt Go.RowKit

theorem infoStr : (Tryz.prog.info? 9).map (fun i => (i.zero, i.size, i.bytes)) = some (some (.string ByteArray.empty), 1, 16) := by kernel_rfl
theorem sv_nil : sv [] = .string ByteArray.empty := rfl
theorem str_take (l : List UInt8) (m : Nat) (h : m ≤ l.length) (w : World) : (Instr.slice 9 (.string (str l)) none (some (.int .i64 (m : Int))) none).run Tryz.prog w = .ok (.string (str (l.take m))) w := by
  rw [run_slice_string_to_if w _ _ _ _ Tryz.underlying9, if_pos ⟨by omega, by rw [str_size]; omega⟩]
  congr 2
  apply ByteArray.ext
  simp [str, ByteArray.data_extract]
theorem str_drop (l : List UInt8) (m : Nat) (h : m ≤ l.length) (w : World) : (Instr.slice 9 (.string (str l)) (some (.int .i64 (m : Int))) none none).run Tryz.prog w = .ok (.string (str (l.drop m))) w := by
  rw [run_slice_string_from_if w _ _ _ _ Tryz.underlying9, if_pos ⟨by omega, by rw [str_size]; omega⟩]
  congr 2
  apply ByteArray.ext
  simp [str, ByteArray.data_extract]
  rw [List.take_of_length_le (by simp [ByteArray.size])]
theorem cells_set (D : List (List UInt8)) (x : List UInt8) (N j : Nat) (hD : D.length = j) (hj : j < N) : (D.map sv ++ List.replicate (N - j) (sv [])).set j (sv x) = (D ++ [x]).map sv ++ List.replicate (N - (j + 1)) (sv []) := by
  rw [show N - j = (N - (j + 1)) + 1 from by omega, List.replicate_succ, List.set_append_right _ _ (by simp [hD]), List.length_map, hD, Nat.sub_self]
  simp
theorem cells_at (D : List (List UInt8)) (N j : Nat) (hD : D.length = j) (hj : j < N) : (D.map sv ++ List.replicate (N - j) (sv []))[j]? = some (sv []) := by
  rw [show N - j = (N - (j + 1)) + 1 from by omega, List.replicate_succ, List.getElem?_append_right (by simp [hD]), List.length_map, hD, Nat.sub_self]
  rfl
theorem made_strs (w : World) (n : Nat) (hn : n ≤ 10000000) : (w.alloc (.cells (madeCells #[.string ByteArray.empty] n) 9)).ownsRow 0 9 1 (.slice (some ⟨w.heap.size, 0, none⟩) n n) n (([] : List (List UInt8)).map sv ++ List.replicate (n - 0) (sv [])) := by
  have := World.ownsRow_lit (base := 0) (e := 9) (size := 1) w (madeCells #[.string ByteArray.empty] n) n (Nat.zero_le _) (by unfold maxLen; omega) (by rw [size_madeCells, Nat.mul_one])
  rw [toList_madeCells_one] at this
  simpa [sv_nil] using this
def Split (w : World) (s : List UInt8) (e : Ending) (w' : World) : Prop :=
  ∃ g c, e = .returned (.slice (some ⟨g, 0, none⟩) (partsL s).length c) ∧ Vw w' (some ⟨g, 0, none⟩) (partsL s).length c 1 ((partsL s).map sv) ∧ Upd (fun _ => False) w w' ∧ w.heap.size ≤ g

set_option maxHeartbeats 4000000 in
theorem genSplit_any (s : List UInt8) (w : World) (hs : s.length ≤ 1000000) : Calls Tryz.prog 166 #[sv s, .string ⟨#[47]⟩, .int .i64 0, .int .i64 (-1)] w (Split w s) := by
  have hcnt := sCount_any s w
  have hcl := List.count_le_length (a := (47 : UInt8)) (l := s)
  have hpl := parts_len s
  obtain ⟨n, hn⟩ : ∃ n, s.count 47 = n := ⟨_, rfl⟩
  rw [hn] at hcnt hcl hpl
  obtain ⟨N, hN⟩ : ∃ N, N = n + 1 := ⟨_, rfl⟩
  have hNi : (n : Int) + 1 = (N : Int) := by omega
  have hmin : min (N : Int) ((s.length : Int) + 1) = (N : Int) := by omega
  have hN1 : (N : Int) - 1 = (n : Int) := by omega
  have hsz := str_size s
  have hmk := run_make_row' (P := Tryz.prog) 186 9 (.string ByteArray.empty) 16 Tryz.underlying186 infoStr rfl .i64 .i64 N (by omega) (by omega)
  have HN := Lib.hid hn
  have HPL := Lib.hid hpl
  have HNN := Lib.hid hN
  unfold sv at hcnt ⊢
  clear hn hpl hN
  go_enter Tryz.func166, Tryz.ntmps166
  go_wp2_with fail
  refine hcnt.mono ?_
  rintro e w' ⟨rfl, hw⟩
  rw [hw]
  clear hw w'
  clear hcnt
  go_upto_region 9 with (fail)
  have hO1 := made_strs w N (by have := HNN.out; omega)
  have hU1 : Upd (fun i => w.heap.size ≤ i) w (w.alloc (.cells (madeCells #[.string ByteArray.empty] N) 9)) := Upd.alloc _ _ _
  generalize w.alloc (.cells (madeCells #[.string ByteArray.empty] N) 9) = w1 at *
  obtain ⟨g, hg⟩ : ∃ g, w.heap.size = g := ⟨_, rfl⟩
  rw [hg] at hO1 hU1 ⊢
  have HG := Lib.hid hg
  clear hg hmk hmin hNi
  go_wp2_with fail
  go_loopw [0, 10] (fun v i wr => ∃ (j : Nat) (R : List UInt8) (D : List (List UInt8)), j ≤ n ∧ i = .int .i64 (j : Int) ∧ v = .string (str R) ∧ Hid (D.length = j ∧ partsL s = D ++ partsL R ∧ R.count 47 + j = n) ∧ R.length ≤ 1000000 ∧ wr.ownsRow 0 9 1 (.slice (some ⟨g, 0, none⟩) N N) N (D.map sv ++ List.replicate (N - j) (sv [])) ∧ Upd (fun i => g ≤ i) w wr) (fun _ i _ => n - (intOf i).toNat)
  case atStart => exact ⟨0, s, [], by omega, rfl, rfl, ⟨rfl, rfl, by rw [HN.out]; rfl⟩, hs, hO1, hU1⟩
  case round =>
    clear hO1 hU1
    obtain ⟨j, R, D, hj, rfl, rfl, hH, hRl, hO, hU⟩ := hrel
    obtain ⟨hD, hP, hC⟩ := hH.out
    have hjN : j < N := by have := HNN.out; omega
    have hcell : wr.cell? ⟨g, j, none⟩ = some (.string (str [])) := by
      rw [hO.cellAt j (by omega)]; exact cells_at D N j hD hjN
    have hth := hO.frozenAt j
    have hjNi : (j : Int) < (N : Int) := by omega
    by_cases hlt : j < n
    · have hI : (j : Int) < (n : Int) := by omega
      obtain ⟨m, hm⟩ : ∃ m : Nat, Lib.indexByte R 47 = (m : Int) := ⟨(Lib.indexByte R 47).toNat, by
        have := index_of_count R (by omega); omega⟩
      obtain ⟨q1, q2, q3⟩ := parts_hit R m hm
      have hidx := sIndex_any R wr
      rw [hm] at hidx
      unfold sv at hidx
      have t1 := fun w => str_take R m (by omega) w
      have t2 := fun w => str_drop R (m + 1) (by omega) w
      simp only [Int.natCast_add, Int.natCast_one] at t2
      obtain ⟨hst, _⟩ := hO.stored j (sv (R.take m))
      rw [cells_set D (R.take m) N j hD hjN] at hst
      have hU2 := hU.trans (Upd.setCell (S := fun i => g ≤ i) wr (p := ⟨g, j, none⟩) (Nat.le_refl g) (sv (R.take m)))
      have hR2 : (R.drop (m + 1)).length ≤ 1000000 := by simp; omega
      have hP2 : partsL s = (D ++ [R.take m]) ++ partsL (R.drop (m + 1)) := by rw [hP, q1]; simp
      have hC2 : (R.drop (m + 1)).count 47 + (j + 1) = n := by omega
      have hmi : (m : Int) < (R.length : Int) := by omega
      generalize R.take m = x at *
      generalize R.drop (m + 1) = R2 at *
      have HST := Lib.hid (And.intro hst (And.intro hP2 (And.intro hC2 hD)))
      have HU2 := Lib.hid hU2
      clear hst hP2 hC2 hD q1 q2 q3 hm hO hU hH hP hC hU2
      go_wp2_with fail
      refine hidx.mono ?_
      rintro e w' ⟨rfl, rfl⟩
      go_wp2_with fail
      go_roundw
      case rel =>
        obtain ⟨hst, hP2, hC2, hD⟩ := HST.out
        exact ⟨j + 1, R2, D ++ [x], by omega, by first | rfl | go_num, rfl, ⟨by simp [hD], hP2, hC2⟩, hR2, hst, HU2.out⟩
      case measure => simp [intOf]; omega
    · obtain rfl : j = n := by omega
      have hpm := parts_miss R (by omega)
      obtain ⟨hst, _⟩ := hO.stored j (sv R)
      rw [cells_set D R N j hD hjN] at hst
      have hz : N - (j + 1) = 0 := by have := HNN.out; omega
      rw [hz, List.replicate_zero, List.append_nil, ← hpm, ← hP] at hst
      have hU2 := hU.trans (Upd.setCell (S := fun i => g ≤ i) wr (p := ⟨g, j, none⟩) (Nat.le_refl g) (sv R))
      have HST := Lib.hid hst
      have HU2 := Lib.hid hU2
      have hj1 : (j : Int) + 1 = (N : Int) := by have := HNN.out; omega
      clear hst hU2 hpm hO hU hH hP hC hD hz
      go_wp2_with fail
      go_ret
      have hNp : (partsL s).length = N := by have := HPL.out; have := HNN.out; omega
      refine ⟨g, N, ?_, ?_, HU2.out.mono (fun i hi h => by have := HG.out; omega), Nat.le_of_eq HG.out⟩
      · rw [hNp]; rfl
      · rw [hNp]; exact Vw.of_own HST.out
theorem split_any (s : List UInt8) (w : World) (hs : s.length ≤ 1000000) : Calls Tryz.prog 155 #[sv s] w (Split w s) := by
  have h := genSplit_any s w hs
  unfold sv at h ⊢
  have h2 : Calls Tryz.prog 165 #[.string (str s), .string ⟨#[47]⟩] w (Split w s) := by
    go_enter Tryz.func165, Tryz.ntmps165
    go_wp2_with fail
    refine h.mono ?_
    rintro e w' ⟨g, c, rfl, hv, hU, hg⟩
    go_wp2_with fail
    go_ret
    exact ⟨g, c, rfl, hv, hU, hg⟩
  clear h
  go_enter Tryz.func155, Tryz.ntmps155
  go_wp2_with fail
  refine h2.mono ?_
  rintro e w' ⟨g, c, rfl, hv, hU, hg⟩
  go_wp2_with fail
  go_ret
  exact ⟨g, c, rfl, hv, hU, hg⟩
end Go.Proofs.YtccejkikphpnfaaGreatDoor
