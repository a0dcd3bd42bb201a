
/- tree.paths. -/
import Derived.Lib.Bytealg
import Derived.Deep.OwnRows
import Derived.Test.YtccejkikphpnfaaGreatDoorQ09
import Derived.Maps.OwnOps
import Derived.Maps.Views
import Derived.DeepKeys5
namespace Go.Proofs.YtccejkikphpnfaaGreatDoor
set_option linter.unusedSimpArgs false
set_option linter.unusedVariables false
set_option maxRecDepth 100000
open Go.ChangeShapes Go.WideShapes Go.ChangeAt Go.RowKit
/-- What stands between slashes. -/
def partsL : List UInt8 → List (List UInt8)
 | [] => [[]]
 | b :: s => if b == 47 then [] :: partsL s else match partsL s with
  | [] => [[b]]
  | p :: ps => (b :: p) :: ps
theorem partsL_ne (s : List UInt8) : partsL s ≠ [] := by
 cases s with
 | nil => simp [partsL]
 | cons b s =>
  unfold partsL
  split
  ·simp
  ·split <;> simp
theorem parts_hit : ∀ (R : List UInt8) (m : Nat), Lib.indexByte R 47 = (m : Int) → partsL R = R.take m :: partsL (R.drop (m + 1)) ∧ (R.drop (m + 1)).count 47 + 1 = R.count 47 ∧ m < R.length
 | [], m, h => by simp [Lib.indexByte] at h
 | b :: R, m, h => by
  unfold Lib.indexByte at h
  by_cases hb : (b == 47) = true
  ·rw [if_pos hb] at h
   have hm : m = 0 := by omega
   subst hm
   have e := eq_of_beq hb
   subst e
   refine ⟨?_, ?_, by simp⟩
   ·simp [partsL]
   ·simp
  ·rw [if_neg hb] at h
   have hb' : (b == 47) = false := by simpa using hb
   have hne : b ≠ 47 := by simpa using hb'
   split at h
   ·omega
   ·have hge := Lib.indexByte_ge R 47
    obtain ⟨k, hk⟩ : ∃ k : Nat, Lib.indexByte R 47 = (k : Int) := ⟨(Lib.indexByte R 47).toNat, by
     rename_i hn
     have : Lib.indexByte R 47 ≠ -1 := by simpa using hn
     omega⟩
    obtain ⟨h1, h2, h3⟩ := parts_hit R k hk
    have hm : m = k + 1 := by omega
    subst hm
    refine ⟨?_, ?_, by simpa using h3⟩
    ·rw [partsL, if_neg hb, h1]; simp
    ·rw [List.drop_succ_cons, List.count_cons]
     simp [hne, h2]
theorem parts_miss : ∀ (R : List UInt8), R.count 47 = 0 → partsL R = [R]
 | [], _ => rfl
 | b :: R, h => by
  rw [List.count_cons] at h
  have hb : (b == 47) = false := by
   cases e : b == 47
   ·rfl
   ·simp [e] at h
  have hb' : ¬ (b == 47) = true := by simp [hb]
  rw [partsL, if_neg hb', parts_miss R (by omega)]
theorem index_of_count : ∀ (R : List UInt8), 0 < R.count 47 → 0 ≤ Lib.indexByte R 47
 | [], h => by simp at h
 | b :: R, h => by
  unfold Lib.indexByte
  split
  ·decide
  ·rename_i hb
   have hc : 0 < R.count 47 := by
    rw [List.count_cons] at h
    simp [hb] at h
    simpa using h
   have := index_of_count R hc
   split
   ·rename_i e
    have := eq_of_beq e
    omega
   ·omega
theorem parts_len : ∀ (R : List UInt8), (partsL R).length = R.count 47 + 1
 | [] => rfl
 | b :: R => by
  have ih := parts_len R
  rw [List.count_cons, partsL]
  by_cases hb : (b == 47) = true
  ·rw [if_pos hb]; simp [hb, ih]
  ·rw [if_neg hb]
   have hb' : (b == 47) = false := by simpa using hb
   rw [hb']
   split
   ·rename_i e; rw [e] at ih; simp at ih
   ·rename_i p ps e; rw [e] at ih; simpa using ih
theorem sCount_any (s : List UInt8) (w : World) : Calls Tryz.prog 168 #[sv s, .string ⟨#[47]⟩] w fun e w' => e = .returned (.int .i64 (s.count 47 : Int)) ∧ w' = w := by
 unfold sv
 have hrun : (Extern.BytealgCount.count #[.string (str s), .int .u8 47]).run Tryz.prog w = .ok (.int .i64 (s.count 47 : Int)) w := Lib.run_countString (str s) 47 w
 have h47 : ((⟨#[47]⟩ : ByteArray)[0]'(by decide)).toNat = 47 := rfl
 go_enter Tryz.func168, Tryz.ntmps168
 go_wp2_with fail
 rw [run_callFunc_extern Tryz.func172 (by kernel_rfl) (by kernel_rfl) (by kernel_rfl) (e := Extern.BytealgCount.count) (by kernel_rfl), hrun]
 simp only [Result.andThen]
 rw [Oper.upon_value]
 go_wp2_with fail
 go_ret
 exact ⟨rfl, rfl⟩
theorem slIndexByte_any (s : List UInt8) (w : World) : Calls Tryz.prog 175 #[sv s, .int .u8 47] w fun e w' => e = .returned (.int .i64 (Lib.indexByte s 47)) ∧ w' = w := by
 unfold sv
 have hrun : (Extern.BytealgIndexByte.indexByte #[.string (str s), .int .u8 47]).run Tryz.prog w = .ok (.int .i64 (Lib.indexByte s 47)) w := Lib.run_indexByteString (str s) 47 w
 go_enter Tryz.func175, Tryz.ntmps175
 go_wp2_with fail
 rw [run_callFunc_extern Tryz.func179 (by kernel_rfl) (by kernel_rfl) (by kernel_rfl) (e := Extern.BytealgIndexByte.indexByte) (by kernel_rfl), hrun]
 simp only [Result.andThen]
 rw [Oper.upon_value]
 go_wp2_with fail
 go_ret
 exact ⟨rfl, rfl⟩
theorem slIndex_any (s : List UInt8) (w : World) : Calls Tryz.prog 173 #[sv s, .string ⟨#[47]⟩] w fun e w' => e = .returned (.int .i64 (Lib.indexByte s 47)) ∧ w' = w := by
 have h := slIndexByte_any s w
 unfold sv at h ⊢
 have h47 : ((⟨#[47]⟩ : ByteArray)[0]'(by decide)).toNat = 47 := rfl
 by_cases hs : s = [47]
 ·subst hs
  clear h
  go_enter Tryz.func173, Tryz.ntmps173
  go_wp2_with fail
  go_ret
  exact ⟨rfl, rfl⟩
 ·have hb : ([47] == s) = false := by
   cases e : ([47] == s)
   ·rfl
   ·exact absurd (eq_of_beq e).symm hs
  clear hs
  go_enter Tryz.func173, Tryz.ntmps173
  go_wp2_with fail
  refine h.mono ?_
  rintro e w' ⟨rfl, rfl⟩
  go_wp2_with fail
  go_ret
  exact ⟨rfl, rfl⟩
theorem sIndex_any (s : List UInt8) (w : World) : Calls Tryz.prog 169 #[sv s, .string ⟨#[47]⟩] w fun e w' => e = .returned (.int .i64 (Lib.indexByte s 47)) ∧ w' = w := by
 have h := slIndex_any s w
 unfold sv at h ⊢
 go_enter Tryz.func169, Tryz.ntmps169
 go_wp2_with fail
 refine h.mono ?_
 rintro e w' ⟨rfl, rfl⟩
 go_wp2_with fail
 go_ret
 exact ⟨rfl, rfl⟩
theorem infoStr : (Tryz.prog.info? 9).map (fun i => (i.zero, i.size, i.bytes)) = some (some (.string ByteArray.empty), 1, 16) := by kernel_rfl
theorem sv_nil : sv [] = .string ByteArray.empty := rfl
theorem str_take (l : List UInt8) (m : Nat) (h : m ≤ l.length) (w : World) : (Instr.slice 9 (.string (str l)) none (some (.int .i64 (m : Int))) none).run Tryz.prog w = .ok (.string (str (l.take m))) w := by
 rw [run_slice_string_to_if w _ _ _ _ Tryz.underlying9, if_pos ⟨by omega, by rw [str_size]; omega⟩]
 congr 2
 apply ByteArray.ext
 simp [str, ByteArray.data_extract]
theorem str_drop (l : List UInt8) (m : Nat) (h : m ≤ l.length) (w : World) : (Instr.slice 9 (.string (str l)) (some (.int .i64 (m : Int))) none none).run Tryz.prog w = .ok (.string (str (l.drop m))) w := by
 rw [run_slice_string_from_if w _ _ _ _ Tryz.underlying9, if_pos ⟨by omega, by rw [str_size]; omega⟩]
 congr 2
 apply ByteArray.ext
 simp [str, ByteArray.data_extract]
 rw [List.take_of_length_le (by simp [ByteArray.size])]
theorem cells_set (D : List (List UInt8)) (x : List UInt8) (N j : Nat) (hD : D.length = j) (hj : j < N) : (D.map sv ++ List.replicate (N - j) (sv [])).set j (sv x) = (D ++ [x]).map sv ++ List.replicate (N - (j + 1)) (sv []) := by
 rw [show N - j = (N - (j + 1)) + 1 from by omega, List.replicate_succ, List.set_append_right _ _ (by simp [hD]), List.length_map, hD, Nat.sub_self]
 simp
theorem cells_at (D : List (List UInt8)) (N j : Nat) (hD : D.length = j) (hj : j < N) : (D.map sv ++ List.replicate (N - j) (sv []))[j]? = some (sv []) := by
 rw [show N - j = (N - (j + 1)) + 1 from by omega, List.replicate_succ, List.getElem?_append_right (by simp [hD]), List.length_map, hD, Nat.sub_self]
 rfl
theorem made_strs (w : World) (n : Nat) (hn : n ≤ 10000000) : (w.alloc (.cells (madeCells #[.string ByteArray.empty] n) 9)).ownsRow 0 9 1 (.slice (some ⟨w.heap.size, 0, none⟩) n n) n (([] : List (List UInt8)).map sv ++ List.replicate (n - 0) (sv [])) := by
 have := World.ownsRow_lit (base := 0) (e := 9) (size := 1) w (madeCells #[.string ByteArray.empty] n) n (Nat.zero_le _) (by unfold maxLen; omega) (by rw [size_madeCells, Nat.mul_one])
 rw [toList_madeCells_one] at this
 simpa [sv_nil] using this
def Split (w : World) (s : List UInt8) (e : Ending) (w' : World) : Prop :=
 ∃ g c, e = .returned (.slice (some ⟨g, 0, none⟩) (partsL s).length c) ∧ Vw w' (some ⟨g, 0, none⟩) (partsL s).length c 1 ((partsL s).map sv) ∧ Upd (fun _ => False) w w' ∧ w.heap.size ≤ g
set_option maxHeartbeats 4000000 in
theorem genSplit_any (s : List UInt8) (w : World) (hs : s.length ≤ 1000000) : Calls Tryz.prog 166 #[sv s, .string ⟨#[47]⟩, .int .i64 0, .int .i64 (-1)] w (Split w s) := by
 have hcnt := sCount_any s w
 have hcl := List.count_le_length (a := (47 : UInt8)) (l := s)
 have hpl := parts_len s
 obtain ⟨n, hn⟩ : ∃ n, s.count 47 = n := ⟨_, rfl⟩
 rw [hn] at hcnt hcl hpl
 obtain ⟨N, hN⟩ : ∃ N, N = n + 1 := ⟨_, rfl⟩
 have hNi : (n : Int) + 1 = (N : Int) := by omega
 have hmin : min (N : Int) ((s.length : Int) + 1) = (N : Int) := by omega
 have hN1 : (N : Int) - 1 = (n : Int) := by omega
 have hsz := str_size s
 have hmk := run_make_row' (P := Tryz.prog) 186 9 (.string ByteArray.empty) 16 Tryz.underlying186 infoStr rfl .i64 .i64 N (by omega) (by omega)
 have HN := Lib.hid hn
 have HPL := Lib.hid hpl
 have HNN := Lib.hid hN
 unfold sv at hcnt ⊢
 clear hn hpl hN
 go_enter Tryz.func166, Tryz.ntmps166
 go_wp2_with fail
 refine hcnt.mono ?_
 rintro e w' ⟨rfl, hw⟩
 rw [hw]
 clear hw w'
 clear hcnt
 go_upto_region 9 with (fail)
 have hO1 := made_strs w N (by have := HNN.out; omega)
 have hU1 : Upd (fun i => w.heap.size ≤ i) w (w.alloc (.cells (madeCells #[.string ByteArray.empty] N) 9)) := Upd.alloc _ _ _
 generalize w.alloc (.cells (madeCells #[.string ByteArray.empty] N) 9) = w1 at *
 obtain ⟨g, hg⟩ : ∃ g, w.heap.size = g := ⟨_, rfl⟩
 rw [hg] at hO1 hU1 ⊢
 have HG := Lib.hid hg
 clear hg hmk hmin hNi
 go_wp2_with fail
 go_loopw [0, 10] (fun v i wr => ∃ (j : Nat) (R : List UInt8) (D : List (List UInt8)), j ≤ n ∧ i = .int .i64 (j : Int) ∧ v = .string (str R) ∧ Hid (D.length = j ∧ partsL s = D ++ partsL R ∧ R.count 47 + j = n) ∧ R.length ≤ 1000000 ∧ wr.ownsRow 0 9 1 (.slice (some ⟨g, 0, none⟩) N N) N (D.map sv ++ List.replicate (N - j) (sv [])) ∧ Upd (fun i => g ≤ i) w wr) (fun _ i _ => n - (intOf i).toNat)
 case atStart => exact ⟨0, s, [], by omega, rfl, rfl, ⟨rfl, rfl, by rw [HN.out]; rfl⟩, hs, hO1, hU1⟩
 case round =>
  clear hO1 hU1
  obtain ⟨j, R, D, hj, rfl, rfl, hH, hRl, hO, hU⟩ := hrel
  obtain ⟨hD, hP, hC⟩ := hH.out
  have hjN : j < N := by have := HNN.out; omega
  have hcell : wr.cell? ⟨g, j, none⟩ = some (.string (str [])) := by
   rw [hO.cellAt j (by omega)]; exact cells_at D N j hD hjN
  have hth := hO.frozenAt j
  have hjNi : (j : Int) < (N : Int) := by omega
  by_cases hlt : j < n
  ·have hI : (j : Int) < (n : Int) := by omega
   obtain ⟨m, hm⟩ : ∃ m : Nat, Lib.indexByte R 47 = (m : Int) := ⟨(Lib.indexByte R 47).toNat, by
    have := index_of_count R (by omega); omega⟩
   obtain ⟨q1, q2, q3⟩ := parts_hit R m hm
   have hidx := sIndex_any R wr
   rw [hm] at hidx
   unfold sv at hidx
   have t1 := fun w => str_take R m (by omega) w
   have t2 := fun w => str_drop R (m + 1) (by omega) w
   simp only [Int.natCast_add, Int.natCast_one] at t2
   obtain ⟨hst, _⟩ := hO.stored j (sv (R.take m))
   rw [cells_set D (R.take m) N j hD hjN] at hst
   have hU2 := hU.trans (Upd.setCell (S := fun i => g ≤ i) wr (p := ⟨g, j, none⟩) (Nat.le_refl g) (sv (R.take m)))
   have hR2 : (R.drop (m + 1)).length ≤ 1000000 := by simp; omega
   have hP2 : partsL s = (D ++ [R.take m]) ++ partsL (R.drop (m + 1)) := by rw [hP, q1]; simp
   have hC2 : (R.drop (m + 1)).count 47 + (j + 1) = n := by omega
   have hmi : (m : Int) < (R.length : Int) := by omega
   generalize R.take m = x at *
   generalize R.drop (m + 1) = R2 at *
   have HST := Lib.hid (And.intro hst (And.intro hP2 (And.intro hC2 hD)))
   have HU2 := Lib.hid hU2
   clear hst hP2 hC2 hD q1 q2 q3 hm hO hU hH hP hC hU2
   go_wp2_with fail
   refine hidx.mono ?_
   rintro e w' ⟨rfl, rfl⟩
   go_wp2_with fail
   go_roundw
   case rel =>
    obtain ⟨hst, hP2, hC2, hD⟩ := HST.out
    exact ⟨j + 1, R2, D ++ [x], by omega, by first | rfl | go_num, rfl, ⟨by simp [hD], hP2, hC2⟩, hR2, hst, HU2.out⟩
   case measure => simp [intOf]; omega
  ·obtain rfl : j = n := by omega
   have hpm := parts_miss R (by omega)
   obtain ⟨hst, _⟩ := hO.stored j (sv R)
   rw [cells_set D R N j hD hjN] at hst
   have hz : N - (j + 1) = 0 := by have := HNN.out; omega
   rw [hz, List.replicate_zero, List.append_nil, ← hpm, ← hP] at hst
   have hU2 := hU.trans (Upd.setCell (S := fun i => g ≤ i) wr (p := ⟨g, j, none⟩) (Nat.le_refl g) (sv R))
   have HST := Lib.hid hst
   have HU2 := Lib.hid hU2
   have hj1 : (j : Int) + 1 = (N : Int) := by have := HNN.out; omega
   clear hst hU2 hpm hO hU hH hP hC hD hz
   go_wp2_with fail
   go_ret
   have hNp : (partsL s).length = N := by have := HPL.out; have := HNN.out; omega
   refine ⟨g, N, ?_, ?_, HU2.out.mono (fun i hi h => by have := HG.out; omega), Nat.le_of_eq HG.out⟩
   ·rw [hNp]; rfl
   ·rw [hNp]; exact Vw.of_own HST.out
theorem split_any (s : List UInt8) (w : World) (hs : s.length ≤ 1000000) : Calls Tryz.prog 155 #[sv s] w (Split w s) := by
 have h := genSplit_any s w hs
 unfold sv at h ⊢
 have h2 : Calls Tryz.prog 165 #[.string (str s), .string ⟨#[47]⟩] w (Split w s) := by
  go_enter Tryz.func165, Tryz.ntmps165
  go_wp2_with fail
  refine h.mono ?_
  rintro e w' ⟨g, c, rfl, hv, hU, hg⟩
  go_wp2_with fail
  go_ret
  exact ⟨g, c, rfl, hv, hU, hg⟩
 clear h
 go_enter Tryz.func155, Tryz.ntmps155
 go_wp2_with fail
 refine h2.mono ?_
 rintro e w' ⟨g, c, rfl, hv, hU, hg⟩
 go_wp2_with fail
 go_ret
 exact ⟨g, c, rfl, hv, hU, hg⟩
def numB (v : Int) : Bool := decide (-1 ≤ v) && decide (v ≤ 1999)
theorem iv_at (l : List Int) (j : Nat) (h : j < l.length) : (l.map iv)[j]? = some (.int .i64 l[j]) := by simp [iv, h]
theorem within_any (v lo hi : Int) (w : World) : Calls Tryz.prog 79 #[.int .i64 v, .int .i64 lo, .int .i64 hi] w fun e w' => e = .returned (.bool (decide (lo ≤ v) && decide (v ≤ hi))) ∧ w = w' := by
 by_cases h : lo ≤ v
 ·rw [decide_eq_true h, Bool.true_and]
  go_enter Tryz.func79, Tryz.ntmps79
  go_wp2
  go_ret
  exact ⟨rfl, rfl⟩
 ·rw [decide_eq_false h, Bool.false_and]
  have hI : decide (lo ≤ v) = false := decide_eq_false h
  go_enter Tryz.func79, Tryz.ntmps79
  go_wp2
  go_ret
  exact ⟨rfl, rfl⟩
theorem number_any (v : Int) (w : World) : Calls Tryz.prog 82 #[.int .i64 v] w fun e w' => e = .returned (.bool (numB v)) ∧ w = w' := by
 have h := within_any v (-1) 1999 w
 have e : (decide (-1 ≤ v) && decide (v ≤ 1999)) = numB v := rfl
 rw [e] at h
 generalize numB v = b at *
 go_enter Tryz.func82, Tryz.ntmps82
 go_wp2_with fail
 refine h.mono ?_
 rintro e w' ⟨rfl, rfl⟩
 go_wp2_with fail
 go_ret
 exact ⟨rfl, rfl⟩
def badN (v : Int) : Bool := decide (v < 0) || !numB v
theorem mall1_any (v : Int) (w : World) : Calls Tryz.prog 151 #[.int .i64 v] w fun e w' => e = .returned (.bool (badN v)) ∧ Upd (fun _ => False) w w' := by
 have h := number_any v w
 have e : badN v = (decide (v < 0) || !numB v) := rfl
 by_cases h0 : v < 0
 ·rw [decide_eq_true h0, Bool.true_or] at e
  rw [e]
  clear h e
  go_enter Tryz.func151, Tryz.ntmps151
  go_wp2_with fail
  go_ret
  exact ⟨rfl, Upd.refl _ _⟩
 ·rw [decide_eq_false h0, Bool.false_or] at e
  rw [e]
  have hI : decide (v < 0) = false := decide_eq_false h0
  generalize numB v = b at *
  clear e h0
  go_enter Tryz.func151, Tryz.ntmps151
  go_wp2_with fail
  refine h.mono ?_
  rintro e w' ⟨rfl, rfl⟩
  clear h
  go_wp2_with fail
  go_ret
  exact ⟨rfl, Upd.refl _ _⟩
set_option maxHeartbeats 2000000 in
theorem cfN_idx (a : Option Addr) (c : Nat) (l : List Int) (w : World) (hv : Vw w a l.length c 1 (l.map iv)) :
  Calls Tryz.prog 162 #[.slice a l.length c, .func (.func 151) #[] #[]] w fun e w' => ∃ k : Int, e = .returned (.int .i64 k) ∧ decide (0 ≤ k) = l.any badN ∧ Upd (fun _ => False) w w' := by
 have hcap := hv.cap
 have hlc := hv.le
 unfold maxLen at hcap
 have HV := Lib.hid hv
 clear hv
 go_enter Tryz.func162, Tryz.ntmps162
 go_wp2_with fail
 go_loopw [8] (fun i wr => ∃ j : Nat, j ≤ l.length ∧ i = .int .i64 (j : Int) ∧ Hid ((l.take j).any badN = false) ∧ Hid (Upd (fun _ => False) w wr)) (fun i _ => l.length - (intOf i).toNat)
 case atStart => exact ⟨0, Nat.zero_le _, rfl, (by show _ = _; simp), Lib.hid (Upd.refl _ _)⟩
 case round =>
  obtain ⟨j, hj, rfl, hA, HU⟩ := hrel
  by_cases hlt : j < l.length
  ·have hI : (j : Int) < (l.length : Int) := by omega
   obtain ⟨b, o, hb, hcell⟩ := (HV.out.upd HU.out (fun _ _ h => h)).at (by omega) (by decide)
   subst hb
   have q : wr.cell? ⟨b, o + j, none⟩ = some (.int .i64 l[j]) := hcell j _ (iv_at l j hlt)
   have hs := any_take_succ badN l j hlt
   rw [hA.out, Bool.false_or] at hs
   have hall := any_of_take badN l (j + 1)
   rw [hs] at hall
   clear hcell
   generalize l[j] = x at *
   have HS := Lib.hid hs
   have HALL := Lib.hid hall
   have hlaw := mall1_any x wr
   clear hs hall hA
   cases hp : badN x with
   | true =>
    rw [hp] at hlaw
    have HANY := Lib.hid (HALL.out hp)
    clear hp
    go_wp2_with fail
    refine hlaw.mono ?_
    rintro e w2 ⟨rfl, hU2⟩
    have HU2 := Lib.hid (HU.out.trans hU2)
    clear hlaw hU2
    go_wp2_with fail
    go_ret
    exact ⟨(j : Int), rfl, by rw [HANY.out]; exact decide_eq_true (by omega), HU2.out⟩
   | false =>
    rw [hp] at hlaw
    have HP := Lib.hid hp
    clear hp
    go_wp2_with fail
    refine hlaw.mono ?_
    rintro e w2 ⟨rfl, hU2⟩
    have HU2 := Lib.hid (HU.out.trans hU2)
    clear hlaw hU2
    go_wp2_with fail
    go_roundw
    case rel => exact ⟨j + 1, by omega, by first | rfl | go_num, (by show _ = _; rw [HS.out, HP.out]), HU2⟩
    case measure => simp [intOf]; omega
  ·obtain rfl : j = l.length := by omega
   have h0 := hA.out
   rw [List.take_length] at h0
   have H0 := Lib.hid h0
   have hI : ¬ (l.length : Int) < (l.length : Int) := by omega
   clear h0 hA hlt
   go_wp2_with fail
   go_ret
   exact ⟨-1, rfl, by rw [H0.out]; decide, HU.out⟩
theorem cfN_any (a : Option Addr) (c : Nat) (l : List Int) (w : World) (hv : Vw w a l.length c 1 (l.map iv)) :
  Calls Tryz.prog 150 #[.slice a l.length c, .func (.func 151) #[] #[]] w fun e w' => e = .returned (.bool (l.any badN)) ∧ Upd (fun _ => False) w w' := by
 have h := cfN_idx a c l w hv
 clear hv
 go_enter Tryz.func150, Tryz.ntmps150
 go_wp2_with fail
 refine h.mono ?_
 rintro e w' ⟨k, rfl, hk, hU⟩
 have HK := Lib.hid (And.intro hk hU)
 clear hk h hU
 go_wp2_with fail
 go_ret
 exact ⟨by rw [← HK.out.1]; rfl, HK.out.2⟩
def allB (l : List Int) : Bool := decide (l.length ≤ 2000) && !l.any badN
theorem mall_any (a : Option Addr) (c : Nat) (l : List Int) (w : World) (hv : Vw w a l.length c 1 (l.map iv)) :
  Calls Tryz.prog 121 #[.slice a l.length c] w fun e w' => e = .returned (.bool (allB l)) ∧ Upd (fun _ => False) w w' := by
 have h := cfN_any a c l w hv
 have e : allB l = (decide (l.length ≤ 2000) && !l.any badN) := rfl
 clear hv
 by_cases h0 : l.length ≤ 2000
 ·rw [decide_eq_true h0, Bool.true_and] at e
  rw [e]
  have hI : decide ((l.length : Int) ≤ 2000) = true := by rw [decide_eq_true_iff]; omega
  generalize l.any badN = b at *
  clear e h0
  go_enter Tryz.func121, Tryz.ntmps121
  go_wp2_with fail
  refine h.mono ?_
  rintro e w' ⟨rfl, hU⟩
  have HU := Lib.hid hU
  clear h hU
  go_wp2_with fail
  go_ret
  exact ⟨rfl, HU.out⟩
 ·rw [decide_eq_false h0, Bool.false_and] at e
  rw [e]
  have hI : decide ((l.length : Int) ≤ 2000) = false := by rw [decide_eq_false_iff_not]; omega
  clear e h0 h
  go_enter Tryz.func121, Tryz.ntmps121
  go_wp2_with fail
  go_ret
  exact ⟨rfl, Upd.refl _ _⟩
section
open Go.Maps
theorem tk_keyed : Keyed Tryz.prog 182 := Keyed.of_law (deep_law_gate (by kernel_rfl) (by decide +kernel) (by decide +kernel) (by kernel_rfl) (by kernel_rfl))
def klit (q : List UInt8) : Lit := .string (keyBytes [.string q])
def tkV (q : List UInt8) : Value := .agg #[.string (str q)]
theorem tk_key (q : List UInt8) (h : q.length ≤ maxLen) : keyOf Tryz.prog 182 (tkV q) = some (klit q) := by
 have hk : Tryz.prog.keyType 182 = true := by kernel_rfl
 have hf : (tkV q).formed Tryz.prog 182 = true := by
  unfold tkV Value.formed
  rw [Tryz.underlying182]
  have hc : Tryz.prog.cellsOf 182 = 1 := by kernel_rfl
  simp [hc]
 have h1 : 1 ≤ Tryz.prog.types.size := by decide +kernel
 have hs : ∃ m, Tryz.prog.types.size + 1 = m + 2 := ⟨Tryz.prog.types.size - 1, by omega⟩
 obtain ⟨m, hm⟩ := hs
 have hc : Tryz.prog.cellsOf 182 = 1 := by kernel_rfl
 have hc2 : Tryz.prog.cellsOf 9 = 1 := by kernel_rfl
 have hl : (str q).size ≤ maxLen := by rw [str_size]; exact h
 have hkl : Tryz.prog.keyLits (m + 2) 182 [.string (str q)] = some [.string q] := by
  simp [Program.keyLits, Tryz.underlying182, Tryz.underlying9, hc, hc2]
  rw [if_pos hl]
  rfl
 unfold keyOf
 rw [hk, hf, Tryz.underlying182, hm]
 simp only [tkV, Value.cells, Bool.and_self, if_true, hkl, Option.map_some]
 rfl
theorem klit_inj {p q : List UInt8} (hp : p.length ≤ maxLen) (hq : q.length ≤ maxLen) (h : klit p = klit q) : p = q := by
 have := tk_keyed.inj (tk_key p hp) (by rw [h]; exact tk_key q hq)
 unfold tkV at this
 simp only [Value.agg.injEq] at this
 have h2 := congrArg (fun a : Array Value => a[0]?) this
 simp [str] at h2
 exact h2
/-- What a set reads as. -/
def setD : List (List UInt8) → DataW Unit
 | [] => .map []
 | q :: S => (setD S).put (klit q) (.lit (.bool true))
theorem setD_map (S : List (List UInt8)) : IsMap (setD S) := by
 induction S with
 | nil => exact isMap_empty
 | cons q S ih => exact ih.put _ _
theorem setD_at (S : List (List UInt8)) (hS : ∀ q ∈ S, q.length ≤ maxLen) (q : List UInt8) (hq : q.length ≤ maxLen) : (setD S).atKey (klit q) (.lit (.bool false)) = .lit (.bool (S.contains q)) := by
 induction S with
 | nil => rfl
 | cons x S ih =>
  by_cases hx : klit q = klit x
  ·have := klit_inj hq (hS x (by simp)) hx
   subst this
   unfold setD
   rw [atKey_put_same (setD_map S) (tk_keyed.key (tk_key q hq))]
   simp
  ·unfold setD
   rw [atKey_put_other hx, ih (fun y hy => hS y (by simp [hy]))]
   have : ¬ q = x := fun e => hx (by rw [e])
   simp [this]
/-- The block is a set of paths. -/
def SetM (w : World) (b : Nat) (S : List (List UInt8)) : Prop := w.ownsMap Tryz.prog 182 (plainElem Tryz.prog 4) b S.length (setD S)
theorem SetM.lt {w : World} {b : Nat} {S : List (List UInt8)} (h : SetM w b S) : b < w.heap.size := World.ownsMap.lt h
theorem SetM.upd {S0 : Nat → Prop} {w w' : World} {b : Nat} {S : List (List UInt8)} (h : SetM w b S) (hU : Upd S0 w w') (hb : ¬ S0 b) : SetM w' b S := by
 obtain ⟨es, clock, h1, h2, h3, h4⟩ := h
 exact ⟨es, clock, (hU.block b (lt_of_heap h1) hb).trans h1, h2, h3, h4⟩
theorem zero_bool (w : World) : (zeroValue 4).run Tryz.prog w = .ok (.bool false) w := by kernel_rfl
theorem SetM.look {w : World} {b : Nat} {S : List (List UInt8)} (h : SetM w b S) (hS : ∀ q ∈ S, q.length ≤ maxLen) (q : List UInt8) (hq : q.length ≤ maxLen) : (Instr.lookup 162 (.map (some b)) (tkV q) false).run Tryz.prog w = .ok (.bool (S.contains q)) w := by
 obtain ⟨v, ps, hrun, hR⟩ := World.ownsMap.lookup h tk_keyed Tryz.underlying162 (zero_bool w) (plainElem_bool Tryz.underlying4 false) (tk_key q hq)
 rw [setD_at S hS q hq] at hR
 have hv : v = .bool (S.contains q) := by
  unfold plainElem at hR
  rw [Tryz.underlying4] at hR
  cases v <;> simp at hR
  rename_i x
  rw [hR.1]
  simp
 rw [hv] at hrun
 exact hrun
end
section
open Go.Maps
/-- A file. -/
structure Fl where
 path : List UInt8
 exec : Bool
 text : List UInt8
def flV (x : Fl) : List Value := [sv x.path, .bool x.exec, sv x.text]
theorem flV_len (x : Fl) : (flV x).length = 3 := rfl
theorem fl_get (l : List Fl) (i r : Nat) (hi : i < l.length) (hr : r < 3) : (l.flatMap flV)[i * 3 + r]? = (flV l[i])[r]? := by
 rw [flatMap_get flV 3 flV_len l i r hr, List.getElem?_eq_getElem hi]; rfl
theorem grown_upd {w w' : World} {b : Nat} (h : w.grownBy w' (some b)) : Upd (fun k => k = b) w w' := Upd.grown (S := fun k => k = b) h (fun k hk => by cases hk; rfl)
theorem wpList_put_set {ops : Array Oper} {rest : List Oper} {o : Oper} {a : Act} {w : World} {Q : Exit → Act → World → Prop} (hg : o.guard = none) (m x v : Operand) (hop : o.op = Op.mapUpdate 162 m x v) (b : Nat) (S : List (List UInt8)) (hm : a.eval m = .map (some b)) (hS : SetM w b S)
  (hn : S.length < 1000000) (q : List UInt8) (hq : q.length ≤ maxLen) (hx : a.eval x = tkV q) (hv : a.eval v = .bool true) (hK : ∀ w', SetM w' b (q :: S) → Upd (fun k => k = b) w w' → wpList Tryz.prog ops Q rest (a.put o.dst undef) w') : wpList Tryz.prog ops Q (o :: rest) a w :=
 wpList_mapUpdate_own w hg m x v 162 hop 182 4 tk_keyed Tryz.underlying162 (plainElem Tryz.prog 4) b S.length (setD S) hm hS (by unfold maxLen; omega) (tkV q) (.bool true) (klit q) hx hv (tk_key q hq) (.lit (.bool true)) [] (plainElem_bool Tryz.underlying4 true)
  (fun w' h1 h2 => hK w' h1 (grown_upd h2))
set_option maxHeartbeats 4000000 in
theorem tpaths_any (a : Option Addr) (c : Nat) (l : List Fl) (w : World) (hv : Vw w a l.length c 3 (l.flatMap flV)) (hl : l.length ≤ 100000) (hq : ∀ x ∈ l, x.path.length ≤ maxLen) :
  Calls Tryz.prog 123 #[.slice a l.length c] w fun e w' => ∃ b, e = .returned (.map (some b)) ∧ SetM w' b ((l.map Fl.path).reverse) ∧ w.heap.size ≤ b ∧ Upd (fun _ => False) w w' := by
 have hmm := @run_makeMap Tryz.prog
 have hU0 := Upd.alloc (fun _ => False) w (.map #[] 0)
 have hs0 : SetM (w.alloc (.map #[] 0)) w.heap.size [] := World.ownsMap_made _ _ _ _
 have hcap := hv.cap
 have hlc := hv.le
 unfold maxLen at hcap
 have HI := Lib.hid (And.intro hs0 hU0)
 have HV := Lib.hid hv
 clear hs0 hU0 hv
 go_enter Tryz.func123, Tryz.ntmps123
 go_upto_region 2 with (fail)
 generalize w.alloc (.map #[] 0) = y0 at *
 obtain ⟨B, hB⟩ : ∃ B, w.heap.size = B := ⟨_, rfl⟩
 rw [hB] at HI ⊢
 have HB := Lib.hid hB
 clear hB
 go_wp2_with fail
 go_loopw [9] (fun i wr => ∃ j : Nat, j ≤ l.length ∧ i = .int .i64 (j : Int) ∧ Hid (SetM wr B (((l.map Fl.path).take j).reverse) ∧ Upd (fun _ => False) w wr)) (fun i _ => l.length - (intOf i).toNat)
 case atStart => exact ⟨0, Nat.zero_le _, rfl, HI⟩
 case round =>
  clear HI
  obtain ⟨j, hj, rfl, HI⟩ := hrel
  by_cases hlt : j < l.length
  ·have hI : (j : Int) < (l.length : Int) := by omega
   have hvr := HV.out.upd HI.out.2 (fun _ _ h => h)
   obtain ⟨b, o, hb, hcell⟩ := hvr.at (by omega) (by decide)
   subst hb
   have q0 : wr.cell? ⟨b, o + j * 3, none⟩ = some (sv l[j].path) := hcell (j * 3 + 0) _ (fl_get l j 0 hlt (by decide))
   have q1 : wr.cell? ⟨b, o + j * 3 + 1, none⟩ = some (.bool l[j].exec) := hcell (j * 3 + 1) _ (fl_get l j 1 hlt (by decide))
   have q2 : wr.cell? ⟨b, o + j * 3 + 2, none⟩ = some (sv l[j].text) := hcell (j * 3 + 2) _ (fl_get l j 2 hlt (by decide))
   have hlen := hq l[j] (List.getElem_mem hlt)
   have hnext : l[j].path :: ((l.map Fl.path).take j).reverse = ((l.map Fl.path).take (j + 1)).reverse := by
    have e : (l.map Fl.path).take (j + 1) = (l.map Fl.path).take j ++ [l[j].path] := by rw [List.take_succ_eq_append_getElem (by simpa using hlt)]; simp
    rw [e, List.reverse_append]; rfl
   have HN := Lib.hid hnext
   clear hvr hcell hnext
   generalize l[j] = x at *
   obtain ⟨xp, xe, xt⟩ := x
   dsimp only at *
   unfold sv at q0 q2
   have hlj : ((l.map Fl.path).take j).reverse.length < 1000000 := by simp; omega
   have hsx : SetM (wr.alloc (.cells #[.string (str xp), .bool xe, .string (str xt)] 103)) B (((l.map Fl.path).take j).reverse) := HI.out.1.upd (Upd.alloc (fun _ => False) wr _) (fun h => h)
   have HU := Lib.hid (HI.out.2.trans (Upd.alloc (fun _ => False) wr (.cells #[.string (str xp), .bool xe, .string (str xt)] 103)))
   have hpb := HB.out
   clear HI
   go_upto_region 5 with (fail)
   go_wp2_with (at_mapUpdate; refine wpList_put_set rfl (.tmp 13) (.tmp 16) (.const (.bool true)) rfl B _ rfl hsx hlj xp hlen rfl rfl ?_)
   intro w2 hs2 hU2
   have HZ := Lib.hid (And.intro (show SetM w2 B (((l.map Fl.path).take (j + 1)).reverse) from HN.out ▸ hs2) (HU.out.next hU2 (fun i hi e => by omega)))
   clear hs2 hU2 hsx
   go_wp2_with fail
   go_roundw
   case rel => exact ⟨j + 1, by omega, by first | rfl | go_num, HZ⟩
   case measure => simp [intOf]; omega
  ·obtain rfl : j = l.length := by omega
   have hI : ¬ (l.length : Int) < (l.length : Int) := by omega
   have hs := HI.out.1
   rw [List.take_of_length_le (by simp)] at hs
   have HZ := Lib.hid (And.intro hs HI.out.2)
   clear hs HI hlt
   go_wp2_with fail
   go_ret
   exact ⟨B, rfl, HZ.out.1, by have := HB.out; omega, HZ.out.2⟩
end
end Go.Proofs.YtccejkikphpnfaaGreatDoor
