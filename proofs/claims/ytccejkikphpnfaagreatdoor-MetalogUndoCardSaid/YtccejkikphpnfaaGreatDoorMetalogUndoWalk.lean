
/- The walk of MetalogUndo. -/
import Derived.Test.YtccejkikphpnfaaGreatDoorMet19
namespace Go.Proofs.YtccejkikphpnfaaGreatDoor
set_option linter.unusedSimpArgs false
set_option linter.unusedVariables false
set_option maxRecDepth 100000
open Go.ChangeShapes Go.WideShapes Go.ChangeAt Go.RowKit

/-- The undone: from n - 1 down, back of them. -/
def undone (n : Nat) : Nat → List Int
  | 0 => []
  | i + 1 => undone n i ++ [((n - 1 - i : Nat) : Int)]
theorem undone_len (n i : Nat) : (undone n i).length = i := by induction i <;> simp [undone, *]

theorem row_vw {w : World} {g k : Nat} {X : Array Value} {T : TypeId} (hX : X.size = k) (h : w.heap[g]? = some (.cells X T)) : Vw w (some ⟨g, 0, none⟩) 1 1 k X.toList := by
  refine ⟨by simp [hX], Nat.le_refl _, by decide, (fun h => by cases h), fun y hy j u hu => ?_⟩
  cases hy
  have ha : (Addr.add ⟨g, 0, none⟩ j) = ⟨g, j, none⟩ := by unfold Addr.add; split <;> simp_all
  rw [ha, cell_of_row _ _ _ _ _ _ h]
  simpa using hu
theorem ky_vw (w : World) (x : Ky) : Vw (w.alloc (.cells (kyA x) 52)) (some ⟨w.heap.size, 0, none⟩) [x].length 1 32 ([x].flatMap kyV) := by
  have h := row_vw (kyA_size x) (heap_alloc_new w (.cells (kyA x) 52))
  have e : (kyA x).toList = [x].flatMap kyV := by simp [kyA, kyV]
  rw [e] at h
  exact h

set_option maxHeartbeats 8000000 in
theorem MetalogUndo_walk (w : World) (n0 : Int) (wn : (Lit.int .i64 n0).wf = true) (b0 : Int) (wb : (Lit.int .i64 b0).wf = true) (a : Option Addr) (c : Nat) (xs : List Int) (hv : Vw w a xs.length c 1 (xs.map iv)) (hb : ∀ g, blk a = some g → g < w.heap.size) :
    Calls Tryz.prog 5 #[.int .i64 n0, .int .i64 b0, .slice a xs.length c] w fun e w' => e = .returned (.bool true) ∧ Below w.heap.size w w' := by
  clear wn wb
  have hu0 := (wrap_u64 n0).1
  have hb0 := (wrap_u64 b0).1
  obtain ⟨p, hp, hp20⟩ : ∃ p : Nat, (IntKind.u64.wrap n0).tmod 20 = (p : Int) ∧ p < 20 := by
    refine ⟨((IntKind.u64.wrap n0) % 20).toNat, ?_, by omega⟩
    rw [Int.tmod_eq_emod_of_nonneg hu0]; omega
  obtain ⟨n, hnp⟩ : ∃ n : Nat, n = p + 1 := ⟨_, rfl⟩
  obtain ⟨k, hk, hkn⟩ : ∃ k : Nat, (IntKind.u64.wrap b0).tmod ((n : Int) + 1) = (k : Int) ∧ k ≤ n := by
    have h1 : (0 : Int) ≤ (IntKind.u64.wrap b0) % ((n : Int) + 1) := Int.emod_nonneg _ (by omega)
    have h2 : (IntKind.u64.wrap b0) % ((n : Int) + 1) < (n : Int) + 1 := Int.emod_lt_of_pos _ (by omega)
    refine ⟨((IntKind.u64.wrap b0) % ((n : Int) + 1)).toNat, ?_, by omega⟩
    rw [Int.tmod_eq_emod_of_nonneg hb0]; omega
  have hw1 : IntKind.i64.wrap (p : Int) = (p : Int) := IntWalk.i64_in _ (by omega)
  have hw2 : IntKind.i64.wrap (1 + (p : Int)) = (n : Int) := (IntWalk.i64_in _ (by omega)).trans (by omega)
  have hw3 : IntKind.i64.wrap ((n : Int) + 1) = (n : Int) + 1 := IntWalk.i64_in _ (by omega)
  have hw4 : IntKind.u64.wrap ((n : Int) + 1) = (n : Int) + 1 := by show _ % 18446744073709551616 = _; omega
  have hw5 : IntKind.i64.wrap (k : Int) = (k : Int) := IntWalk.i64_in _ (by omega)
  have HV := Lib.hid (And.intro hv hb)
  have hn1 : 1 ≤ n := by omega
  have hn20 : n ≤ 20 := by omega
  have hcapv := hv.cap
  have hlev := hv.le
  unfold maxLen at hcapv
  clear hu0 hb0 hv hb hnp hp20
  go_enter Tryz.func5, Tryz.ntmps5
  go_upto_region 3 with (fail)
  clear hw1 hw2 hw3 hw4 hw5 hp hk
  go_wp2_with fail
  refine (mNew_any w).mono ?_
  rintro e w1 ⟨lb, rfl, hL, hU1, hlb⟩
  have HS := Lib.hid (us_new hL hU1 hlb)
  clear hL hU1
  go_wp2_with fail
  refine (awake21_any w1).mono ?_
  rintro e w2 ⟨rfl, hU⟩
  have HS2 := Lib.hid (HS.out.other hU)
  clear hU HS
  go_wp2_with fail
  go_loopw [8] (fun i wr => ∃ j : Nat, j ≤ n ∧ i = .int .i64 (j : Int) ∧ Hid (US w lb j j [] j wr)) (fun i _ => n - (intOf i).toNat)
  case atStart => exact ⟨0, Nat.zero_le _, rfl, HS2⟩
  case round =>
    clear HS2
    obtain ⟨j, hj, rfl, HS⟩ := hrel
    by_cases hlt : j < n
    · have hI : (j : Int) < (n : Int) := by omega
      go_upto_if 42 with (fail)
      go_cut [9] (fun s9 wx => ∃ q : Int, s9 = .int .i64 q ∧ -1 ≤ q ∧ q < 2000 ∧ wx = wr)
      case first =>
        by_cases hjx : j < xs.length
        · have hvw := HV.out.1.upd HS.out.upd (fun _ _ h => h)
          obtain ⟨b, o, hb, hcell⟩ := hvw.at (by omega) (by decide)
          subst hb
          have hq : wr.cell? ⟨b, o + j, none⟩ = some (.int .i64 xs[j]) := hcell j _ (iv_get xs j hjx)
          have hI3 : (j : Int) < (xs.length : Int) := by omega
          have hu := (wrap_u64 xs[j]).1
          obtain ⟨q, hq1, hq2⟩ : ∃ q : Nat, (IntKind.u64.wrap xs[j]).tmod 100 = (q : Int) ∧ q < 100 := by
            refine ⟨((IntKind.u64.wrap xs[j]) % 100).toNat, ?_, by omega⟩
            rw [Int.tmod_eq_emod_of_nonneg hu]; omega
          have hqw : IntKind.i64.wrap (q : Int) = (q : Int) := IntWalk.i64_in _ (by omega)
          generalize xs[j] = xj at *
          clear hvw hcell hu
          go_wp2_with fail
          go_meet
          case rel => exact ⟨(q : Int), rfl, by omega, by omega, rfl⟩
        · have hI3 : decide ((j : Int) < (xs.length : Int)) = false := by rw [decide_eq_false_iff_not]; omega
          go_wp2_with fail
          go_meet
          case rel => exact ⟨-1, rfl, by omega, by omega, rfl⟩
      case rest =>
        obtain ⟨q, rfl, hq0, hq1, rfl⟩ := hcut
        have hjw : IntKind.i64.wrap ((j : Int) - 1) = (j : Int) - 1 := IntWalk.i64_in _ (by omega)
        have hbw : IntKind.u8.wrap (j : Int) = ((UInt8.ofNat j).toNat : Int) := byte_wrap j
        have hpk := r21PackRoot_any ((j : Int) - 1) (some ⟨wc.heap.size, 0, none⟩) 1 [ky1 j] q _ ⟨by omega, by omega, by simp, hq0, hq1⟩ (ky_vw wc (ky1 j))
        have HSk := Lib.hid (HS.out.other (Upd.alloc (fun _ => False) wc (.cells (kyA (ky1 j)) 52)))
        unfold rootA at hpk
        dsimp only [List.length_cons, List.length_nil] at hpk
        clear HS
        go_wp2_with first
          | refine wpList_build_ky rfl (.tmp 54) rfl j rfl ?_
          | refine wpList_slice_ky rfl (.tmp 55) rfl (ky1 j) rfl ?_
        refine hpk.mono ?_
        unfold Packed
        rintro e w3 ⟨a2, c2, rfl, hv2, hf2, hU3⟩
        have HS3 := Lib.hid (HSk.out.other hU3)
        have hadd := HS3.out.root (by omega) (ky1 j) q hq0 hq1 a2 c2 hv2
        clear hpk hv2 hf2 hU3 HSk hbw hjw
        generalize rootL ((j : Int) - 1) [ky1 j] q = rl at *
        go_wp2_with fail
        refine hadd.mono ?_
        rintro e w4 ⟨rfl, hS4, hU4⟩
        have HS4 := Lib.hid hS4
        clear hadd hS4 hU4 HS3
        go_wp2_with fail
        go_roundw
        case rel => exact ⟨j + 1, by omega, by first | rfl | go_num, HS4⟩
        case measure => simp [intOf]; omega
    · obtain rfl : j = n := by omega
      have hline := HS.out.line (Nat.le_refl _) (by omega)
      have hI : decide ((j : Int) < (j : Int)) = false := by simp
      go_wp2_with fail
      refine hline.mono ?_
      rintro e w3 ⟨la, lc, rfl, hown, hlf, hU⟩
      have HS3 := Lib.hid (HS.out.other hU)
      have HL3 := Lib.hid (And.intro (Vw.of_own hown) hlf)
      clear hline hown hlf hU HS hlt
      go_wp2_with fail
      go_loopw [13] (fun i wr => ∃ t : Nat, t ≤ k ∧ i = .int .i64 (t : Int) ∧ Hid (US w lb j (j - t) (undone j t) (j + t) wr ∧ Vw wr la j lc 1 ((downL j).reverse.map iv))) (fun i _ => k - (intOf i).toNat)
      case atStart => exact ⟨0, Nat.zero_le _, rfl, Lib.hid ⟨HS3.out, HL3.out.1⟩⟩
      case round =>
        clear HS3
        obtain ⟨t, ht, rfl, HS⟩ := hrel
        by_cases hlt : t < k
        · have hI : (t : Int) < (k : Int) := by omega
          have hat := HS.out.1.at (by omega)
          rw [show ((j - t : Nat) : Int) - 1 = (j : Int) - 1 - (t : Int) from by omega] at hat
          have hw1 : IntKind.i64.wrap ((j : Int) - 1) = (j : Int) - 1 := IntWalk.i64_in _ (by omega)
          have hw2 : IntKind.i64.wrap ((j : Int) - 1 - (t : Int)) = (j : Int) - 1 - (t : Int) := IntWalk.i64_in _ (by omega)
          have hw3 : IntKind.i64.wrap ((j : Int) - 2) = (j : Int) - 2 := IntWalk.i64_in _ (by omega)
          have hw4 : IntKind.i64.wrap ((j : Int) - 2 - (t : Int)) = (j : Int) - 2 - (t : Int) := IntWalk.i64_in _ (by omega)
          go_wp2_with fail
          refine hat.mono ?_
          rintro e w' ⟨rfl, rfl⟩
          clear hat
          go_wp2_with fail
          refine (r21PackMove_any ((j : Int) - 2 - (t : Int)) false _).mono ?_
          rintro e w5 ⟨a5, c5, rfl, hv5, hf5, hU5⟩
          have hS5 := HS.out.1.other hU5
          have hun : undone j (t + 1) = undone j t ++ [((j - 1 - t : Nat) : Int)] := rfl
          have htop : j - t = (j - 1 - t) + 1 := by omega
          rw [htop] at hS5
          have hv5' : ((j - 1 - t : Nat) : Int) - 1 = (j : Int) - 2 - (t : Int) := by omega
          have hadd := hS5.undo (by omega) (by omega) (by rw [undone_len]; omega) (by omega) a5 c5 (by rw [hv5']; exact hv5)
          rw [hv5', ← hun] at hadd
          have HL5 := Lib.hid (HS.out.2.upd hU5 (fun _ _ h => h))
          clear hv5 hf5 hU5 hS5 hun htop hv5' hw1 hw2 hw3 hw4 HS
          go_wp2_with fail
          refine hadd.mono ?_
          rintro e w6 ⟨rfl, hS6, hU6⟩
          have HS6 := Lib.hid (And.intro hS6 (HL5.out.upd hU6 HL3.out.2))
          clear hadd hS6 hU6 HL5
          go_wp2_with fail
          go_roundw
          case rel => exact ⟨t + 1, by omega, by first | rfl | go_num, Lib.hid ⟨by rw [show j - (t + 1) = j - 1 - t from by omega, show j + (t + 1) = j + t + 1 from by omega]; exact HS6.out.1, HS6.out.2⟩⟩
          case measure => simp [intOf]; omega
        · obtain rfl : t = k := by omega
          obtain ⟨r, hr⟩ : ∃ r, r = j - t := ⟨_, rfl⟩
          have hjr : j = r + t := by omega
          have hS := HS.out.1
          rw [← hr] at hS
          have hred := hS.redos (by rw [undone_len]; omega)
          rw [undone_len] at hred
          have hwr : IntKind.i64.wrap ((j : Int) - (t : Int)) = (r : Int) := (IntWalk.i64_in _ (by omega)).trans (by omega)
          have HS1 := Lib.hid (And.intro hS HS.out.2)
          have HJR := Lib.hid hjr
          have ht20 : t ≤ 20 := by omega
          clear hS HS hr hjr hlt
          have hI : decide ((t : Int) < (t : Int)) = false := by simp
          go_wp2_with fail
          refine hred.mono ?_
          rintro e w3 ⟨a3, c3, rfl, hU⟩
          have HS2 := Lib.hid (And.intro (HS1.out.1.other hU) (HS1.out.2.upd hU (fun _ _ h => h)))
          have hline := HS2.out.1.line (by have := HJR.out; omega) (by omega)
          clear hred hU HS1
          go_wp2_with fail
          refine hline.mono ?_
          rintro e w4 ⟨a4, c4, rfl, hown, hlf, hU⟩
          have HS3 := Lib.hid (And.intro (HS2.out.1.other hU) (HS2.out.2.upd hU (fun _ _ h => h)))
          have hcm := HS3.out.1.commits (by omega)
          clear hline hown hlf hU HS2
          go_wp2_with fail
          refine hcm.mono ?_
          rintro e w5 ⟨a5, c5, rfl, hU⟩
          have HS4 := Lib.hid (And.intro (HS3.out.1.other hU) (HS3.out.2.upd hU (fun _ _ h => h)))
          clear hcm hU HS3
          go_wp2_with fail
          go_loopw [14] (fun i wr => ∃ s : Nat, s ≤ t ∧ i = .int .i64 (s : Int) ∧ Hid (US w lb j (r + s) (undone j (t - s)) (j + t + s) wr ∧ Vw wr la j lc 1 ((downL j).reverse.map iv))) (fun i _ => t - (intOf i).toNat)
          case atStart => exact ⟨0, Nat.zero_le _, rfl, Lib.hid ⟨HS4.out.1, HS4.out.2⟩⟩
          case round =>
            clear HS4
            obtain ⟨s, hs, rfl, HS⟩ := hrel
            by_cases hlt : s < t
            · have hI : (s : Int) < (t : Int) := by omega
              have hjr := HJR.out
              have hw1 : IntKind.i64.wrap ((r : Int) + (s : Int)) = (r : Int) + (s : Int) := IntWalk.i64_in _ (by omega)
              clear hjr
              go_wp2_with fail
              refine (r21PackMove_any ((r : Int) + (s : Int)) true _).mono ?_
              rintro e w5 ⟨a5, c5, rfl, hv5, hf5, hU5⟩
              have hjr := HJR.out
              have hS5 := HS.out.1.other hU5
              have hun : undone j (t - s) = undone j (t - s - 1) ++ [((r + s : Nat) : Int)] := by
                rw [show t - s = (t - s - 1) + 1 from by omega, undone, show j - 1 - (t - s - 1) = r + s from by omega, Nat.add_sub_cancel]
              rw [hun] at hS5
              have hv5' : ((r + s : Nat) : Int) = (r : Int) + (s : Int) := by omega
              have hadd := hS5.redo (r + s) (by omega) (by rw [undone_len]; omega) (by omega) a5 c5 (by rw [hv5']; exact hv5)
              rw [hv5'] at hadd
              have HL5 := Lib.hid (HS.out.2.upd hU5 (fun _ _ h => h))
              clear hv5 hf5 hU5 hS5 hun hv5' hw1 HS hjr
              go_wp2_with fail
              refine hadd.mono ?_
              rintro e w6 ⟨rfl, hS6, hU6⟩
              have HS6 := Lib.hid (And.intro hS6 (HL5.out.upd hU6 HL3.out.2))
              clear hadd hS6 hU6 HL5
              go_wp2_with fail
              go_roundw
              case rel => exact ⟨s + 1, by omega, by first | rfl | go_num, Lib.hid ⟨by rw [show t - (s + 1) = t - s - 1 from by omega]; exact HS6.out.1, HS6.out.2⟩⟩
              case measure => simp [intOf]; omega
            · obtain rfl : s = t := by omega
              have hjr := HJR.out
              have hS := HS.out.1
              rw [← hjr, Nat.sub_self] at hS
              have HS1 := Lib.hid (And.intro hS HS.out.2)
              have hat := hS.at (by omega)
              have hw1 : IntKind.i64.wrap ((j : Int) - 1) = (j : Int) - 1 := IntWalk.i64_in _ (by omega)
              have hw2 : IntKind.i64.wrap (2 * (s : Int)) = 2 * (s : Int) := IntWalk.i64_in _ (by omega)
              have hw3 : IntKind.i64.wrap ((j : Int) + 2 * (s : Int)) = (j : Int) + 2 * (s : Int) := IntWalk.i64_in _ (by omega)
              have hI : decide ((s : Int) < (s : Int)) = false := by simp
              clear hS HS hjr hlt hs
              go_wp2_with fail
              refine hat.mono ?_
              rintro e w' ⟨rfl, rfl⟩
              have hline := HS1.out.1.line (Nat.le_refl _) (by omega)
              clear hat
              go_wp2_with fail
              refine hline.mono ?_
              rintro e w4 ⟨a4, c4, rfl, hown, hlf, hU⟩
              have HS3 := Lib.hid (And.intro (HS1.out.1.other hU) (HS1.out.2.upd hU (fun _ _ h => h)))
              have hpl := plainI_any a4 la c4 lc (downL j).reverse (downL j).reverse w4 (by rw [List.length_reverse, downL_len]; exact Vw.of_own hown) (by rw [List.length_reverse, downL_len]; exact HS3.out.2)
              have hbb : ((downL j).reverse == (downL j).reverse) = true := by simp
              rw [hbb, List.length_reverse, downL_len] at hpl
              clear hline hown hlf hU HS1 hbb
              go_wp2_with fail
              refine hpl.mono ?_
              rintro e w5 ⟨rfl, hU⟩
              have HS4 := Lib.hid (HS3.out.1.other hU)
              have hred := HS4.out.redos (by simp [undone])
              rw [undone_len] at hred
              clear hpl hU HS3
              go_wp2_with fail
              refine hred.mono ?_
              rintro e w6 ⟨a6, c6, rfl, hU⟩
              have HS5 := Lib.hid (HS4.out.other hU)
              have hrec := HS5.out.records
              rw [show ((j + s + s : Nat) : Int) = (j : Int) + 2 * (s : Int) from by omega] at hrec
              clear hred hU HS4
              go_wp2_with fail
              refine hrec.mono ?_
              rintro e w' ⟨rfl, rfl⟩
              clear hrec
              go_wp2_with fail
              go_ret
              exact ⟨rfl, HS5.out.upd.clean⟩
end Go.Proofs.YtccejkikphpnfaaGreatDoor
