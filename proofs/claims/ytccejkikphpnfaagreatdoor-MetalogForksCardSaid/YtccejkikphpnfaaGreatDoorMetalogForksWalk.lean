
/- The walk of MetalogForks. -/
import Derived.Test.YtccejkikphpnfaaGreatDoorMet19
namespace Go.Proofs.YtccejkikphpnfaaGreatDoor
set_option linter.unusedSimpArgs false
set_option linter.unusedVariables false
set_option maxRecDepth 100000
open Go.ChangeShapes Go.WideShapes Go.ChangeAt Go.RowKit

/-- The undone: from n - 1 down, back of them. -/
def undone (n : Nat) : Nat → List Int
  | 0 => []
  | i + 1 => undone n i ++ [((n - 1 - i : Nat) : Int)]
theorem undone_len (n i : Nat) : (undone n i).length = i := by induction i <;> simp [undone, *]

theorem row_vw {w : World} {g k : Nat} {X : Array Value} {T : TypeId} (hX : X.size = k) (h : w.heap[g]? = some (.cells X T)) : Vw w (some ⟨g, 0, none⟩) 1 1 k X.toList := by
  refine ⟨by simp [hX], Nat.le_refl _, by decide, (fun h => by cases h), fun y hy j u hu => ?_⟩
  cases hy
  have ha : (Addr.add ⟨g, 0, none⟩ j) = ⟨g, j, none⟩ := by unfold Addr.add; split <;> simp_all
  rw [ha, cell_of_row _ _ _ _ _ _ h]
  simpa using hu
theorem ky_vw (w : World) (x : Ky) : Vw (w.alloc (.cells (kyA x) 52)) (some ⟨w.heap.size, 0, none⟩) [x].length 1 32 ([x].flatMap kyV) := by
  have h := row_vw (kyA_size x) (heap_alloc_new w (.cells (kyA x) 52))
  have e : (kyA x).toList = [x].flatMap kyV := by simp [kyA, kyV]
  rw [e] at h
  exact h

theorem Chain.app {rr : List RRow} (x : RRow) : ∀ {i : Int} {L : List Int}, Chain rr i L → Chain (rr ++ [x]) i L
  | i, [], h => h
  | i, j :: L, h => by
    obtain ⟨h1, h2, y, hy, h3⟩ := h
    exact ⟨h1, h2, y, by rw [List.getElem?_append_left (List.getElem?_eq_some_iff.1 hy).1]; exact hy, Chain.app x h3⟩
def ky100 : Ky := ky1 100
theorem wpList_build_ky100 {ops : Array Oper} {rest : List Oper} {op : Oper} {ac : Act} {w : World} {Q : Exit → Act → World → Prop} (hgd : op.guard = none) (ho : op.op = .build 52 #[(0, .const (.int .u8 100))])
    (h : wpList Tryz.prog ops Q rest (ac.put op.dst (.agg (kyA ky100))) w) : wpList Tryz.prog ops Q (op :: rest) ac w :=
  wpList_build_ky hgd (.const (.int .u8 100)) ho 100 rfl h

set_option maxHeartbeats 8000000 in
theorem MetalogForks_walk (w : World) (n0 : Int) (wn : (Lit.int .i64 n0).wf = true) (b0 : Int) (wb : (Lit.int .i64 b0).wf = true) :
    Calls Tryz.prog 6 #[.int .i64 n0, .int .i64 b0] w fun e w' => e = .returned (.bool true) ∧ Below w.heap.size w w' := by
  clear wn wb
  have hu0 := (wrap_u64 n0).1
  have hb0 := (wrap_u64 b0).1
  obtain ⟨p, hp, hp20⟩ : ∃ p : Nat, (IntKind.u64.wrap n0).tmod 10 = (p : Int) ∧ p < 10 := by
    refine ⟨((IntKind.u64.wrap n0) % 10).toNat, ?_, by omega⟩
    rw [Int.tmod_eq_emod_of_nonneg hu0]; omega
  obtain ⟨n, hnp⟩ : ∃ n : Nat, n = p + 1 := ⟨_, rfl⟩
  obtain ⟨q, hq, hqn⟩ : ∃ q : Nat, (IntKind.u64.wrap b0).tmod (n : Int) = (q : Int) ∧ q < n := by
    have h1 : (0 : Int) ≤ (IntKind.u64.wrap b0) % (n : Int) := Int.emod_nonneg _ (by omega)
    have h2 : (IntKind.u64.wrap b0) % (n : Int) < (n : Int) := Int.emod_lt_of_pos _ (by omega)
    refine ⟨((IntKind.u64.wrap b0) % (n : Int)).toNat, ?_, by omega⟩
    rw [Int.tmod_eq_emod_of_nonneg hb0]; omega
  obtain ⟨k, hkq⟩ : ∃ k : Nat, k = q + 1 := ⟨_, rfl⟩
  have hw1 : IntKind.i64.wrap (p : Int) = (p : Int) := IntWalk.i64_in _ (by omega)
  have hw2 : IntKind.i64.wrap (1 + (p : Int)) = (n : Int) := (IntWalk.i64_in _ (by omega)).trans (by omega)
  have hw4 : IntKind.u64.wrap (n : Int) = (n : Int) := by show _ % 18446744073709551616 = _; omega
  have hw5 : IntKind.i64.wrap (q : Int) = (q : Int) := IntWalk.i64_in _ (by omega)
  have hw6 : IntKind.i64.wrap (1 + (q : Int)) = (k : Int) := (IntWalk.i64_in _ (by omega)).trans (by omega)
  have hn1 : 1 ≤ n := by omega
  have hn20 : n ≤ 10 := by omega
  have hk1 : 1 ≤ k := by omega
  have hkn : k ≤ n := by omega
  clear hu0 hb0 hnp hp20 hkq hqn
  go_enter Tryz.func6, Tryz.ntmps6
  go_upto_region 3 with (fail)
  clear hw1 hw2 hw4 hw5 hw6 hp hq
  go_wp2_with fail
  refine (mNew_any w).mono ?_
  rintro e w1 ⟨lb, rfl, hL, hU1, hlb⟩
  have HS := Lib.hid (us_new hL hU1 hlb)
  clear hL hU1
  go_wp2_with fail
  go_loopw [6] (fun i wr => ∃ j : Nat, j ≤ n ∧ i = .int .i64 (j : Int) ∧ Hid (US w lb j j [] j wr)) (fun i _ => n - (intOf i).toNat)
  case atStart => exact ⟨0, Nat.zero_le _, rfl, HS⟩
  case round =>
    clear HS
    obtain ⟨j, hj, rfl, HS⟩ := hrel
    by_cases hlt : j < n
    · have hI : (j : Int) < (n : Int) := by omega
      have hjw : IntKind.i64.wrap ((j : Int) - 1) = (j : Int) - 1 := IntWalk.i64_in _ (by omega)
      have hbw : IntKind.u8.wrap (j : Int) = ((UInt8.ofNat j).toNat : Int) := byte_wrap j
      have hpk := r21PackRoot_any ((j : Int) - 1) (some ⟨wr.heap.size, 0, none⟩) 1 [ky1 j] (-1) _ ⟨by omega, by omega, by simp, by decide, by decide⟩ (ky_vw wr (ky1 j))
      have HSk := Lib.hid (HS.out.other (Upd.alloc (fun _ => False) wr (.cells (kyA (ky1 j)) 52)))
      unfold rootA at hpk
      dsimp only [List.length_cons, List.length_nil] at hpk
      clear HS
      go_wp2_with first
        | refine wpList_build_ky rfl (.tmp 37) rfl j rfl ?_
        | refine wpList_slice_ky rfl (.tmp 38) rfl (ky1 j) rfl ?_
      refine hpk.mono ?_
      unfold Packed
      rintro e w3 ⟨a2, c2, rfl, hv2, hf2, hU3⟩
      have HS3 := Lib.hid (HSk.out.other hU3)
      have hadd := HS3.out.root (by omega) (ky1 j) (-1) (by decide) (by decide) a2 c2 hv2
      clear hpk hv2 hf2 hU3 HSk hbw hjw
      generalize rootL ((j : Int) - 1) [ky1 j] (-1) = rl at *
      go_wp2_with fail
      refine hadd.mono ?_
      rintro e w4 ⟨rfl, hS4, hU4⟩
      have HS4 := Lib.hid hS4
      clear hadd hS4 hU4 HS3
      go_wp2_with fail
      go_roundw
      case rel => exact ⟨j + 1, by omega, by first | rfl | go_num, HS4⟩
      case measure => simp [intOf]; omega
    · obtain rfl : j = n := by omega
      have hI : decide ((j : Int) < (j : Int)) = false := by simp
      clear hlt
      go_wp2_with fail
      go_loopw [9] (fun i wr => ∃ t : Nat, t ≤ k ∧ i = .int .i64 (t : Int) ∧ Hid (US w lb j (j - t) (undone j t) (j + t) wr)) (fun i _ => k - (intOf i).toNat)
      case atStart => exact ⟨0, Nat.zero_le _, rfl, Lib.hid HS.out⟩
      case round =>
        clear HS
        obtain ⟨t, ht, rfl, HS⟩ := hrel
        by_cases hlt : t < k
        · have hI : (t : Int) < (k : Int) := by omega
          have hw3 : IntKind.i64.wrap ((j : Int) - 2) = (j : Int) - 2 := IntWalk.i64_in _ (by omega)
          have hw4 : IntKind.i64.wrap ((j : Int) - 2 - (t : Int)) = (j : Int) - 2 - (t : Int) := IntWalk.i64_in _ (by omega)
          go_wp2_with fail
          refine (mPackMove_any ((j : Int) - 2 - (t : Int)) false _).mono ?_
          rintro e w5 ⟨a5, c5, rfl, hv5, hf5, hU5⟩
          have hS5 := HS.out.other hU5
          have hun : undone j (t + 1) = undone j t ++ [((j - 1 - t : Nat) : Int)] := rfl
          have htop : j - t = (j - 1 - t) + 1 := by omega
          rw [htop] at hS5
          have hv5' : ((j - 1 - t : Nat) : Int) - 1 = (j : Int) - 2 - (t : Int) := by omega
          have hadd := hS5.undo (by omega) (by omega) (by rw [undone_len]; omega) (by omega) a5 c5 (by rw [hv5']; exact hv5)
          rw [hv5', ← hun] at hadd
          clear hv5 hf5 hU5 hS5 hun htop hv5' hw3 hw4 HS
          go_wp2_with fail
          refine hadd.mono ?_
          rintro e w6 ⟨rfl, hS6, hU6⟩
          have HS6 := Lib.hid hS6
          clear hadd hS6 hU6
          go_wp2_with fail
          go_roundw
          case rel => exact ⟨t + 1, by omega, by first | rfl | go_num, Lib.hid (by rw [show j - (t + 1) = j - 1 - t from by omega, show j + (t + 1) = j + t + 1 from by omega]; exact HS6.out)⟩
          case measure => simp [intOf]; omega
        · obtain rfl : t = k := by omega
          obtain ⟨r, hr⟩ : ∃ r, r = j - t := ⟨_, rfl⟩
          have hjr : j = r + t := by omega
          have hS := HS.out
          rw [← hr] at hS
          have HS1 := Lib.hid hS
          have HJR := Lib.hid hjr
          have hr10 : r ≤ 10 := by omega
          have hI : decide ((t : Int) < (t : Int)) = false := by simp
          have hw1 : IntKind.i64.wrap ((j : Int) - 1) = (j : Int) - 1 := IntWalk.i64_in _ (by omega)
          have hw2 : IntKind.i64.wrap ((j : Int) - 1 - (t : Int)) = (r : Int) - 1 := (IntWalk.i64_in _ (by omega)).trans (by omega)
          have hpk := r21PackRoot_any ((r : Int) - 1) (some ⟨wr.heap.size, 0, none⟩) 1 [ky100] (-1) _ ⟨by omega, by omega, by simp, by decide, by decide⟩ (ky_vw wr ky100)
          have HSk := Lib.hid (HS1.out.other (Upd.alloc (fun _ => False) wr (.cells (kyA ky100) 52)))
          unfold rootA at hpk
          dsimp only [List.length_cons, List.length_nil] at hpk
          clear HS hS hr hjr HS1 hlt
          go_wp2_with first
            | refine wpList_build_ky100 rfl rfl ?_
            | refine wpList_slice_ky rfl (.tmp 65) rfl ky100 rfl ?_
          refine hpk.mono ?_
          unfold Packed
          rintro e w3 ⟨a2, c2, rfl, hv2, hf2, hU3⟩
          have hS3 := HSk.out.other hU3
          have hlw := hS3.upd
          have hlt := hS3.lt
          obtain ⟨g, A, hL, hG, htop, hds, hm⟩ := hS3.ex
          have hjr := HJR.out
          have hF : Fits g [ky100] (-1) := ⟨⟨by omega, by omega, by simp, by decide, by decide⟩, by rw [hG.rr]; omega, by rw [hG.cs]; simp; omega, by rw [hG.fs]; omega, by omega, by omega, by omega, by omega⟩
          have hadd := add_root g A lb [ky100] (-1) a2 c2 w3 hL hF (by rw [htop]; exact hv2)
          rw [htop] at hadd
          have HG := Lib.hid (And.intro hG (And.intro hlw hlt))
          clear hpk hv2 hf2 hU3 HSk hS3 hlw hlt hL hF hjr hw1 hw2 hm hds
          have HTOP := Lib.hid htop
          clear htop hG
          generalize rootL ((r : Int) - 1) [ky100] (-1) = rl at *
          go_wp2_with fail
          refine hadd.mono ?_
          rintro e w4 ⟨rfl, A4, x, hx, hL4, hU4⟩
          have hG := HG.out.1
          have hjr := HJR.out
          have htop4 : (lgRoot g x [ky100] (g.n + 1)).top = (j : Int) + 1 := by show (g.rr.length : Int) + 1 = _; rw [hG.rr]
          have hfs4 : (lgRoot g x [ky100] (g.n + 1)).fs[j]? = some (j : Int) := by
            show (g.fs ++ [(g.cs.length : Int)])[j]? = _
            rw [List.getElem?_append_right (by rw [hG.fs]; exact Nat.le_refl _), hG.fs, hG.cs]; simp
          have hcs4 : (lgRoot g x [ky100] (g.n + 1)).cs.length = j + 1 := by show (g.cs ++ [ky100]).length = _; simp [hG.cs]
          have hds4 : (lgRoot g x [ky100] (g.n + 1)).ds = [] := rfl
          have hch : Chain (lgRoot g x [ky100] (g.n + 1)).rr ((lgRoot g x [ky100] (g.n + 1)).top - 1) ((j : Int) :: downL r) := by
            rw [htop4]
            refine ⟨by omega, by omega, x, ?_, ?_⟩
            · show (g.rr ++ [x])[((j : Int) + 1 - 1).toNat]? = some x
              rw [show ((j : Int) + 1 - 1).toNat = j from by omega, List.getElem?_append_right (by rw [hG.rr]; exact Nat.le_refl _), hG.rr]; simp
            · rw [hx]; exact Chain.app x (hG.chain r (by omega))
          generalize lgRoot g x [ky100] (g.n + 1) = g4 at *
          have hline := mLine_any g4 A4 lb ((j : Int) :: downL r) w4 hL4 hch (by omega) (by omega) (by rw [List.length_cons, downL_len]; omega)
          obtain ⟨ll, hll⟩ : ∃ ll, ll = r + 1 := ⟨_, rfl⟩
          have hLL : ((j : Int) :: downL r).length = ll := by rw [List.length_cons, downL_len, hll]
          rw [hLL] at hline
          have hUw := HG.out.2.1.next hU4 (fun i hi e => by have := HG.out.2.2; omega)
          have HL4 := Lib.hid (And.intro hL4 (And.intro htop4 (And.intro hfs4 (And.intro hcs4 (And.intro hds4 hUw)))))
          have HLL := Lib.hid (And.intro hll hLL)
          clear hadd hL4 hU4 hx hG hjr htop4 hfs4 hcs4 hds4 hch hUw hLL HG HTOP
          go_wp2_with fail
          refine hline.mono ?_
          rintro e w5 ⟨la, lc, rfl, hown, hlf, hU5⟩
          have hrv : ((j : Int) :: downL r).reverse.map iv = (downL r).reverse.map iv ++ [iv (j : Int)] := by simp
          rw [hrv] at hown
          obtain ⟨gl, rfl⟩ : ∃ gl, la = some ⟨gl, 0, none⟩ := by
            rcases hown.2 with ⟨hv, _⟩ | ⟨gl, cap, cur, hv, _⟩
            · simp only [Value.slice.injEq] at hv; omega
            · simp only [Value.slice.injEq] at hv; exact ⟨gl, hv.1⟩
          have hlast : w5.cell? ⟨gl, r, none⟩ = some (.int .i64 (j : Int)) := ownsRow_at hown r _ (by
            rw [List.getElem?_append_right (by simp [downL_len])]
            simp [downL_len, iv])
          have hglt := World.block_lt_of_cell? w5 _ hlast
          have hlle := (Vw.of_own hown).le
          have hlca := (Vw.of_own hown).cap
          unfold maxLen at hlca
          have HL5 := Lib.hid (And.intro (HL4.out.1.other hU5) (HL4.out.2.2.2.2.2.trans hU5))
          have HLA := Lib.hid (And.intro hlast hglt)
          clear hline hown hlf hU5 hrv hlast hglt
          go_wp2_with fail
          refine (awake21_any w5).mono ?_
          rintro e w6 ⟨rfl, hU6⟩
          have HL6 := Lib.hid (And.intro (HL5.out.1.other hU6) (HL5.out.2.trans hU6))
          have HLB := Lib.hid ((hU6.block gl HLA.out.2 (fun h => h)))
          have hat := mAt_any HL6.out.1 (by rw [HL4.out.2.1]; omega) (by rw [HL4.out.2.1]; omega)
          rw [HL4.out.2.1, show (j : Int) + 1 - 1 = (j : Int) from by omega] at hat
          clear hU6 HL5
          go_wp2_with fail
          refine hat.mono ?_
          rintro e w' ⟨rfl, rfl⟩
          have hred := mRedos_any HL6.out.1 (by rw [HL4.out.2.2.2.2.1]; decide)
          rw [HL4.out.2.2.2.2.1] at hred
          dsimp only [List.length_nil] at hred
          clear hat
          go_wp2_with fail
          refine hred.mono ?_
          rintro e w7 ⟨a7, c7, rfl, hU7⟩
          have HL7 := Lib.hid (And.intro (HL6.out.1.other hU7) (HL6.out.2.trans hU7))
          have hq : w7.cell? ⟨gl, r, none⟩ = some (.int .i64 (j : Int)) := by
            have hz6 : gl < w6.heap.size := by
              have h5 := HLA.out.2
              have hb := HLB.out
              rw [Array.getElem?_eq_getElem h5] at hb
              exact (Array.getElem?_eq_some_iff.1 hb).1
            rw [World.cell?_of_block (hU7.block gl hz6 (fun h => h)), World.cell?_of_block HLB.out]
            exact HLA.out.1
          have hlv := HLL.out.1
          have hv1 : IntKind.i64.wrap ((r : Int) - 1 + 2) = (ll : Int) := (IntWalk.i64_in _ (by omega)).trans (by omega)
          have hv2 : IntKind.i64.wrap ((ll : Int) - 1) = (r : Int) := (IntWalk.i64_in _ (by omega)).trans (by omega)
          have hv3 : (r : Int) < (ll : Int) := by omega
          have hfi := mFirst_any HL7.out.1 j (j : Int) HL4.out.2.2.1
          have hcm := mCommits_any HL7.out.1 (by rw [HL4.out.2.2.2.1]; omega)
          rw [HL4.out.2.2.2.1] at hcm
          obtain ⟨m1, hm1⟩ : ∃ m1, m1 = j + 1 := ⟨_, rfl⟩
          rw [← hm1] at hcm
          have hv4 : IntKind.i64.wrap ((j : Int) + 1) = (m1 : Int) := (IntWalk.i64_in _ (by omega)).trans (by omega)
          have hv5 : IntKind.i64.wrap ((j : Int) - 1) = (j : Int) - 1 := IntWalk.i64_in _ (by omega)
          clear hred hU7 HLB HLA HL6 hlv hm1
          go_wp2_with fail
          refine hfi.mono ?_
          rintro e w' ⟨rfl, rfl⟩
          clear hfi hq
          go_wp2_with fail
          refine hcm.mono ?_
          rintro e w8 ⟨a8, c8, rfl, hU8⟩
          have HL8 := Lib.hid (And.intro (HL7.out.1.other hU8) (HL7.out.2.trans hU8))
          clear hcm hU8 HL7
          go_wp2_with fail
          refine (mPackMove_any ((j : Int) - 1) true _).mono ?_
          rintro e w9 ⟨a9, c9, rfl, hv9, hf9, hU9⟩
          have HL9 := Lib.hid (And.intro (HL8.out.1.other hU9) (HL8.out.2.trans hU9))
          have hno := add_none g4 A4 lb ((j : Int) - 1) (by omega) (by omega) a9 c9 w9 HL9.out.1 HL4.out.2.2.2.2.1 hv9
          clear hv9 hf9 hU9 HL8
          go_wp2_with fail
          refine hno.mono ?_
          rintro e w10 ⟨rfl, hU10⟩
          have HF := Lib.hid (HL9.out.2.trans hU10)
          clear hno hU10
          go_wp2_with fail
          go_ret
          exact ⟨rfl, HF.out.clean⟩
end Go.Proofs.YtccejkikphpnfaaGreatDoor
