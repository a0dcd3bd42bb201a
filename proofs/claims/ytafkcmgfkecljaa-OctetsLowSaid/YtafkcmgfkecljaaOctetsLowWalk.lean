/- The walk of OctetsLow. -/
import Derived.Test.YtafkcmgfkecljaaFrame
import Derived.Test.YtafkcmgfkecljaaAwake01
namespace Go.Proofs.Ytafkcmgfkecljaa
set_option linter.unusedSimpArgs false
set_option linter.unusedVariables false
open Go.ChangeShapes Go.WideShapes Go.ChangeAt Go.RowKit

theorem le_get (x : Nat) : ∀ (m i : Nat) (h : i < (le x m).length), (le x m)[i] = UInt8.ofNat (x / 256 ^ i) := by
  intro m
  induction m generalizing x with
  | zero => intro i h; simp [le] at h
  | succ m ih =>
    intro i h
    cases i with
    | zero => simp [le]
    | succ i =>
      simp only [le, List.getElem_cons_succ]
      rw [ih (x / 256) i]
      rw [Nat.div_div_eq_div_mul, Nat.pow_succ, Nat.mul_comm 256]
theorem OctetsLow_walk (w : World) (v : Int) (wv : (Lit.int .u64 v).wf = true) (n : Int) (wn : (Lit.int .i64 n).wf = true) :
    Calls Try.prog 3 #[.int .u64 v, .int .i64 n] w fun e w' => e = .returned (.bool true) ∧ Below w.heap.size w w' := by
  have hW0 := Wr.new w 26
  have hU0 := Upd.alloc (fun k => w.heap.size ≤ k) w (.cells #[.slice none 0 0] 26)
  have hz0 : (w.alloc (.cells #[.slice none 0 0] 26)).heap.size = w.heap.size + 1 := by simp
  have hvb := bounds_u64 wv
  obtain ⟨x, rfl⟩ := Int.eq_ofNat_of_zero_le hvb.1
  have hx : x < 2 ^ 64 := by omega
  obtain ⟨m, hm, h1, h8⟩ : ∃ m : Nat, wrap64 (1 + wrap64 ((IntKind.u64.wrap n).tmod 8)) = m ∧ 1 ≤ m ∧ m ≤ 8 := by
    have hw := wrap_u64 n
    refine ⟨(1 + (IntKind.u64.wrap n) % 8).toNat, ?_, by omega, by omega⟩
    rw [Int.tmod_eq_emod_of_nonneg hw.1, IntWalk.wrap64_in (IntKind.u64.wrap n % 8) ⟨by omega, by omega⟩, IntWalk.wrap64_in _ ⟨by omega, by omega⟩]
    omega
  have HM := Lib.hid hm
  clear hm wv wn hvb
  go_enter Try.func3, Try.ntmps3
  go_wp2_with fail
  rw [HM.out]
  refine (num_int w.heap.size 26 none 0 [] x m m _ hW0 (by omega) (by omega) (by omega) (by simp)).mono ?_
  rintro e w1 ⟨rfl, a1, c1, hW1, hU1, hS1⟩
  have hU01 := hU0.next hU1 (fun i hi h => by
    rcases h with h | h
    · omega
    · cases h)
  have hll : ([] ++ le (x : Int).toNat m).length = m := by simp [le_length]
  have hL : ([] ++ le (x : Int).toNat m) = le x m := by simp
  rw [hL] at hW1
  have HL := Lib.hid hll
  clear hll hL hU1 hU0 hW0 hS1
  go_wp2_with fail
  refine (bytes_any w.heap.size 26 a1 c1 _ w1 hW1 (by rw [le_length]; omega)).mono ?_
  rintro e w2 ⟨a2, c2, rfl, hown2, hU12, hf2, hnil2⟩
  have hv2 := Vw.of_own hown2
  have hU02 := hU01.next hU12 (fun i hi h => h.elim)
  have hlt2 : ∀ k, blk a2 = some k → k < w2.heap.size := fun k hk => (hown2.lt k ((own_blk _ _ _).trans hk)).2
  rw [le_length] at hv2
  rw [le_length]
  clear hU12 hf2 hnil2 hown2 hU01 hW1
  go_wp2_with fail
  refine (awake01_any w2).mono ?_
  rintro e w3 ⟨rfl, hU23⟩
  have hv3 := hv2.upd hU23 (fun _ _ h => h)
  have hU03 := hU02.next hU23 (fun i hi h => h.elim)
  obtain ⟨b, off, rfl, hcell⟩ := hv3.at (by omega) (by decide)
  clear hU23 hU02 hv2 hv3 hlt2
  go_wp2_with fail
  go_loop [7] (fun i => ∃ j : Nat, j ≤ m ∧ i = .int .i64 (j : Int)) (fun i => m - (intOf i).toNat)
  case atStart => exact ⟨0, by omega, rfl⟩
  case round =>
    obtain ⟨j, hj, rfl⟩ := hrel
    by_cases hlt : j < m
    · have hce := hcell j _ (bvs_get (le x m) j (by rw [le_length]; exact hlt))
      rw [le_get] at hce
      have hb8 := byte_of x j
      simp only [bv, Value.int.injEq, true_and] at hb8
      rw [← hb8] at hce
      have hmul : IntKind.i64.wrap (8 * ↑j) = 8 * ↑j := IntWalk.i64_in _ (by omega)
      have h0 : (0 : Int) ≤ 8 * ↑j := by omega
      clear hb8 hcell
      go_wp2_with fail
      go_round
      case rel => exact ⟨j + 1, by omega, by go_num⟩
      case measure => simp [intOf]; omega
    · go_wp2_with fail
      go_ret
      exact ⟨rfl, hU03.fresh.clean⟩
end Go.Proofs.Ytafkcmgfkecljaa
