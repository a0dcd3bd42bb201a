/- Keys: how one that comes in is opened; when two are equal; what their digits say; awake of layer 2. -/
import Derived.Test.YtafkcmgfkecljaaKey1
import Derived.Test.YtafkcmgfkecljaaKey3
import Derived.Test.YtafkcmgfkecljaaSum2
import Derived.Stop.BytesEq
import Derived.ChangeKeysEq
namespace Go.Proofs.Ytafkcmgfkecljaa
set_option linter.unusedSimpArgs false
set_option linter.unusedVariables false
open Go.ChangeShapes Go.WideShapes Go.ChangeAt Go.RowKit

theorem open_key {H : Type} {enc : TypeId × Value → H} {W : World} {base : Nat} {v : Value} {d : DataW H} {ps : List MemPlace} (hval : Value.okWide Try.prog W .any base 32 v)
    (h : DataW.Trod enc Try.prog W 0 (fun _ => true) true 32 v d ps) : ∃ x : List UInt8, v = .agg (bvs x).toArray ∧ x.length = 32 := by
  have hv : ∃ cs : Array Value, v = .agg cs := by
    simp only [Value.okWide, Try.underlying32] at hval
    obtain ⟨cs, h1, h2, _⟩ := hval
    exact ⟨cs, h1⟩
  obtain ⟨cs, rfl⟩ := hv
  obtain ⟨fuel, hf⟩ := h
  obtain ⟨xs, m, _, _, hlen, hl, hel⟩ := DataW.trod_array Try.underlying32 hf
  have hc1 : Try.prog.cellsOf 5 = 1 := by kernel_rfl
  have hc32 : Try.prog.cellsOf 32 = 32 := by kernel_rfl
  simp only [Value.cells] at hlen hel
  rw [hc32] at hlen
  have hcs : ∀ i, i < 32 → ∃ b : UInt8, cs.toList[i]? = some (bv b) := by
    intro i hi
    have he := hel i hi
    rw [hc1, Nat.mul_one] at he
    have hx : i < xs.length := by omega
    rw [List.getElem?_eq_getElem hx] at he
    obtain ⟨a, ea, _, wa⟩ := DataW.trod_int Try.underlying5 he
    have hb := bounds_u8 wa
    refine ⟨UInt8.ofNat a.toNat, ?_⟩
    have h0 : (cs.toList.drop i)[0]? = some (.int .u8 a) := by
      have : ((cs.toList.drop i).take 1)[0]? = some (.int .u8 a) := by rw [ea]; rfl
      simpa [List.getElem?_take] using this
    rw [List.getElem?_drop] at h0
    rw [Nat.add_zero] at h0
    rw [h0]
    unfold bv
    rw [UInt8.toNat_ofNat']
    congr 2
    omega
  have key : ∀ (l : List Value), (∀ i, i < l.length → ∃ b : UInt8, l[i]? = some (bv b)) → ∃ x, l = bvs x := by
    intro l
    induction l with
    | nil => intro _; exact ⟨[], rfl⟩
    | cons v l ih =>
      intro h
      obtain ⟨b, hb⟩ := h 0 (by simp)
      obtain ⟨x, hx⟩ := ih (fun i hi => h (i + 1) (by simpa using hi))
      refine ⟨b :: x, ?_⟩
      simp at hb
      rw [hb, hx]; rfl
  obtain ⟨x, hx⟩ := key cs.toList (fun i hi => hcs i (by omega))
  refine ⟨x, ?_, ?_⟩
  · rw [← hx]
  · have := congrArg List.length hx
    simp [bvs] at this
    simp at hlen
    omega

theorem run_sizeOf_u8 (w : World) : (sizeOf 5).run Try.prog w = .ok 1 w := by
  obtain ⟨i0, hi, _⟩ := info_parts infoU8
  rw [run_sizeOf w hi, show Try.prog.cellsOf 5 = 1 from by kernel_rfl]
theorem key_eql (x y : List UInt8) (hx : x.length = 32) (hy : y.length = 32) (w : World) : (binOp .eql 32 (.agg (bvs x).toArray) (.agg (bvs y).toArray)).run Try.prog w = .ok (.bool (x == y)) w :=
  run_eql_bytes w 32 5 32 Try.underlying32 Try.underlying5 (fun w => run_sizeOf_u8 w) x y hx hy
theorem key_neq (x y : List UInt8) (hx : x.length = 32) (hy : y.length = 32) (w : World) : (binOp .neq 32 (.agg (bvs x).toArray) (.agg (bvs y).toArray)).run Try.prog w = .ok (.bool (!(x == y))) w := by
  have h := run_equalIn_bytes (P := Try.prog) w 9998 32 5 32 Try.underlying32 Try.underlying5 (fun w => run_sizeOf_u8 w) x y hx hy
  rw [run_neq_struct]
  have e : (bvs x).toArray = (x.map Extern.Stop.cell).toArray := rfl
  have e2 : (bvs y).toArray = (y.map Extern.Stop.cell).toArray := rfl
  rw [e, e2, h]
  rfl

theorem sum_nil : hexL (sumL []) = [101, 51, 98, 48, 99, 52, 52, 50, 57, 56, 102, 99, 49, 99, 49, 52, 57, 97, 102, 98, 102, 52, 99, 56, 57, 57, 54, 102, 98, 57, 50, 52, 50, 55, 97, 101, 52, 49, 101, 52, 54, 52, 57, 98, 57, 51, 52, 99, 97, 52, 57, 53, 57, 57, 49, 98, 55, 56, 53, 50, 98, 56, 53, 53] := by decide +kernel
theorem awake02_any (w : World) : Calls Try.prog 16 #[] w fun e w' => e = .returned (.bool true) ∧ Upd (fun _ => False) w w' := by
  go_enter Try.func16, Try.ntmps16
  go_wp2_with fail
  refine (sum_any none 0 [] w (Vw.nl w 1) (by decide) (fun b h => by cases h)).mono ?_
  rintro e w1 ⟨rfl, hU1⟩
  have hl := sumL_length []
  obtain ⟨k, hk⟩ : ∃ k, sumL [] = k := ⟨_, rfl⟩
  have hn := sum_nil
  rw [hk] at hl hn ⊢
  have HN := Lib.hid hn
  clear hn hk
  go_wp2_with fail
  refine (hex_any k w1 hl).mono ?_
  rintro e w2 ⟨rfl, hU2⟩
  rw [HN.out]
  go_wp2_with fail
  go_ret
  exact ⟨rfl, hU1.trans hU2⟩
end Go.Proofs.Ytafkcmgfkecljaa
