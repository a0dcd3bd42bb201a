
/- object.writer's key; Blob of both. -/
import Derived.Test.YteefceainlfdfaaDoorObj3
namespace Go.Proofs.YteefceainlfdfaaDoor
set_option linter.unusedSimpArgs false
set_option linter.unusedVariables false
set_option maxRecDepth 100000
open Go.ChangeShapes Go.WideShapes Go.ChangeAt Go.RowKit

theorem index_key (cs : Array Value) (hn : cs.size = 32) (k : Nat) (v : Value) (hv : cs[k]? = some v) (w : World) :
    (Instr.index 38 (.agg cs) (.int .i64 (k : Int))).run Tryd.prog w = .ok v w := by
  obtain ⟨hk, hv⟩ := Array.getElem?_eq_some_iff.1 hv
  have h3 : (k : Int) < 32 := by omega
  have h4 : k < 32 := by omega
  simp [Instr.index, asIntOf, h3, h4, hk, hv, part]
  try omega
theorem infoKey : (Tryd.prog.info? 38).map (·.size) = some 32 := by kernel_rfl
theorem wpList_load_key {ops : Array Oper} {rest : List Oper} {op : Oper} {a : Act} {w : World} {Q : Exit → Act → World → Prop} (hgd : op.guard = none) (x : Operand) (ho : op.op = .load 38 x)
    (b o : Nat) (hx : a.eval x = .pointer (some ⟨b, o, none⟩)) (k : List UInt8) (hk : k.length = 32) (hr : w.rangeAt b o (bvs k)) (h : wpList Tryd.prog ops Q rest (a.put op.dst (.agg (bvs k).toArray)) w) : wpList Tryd.prog ops Q (op :: rest) a w :=
  wpList_load_mid hgd 38 x ho b o hx (bvs k) _ hr Tryd.underlying38 rfl (by rw [infoKey, bvs_length, hk]) h
theorem key_row (w : World) (k : List UInt8) : (w.alloc (.cells (bvs k).toArray 38)).rangeAt w.heap.size 0 (bvs k) := by
  intro j u hu
  rw [cell_of_row _ _ _ _ _ _ (heap_alloc_new w _)]
  simpa using hu
theorem le_byte (x : UInt8) : le x.toNat 1 = [x] := by
  have h := x.toNat_lt
  simp [le]

set_option maxHeartbeats 2000000 in
theorem okey_any {K : Nat → Prop} {T : TypeId} {w1 wr : World} {bw : Nat} {l : List UInt8} (h : Wn K T w1 wr bw l) (hl : l.length ≤ 90000000) (k : List UInt8) (hk : k.length = 32) :
    Calls Tryd.prog 50 #[.pointer (some ⟨bw, 0, none⟩), .agg (bvs k).toArray] wr fun e w' => e = .returned (.tuple #[]) ∧ Wn K T w1 w' bw (l ++ k) := by
  have hix : ∀ (n : Nat) (hn : n < 32), ∀ w, (Instr.index 38 (.agg (bvs k).toArray) (.int .i64 (n : Int))).run Tryd.prog w = .ok (.int .u8 ((k[n]'(by omega)).toNat : Int)) w := fun n hn w =>
    index_key _ (by simp [bvs, hk]) n _ (by simp [bvs, bv, List.getElem?_eq_getElem (show n < k.length by omega)]) w
  have hr := key_row wr k
  have hW := h.other (Upd.alloc (fun _ => False) wr (.cells (bvs k).toArray 38))
  have HIX := Lib.hid hix
  have HR := Lib.hid hr
  clear h hix hr
  have hcls : ∀ x : Option Addr, True := fun _ => trivial
  go_enter Tryd.func50, Tryd.ntmps50
  go_upto_region 1 with (fail)
  have hr := HR.out
  generalize hK0 : (bvs k).toArray = k0 at *
  have HK0 := Lib.hid hK0
  clear hK0
  generalize wr.alloc (.cells k0 38) = y0 at *
  obtain ⟨B, hB⟩ : ∃ B, wr.heap.size = B := ⟨_, rfl⟩
  rw [hB] at hr ⊢
  clear hB HR hcls
  go_upto_region 2 with (refine wpList_load_key rfl (.tmp 3) rfl B 0 rfl k hk hr ?_; rw [HK0.out])
  go_wp2_with fail
  clear hr
  go_loopw [7] (fun i wx => ∃ j : Nat, j ≤ 32 ∧ i = .int .i64 (j : Int) ∧ Wn K T w1 wx bw (l ++ k.take j)) (fun i _ => 32 - (intOf i).toNat)
  case atStart => exact ⟨0, by omega, rfl, by simpa using hW⟩
  case round =>
    clear hW
    obtain ⟨j, hj, rfl, hW⟩ := hrel
    by_cases hlt : j < 32
    · have hI : (j : Int) < 32 := by omega
      have hixj := HIX.out j hlt
      have hsucc : (l ++ k.take j) ++ [k[j]'(by omega)] = l ++ k.take (j + 1) := by
        rw [List.append_assoc, List.take_succ_eq_append_getElem (by omega)]
      generalize k[j]'(by omega) = x at *
      have hx := x.toNat_lt
      have hnum := wn_num hW (by rw [List.length_append, List.length_take]; omega) (x.toNat : Int) 1 1 (by omega) (by omega) rfl
      rw [Int.toNat_natCast, le_byte, hsucc] at hnum
      have hcv : IntKind.u64.wrap (x.toNat : Int) = (x.toNat : Int) := by show _ % 18446744073709551616 = _; omega
      clear hW hsucc
      go_wp2_with fail
      refine hnum.mono ?_
      rintro e wz ⟨rfl, hW⟩
      clear hnum hixj
      go_wp2_with fail
      go_roundw
      case rel => exact ⟨j + 1, by omega, by first | rfl | go_num, hW⟩
      case measure => simp [intOf]; omega
    · obtain rfl : j = 32 := by omega
      rw [List.take_of_length_le (by omega)] at hW
      go_wp2_with fail
      go_end0
      exact ⟨rfl, hW⟩
end Go.Proofs.YteefceainlfdfaaDoor
