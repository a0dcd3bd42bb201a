
/- The sum and the frame of a record: record.Sum, record.Frame, the reference's Sum32, Frame. -/
import Derived.Test.YteefceainlfdfaaSum2
import Derived.Test.YteefceainlfdfaaOct6
import Derived.Test.YteefceainlfdfaaAwake01
import Derived.Laws.BitsAllLaws
namespace Go.Proofs.Yteefceainlfdfaa
set_option linter.unusedSimpArgs false
set_option linter.unusedVariables false
open Go.ChangeShapes Go.WideShapes Go.ChangeAt Go.RowKit

def sum32L (l : List UInt8) : Nat := leN ((sumL l).take 4)
theorem four_or (a b c d : Nat) (ha : a < 256) (hb : b < 256) (hc : c < 256) (hd : d < 256) :
    bits BinOp.or IntKind.u32 (bits BinOp.or IntKind.u32 (bits BinOp.or IntKind.u32 (a : Int) ((b : Int) * 256)) ((c : Int) * 65536)) ((d : Int) * 16777216) = ((a + (256 * (b + 256 * (c + 256 * d))) : Nat) : Int) := by
  obtain ⟨B, hB⟩ : ∃ B : Nat, B = b * 2 ^ 8 := ⟨_, rfl⟩
  obtain ⟨C, hC⟩ : ∃ C : Nat, C = c * 2 ^ 16 := ⟨_, rfl⟩
  obtain ⟨D, hD⟩ : ∃ D : Nat, D = d * 2 ^ 24 := ⟨_, rfl⟩
  have e1 : (b : Int) * 256 = (B : Int) := by omega
  have e2 : (c : Int) * 65536 = (C : Int) := by omega
  have e3 : (d : Int) * 16777216 = (D : Int) := by omega
  have o1 : a ||| B = a + B := by rw [hB]; exact or_high a b 8 (by omega)
  have o2 : (a + B) ||| C = a + B + C := by rw [hC]; exact or_high (a + B) c 16 (by omega)
  have o3 : (a + B + C) ||| D = a + B + C + D := by rw [hD]; exact or_high (a + B + C) d 24 (by omega)
  rw [e1, e2, e3, u32_or_nat _ _ (by omega) (by omega), o1, u32_or_nat _ _ (by omega) (by omega), o2, u32_or_nat _ _ (by omega) (by omega), o3]
  omega
theorem sum32_val (l : List UInt8) : sum32L l = ((sumL l).getD 0 0).toNat + (256 * (((sumL l).getD 1 0).toNat + 256 * (((sumL l).getD 2 0).toNat + 256 * ((sumL l).getD 3 0).toNat))) := by
  unfold sum32L
  have hl := sumL_length l
  generalize sumL l = s at *
  match s, hl with
  | a :: b :: c :: d :: s, _ => simp [leN]
theorem sum32_lt (l : List UInt8) : sum32L l < 4294967296 := by
  rw [sum32_val]
  have h0 := ((sumL l).getD 0 0).toNat_lt
  have h1 := ((sumL l).getD 1 0).toNat_lt
  have h2 := ((sumL l).getD 2 0).toNat_lt
  have h3 := ((sumL l).getD 3 0).toNat_lt
  omega
theorem key_cells {w : World} {b : Nat} {s : List UInt8} (hs : s.length = 32) (h : w.heap[b]? = some (.cells (bvs s).toArray 47 (0, 0))) (j : Nat) (hj : j < 32) : w.cell? ⟨b, j, none⟩ = some (.int .u8 ((s.getD j 0).toNat : Int)) := by
  rw [cell_of_row _ _ _ _ _ _ h]
  simp [bvs, bv, List.getElem?_eq_getElem (show j < s.length by omega)]
def frameL (l : List UInt8) : List UInt8 := le l.length 4 ++ le (sum32L l) 4 ++ l
theorem frameL_length (l : List UInt8) : (frameL l).length = l.length + 8 := by simp [frameL, le_length]; omega

set_option maxRecDepth 100000 in
set_option maxHeartbeats 4000000 in
theorem recSum_any0 (a : Option Addr) (c : Nat) (l : List UInt8) (w : World) (hv : Vw w a l.length c 1 (bvs l)) (hl : l.length ≤ 100000000) :
    Calls Try.prog 11 #[.slice a l.length c] w fun e w' => e = .returned (.int .u32 (sum32L l)) ∧ Upd (fun _ => False) w w' := by
  have hs := sum_any0 a c l w hv hl
  have hval := sum32_val l
  have hks := sumL_length l
  generalize sumL l = s at *
  obtain ⟨k, hk⟩ : ∃ k, (bvs s).toArray = k := ⟨_, rfl⟩
  rw [hk] at hs
  have o1 : k.all (·.oneCell') = true := by rw [← hk]; simp [bvs, bv, Value.oneCell']
  have s1 : k.size = 32 := by rw [← hk]; simp [bvs, hks]
  have hik : (Try.prog.info? 47).map (·.size) = some k.size := by rw [show (Try.prog.info? 47).map (·.size) = some 32 from by kernel_rfl, s1]
  obtain ⟨z0, hz0'⟩ : ∃ z0, (#[.int .u8 0, .int .u8 0, .int .u8 0, .int .u8 0, .int .u8 0, .int .u8 0, .int .u8 0, .int .u8 0, .int .u8 0, .int .u8 0, .int .u8 0, .int .u8 0, .int .u8 0, .int .u8 0, .int .u8 0, .int .u8 0, .int .u8 0, .int .u8 0, .int .u8 0, .int .u8 0, .int .u8 0, .int .u8 0, .int .u8 0, .int .u8 0, .int .u8 0, .int .u8 0, .int .u8 0, .int .u8 0, .int .u8 0, .int .u8 0, .int .u8 0, .int .u8 0] : Array Value) = z0 := ⟨_, rfl⟩
  have hz0s : z0.size = k.size := by rw [← hz0', s1]; rfl
  have HK := Lib.hid hk
  have HV := Lib.hid hval
  clear hk hval s1
  go_enter Try.func11, Try.ntmps11
  go_wp2_with fail
  refine hs.mono ?_
  rintro e w1 ⟨rfl, hU⟩
  clear hs
  go_upto_region 2 with (first | ((with_reducible show wpList _ _ _ (Oper.mk _ (Op.store _ _ _) _ _ _ _ :: _) _ _); refine wpList_store_row rfl 47 (.tmp 3) (.tmp 5) rfl w1.heap.size k z0 47 rfl rfl (heap_alloc_new _ _) hik hz0s o1 ?_))
  have hrow : ((w1.alloc (Obj.cells z0 47)).setRow w1.heap.size k).heap[w1.heap.size]? = some (.cells k 47 (0, 0)) := setRow_heap _ _ _ _ _ _ (heap_alloc_new _ _)
  have hU2 : Upd (fun _ => False) w ((w1.alloc (Obj.cells z0 47)).setRow w1.heap.size k) := hU.trans ((Upd.alloc _ _ _).next (Upd.setRow (S := fun i => i = w1.heap.size) _ rfl k) (fun i hi h => by omega))
  generalize (w1.alloc (Obj.cells z0 47)).setRow w1.heap.size k = w2 at *
  generalize w1.heap.size = b at *
  rw [← HK.out] at hrow
  have q0 := key_cells hks hrow 0 (by omega)
  have q1 := key_cells hks hrow 1 (by omega)
  have q2 := key_cells hks hrow 2 (by omega)
  have q3 := key_cells hks hrow 3 (by omega)
  have HKS := Lib.hid hks
  clear hrow hU hz0' hks
  have h0 := (s.getD 0 0).toNat_lt
  have h1 := (s.getD 1 0).toNat_lt
  have h2 := (s.getD 2 0).toNat_lt
  have h3 := (s.getD 3 0).toNat_lt
  have hor := four_or _ _ _ _ h0 h1 h2 h3
  rw [← HV.out] at hor
  generalize (s.getD 0 0).toNat = k0 at *
  generalize (s.getD 1 0).toNat = k1 at *
  generalize (s.getD 2 0).toNat = k2 at *
  generalize (s.getD 3 0).toNat = k3 at *
  have HOR := Lib.hid hor
  clear hor
  go_wp2_with fail
  go_ret
  refine ⟨?_, hU2⟩
  show Ending.returned (Value.int .u32 _) = _
  rw [← HOR.out]

theorem recSum_any (a : Option Addr) (c : Nat) (l : List UInt8) (w : World) (hv : Vw w a l.length c 1 (bvs l)) (hl : l.length ≤ 100000000) (hlb : ∀ b, blk a = some b → b < w.heap.size) :
    Calls Try.prog 11 #[.slice a l.length c] w fun e w' => e = .returned (.int .u32 (sum32L l)) ∧ Upd (fun _ => False) w w' := recSum_any0 a c l w hv hl

set_option maxRecDepth 100000 in
set_option maxHeartbeats 4000000 in
theorem refSum32_any (a : Option Addr) (c : Nat) (l : List UInt8) (w : World) (hv : Vw w a l.length c 1 (bvs l)) (hl : l.length ≤ 100000000) (hlb : ∀ b, blk a = some b → b < w.heap.size) :
    Calls Try.prog 12 #[.slice a l.length c] w fun e w' => e = .returned (.int .u32 (sum32L l)) ∧ Upd (fun _ => False) w w' := by
  have hs := refSum_any a c l w hv hl hlb
  have hval := sum32_val l
  have hks := sumL_length l
  generalize sumL l = s at *
  obtain ⟨k, hk⟩ : ∃ k, (bvs s).toArray = k := ⟨_, rfl⟩
  rw [hk] at hs
  have o1 : k.all (·.oneCell') = true := by rw [← hk]; simp [bvs, bv, Value.oneCell']
  have s1 : k.size = 32 := by rw [← hk]; simp [bvs, hks]
  have hik : (Try.prog.info? 47).map (·.size) = some k.size := by rw [show (Try.prog.info? 47).map (·.size) = some 32 from by kernel_rfl, s1]
  obtain ⟨z0, hz0'⟩ : ∃ z0, (#[.int .u8 0, .int .u8 0, .int .u8 0, .int .u8 0, .int .u8 0, .int .u8 0, .int .u8 0, .int .u8 0, .int .u8 0, .int .u8 0, .int .u8 0, .int .u8 0, .int .u8 0, .int .u8 0, .int .u8 0, .int .u8 0, .int .u8 0, .int .u8 0, .int .u8 0, .int .u8 0, .int .u8 0, .int .u8 0, .int .u8 0, .int .u8 0, .int .u8 0, .int .u8 0, .int .u8 0, .int .u8 0, .int .u8 0, .int .u8 0, .int .u8 0, .int .u8 0] : Array Value) = z0 := ⟨_, rfl⟩
  have hz0s : z0.size = k.size := by rw [← hz0', s1]; rfl
  have HK := Lib.hid hk
  have HV := Lib.hid hval
  clear hk hval s1
  go_enter Try.func12, Try.ntmps12
  go_wp2_with fail
  refine hs.mono ?_
  rintro e w1 ⟨rfl, hU⟩
  clear hs
  go_upto_region 2 with (first | ((with_reducible show wpList _ _ _ (Oper.mk _ (Op.store _ _ _) _ _ _ _ :: _) _ _); refine wpList_store_row rfl 47 (.tmp 3) (.tmp 5) rfl w1.heap.size k z0 47 rfl rfl (heap_alloc_new _ _) hik hz0s o1 ?_))
  have hrow : ((w1.alloc (Obj.cells z0 47)).setRow w1.heap.size k).heap[w1.heap.size]? = some (.cells k 47 (0, 0)) := setRow_heap _ _ _ _ _ _ (heap_alloc_new _ _)
  have hU2 : Upd (fun _ => False) w ((w1.alloc (Obj.cells z0 47)).setRow w1.heap.size k) := hU.trans ((Upd.alloc _ _ _).next (Upd.setRow (S := fun i => i = w1.heap.size) _ rfl k) (fun i hi h => by omega))
  generalize (w1.alloc (Obj.cells z0 47)).setRow w1.heap.size k = w2 at *
  generalize w1.heap.size = b at *
  rw [← HK.out] at hrow
  have q0 := key_cells hks hrow 0 (by omega)
  have q1 := key_cells hks hrow 1 (by omega)
  have q2 := key_cells hks hrow 2 (by omega)
  have q3 := key_cells hks hrow 3 (by omega)
  have HKS := Lib.hid hks
  clear hrow hU hz0' hks
  have h0 := (s.getD 0 0).toNat_lt
  have h1 := (s.getD 1 0).toNat_lt
  have h2 := (s.getD 2 0).toNat_lt
  have h3 := (s.getD 3 0).toNat_lt
  have hor := four_or _ _ _ _ h0 h1 h2 h3
  rw [← HV.out] at hor
  generalize (s.getD 0 0).toNat = k0 at *
  generalize (s.getD 1 0).toNat = k1 at *
  generalize (s.getD 2 0).toNat = k2 at *
  generalize (s.getD 3 0).toNat = k3 at *
  have HOR := Lib.hid hor
  clear hor
  go_wp2_with fail
  go_ret
  refine ⟨?_, hU2⟩
  show Ending.returned (Value.int .u32 _) = _
  rw [← HOR.out]

end Go.Proofs.Yteefceainlfdfaa
