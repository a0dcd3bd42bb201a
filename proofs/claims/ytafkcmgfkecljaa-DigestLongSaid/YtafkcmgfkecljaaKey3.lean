/- Digits lead back: digest.FromHex. -/
import Derived.Test.YtafkcmgfkecljaaKey2
import Derived.Test.YtafkcmgfkecljaaHex
import Derived.Lib.SlBytesConst
namespace Go.Proofs.Ytafkcmgfkecljaa
set_option linter.unusedSimpArgs false
set_option linter.unusedVariables false
open Go.ChangeShapes Go.WideShapes Go.ChangeAt Go.RowKit

def idx (b : UInt8) : Int := Lib.indexByte digs b
def stepB (x b : UInt8) : UInt8 := (x <<< 4) ||| UInt8.ofNat (idx b).toNat
def kAt (s : List UInt8) : Nat → List UInt8
  | 0 => List.replicate 32 0
  | i + 1 => (kAt s i).set (i / 2) (stepB ((kAt s i).getD (i / 2) 0) (s.getD i 0))
theorem kAt_length (s : List UInt8) (i : Nat) : (kAt s i).length = 32 := by induction i <;> simp [kAt, *]
def isHex (s : List UInt8) : Bool := decide (s.length = 64 ∧ ∀ i, i < s.length → 0 ≤ idx (s.getD i 0))
def fromL (s : List UInt8) : List UInt8 := if isHex s then kAt s 64 else List.replicate 32 0
theorem idx_range : ∀ b : Fin 256, -1 ≤ idx (UInt8.ofNat b.val) ∧ idx (UInt8.ofNat b.val) < 16 := by decide +kernel
theorem idx_in (b : UInt8) : -1 ≤ idx b ∧ idx b < 16 := by
  have := idx_range ⟨b.toNat, b.toNat_lt⟩
  simpa using this
theorem stepB_all : ∀ x : Fin 256, ∀ d : Fin 16, bits BinOp.or IntKind.u8 ((x.val : Int) * 16 % 256) (d.val : Int) = (((UInt8.ofNat x.val <<< 4) ||| UInt8.ofNat d.val).toNat : Int) := by decide +kernel
theorem stepB_val (x b : UInt8) (hb : 0 ≤ idx b) : bits BinOp.or IntKind.u8 ((x.toNat : Int) * 16 % 256) (idx b) = ((stepB x b).toNat : Int) := by
  have h := idx_in b
  have := stepB_all ⟨x.toNat, x.toNat_lt⟩ ⟨(idx b).toNat, by omega⟩
  simp only at this
  rw [show (((idx b).toNat : Nat) : Int) = idx b from by omega] at this
  rw [this]
  simp [stepB]
theorem ret_cell_tmp {P : Program} {fn : Func} {R : Ending → World → Prop} {a : Act} {w : World} {p u : Tmp} {ty : TypeId} (h : fn.results = #[.cell p ty, .tmp u]) (b : Nat) (cs : Array Value) (t : TypeId) (fr : Nat × Nat) (d : TypeDesc) (v : Value)
    (hp : a.tmps.getD p undef = .pointer (some ⟨b, 0, none⟩)) (hg : w.heap[b]? = some (.cells cs t fr)) (hu : P.underlying ty = some d) (hd : d.isRow = true) (hi : (P.info? ty).map (·.size) = some cs.size)
    (hv : a.tmps.getD u undef = v) (hdf : a.defers = []) (hR : R (.returned (.tuple #[.agg cs, v])) w) : bodyPost P fn R .ret a w := by
  refine bodyPost_ret (v := .tuple #[.agg cs, v]) ?_ hdf hR
  have := run_loadVar_row (P := P) w b t ty cs fr d hg hu (by cases d <;> simp_all) hi
  rw [results_cell_tmp h, hp, hv]
  simp [Result.andThen, asAddr, this]
theorem digs_vw {w : World} (fr : Nat × Nat) : Vw (w.alloc (Obj.cells (bvs digs).toArray 5 fr)) (some ⟨w.heap.size, 0, none⟩) 16 16 1 (bvs digs) := by
  refine ⟨by rfl, by decide, by decide, (fun h => by cases h), fun x hx j u hu => ?_⟩
  cases hx
  have ha : (Addr.add ⟨w.heap.size, 0, none⟩ j) = ⟨w.heap.size, j, none⟩ := by unfold Addr.add; split <;> simp_all
  rw [ha, cell_of_row _ _ _ _ _ _ (heap_alloc_new w _)]
  simpa using hu

set_option maxRecDepth 100000 in
set_option maxHeartbeats 8000000 in
theorem fromHex_any (s : List UInt8) (w : World) :
    Calls Try.prog 36 #[.string (str s)] w fun e w' => e = .returned (.tuple #[.agg (bvs (fromL s)).toArray, .bool (isHex s)]) ∧ Upd (fun _ => False) w w' := by
  obtain ⟨z0, hz0'⟩ : ∃ z0, (#[.int .u8 0, .int .u8 0, .int .u8 0, .int .u8 0, .int .u8 0, .int .u8 0, .int .u8 0, .int .u8 0, .int .u8 0, .int .u8 0, .int .u8 0, .int .u8 0, .int .u8 0, .int .u8 0, .int .u8 0, .int .u8 0, .int .u8 0, .int .u8 0, .int .u8 0, .int .u8 0, .int .u8 0, .int .u8 0, .int .u8 0, .int .u8 0, .int .u8 0, .int .u8 0, .int .u8 0, .int .u8 0, .int .u8 0, .int .u8 0, .int .u8 0, .int .u8 0] : Array Value) = z0 := ⟨_, rfl⟩
  have hz0s : z0.size = 32 := by rw [← hz0']; rfl
  have hz0b : z0 = (bvs (List.replicate 32 0)).toArray := hz0'.symm.trans rfl
  have hz1 : z0.all (·.oneCell') = true := by rw [hz0b]; simp [bvs, bv, Value.oneCell']
  have hiK : (Try.prog.info? 32).map (·.size) = some z0.size := by
    rw [show (Try.prog.info? 32).map (·.size) = some 32 from by kernel_rfl, hz0s]
  have HZB := Lib.hid hz0b
  clear hz0b
  have hsz := str_size s
  go_enter Try.func36, Try.ntmps36
  go_upto_region 2 with (fail)
  have HZ0 := Lib.hid hz0'
  clear hz0'
  obtain ⟨B, hB⟩ : ∃ B, B = w.heap.size := ⟨_, rfl⟩
  have hR0 : ((w.alloc (Obj.cells z0 32)).alloc (Obj.cells z0 32)).heap[B]? = some (.cells z0 32 (0, 0)) := by
    rw [hB]; exact (Below.heap_alloc _ _ _ (by simp)).trans (heap_alloc_new _ _)
  have hR1 : ((w.alloc (Obj.cells z0 32)).alloc (Obj.cells z0 32)).heap[B + 1]? = some (.cells z0 32 (0, 0)) := by
    rw [hB]
    have := heap_alloc_new (w.alloc (Obj.cells z0 32)) (Obj.cells z0 32)
    simpa using this
  have hU1 : Upd (fun i => B ≤ i) w ((w.alloc (Obj.cells z0 32)).alloc (Obj.cells z0 32)) := (Upd.alloc _ _ _).trans (Upd.alloc _ _ _)
  generalize (w.alloc (Obj.cells z0 32)).alloc (Obj.cells z0 32) = w1 at *
  rw [← hB]
  have HB := Lib.hid hB
  clear hB
  by_cases hlen : s.length = 64
  · have hne : ((s.length : Int) != 64) = false := by rw [hlen]; rfl
    rw [hlen] at hsz hne
    have HLEN := Lib.hid hlen
    clear hlen
    go_wp2_with fail
    have hS1 : Row32 w1 (B + 1) (kAt s 0) := by unfold Row32; rw [hR1, HZB.out]; rfl
    go_loopw [13] (fun i wx => ∃ (n : Nat), n ≤ 64 ∧ i = .int .i64 (n : Int) ∧ Hid (∀ j, j < n → 0 ≤ idx (s.getD j 0)) ∧ wx.heap[B]? = some (.cells z0 32 (0, 0)) ∧ Row32 wx (B + 1) (kAt s n) ∧ Upd (fun i => B ≤ i) w wx) (fun i _ => 64 - (intOf i).toNat)
    case atStart => exact ⟨0, by omega, rfl, (fun j hj => by omega), hR0, hS1, hU1⟩
    case round =>
      clear hU1 hR0 hR1 hS1
      obtain ⟨n, hn, rfl, hV, hR0, hK, hU⟩ := hrel
      by_cases hlt : n < 64
      · have hI : (n : Int) < 64 := by omega
        have hix : ∀ w, (Instr.index 9 (.string (str s)) (.int .i64 (n : Int))).run Try.prog w = .ok (.int .u8 ((s.getD n 0).toNat : Int)) w := fun w => by
          rw [run_index_string _ _ _ _ _ Try.underlying9]
          have h : (0 : Int) ≤ (n : Int) ∧ (n : Int) < ((str s).size : Int) := ⟨by omega, by rw [hsz]; exact hI⟩
          rw [dif_pos h]
          have hn' : n < s.length := by have := HLEN.out; omega
          have : (str s)[n]'(by rw [hsz]; exact hlt) = s.getD n 0 := by
            simp [List.getElem?_eq_getElem hn']; rfl
          simp only [Int.toNat_natCast]
          rw [this]
        have hV2 : 0 ≤ idx (s.getD n 0) → ∀ j, j < n + 1 → 0 ≤ idx (s.getD j 0) := fun h0 j hj => by
          by_cases e : j = n
          · subst e; exact h0
          · exact hV.out j (by omega)
        have hB2 : ¬ 0 ≤ idx (s.getD n 0) → isHex s = false := fun h0 => by
          unfold isHex
          refine decide_eq_false fun h => h0 (h.2 n (by have := HLEN.out; omega))
        have hq := hK.cell (n / 2) (by rw [kAt_length]; omega)
        have hk2 : (kAt s n).set (n / 2) (stepB ((kAt s n).getD (n / 2) 0) (s.getD n 0)) = kAt s (n + 1) := rfl
        generalize s.getD n 0 = x at *
        generalize (kAt s n).getD (n / 2) 0 = y at *
        have hin := idx_in x
        have hsv := stepB_val y x
        have HV2 := Lib.hid hV2
        have HB2 := Lib.hid hB2
        have HK2 := Lib.hid hk2
        have HSV := Lib.hid hsv
        clear hV2 hB2 hk2 hsv hV
        have kc := fun (w : World) (C : Array Value) (n c : Nat) => Lib.run_convert_bytes_const (P := Try.prog) w 24 5 C n c Try.underlying24 Try.underlying5
        go_upto_region 7 with (fail)
        go_wp2_with fail
        refine (bIndexByte_any _ _ digs x _ (digs_vw (16, 17))).mono ?_
        rintro e w' ⟨rfl, rfl⟩
        rw [show Lib.indexByte digs x = idx x from rfl]
        have hA : Upd (fun i => B ≤ i) wr (wr.alloc (Obj.cells (bvs digs).toArray 5 (16, 17))) := Upd.alloc _ _ _
        have hR0' := (Below.heap_alloc wr (Obj.cells (bvs digs).toArray 5 (16, 17)) B (lt_of_heap hR0)).trans hR0
        have hK' : Row32 (wr.alloc (Obj.cells (bvs digs).toArray 5 (16, 17))) (B + 1) (kAt s n) := hK.upd (Upd.alloc (fun _ => False) _ _) (fun h => h)
        have hU' := hU.trans hA
        have hcq := (World.cell?_of_block (a := ⟨B + 1, n / 2, none⟩) (Below.heap_alloc wr (Obj.cells (bvs digs).toArray 5 (16, 17)) (B + 1) (lt_of_heap hK))).trans hq
        unfold bv at hcq
        have hth := hK'.thaw (n / 2)
        clear hq
        clear hA hR0 hK hU
        generalize wr.alloc (Obj.cells (bvs digs).toArray 5 (16, 17)) = w2 at *
        by_cases hv : 0 ≤ idx x
        · have hv' : ¬ idx x < 0 := by omega
          have HV3 : Hid (∀ j, j < n + 1 → 0 ≤ idx (s.getD j 0)) := HV2.out hv
          have hsv := HSV.out hv
          clear HSV HV2 HB2
          have hd16 := hin.2
          generalize idx x = d at *
          have HSV := Lib.hid hsv
          clear hsv
          go_wp2_with fail
          go_roundw
          case rel =>
            rw [HSV.out]
            refine ⟨n + 1, by omega, by first | rfl | go_num, HV3, ?_, ?_, ?_⟩
            · exact (Below.heap_setCell w2 ⟨B + 1, n / 2, none⟩ _ _ (by simp)).trans hR0'
            · rw [← HK2.out]
              exact hK'.set (n / 2) (stepB y x)
            · exact hU'.trans (Upd.setCell (S := fun i => B ≤ i) _ (by show B ≤ B + 1; omega) _)
          case measure => simp [intOf]; omega
        · have hv' : idx x < 0 := by omega
          have hz0' := HZ0.out
          have HB3 := Lib.hid (HB2.out (by omega))
          generalize idx x = d at *
          clear HSV HV2 HB2
          go_wp2_with (first | ((with_reducible show wpList _ _ _ (Oper.mk _ (Op.store _ _ _) _ _ _ _ :: _) _ _); refine wpList_store_row rfl 32 (.tmp 2) (.tmp 24) rfl B z0 z0 32 rfl rfl hR0' hiK rfl hz1 ?_))
          refine ret_cell_tmp rfl B z0 32 (0, 0) _ (.bool false) rfl (setRow_heap _ _ _ _ _ _ hR0') Try.underlying32 rfl hiK rfl rfl ?_
          refine ⟨?_, ?_⟩
          · rw [fromL, HB3.out, HZB.out]; rfl
          · exact (hU'.trans (Upd.setRow (S := fun i => B ≤ i) _ (Nat.le_refl _) _)).mono (fun i hi hs => by have := HB.out; omega)
      · obtain rfl : n = 64 := by omega
        have hyes : isHex s = true := by
          unfold isHex
          exact decide_eq_true ⟨HLEN.out, fun i hi => hV.out i (by have := HLEN.out; omega)⟩
        have HYES := Lib.hid hyes
        obtain ⟨k1, hk1⟩ : ∃ k1, (bvs (kAt s 64)).toArray = k1 := ⟨_, rfl⟩
        have hk1s : k1.size = 32 := by rw [← hk1]; simp [bvs, kAt_length]
        have hk11 : k1.all (·.oneCell') = true := by rw [← hk1]; simp [bvs, bv, Value.oneCell']
        have hiK1 : (Try.prog.info? 32).map (·.size) = some k1.size := by
          rw [show (Try.prog.info? 32).map (·.size) = some 32 from by kernel_rfl, hk1s]
        have hz : z0.size = k1.size := by rw [hz0s, hk1s]
        unfold Row32 at hK
        rw [hk1] at hK
        have HK1 := Lib.hid hk1
        clear hyes hk1 hk1s hV
        go_wp2_with (first | ((with_reducible show wpList _ _ _ (Oper.mk _ (Op.load _ _) _ _ _ _ :: _) _ _); refine wpList_load_row rfl 32 (.tmp 4) rfl (B + 1) k1 32 (0, 0) _ rfl hK Try.underlying32 rfl hiK1 ?_) | ((with_reducible show wpList _ _ _ (Oper.mk _ (Op.store _ _ _) _ _ _ _ :: _) _ _); refine wpList_store_row rfl 32 (.tmp 2) (.tmp 37) rfl B k1 z0 32 rfl rfl hR0 hiK1 hz hk11 ?_))
        refine ret_cell_tmp rfl B k1 32 (0, 0) _ (.bool true) rfl (setRow_heap _ _ _ _ _ _ hR0) Try.underlying32 rfl hiK1 rfl rfl ?_
        refine ⟨?_, ?_⟩
        · rw [fromL, HYES.out, if_pos rfl, HK1.out]
        · exact (hU.trans (Upd.setRow (S := fun i => B ≤ i) _ (Nat.le_refl _) _)).mono (fun i hi hs => by have := HB.out; omega)
  · have hne : ((s.length : Int) != 64) = true := by simp; omega
    have hnot : isHex s = false := by simp [isHex, hlen]
    have HNOT := Lib.hid hnot
    clear hnot
    go_wp2_with (first | ((with_reducible show wpList _ _ _ (Oper.mk _ (Op.load _ _) _ _ _ _ :: _) _ _); refine wpList_load_row rfl 32 (.tmp 4) rfl (B + 1) z0 32 (0, 0) _ rfl hR1 Try.underlying32 rfl hiK ?_) | ((with_reducible show wpList _ _ _ (Oper.mk _ (Op.store _ _ _) _ _ _ _ :: _) _ _); refine wpList_store_row rfl 32 (.tmp 2) (.tmp 10) rfl B z0 z0 32 rfl rfl hR0 hiK rfl hz1 ?_))
    refine ret_cell_tmp rfl B z0 32 (0, 0) _ (.bool false) rfl (setRow_heap _ _ _ _ _ _ hR0) Try.underlying32 rfl hiK rfl rfl ?_
    refine ⟨?_, ?_⟩
    · rw [fromL, HNOT.out, HZB.out]; rfl
    · exact (hU1.trans (Upd.setRow (S := fun i => B ≤ i) _ (Nat.le_refl _) _)).mono (fun i hi hs => by have := HB.out; omega)
end Go.Proofs.Ytafkcmgfkecljaa
