
/- SHA-256: the name of bytes, as the program reckons it. -/
import Derived.Test.YteefceainlfdfaaSum0
namespace Go.Proofs.Yteefceainlfdfaa
set_option linter.unusedSimpArgs false
set_option linter.unusedVariables false
open Go.ChangeShapes Go.WideShapes Go.ChangeAt Go.RowKit

/-- The first bytes of a number of eight, the highest first. -/
def beL (X : Nat) : Nat → List UInt8
  | 0 => []
  | j + 1 => beL X j ++ [UInt8.ofNat (X / 256 ^ (7 - j))]
theorem beL_length (X j : Nat) : (beL X j).length = j := by induction j <;> simp [beL, *]
def zer (n : Nat) : Nat := (119 - n % 64) % 64
/-- The bytes, filled up. -/
def padL (l : List UInt8) : List UInt8 := l ++ [128] ++ List.replicate (zer l.length) 0 ++ beL (l.length * 8) 8
theorem padL_length (l : List UInt8) : ∃ N, (padL l).length = 64 * N ∧ 64 * N ≤ l.length + 72 := by
  refine ⟨(padL l).length / 64, ?_, ?_⟩ <;> simp [padL, beL_length, zer] <;> omega
def blocksI (P : List UInt8) : Nat → List Int
  | 0 => H8
  | k + 1 => blockI K64 (blocksI P k) ((P.drop (64 * k)).take 64)
theorem blocksI_length (P : List UInt8) (k : Nat) : (blocksI P k).length = 8 := by
  induction k with
  | zero => rfl
  | succ k ih => rw [blocksI, blockI_length, ih]
def hashI (l : List UInt8) : List Int := blocksI (padL l) ((padL l).length / 64)
def outB (h : List Int) (i : Nat) : UInt8 := UInt8.ofNat (h.getD (i / 4) 0 / 2 ^ (24 - 8 * (i % 4)) % 256).toNat
/-- The name. -/
def sumL (l : List UInt8) : List UInt8 := (List.range 32).map (outB (hashI l))
theorem sumL_length (l : List UInt8) : (sumL l).length = 32 := by simp [sumL]

/-- A slice that the call has made: v reads as L. -/
def Buf (B : Nat) (w : World) (v : Value) (L : List UInt8) : Prop :=
  ∃ a c, v = .slice a L.length c ∧ w.ownsRow 0 5 1 (.slice a L.length c) L.length (bvs L) ∧ (∀ g, blk a = some g → B ≤ g)
theorem Buf.app {B : Nat} {w w2 : World} {a a2 : Option Addr} {c2 : Nat} {L : List UInt8} {x : UInt8} {o : Obj} {xs : List Value} (hG : ∀ g, blk a = some g → B ≤ g) (hB : B ≤ w.heap.size) (hx : xs = bvs L ++ [bv x])
    (hown2 : w2.ownsRow 0 5 1 (.slice a2 (L.length + 1) c2) (L.length + 1) xs) (hg2 : (w.alloc o).grownBy w2 (blk a)) (hat2 : blk a2 = blk a ∨ blk a2 = some (w.heap.size + 1)) :
    Buf B w2 (.slice a2 (L.length + 1) c2) (L ++ [x]) ∧ Upd (fun i => B ≤ i) w w2 := by
  subst hx
  refine ⟨⟨a2, c2, by simp, by simpa [bvs] using hown2, ?_⟩, ?_⟩
  · intro g hg'
    rcases hat2 with h | h
    · exact hG g (h.symm.trans hg')
    · rw [h] at hg'; cases hg'; omega
  · exact (Upd.alloc (fun i => B ≤ i) w o).next (Upd.grown (S := fun k => blk a = some k) hg2 (fun k hk => hk)) (fun i hi hs => hG i hs)
def lenOf : Value → Nat
  | .slice _ n _ => n
  | _ => 0
/-- What stays while the buffer is filled. -/
structure Fill (B : Nat) (w : World) (z0 : Array Value) (wx : World) : Prop where
  row : wx.heap[w.heap.size]? = some (.cells z0 47 (0, 0))
  up : Upd (fun i => w.heap.size ≤ i) w wx
  le : B ≤ wx.heap.size
theorem Fill.upd {B : Nat} {w : World} {z0 : Array Value} {wx wy : World} (F : Fill B w z0 wx) (hB : w.heap.size < B) (hU : Upd (fun i => B ≤ i) wx wy) : Fill B w z0 wy :=
  ⟨(hU.block _ (by have := F.le; omega) (by omega)).trans F.row, F.up.trans (hU.mono (fun i _ h => by omega)), Nat.le_trans F.le hU.size⟩
/-- What stays while the blocks are mixed in. -/
structure Going (w : World) (z0 : Array Value) (g5 g6 : Nat) (K : List Int) (wx : World) (h : List Int) : Prop where
  row : wx.heap[w.heap.size]? = some (.cells z0 47 (0, 0))
  ah : Arr wx g5 58 h
  ak : Arr wx g6 60 K
  up : Upd (fun i => w.heap.size ≤ i) w wx
theorem Going.upd {w : World} {z0 : Array Value} {g5 g6 : Nat} {K : List Int} {wx wy : World} {h : List Int} (F : Going w z0 g5 g6 K wx h) (hU : Upd (fun _ => False) wx wy) : Going w z0 g5 g6 K wy h :=
  ⟨(hU.block _ (lt_of_heap F.row) (fun h => h)).trans F.row, F.ah.upd hU (fun h => h), F.ak.upd hU (fun h => h), F.up.trans (hU.mono (fun _ _ h => h.elim))⟩
theorem Going.row5 {w : World} {z0 : Array Value} {g5 g6 : Nat} {K : List Int} {wx : World} {h : List Int} (F : Going w z0 g5 g6 K wx h) (h5 : w.heap.size < g5) (h56 : g5 < g6) (k : List Int) : Going w z0 g5 g6 K (wx.setRow g5 (k.map uv).toArray) k :=
  ⟨(setRow_other wx g5 _ _ (by omega)).trans F.row, F.ah.row k, F.ak.row_ne _ (by omega), F.up.trans (Upd.setRow (S := fun i => w.heap.size ≤ i) wx (by show w.heap.size ≤ g5; omega) _)⟩
theorem Vw.setRow {w : World} {a : Option Addr} {n c size : Nat} {xs : List Value} (h : Vw w a n c size xs) (b : Nat) (cs : Array Value) (hb : ∀ k, blk a = some k → k < b) : Vw (w.setRow b cs) a n c size xs :=
  h.upd (Upd.setRow (S := fun i => i = b) w rfl cs) (fun k hk e => by have := hb k hk; omega)
theorem Vw.allocd {w : World} {a : Option Addr} {n c size : Nat} {xs : List Value} (h : Vw w a n c size xs) (o : Obj) : Vw (w.alloc o) a n c size xs :=
  h.upd (Upd.alloc (fun _ => False) w o) (fun _ _ h => h)
theorem going_start {B : Nat} {w w4 : World} {z0 : Array Value} (F : Fill B w z0 w4) (hwB : w.heap.size < B) (c8 c64 : Array Value) (h0 K : List Int) :
    Going w z0 w4.heap.size (w4.heap.size + 1) K ((((w4.alloc (Obj.cells c8 58)).alloc (Obj.cells c64 60)).setRow w4.heap.size (h0.map uv).toArray).setRow (w4.heap.size + 1) (K.map uv).toArray) h0 := by
  have h4 := F.le
  have hrow := F.row
  have hrlt := lt_of_heap hrow
  have h8 : ((w4.alloc (Obj.cells c8 58)).alloc (Obj.cells c64 60)).heap[w4.heap.size]? = some (.cells c8 58 (0, 0)) :=
    (Below.heap_alloc _ _ _ (by simp)).trans (heap_alloc_new _ _)
  have h64 : ((w4.alloc (Obj.cells c8 58)).alloc (Obj.cells c64 60)).heap[w4.heap.size + 1]? = some (.cells c64 60 (0, 0)) := by
    have := heap_alloc_new (w4.alloc (Obj.cells c8 58)) (Obj.cells c64 60)
    simpa using this
  refine ⟨?_, ?_, ?_, ?_⟩
  · rw [setRow_other _ _ _ _ (by omega), setRow_other _ _ _ _ (by omega), Below.heap_alloc _ _ _ (by simp; omega), Below.heap_alloc _ _ _ hrlt]
    exact hrow
  · exact (setRow_other _ _ _ _ (by omega)).trans (setRow_heap _ _ _ _ _ _ h8)
  · exact setRow_heap _ _ _ _ _ _ ((setRow_other _ _ _ _ (by omega)).trans h64)
  · exact (((F.up.trans (Upd.alloc _ _ _)).trans (Upd.alloc _ _ _)).trans (Upd.setRow (S := fun i => w.heap.size ≤ i) _ (by show w.heap.size ≤ w4.heap.size; omega) _)).trans (Upd.setRow (S := fun i => w.heap.size ≤ i) _ (by show w.heap.size ≤ w4.heap.size + 1; omega) _)
theorem vw_start {w4 : World} {a : Option Addr} {n c size : Nat} {xs : List Value} (hv : Vw w4 a n c size xs) (hg : ∀ g, blk a = some g → g < w4.heap.size) (o8 o64 : Obj) (r8 r64 : Array Value) :
    Vw ((((w4.alloc o8).alloc o64).setRow w4.heap.size r8).setRow (w4.heap.size + 1) r64) a n c size xs :=
  (((hv.allocd _).allocd _).setRow _ _ hg).setRow _ _ (fun k hk => by have := hg k hk; omega)
/-- A block that holds a name. -/
def Row32 (w : World) (b : Nat) (bs : List UInt8) : Prop := w.heap[b]? = some (.cells (bvs bs).toArray 47 (0, 0))
theorem Row32.cell {w : World} {b : Nat} {bs : List UInt8} (h : Row32 w b bs) (i : Nat) (hi : i < bs.length) : w.cell? ⟨b, i, none⟩ = some (bv (bs.getD i 0)) := by
  rw [cell_of_row _ _ _ _ _ _ h]
  simp [bvs, List.getElem?_eq_getElem hi]
theorem Row32.thaw {w : World} {b : Nat} {bs : List UInt8} (h : Row32 w b bs) (o : Nat) : w.frozen? ⟨b, o, none⟩ = false := by
  unfold Row32 at h; simp [World.frozen?, h]
theorem Row32.set {w : World} {b : Nat} {bs : List UInt8} (h : Row32 w b bs) (i : Nat) (x : UInt8) : Row32 (w.setCell ⟨b, i, none⟩ (bv x)) b (bs.set i x) := by
  unfold Row32
  rw [setCell_heap i _ h]
  simp [bvs, List.map_set]
theorem outB_val (h : List Int) (n : Nat) : Value.int IntKind.u8 (h.getD (n / 4) 0 / 2 ^ (24 - 8 * (n % 4)) % 256) = bv (outB h n) := by
  unfold bv outB
  generalize h.getD (n / 4) 0 / 2 ^ (24 - 8 * (n % 4)) = x
  congr 1
  simp only [UInt8.toNat_ofNat']
  omega
/-- The name, so far. -/
def obs (h : List Int) : Nat → List UInt8
  | 0 => List.replicate 32 0
  | i + 1 => (obs h i).set i (outB h i)
theorem obs_length (h : List Int) (i : Nat) : (obs h i).length = 32 := by induction i <;> simp [obs, *]
theorem obs_get (h : List Int) (i j : Nat) : (obs h i)[j]? = if j < 32 then some (if j < i then outB h j else 0) else none := by
  induction i with
  | zero =>
    rw [obs, List.getElem?_replicate]
    simp
  | succ i ih =>
    rw [obs, List.getElem?_set, obs_length, ih]
    by_cases e : i = j
    · subst e; simp
    · rw [if_neg e]
      by_cases hj : j < 32
      · simp only [hj, if_true]
        congr 1
        by_cases h1 : j < i
        · rw [if_pos h1, if_pos (by omega)]
        · rw [if_neg h1, if_neg (by omega)]
      · simp [hj]
theorem obs_full (l : List UInt8) : obs (hashI l) 32 = sumL l := by
  apply List.ext_getElem?
  intro j
  rw [obs_get, sumL]
  by_cases hj : j < 32
  · simp [hj]
  · simp [hj]
theorem Vw.upd_ge {w w' : World} {a : Option Addr} {n c size B : Nat} {xs : List Value} (h : Vw w a n c size xs) (hU : Upd (fun i => B ≤ i) w w') (hB : w.heap.size ≤ B) : Vw w' a n c size xs :=
  ⟨h.len, h.le, h.cap, h.nil, fun x hx j u hu => by
    have hc := h.cell x hx j u hu
    have hlt : (x.add j).block < w.heap.size := World.block_lt_of_cell? w _ hc
    rw [hU.cell hlt (by omega)]
    exact hc⟩
theorem Buf.drew {B : Nat} {w : World} {v : Value} {L : List UInt8} (h : Buf B w v L) : Buf B w.drew v L := h

set_option maxRecDepth 100000 in
set_option maxHeartbeats 40000000 in
theorem sum_any0 (a : Option Addr) (c : Nat) (l : List UInt8) (w : World) (hv : Vw w a l.length c 1 (bvs l)) (hl : l.length ≤ 100000000) :
    Calls Try.prog 21 #[.slice a l.length c] w fun e w' => e = .returned (.agg (bvs (sumL l)).toArray) ∧ Upd (fun _ => False) w w' := by
  obtain ⟨i0, hi, hz0, hz1, hz2⟩ := info_parts infoU8
  go_enter Try.func21, Try.ntmps21
  go_upto_region 1 with (fail)
  obtain ⟨w1, hw1⟩ : ∃ w1, w.alloc (Obj.cells #[.int .u8 0, .int .u8 0, .int .u8 0, .int .u8 0, .int .u8 0, .int .u8 0, .int .u8 0, .int .u8 0, .int .u8 0, .int .u8 0, .int .u8 0, .int .u8 0, .int .u8 0, .int .u8 0, .int .u8 0, .int .u8 0, .int .u8 0, .int .u8 0, .int .u8 0, .int .u8 0, .int .u8 0, .int .u8 0, .int .u8 0, .int .u8 0, .int .u8 0, .int .u8 0, .int .u8 0, .int .u8 0, .int .u8 0, .int .u8 0, .int .u8 0, .int .u8 0] 47) = w1 := ⟨_, rfl⟩
  rw [hw1]
  have hR1 : w1.heap[w.heap.size]? = some (.cells #[.int .u8 0, .int .u8 0, .int .u8 0, .int .u8 0, .int .u8 0, .int .u8 0, .int .u8 0, .int .u8 0, .int .u8 0, .int .u8 0, .int .u8 0, .int .u8 0, .int .u8 0, .int .u8 0, .int .u8 0, .int .u8 0, .int .u8 0, .int .u8 0, .int .u8 0, .int .u8 0, .int .u8 0, .int .u8 0, .int .u8 0, .int .u8 0, .int .u8 0, .int .u8 0, .int .u8 0, .int .u8 0, .int .u8 0, .int .u8 0, .int .u8 0, .int .u8 0] 47 (0, 0)) := by rw [← hw1]; exact heap_alloc_new _ _
  have hU1 : Upd (fun i => w.heap.size ≤ i) w w1 := by rw [← hw1]; exact Upd.alloc _ _ _
  have hz1' : w1.heap.size = w.heap.size + 1 := by rw [← hw1]; simp
  clear hw1
  obtain ⟨B, hB⟩ : ∃ B, B = w1.heap.size := ⟨_, rfl⟩
  have hv1 : Vw w1 a l.length c 1 (bvs l) := hv.upd_ge hU1 (Nat.le_refl _)
  obtain ⟨z0, hz0'⟩ : ∃ z0, (#[.int .u8 0, .int .u8 0, .int .u8 0, .int .u8 0, .int .u8 0, .int .u8 0, .int .u8 0, .int .u8 0, .int .u8 0, .int .u8 0, .int .u8 0, .int .u8 0, .int .u8 0, .int .u8 0, .int .u8 0, .int .u8 0, .int .u8 0, .int .u8 0, .int .u8 0, .int .u8 0, .int .u8 0, .int .u8 0, .int .u8 0, .int .u8 0, .int .u8 0, .int .u8 0, .int .u8 0, .int .u8 0, .int .u8 0, .int .u8 0, .int .u8 0, .int .u8 0] : Array Value) = z0 := ⟨_, rfl⟩
  have hz0s : z0.size = 32 := by rw [← hz0']; rfl
  rw [hz0'] at hR1
  have HZ0 := Lib.hid hz0'
  clear hz0'
  go_wp2_with fail
  refine (bClone_any a c l w1 hv1 hl).mono ?_
  rintro e wr ⟨a', c', rfl, hown, hUc, hG, hn2⟩
  have hzc := hUc.size
  have hRw := (hUc.block w.heap.size (by omega) (fun h => h)).trans hR1
  have hUw : Upd (fun i => w.heap.size ≤ i) w wr := hU1.trans (hUc.mono (fun _ _ h => h.elim))
  rw [← hB] at hG
  have hBw : B ≤ wr.heap.size := by omega
  clear hv1 hU1 hUc hR1 hn2
  have hown' := hown.alloc (Obj.cells #[.int .u8 128] 5)
  have hnew : (wr.alloc (Obj.cells #[.int .u8 128] 5)).heap[wr.heap.size]? = _ := heap_alloc_new wr _
  have hsr : Src Try.prog 1 22 (.slice (some ⟨wr.heap.size, 0, none⟩) 1 1) 1 [.int .u8 128] (wr.alloc (Obj.cells #[.int .u8 128] 5)) :=
    Src.ofSlice _ Try.underlying22 _ 1 1 _ rfl (World.news_of_block hnew) (fun u hu => by simp at hu; subst hu; rfl)
  clear hnew
  go_wp2_with (at_builtin; refine wpList_app _ rfl (.tmp 10) (.tmp 11) 22 22 rfl 5 i0 (.int .u8 0) 1 1 Try.underlying22 hi hz0 hz1 hz2 rfl a' l.length c' (bvs l) rfl hown' (.slice (some ⟨wr.heap.size, 0, none⟩) 1 1) 1 _ rfl hsr ?_ ?_ ?_)
  · unfold maxLen; omega
  · omega
  intro a2 c2 w2 hown2 hg2 hat2 hnil2
  obtain ⟨hB2, hU2⟩ := Buf.app (x := 128) hG hBw (by first | rfl | simp [bv]) hown2 hg2 hat2
  clear hown' hsr hnil2 hg2 hat2 hown2
  have hF : Fill B w z0 wr := ⟨hRw, hUw, hBw⟩
  have hwB : w.heap.size < B := by omega
  have hF2 := hF.upd hwB hU2
  clear hF hRw hUw hBw hU2 hown hG hzc hz1'
  have HB := Lib.hid hB
  clear hB
  go_wp2_with fail
  go_loopw [3] (fun v wx => ∃ (j : Nat) (L : List UInt8), j ≤ zer l.length ∧ Hid (L = l ++ [128] ++ List.replicate j 0) ∧ L.length = l.length + 1 + j ∧ Buf B wx v L ∧ Fill B w z0 wx) (fun v _ => zer l.length + l.length + 1 - lenOf v)
  case atStart => exact ⟨0, l ++ [128], Nat.zero_le _, (by show _ = _; simp), by simp, hB2, hF2⟩
  case round =>
    clear hB2 hF2
    obtain ⟨j, L, hj, hL, hlen, ⟨a', c', rfl, hown, hG⟩, hF⟩ := hrel
    have hzl : zer l.length ≤ 63 := by unfold zer; omega
    have hBw := hF.le
    by_cases hlt : j < zer l.length
    · have hmod : (((L.length : Nat) : Int) % 64 != 56) = true := by
        have : ((L.length : Nat) : Int) % 64 ≠ 56 := by unfold zer at hlt; omega
        simpa using this
      have hlL : L.length ≤ 100000064 := by omega
      have HLEN := Lib.hid hlen
      clear hlen
      have hown' := hown.alloc (Obj.cells #[.int .u8 0] 5)
      have hnew : (wr.alloc (Obj.cells #[.int .u8 0] 5)).heap[wr.heap.size]? = _ := heap_alloc_new wr _
      have hsr : Src Try.prog 1 22 (.slice (some ⟨wr.heap.size, 0, none⟩) 1 1) 1 [.int .u8 0] (wr.alloc (Obj.cells #[.int .u8 0] 5)) :=
        Src.ofSlice _ Try.underlying22 _ 1 1 _ rfl (World.news_of_block hnew) (fun u hu => by simp at hu; subst hu; rfl)
      clear hnew
      go_wp2_with (at_builtin; refine wpList_app _ rfl (.tmp 17) (.tmp 18) 22 22 rfl 5 i0 (.int .u8 0) 1 1 Try.underlying22 hi hz0 hz1 hz2 rfl a' L.length c' (bvs L) rfl hown' (.slice (some ⟨wr.heap.size, 0, none⟩) 1 1) 1 _ rfl hsr ?_ ?_ ?_)
      · unfold maxLen; omega
      · omega
      intro a2 c2 w2 hown2 hg2 hat2 hnil2
      obtain ⟨hB2, hU2⟩ := Buf.app (x := 0) hG hBw (by first | rfl | simp [bv]) hown2 hg2 hat2
      clear hown' hsr hnil2 hg2 hat2 hown2
      have hF2 := hF.upd hwB hU2
      have hL2 : L ++ [0] = l ++ [128] ++ List.replicate (j + 1) 0 := by rw [hL.out, List.replicate_succ', ← List.append_assoc]
      have hlen2 : (L ++ [0]).length = l.length + 1 + (j + 1) := by have := HLEN.out; simp; omega
      have hml : zer l.length + l.length + 1 - lenOf (.slice a2 (L.length + 1) c2) < zer l.length + l.length + 1 - lenOf (.slice a' L.length c') := by
        have := HLEN.out
        simp only [lenOf]; omega
      clear hF hown hG hU2
      go_wp2_with fail
      go_roundw
      case rel => exact ⟨j + 1, L ++ [0], by omega, hL2, hlen2, hB2, hF2⟩
      case measure => exact hml
    · obtain rfl : j = zer l.length := by omega
      have hmod : (((L.length : Nat) : Int) % 64 != 56) = false := by
        have : ((L.length : Nat) : Int) % 64 = 56 := by unfold zer at hlen; omega
        simpa using this
      have hlL : L.length ≤ 100000064 := by omega
      have HLEN := Lib.hid hlen
      clear hlen hlt hj
      go_wp2_with fail
      clear hmod
      have HL := hL
      clear hL hzl
      go_loopw [3, 4] (fun v i wx => ∃ (j : Nat) (M : List UInt8), j ≤ 8 ∧ i = .int .i64 (56 - 8 * (j : Int)) ∧ Hid (M = L ++ beL (l.length * 8) j) ∧ M.length = L.length + j ∧ Buf B wx v M ∧ Fill B w z0 wx) (fun _ i _ => (8 + intOf i).toNat)
      case atStart => exact ⟨0, L, by omega, rfl, (by show _ = _; simp [beL]), by simp, ⟨a', c', rfl, hown, hG⟩, hF⟩
      case round =>
        clear hown hG hF
        obtain ⟨j, M, hj, rfl, hM, hlen, ⟨a', c', rfl, hown, hG⟩, hF⟩ := hrel
        have hBw := hF.le
        by_cases hlt : j < 8
        · obtain ⟨m, hm⟩ : ∃ m : Nat, m + j = 7 := ⟨7 - j, by omega⟩
          have hk : (56 : Int) - 8 * (j : Int) = 8 * (m : Int) := by omega
          rw [hk]
          have h0 : (0 : Int) ≤ 8 * (m : Int) := by omega
          have hlM : M.length ≤ 100000072 := by omega
          have HK := Lib.hid hk
          have HLM := Lib.hid hlen
          clear hk hlen hlt
          have hbv : Value.int IntKind.u8 ((l.length : Int) * 8 / 2 ^ (8 * m) % 256) = bv (UInt8.ofNat (l.length * 8 / 256 ^ m)) := by
            have := byte_of (l.length * 8) m
            rw [← this]
            congr 3
          have HBV := Lib.hid hbv
          clear hbv
          have hown' := hown.alloc (Obj.cells #[.int .u8 ((l.length : Int) * 8 / 2 ^ (8 * m) % 256)] 5)
          have hnew : (wr.alloc (Obj.cells #[.int .u8 ((l.length : Int) * 8 / 2 ^ (8 * m) % 256)] 5)).heap[wr.heap.size]? = _ := heap_alloc_new wr _
          have hsr : Src Try.prog 1 22 (.slice (some ⟨wr.heap.size, 0, none⟩) 1 1) 1 [.int .u8 ((l.length : Int) * 8 / 2 ^ (8 * m) % 256)] (wr.alloc (Obj.cells #[.int .u8 ((l.length : Int) * 8 / 2 ^ (8 * m) % 256)] 5)) :=
            Src.ofSlice _ Try.underlying22 _ 1 1 _ rfl (World.news_of_block hnew) (fun u hu => by simp at hu; subst hu; rfl)
          clear hnew
          go_wp2_with (at_builtin; refine wpList_app _ rfl (.tmp 24) (.tmp 32) 22 22 rfl 5 i0 (.int .u8 0) 1 1 Try.underlying22 hi hz0 hz1 hz2 rfl a' M.length c' (bvs M) rfl hown' (.slice (some ⟨wr.heap.size, 0, none⟩) 1 1) 1 _ rfl hsr ?_ ?_ ?_)
          · unfold maxLen; omega
          · omega
          intro a2 c2 w2 hown2 hg2 hat2 hnil2
          obtain ⟨hB2, hU2⟩ := Buf.app (x := UInt8.ofNat (l.length * 8 / 256 ^ m)) hG hBw (by rw [HBV.out]) hown2 hg2 hat2
          clear hown' hsr hnil2 hg2 hat2 hown2
          have hF2 := hF.upd hwB hU2
          have hM2 : M ++ [UInt8.ofNat (l.length * 8 / 256 ^ m)] = L ++ beL (l.length * 8) (j + 1) := by
            rw [hM.out, beL, show 7 - j = m from by omega, ← List.append_assoc]
          have hlen2 : (M ++ [UInt8.ofNat (l.length * 8 / 256 ^ m)]).length = L.length + (j + 1) := by have := HLM.out; simp; omega
          have hk2 : 8 * (m : Int) - 8 = 56 - 8 * ((j + 1 : Nat) : Int) := by have := HK.out; omega
          have hml : (8 + (8 * (m : Int) - 8)).toNat < (8 + 8 * (m : Int)).toNat := by omega
          have hw8 : IntKind.i64.wrap (8 * (m : Int) - 8) = 8 * (m : Int) - 8 := IntWalk.i64_in _ (by omega)
          have HK2 := Lib.hid hk2
          clear hF hown hG hU2 hk2
          go_wp2_with fail
          go_roundw
          case rel => exact ⟨j + 1, _, by omega, (by rw [← HK2.out]), hM2, hlen2, hB2, hF2⟩
          case measure => exact hml
        · obtain rfl : j = 8 := by omega
          have hMp : M = padL l := by rw [hM.out, HL.out]; rfl
          obtain ⟨N, hN, hN2⟩ := padL_length l
          rw [← hMp] at hN
          have HMP := Lib.hid hMp
          have hlM : M.length ≤ 100000072 := by omega
          have HN := Lib.hid hN
          clear hN
          have hv3 : Vw wr a' M.length c' 1 (bvs M) := Vw.of_own hown
          have hgb : ∀ g, blk a' = some g → g < wr.heap.size := fun g hg => by
            rcases hown.2 with ⟨h, h'⟩ | ⟨g', cap, cur, h, _, hgg, _⟩
            · simp only [Value.slice.injEq] at h; rw [h.1] at hg; cases hg
            · simp only [Value.slice.injEq] at h; rw [h.1] at hg; cases hg; exact lt_of_heap hgg
          clear hMp hlen hj hlt hown hM hN2
          rw [show (56 : Int) - 8 * ((8 : Nat) : Int) = -8 from by omega]
          go_wp2_with fail
          obtain ⟨h0, hh0⟩ : ∃ h0, blocksI M 0 = h0 := ⟨_, rfl⟩
          have hh0l : h0.length = 8 := by rw [← hh0]; rfl
          refine (first_any wr).mono ?_
          rw [show H8 = h0 from hh0]
          rintro e w3 ⟨rfl, hU3⟩
          go_wp2_with fail
          obtain ⟨K, hK⟩ : ∃ K, K64 = K := ⟨_, rfl⟩
          have hKl : K.length = 64 := by rw [← hK]; rfl
          refine (table_any w3).mono ?_
          rw [hK]
          rintro e w4 ⟨rfl, hU4⟩
          have HH0 := Lib.hid hh0
          have HK := Lib.hid hK
          have hU34 := hU3.trans hU4
          have hF4 := hF.upd hwB (hU34.mono (fun _ _ h => h.elim))
          have hv4 := hv3.upd hU34 (fun _ _ h => h)
          have hgb4 : ∀ g, blk a' = some g → g < w4.heap.size := fun g hg => by have := hgb g hg; have := hU34.size; omega
          have hi8 : (Try.prog.info? 58).map (·.size) = some 8 := by kernel_rfl
          have hi8' : (Try.prog.info? 58).map (·.size) = some (h0.map uv).toArray.size := by rw [hi8]; simp [hh0l]
          have hi64 : (Try.prog.info? 60).map (·.size) = some (K.map uv).toArray.size := by
            rw [show (Try.prog.info? 60).map (·.size) = some 64 from by kernel_rfl]; simp [hKl]
          clear hh0 hK hU3 hU4 hU34 hF hv3 hgb
          go_wp2_with (first
            | ((with_reducible show wpList _ _ _ (Oper.mk _ (Op.store _ _ _) _ _ _ _ :: _) _ _); refine wpList_store_row rfl 58 (.tmp 5) (.tmp 34) rfl w4.heap.size (h0.map uv).toArray _ 58 rfl rfl ((Arr.new w4 58 (List.replicate 8 0)).alloc _) hi8' (by simp [hh0l]) (uvs_one _) ?_)
            | ((with_reducible show wpList _ _ _ (Oper.mk _ (Op.store _ _ _) _ _ _ _ :: _) _ _); refine wpList_store_row rfl 60 (.tmp 6) (.tmp 35) rfl (w4.heap.size + 1) (K.map uv).toArray _ 60 rfl rfl ((Arr.new' _ 60 (List.replicate 64 0) (w4.heap.size + 1) (by simp)).row_ne _ (by omega)) hi64 (by simp [hKl]) (uvs_one _) ?_))
          obtain ⟨w5, hw5⟩ : ∃ w5, ((((w4.alloc (Obj.cells #[.int .u32 0, .int .u32 0, .int .u32 0, .int .u32 0, .int .u32 0, .int .u32 0, .int .u32 0, .int .u32 0] 58)).alloc (Obj.cells #[.int .u32 0, .int .u32 0, .int .u32 0, .int .u32 0, .int .u32 0, .int .u32 0, .int .u32 0, .int .u32 0, .int .u32 0, .int .u32 0, .int .u32 0, .int .u32 0, .int .u32 0, .int .u32 0, .int .u32 0, .int .u32 0, .int .u32 0, .int .u32 0, .int .u32 0, .int .u32 0, .int .u32 0, .int .u32 0, .int .u32 0, .int .u32 0, .int .u32 0, .int .u32 0, .int .u32 0, .int .u32 0, .int .u32 0, .int .u32 0, .int .u32 0, .int .u32 0, .int .u32 0, .int .u32 0, .int .u32 0, .int .u32 0, .int .u32 0, .int .u32 0, .int .u32 0, .int .u32 0, .int .u32 0, .int .u32 0, .int .u32 0, .int .u32 0, .int .u32 0, .int .u32 0, .int .u32 0, .int .u32 0, .int .u32 0, .int .u32 0, .int .u32 0, .int .u32 0, .int .u32 0, .int .u32 0, .int .u32 0, .int .u32 0, .int .u32 0, .int .u32 0, .int .u32 0, .int .u32 0, .int .u32 0, .int .u32 0, .int .u32 0, .int .u32 0] 60)).setRow w4.heap.size (h0.map uv).toArray).setRow (w4.heap.size + 1) (K.map uv).toArray) = w5 := ⟨_, rfl⟩
          rw [hw5]
          simp only [Act.put, List.getElem_toArray, List.getElem_cons_zero, List.getElem_cons_succ, List.setIfInBounds_toArray, List.set_cons_zero, List.set_cons_succ]
          have hF5 : Going w z0 w4.heap.size (w4.heap.size + 1) K w5 (blocksI M 0) := by
            rw [← hw5, HH0.out]
            exact going_start hF4 hwB _ _ h0 K
          have hv5 : Vw w5 a' M.length c' 1 (bvs M) := by
            rw [← hw5]
            exact vw_start hv4 hgb4 _ _ _ _
          have h5 : w.heap.size < w4.heap.size := by have := lt_of_heap hF4.row; omega
          have h56 : w4.heap.size < w4.heap.size + 1 := by omega
          clear hw5 hF4 hv4
          generalize w4.heap.size + 1 = g6 at *
          generalize w4.heap.size = g5 at *
          clear hi8'
          generalize (h0.map uv).toArray = H34 at *
          obtain ⟨K0, hK0⟩ : ∃ K0, (K.map uv).toArray = K0 := ⟨_, rfl⟩
          rw [hK0]
          clear hK0 hi64
          have HV5 := Lib.hid hv5
          have HG := Lib.hid hgb4
          have H56 := Lib.hid (And.intro h5 h56)
          clear hgb4 h5 h56
          go_loopw [3] (fun v wx => ∃ (k m : Nat) (L : List UInt8) (a' : Option Addr) (c' : Nat), Hid (m + 64 * k = M.length ∧ k ≤ N ∧ L = M.drop (64 * k)) ∧ v = .slice a' m c' ∧ Vw wx a' m c' 1 (bvs L) ∧ Hid (∀ g, blk a' = some g → g < g5) ∧ Going w z0 g5 g6 K wx (blocksI M k)) (fun v _ => lenOf v)
          case atStart => exact ⟨0, M.length, M, a', c', (by show _ ∧ _ ∧ _; exact ⟨by omega, by omega, rfl⟩), rfl, hv5, HG, hF5⟩
          case round =>
            clear hF5 hv5 HV5 HG
            obtain ⟨k, m, L, a', c', hk, rfl, hv, hG, hF⟩ := hrel
            have hcap := hv.cap
            have hle := hv.le
            unfold maxLen at hcap
            have hkk := hk.out
            by_cases hlt : k < N
            · have hm64 : 64 ≤ m := by have := HN.out; omega
              obtain ⟨ba, off, rfl, _⟩ := hv.at (by omega) (by decide)
              have hmI : (64 : Int) ≤ (m : Int) := by omega
              have hm0 : (0 : Int) < (m : Int) := by omega
              have hmc : (m : Int) ≤ (c' : Int) := by omega
              have hc64 : (64 : Int) ≤ (c' : Int) := by omega
              have hLl : L.length = m := by have := hv.len; simp [bvs] at this; omega
              have hvp := hv.pre 64 hm64
              rw [show 64 * 1 = 64 from rfl] at hvp
              have hpb : (bvs L).take 64 = bvs (L.take 64) := by simp [bvs, List.map_take]
              rw [hpb] at hvp
              have hpl : (L.take 64).length = 64 := by simp; omega
              have hcl := blocksI_length M k
              have hnew : addW (blocksI M k) (roundsI K (wordsW (L.take 64)) (blocksI M k) 64) 8 = blocksI M (k + 1) := by
                rw [blocksI, hkk.2.2, HK.out]; rfl
              have hKl' := hKl
              clear hkk
              generalize blocksI M k = s at *
              have hgw : ∀ b, blk (some ⟨ba, off, none⟩) = some b → b < wr.heap.size := fun b hb => by have := hG.out b hb; have := hF.ah.lt; omega
              have hi8' : (Try.prog.info? 58).map (·.size) = some (s.map uv).toArray.size := by rw [hi8]; simp [hcl]
              have hnl : (blocksI M (k + 1)).length = 8 := blocksI_length M (k + 1)
              have hi8n : (Try.prog.info? 58).map (·.size) = some ((blocksI M (k + 1)).map uv).toArray.size := by rw [hi8]; simp [hnl]
              generalize hsn : blocksI M (k + 1) = s' at *
              have HSN := Lib.hid hsn
              clear hsn
              have HNEW := Lib.hid hnew
              have HI8 := Lib.hid (And.intro hi8' (And.intro hi8n (And.intro hnl hcl)))
              clear hnew hi8' hi8n hnl hcl hpb hLl hKl'
              go_upto_region 11 with (fail)
              refine wp_region_plan_last [([0, 1, 2, 3], 4), ([], 5)] [] (fun w' => w'.heap[g5]? = some (.cells (s.map uv).toArray 58 (0, 0))) (by kernel_rfl) (by kernel_rfl) hF.ah ?_
              iterate 2
                refine plan_take (v := .agg (s.map uv).toArray) rfl rfl (fun w' hS => exec_load_row 58 (.tmp 5) rfl g5 _ 58 (0, 0) _ rfl hS Try.underlying58 rfl HI8.out.1) ?_
                simp only [Act.put, List.getElem_toArray, List.getElem_cons_zero, List.getElem_cons_succ, List.setIfInBounds_toArray, List.set_cons_zero, List.set_cons_succ]
              iterate 2
                refine plan_take (v := ?_) rfl rfl (fun w' hS => ?_) ?_
                rotate_left
                · skip
                  go_simp; try with_reducible rfl
                simp only [Act.put, List.getElem_toArray, List.getElem_cons_zero, List.getElem_cons_succ, List.setIfInBounds_toArray, List.set_cons_zero, List.set_cons_succ]
              refine plan_act rfl (fun KK hKK => ?_)
              go_wp2_with fail
              have hFd := hF.upd (Upd.drew (fun _ => False) wr)
              refine (mix_any s s K (some ⟨ba, off, none⟩) c' g6 (L.take 64) wr.drew (hvp.upd (Upd.drew (fun _ => False) _) (fun _ _ h => h)) hpl HI8.out.2.2.2 HI8.out.2.2.2 hKl (fun b hb => hgw b hb) hFd.ak).mono ?_
              rintro e w6 ⟨rfl, hU6⟩
              rw [HNEW.out]
              have hF6 := hFd.upd hU6
              have hv6 := hv.upd ((Upd.drew (fun _ => False) wr).trans hU6) (fun _ _ h => h)
              go_wp2_with fail
              refine hKK.out _ _ (.inr hF6.ah) ?_
              refine plan_act rfl (fun KK hKK => ?_)
              refine wpList_store_row rfl 58 (.tmp 5) (.tmp 45) rfl g5 (s'.map uv).toArray _ 58 rfl rfl hF6.ah HI8.out.2.1 (by simp [HI8.out.2.2.1, HI8.out.2.2.2]) (uvs_one _) ?_
              have hF7 := hF6.row5 H56.out.1 H56.out.2 s'
              have hv7 := hv6.setRow g5 (s'.map uv).toArray (fun k hk => hG.out k hk)
              go_wp2_with fail
              refine hKK.out _ _ (.inl rfl) ?_
              simp only [Act.put, List.getElem_toArray, List.getElem_cons_zero, List.getElem_cons_succ, List.setIfInBounds_toArray, List.set_cons_zero, List.set_cons_succ]
              refine plan_end ?_
              generalize w6.setRow g5 (s'.map uv).toArray = w7 at *
              obtain ⟨m2, hm2⟩ : ∃ m2, m = m2 + 64 := ⟨m - 64, by omega⟩
              obtain ⟨c2', hc2⟩ : ∃ c2, c' = c2 + 64 := ⟨c' - 64, by omega⟩
              have hs1 : IntKind.i64.wrap ((m : Int) - 64) = (m : Int) - 64 := IntWalk.i64_in _ (by omega)
              have hs2 : ((m : Int) - 64).toNat = m2 := by omega
              have hs3 : ((c' : Int) - 64).toNat = c2' := by omega
              have hpo := hv7.post 64 hm64
              rw [show 64 * 1 = 64 from rfl, show m - 64 = m2 from by omega, show c' - 64 = c2' from by omega, show (bvs L).drop 64 = bvs (L.drop 64) from by simp [bvs, List.map_drop]] at hpo
              have hkn : m2 + 64 * (k + 1) = M.length ∧ k + 1 ≤ N ∧ L.drop 64 = M.drop (64 * (k + 1)) := by
                obtain ⟨h1, h2, h3⟩ := hk.out
                exact ⟨by omega, by omega, by rw [h3, List.drop_drop]; rfl⟩
              have hml : m2 < m := by omega
              have HKN := Lib.hid hkn
              clear hkn hF hFd hF6 hv hv6 hvp hv7 hpl
              by_cases hcc : c' = 64
              · rw [if_pos hcc] at hpo
                go_wp2_with fail
                rw [← HSN.out] at hF7
                exact ⟨⟨k + 1, m2, _, _, c2', HKN.out, rfl, hpo, hG, hF7⟩, hml⟩
              · rw [if_neg hcc] at hpo
                have hcI : (64 : Int) < (c' : Int) := by omega
                go_wp2_with fail
                rw [← HSN.out] at hF7
                exact ⟨⟨k + 1, m2, _, _, c2', HKN.out, rfl, hpo, (fun g hg => hG.out g (by simpa [blk] using hg)), hF7⟩, hml⟩
            · obtain rfl : k = N := by omega
              obtain rfl : m = 0 := by have := HN.out; omega
              have hfin : blocksI M k = hashI l := by
                rw [hashI, ← HMP.out, HN.out, Nat.mul_div_cancel_left _ (by decide)]
              rw [hfin] at hF
              have hhl : (hashI l).length = 8 := blocksI_length _ _
              generalize hhs : hashI l = hs at *
              have HHS := Lib.hid hhs
              clear hkk hlt hfin hhs hcap hle hk hv hG
              go_wp2_with fail
              obtain ⟨w8, hw8⟩ : ∃ w8, wr.alloc (Obj.cells #[.int .u8 0, .int .u8 0, .int .u8 0, .int .u8 0, .int .u8 0, .int .u8 0, .int .u8 0, .int .u8 0, .int .u8 0, .int .u8 0, .int .u8 0, .int .u8 0, .int .u8 0, .int .u8 0, .int .u8 0, .int .u8 0, .int .u8 0, .int .u8 0, .int .u8 0, .int .u8 0, .int .u8 0, .int .u8 0, .int .u8 0, .int .u8 0, .int .u8 0, .int .u8 0, .int .u8 0, .int .u8 0, .int .u8 0, .int .u8 0, .int .u8 0, .int .u8 0] 47) = w8 := ⟨_, rfl⟩
              rw [hw8]
              have hF8 : Going w z0 g5 g6 K w8 hs := by rw [← hw8]; exact hF.upd (Upd.alloc _ _ _)
              have hO8 : Row32 w8 wr.heap.size (obs hs 0) := by rw [← hw8]; exact heap_alloc_new wr _
              have hg7 : g6 < wr.heap.size := hF.ak.lt
              generalize wr.heap.size = g7 at *
              have HG7 := Lib.hid hg7
              clear hg7 hw8 hF
              go_loopw [46] (fun i wx => ∃ n : Nat, n ≤ 32 ∧ i = .int .i64 (n : Int) ∧ Going w z0 g5 g6 K wx hs ∧ Row32 wx g7 (obs hs n)) (fun i _ => 32 - (intOf i).toNat)
              case atStart => exact ⟨0, by omega, rfl, hF8, hO8⟩
              case round =>
                clear hF8 hO8
                obtain ⟨n, hn, rfl, hF, hO⟩ := hrel
                by_cases hlt : n < 32
                · have hI : (n : Int) < 32 := by omega
                  have cH := hF.ah.cell (n / 4) (by omega)
                  obtain ⟨e, he⟩ : ∃ e, e = 24 - 8 * (n % 4) := ⟨_, rfl⟩
                  have h24 : 24 - (n : Int) % 4 * 8 = (e : Int) := by omega
                  have hf := hO.thaw n
                  have hc := hO.cell n (by rw [obs_length]; exact hlt)
                  have hnew : (obs hs n).set n (outB hs n) = obs hs (n + 1) := rfl
                  have hbv := outB_val hs n
                  generalize obs hs n = os at *
                  generalize hs.getD (n / 4) 0 = hw at *
                  have HBV := Lib.hid hbv
                  have HNEW := Lib.hid hnew
                  clear hbv hnew
                  go_upto_region 16 with (fail)
                  go_wp2_with fail
                  rw [HBV.out]
                  refine ⟨⟨n + 1, by omega, by first | rfl | go_num, ?_, ?_⟩, by simp [intOf]; omega⟩
                  · obtain ⟨h1, h2⟩ := H56.out
                    have h3 := HG7.out
                    exact ⟨(Below.heap_setCell _ _ _ _ (show w.heap.size ≠ g7 by omega)).trans hF.row, hF.ah.cell_ne n _ (by omega), hF.ak.cell_ne n _ (by omega), hF.up.trans (Upd.setCell (S := fun i => w.heap.size ≤ i) wr (p := ⟨g7, n, none⟩) (by show w.heap.size ≤ g7; omega) _)⟩
                  · rw [← HNEW.out]
                    exact hO.set n _
                · obtain rfl : n = 32 := by omega
                  have hi32 : (Try.prog.info? 47).map (·.size) = some 32 := by kernel_rfl
                  have hfin : obs hs 32 = sumL l := by rw [← HHS.out, obs_full]
                  rw [hfin] at hO
                  have hsl := sumL_length l
                  generalize hsr : sumL l = r at *
                  have HSR := Lib.hid hsr
                  have hiR : (Try.prog.info? 47).map (·.size) = some (bvs r).toArray.size := by rw [hi32]; simp [bvs, hsl]
                  clear hfin hsr hlt hn
                  have hrow := hF.row
                  go_upto_region 18 with (fail)
                  go_wp2_with (first
                    | ((with_reducible show wpList _ _ _ (Oper.mk _ (Op.load _ _) _ _ _ _ :: _) _ _); refine wpList_load_row rfl 47 (.tmp 7) rfl g7 (bvs r).toArray 47 (0, 0) _ rfl hO Try.underlying47 rfl hiR ?_)
                    | ((with_reducible show wpList _ _ _ (Oper.mk _ (Op.store _ _ _) _ _ _ _ :: _) _ _); refine wpList_store_row rfl 47 (.tmp 2) (.tmp 62) rfl w.heap.size (bvs r).toArray _ 47 rfl rfl hrow hiR (by simp [bvs, hsl, hz0s]) (by simp [bvs, bv, Value.oneCell']) ?_))
                  refine ret_row rfl w.heap.size (bvs r).toArray 47 (0, 0) _ rfl (setRow_heap _ _ _ _ _ _ hrow) Try.underlying47 rfl hiR rfl ⟨by rw [HSR.out], ?_⟩
                  exact (hF.up.trans (Upd.setRow (S := fun i => w.heap.size ≤ i) wr (by show w.heap.size ≤ w.heap.size; omega) _)).mono (fun i hi hs => by omega)
theorem sum_any (a : Option Addr) (c : Nat) (l : List UInt8) (w : World) (hv : Vw w a l.length c 1 (bvs l)) (hl : l.length ≤ 100000000) (hlb : ∀ b, blk a = some b → b < w.heap.size) :
    Calls Try.prog 21 #[.slice a l.length c] w fun e w' => e = .returned (.agg (bvs (sumL l)).toArray) ∧ Upd (fun _ => False) w w' := sum_any0 a c l w hv hl
end Go.Proofs.Yteefceainlfdfaa
