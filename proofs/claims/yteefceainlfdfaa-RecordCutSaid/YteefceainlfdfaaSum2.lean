
/- SHA-256: the name of bytes, as the reference reckons it. -/
import Derived.Test.YteefceainlfdfaaSum1
namespace Go.Proofs.Yteefceainlfdfaa
set_option linter.unusedSimpArgs false
set_option linter.unusedVariables false
open Go.ChangeShapes Go.WideShapes Go.ChangeAt Go.RowKit

theorem going_start2 {B : Nat} {w wr w4 : World} {z0 : Array Value} (F : Fill B w z0 wr) (hwB : w.heap.size < B) (c8 c64 : Array Value) (h0 K : List Int)
    (hU : Upd (fun _ => False) ((wr.alloc (Obj.cells c8 58)).setRow wr.heap.size (h0.map uv).toArray) w4) :
    Going w z0 wr.heap.size w4.heap.size K ((w4.alloc (Obj.cells c64 60)).setRow w4.heap.size (K.map uv).toArray) h0 ∧ wr.heap.size < w4.heap.size := by
  have h4 := F.le
  have hrow := F.row
  have hrlt := lt_of_heap hrow
  have hsz := hU.size
  simp at hsz
  have hlt : wr.heap.size < w4.heap.size := by omega
  have h8 : w4.heap[wr.heap.size]? = some (.cells (h0.map uv).toArray 58 (0, 0)) :=
    (hU.block _ (by simp) (fun h => h)).trans (setRow_heap _ _ _ _ _ _ (heap_alloc_new wr _))
  have hr : w4.heap[w.heap.size]? = some (.cells z0 47 (0, 0)) := by
    rw [hU.block _ (by simp; omega) (fun h => h), setRow_other _ _ _ _ (by omega), Below.heap_alloc _ _ _ hrlt]
    exact hrow
  refine ⟨⟨?_, ?_, ?_, ?_⟩, hlt⟩
  · rw [setRow_other _ _ _ _ (by omega), Below.heap_alloc _ _ _ (by omega)]
    exact hr
  · exact (setRow_other _ _ _ _ (by omega)).trans ((Below.heap_alloc _ _ _ hlt).trans h8)
  · exact setRow_heap _ _ _ _ _ _ (heap_alloc_new w4 _)
  · exact ((((F.up.trans (Upd.alloc _ _ _)).trans (Upd.setRow (S := fun i => w.heap.size ≤ i) _ (by show w.heap.size ≤ wr.heap.size; omega) _)).trans (hU.mono (fun _ _ h => h.elim))).trans (Upd.alloc _ _ _)).trans (Upd.setRow (S := fun i => w.heap.size ≤ i) _ (by show w.heap.size ≤ w4.heap.size; omega) _)
theorem vw_start2 {wr w4 : World} {a : Option Addr} {n c size : Nat} {xs : List Value} (hv : Vw wr a n c size xs) (hg : ∀ g, blk a = some g → g < wr.heap.size) (o8 o64 : Obj) (r8 r64 : Array Value)
    (hU : Upd (fun _ => False) ((wr.alloc o8).setRow wr.heap.size r8) w4) :
    Vw ((w4.alloc o64).setRow w4.heap.size r64) a n c size xs := by
  have hsz := hU.size
  simp at hsz
  exact ((((hv.allocd _).setRow _ _ hg).upd hU (fun _ _ h => h)).allocd _).setRow _ _ (fun k hk => by have := hg k hk; omega)

set_option maxRecDepth 100000 in
set_option maxHeartbeats 40000000 in
theorem refSum_any (a : Option Addr) (c : Nat) (l : List UInt8) (w : World) (hv : Vw w a l.length c 1 (bvs l)) (hl : l.length ≤ 100000000) (hlb : ∀ b, blk a = some b → b < w.heap.size) :
    Calls Try.prog 22 #[.slice a l.length c] w fun e w' => e = .returned (.agg (bvs (sumL l)).toArray) ∧ Upd (fun _ => False) w w' := by
  obtain ⟨i0, hi, hz0, hz1, hz2⟩ := info_parts infoU8
  go_enter Try.func22, Try.ntmps22
  go_upto_region 1 with (fail)
  obtain ⟨w1, hw1⟩ : ∃ w1, w.alloc (Obj.cells #[.int .u8 0, .int .u8 0, .int .u8 0, .int .u8 0, .int .u8 0, .int .u8 0, .int .u8 0, .int .u8 0, .int .u8 0, .int .u8 0, .int .u8 0, .int .u8 0, .int .u8 0, .int .u8 0, .int .u8 0, .int .u8 0, .int .u8 0, .int .u8 0, .int .u8 0, .int .u8 0, .int .u8 0, .int .u8 0, .int .u8 0, .int .u8 0, .int .u8 0, .int .u8 0, .int .u8 0, .int .u8 0, .int .u8 0, .int .u8 0, .int .u8 0, .int .u8 0] 47) = w1 := ⟨_, rfl⟩
  rw [hw1]
  have hR1 : w1.heap[w.heap.size]? = some (.cells #[.int .u8 0, .int .u8 0, .int .u8 0, .int .u8 0, .int .u8 0, .int .u8 0, .int .u8 0, .int .u8 0, .int .u8 0, .int .u8 0, .int .u8 0, .int .u8 0, .int .u8 0, .int .u8 0, .int .u8 0, .int .u8 0, .int .u8 0, .int .u8 0, .int .u8 0, .int .u8 0, .int .u8 0, .int .u8 0, .int .u8 0, .int .u8 0, .int .u8 0, .int .u8 0, .int .u8 0, .int .u8 0, .int .u8 0, .int .u8 0, .int .u8 0, .int .u8 0] 47 (0, 0)) := by rw [← hw1]; exact heap_alloc_new _ _
  have hU1 : Upd (fun i => w.heap.size ≤ i) w w1 := by rw [← hw1]; exact Upd.alloc _ _ _
  have hz1' : w1.heap.size = w.heap.size + 1 := by rw [← hw1]; simp
  clear hw1
  obtain ⟨B, hB⟩ : ∃ B, B = w1.heap.size := ⟨_, rfl⟩
  have hv1 : Vw w1 a l.length c 1 (bvs l) := hv.upd hU1 (fun k hk => by have := hlb k hk; omega)
  obtain ⟨z0, hz0'⟩ : ∃ z0, (#[.int .u8 0, .int .u8 0, .int .u8 0, .int .u8 0, .int .u8 0, .int .u8 0, .int .u8 0, .int .u8 0, .int .u8 0, .int .u8 0, .int .u8 0, .int .u8 0, .int .u8 0, .int .u8 0, .int .u8 0, .int .u8 0, .int .u8 0, .int .u8 0, .int .u8 0, .int .u8 0, .int .u8 0, .int .u8 0, .int .u8 0, .int .u8 0, .int .u8 0, .int .u8 0, .int .u8 0, .int .u8 0, .int .u8 0, .int .u8 0, .int .u8 0, .int .u8 0] : Array Value) = z0 := ⟨_, rfl⟩
  have hz0s : z0.size = 32 := by rw [← hz0']; rfl
  rw [hz0'] at hR1
  have HZ0 := Lib.hid hz0'
  clear hz0'
  have hsrc := hv1.src (P := Try.prog) (t := 22) Try.underlying22 (bvs_cells l)
  go_wp2_with (at_builtin; refine wpList_app _ rfl (.const (.slice none 0 0)) (.tmp 11) 22 22 rfl 5 i0 (.int .u8 0) 1 1 Try.underlying22 hi hz0 hz1 hz2 rfl none 0 0 [] rfl (World.ownsRow_nil _ _ _ _) (.slice a l.length c) l.length (bvs l) rfl hsrc ?_ ?_ ?_)
  · unfold maxLen; omega
  · omega
  intro a' c' wr hown hg1 hat1 hnil1
  try simp only [Nat.zero_add, List.nil_append] at hown
  have hUc : Upd (fun _ => False) w1 wr := Upd.grown hg1 (fun k hk => by cases hk)
  have hG : ∀ g, blk a' = some g → w1.heap.size ≤ g := by
    intro g hg'
    rcases hat1 with h | h
    · rw [h] at hg'; cases hg'
    · rw [h] at hg'; cases hg'; first | exact Nat.le_refl _ | omega
  have hzc := hUc.size
  have hRw := (hUc.block w.heap.size (by omega) (fun h => h)).trans hR1
  have hUw : Upd (fun i => w.heap.size ≤ i) w wr := hU1.trans (hUc.mono (fun _ _ h => h.elim))
  rw [← hB] at hG
  have hBw : B ≤ wr.heap.size := by omega
  try simp only [Nat.zero_add]
  clear hv1 hU1 hUc hR1 hsrc hnil1 hat1 hg1
  have hown' := hown.alloc (Obj.cells #[.int .u8 128] 5)
  have hnew : (wr.alloc (Obj.cells #[.int .u8 128] 5)).heap[wr.heap.size]? = _ := heap_alloc_new wr _
  have hsr : Src Try.prog 1 22 (.slice (some ⟨wr.heap.size, 0, none⟩) 1 1) 1 [.int .u8 128] (wr.alloc (Obj.cells #[.int .u8 128] 5)) :=
    Src.ofSlice _ Try.underlying22 _ 1 1 _ rfl (World.news_of_block hnew) (fun u hu => by simp at hu; subst hu; rfl)
  clear hnew
  go_wp2_with (at_builtin; refine wpList_app _ rfl (.tmp 12) (.tmp 13) 22 22 rfl 5 i0 (.int .u8 0) 1 1 Try.underlying22 hi hz0 hz1 hz2 rfl a' l.length c' (bvs l) rfl hown' (.slice (some ⟨wr.heap.size, 0, none⟩) 1 1) 1 _ rfl hsr ?_ ?_ ?_)
  · unfold maxLen; omega
  · omega
  intro a2 c2 w2 hown2 hg2 hat2 hnil2
  obtain ⟨hB2, hU2⟩ := Buf.app (x := 128) hG hBw (by first | rfl | simp [bv]) hown2 hg2 hat2
  clear hown' hsr hnil2 hg2 hat2 hown2
  have hF : Fill B w z0 wr := ⟨hRw, hUw, hBw⟩
  have hwB : w.heap.size < B := by omega
  have hF2 := hF.upd hwB hU2
  clear hF hRw hUw hBw hU2 hown hG hzc hz1'
  have HB := Lib.hid hB
  clear hB
  go_wp2_with fail
  go_loopw [3] (fun v wx => ∃ (j : Nat) (L : List UInt8), j ≤ zer l.length ∧ Hid (L = l ++ [128] ++ List.replicate j 0) ∧ L.length = l.length + 1 + j ∧ Buf B wx v L ∧ Fill B w z0 wx) (fun v _ => zer l.length + l.length + 1 - lenOf v)
  case atStart => exact ⟨0, l ++ [128], Nat.zero_le _, (by show _ = _; simp), by simp, hB2, hF2⟩
  case round =>
    clear hB2 hF2
    obtain ⟨j, L, hj, hL, hlen, ⟨a', c', rfl, hown, hG⟩, hF⟩ := hrel
    have hzl : zer l.length ≤ 63 := by unfold zer; omega
    have hBw := hF.le
    by_cases hlt : j < zer l.length
    · have hmod : (((L.length : Nat) : Int) % 64 != 56) = true := by
        have : ((L.length : Nat) : Int) % 64 ≠ 56 := by unfold zer at hlt; omega
        simpa using this
      have hlL : L.length ≤ 100000064 := by omega
      have HLEN := Lib.hid hlen
      clear hlen
      have hown' := hown.alloc (Obj.cells #[.int .u8 0] 5)
      have hnew : (wr.alloc (Obj.cells #[.int .u8 0] 5)).heap[wr.heap.size]? = _ := heap_alloc_new wr _
      have hsr : Src Try.prog 1 22 (.slice (some ⟨wr.heap.size, 0, none⟩) 1 1) 1 [.int .u8 0] (wr.alloc (Obj.cells #[.int .u8 0] 5)) :=
        Src.ofSlice _ Try.underlying22 _ 1 1 _ rfl (World.news_of_block hnew) (fun u hu => by simp at hu; subst hu; rfl)
      clear hnew
      go_wp2_with (at_builtin; refine wpList_app _ rfl (.tmp 19) (.tmp 20) 22 22 rfl 5 i0 (.int .u8 0) 1 1 Try.underlying22 hi hz0 hz1 hz2 rfl a' L.length c' (bvs L) rfl hown' (.slice (some ⟨wr.heap.size, 0, none⟩) 1 1) 1 _ rfl hsr ?_ ?_ ?_)
      · unfold maxLen; omega
      · omega
      intro a2 c2 w2 hown2 hg2 hat2 hnil2
      obtain ⟨hB2, hU2⟩ := Buf.app (x := 0) hG hBw (by first | rfl | simp [bv]) hown2 hg2 hat2
      clear hown' hsr hnil2 hg2 hat2 hown2
      have hF2 := hF.upd hwB hU2
      have hL2 : L ++ [0] = l ++ [128] ++ List.replicate (j + 1) 0 := by rw [hL.out, List.replicate_succ', ← List.append_assoc]
      have hlen2 : (L ++ [0]).length = l.length + 1 + (j + 1) := by have := HLEN.out; simp; omega
      have hml : zer l.length + l.length + 1 - lenOf (.slice a2 (L.length + 1) c2) < zer l.length + l.length + 1 - lenOf (.slice a' L.length c') := by
        have := HLEN.out
        simp only [lenOf]; omega
      clear hF hown hG hU2
      go_wp2_with fail
      go_roundw
      case rel => exact ⟨j + 1, L ++ [0], by omega, hL2, hlen2, hB2, hF2⟩
      case measure => exact hml
    · obtain rfl : j = zer l.length := by omega
      have hmod : (((L.length : Nat) : Int) % 64 != 56) = false := by
        have : ((L.length : Nat) : Int) % 64 = 56 := by unfold zer at hlen; omega
        simpa using this
      have hlL : L.length ≤ 100000064 := by omega
      have HLEN := Lib.hid hlen
      clear hlen hlt hj
      go_wp2_with fail
      clear hmod
      have HL := hL
      clear hL hzl
      go_loopw [3, 5] (fun v i wx => ∃ (j : Nat) (M : List UInt8), j ≤ 8 ∧ i = .int .i64 (7 - (j : Int)) ∧ Hid (M = L ++ beL (l.length * 8) j) ∧ M.length = L.length + j ∧ Buf B wx v M ∧ Fill B w z0 wx) (fun _ i _ => (8 + intOf i).toNat)
      case atStart => exact ⟨0, L, by omega, rfl, (by show _ = _; simp [beL]), by simp, ⟨a', c', rfl, hown, hG⟩, hF⟩
      case round =>
        clear hown hG hF
        obtain ⟨j, M, hj, rfl, hM, hlen, ⟨a', c', rfl, hown, hG⟩, hF⟩ := hrel
        have hBw := hF.le
        by_cases hlt : j < 8
        · obtain ⟨m, hm⟩ : ∃ m : Nat, m + j = 7 := ⟨7 - j, by omega⟩
          have hk : (7 : Int) - (j : Int) = (m : Int) := by omega
          rw [hk]
          have h0 : (0 : Int) ≤ (m : Int) := by omega
          have h8 : IntKind.i64.wrap (8 * (m : Int)) = 8 * (m : Int) := IntWalk.i64_in _ (by omega)
          have h80 : (0 : Int) ≤ 8 * (m : Int) := by omega
          have hlM : M.length ≤ 100000072 := by omega
          have HK := Lib.hid hk
          have HLM := Lib.hid hlen
          clear hk hlen hlt
          have hbv : Value.int IntKind.u8 ((l.length : Int) * 8 / 2 ^ (8 * m) % 256) = bv (UInt8.ofNat (l.length * 8 / 256 ^ m)) := by
            have := byte_of (l.length * 8) m
            rw [← this]
            congr 3
          have HBV := Lib.hid hbv
          clear hbv
          have hown' := hown.alloc (Obj.cells #[.int .u8 ((l.length : Int) * 8 / 2 ^ (8 * m) % 256)] 5)
          have hnew : (wr.alloc (Obj.cells #[.int .u8 ((l.length : Int) * 8 / 2 ^ (8 * m) % 256)] 5)).heap[wr.heap.size]? = _ := heap_alloc_new wr _
          have hsr : Src Try.prog 1 22 (.slice (some ⟨wr.heap.size, 0, none⟩) 1 1) 1 [.int .u8 ((l.length : Int) * 8 / 2 ^ (8 * m) % 256)] (wr.alloc (Obj.cells #[.int .u8 ((l.length : Int) * 8 / 2 ^ (8 * m) % 256)] 5)) :=
            Src.ofSlice _ Try.underlying22 _ 1 1 _ rfl (World.news_of_block hnew) (fun u hu => by simp at hu; subst hu; rfl)
          clear hnew
          go_wp2_with (at_builtin; refine wpList_app _ rfl (.tmp 30) (.tmp 37) 22 22 rfl 5 i0 (.int .u8 0) 1 1 Try.underlying22 hi hz0 hz1 hz2 rfl a' M.length c' (bvs M) rfl hown' (.slice (some ⟨wr.heap.size, 0, none⟩) 1 1) 1 _ rfl hsr ?_ ?_ ?_)
          · unfold maxLen; omega
          · omega
          intro a2 c2 w2 hown2 hg2 hat2 hnil2
          obtain ⟨hB2, hU2⟩ := Buf.app (x := UInt8.ofNat (l.length * 8 / 256 ^ m)) hG hBw (by rw [HBV.out]) hown2 hg2 hat2
          clear hown' hsr hnil2 hg2 hat2 hown2
          have hF2 := hF.upd hwB hU2
          have hM2 : M ++ [UInt8.ofNat (l.length * 8 / 256 ^ m)] = L ++ beL (l.length * 8) (j + 1) := by
            rw [hM.out, beL, show 7 - j = m from by omega, ← List.append_assoc]
          have hlen2 : (M ++ [UInt8.ofNat (l.length * 8 / 256 ^ m)]).length = L.length + (j + 1) := by have := HLM.out; simp; omega
          have hk2 : (m : Int) - 1 = 7 - ((j + 1 : Nat) : Int) := by have := HK.out; omega
          have hml : (8 + ((m : Int) - 1)).toNat < (8 + (m : Int)).toNat := by omega
          have hw8 : IntKind.i64.wrap ((m : Int) - 1) = (m : Int) - 1 := IntWalk.i64_in _ (by omega)
          have HK2 := Lib.hid hk2
          clear hF hown hG hU2 hk2
          go_wp2_with fail
          go_roundw
          case rel => exact ⟨j + 1, _, by omega, (by rw [← HK2.out]), hM2, hlen2, hB2, hF2⟩
          case measure => exact hml
        · obtain rfl : j = 8 := by omega
          have hMp : M = padL l := by rw [hM.out, HL.out]; rfl
          obtain ⟨N, hN, hN2⟩ := padL_length l
          rw [← hMp] at hN
          have HMP := Lib.hid hMp
          have hlM : M.length ≤ 100000072 := by omega
          have HN := Lib.hid hN
          clear hN
          have hv3 : Vw wr a' M.length c' 1 (bvs M) := Vw.of_own hown
          have hgb : ∀ g, blk a' = some g → g < wr.heap.size := fun g hg => by
            rcases hown.2 with ⟨h, h'⟩ | ⟨g', cap, cur, h, _, hgg, _⟩
            · simp only [Value.slice.injEq] at h; rw [h.1] at hg; cases hg
            · simp only [Value.slice.injEq] at h; rw [h.1] at hg; cases hg; exact lt_of_heap hgg
          clear hMp hlen hj hlt hown hM hN2
          rw [show (7 : Int) - ((8 : Nat) : Int) = -1 from by omega]
          have hi8 : (Try.prog.info? 58).map (·.size) = some 8 := by kernel_rfl
          have hi64 : (Try.prog.info? 60).map (·.size) = some (K64.map uv).toArray.size := by
            rw [show (Try.prog.info? 60).map (·.size) = some 64 from by kernel_rfl]; simp [K64_length]
          go_upto_region 10 with ((with_reducible show wpList _ _ _ (Oper.mk _ (Op.store _ _ _) _ _ _ _ :: _) _ _); refine wpList_store_row rfl 58 (.tmp 6) (.tmp 39) rfl wr.heap.size (H8.map uv).toArray _ 58 rfl (by refine congrArg Value.agg ?_; kernel_rfl) (heap_alloc_new _ _) (by rw [hi8]; simp [H8_length]) (by simp [H8_length]) (uvs_one _) ?_)
          obtain ⟨h0, hh0⟩ : ∃ h0, blocksI M 0 = h0 := ⟨_, rfl⟩
          have hh0l : h0.length = 8 := by rw [← hh0]; rfl
          rw [show H8 = h0 from hh0]
          have HH0 := Lib.hid hh0
          obtain ⟨r8, hr8⟩ : ∃ r8, (h0.map uv).toArray = r8 := ⟨_, rfl⟩
          rw [hr8]
          have HR8 := Lib.hid hr8
          clear hh0 hr8
          go_wp2_with fail
          refine (reffirsts_any _).mono ?_
          obtain ⟨K, hK⟩ : ∃ K, K64 = K := ⟨_, rfl⟩
          have hKl : K.length = 64 := by rw [← hK]; rfl
          rw [hK] at hi64 ⊢
          have HK := Lib.hid hK
          obtain ⟨K0, hK0⟩ : ∃ K0, (K.map uv).toArray = K0 := ⟨_, rfl⟩
          have hO0 := uvs_one K
          have hS0 : K0.size = 64 := by rw [← hK0]; simp [hKl]
          rw [hK0] at hi64 hO0 ⊢
          have HK0 := Lib.hid hK0
          rintro e w4 ⟨rfl, hU4⟩
          clear hK hK0
          go_upto_region 11 with ((with_reducible show wpList _ _ _ (Oper.mk _ (Op.store _ _ _) _ _ _ _ :: _) _ _); refine wpList_store_row rfl 60 (.tmp 7) (.tmp 40) rfl w4.heap.size K0 _ 60 rfl rfl (heap_alloc_new _ _) hi64 (by simp [hS0]) hO0 ?_)
          simp only [Act.put, List.getElem_toArray, List.getElem_cons_zero, List.getElem_cons_succ, List.setIfInBounds_toArray, List.set_cons_zero, List.set_cons_succ]
          obtain ⟨w5, hw5⟩ : ∃ w5, ((w4.alloc (Obj.cells #[.int .u32 0, .int .u32 0, .int .u32 0, .int .u32 0, .int .u32 0, .int .u32 0, .int .u32 0, .int .u32 0, .int .u32 0, .int .u32 0, .int .u32 0, .int .u32 0, .int .u32 0, .int .u32 0, .int .u32 0, .int .u32 0, .int .u32 0, .int .u32 0, .int .u32 0, .int .u32 0, .int .u32 0, .int .u32 0, .int .u32 0, .int .u32 0, .int .u32 0, .int .u32 0, .int .u32 0, .int .u32 0, .int .u32 0, .int .u32 0, .int .u32 0, .int .u32 0, .int .u32 0, .int .u32 0, .int .u32 0, .int .u32 0, .int .u32 0, .int .u32 0, .int .u32 0, .int .u32 0, .int .u32 0, .int .u32 0, .int .u32 0, .int .u32 0, .int .u32 0, .int .u32 0, .int .u32 0, .int .u32 0, .int .u32 0, .int .u32 0, .int .u32 0, .int .u32 0, .int .u32 0, .int .u32 0, .int .u32 0, .int .u32 0, .int .u32 0, .int .u32 0, .int .u32 0, .int .u32 0, .int .u32 0, .int .u32 0, .int .u32 0, .int .u32 0] 60)).setRow w4.heap.size K0) = w5 := ⟨_, rfl⟩
          rw [hw5]
          have hF5x : Going w z0 wr.heap.size w4.heap.size K w5 (blocksI M 0) ∧ wr.heap.size < w4.heap.size := by
            rw [← hw5, HH0.out, ← HK0.out]
            rw [← HR8.out] at hU4
            exact going_start2 hF hwB _ _ h0 K hU4
          have hv5 : Vw w5 a' M.length c' 1 (bvs M) := by
            rw [← hw5]
            exact vw_start2 hv3 hgb _ _ _ _ hU4
          have h5 : w.heap.size < wr.heap.size := by have := lt_of_heap hF.row; omega
          have h56 := hF5x.2
          have hF5 := hF5x.1
          clear hF5x
          clear hw5 hF hv3 hU4
          generalize w4.heap.size = g6 at *
          generalize wr.heap.size = g5 at *
          have HG := Lib.hid hgb
          have H56 := Lib.hid (And.intro h5 h56)
          clear hgb h5 h56
          go_wp2_with fail
          clear HR8 hBw
          go_loopw [8] (fun i wx => ∃ (k p : Nat), Hid (p = 64 * k ∧ k ≤ N) ∧ i = .int .i64 (p : Int) ∧ Vw wx a' M.length c' 1 (bvs M) ∧ Going w z0 g5 g6 K wx (blocksI M k)) (fun i _ => M.length - (intOf i).toNat)
          case atStart => exact ⟨0, 0, (by show _ ∧ _; exact ⟨rfl, Nat.zero_le _⟩), rfl, hv5, hF5⟩
          case round =>
            clear hF5 hv5
            obtain ⟨k, p, hk, rfl, hv, hF⟩ := hrel
            have hcap := hv.cap
            have hle := hv.le
            unfold maxLen at hcap
            have hkk := hk.out
            by_cases hlt : k < N
            · have hpM : p + 64 ≤ M.length := by have := HN.out; omega
              obtain ⟨ba, off, hba, _⟩ := hv.at (by omega) (by decide)
              subst hba
              have hpI : (p : Int) < (M.length : Int) := by omega
              have hp0 : (0 : Int) ≤ (p : Int) + 64 := by omega
              have hpc : (p : Int) < (c' : Int) := by omega
              have hpc2 : (p : Int) + 64 ≤ (c' : Int) := by omega
              have hpw : IntKind.i64.wrap ((p : Int) + 64) = (p : Int) + 64 := IntWalk.i64_in _ (by omega)
              have hp1 : ((p : Int) + 64 - (p : Int)).toNat = 64 := by omega
              have hp2 : ((c' : Int) - (p : Int)).toNat = c' - p := by omega
              have hp3 : (p : Int) ≤ (p : Int) + 64 := by omega
              have hvq : Vw wr (some ⟨ba, off + p, none⟩) 64 (c' - p) 1 (bvs ((M.drop p).take 64)) := by
                have := hv.part p (p + 64) c' (by omega) (by omega) (Nat.le_refl _) (by omega)
                rw [if_neg (by omega), show p + 64 - p = 64 from by omega, show (some (⟨ba, off, none⟩ : Addr)).map (·.add (p * 1)) = some ⟨ba, off + p, none⟩ from by show some (Addr.add ⟨ba, off, none⟩ (p * 1)) = _; rw [Addr.add_mid, Nat.mul_one]] at this
                simpa [bvs, List.map_take, List.map_drop] using this
              have hpl : ((M.drop p).take 64).length = 64 := by simp; omega
              have hcl := blocksI_length M k
              have hnew : blockI K (blocksI M k) ((M.drop p).take 64) = blocksI M (k + 1) := by
                rw [blocksI, hkk.1, HK.out]
              have hi8' : (Try.prog.info? 58).map (·.size) = some ((blocksI M k).map uv).toArray.size := by rw [hi8]; simp [hcl]
              have hnl : (blocksI M (k + 1)).length = 8 := blocksI_length M (k + 1)
              have hi8n : (Try.prog.info? 58).map (·.size) = some ((blocksI M (k + 1)).map uv).toArray.size := by rw [hi8]; simp [hnl]
              generalize blocksI M k = s at *
              generalize hsn : blocksI M (k + 1) = s' at *
              have HSN := Lib.hid hsn
              have HNEW := Lib.hid hnew
              have HI8 := Lib.hid (And.intro hi8' (And.intro hi8n (And.intro hnl hcl)))
              have hak : wr.heap[g6]? = some (.cells K0 60 (0, 0)) := by rw [← HK0.out]; exact hF.ak
              have hkn : p + 64 = 64 * (k + 1) ∧ k + 1 ≤ N := ⟨by omega, by omega⟩
              have hml : M.length - (p + 64) < M.length - p := by omega
              have HKN := Lib.hid hkn
              clear hsn hnew hi8' hi8n hnl hcl hkk hkn hlt
              go_upto_region 14 with (fail)
              refine wp_region_plan_last [([0, 1, 2, 3, 4, 5, 6], 7), ([], 8)] [] (fun w' => w'.heap[g5]? = some (.cells (s.map uv).toArray 58 (0, 0)) ∧ w'.heap[g6]? = some (.cells K0 60 (0, 0))) (by kernel_rfl) (by kernel_rfl) ⟨hF.ah, hak⟩ ?_
              refine plan_take (v := .agg (s.map uv).toArray) rfl rfl (fun w' hS => exec_load_row 58 (.tmp 6) rfl g5 _ 58 (0, 0) _ rfl hS.1 Try.underlying58 rfl HI8.out.1) ?_
              simp only [Act.put, List.getElem_toArray, List.getElem_cons_zero, List.getElem_cons_succ, List.setIfInBounds_toArray, List.set_cons_zero, List.set_cons_succ]
              iterate 5
                refine plan_take (v := ?_) rfl rfl (fun w' hS => ?_) ?_
                rotate_left
                · skip
                  go_simp; try with_reducible rfl
                simp only [Act.put, List.getElem_toArray, List.getElem_cons_zero, List.getElem_cons_succ, List.setIfInBounds_toArray, List.set_cons_zero, List.set_cons_succ]
              refine plan_take (v := .agg K0) rfl rfl (fun w' hS => exec_load_row 60 (.tmp 7) rfl g6 _ 60 (0, 0) _ rfl hS.2 Try.underlying60 rfl hi64) ?_
              simp only [Act.put, List.getElem_toArray, List.getElem_cons_zero, List.getElem_cons_succ, List.setIfInBounds_toArray, List.set_cons_zero, List.set_cons_succ]
              refine plan_act rfl (fun KK hKK => ?_)
              go_wp2_with fail
              have hFd := hF.upd (Upd.drew (fun _ => False) wr)
              have hcall := block_any s K (some ⟨ba, off + p, none⟩) (c' - p) ((M.drop p).take 64) wr.drew (hvq.upd (Upd.drew (fun _ => False) _) (fun _ _ h => h)) hpl HI8.out.2.2.2 hKl (fun b hb => by
                have := HG.out b (by simpa [blk] using hb)
                have := hF.ah.lt
                show b < wr.heap.size
                omega)
              rw [HK0.out] at hcall
              refine hcall.mono ?_
              rintro e w6 ⟨rfl, hU6⟩
              rw [HNEW.out]
              have hF6 := hFd.upd hU6
              have hv6 := hv.upd ((Upd.drew (fun _ => False) wr).trans hU6) (fun _ _ h => h)
              go_wp2_with fail
              refine hKK.out _ _ (.inr ⟨hF6.ah, by rw [← HK0.out]; exact hF6.ak⟩) ?_
              refine plan_act rfl (fun KK hKK => ?_)
              refine wpList_store_row rfl 58 (.tmp 6) (.tmp 54) rfl g5 (s'.map uv).toArray _ 58 rfl rfl hF6.ah HI8.out.2.1 (by simp [HI8.out.2.2.1, HI8.out.2.2.2]) (uvs_one _) ?_
              have hF7 := hF6.row5 H56.out.1 H56.out.2 s'
              have hv7 := hv6.setRow g5 (s'.map uv).toArray (fun k hk => HG.out k hk)
              go_wp2_with fail
              refine hKK.out _ _ (.inl rfl) ?_
              simp only [Act.put, List.getElem_toArray, List.getElem_cons_zero, List.getElem_cons_succ, List.setIfInBounds_toArray, List.set_cons_zero, List.set_cons_succ]
              refine plan_end ?_
              generalize w6.setRow g5 (s'.map uv).toArray = w7 at *
              clear hcall hF hFd hF6 hv hv6 hvq hpl hak
              rw [← HSN.out] at hF7
              go_wp2_with fail
              exact ⟨⟨k + 1, p + 64, HKN.out, by first | rfl | go_num, hv7, hF7⟩, by simp [intOf]; omega⟩
            · obtain rfl : k = N := by omega
              obtain rfl : p = M.length := by rw [hkk.1, HN.out]
              have hfin : blocksI M k = hashI l := by
                rw [hashI, ← HMP.out, HN.out, Nat.mul_div_cancel_left _ (by decide)]
              rw [hfin] at hF
              have hhl : (hashI l).length = 8 := blocksI_length _ _
              generalize hhs : hashI l = hs at *
              have HHS := Lib.hid hhs
              clear hkk hlt hfin hhs hcap hle hk hv
              go_wp2_with fail
              obtain ⟨w8, hw8⟩ : ∃ w8, wr.alloc (Obj.cells #[.int .u8 0, .int .u8 0, .int .u8 0, .int .u8 0, .int .u8 0, .int .u8 0, .int .u8 0, .int .u8 0, .int .u8 0, .int .u8 0, .int .u8 0, .int .u8 0, .int .u8 0, .int .u8 0, .int .u8 0, .int .u8 0, .int .u8 0, .int .u8 0, .int .u8 0, .int .u8 0, .int .u8 0, .int .u8 0, .int .u8 0, .int .u8 0, .int .u8 0, .int .u8 0, .int .u8 0, .int .u8 0, .int .u8 0, .int .u8 0, .int .u8 0, .int .u8 0] 47) = w8 := ⟨_, rfl⟩
              rw [hw8]
              have hF8 : Going w z0 g5 g6 K w8 hs := by rw [← hw8]; exact hF.upd (Upd.alloc _ _ _)
              have hO8 : Row32 w8 wr.heap.size (obs hs 0) := by rw [← hw8]; exact heap_alloc_new wr _
              have hg7 : g6 < wr.heap.size := hF.ak.lt
              generalize wr.heap.size = g7 at *
              have HG7 := Lib.hid hg7
              clear hg7 hw8 hF
              go_loopw [10] (fun i wx => ∃ n : Nat, n ≤ 32 ∧ i = .int .i64 (n : Int) ∧ Going w z0 g5 g6 K wx hs ∧ Row32 wx g7 (obs hs n)) (fun i _ => 32 - (intOf i).toNat)
              case atStart => exact ⟨0, by omega, rfl, hF8, hO8⟩
              case round =>
                clear hF8 hO8
                obtain ⟨n, hn, rfl, hF, hO⟩ := hrel
                by_cases hlt : n < 32
                · have hI : (n : Int) < 32 := by omega
                  have cH := hF.ah.cell (n / 4) (by omega)
                  obtain ⟨e, he⟩ : ∃ e, e = 24 - 8 * (n % 4) := ⟨_, rfl⟩
                  have h24 : 24 - (n : Int) % 4 * 8 = (e : Int) := by omega
                  have hf := hO.thaw n
                  have hc := hO.cell n (by rw [obs_length]; exact hlt)
                  have hnew : (obs hs n).set n (outB hs n) = obs hs (n + 1) := rfl
                  have hbv := outB_val hs n
                  generalize obs hs n = os at *
                  generalize hs.getD (n / 4) 0 = hw at *
                  have HBV := Lib.hid hbv
                  have HNEW := Lib.hid hnew
                  clear hbv hnew
                  go_upto_region 19 with (fail)
                  go_wp2_with fail
                  rw [HBV.out]
                  refine ⟨⟨n + 1, by omega, by first | rfl | go_num, ?_, ?_⟩, by simp [intOf]; omega⟩
                  · obtain ⟨h1, h2⟩ := H56.out
                    have h3 := HG7.out
                    exact ⟨(Below.heap_setCell _ _ _ _ (show w.heap.size ≠ g7 by omega)).trans hF.row, hF.ah.cell_ne n _ (by omega), hF.ak.cell_ne n _ (by omega), hF.up.trans (Upd.setCell (S := fun i => w.heap.size ≤ i) wr (p := ⟨g7, n, none⟩) (by show w.heap.size ≤ g7; omega) _)⟩
                  · rw [← HNEW.out]
                    exact hO.set n _
                · obtain rfl : n = 32 := by omega
                  have hi32 : (Try.prog.info? 47).map (·.size) = some 32 := by kernel_rfl
                  have hfin : obs hs 32 = sumL l := by rw [← HHS.out, obs_full]
                  rw [hfin] at hO
                  have hsl := sumL_length l
                  generalize hsr : sumL l = r at *
                  have HSR := Lib.hid hsr
                  have hiR : (Try.prog.info? 47).map (·.size) = some (bvs r).toArray.size := by rw [hi32]; simp [bvs, hsl]
                  clear hfin hsr hlt hn
                  have hrow := hF.row
                  go_upto_region 20 with (fail)
                  go_wp2_with (first
                    | ((with_reducible show wpList _ _ _ (Oper.mk _ (Op.load _ _) _ _ _ _ :: _) _ _); refine wpList_load_row rfl 47 (.tmp 9) rfl g7 (bvs r).toArray 47 (0, 0) _ rfl hO Try.underlying47 rfl hiR ?_)
                    | ((with_reducible show wpList _ _ _ (Oper.mk _ (Op.store _ _ _) _ _ _ _ :: _) _ _); refine wpList_store_row rfl 47 (.tmp 2) (.tmp 72) rfl w.heap.size (bvs r).toArray _ 47 rfl rfl hrow hiR (by simp [bvs, hsl, hz0s]) (by simp [bvs, bv, Value.oneCell']) ?_))
                  refine ret_row rfl w.heap.size (bvs r).toArray 47 (0, 0) _ rfl (setRow_heap _ _ _ _ _ _ hrow) Try.underlying47 rfl hiR rfl ⟨by rw [HSR.out], ?_⟩
                  exact (hF.up.trans (Upd.setRow (S := fun i => w.heap.size ≤ i) wr (by show w.heap.size ≤ w.heap.size; omega) _)).mono (fun i hi hs => by omega)
end Go.Proofs.Yteefceainlfdfaa
