/- The walk of DigestLong. -/
import Derived.Test.YtafkcmgfkecljaaDigestOrderWalk
import Derived.Test.YtafkcmgfkecljaaLane6
import Derived.Test.YtafkcmgfkecljaaFork
import Derived.Deep.OwnRows
namespace Go.Proofs.Ytafkcmgfkecljaa
set_option linter.unusedSimpArgs false
set_option linter.unusedVariables false
open Go.ChangeShapes Go.WideShapes Go.ChangeAt Go.RowKit

theorem wpList_appG {P : Program} (w : World) {ops : Array Oper} {rest : List Oper} {o : Oper} {ac : Act} {Q : Exit → Act → World → Prop} (hgd : Region.wanted o (yielded ops ac.tmps) = true) (s xo : Operand) (t tx : TypeId)
    (ho : o.op = .call { callee := .builtin .append, args := #[s, xo], argTypes := #[t, tx] })
    (e : TypeId) (i : TypeInfo) (z : Value) (size bytes : Nat) (ht : P.underlying t = some (.slice e)) (hi : P.info? e = some i) (hz : i.zero = some z)
    (hsize : i.size = size) (hby : i.bytes = bytes) (hzs : z.cells.size = size)
    (a : Option Addr) (n c : Nat) (xs : List Value) (hev : ac.eval s = .slice a n c) (hown : w.ownsRow 0 e size (.slice a n c) n xs) (x : Value) (m : Nat) (news : List Value) (hx : ac.eval xo = x) (hs : Src P size tx x m news w)
    (h63 : n + m ≤ maxLen) (hbytes : (n + m) * bytes ≤ 140737488355328)
    (h : ∀ a' c' w', w'.ownsRow 0 e size (.slice a' (n + m) c') (n + m) (xs ++ news) → w.grownBy w' (blk a) → (blk a' = blk a ∨ blk a' = some w.heap.size) → (a' = none ↔ a = none ∧ m = 0) →
      wpList P ops Q rest (ac.put o.dst (.slice a' (n + m) c')) w') : wpList P ops Q (o :: rest) ac w := by
  obtain ⟨a', c', w', hr, h2, h3, h4, h5⟩ := run_app (P := P) w t tx o.type e i z size bytes ht hi hz hsize hby hzs a n c xs hown x m news hs h63 hbytes
  simp only [wpList, hgd, if_true]
  refine .inl ?_
  unfold Oper.wp execOp
  simp only [ho, resolve, invoke, builtin, Sem.run_bind, Sem.run_pure, Result.andThen_ok, List.map_toArray, List.map_cons, List.map_nil, hev, hx, hr]
  exact h a' c' w' h2 h3 h4 h5
theorem rowU2 {w w' : World} {b : Nat} {k : Array Value} (hU : Upd (fun _ => False) w w') (h : w.heap[b]? = some (.cells k 32 (0, 0))) : w'.heap[b]? = some (.cells k 32 (0, 0)) :=
  (hU.block b (lt_of_heap h) (fun h => h)).trans h
theorem row_new2 (w : World) (old k : Array Value) : ((w.alloc (Obj.cells old 32)).setRow w.heap.size k).heap[w.heap.size]? = some (.cells k 32 (0, 0)) ∧ Upd (fun _ => False) w ((w.alloc (Obj.cells old 32)).setRow w.heap.size k) :=
  ⟨setRow_heap _ _ _ _ _ _ (heap_alloc_new _ _), (Upd.alloc _ _ _).next (Upd.setRow (S := fun i => i = w.heap.size) _ rfl k) (fun i hi h => by omega)⟩
theorem bL_succ (n b : Nat) : bL (n + 1) b = bL n b ++ [UInt8.ofNat (b + n)] := by simp [bL, List.range_succ]
theorem row_step (n j b : Nat) (hj : j < n) : (bvs (bL j b ++ List.replicate (n - j) 0)).set j (bv (UInt8.ofNat (b + j))) = bvs (bL (j + 1) b ++ List.replicate (n - (j + 1)) 0) := by
  rw [bL_succ, show n - j = (n - (j + 1)) + 1 from by omega, List.replicate_succ]
  have hl : (bvs (bL j b)).length = j := by rw [bvs_length, bL_length]
  rw [bvs_append, List.set_append_right _ _ (by omega), hl, Nat.sub_self]
  simp [bvs]
theorem made_own (w : World) (n : Nat) (hn : n ≤ 1000) : (w.alloc (.cells (madeCells #[.int .u8 0] n) 5)).ownsRow 0 5 1 (.slice (some ⟨w.heap.size, 0, none⟩) n n) n (bvs (bL 0 0 ++ List.replicate (n - 0) 0)) := by
  have := World.ownsRow_lit (base := 0) (e := 5) (size := 1) w (madeCells #[.int .u8 0] n) n (Nat.zero_le _) (by unfold maxLen; omega) (by rw [size_madeCells, Nat.mul_one])
  rw [toList_madeCells_one] at this
  simpa [bvs, bL, bv] using this

set_option maxRecDepth 100000 in
set_option maxHeartbeats 8000000 in
theorem DigestLong_walk (w : World) (n0 : Int) (hn0 : (Lit.int .i64 n0).wf = true) (by' : Int) (hby0 : (Lit.int .u8 by').wf = true) :
    Calls Try.prog 4 #[.int .i64 n0, .int .u8 by'] w fun e w' => e = .returned (.bool true) ∧ Below w.heap.size w w' := by
  obtain ⟨i0, hi, hz0, hz1, hz2⟩ := info_parts infoU8
  have hby := bounds_u8 hby0
  clear hby0 hn0
  obtain ⟨b, rfl⟩ : ∃ b : Nat, by' = (b : Int) := ⟨by'.toNat, by omega⟩
  have hb256 : b < 256 := by omega
  obtain ⟨N, hp⟩ : ∃ N : Nat, IntKind.u64.wrap n0 % 300 = (N : Int) := ⟨(IntKind.u64.wrap n0 % 300).toNat, by omega⟩
  have hN : N < 300 := by omega
  have hp5 : (IntKind.u64.wrap n0).tmod 300 = (N : Int) := by
    rw [← hp]
    exact Int.tmod_eq_emod_of_nonneg (by show 0 ≤ n0 % 18446744073709551616; omega)
  have hp3 : (N : Int) < 300 := by omega
  have hmk := run_make_row' (P := Try.prog) 24 5 (.int .u8 0) 1 Try.underlying24 infoU8 rfl .i64 .i64 N (by omega) (by omega)
  have HBY := Lib.hid hby
  have HP := Lib.hid hp
  clear hp hby
  go_enter Try.func4, Try.ntmps4
  go_upto_region 3 with (fail)
  have hO1 := made_own w N (by omega)
  have hU1 : Upd (fun i => w.heap.size ≤ i) w (w.alloc (.cells (madeCells #[.int .u8 0] N) 5)) := Upd.alloc _ _ _
  generalize w.alloc (.cells (madeCells #[.int .u8 0] N) 5) = w1 at *
  obtain ⟨g, hg⟩ : ∃ g, w.heap.size = g := ⟨_, rfl⟩
  rw [hg] at hO1 hU1 ⊢
  have HG := Lib.hid hg
  clear hg hmk hp5
  have HIU := Lib.hid (And.intro hi (And.intro hz0 (And.intro hz1 hz2)))
  clear hi hz0 hz1 hz2
  go_wp2_with fail
  go_loopw [16] (fun i wx => ∃ j : Nat, j ≤ N ∧ i = .int .i64 (j : Int) ∧ wx.ownsRow 0 5 1 (.slice (some ⟨g, 0, none⟩) N N) N (bvs (bL j b ++ List.replicate (N - j) 0)) ∧ Upd (fun i => g ≤ i) w wx) (fun i _ => N - (intOf i).toNat)
  case atStart => exact ⟨0, by omega, rfl, by simpa [bL] using hO1, hU1⟩
  case round =>
    clear hO1 hU1
    obtain ⟨j, hj, rfl, hO, hU⟩ := hrel
    by_cases hlt : j < N
    · have hI : (j : Int) < (N : Int) := by omega
      have hcell : wr.cell? ⟨g, j, none⟩ = some (.int .u8 0) := by
        rw [hO.cellAt j (by omega)]
        have hl : (bvs (bL j b)).length = j := by rw [bvs_length, bL_length]
        rw [bvs_append, List.getElem?_append_right (by rw [hl]; exact Nat.le_refl _), hl, Nat.sub_self, show N - j = (N - (j + 1)) + 1 from by omega, List.replicate_succ]
        rfl
      have hth := hO.frozenAt j
      obtain ⟨hst, hgr⟩ := hO.stored j (bv (UInt8.ofNat (b + j)))
      rw [row_step N j b hlt] at hst
      have hval : Hid (((b : Int) + (j : Int)) % 256 = ((UInt8.ofNat (b + j)).toNat : Int)) := by
        show _ = _
        rw [UInt8.toNat_ofNat']; omega
      have hU2 := hU.trans (Upd.setCell (S := fun i => g ≤ i) wr (p := ⟨g, j, none⟩) (Nat.le_refl g) (bv (UInt8.ofNat (b + j))))
      unfold bv at hst hU2
      have HST := Lib.hid hst
      clear hst hgr hO hU
      go_wp2_with fail
      go_roundw
      case rel =>
        refine ⟨j + 1, by omega, by first | rfl | go_num, ?_, ?_⟩
        · have := HST.out
          rw [← hval.out] at this
          exact this
        · rw [← hval.out] at hU2
          exact hU2
      case measure => simp [intOf]; omega
    · obtain rfl : j = N := by omega
      rw [Nat.sub_self, List.replicate_zero, List.append_nil] at hO
      have hne := long_ne j b hN hb256
      have hll := bL_length j b
      generalize bL j b = l at *
      have hs1 := sumL_length l
      have hs2 := sumL_length (l ++ [UInt8.ofNat b])
      have hek := fun w => key_eql (sumL l) (sumL l) hs1 hs1 w
      simp only [beq_self_eq_true] at hek
      have hnk := fun w => key_neq (sumL l) (sumL (l ++ [UInt8.ofNat b])) hs1 hs2 w
      have hb0 : (sumL l == sumL (l ++ [UInt8.ofNat b])) = false := by simpa using hne
      simp only [hb0, Bool.not_false] at hnk
      have hix := key_info (sumL l) hs1
      have hiy := key_info (sumL (l ++ [UInt8.ofNat b])) hs2
      have hS1 := fun (w : World) (hv : Vw w (some ⟨g, 0, none⟩) l.length j 1 (bvs l)) (hlb : g < w.heap.size) => sum_any (some ⟨g, 0, none⟩) j l w hv (by omega) (fun b hb => by cases hb; exact hlb)
      have hS2 := fun (w : World) (hv : Vw w (some ⟨g, 0, none⟩) l.length j 1 (bvs l)) (hlb : g < w.heap.size) => refSum_any (some ⟨g, 0, none⟩) j l w hv (by omega) (fun b hb => by cases hb; exact hlb)
      have hS3 := fun (w : World) (a : Option Addr) (c : Nat) (hv : Vw w a (l ++ [UInt8.ofNat b]).length c 1 (bvs (l ++ [UInt8.ofNat b]))) (hlb : ∀ b, blk a = some b → b < w.heap.size) => sum_any a c (l ++ [UInt8.ofNat b]) w hv (by simp; omega) hlb
      obtain ⟨kx, hkx⟩ : ∃ kx, (bvs (sumL l)).toArray = kx := ⟨_, rfl⟩
      obtain ⟨ky, hky⟩ : ∃ ky, (bvs (sumL (l ++ [UInt8.ofNat b]))).toArray = ky := ⟨_, rfl⟩
      simp only [hkx] at hek hnk hix hS1 hS2
      simp only [hky] at hnk hiy hS3
      have o1 : kx.all (·.oneCell') = true := by rw [← hkx]; simp [bvs, bv, Value.oneCell']
      have c32 : (Try.prog.info? 32).map (·.size) = some 32 := by kernel_rfl
      have s1 : kx.size = 32 := by rw [c32] at hix; simpa using hix.symm
      obtain ⟨z0, hz0'⟩ : ∃ z0, (#[.int .u8 0, .int .u8 0, .int .u8 0, .int .u8 0, .int .u8 0, .int .u8 0, .int .u8 0, .int .u8 0, .int .u8 0, .int .u8 0, .int .u8 0, .int .u8 0, .int .u8 0, .int .u8 0, .int .u8 0, .int .u8 0, .int .u8 0, .int .u8 0, .int .u8 0, .int .u8 0, .int .u8 0, .int .u8 0, .int .u8 0, .int .u8 0, .int .u8 0, .int .u8 0, .int .u8 0, .int .u8 0, .int .u8 0, .int .u8 0, .int .u8 0, .int .u8 0] : Array Value) = z0 := ⟨_, rfl⟩
      have hz0s : z0.size = 32 := by rw [← hz0']; rfl
      simp only [hll, List.length_append, List.length_cons, List.length_nil, Nat.zero_add] at hS1 hS2 hS3
      have hbn : (UInt8.ofNat b).toNat = b := by rw [UInt8.toNat_ofNat']; omega
      have hbv : bv (UInt8.ofNat b) = .int .u8 (b : Int) := by unfold bv; rw [hbn]
      have hlast : bvs (l ++ [UInt8.ofNat b]) = bvs l ++ [.int .u8 (b : Int)] := by rw [bvs_append]; simp [bvs, hbv]
      simp only [hlast] at hS3
      have HH := Lib.hid (And.intro o1 (And.intro (hz0s.trans s1.symm) (And.intro hix hiy)))
      have HLL := Lib.hid hll
      clear hkx hky o1 c32 s1 hz0s hix hiy hb0 hne hs1 hs2 hll hbn hbv hlast
      have hv : Vw wr (some ⟨g, 0, none⟩) j j 1 (bvs l) := Vw.of_own hO
      have hgl : g < wr.heap.size := (hO.lt g (by simp [own_blk, blk])).2
      go_wp2_with fail
      refine (hS1 _ hv hgl).mono ?_
      rintro e w2 ⟨rfl, hU2⟩
      have hO2 := ownsRow_upd hO hU2 (fun _ _ h => h)
      have hUA := hU.trans (hU2.mono (fun _ _ h => h.elim))
      clear hv hO hU hU2 hgl
      go_upto_region 9 with (first | ((with_reducible show wpList _ _ _ (Oper.mk _ (Op.store _ _ _) _ _ _ _ :: _) _ _); refine wpList_store_row rfl 32 (.tmp 7) (.tmp 28) rfl w2.heap.size kx z0 32 rfl rfl (heap_alloc_new _ _) HH.out.2.2.1 HH.out.2.1 HH.out.1 ?_))
      have hX := rowU2 (Upd.drew (fun _ => False) _) (row_new2 w2 z0 kx).1
      have hO3 := ownsRow_upd hO2 ((row_new2 w2 z0 kx).2.trans (Upd.drew (fun _ => False) _)) (fun _ _ h => h)
      have hUB := hUA.trans (((row_new2 w2 z0 kx).2.trans (Upd.drew (fun _ => False) _)).mono (fun _ _ h => h.elim))
      clear hUA hO2
      generalize hw3 : (w2.alloc (Obj.cells z0 32)).setRow w2.heap.size kx = w3 at *
      clear hw3
      generalize w2.heap.size = b7 at *
      refine wp_region_fork [([], 0), ([1, 2, 3], 4)] [5, 6, 7, 8, 9, 11] 10 12 ([([], 12), ([], 13), ([], 14)], [15, 16, 17]) ([([], 10), ([], 13), ([], 14)], [15, 16, 17]) (fun w' => w'.heap[b7]? = some (.cells kx 32 (0, 0))) (by kernel_rfl) (by kernel_rfl) hX ?_
      have hX3 := hX
      have hUB3 := hUB
      clear hX hUB
      refine fork_act rfl (fun KK hKK => ?_)
      go_wp2_with fail
      refine (awake02_any _).mono ?_
      rintro e w4 ⟨rfl, hU4⟩
      have hX4 := rowU2 hU4 hX3
      have hO4 := ownsRow_upd hO3 hU4 (fun _ _ h => h)
      have hUB4 := hUB3.trans (hU4.mono (fun _ _ h => h.elim))
      go_wp2_with fail
      refine hKK.out _ _ (.inr hX4) ?_
      iterate 1
        first
        | (refine fork_skip rfl rfl ?_)
        | (refine fork_take (v := ?_) rfl rfl (fun w' hS => ?_) ?_
           rotate_left
           · skip
             go_simp; try with_reducible rfl)
        simp only [Act.put, List.getElem_toArray, List.getElem_cons_zero, List.getElem_cons_succ, List.setIfInBounds_toArray, List.set_cons_zero, List.set_cons_succ]
      refine fork_take (v := .agg kx) rfl rfl (fun w' hS => exec_load_row 32 (.tmp 7) rfl b7 kx 32 (0, 0) _ rfl hS Try.underlying32 rfl HH.out.2.2.1) ?_
      simp only [Act.put, List.getElem_toArray, List.getElem_cons_zero, List.getElem_cons_succ, List.setIfInBounds_toArray, List.set_cons_zero, List.set_cons_succ]
      iterate 1
        first
        | (refine fork_skip rfl rfl ?_)
        | (refine fork_take (v := ?_) rfl rfl (fun w' hS => ?_) ?_
           rotate_left
           · skip
             go_simp; try with_reducible rfl)
        simp only [Act.put, List.getElem_toArray, List.getElem_cons_zero, List.getElem_cons_succ, List.setIfInBounds_toArray, List.set_cons_zero, List.set_cons_succ]
      refine fork_act rfl (fun KK hKK => ?_)
      go_wp2_with fail
      refine (hS2 _ (Vw.of_own hO4) (hO4.lt g (by simp [own_blk, blk])).2).mono ?_
      rintro e w5 ⟨rfl, hU5⟩
      have hX5 := rowU2 hU5 hX4
      have hO5 := ownsRow_upd hO4 hU5 (fun _ _ h => h)
      have hUB5 := hUB4.trans (hU5.mono (fun _ _ h => h.elim))
      go_wp2_with fail
      refine hKK.out _ _ (.inr hX5) ?_
      iterate 3
        first
        | (refine fork_lskip rfl rfl ?_)
        | (refine fork_last (v := ?_) rfl rfl (fun w' hS => ?_) ?_
           rotate_left
           · skip
             go_simp; try with_reducible rfl)
        simp only [Act.put, List.getElem_toArray, List.getElem_cons_zero, List.getElem_cons_succ, List.setIfInBounds_toArray, List.set_cons_zero, List.set_cons_succ]
      refine fork_last (v := .agg kx) rfl rfl (fun w' hS => exec_load_row 32 (.tmp 7) rfl b7 kx 32 (0, 0) _ rfl hS Try.underlying32 rfl HH.out.2.2.1) ?_
      simp only [Act.put, List.getElem_toArray, List.getElem_cons_zero, List.getElem_cons_succ, List.setIfInBounds_toArray, List.set_cons_zero, List.set_cons_succ]
      iterate 2
        first
        | (refine fork_lskip rfl rfl ?_)
        | (refine fork_last (v := ?_) rfl rfl (fun w' hS => ?_) ?_
           rotate_left
           · skip
             go_simp; try with_reducible rfl)
        simp only [Act.put, List.getElem_toArray, List.getElem_cons_zero, List.getElem_cons_succ, List.setIfInBounds_toArray, List.set_cons_zero, List.set_cons_succ]
      refine fork_both ?_ ?_
      · refine plan_act rfl (fun KK hKK => ?_)
        refine wpList_appG _ rfl (.const (.slice none 0 0)) (.tmp 38) 24 24 rfl 5 i0 (.int .u8 0) 1 1 Try.underlying24 HIU.out.1 HIU.out.2.1 HIU.out.2.2.1 HIU.out.2.2.2 rfl none 0 0 [] rfl (World.ownsRow_nil _ _ _ _) (.slice (some ⟨g, 0, none⟩) j j) j (bvs l) rfl ((Vw.of_own hO5).src (P := Try.prog) (t := 24) Try.underlying24 (bvs_cells l)) ?_ ?_ ?_
        · unfold maxLen; omega
        · omega
        intro aa ca w6 hoa hga hata hnila
        have hU6 := Upd.grown (S := fun _ => False) hga (fun k hk => by cases hk)
        simp only [Nat.zero_add, List.nil_append] at hoa ⊢
        have hX6 := rowU2 hU6 hX5
        have hO6 := ownsRow_upd hO5 hU6 (fun _ _ h => h)
        have hUB6 := hUB5.trans (hU6.mono (fun _ _ h => h.elim))
        have hnb : ∀ k, blk aa = some k → k ≠ b7 := fun k hk e => by
          have h1 : k = w5.heap.size := by
            rcases hata with h | h
            · rw [h] at hk; cases hk
            · rw [h] at hk; cases hk; rfl
          have h2 := lt_of_heap hX5
          omega
        have hge : ∀ k, blk aa = some k → g ≤ k := fun k hk => by
          have h1 : k = w5.heap.size := by
            rcases hata with h | h
            · rw [h] at hk; cases hk
            · rw [h] at hk; cases hk; rfl
          have h2 := (hO5.lt g (by simp [own_blk, blk])).2
          omega
        clear hata hnila hga
        go_wp2_with fail
        refine hKK.out _ _ (.inr hX6) ?_
        refine plan_act rfl (fun KK hKK => ?_)
        have hU7 := Upd.alloc (fun _ => False) w6 (Obj.cells #[.int .u8 (b : Int)] 5)
        have hnew : (w6.alloc (Obj.cells #[.int .u8 (b : Int)] 5)).heap[w6.heap.size]? = _ := heap_alloc_new w6 _
        have hsr : Src Try.prog 1 24 (.slice (some ⟨w6.heap.size, 0, none⟩) 1 1) 1 [.int .u8 (b : Int)] (w6.alloc (Obj.cells #[.int .u8 (b : Int)] 5)) :=
          Src.ofSlice _ Try.underlying24 _ 1 1 _ rfl (World.news_of_block hnew) (fun u hu => by simp at hu; subst hu; rfl)
        clear hnew
        go_wp2_with fail
        have hX7 := rowU2 hU7 hX6
        have hO7 := ownsRow_upd hO6 hU7 (fun _ _ h => h)
        have hUB7 := hUB6.trans (hU7.mono (fun _ _ h => h.elim))
        have hoa7 := hoa.alloc (Obj.cells #[.int .u8 (b : Int)] 5)
        generalize hw7 : w6.alloc (Obj.cells #[.int .u8 (b : Int)] 5) = w7 at *
        clear hw7
        have hoa := hoa7
        refine hKK.out _ _ (.inr hX7) ?_
        refine plan_act rfl (fun KK hKK => ?_)
        refine wpList_appG _ rfl (.tmp 39) (.tmp 41) 24 24 rfl 5 i0 (.int .u8 0) 1 1 Try.underlying24 HIU.out.1 HIU.out.2.1 HIU.out.2.2.1 HIU.out.2.2.2 rfl aa j ca (bvs l) rfl hoa _ 1 _ rfl hsr ?_ ?_ ?_
        · unfold maxLen; omega
        · omega
        intro ab cb w8 hob hgb hatb hnilb
        have hU8 := Upd.grown (S := fun k => blk aa = some k) hgb (fun k hk => hk)
        have hX8 := (hU8.block b7 (lt_of_heap hX7) (fun h => hnb b7 h rfl)).trans hX7
        have hUB8 := hUB7.trans (hU8.mono (fun k _ h => hge k h))
        go_wp2_with fail
        refine hKK.out _ _ (.inr hX8) ?_
        refine plan_act rfl (fun KK hKK => ?_)
        go_wp2_with fail
        refine (hS3 _ ab cb (Vw.of_own hob) (fun k hk => (hob.lt k ((own_blk _ _ _).trans hk)).2)).mono ?_
        rintro e w9 ⟨rfl, hU9⟩
        have hX9 := rowU2 hU9 hX8
        have hUB9 := hUB8.trans (hU9.mono (fun _ _ h => h.elim))
        go_wp2_with fail
        refine hKK.out _ _ (.inr hX9) ?_
        iterate 3
          first
          | (refine plan_lskip rfl rfl ?_)
          | (refine plan_last (v := ?_) rfl rfl (fun w' hS => ?_) ?_
             rotate_left
             · skip
               go_simp; try with_reducible rfl)
          simp only [Act.put, List.getElem_toArray, List.getElem_cons_zero, List.getElem_cons_succ, List.setIfInBounds_toArray, List.set_cons_zero, List.set_cons_succ]
        refine plan_end ?_
        go_wp2_with fail
        go_ret
        exact ⟨rfl, hUB9.below (Nat.le_refl _) (fun i hi hs => by have := HG.out; omega)⟩
      · refine plan_act rfl (fun KK hKK => ?_)
        have hU6 := Upd.alloc (fun _ => False) w5 (Obj.cells #[.int .u8 (b : Int)] 5)
        have hnew : (w5.alloc (Obj.cells #[.int .u8 (b : Int)] 5)).heap[w5.heap.size]? = _ := heap_alloc_new w5 _
        have hsr : Src Try.prog 1 24 (.slice (some ⟨w5.heap.size, 0, none⟩) 1 1) 1 [.int .u8 (b : Int)] (w5.alloc (Obj.cells #[.int .u8 (b : Int)] 5)) :=
          Src.ofSlice _ Try.underlying24 _ 1 1 _ rfl (World.news_of_block hnew) (fun u hu => by simp at hu; subst hu; rfl)
        clear hsr
        go_wp2_with fail
        have hX6 := rowU2 hU6 hX5
        have hO6 := ownsRow_upd hO5 hU6 (fun _ _ h => h)
        have hUB6 := hUB5.trans (hU6.mono (fun _ _ h => h.elim))
        generalize hw6 : w5.alloc (Obj.cells #[.int .u8 (b : Int)] 5) = w6 at *
        clear hw6
        refine hKK.out _ _ (.inr hX6) ?_
        refine plan_act rfl (fun KK hKK => ?_)
        refine wpList_appG _ rfl (.const (.slice none 0 0)) (.tmp 38) 24 24 rfl 5 i0 (.int .u8 0) 1 1 Try.underlying24 HIU.out.1 HIU.out.2.1 HIU.out.2.2.1 HIU.out.2.2.2 rfl none 0 0 [] rfl (World.ownsRow_nil _ _ _ _) (.slice (some ⟨g, 0, none⟩) j j) j (bvs l) rfl ((Vw.of_own hO6).src (P := Try.prog) (t := 24) Try.underlying24 (bvs_cells l)) ?_ ?_ ?_
        · unfold maxLen; omega
        · omega
        intro aa ca w7 hoa hga hata hnila
        have hU7 := Upd.grown (S := fun _ => False) hga (fun k hk => by cases hk)
        simp only [Nat.zero_add, List.nil_append] at hoa ⊢
        have hnew7 := (hU7.block w5.heap.size (lt_of_heap hnew) (fun h => h)).trans hnew
        have hsr7 : Src Try.prog 1 24 (.slice (some ⟨w5.heap.size, 0, none⟩) 1 1) 1 [.int .u8 (b : Int)] w7 :=
          Src.ofSlice _ Try.underlying24 _ 1 1 _ rfl (World.news_of_block hnew7) (fun u hu => by simp at hu; subst hu; rfl)
        have hX7 := rowU2 hU7 hX6
        have hO7 := ownsRow_upd hO6 hU7 (fun _ _ h => h)
        have hUB7 := hUB6.trans (hU7.mono (fun _ _ h => h.elim))
        have hnb : ∀ k, blk aa = some k → k ≠ b7 := fun k hk e => by
          have h1 : k = w6.heap.size := by
            rcases hata with h | h
            · rw [h] at hk; cases hk
            · rw [h] at hk; cases hk; rfl
          have h2 := lt_of_heap hX6
          omega
        have hge : ∀ k, blk aa = some k → g ≤ k := fun k hk => by
          have h1 : k = w6.heap.size := by
            rcases hata with h | h
            · rw [h] at hk; cases hk
            · rw [h] at hk; cases hk; rfl
          have h2 := (hO6.lt g (by simp [own_blk, blk])).2
          omega
        have hsr := hsr7
        clear hata hnila hga
        go_wp2_with fail
        refine hKK.out _ _ (.inr hX7) ?_
        refine plan_act rfl (fun KK hKK => ?_)
        refine wpList_appG _ rfl (.tmp 39) (.tmp 41) 24 24 rfl 5 i0 (.int .u8 0) 1 1 Try.underlying24 HIU.out.1 HIU.out.2.1 HIU.out.2.2.1 HIU.out.2.2.2 rfl aa j ca (bvs l) rfl hoa _ 1 _ rfl hsr ?_ ?_ ?_
        · unfold maxLen; omega
        · omega
        intro ab cb w8 hob hgb hatb hnilb
        have hU8 := Upd.grown (S := fun k => blk aa = some k) hgb (fun k hk => hk)
        have hX8 := (hU8.block b7 (lt_of_heap hX7) (fun h => hnb b7 h rfl)).trans hX7
        have hUB8 := hUB7.trans (hU8.mono (fun k _ h => hge k h))
        go_wp2_with fail
        refine hKK.out _ _ (.inr hX8) ?_
        refine plan_act rfl (fun KK hKK => ?_)
        go_wp2_with fail
        refine (hS3 _ ab cb (Vw.of_own hob) (fun k hk => (hob.lt k ((own_blk _ _ _).trans hk)).2)).mono ?_
        rintro e w9 ⟨rfl, hU9⟩
        have hX9 := rowU2 hU9 hX8
        have hUB9 := hUB8.trans (hU9.mono (fun _ _ h => h.elim))
        go_wp2_with fail
        refine hKK.out _ _ (.inr hX9) ?_
        iterate 3
          first
          | (refine plan_lskip rfl rfl ?_)
          | (refine plan_last (v := ?_) rfl rfl (fun w' hS => ?_) ?_
             rotate_left
             · skip
               go_simp; try with_reducible rfl)
          simp only [Act.put, List.getElem_toArray, List.getElem_cons_zero, List.getElem_cons_succ, List.setIfInBounds_toArray, List.set_cons_zero, List.set_cons_succ]
        refine plan_end ?_
        go_wp2_with fail
        go_ret
        exact ⟨rfl, hUB9.below (Nat.le_refl _) (fun i hi hs => by have := HG.out; omega)⟩

end Go.Proofs.Ytafkcmgfkecljaa
