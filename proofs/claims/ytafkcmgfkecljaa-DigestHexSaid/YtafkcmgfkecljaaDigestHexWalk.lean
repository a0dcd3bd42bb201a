/- The walk of DigestHex. -/
import Derived.Test.YtafkcmgfkecljaaDigestOrderWalk
namespace Go.Proofs.Ytafkcmgfkecljaa
set_option linter.unusedSimpArgs false
set_option linter.unusedVariables false
open Go.ChangeShapes Go.WideShapes Go.ChangeAt Go.RowKit

theorem wpList_load_rowG {P : Program} {ops : Array Oper} {rest : List Oper} {op : Oper} {a : Act} {w : World} {Q : Exit → Act → World → Prop} (hw : Region.wanted op (yielded ops a.tmps) = true) (ty : TypeId) (x : Operand) (ho : op.op = .load ty x)
    (b : Nat) (cs : Array Value) (t : TypeId) (fr : Nat × Nat) (d : TypeDesc) (hx : a.eval x = .pointer (some ⟨b, 0, none⟩)) (hg : w.heap[b]? = some (.cells cs t fr))
    (hu : P.underlying ty = some d) (hd : d.isRow = true) (hi : (P.info? ty).map (·.size) = some cs.size)
    (h : wpList P ops Q rest (a.put op.dst (.agg cs)) w) : wpList P ops Q (op :: rest) a w := by
  simp only [wpList, hw, if_true]
  refine .inl ?_
  have hex := exec_load_row (P := P) (w := w) (ev := a.eval) (o := op) ty x ho b cs t fr d hx hg hu hd hi
  unfold Oper.wp
  rw [hex]
  exact h
/-- '[]byte(s)'. -/
theorem conv_bytes (l : List UInt8) (w : World) (hl : l.length ≤ 1000000) : ∃ C w', (convert 9 24 (.string (str l))).run Try.prog w = .ok (.slice (some ⟨w.heap.size, 0, none⟩) l.length C) w' ∧
    (∃ rest fr, w'.heap[w.heap.size]? = some (.cells (bvs l ++ rest).toArray 5 fr) ∧ fr = (C, C + 1) ∧ rest.length + l.length = C) ∧ C ≤ maxLen ∧ Upd (fun _ => False) w w' := by
  have h := run_bytes_of_string (P := Try.prog) w 9 24 5 (str l) Try.underlying9 Try.underlying24 Try.underlying5
  rw [str_size] at h
  have hge := grownCap_ge w l.length 0 5
  have hm := grownCap_le_maxLen w l.length 0 5 (by unfold maxLen; omega)
  generalize grownCap w l.length 0 5 = C at *
  have hrow : bytesRow (str l) C = (bvs l ++ List.replicate (C - l.length) (Value.int .u8 0)).toArray := by
    unfold bytesRow
    rw [str_size]
    apply Array.ext'
    simp [str, bvs]
    exact fun _ _ => rfl
  rw [hrow] at h
  have hs : (bvs l ++ List.replicate (C - l.length) (Value.int IntKind.u8 0)).toArray.size = C := by simp [bvs]; omega
  rw [hs] at h
  refine ⟨C, _, h, ⟨_, _, heap_alloc_new w.drew _, rfl, ?_⟩, hm, (Upd.drew _ _).trans (Upd.alloc _ _ _)⟩
  simp; omega
theorem vw_set {w : World} {b : Nat} {l : List UInt8} {rest : List Value} {C p : Nat} (hg : w.heap[b]? = some (.cells (bvs l ++ rest).toArray 5 (C, C + 1))) (hC : rest.length + l.length = C) (hm : C ≤ maxLen) (hp : p < l.length) (x : UInt8) :
    Vw (w.setCell ⟨b, p, none⟩ (bv x)) (some ⟨b, 0, none⟩) (l.set p x).length C 1 (bvs (l.set p x)) := by
  have h1 := setCell_heap p (bv x) hg
  refine ⟨by simp [bvs], by simp; omega, hm, (fun h => by cases h), fun y hy j u hu => ?_⟩
  cases hy
  have ha : (Addr.add ⟨b, 0, none⟩ j) = ⟨b, j, none⟩ := by unfold Addr.add; split <;> simp_all
  rw [ha, cell_of_row _ _ _ _ _ _ h1]
  have hj : j < l.length := by have := (List.getElem?_eq_some_iff.1 hu).1; simpa [bvs] using this
  rw [← hu]
  simp [bvs, List.map_set, List.getElem?_set]
  by_cases e : p = j
  · subst e
    simp [hj]
    omega
  · simp [e]
    rw [List.getElem?_append_left (by simpa using hj)]
    simp
def lit1 (x : UInt8) : Bool := (decide (48 ≤ x.toNat) && decide (x.toNat ≤ 57)) || (decide (97 ≤ x.toNat) && decide (x.toNat ≤ 102))
theorem lit1_is (x : UInt8) : lit1 x = decide (0 ≤ idx x) := by
  have := is_digit ⟨x.toNat, x.toNat_lt⟩
  simp only [UInt8.ofNat_toNat] at this
  rw [this]; rfl
theorem digit_cases (x : UInt8) : (¬ 48 ≤ x.toNat ∧ ¬ 97 ≤ x.toNat ∧ ¬ 0 ≤ idx x) ∨ (48 ≤ x.toNat ∧ x.toNat ≤ 57 ∧ 0 ≤ idx x) ∨ (48 ≤ x.toNat ∧ ¬ x.toNat ≤ 57 ∧ ¬ 97 ≤ x.toNat ∧ ¬ 0 ≤ idx x) ∨
    (48 ≤ x.toNat ∧ ¬ x.toNat ≤ 57 ∧ 97 ≤ x.toNat ∧ x.toNat ≤ 102 ∧ 0 ≤ idx x) ∨ (48 ≤ x.toNat ∧ ¬ x.toNat ≤ 57 ∧ 97 ≤ x.toNat ∧ ¬ x.toNat ≤ 102 ∧ ¬ 0 ≤ idx x) := by
  have h := lit1_is x
  unfold lit1 at h
  by_cases h0 : 0 ≤ idx x
  · simp [h0] at h ⊢; omega
  · simp [h0] at h ⊢; omega
theorem rowU {w w' : World} {b : Nat} {k : Array Value} (hU : Upd (fun _ => False) w w') (h : w.heap[b]? = some (.cells k 32 (0, 0))) : w'.heap[b]? = some (.cells k 32 (0, 0)) :=
  (hU.block b (lt_of_heap h) (fun h => h)).trans h
theorem row_new (w : World) (old k : Array Value) : ((w.alloc (Obj.cells old 32)).setRow w.heap.size k).heap[w.heap.size]? = some (.cells k 32 (0, 0)) ∧ Upd (fun _ => False) w ((w.alloc (Obj.cells old 32)).setRow w.heap.size k) :=
  ⟨setRow_heap _ _ _ _ _ _ (heap_alloc_new _ _), (Upd.alloc _ _ _).next (Upd.setRow (S := fun i => i = w.heap.size) _ rfl k) (fun i hi h => by omega)⟩
theorem row_cell {w : World} {b : Nat} {l : List UInt8} {rest : List Value} {C p : Nat} (hg : w.heap[b]? = some (.cells (bvs l ++ rest).toArray 5 (C, C + 1))) (hC : rest.length + l.length = C) (hp : p < l.length) :
    w.cell? ⟨b, p, none⟩ = some (.int .u8 ((l.getD p 0).toNat : Int)) ∧ w.frozen? ⟨b, p, none⟩ = false := by
  refine ⟨?_, ?_⟩
  · rw [cell_of_row _ _ _ _ _ _ hg]
    simp [bvs, List.getElem?_append_left, hp, bv]
  · simp [World.frozen?, hg]; omega
theorem str_drop1 (l : List UInt8) (hl : 1 ≤ l.length) (w : World) : (Instr.slice 9 (.string (str l)) (some (.int .i64 1)) none none).run Try.prog w = .ok (.string (str (l.drop 1))) w := by
  rw [run_slice_string_from_if w _ _ _ _ Try.underlying9]
  rw [if_pos ⟨by decide, by rw [str_size]; omega⟩]
  congr 2
  apply ByteArray.ext
  simp [str, ByteArray.data_extract]
  rw [List.take_of_length_le (by simp [ByteArray.size])]
theorem str_toList3 (s : ByteArray) : ∃ l, s = str l := ⟨s.data.toList, (str_data s).symm⟩

set_option maxRecDepth 100000 in
set_option maxHeartbeats 8000000 in
theorem DigestHex_walk (w : World) (k : List UInt8) (hk : k.length = 32) (s0 : ByteArray) (hs0 : s0.size ≤ maxLen) (at' : Int) (hat : (Lit.int .i64 at').wf = true) (by' : Int) (hby0 : (Lit.int .u8 by').wf = true) :
    Calls Try.prog 8 #[.agg (bvs k).toArray, .string s0, .int .i64 at', .int .u8 by'] w fun e w' => e = .returned (.bool true) ∧ Below w.heap.size w w' := by
  obtain ⟨s, rfl⟩ := str_toList3 s0
  have hby := bounds_u8 hby0
  clear hat hby0
  obtain ⟨x, rfl⟩ : ∃ x : UInt8, by' = (x.toNat : Int) := ⟨UInt8.ofNat by'.toNat, by rw [UInt8.toNat_ofNat']; omega⟩
  rw [str_size] at hs0
  have hsz := str_size s
  obtain ⟨p, hp⟩ : ∃ p : Nat, IntKind.u64.wrap at' % 64 = (p : Int) := ⟨(IntKind.u64.wrap at' % 64).toNat, by omega⟩
  have hp64 : p < 64 := by omega
  have HP := Lib.hid hp
  have HBY := Lib.hid hby
  clear hp hby hs0
  -- what is called
  have hH := fun w => hex_any k w hk
  have hF := fun w => fromHex_any (hexL k) w
  rw [isHex_hexL k hk, fromL_hexL k hk] at hF
  have hF2 := fun w => fromHex_any s w
  have hH2 := fun w => hex_any (fromL s) w (fromL_length s)
  have hF3 := fun w => fromHex_any ((hexL k).set p x) w
  rw [isHex_set k hk p hp64 x] at hF3
  have hH3 := fun w => hex_any (fromL ((hexL k).set p x)) w (fromL_length _)
  have hF4 := fun w => fromHex_any ((hexL k).drop 1) w
  rw [isHex_short k hk] at hF4
  have hne := fun w => key_neq k k hk hk w
  have hbk : (!(k == k)) = false := by simp
  simp only [hbk] at hne
  have hik := key_info k hk
  have hik2 := key_info (fromL s) (fromL_length s)
  have hik3 := key_info (fromL ((hexL k).set p x)) (fromL_length _)
  have hik4 := key_info (fromL ((hexL k).drop 1)) (fromL_length _)
  have hlk : (hexL k).length = 64 := by rw [hexL_length, hk]
  have hback : isHex s = true → hexL (fromL s) = s := hexL_fromL s
  have hback3 : 0 ≤ idx x → hexL (fromL ((hexL k).set p x)) = (hexL k).set p x := fun h => hexL_fromL _ (by rw [isHex_set k hk p hp64 x]; exact decide_eq_true h)
  generalize fromL s = y at *
  generalize fromL ((hexL k).set p x) = z at *
  generalize fromL ((hexL k).drop 1) = z4 at *
  generalize hhx : hexL k = h at *
  have hcs := digit_cases x
  obtain ⟨hd1, hh1⟩ : ∃ hd1, h.drop 1 = hd1 := ⟨_, rfl⟩
  simp only [hh1] at hF4
  have HD1 := Lib.hid hh1
  clear hh1
  generalize isHex s = has at *
  generalize hT : h.set p x = t at *
  generalize idx x = ix at *
  obtain ⟨kx, hkx⟩ : ∃ kx, (bvs k).toArray = kx := ⟨_, rfl⟩
  obtain ⟨ky, hky⟩ : ∃ ky, (bvs y).toArray = ky := ⟨_, rfl⟩
  obtain ⟨kz, hkz⟩ : ∃ kz, (bvs z).toArray = kz := ⟨_, rfl⟩
  obtain ⟨k4, hk4⟩ : ∃ k4, (bvs z4).toArray = k4 := ⟨_, rfl⟩
  rw [hkx] at hne hik ⊢
  simp only [hkx] at hH hF
  simp only [hky] at hF2 hH2 hik2
  simp only [hkz] at hF3 hH3 hik3
  simp only [hk4] at hF4 hik4
  have o1 : kx.all (·.oneCell') = true := by rw [← hkx]; simp [bvs, bv, Value.oneCell']
  have o2 : ky.all (·.oneCell') = true := by rw [← hky]; simp [bvs, bv, Value.oneCell']
  have o3 : kz.all (·.oneCell') = true := by rw [← hkz]; simp [bvs, bv, Value.oneCell']
  have o4 : k4.all (·.oneCell') = true := by rw [← hk4]; simp [bvs, bv, Value.oneCell']
  have c32 : (Try.prog.info? 32).map (·.size) = some 32 := by kernel_rfl
  have s1 : kx.size = 32 := by rw [c32] at hik; simpa using hik.symm
  have s2 : ky.size = 32 := by rw [c32] at hik2; simpa using hik2.symm
  have s3 : kz.size = 32 := by rw [c32] at hik3; simpa using hik3.symm
  have s4 : k4.size = 32 := by rw [c32] at hik4; simpa using hik4.symm
  obtain ⟨z0, hz0'⟩ : ∃ z0, (#[.int .u8 0, .int .u8 0, .int .u8 0, .int .u8 0, .int .u8 0, .int .u8 0, .int .u8 0, .int .u8 0, .int .u8 0, .int .u8 0, .int .u8 0, .int .u8 0, .int .u8 0, .int .u8 0, .int .u8 0, .int .u8 0, .int .u8 0, .int .u8 0, .int .u8 0, .int .u8 0, .int .u8 0, .int .u8 0, .int .u8 0, .int .u8 0, .int .u8 0, .int .u8 0, .int .u8 0, .int .u8 0, .int .u8 0, .int .u8 0, .int .u8 0, .int .u8 0] : Array Value) = z0 := ⟨_, rfl⟩
  have hz0s : z0.size = 32 := by rw [← hz0']; rfl
  have HK := Lib.hid hk
  have HC := Lib.hid hcs
  have HB1 := Lib.hid hback
  have HB3 := Lib.hid hback3
  have HHX := Lib.hid hhx
  have HT := Lib.hid hT
  have HLK := Lib.hid hlk
  have HO := Lib.hid (And.intro o1 (And.intro o2 (And.intro o3 o4)))
  have HS := Lib.hid (And.intro s1 (And.intro s2 (And.intro s3 (And.intro s4 hz0s))))
  have HI := Lib.hid (And.intro hik (And.intro hik2 (And.intro hik3 hik4)))
  have hszh : (str h).size = 64 := by rw [str_size, hlk]
  clear hkx hky hkz hk4 hk hcs hback hback3 hhx hlk o1 o2 o3 o4 s1 s2 s3 s4 hz0s hik hik2 hik3 hik4 c32 hT hbk
  go_enter Try.func8, Try.ntmps8
  go_upto_region 1 with (fail)
  have hU1 : Upd (fun i => w.heap.size ≤ i) w (w.alloc (Obj.cells kx 32)) := Upd.alloc _ _ _
  have hR1 : (w.alloc (Obj.cells kx 32)).heap[w.heap.size]? = some (.cells kx 32 (0, 0)) := heap_alloc_new _ _
  generalize w.alloc (Obj.cells kx 32) = w1 at *
  obtain ⟨B, hB⟩ : ∃ B, w.heap.size = B := ⟨_, rfl⟩
  rw [hB] at hR1 hU1 ⊢
  have HB := Lib.hid hB
  clear hB
  by_cases h200 : 200 < s.length
  · have hd : decide (200 < (s.length : Int)) = true := by simp; omega
    go_wp2_with fail
    refine (awake02_any w1).mono ?_
    rintro e w3 ⟨rfl, hU1'⟩
    go_wp2_with fail
    go_ret
    exact ⟨rfl, (hU1.trans (hU1'.mono (fun _ _ h => h.elim))).below (Nat.le_refl _) (fun i hi hs => by have := HB.out; omega)⟩
  have hd : decide (200 < (s.length : Int)) = false := by simp; omega
  go_wp2_with (refine wpList_load_rowG rfl 32 (.tmp 4) rfl B kx 32 (0, 0) _ rfl hR1 Try.underlying32 rfl HI.out.1 ?_)
  refine (hH _).mono ?_
  rintro e w2 ⟨rfl, hU2⟩
  have hR2 := rowU hU2 hR1
  have hU02 := hU1.trans (hU2.mono (fun _ _ h => h.elim))
  clear hR1 hU1 hU2
  go_wp2_with fail
  refine (hF _).mono ?_
  rintro e w3 ⟨rfl, hU3⟩
  have hR3 := rowU hU3 hR2
  have hU03 := hU02.trans (hU3.mono (fun _ _ h => h.elim))
  clear hR2 hU02 hU3
  go_upto_region 5 with (first | ((with_reducible show wpList _ _ _ (Oper.mk _ (Op.store _ _ _) _ _ _ _ :: _) _ _); refine wpList_store_row rfl 32 (.tmp 10) (.tmp 29) rfl w3.heap.size kx z0 32 rfl rfl (heap_alloc_new _ _) HI.out.1 (HS.out.2.2.2.2.trans HS.out.1.symm) HO.out.1 ?_))
  have hR4 := rowU (row_new w3 z0 kx).2 hR3
  have hX4 := (row_new w3 z0 kx).1
  have hU04 := hU03.trans ((row_new w3 z0 kx).2.mono (fun _ _ h => h.elim))
  clear hR3 hU03
  generalize (w3.alloc (Obj.cells z0 32)).setRow w3.heap.size kx = w4 at *
  generalize w3.heap.size = b10 at *
  go_wp2_with fail
  refine (hF2 _).mono ?_
  rintro e w5 ⟨rfl, hU5⟩
  have hR5 := rowU hU5 hR4
  have hX5 := rowU hU5 hX4
  have hU05 := hU04.trans (hU5.mono (fun _ _ h => h.elim))
  clear hR4 hX4 hU04 hU5
  go_upto_region 6 with (first | ((with_reducible show wpList _ _ _ (Oper.mk _ (Op.store _ _ _) _ _ _ _ :: _) _ _); refine wpList_store_row rfl 32 (.tmp 12) (.tmp 34) rfl w5.heap.size ky z0 32 rfl rfl (heap_alloc_new _ _) HI.out.2.1 (HS.out.2.2.2.2.trans HS.out.2.1.symm) HO.out.2.1 ?_))
  have hR6 := rowU (row_new w5 z0 ky).2 hR5
  have hX6 := rowU (row_new w5 z0 ky).2 hX5
  have hY6 := (row_new w5 z0 ky).1
  have hU06 := hU05.trans ((row_new w5 z0 ky).2.mono (fun _ _ h => h.elim))
  clear hR5 hX5 hU05
  generalize (w5.alloc (Obj.cells z0 32)).setRow w5.heap.size ky = w6 at *
  generalize w5.heap.size = b12 at *
  go_wp2_with fail
  refine (awake02_any _).mono ?_
  rintro e w7 ⟨rfl, hU7⟩
  have hR7 := rowU hU7 hR6
  have hX7 := rowU hU7 hX6
  have hY7 := rowU hU7 hY6
  have hU07 := hU06.trans (hU7.mono (fun _ _ h => h.elim))
  clear hR6 hX6 hY6 hU06 hU7
  cases has
  · go_upto_region 8 with (first | ((with_reducible show wpList _ _ _ (Oper.mk _ (Op.load _ _) _ _ _ _ :: _) _ _); first | refine wpList_load_rowG rfl 32 (.tmp 4) rfl B kx 32 (0, 0) _ rfl hR7 Try.underlying32 rfl HI.out.1 ?_ | refine wpList_load_rowG rfl 32 (.tmp 10) rfl b10 kx 32 (0, 0) _ rfl hX7 Try.underlying32 rfl HI.out.1 ?_ | refine wpList_load_rowG rfl 32 (.tmp 12) rfl b12 ky 32 (0, 0) _ rfl hY7 Try.underlying32 rfl HI.out.2.1 ?_))
    obtain ⟨C, wc, hcv, ⟨rest, fr, hg, rfl, hC⟩, hCm, hUc⟩ := conv_bytes h w7 (by rw [HLK.out]; decide)
    obtain ⟨hcell, hth⟩ := row_cell hg hC (p := p) (by rw [HLK.out]; exact hp64)
    have hV := vw_set hg hC hCm (p := p) (by rw [HLK.out]; exact hp64) x
    rw [HT.out] at hV
    have htl : t.length = 64 := by rw [← HT.out]; simp [HLK.out]
    rw [htl] at hV
    rw [HLK.out] at hcv
    have hlt9 := lt_of_heap hg
    have hold : w7.heap.size ≤ w7.heap.size := Nat.le_refl _
    have hU09 := hU07.trans (hUc.mono (fun _ _ h => h.elim))
    have hBW := hU07.size
    have hp1 := HP.out
    have hp2 : at' % 18446744073709551616 % 64 = (p : Int) := by rw [← hp1]; rfl
    have hp3 : (p : Int) < 64 := by omega
    have hp5 : (IntKind.u64.wrap at').tmod 64 = (p : Int) := by
      rw [← hp1]
      exact Int.tmod_eq_emod_of_nonneg (by show 0 ≤ at' % 18446744073709551616; omega)
    have hp4 : p ≤ C := by have := HLK.out; omega
    have HTL := Lib.hid htl
    have HCC := Lib.hid hC
    have HCM := Lib.hid hCm
    clear hg hC hUc hU07 hold htl hCm
    generalize w7.heap.size = b at *
    generalize (h.getD p 0) = x0 at *
    have hbv : bv x = .int .u8 (x.toNat : Int) := rfl
    rw [hbv] at hV
    have hU10 : Upd (fun i => B ≤ i) w (wc.setCell ⟨b, p, none⟩ (.int .u8 (x.toNat : Int))) := hU09.trans (Upd.setCell (S := fun i => B ≤ i) wc (by show B ≤ b; have := HB.out; omega) _)
    clear hU09 hbv
    go_upto_region 10 with (fail)
    generalize wc.setCell ⟨b, p, none⟩ (.int .u8 (x.toNat : Int)) = wd at *
    have hcv2 := (show Vw wd (some ⟨b, 0, none⟩) t.length C 1 (bvs t) by rw [HTL.out]; exact hV).conv
    rw [HTL.out] at hcv2
    clear hcell hth hp1 hp2 hp3 hp5 hcv
    rcases HC.out with hcs | hcs | hcs | hcs | hcs
    · obtain ⟨h1, h2, h3⟩ := hcs
      have f0 : decide ((48 : Int) ≤ (x.toNat : Int)) = false := by rw [decide_eq_false_iff_not]; omega
      have f1 : decide ((97 : Int) ≤ (x.toNat : Int)) = false := by rw [decide_eq_false_iff_not]; omega
      have hok : decide (0 ≤ ix) = false := by simp; omega
      rw [hok] at hF3
      clear hok
      go_wp2_with fail
      refine (hF3 _).mono ?_
      rintro e we ⟨rfl, hUe⟩
      have hVe := hV.upd hUe (fun _ _ h => h)
      have hU11 := hU10.trans (hUe.mono (fun _ _ h => h.elim))
      clear hV hU10 hUe hcv2
      go_upto_region 11 with (first | ((with_reducible show wpList _ _ _ (Oper.mk _ (Op.store _ _ _) _ _ _ _ :: _) _ _); refine wpList_store_row rfl 32 (.tmp 15) (.tmp 74) rfl we.heap.size kz z0 32 rfl rfl (heap_alloc_new _ _) HI.out.2.2.1 (HS.out.2.2.2.2.trans HS.out.2.2.1.symm) HO.out.2.2.1 ?_))
      have hZ := (row_new we z0 kz).1
      have hVf := hVe.upd (row_new we z0 kz).2 (fun _ _ h => h)
      have hU12 := hU11.trans ((row_new we z0 kz).2.mono (fun _ _ h => h.elim))
      clear hVe hU11
      generalize (we.alloc (Obj.cells z0 32)).setRow we.heap.size kz = wf at *
      generalize we.heap.size = b15 at *
      go_upto_region 12 with (fail)
      have hsl := str_drop1 h (by have := HLK.out; omega)
      rw [HD1.out] at hsl
      go_wp2_with fail
      refine (hF4 _).mono ?_
      rintro e wg ⟨rfl, hUg⟩
      have hZg := rowU hUg hZ
      have hVg := hVf.upd hUg (fun _ _ h => h)
      have hU13 := hU12.trans (hUg.mono (fun _ _ h => h.elim))
      clear hZ hVf hU12 hUg hsl
      go_upto_region 13 with (first | ((with_reducible show wpList _ _ _ (Oper.mk _ (Op.store _ _ _) _ _ _ _ :: _) _ _); refine wpList_store_row rfl 32 (.tmp 18) (.tmp 94) rfl wg.heap.size k4 z0 32 rfl rfl (heap_alloc_new _ _) HI.out.2.2.2 (HS.out.2.2.2.2.trans HS.out.2.2.2.1.symm) HO.out.2.2.2 ?_))
      have hZh := rowU ((row_new wg z0 k4).2.trans (Upd.drew _ _)) hZg
      have hVh := hVg.upd ((row_new wg z0 k4).2.trans (Upd.drew _ _)) (fun _ _ h => h)
      have hU14 := hU13.trans (((row_new wg z0 k4).2.trans (Upd.drew _ _)).mono (fun _ _ h => h.elim))
      clear hZg hVg hU13
      generalize hwh : (wg.alloc (Obj.cells z0 32)).setRow wg.heap.size k4 = wh at *
      clear hwh
      generalize wg.heap.size = b18 at *
      refine wp_region_plan_last [([0, 1, 2, 3, 4, 5, 6, 7, 9, 10], 8)] [11, 12, 13, 14, 15, 16, 17, 18] (fun w' => w'.heap[b15]? = some (.cells kz 32 (0, 0)) ∧ Vw w' (some ⟨b, 0, none⟩) 64 C 1 (bvs t)) (by kernel_rfl) (by kernel_rfl) ⟨hZh, hVh⟩ ?_
      iterate 10
        first
        | (refine plan_skip rfl rfl ?_)
        | (refine plan_take (v := ?_) rfl rfl (fun w' hS => ?_) ?_
           rotate_left
           · skip
             go_simp; try with_reducible rfl)
        simp only [Act.put, List.getElem_toArray, List.getElem_cons_zero, List.getElem_cons_succ, List.setIfInBounds_toArray, List.set_cons_zero, List.set_cons_succ]
      refine plan_act rfl (fun KK hKK => ?_)
      go_wp2_with fail
      refine hKK.out _ _ (.inr ⟨hZh, hVh⟩) ?_
      iterate 8
        first
        | (refine plan_lskip rfl rfl ?_)
        | (refine plan_last (v := ?_) rfl rfl (fun w' hS => ?_) ?_
           rotate_left
           · skip
             go_simp; try with_reducible rfl)
        simp only [Act.put, List.getElem_toArray, List.getElem_cons_zero, List.getElem_cons_succ, List.setIfInBounds_toArray, List.set_cons_zero, List.set_cons_succ]
      refine plan_end ?_
      go_wp2_with fail
      go_ret
      exact ⟨rfl, hU14.below (Nat.le_refl _) (fun i hi hs => by have := HB.out; omega)⟩
    · obtain ⟨h1, h2, h3⟩ := hcs
      have f0 : (48 : Int) ≤ (x.toNat : Int) := by omega
      have f1 : (x.toNat : Int) ≤ (57 : Int) := by omega
      have hok : decide (0 ≤ ix) = true := by simp; omega
      rw [hok] at hF3
      rw [HB3.out (by omega)] at hH3
      clear hok
      go_wp2_with fail
      refine (hF3 _).mono ?_
      rintro e we ⟨rfl, hUe⟩
      have hVe := hV.upd hUe (fun _ _ h => h)
      have hU11 := hU10.trans (hUe.mono (fun _ _ h => h.elim))
      clear hV hU10 hUe hcv2
      go_upto_region 11 with (first | ((with_reducible show wpList _ _ _ (Oper.mk _ (Op.store _ _ _) _ _ _ _ :: _) _ _); refine wpList_store_row rfl 32 (.tmp 15) (.tmp 74) rfl we.heap.size kz z0 32 rfl rfl (heap_alloc_new _ _) HI.out.2.2.1 (HS.out.2.2.2.2.trans HS.out.2.2.1.symm) HO.out.2.2.1 ?_))
      have hZ := (row_new we z0 kz).1
      have hVf := hVe.upd (row_new we z0 kz).2 (fun _ _ h => h)
      have hU12 := hU11.trans ((row_new we z0 kz).2.mono (fun _ _ h => h.elim))
      clear hVe hU11
      generalize (we.alloc (Obj.cells z0 32)).setRow we.heap.size kz = wf at *
      generalize we.heap.size = b15 at *
      go_upto_region 12 with (fail)
      have hsl := str_drop1 h (by have := HLK.out; omega)
      rw [HD1.out] at hsl
      go_wp2_with fail
      refine (hF4 _).mono ?_
      rintro e wg ⟨rfl, hUg⟩
      have hZg := rowU hUg hZ
      have hVg := hVf.upd hUg (fun _ _ h => h)
      have hU13 := hU12.trans (hUg.mono (fun _ _ h => h.elim))
      clear hZ hVf hU12 hUg hsl
      go_upto_region 13 with (first | ((with_reducible show wpList _ _ _ (Oper.mk _ (Op.store _ _ _) _ _ _ _ :: _) _ _); refine wpList_store_row rfl 32 (.tmp 18) (.tmp 94) rfl wg.heap.size k4 z0 32 rfl rfl (heap_alloc_new _ _) HI.out.2.2.2 (HS.out.2.2.2.2.trans HS.out.2.2.2.1.symm) HO.out.2.2.2 ?_))
      have hZh := rowU ((row_new wg z0 k4).2.trans (Upd.drew _ _)) hZg
      have hVh := hVg.upd ((row_new wg z0 k4).2.trans (Upd.drew _ _)) (fun _ _ h => h)
      have hU14 := hU13.trans (((row_new wg z0 k4).2.trans (Upd.drew _ _)).mono (fun _ _ h => h.elim))
      clear hZg hVg hU13
      generalize hwh : (wg.alloc (Obj.cells z0 32)).setRow wg.heap.size k4 = wh at *
      clear hwh
      generalize wg.heap.size = b18 at *
      refine wp_region_plan_last [([0, 1, 2, 3, 4, 5, 6, 7, 9, 10], 8)] [11, 12, 13, 14, 15, 16, 17, 18] (fun w' => w'.heap[b15]? = some (.cells kz 32 (0, 0)) ∧ Vw w' (some ⟨b, 0, none⟩) 64 C 1 (bvs t)) (by kernel_rfl) (by kernel_rfl) ⟨hZh, hVh⟩ ?_
      iterate 7
        first
        | (refine plan_skip rfl rfl ?_)
        | (refine plan_take (v := ?_) rfl rfl (fun w' hS => ?_) ?_
           rotate_left
           · skip
             go_simp; try with_reducible rfl)
        simp only [Act.put, List.getElem_toArray, List.getElem_cons_zero, List.getElem_cons_succ, List.setIfInBounds_toArray, List.set_cons_zero, List.set_cons_succ]
      refine plan_take (v := .agg kz) rfl rfl (fun w' hS => exec_load_row 32 (.tmp 15) rfl b15 kz 32 (0, 0) _ rfl hS.1 Try.underlying32 rfl HI.out.2.2.1) ?_
      simp only [Act.put, List.getElem_toArray, List.getElem_cons_zero, List.getElem_cons_succ, List.setIfInBounds_toArray, List.set_cons_zero, List.set_cons_succ]
      iterate 1
        first
        | (refine plan_skip rfl rfl ?_)
        | (refine plan_take (v := ?_) rfl rfl (fun w' hS => ?_) ?_
           rotate_left
           · skip
             go_simp; try with_reducible rfl)
        simp only [Act.put, List.getElem_toArray, List.getElem_cons_zero, List.getElem_cons_succ, List.setIfInBounds_toArray, List.set_cons_zero, List.set_cons_succ]
      refine plan_take (v := .string (str t)) rfl rfl (fun w' hS => ?_) ?_
      · have hq := (show Vw w' (some ⟨b, 0, none⟩) t.length C 1 (bvs t) by rw [HTL.out]; exact hS.2).conv
        rw [HTL.out] at hq
        go_simp
      simp only [Act.put, List.getElem_toArray, List.getElem_cons_zero, List.getElem_cons_succ, List.setIfInBounds_toArray, List.set_cons_zero, List.set_cons_succ]
      refine plan_act rfl (fun KK hKK => ?_)
      go_wp2_with fail
      refine (hH3 _).mono ?_
      rintro e wi ⟨rfl, hUi⟩
      go_wp2_with fail
      refine hKK.out _ _ (.inr ⟨rowU hUi hZh, hVh.upd hUi (fun _ _ h => h)⟩) ?_
      iterate 8
        first
        | (refine plan_lskip rfl rfl ?_)
        | (refine plan_last (v := ?_) rfl rfl (fun w' hS => ?_) ?_
           rotate_left
           · skip
             go_simp; try with_reducible rfl)
        simp only [Act.put, List.getElem_toArray, List.getElem_cons_zero, List.getElem_cons_succ, List.setIfInBounds_toArray, List.set_cons_zero, List.set_cons_succ]
      refine plan_end ?_
      go_wp2_with fail
      go_ret
      exact ⟨rfl, (hU14.trans (hUi.mono (fun _ _ h => h.elim))).below (Nat.le_refl _) (fun i hi hs => by have := HB.out; omega)⟩
    · obtain ⟨h1, h2, h4, h3⟩ := hcs
      have f0 : (48 : Int) ≤ (x.toNat : Int) := by omega
      have f1 : decide ((x.toNat : Int) ≤ (57 : Int)) = false := by rw [decide_eq_false_iff_not]; omega
      have f2 : decide ((97 : Int) ≤ (x.toNat : Int)) = false := by rw [decide_eq_false_iff_not]; omega
      have hok : decide (0 ≤ ix) = false := by simp; omega
      rw [hok] at hF3
      clear hok
      go_wp2_with fail
      refine (hF3 _).mono ?_
      rintro e we ⟨rfl, hUe⟩
      have hVe := hV.upd hUe (fun _ _ h => h)
      have hU11 := hU10.trans (hUe.mono (fun _ _ h => h.elim))
      clear hV hU10 hUe hcv2
      go_upto_region 11 with (first | ((with_reducible show wpList _ _ _ (Oper.mk _ (Op.store _ _ _) _ _ _ _ :: _) _ _); refine wpList_store_row rfl 32 (.tmp 15) (.tmp 74) rfl we.heap.size kz z0 32 rfl rfl (heap_alloc_new _ _) HI.out.2.2.1 (HS.out.2.2.2.2.trans HS.out.2.2.1.symm) HO.out.2.2.1 ?_))
      have hZ := (row_new we z0 kz).1
      have hVf := hVe.upd (row_new we z0 kz).2 (fun _ _ h => h)
      have hU12 := hU11.trans ((row_new we z0 kz).2.mono (fun _ _ h => h.elim))
      clear hVe hU11
      generalize (we.alloc (Obj.cells z0 32)).setRow we.heap.size kz = wf at *
      generalize we.heap.size = b15 at *
      go_upto_region 12 with (fail)
      have hsl := str_drop1 h (by have := HLK.out; omega)
      rw [HD1.out] at hsl
      go_wp2_with fail
      refine (hF4 _).mono ?_
      rintro e wg ⟨rfl, hUg⟩
      have hZg := rowU hUg hZ
      have hVg := hVf.upd hUg (fun _ _ h => h)
      have hU13 := hU12.trans (hUg.mono (fun _ _ h => h.elim))
      clear hZ hVf hU12 hUg hsl
      go_upto_region 13 with (first | ((with_reducible show wpList _ _ _ (Oper.mk _ (Op.store _ _ _) _ _ _ _ :: _) _ _); refine wpList_store_row rfl 32 (.tmp 18) (.tmp 94) rfl wg.heap.size k4 z0 32 rfl rfl (heap_alloc_new _ _) HI.out.2.2.2 (HS.out.2.2.2.2.trans HS.out.2.2.2.1.symm) HO.out.2.2.2 ?_))
      have hZh := rowU ((row_new wg z0 k4).2.trans (Upd.drew _ _)) hZg
      have hVh := hVg.upd ((row_new wg z0 k4).2.trans (Upd.drew _ _)) (fun _ _ h => h)
      have hU14 := hU13.trans (((row_new wg z0 k4).2.trans (Upd.drew _ _)).mono (fun _ _ h => h.elim))
      clear hZg hVg hU13
      generalize hwh : (wg.alloc (Obj.cells z0 32)).setRow wg.heap.size k4 = wh at *
      clear hwh
      generalize wg.heap.size = b18 at *
      refine wp_region_plan_last [([0, 1, 2, 3, 4, 5, 6, 7, 9, 10], 8)] [11, 12, 13, 14, 15, 16, 17, 18] (fun w' => w'.heap[b15]? = some (.cells kz 32 (0, 0)) ∧ Vw w' (some ⟨b, 0, none⟩) 64 C 1 (bvs t)) (by kernel_rfl) (by kernel_rfl) ⟨hZh, hVh⟩ ?_
      iterate 10
        first
        | (refine plan_skip rfl rfl ?_)
        | (refine plan_take (v := ?_) rfl rfl (fun w' hS => ?_) ?_
           rotate_left
           · skip
             go_simp; try with_reducible rfl)
        simp only [Act.put, List.getElem_toArray, List.getElem_cons_zero, List.getElem_cons_succ, List.setIfInBounds_toArray, List.set_cons_zero, List.set_cons_succ]
      refine plan_act rfl (fun KK hKK => ?_)
      go_wp2_with fail
      refine hKK.out _ _ (.inr ⟨hZh, hVh⟩) ?_
      iterate 8
        first
        | (refine plan_lskip rfl rfl ?_)
        | (refine plan_last (v := ?_) rfl rfl (fun w' hS => ?_) ?_
           rotate_left
           · skip
             go_simp; try with_reducible rfl)
        simp only [Act.put, List.getElem_toArray, List.getElem_cons_zero, List.getElem_cons_succ, List.setIfInBounds_toArray, List.set_cons_zero, List.set_cons_succ]
      refine plan_end ?_
      go_wp2_with fail
      go_ret
      exact ⟨rfl, hU14.below (Nat.le_refl _) (fun i hi hs => by have := HB.out; omega)⟩
    · obtain ⟨h1, h2, h4, h5, h3⟩ := hcs
      have f0 : (48 : Int) ≤ (x.toNat : Int) := by omega
      have f1 : decide ((x.toNat : Int) ≤ (57 : Int)) = false := by rw [decide_eq_false_iff_not]; omega
      have f2 : (97 : Int) ≤ (x.toNat : Int) := by omega
      have f3 : (x.toNat : Int) ≤ (102 : Int) := by omega
      have hok : decide (0 ≤ ix) = true := by simp; omega
      rw [hok] at hF3
      rw [HB3.out (by omega)] at hH3
      clear hok
      go_wp2_with fail
      refine (hF3 _).mono ?_
      rintro e we ⟨rfl, hUe⟩
      have hVe := hV.upd hUe (fun _ _ h => h)
      have hU11 := hU10.trans (hUe.mono (fun _ _ h => h.elim))
      clear hV hU10 hUe hcv2
      go_upto_region 11 with (first | ((with_reducible show wpList _ _ _ (Oper.mk _ (Op.store _ _ _) _ _ _ _ :: _) _ _); refine wpList_store_row rfl 32 (.tmp 15) (.tmp 74) rfl we.heap.size kz z0 32 rfl rfl (heap_alloc_new _ _) HI.out.2.2.1 (HS.out.2.2.2.2.trans HS.out.2.2.1.symm) HO.out.2.2.1 ?_))
      have hZ := (row_new we z0 kz).1
      have hVf := hVe.upd (row_new we z0 kz).2 (fun _ _ h => h)
      have hU12 := hU11.trans ((row_new we z0 kz).2.mono (fun _ _ h => h.elim))
      clear hVe hU11
      generalize (we.alloc (Obj.cells z0 32)).setRow we.heap.size kz = wf at *
      generalize we.heap.size = b15 at *
      go_upto_region 12 with (fail)
      have hsl := str_drop1 h (by have := HLK.out; omega)
      rw [HD1.out] at hsl
      go_wp2_with fail
      refine (hF4 _).mono ?_
      rintro e wg ⟨rfl, hUg⟩
      have hZg := rowU hUg hZ
      have hVg := hVf.upd hUg (fun _ _ h => h)
      have hU13 := hU12.trans (hUg.mono (fun _ _ h => h.elim))
      clear hZ hVf hU12 hUg hsl
      go_upto_region 13 with (first | ((with_reducible show wpList _ _ _ (Oper.mk _ (Op.store _ _ _) _ _ _ _ :: _) _ _); refine wpList_store_row rfl 32 (.tmp 18) (.tmp 94) rfl wg.heap.size k4 z0 32 rfl rfl (heap_alloc_new _ _) HI.out.2.2.2 (HS.out.2.2.2.2.trans HS.out.2.2.2.1.symm) HO.out.2.2.2 ?_))
      have hZh := rowU ((row_new wg z0 k4).2.trans (Upd.drew _ _)) hZg
      have hVh := hVg.upd ((row_new wg z0 k4).2.trans (Upd.drew _ _)) (fun _ _ h => h)
      have hU14 := hU13.trans (((row_new wg z0 k4).2.trans (Upd.drew _ _)).mono (fun _ _ h => h.elim))
      clear hZg hVg hU13
      generalize hwh : (wg.alloc (Obj.cells z0 32)).setRow wg.heap.size k4 = wh at *
      clear hwh
      generalize wg.heap.size = b18 at *
      refine wp_region_plan_last [([0, 1, 2, 3, 4, 5, 6, 7, 9, 10], 8)] [11, 12, 13, 14, 15, 16, 17, 18] (fun w' => w'.heap[b15]? = some (.cells kz 32 (0, 0)) ∧ Vw w' (some ⟨b, 0, none⟩) 64 C 1 (bvs t)) (by kernel_rfl) (by kernel_rfl) ⟨hZh, hVh⟩ ?_
      iterate 7
        first
        | (refine plan_skip rfl rfl ?_)
        | (refine plan_take (v := ?_) rfl rfl (fun w' hS => ?_) ?_
           rotate_left
           · skip
             go_simp; try with_reducible rfl)
        simp only [Act.put, List.getElem_toArray, List.getElem_cons_zero, List.getElem_cons_succ, List.setIfInBounds_toArray, List.set_cons_zero, List.set_cons_succ]
      refine plan_take (v := .agg kz) rfl rfl (fun w' hS => exec_load_row 32 (.tmp 15) rfl b15 kz 32 (0, 0) _ rfl hS.1 Try.underlying32 rfl HI.out.2.2.1) ?_
      simp only [Act.put, List.getElem_toArray, List.getElem_cons_zero, List.getElem_cons_succ, List.setIfInBounds_toArray, List.set_cons_zero, List.set_cons_succ]
      iterate 1
        first
        | (refine plan_skip rfl rfl ?_)
        | (refine plan_take (v := ?_) rfl rfl (fun w' hS => ?_) ?_
           rotate_left
           · skip
             go_simp; try with_reducible rfl)
        simp only [Act.put, List.getElem_toArray, List.getElem_cons_zero, List.getElem_cons_succ, List.setIfInBounds_toArray, List.set_cons_zero, List.set_cons_succ]
      refine plan_take (v := .string (str t)) rfl rfl (fun w' hS => ?_) ?_
      · have hq := (show Vw w' (some ⟨b, 0, none⟩) t.length C 1 (bvs t) by rw [HTL.out]; exact hS.2).conv
        rw [HTL.out] at hq
        go_simp
      simp only [Act.put, List.getElem_toArray, List.getElem_cons_zero, List.getElem_cons_succ, List.setIfInBounds_toArray, List.set_cons_zero, List.set_cons_succ]
      refine plan_act rfl (fun KK hKK => ?_)
      go_wp2_with fail
      refine (hH3 _).mono ?_
      rintro e wi ⟨rfl, hUi⟩
      go_wp2_with fail
      refine hKK.out _ _ (.inr ⟨rowU hUi hZh, hVh.upd hUi (fun _ _ h => h)⟩) ?_
      iterate 8
        first
        | (refine plan_lskip rfl rfl ?_)
        | (refine plan_last (v := ?_) rfl rfl (fun w' hS => ?_) ?_
           rotate_left
           · skip
             go_simp; try with_reducible rfl)
        simp only [Act.put, List.getElem_toArray, List.getElem_cons_zero, List.getElem_cons_succ, List.setIfInBounds_toArray, List.set_cons_zero, List.set_cons_succ]
      refine plan_end ?_
      go_wp2_with fail
      go_ret
      exact ⟨rfl, (hU14.trans (hUi.mono (fun _ _ h => h.elim))).below (Nat.le_refl _) (fun i hi hs => by have := HB.out; omega)⟩
    · obtain ⟨h1, h2, h4, h5, h3⟩ := hcs
      have f0 : (48 : Int) ≤ (x.toNat : Int) := by omega
      have f1 : decide ((x.toNat : Int) ≤ (57 : Int)) = false := by rw [decide_eq_false_iff_not]; omega
      have f2 : (97 : Int) ≤ (x.toNat : Int) := by omega
      have f3 : decide ((x.toNat : Int) ≤ (102 : Int)) = false := by rw [decide_eq_false_iff_not]; omega
      have hok : decide (0 ≤ ix) = false := by simp; omega
      rw [hok] at hF3
      clear hok
      go_wp2_with fail
      refine (hF3 _).mono ?_
      rintro e we ⟨rfl, hUe⟩
      have hVe := hV.upd hUe (fun _ _ h => h)
      have hU11 := hU10.trans (hUe.mono (fun _ _ h => h.elim))
      clear hV hU10 hUe hcv2
      go_upto_region 11 with (first | ((with_reducible show wpList _ _ _ (Oper.mk _ (Op.store _ _ _) _ _ _ _ :: _) _ _); refine wpList_store_row rfl 32 (.tmp 15) (.tmp 74) rfl we.heap.size kz z0 32 rfl rfl (heap_alloc_new _ _) HI.out.2.2.1 (HS.out.2.2.2.2.trans HS.out.2.2.1.symm) HO.out.2.2.1 ?_))
      have hZ := (row_new we z0 kz).1
      have hVf := hVe.upd (row_new we z0 kz).2 (fun _ _ h => h)
      have hU12 := hU11.trans ((row_new we z0 kz).2.mono (fun _ _ h => h.elim))
      clear hVe hU11
      generalize (we.alloc (Obj.cells z0 32)).setRow we.heap.size kz = wf at *
      generalize we.heap.size = b15 at *
      go_upto_region 12 with (fail)
      have hsl := str_drop1 h (by have := HLK.out; omega)
      rw [HD1.out] at hsl
      go_wp2_with fail
      refine (hF4 _).mono ?_
      rintro e wg ⟨rfl, hUg⟩
      have hZg := rowU hUg hZ
      have hVg := hVf.upd hUg (fun _ _ h => h)
      have hU13 := hU12.trans (hUg.mono (fun _ _ h => h.elim))
      clear hZ hVf hU12 hUg hsl
      go_upto_region 13 with (first | ((with_reducible show wpList _ _ _ (Oper.mk _ (Op.store _ _ _) _ _ _ _ :: _) _ _); refine wpList_store_row rfl 32 (.tmp 18) (.tmp 94) rfl wg.heap.size k4 z0 32 rfl rfl (heap_alloc_new _ _) HI.out.2.2.2 (HS.out.2.2.2.2.trans HS.out.2.2.2.1.symm) HO.out.2.2.2 ?_))
      have hZh := rowU ((row_new wg z0 k4).2.trans (Upd.drew _ _)) hZg
      have hVh := hVg.upd ((row_new wg z0 k4).2.trans (Upd.drew _ _)) (fun _ _ h => h)
      have hU14 := hU13.trans (((row_new wg z0 k4).2.trans (Upd.drew _ _)).mono (fun _ _ h => h.elim))
      clear hZg hVg hU13
      generalize hwh : (wg.alloc (Obj.cells z0 32)).setRow wg.heap.size k4 = wh at *
      clear hwh
      generalize wg.heap.size = b18 at *
      refine wp_region_plan_last [([0, 1, 2, 3, 4, 5, 6, 7, 9, 10], 8)] [11, 12, 13, 14, 15, 16, 17, 18] (fun w' => w'.heap[b15]? = some (.cells kz 32 (0, 0)) ∧ Vw w' (some ⟨b, 0, none⟩) 64 C 1 (bvs t)) (by kernel_rfl) (by kernel_rfl) ⟨hZh, hVh⟩ ?_
      iterate 10
        first
        | (refine plan_skip rfl rfl ?_)
        | (refine plan_take (v := ?_) rfl rfl (fun w' hS => ?_) ?_
           rotate_left
           · skip
             go_simp; try with_reducible rfl)
        simp only [Act.put, List.getElem_toArray, List.getElem_cons_zero, List.getElem_cons_succ, List.setIfInBounds_toArray, List.set_cons_zero, List.set_cons_succ]
      refine plan_act rfl (fun KK hKK => ?_)
      go_wp2_with fail
      refine hKK.out _ _ (.inr ⟨hZh, hVh⟩) ?_
      iterate 8
        first
        | (refine plan_lskip rfl rfl ?_)
        | (refine plan_last (v := ?_) rfl rfl (fun w' hS => ?_) ?_
           rotate_left
           · skip
             go_simp; try with_reducible rfl)
        simp only [Act.put, List.getElem_toArray, List.getElem_cons_zero, List.getElem_cons_succ, List.setIfInBounds_toArray, List.set_cons_zero, List.set_cons_succ]
      refine plan_end ?_
      go_wp2_with fail
      go_ret
      exact ⟨rfl, hU14.below (Nat.le_refl _) (fun i hi hs => by have := HB.out; omega)⟩
  · have hys := HB1.out rfl
    rw [hys] at hH2
    go_wp2_with (first | ((with_reducible show wpList _ _ _ (Oper.mk _ (Op.load _ _) _ _ _ _ :: _) _ _); first | refine wpList_load_rowG rfl 32 (.tmp 4) rfl B kx 32 (0, 0) _ rfl hR7 Try.underlying32 rfl HI.out.1 ?_ | refine wpList_load_rowG rfl 32 (.tmp 10) rfl b10 kx 32 (0, 0) _ rfl hX7 Try.underlying32 rfl HI.out.1 ?_ | refine wpList_load_rowG rfl 32 (.tmp 12) rfl b12 ky 32 (0, 0) _ rfl hY7 Try.underlying32 rfl HI.out.2.1 ?_))
    refine (hH2 _).mono ?_
    rintro e w8 ⟨rfl, hU8⟩
    have hU08 := hU07.trans (hU8.mono (fun _ _ h => h.elim))
    clear hU07 hU8
    go_upto_region 8 with (fail)
    obtain ⟨C, wc, hcv, ⟨rest, fr, hg, rfl, hC⟩, hCm, hUc⟩ := conv_bytes h w8 (by rw [HLK.out]; decide)
    obtain ⟨hcell, hth⟩ := row_cell hg hC (p := p) (by rw [HLK.out]; exact hp64)
    have hV := vw_set hg hC hCm (p := p) (by rw [HLK.out]; exact hp64) x
    rw [HT.out] at hV
    have htl : t.length = 64 := by rw [← HT.out]; simp [HLK.out]
    rw [htl] at hV
    rw [HLK.out] at hcv
    have hlt9 := lt_of_heap hg
    have hold : w8.heap.size ≤ w8.heap.size := Nat.le_refl _
    have hU09 := hU08.trans (hUc.mono (fun _ _ h => h.elim))
    have hBW := hU08.size
    have hp1 := HP.out
    have hp2 : at' % 18446744073709551616 % 64 = (p : Int) := by rw [← hp1]; rfl
    have hp3 : (p : Int) < 64 := by omega
    have hp5 : (IntKind.u64.wrap at').tmod 64 = (p : Int) := by
      rw [← hp1]
      exact Int.tmod_eq_emod_of_nonneg (by show 0 ≤ at' % 18446744073709551616; omega)
    have hp4 : p ≤ C := by have := HLK.out; omega
    have HTL := Lib.hid htl
    have HCC := Lib.hid hC
    have HCM := Lib.hid hCm
    clear hg hC hUc hU08 hold htl hCm
    generalize w8.heap.size = b at *
    generalize (h.getD p 0) = x0 at *
    have hbv : bv x = .int .u8 (x.toNat : Int) := rfl
    rw [hbv] at hV
    have hU10 : Upd (fun i => B ≤ i) w (wc.setCell ⟨b, p, none⟩ (.int .u8 (x.toNat : Int))) := hU09.trans (Upd.setCell (S := fun i => B ≤ i) wc (by show B ≤ b; have := HB.out; omega) _)
    clear hU09 hbv
    go_upto_region 10 with (fail)
    generalize wc.setCell ⟨b, p, none⟩ (.int .u8 (x.toNat : Int)) = wd at *
    have hcv2 := (show Vw wd (some ⟨b, 0, none⟩) t.length C 1 (bvs t) by rw [HTL.out]; exact hV).conv
    rw [HTL.out] at hcv2
    clear hcell hth hp1 hp2 hp3 hp5 hcv
    rcases HC.out with hcs | hcs | hcs | hcs | hcs
    · obtain ⟨h1, h2, h3⟩ := hcs
      have f0 : decide ((48 : Int) ≤ (x.toNat : Int)) = false := by rw [decide_eq_false_iff_not]; omega
      have f1 : decide ((97 : Int) ≤ (x.toNat : Int)) = false := by rw [decide_eq_false_iff_not]; omega
      have hok : decide (0 ≤ ix) = false := by simp; omega
      rw [hok] at hF3
      clear hok
      go_wp2_with fail
      refine (hF3 _).mono ?_
      rintro e we ⟨rfl, hUe⟩
      have hVe := hV.upd hUe (fun _ _ h => h)
      have hU11 := hU10.trans (hUe.mono (fun _ _ h => h.elim))
      clear hV hU10 hUe hcv2
      go_upto_region 11 with (first | ((with_reducible show wpList _ _ _ (Oper.mk _ (Op.store _ _ _) _ _ _ _ :: _) _ _); refine wpList_store_row rfl 32 (.tmp 15) (.tmp 74) rfl we.heap.size kz z0 32 rfl rfl (heap_alloc_new _ _) HI.out.2.2.1 (HS.out.2.2.2.2.trans HS.out.2.2.1.symm) HO.out.2.2.1 ?_))
      have hZ := (row_new we z0 kz).1
      have hVf := hVe.upd (row_new we z0 kz).2 (fun _ _ h => h)
      have hU12 := hU11.trans ((row_new we z0 kz).2.mono (fun _ _ h => h.elim))
      clear hVe hU11
      generalize (we.alloc (Obj.cells z0 32)).setRow we.heap.size kz = wf at *
      generalize we.heap.size = b15 at *
      go_upto_region 12 with (fail)
      have hsl := str_drop1 h (by have := HLK.out; omega)
      rw [HD1.out] at hsl
      go_wp2_with fail
      refine (hF4 _).mono ?_
      rintro e wg ⟨rfl, hUg⟩
      have hZg := rowU hUg hZ
      have hVg := hVf.upd hUg (fun _ _ h => h)
      have hU13 := hU12.trans (hUg.mono (fun _ _ h => h.elim))
      clear hZ hVf hU12 hUg hsl
      go_upto_region 13 with (first | ((with_reducible show wpList _ _ _ (Oper.mk _ (Op.store _ _ _) _ _ _ _ :: _) _ _); refine wpList_store_row rfl 32 (.tmp 18) (.tmp 94) rfl wg.heap.size k4 z0 32 rfl rfl (heap_alloc_new _ _) HI.out.2.2.2 (HS.out.2.2.2.2.trans HS.out.2.2.2.1.symm) HO.out.2.2.2 ?_))
      have hZh := rowU ((row_new wg z0 k4).2.trans (Upd.drew _ _)) hZg
      have hVh := hVg.upd ((row_new wg z0 k4).2.trans (Upd.drew _ _)) (fun _ _ h => h)
      have hU14 := hU13.trans (((row_new wg z0 k4).2.trans (Upd.drew _ _)).mono (fun _ _ h => h.elim))
      clear hZg hVg hU13
      generalize hwh : (wg.alloc (Obj.cells z0 32)).setRow wg.heap.size k4 = wh at *
      clear hwh
      generalize wg.heap.size = b18 at *
      refine wp_region_plan_last [([0, 1, 2, 3, 4, 5, 6, 7, 9, 10], 8)] [11, 12, 13, 14, 15, 16, 17, 18] (fun w' => w'.heap[b15]? = some (.cells kz 32 (0, 0)) ∧ Vw w' (some ⟨b, 0, none⟩) 64 C 1 (bvs t)) (by kernel_rfl) (by kernel_rfl) ⟨hZh, hVh⟩ ?_
      iterate 10
        first
        | (refine plan_skip rfl rfl ?_)
        | (refine plan_take (v := ?_) rfl rfl (fun w' hS => ?_) ?_
           rotate_left
           · skip
             go_simp; try with_reducible rfl)
        simp only [Act.put, List.getElem_toArray, List.getElem_cons_zero, List.getElem_cons_succ, List.setIfInBounds_toArray, List.set_cons_zero, List.set_cons_succ]
      refine plan_act rfl (fun KK hKK => ?_)
      go_wp2_with fail
      refine hKK.out _ _ (.inr ⟨hZh, hVh⟩) ?_
      iterate 8
        first
        | (refine plan_lskip rfl rfl ?_)
        | (refine plan_last (v := ?_) rfl rfl (fun w' hS => ?_) ?_
           rotate_left
           · skip
             go_simp; try with_reducible rfl)
        simp only [Act.put, List.getElem_toArray, List.getElem_cons_zero, List.getElem_cons_succ, List.setIfInBounds_toArray, List.set_cons_zero, List.set_cons_succ]
      refine plan_end ?_
      go_wp2_with fail
      go_ret
      exact ⟨rfl, hU14.below (Nat.le_refl _) (fun i hi hs => by have := HB.out; omega)⟩
    · obtain ⟨h1, h2, h3⟩ := hcs
      have f0 : (48 : Int) ≤ (x.toNat : Int) := by omega
      have f1 : (x.toNat : Int) ≤ (57 : Int) := by omega
      have hok : decide (0 ≤ ix) = true := by simp; omega
      rw [hok] at hF3
      rw [HB3.out (by omega)] at hH3
      clear hok
      go_wp2_with fail
      refine (hF3 _).mono ?_
      rintro e we ⟨rfl, hUe⟩
      have hVe := hV.upd hUe (fun _ _ h => h)
      have hU11 := hU10.trans (hUe.mono (fun _ _ h => h.elim))
      clear hV hU10 hUe hcv2
      go_upto_region 11 with (first | ((with_reducible show wpList _ _ _ (Oper.mk _ (Op.store _ _ _) _ _ _ _ :: _) _ _); refine wpList_store_row rfl 32 (.tmp 15) (.tmp 74) rfl we.heap.size kz z0 32 rfl rfl (heap_alloc_new _ _) HI.out.2.2.1 (HS.out.2.2.2.2.trans HS.out.2.2.1.symm) HO.out.2.2.1 ?_))
      have hZ := (row_new we z0 kz).1
      have hVf := hVe.upd (row_new we z0 kz).2 (fun _ _ h => h)
      have hU12 := hU11.trans ((row_new we z0 kz).2.mono (fun _ _ h => h.elim))
      clear hVe hU11
      generalize (we.alloc (Obj.cells z0 32)).setRow we.heap.size kz = wf at *
      generalize we.heap.size = b15 at *
      go_upto_region 12 with (fail)
      have hsl := str_drop1 h (by have := HLK.out; omega)
      rw [HD1.out] at hsl
      go_wp2_with fail
      refine (hF4 _).mono ?_
      rintro e wg ⟨rfl, hUg⟩
      have hZg := rowU hUg hZ
      have hVg := hVf.upd hUg (fun _ _ h => h)
      have hU13 := hU12.trans (hUg.mono (fun _ _ h => h.elim))
      clear hZ hVf hU12 hUg hsl
      go_upto_region 13 with (first | ((with_reducible show wpList _ _ _ (Oper.mk _ (Op.store _ _ _) _ _ _ _ :: _) _ _); refine wpList_store_row rfl 32 (.tmp 18) (.tmp 94) rfl wg.heap.size k4 z0 32 rfl rfl (heap_alloc_new _ _) HI.out.2.2.2 (HS.out.2.2.2.2.trans HS.out.2.2.2.1.symm) HO.out.2.2.2 ?_))
      have hZh := rowU ((row_new wg z0 k4).2.trans (Upd.drew _ _)) hZg
      have hVh := hVg.upd ((row_new wg z0 k4).2.trans (Upd.drew _ _)) (fun _ _ h => h)
      have hU14 := hU13.trans (((row_new wg z0 k4).2.trans (Upd.drew _ _)).mono (fun _ _ h => h.elim))
      clear hZg hVg hU13
      generalize hwh : (wg.alloc (Obj.cells z0 32)).setRow wg.heap.size k4 = wh at *
      clear hwh
      generalize wg.heap.size = b18 at *
      refine wp_region_plan_last [([0, 1, 2, 3, 4, 5, 6, 7, 9, 10], 8)] [11, 12, 13, 14, 15, 16, 17, 18] (fun w' => w'.heap[b15]? = some (.cells kz 32 (0, 0)) ∧ Vw w' (some ⟨b, 0, none⟩) 64 C 1 (bvs t)) (by kernel_rfl) (by kernel_rfl) ⟨hZh, hVh⟩ ?_
      iterate 7
        first
        | (refine plan_skip rfl rfl ?_)
        | (refine plan_take (v := ?_) rfl rfl (fun w' hS => ?_) ?_
           rotate_left
           · skip
             go_simp; try with_reducible rfl)
        simp only [Act.put, List.getElem_toArray, List.getElem_cons_zero, List.getElem_cons_succ, List.setIfInBounds_toArray, List.set_cons_zero, List.set_cons_succ]
      refine plan_take (v := .agg kz) rfl rfl (fun w' hS => exec_load_row 32 (.tmp 15) rfl b15 kz 32 (0, 0) _ rfl hS.1 Try.underlying32 rfl HI.out.2.2.1) ?_
      simp only [Act.put, List.getElem_toArray, List.getElem_cons_zero, List.getElem_cons_succ, List.setIfInBounds_toArray, List.set_cons_zero, List.set_cons_succ]
      iterate 1
        first
        | (refine plan_skip rfl rfl ?_)
        | (refine plan_take (v := ?_) rfl rfl (fun w' hS => ?_) ?_
           rotate_left
           · skip
             go_simp; try with_reducible rfl)
        simp only [Act.put, List.getElem_toArray, List.getElem_cons_zero, List.getElem_cons_succ, List.setIfInBounds_toArray, List.set_cons_zero, List.set_cons_succ]
      refine plan_take (v := .string (str t)) rfl rfl (fun w' hS => ?_) ?_
      · have hq := (show Vw w' (some ⟨b, 0, none⟩) t.length C 1 (bvs t) by rw [HTL.out]; exact hS.2).conv
        rw [HTL.out] at hq
        go_simp
      simp only [Act.put, List.getElem_toArray, List.getElem_cons_zero, List.getElem_cons_succ, List.setIfInBounds_toArray, List.set_cons_zero, List.set_cons_succ]
      refine plan_act rfl (fun KK hKK => ?_)
      go_wp2_with fail
      refine (hH3 _).mono ?_
      rintro e wi ⟨rfl, hUi⟩
      go_wp2_with fail
      refine hKK.out _ _ (.inr ⟨rowU hUi hZh, hVh.upd hUi (fun _ _ h => h)⟩) ?_
      iterate 8
        first
        | (refine plan_lskip rfl rfl ?_)
        | (refine plan_last (v := ?_) rfl rfl (fun w' hS => ?_) ?_
           rotate_left
           · skip
             go_simp; try with_reducible rfl)
        simp only [Act.put, List.getElem_toArray, List.getElem_cons_zero, List.getElem_cons_succ, List.setIfInBounds_toArray, List.set_cons_zero, List.set_cons_succ]
      refine plan_end ?_
      go_wp2_with fail
      go_ret
      exact ⟨rfl, (hU14.trans (hUi.mono (fun _ _ h => h.elim))).below (Nat.le_refl _) (fun i hi hs => by have := HB.out; omega)⟩
    · obtain ⟨h1, h2, h4, h3⟩ := hcs
      have f0 : (48 : Int) ≤ (x.toNat : Int) := by omega
      have f1 : decide ((x.toNat : Int) ≤ (57 : Int)) = false := by rw [decide_eq_false_iff_not]; omega
      have f2 : decide ((97 : Int) ≤ (x.toNat : Int)) = false := by rw [decide_eq_false_iff_not]; omega
      have hok : decide (0 ≤ ix) = false := by simp; omega
      rw [hok] at hF3
      clear hok
      go_wp2_with fail
      refine (hF3 _).mono ?_
      rintro e we ⟨rfl, hUe⟩
      have hVe := hV.upd hUe (fun _ _ h => h)
      have hU11 := hU10.trans (hUe.mono (fun _ _ h => h.elim))
      clear hV hU10 hUe hcv2
      go_upto_region 11 with (first | ((with_reducible show wpList _ _ _ (Oper.mk _ (Op.store _ _ _) _ _ _ _ :: _) _ _); refine wpList_store_row rfl 32 (.tmp 15) (.tmp 74) rfl we.heap.size kz z0 32 rfl rfl (heap_alloc_new _ _) HI.out.2.2.1 (HS.out.2.2.2.2.trans HS.out.2.2.1.symm) HO.out.2.2.1 ?_))
      have hZ := (row_new we z0 kz).1
      have hVf := hVe.upd (row_new we z0 kz).2 (fun _ _ h => h)
      have hU12 := hU11.trans ((row_new we z0 kz).2.mono (fun _ _ h => h.elim))
      clear hVe hU11
      generalize (we.alloc (Obj.cells z0 32)).setRow we.heap.size kz = wf at *
      generalize we.heap.size = b15 at *
      go_upto_region 12 with (fail)
      have hsl := str_drop1 h (by have := HLK.out; omega)
      rw [HD1.out] at hsl
      go_wp2_with fail
      refine (hF4 _).mono ?_
      rintro e wg ⟨rfl, hUg⟩
      have hZg := rowU hUg hZ
      have hVg := hVf.upd hUg (fun _ _ h => h)
      have hU13 := hU12.trans (hUg.mono (fun _ _ h => h.elim))
      clear hZ hVf hU12 hUg hsl
      go_upto_region 13 with (first | ((with_reducible show wpList _ _ _ (Oper.mk _ (Op.store _ _ _) _ _ _ _ :: _) _ _); refine wpList_store_row rfl 32 (.tmp 18) (.tmp 94) rfl wg.heap.size k4 z0 32 rfl rfl (heap_alloc_new _ _) HI.out.2.2.2 (HS.out.2.2.2.2.trans HS.out.2.2.2.1.symm) HO.out.2.2.2 ?_))
      have hZh := rowU ((row_new wg z0 k4).2.trans (Upd.drew _ _)) hZg
      have hVh := hVg.upd ((row_new wg z0 k4).2.trans (Upd.drew _ _)) (fun _ _ h => h)
      have hU14 := hU13.trans (((row_new wg z0 k4).2.trans (Upd.drew _ _)).mono (fun _ _ h => h.elim))
      clear hZg hVg hU13
      generalize hwh : (wg.alloc (Obj.cells z0 32)).setRow wg.heap.size k4 = wh at *
      clear hwh
      generalize wg.heap.size = b18 at *
      refine wp_region_plan_last [([0, 1, 2, 3, 4, 5, 6, 7, 9, 10], 8)] [11, 12, 13, 14, 15, 16, 17, 18] (fun w' => w'.heap[b15]? = some (.cells kz 32 (0, 0)) ∧ Vw w' (some ⟨b, 0, none⟩) 64 C 1 (bvs t)) (by kernel_rfl) (by kernel_rfl) ⟨hZh, hVh⟩ ?_
      iterate 10
        first
        | (refine plan_skip rfl rfl ?_)
        | (refine plan_take (v := ?_) rfl rfl (fun w' hS => ?_) ?_
           rotate_left
           · skip
             go_simp; try with_reducible rfl)
        simp only [Act.put, List.getElem_toArray, List.getElem_cons_zero, List.getElem_cons_succ, List.setIfInBounds_toArray, List.set_cons_zero, List.set_cons_succ]
      refine plan_act rfl (fun KK hKK => ?_)
      go_wp2_with fail
      refine hKK.out _ _ (.inr ⟨hZh, hVh⟩) ?_
      iterate 8
        first
        | (refine plan_lskip rfl rfl ?_)
        | (refine plan_last (v := ?_) rfl rfl (fun w' hS => ?_) ?_
           rotate_left
           · skip
             go_simp; try with_reducible rfl)
        simp only [Act.put, List.getElem_toArray, List.getElem_cons_zero, List.getElem_cons_succ, List.setIfInBounds_toArray, List.set_cons_zero, List.set_cons_succ]
      refine plan_end ?_
      go_wp2_with fail
      go_ret
      exact ⟨rfl, hU14.below (Nat.le_refl _) (fun i hi hs => by have := HB.out; omega)⟩
    · obtain ⟨h1, h2, h4, h5, h3⟩ := hcs
      have f0 : (48 : Int) ≤ (x.toNat : Int) := by omega
      have f1 : decide ((x.toNat : Int) ≤ (57 : Int)) = false := by rw [decide_eq_false_iff_not]; omega
      have f2 : (97 : Int) ≤ (x.toNat : Int) := by omega
      have f3 : (x.toNat : Int) ≤ (102 : Int) := by omega
      have hok : decide (0 ≤ ix) = true := by simp; omega
      rw [hok] at hF3
      rw [HB3.out (by omega)] at hH3
      clear hok
      go_wp2_with fail
      refine (hF3 _).mono ?_
      rintro e we ⟨rfl, hUe⟩
      have hVe := hV.upd hUe (fun _ _ h => h)
      have hU11 := hU10.trans (hUe.mono (fun _ _ h => h.elim))
      clear hV hU10 hUe hcv2
      go_upto_region 11 with (first | ((with_reducible show wpList _ _ _ (Oper.mk _ (Op.store _ _ _) _ _ _ _ :: _) _ _); refine wpList_store_row rfl 32 (.tmp 15) (.tmp 74) rfl we.heap.size kz z0 32 rfl rfl (heap_alloc_new _ _) HI.out.2.2.1 (HS.out.2.2.2.2.trans HS.out.2.2.1.symm) HO.out.2.2.1 ?_))
      have hZ := (row_new we z0 kz).1
      have hVf := hVe.upd (row_new we z0 kz).2 (fun _ _ h => h)
      have hU12 := hU11.trans ((row_new we z0 kz).2.mono (fun _ _ h => h.elim))
      clear hVe hU11
      generalize (we.alloc (Obj.cells z0 32)).setRow we.heap.size kz = wf at *
      generalize we.heap.size = b15 at *
      go_upto_region 12 with (fail)
      have hsl := str_drop1 h (by have := HLK.out; omega)
      rw [HD1.out] at hsl
      go_wp2_with fail
      refine (hF4 _).mono ?_
      rintro e wg ⟨rfl, hUg⟩
      have hZg := rowU hUg hZ
      have hVg := hVf.upd hUg (fun _ _ h => h)
      have hU13 := hU12.trans (hUg.mono (fun _ _ h => h.elim))
      clear hZ hVf hU12 hUg hsl
      go_upto_region 13 with (first | ((with_reducible show wpList _ _ _ (Oper.mk _ (Op.store _ _ _) _ _ _ _ :: _) _ _); refine wpList_store_row rfl 32 (.tmp 18) (.tmp 94) rfl wg.heap.size k4 z0 32 rfl rfl (heap_alloc_new _ _) HI.out.2.2.2 (HS.out.2.2.2.2.trans HS.out.2.2.2.1.symm) HO.out.2.2.2 ?_))
      have hZh := rowU ((row_new wg z0 k4).2.trans (Upd.drew _ _)) hZg
      have hVh := hVg.upd ((row_new wg z0 k4).2.trans (Upd.drew _ _)) (fun _ _ h => h)
      have hU14 := hU13.trans (((row_new wg z0 k4).2.trans (Upd.drew _ _)).mono (fun _ _ h => h.elim))
      clear hZg hVg hU13
      generalize hwh : (wg.alloc (Obj.cells z0 32)).setRow wg.heap.size k4 = wh at *
      clear hwh
      generalize wg.heap.size = b18 at *
      refine wp_region_plan_last [([0, 1, 2, 3, 4, 5, 6, 7, 9, 10], 8)] [11, 12, 13, 14, 15, 16, 17, 18] (fun w' => w'.heap[b15]? = some (.cells kz 32 (0, 0)) ∧ Vw w' (some ⟨b, 0, none⟩) 64 C 1 (bvs t)) (by kernel_rfl) (by kernel_rfl) ⟨hZh, hVh⟩ ?_
      iterate 7
        first
        | (refine plan_skip rfl rfl ?_)
        | (refine plan_take (v := ?_) rfl rfl (fun w' hS => ?_) ?_
           rotate_left
           · skip
             go_simp; try with_reducible rfl)
        simp only [Act.put, List.getElem_toArray, List.getElem_cons_zero, List.getElem_cons_succ, List.setIfInBounds_toArray, List.set_cons_zero, List.set_cons_succ]
      refine plan_take (v := .agg kz) rfl rfl (fun w' hS => exec_load_row 32 (.tmp 15) rfl b15 kz 32 (0, 0) _ rfl hS.1 Try.underlying32 rfl HI.out.2.2.1) ?_
      simp only [Act.put, List.getElem_toArray, List.getElem_cons_zero, List.getElem_cons_succ, List.setIfInBounds_toArray, List.set_cons_zero, List.set_cons_succ]
      iterate 1
        first
        | (refine plan_skip rfl rfl ?_)
        | (refine plan_take (v := ?_) rfl rfl (fun w' hS => ?_) ?_
           rotate_left
           · skip
             go_simp; try with_reducible rfl)
        simp only [Act.put, List.getElem_toArray, List.getElem_cons_zero, List.getElem_cons_succ, List.setIfInBounds_toArray, List.set_cons_zero, List.set_cons_succ]
      refine plan_take (v := .string (str t)) rfl rfl (fun w' hS => ?_) ?_
      · have hq := (show Vw w' (some ⟨b, 0, none⟩) t.length C 1 (bvs t) by rw [HTL.out]; exact hS.2).conv
        rw [HTL.out] at hq
        go_simp
      simp only [Act.put, List.getElem_toArray, List.getElem_cons_zero, List.getElem_cons_succ, List.setIfInBounds_toArray, List.set_cons_zero, List.set_cons_succ]
      refine plan_act rfl (fun KK hKK => ?_)
      go_wp2_with fail
      refine (hH3 _).mono ?_
      rintro e wi ⟨rfl, hUi⟩
      go_wp2_with fail
      refine hKK.out _ _ (.inr ⟨rowU hUi hZh, hVh.upd hUi (fun _ _ h => h)⟩) ?_
      iterate 8
        first
        | (refine plan_lskip rfl rfl ?_)
        | (refine plan_last (v := ?_) rfl rfl (fun w' hS => ?_) ?_
           rotate_left
           · skip
             go_simp; try with_reducible rfl)
        simp only [Act.put, List.getElem_toArray, List.getElem_cons_zero, List.getElem_cons_succ, List.setIfInBounds_toArray, List.set_cons_zero, List.set_cons_succ]
      refine plan_end ?_
      go_wp2_with fail
      go_ret
      exact ⟨rfl, (hU14.trans (hUi.mono (fun _ _ h => h.elim))).below (Nat.le_refl _) (fun i hi hs => by have := HB.out; omega)⟩
    · obtain ⟨h1, h2, h4, h5, h3⟩ := hcs
      have f0 : (48 : Int) ≤ (x.toNat : Int) := by omega
      have f1 : decide ((x.toNat : Int) ≤ (57 : Int)) = false := by rw [decide_eq_false_iff_not]; omega
      have f2 : (97 : Int) ≤ (x.toNat : Int) := by omega
      have f3 : decide ((x.toNat : Int) ≤ (102 : Int)) = false := by rw [decide_eq_false_iff_not]; omega
      have hok : decide (0 ≤ ix) = false := by simp; omega
      rw [hok] at hF3
      clear hok
      go_wp2_with fail
      refine (hF3 _).mono ?_
      rintro e we ⟨rfl, hUe⟩
      have hVe := hV.upd hUe (fun _ _ h => h)
      have hU11 := hU10.trans (hUe.mono (fun _ _ h => h.elim))
      clear hV hU10 hUe hcv2
      go_upto_region 11 with (first | ((with_reducible show wpList _ _ _ (Oper.mk _ (Op.store _ _ _) _ _ _ _ :: _) _ _); refine wpList_store_row rfl 32 (.tmp 15) (.tmp 74) rfl we.heap.size kz z0 32 rfl rfl (heap_alloc_new _ _) HI.out.2.2.1 (HS.out.2.2.2.2.trans HS.out.2.2.1.symm) HO.out.2.2.1 ?_))
      have hZ := (row_new we z0 kz).1
      have hVf := hVe.upd (row_new we z0 kz).2 (fun _ _ h => h)
      have hU12 := hU11.trans ((row_new we z0 kz).2.mono (fun _ _ h => h.elim))
      clear hVe hU11
      generalize (we.alloc (Obj.cells z0 32)).setRow we.heap.size kz = wf at *
      generalize we.heap.size = b15 at *
      go_upto_region 12 with (fail)
      have hsl := str_drop1 h (by have := HLK.out; omega)
      rw [HD1.out] at hsl
      go_wp2_with fail
      refine (hF4 _).mono ?_
      rintro e wg ⟨rfl, hUg⟩
      have hZg := rowU hUg hZ
      have hVg := hVf.upd hUg (fun _ _ h => h)
      have hU13 := hU12.trans (hUg.mono (fun _ _ h => h.elim))
      clear hZ hVf hU12 hUg hsl
      go_upto_region 13 with (first | ((with_reducible show wpList _ _ _ (Oper.mk _ (Op.store _ _ _) _ _ _ _ :: _) _ _); refine wpList_store_row rfl 32 (.tmp 18) (.tmp 94) rfl wg.heap.size k4 z0 32 rfl rfl (heap_alloc_new _ _) HI.out.2.2.2 (HS.out.2.2.2.2.trans HS.out.2.2.2.1.symm) HO.out.2.2.2 ?_))
      have hZh := rowU ((row_new wg z0 k4).2.trans (Upd.drew _ _)) hZg
      have hVh := hVg.upd ((row_new wg z0 k4).2.trans (Upd.drew _ _)) (fun _ _ h => h)
      have hU14 := hU13.trans (((row_new wg z0 k4).2.trans (Upd.drew _ _)).mono (fun _ _ h => h.elim))
      clear hZg hVg hU13
      generalize hwh : (wg.alloc (Obj.cells z0 32)).setRow wg.heap.size k4 = wh at *
      clear hwh
      generalize wg.heap.size = b18 at *
      refine wp_region_plan_last [([0, 1, 2, 3, 4, 5, 6, 7, 9, 10], 8)] [11, 12, 13, 14, 15, 16, 17, 18] (fun w' => w'.heap[b15]? = some (.cells kz 32 (0, 0)) ∧ Vw w' (some ⟨b, 0, none⟩) 64 C 1 (bvs t)) (by kernel_rfl) (by kernel_rfl) ⟨hZh, hVh⟩ ?_
      iterate 10
        first
        | (refine plan_skip rfl rfl ?_)
        | (refine plan_take (v := ?_) rfl rfl (fun w' hS => ?_) ?_
           rotate_left
           · skip
             go_simp; try with_reducible rfl)
        simp only [Act.put, List.getElem_toArray, List.getElem_cons_zero, List.getElem_cons_succ, List.setIfInBounds_toArray, List.set_cons_zero, List.set_cons_succ]
      refine plan_act rfl (fun KK hKK => ?_)
      go_wp2_with fail
      refine hKK.out _ _ (.inr ⟨hZh, hVh⟩) ?_
      iterate 8
        first
        | (refine plan_lskip rfl rfl ?_)
        | (refine plan_last (v := ?_) rfl rfl (fun w' hS => ?_) ?_
           rotate_left
           · skip
             go_simp; try with_reducible rfl)
        simp only [Act.put, List.getElem_toArray, List.getElem_cons_zero, List.getElem_cons_succ, List.setIfInBounds_toArray, List.set_cons_zero, List.set_cons_succ]
      refine plan_end ?_
      go_wp2_with fail
      go_ret
      exact ⟨rfl, hU14.below (Nat.le_refl _) (fun i hi hs => by have := HB.out; omega)⟩
end Go.Proofs.Ytafkcmgfkecljaa
