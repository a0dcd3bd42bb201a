
/- What metalog's reader appends, one by one. -/
import Derived.Test.YtccejkikphpnfaaGreatDoorQ16
namespace Go.Proofs.YtccejkikphpnfaaGreatDoor
set_option linter.unusedSimpArgs false
set_option linter.unusedVariables false
set_option maxRecDepth 100000
open Go.ChangeShapes Go.WideShapes Go.ChangeAt Go.RowKit
theorem wpList_slice_gen {ops : Array Oper} {rest : List Oper} {op : Oper} {ac : Act} {w : World} {Q : Exit → Act → World → Prop} (hgd : op.guard = none) (sT eT : TypeId) (k : Nat) (x : Operand) (ho : op.op = .buildSlice sT 1 #[(0, x)])
  (hu : Tryz.prog.underlying sT = some (.slice eT)) (i0 : TypeInfo) (z : Value) (hi : Tryz.prog.info? eT = some i0) (hz0 : i0.zero = some z) (hz1 : i0.size = k) (hk0 : k ≠ 0) (hk1 : k ≤ 16777216) (v : Value) (X : Array Value) (ha : ac.eval x = v)
  (hf : Instr.fill (fun i => some (i * k, k)) ((Array.range (1 * k)).map (z.cells[· % z.cells.size]!)) [(0, v)] = some X) (h : wpList Tryz.prog ops Q rest (ac.put op.dst (.slice (some ⟨w.heap.size, 0, none⟩) 1 1)) (w.alloc (.cells X eT))) : wpList Tryz.prog ops Q (op :: rest) ac w :=
 wpList_plain hgd fun _ hK => by
  have hk2 : ¬ 16777216 < k := by omega
  rw [Nat.one_mul] at hf
  have hr : (Instr.buildSlice sT 1 #[(0, v)]).run Tryz.prog w = .ok (.slice (some ⟨w.heap.size, 0, none⟩) 1 1) (w.alloc (.cells X eT)) := by
   simp only [Instr.buildSlice, run_underlying hu, Sem.run_bind, Result.andThen_ok, sizeOf, typeInfo, zeroValue, hi, hz0, Sem.run_pure, run_program]
   simp [hz0, hz1, hi, hf, hk0, hk2, newRow, sizeOf, typeInfo, zeroValue]
  unfold Oper.wp execOp
  simp only [ho, List.map_toArray, List.map_cons, List.map_nil, ha, Sem.run_bind, hr, Result.andThen_ok, Sem.run_pure]
  exact hK _ _ h
theorem kyS_fst (s : RS) : (kyS s).1.b = (keyS s).1 := by unfold kyS; with_reducible rfl
theorem mrky_any (br : Nat) (F : Option Nat) (s : RS) (w : World) (hr : Rd w br F s.l s.e) (hF : ∀ g, F = some g → g < w.heap.size) (hl : s.l.length ≤ 100000000) :
  Calls Tryz.prog 132 #[.agg #[.pointer (some ⟨br, 0, none⟩)]] w fun e w' => e = .returned (.agg (kyA (kyS s).1)) ∧ Rd w' br F (kyS s).2.l (kyS s).2.e ∧ Upd (fun k => k = br) w w' := by
 have h := mrkey_any br F s w hr hF hl
 rw [← kyS_fst, ← kyS_snd] at h
 exact h
def ivV (x : Int) : List Value := [iv x]
theorem infoIntZ' : (Tryz.prog.info? 3).map (fun i => (i.zero, i.size, i.bytes)) = some (some (.int .i64 0), 1, 8) := by kernel_rfl
theorem infoNamedZ : (Tryz.prog.info? 92).map (fun i => (i.zero, i.size, i.bytes)) = some (some (.agg #[.string ⟨#[]⟩, .int .i64 0]), 2, 24) := by kernel_rfl
theorem infoFileZ : (Tryz.prog.info? 103).map (fun i => (i.zero, i.size, i.bytes)) = some (some (.agg #[.string ⟨#[]⟩, .bool false, .string ⟨#[]⟩]), 3, 40) := by kernel_rfl
theorem infoClashZ : (Tryz.prog.info? 100).map (fun i => (i.zero, i.size, i.bytes)) = some (some (.agg #[.string ⟨#[]⟩, .int .i64 0, .string ⟨#[]⟩]), 3, 40) := by kernel_rfl
set_option maxHeartbeats 8000000 in
theorem numbers1_any {br BX R1 : Nat} {F : Option Nat} {w0 : World} {s : RS} {xs : List Int} {a : Option Addr} {c : Nat} {wk : World} (h : Ph ivV 1 3 (fun _ => none) (fun _ _ => True) 49 (fun a n c => #[.slice a n c]) br BX R1 F w0 s xs a c wk) (hs : s.l.length ≤ 100000000) (hn : xs.length ≤ 100000000) :
  Calls Tryz.prog 159 #[.pointer (some ⟨BX, 0, none⟩), .pointer (some ⟨R1, 0, none⟩)] wk fun e w' => e = .returned (.tuple #[]) ∧ ∃ a' c', Ph ivV 1 3 (fun _ => none) (fun _ _ => True) 49 (fun a n c => #[.slice a n c]) br BX R1 F w0 (intF s).2 (xs ++ [(intF s).1]) a' c' w' := by
 have hst : Stays (X := Int) (fun _ => none) (fun _ _ => True) := fun _ _ _ _ _ _ _ => trivial
 have hget : ∀ (a : Option Addr) (n c : Nat), ((fun a n c => #[Value.slice a n c] : Option Addr → Nat → Nat → Array Value) a n c)[0]? = some (.slice a n c) := fun _ _ _ => rfl
 have hset : ∀ (a : Option Addr) (n c : Nat) (a' : Option Addr) (n' c' : Nat), ((fun a n c => #[Value.slice a n c] : Option Addr → Nat → Nat → Array Value) a n c).setIfInBounds 0 (.slice a' n' c') = (fun a n c => #[Value.slice a n c] : Option Addr → Nat → Nat → Array Value) a' n' c' := fun _ _ _ _ _ _ => rfl
 have HI := Lib.hid h
 have HG := Lib.hid (And.intro hget (And.intro hset hst))
 have HQ := Lib.hid (And.intro (h.q1 0 hget) h.q0)
 have hfs : Hid (intF s = intF s) := Lib.hid rfl
 have hle0 := takeS_len 4 s
 obtain ⟨t0, ht0⟩ : ∃ t, t = intV s := ⟨_, rfl⟩
 obtain ⟨s1, hs1⟩ : ∃ t, t = (takeS 4 s).2 := ⟨_, rfl⟩
 rw [← hs1] at hle0
 have HT0 := Lib.hid ht0
 have HE1 := Lib.hid hs1
 have HF : Hid (intF s = (t0, s1)) := Lib.hid (by subst ht0 hs1; rfl)
 clear h hget hset hst hfs ht0 hs1
 go_enter Tryz.func159, Tryz.ntmps159
 go_upto_region 0 with (fail)
 refine wp_region_plan_last [([0, 1, 2], 3), ([], 4), ([], 5), ([], 6)] [] (fun w' => w'.cell? ⟨BX, 0, none⟩ = some (.slice a xs.length c) ∧ w'.cell? ⟨R1, 0, none⟩ = some (.pointer (some ⟨br, 0, none⟩))) (by kernel_rfl) (by kernel_rfl) HQ.out ?_
 iterate 3
  refine plan_take (v := ?_) rfl rfl (fun w' hS => ?_) ?_
  rotate_left
  ·skip
   go_simp; try with_reducible rfl
  simp only [putL]
 have HN0 := Lib.hid (HI.out.same HG.out.2.2 (Upd.drew _ _))
 clear HQ
 have hc0 := rint_any br F s _ HN0.out.rd (by omega)
 rw [← HE1.out, ← HT0.out] at hc0
 refine plan_act rfl (fun KK hKK => ?_)
 go_wp2_with fail
 refine hc0.mono ?_
 unfold ReadN
 rintro e u0 ⟨rfl, hR, hU⟩
 have HN1 := Lib.hid (HN0.out.read HG.out.2.2 hR hU)
 have HQ := Lib.hid (And.intro (HN1.out.q1 0 HG.out.1) HN1.out.q0)
 clear hR hU hc0 HN0
 go_wp2_with fail
 refine hKK.out _ _ (.inr HQ.out) ?_
 clear HQ
 try simp only [putL]
 refine plan_act rfl (fun KK hKK => ?_)
 obtain ⟨i0, hi, hz0, hz1, hz2⟩ := info_parts4 infoIntZ'
 refine wpList_slice_gen rfl 49 3 1 (.tmp 5) rfl Tryz.underlying49 i0 (.int .i64 0) hi hz0 hz1 (by decide) (by decide) (.int .i64 t0) #[.int .i64 t0] rfl (by kernel_rfl) ?_
 have hUb := Upd.alloc (fun _ => False) u0 (.cells #[.int .i64 t0] 3)
 have hsrc : Src Tryz.prog 1 49 (.slice (some ⟨u0.heap.size, 0, none⟩) 1 1) 1 (ivV t0) (u0.alloc (.cells #[.int .i64 t0] 3)) := row_src (X := #[.int .i64 t0]) Tryz.underlying49 rfl (by simp [Value.oneCell']) (heap_alloc_new u0 _)
 have hownx := ownsRow_upd HN1.out.own hUb (fun _ _ h => h)
 have HS7 := HN1.out.same HG.out.2.2 hUb
 have hq7 := And.intro (HS7.q1 0 HG.out.1) HS7.q0
 go_wp2_with fail
 refine hKK.out _ _ (.inr hq7) ?_
 refine plan_act rfl (fun KK hKK => ?_)
 try simp only [putL]
 refine wpList_app _ rfl (.tmp 2) (.tmp 6) 49 49 rfl 3 i0 (.int .i64 0) 1 8 Tryz.underlying49 hi hz0 hz1 hz2 rfl a xs.length c (xs.flatMap ivV) rfl hownx (.slice (some ⟨u0.heap.size, 0, none⟩) 1 1) 1 (ivV t0) rfl hsrc ?_ ?_ ?_
 ·unfold maxLen; omega
 ·omega
 clear hi hz0 hz1 hz2
 intro a8 c8 w8 hown8 hg8 hat8 hnil8
 obtain ⟨hcb, hq8, hf8, hq80⟩ := HN1.out.add HG.out.2.2 0 HG.out.1 HG.out.2.1 t0 trivial (fun g hg => by cases hg) _ hown8 hg8 hat8
 have HM8 := Lib.hid hcb
 clear hown8 hg8 hat8 hnil8 hcb hownx hsrc hUb hq7 HS7
 have HQ8 := Lib.hid (And.intro hq8 hq80)
 clear hq80
 go_wp2_with fail
 refine hKK.out _ _ (.inr HQ8.out) ?_
 try simp only [putL]
 refine plan_act rfl (fun KK hKK => ?_)
 go_wp2_with fail
 refine hKK.out _ _ (.inl rfl) ?_
 refine plan_end ?_
 go_wp2_with fail
 go_end0
 exact ⟨rfl, a8, c8, by rw [HF.out]; exact HM8.out⟩
set_option maxHeartbeats 8000000 in
theorem root1_gen {row : Option Addr → Nat → Nat → Array Value} {br BX R1 : Nat} {F : Option Nat} {w0 : World} {s : RS} {xs : List Ky} {a : Option Addr} {c : Nat} {wk : World} (h : Ph kyV 32 52 (fun _ => none) (fun _ _ => True) 26 row br BX R1 F w0 s xs a c wk) (hget : ∀ a n c, (row a n c)[1]? = some (.slice a n c)) (hset : ∀ a n c a' n' c', (row a n c).setIfInBounds 1 (.slice a' n' c') = row a' n' c') (hs : s.l.length ≤ 100000000) (hn : xs.length ≤ 100000000) :
  Calls Tryz.prog 131 #[.pointer (some ⟨BX, 0, none⟩), .pointer (some ⟨R1, 0, none⟩)] wk fun e w' => e = .returned (.tuple #[]) ∧ ∃ a' c', Ph kyV 32 52 (fun _ => none) (fun _ _ => True) 26 row br BX R1 F w0 (kyS s).2 (xs ++ [(kyS s).1]) a' c' w' := by
 have hst : Stays (X := Ky) (fun _ => none) (fun _ _ => True) := fun _ _ _ _ _ _ _ => trivial
 have HI := Lib.hid h
 have HG := Lib.hid (And.intro hget (And.intro hset hst))
 have HQ := Lib.hid (And.intro (h.q1 1 hget) h.q0)
 have hfs : Hid (kyS s = kyS s) := Lib.hid rfl
 have hle0 := ky_eats.le s
 obtain ⟨t0, ht0⟩ : ∃ t, t = (kyS s).1 := ⟨_, rfl⟩
 obtain ⟨s1, hs1⟩ : ∃ t, t = (kyS s).2 := ⟨_, rfl⟩
 rw [← hs1] at hle0
 have HT0 := Lib.hid ht0
 have HE1 := Lib.hid hs1
 have HF : Hid (kyS s = (t0, s1)) := Lib.hid (by subst ht0 hs1; generalize kyS s = q; rfl)
 clear h hget hset hst hfs ht0 hs1
 go_enter Tryz.func131, Tryz.ntmps131
 go_upto_region 0 with (fail)
 refine wp_region_plan_last [([0, 1, 2], 3), ([], 4), ([], 5), ([6], 7)] [] (fun w' => w'.cell? ⟨BX, 1, none⟩ = some (.slice a xs.length c) ∧ w'.cell? ⟨R1, 0, none⟩ = some (.pointer (some ⟨br, 0, none⟩))) (by kernel_rfl) (by kernel_rfl) HQ.out ?_
 iterate 3
  refine plan_take (v := ?_) rfl rfl (fun w' hS => ?_) ?_
  rotate_left
  ·skip
   go_simp; try with_reducible rfl
  simp only [putL]
 have HN0 := Lib.hid (HI.out.same HG.out.2.2 (Upd.drew _ _))
 clear HQ
 have hc0 := mrky_any br F s _ HN0.out.rd (fun g hg => by have := HN0.out.n7 g hg; have := HN0.out.upd.size; omega) (by omega)
 rw [← HE1.out, ← HT0.out] at hc0
 refine plan_act rfl (fun KK hKK => ?_)
 go_wp2_with fail
 refine hc0.mono ?_
 rintro e u0 ⟨rfl, hR, hU⟩
 have HN1 := Lib.hid (HN0.out.read HG.out.2.2 hR hU)
 have HQ := Lib.hid (And.intro (HN1.out.q1 1 HG.out.1) HN1.out.q0)
 clear hR hU hc0 HN0
 go_wp2_with fail
 refine hKK.out _ _ (.inr HQ.out) ?_
 clear HQ
 try simp only [putL]
 refine plan_act rfl (fun KK hKK => ?_)
 obtain ⟨i0, hi, hz0, hz1, hz2⟩ := info_parts4 infoKeyZ
 refine wpList_slice_gen rfl 22 52 32 (.tmp 5) rfl Tryz.underlying22 i0 (.agg (kyA kyZ)) hi hz0 hz1 (by decide) (by decide) (.agg (kyA t0)) (kyA t0) rfl (ky_fill t0) ?_
 have hUb := Upd.alloc (fun _ => False) u0 (.cells (kyA t0) 52)
 have hsrc : Src Tryz.prog 32 22 (.slice (some ⟨u0.heap.size, 0, none⟩) 1 1) 1 (kyV t0) (u0.alloc (.cells (kyA t0) 52)) := row_src (X := (kyA t0)) Tryz.underlying22 (kyA_size t0) (key_one t0.b) (heap_alloc_new u0 _)
 have hownx := ownsRow_upd HN1.out.own hUb (fun _ _ h => h)
 have HS7 := HN1.out.same HG.out.2.2 hUb
 have hq7 := And.intro (HS7.q1 1 HG.out.1) HS7.q0
 go_wp2_with fail
 refine hKK.out _ _ (.inr hq7) ?_
 refine plan_act rfl (fun KK hKK => ?_)
 try simp only [putL]
 refine wpList_app _ rfl (.tmp 3) (.tmp 6) 22 22 rfl 52 i0 (.agg (kyA kyZ)) 32 32 Tryz.underlying22 hi hz0 hz1 hz2 (kyA_size kyZ) a xs.length c (xs.flatMap kyV) rfl hownx (.slice (some ⟨u0.heap.size, 0, none⟩) 1 1) 1 (kyV t0) rfl hsrc ?_ ?_ ?_
 ·unfold maxLen; omega
 ·omega
 clear hi hz0 hz1 hz2
 intro a8 c8 w8 hown8 hg8 hat8 hnil8
 obtain ⟨hcb, hq8, hf8, hq80⟩ := HN1.out.add HG.out.2.2 1 HG.out.1 HG.out.2.1 t0 trivial (fun g hg => by cases hg) _ hown8 hg8 hat8
 have HM8 := Lib.hid hcb
 clear hown8 hg8 hat8 hnil8 hcb hownx hsrc hUb hq7 HS7
 have HQ8 := Lib.hid (And.intro hq8 hq80)
 clear hq80
 go_wp2_with fail
 refine hKK.out _ _ (.inr HQ8.out) ?_
 try simp only [putL]
 iterate 1
  refine plan_take (v := ?_) rfl rfl (fun w' hS => ?_) ?_
  rotate_left
  ·skip
   go_simp; try with_reducible rfl
  simp only [putL]
 refine plan_act rfl (fun KK hKK => ?_)
 go_wp2_with fail
 refine hKK.out _ _ (.inl rfl) ?_
 refine plan_end ?_
 go_wp2_with fail
 go_end0
 exact ⟨rfl, a8, c8, by rw [HF.out]; exact HM8.out⟩
set_option maxHeartbeats 8000000 in
theorem root3_gen {row : Option Addr → Nat → Nat → Array Value} {br BX R1 : Nat} {F : Option Nat} {w0 : World} {s : RS} {xs : List Nm} {a : Option Addr} {c : Nat} {wk : World} (h : Ph nmV 2 92 (fun _ => none) (fun _ _ => True) 26 row br BX R1 F w0 s xs a c wk) (hget : ∀ a n c, (row a n c)[3]? = some (.slice a n c)) (hset : ∀ a n c a' n' c', (row a n c).setIfInBounds 3 (.slice a' n' c') = row a' n' c') (hs : s.l.length ≤ 100000000) (hn : xs.length ≤ 100000000) :
  Calls Tryz.prog 135 #[.pointer (some ⟨BX, 0, none⟩), .pointer (some ⟨R1, 0, none⟩)] wk fun e w' => e = .returned (.tuple #[]) ∧ ∃ a' c', Ph nmV 2 92 (fun _ => none) (fun _ _ => True) 26 row br BX R1 F w0 (nmS s).2 (xs ++ [(nmS s).1]) a' c' w' := by
 have hst : Stays (X := Nm) (fun _ => none) (fun _ _ => True) := fun _ _ _ _ _ _ _ => trivial
 have HI := Lib.hid h
 have HG := Lib.hid (And.intro hget (And.intro hset hst))
 have HQ := Lib.hid (And.intro (h.q1 3 hget) h.q0)
 have hfs : Hid (nmS s = nmS s) := Lib.hid rfl
 have hle0 := text_goes.le s
 obtain ⟨t0, ht0⟩ : ∃ t, t = (textS s).1 := ⟨_, rfl⟩
 obtain ⟨s1, hs1⟩ : ∃ t, t = (textS s).2 := ⟨_, rfl⟩
 rw [← hs1] at hle0
 have HT0 := Lib.hid ht0
 have HE1 := Lib.hid hs1
 have hle1 := takeS_len 4 s1
 obtain ⟨t1, ht1⟩ : ∃ t, t = intV s1 := ⟨_, rfl⟩
 obtain ⟨s2, hs2⟩ : ∃ t, t = (takeS 4 s1).2 := ⟨_, rfl⟩
 rw [← hs2] at hle1
 have HT1 := Lib.hid ht1
 have HE2 := Lib.hid hs2
 have HF : Hid (nmS s = (⟨t0, t1⟩, s2)) := Lib.hid (by subst ht0 hs1; subst ht1 hs2; rfl)
 clear h hget hset hst hfs ht0 hs1 ht1 hs2
 go_enter Tryz.func135, Tryz.ntmps135
 go_upto_region 0 with (fail)
 refine wp_region_plan_last [([0, 1, 2, 3, 5, 6], 4), ([], 7), ([8], 9), ([], 10), ([11], 12)] [] (fun w' => w'.cell? ⟨BX, 3, none⟩ = some (.slice a xs.length c) ∧ w'.cell? ⟨R1, 0, none⟩ = some (.pointer (some ⟨br, 0, none⟩))) (by kernel_rfl) (by kernel_rfl) HQ.out ?_
 iterate 6
  refine plan_take (v := ?_) rfl rfl (fun w' hS => ?_) ?_
  rotate_left
  ·skip
   go_simp; try with_reducible rfl
  simp only [putL]
 have HN0 := Lib.hid (HI.out.same HG.out.2.2 (Upd.drew _ _))
 clear HQ
 have hc0 := rtext_any br F s _ HN0.out.rd (by omega)
 rw [← HE1.out, ← HT0.out] at hc0
 refine plan_act rfl (fun KK hKK => ?_)
 go_wp2_with fail
 refine hc0.mono ?_
 unfold ReadN
 rintro e u0 ⟨rfl, hR, hU⟩
 have HN1 := Lib.hid (HN0.out.read HG.out.2.2 hR hU)
 have HQ := Lib.hid (And.intro (HN1.out.q1 3 HG.out.1) HN1.out.q0)
 clear hR hU hc0 HN0
 go_wp2_with fail
 refine hKK.out _ _ (.inr HQ.out) ?_
 clear HQ
 try simp only [putL]
 have hc1 := rint_any br F s1 _ HN1.out.rd (by omega)
 rw [← HE2.out, ← HT1.out] at hc1
 refine plan_act rfl (fun KK hKK => ?_)
 go_wp2_with fail
 refine hc1.mono ?_
 unfold ReadN
 rintro e u1 ⟨rfl, hR, hU⟩
 have HN2 := Lib.hid (HN1.out.read HG.out.2.2 hR hU)
 have HQ := Lib.hid (And.intro (HN2.out.q1 3 HG.out.1) HN2.out.q0)
 clear hR hU hc1 HN1
 go_wp2_with fail
 refine hKK.out _ _ (.inr HQ.out) ?_
 clear HQ
 try simp only [putL]
 iterate 1
  refine plan_take (v := ?_) rfl rfl (fun w' hS => ?_) ?_
  rotate_left
  ·skip
   go_simp; try with_reducible rfl
  simp only [putL]
 refine plan_act rfl (fun KK hKK => ?_)
 obtain ⟨i0, hi, hz0, hz1, hz2⟩ := info_parts4 infoNamedZ
 refine wpList_slice_gen rfl 24 92 2 (.tmp 10) rfl Tryz.underlying24 i0 (.agg #[.string ⟨#[]⟩, .int .i64 0]) hi hz0 hz1 (by decide) (by decide) (.agg #[.string (str t0), .int .i64 t1]) #[.string (str t0), .int .i64 t1] rfl (by kernel_rfl) ?_
 have hUb := Upd.alloc (fun _ => False) u1 (.cells #[.string (str t0), .int .i64 t1] 92)
 have hsrc : Src Tryz.prog 2 24 (.slice (some ⟨u1.heap.size, 0, none⟩) 1 1) 1 (nmV ⟨t0, t1⟩) (u1.alloc (.cells #[.string (str t0), .int .i64 t1] 92)) := row_src (X := #[.string (str t0), .int .i64 t1]) Tryz.underlying24 rfl (by simp [Value.oneCell']) (heap_alloc_new u1 _)
 have hownx := ownsRow_upd HN2.out.own hUb (fun _ _ h => h)
 have HS7 := HN2.out.same HG.out.2.2 hUb
 have hq7 := And.intro (HS7.q1 3 HG.out.1) HS7.q0
 go_wp2_with fail
 refine hKK.out _ _ (.inr hq7) ?_
 refine plan_act rfl (fun KK hKK => ?_)
 try simp only [putL]
 refine wpList_app _ rfl (.tmp 3) (.tmp 11) 24 24 rfl 92 i0 (.agg #[.string ⟨#[]⟩, .int .i64 0]) 2 24 Tryz.underlying24 hi hz0 hz1 hz2 rfl a xs.length c (xs.flatMap nmV) rfl hownx (.slice (some ⟨u1.heap.size, 0, none⟩) 1 1) 1 (nmV ⟨t0, t1⟩) rfl hsrc ?_ ?_ ?_
 ·unfold maxLen; omega
 ·omega
 clear hi hz0 hz1 hz2
 intro a8 c8 w8 hown8 hg8 hat8 hnil8
 obtain ⟨hcb, hq8, hf8, hq80⟩ := HN2.out.add HG.out.2.2 3 HG.out.1 HG.out.2.1 ⟨t0, t1⟩ trivial (fun g hg => by cases hg) _ hown8 hg8 hat8
 have HM8 := Lib.hid hcb
 clear hown8 hg8 hat8 hnil8 hcb hownx hsrc hUb hq7 HS7
 have HQ8 := Lib.hid (And.intro hq8 hq80)
 clear hq80
 go_wp2_with fail
 refine hKK.out _ _ (.inr HQ8.out) ?_
 try simp only [putL]
 iterate 1
  refine plan_take (v := ?_) rfl rfl (fun w' hS => ?_) ?_
  rotate_left
  ·skip
   go_simp; try with_reducible rfl
  simp only [putL]
 refine plan_act rfl (fun KK hKK => ?_)
 go_wp2_with fail
 refine hKK.out _ _ (.inl rfl) ?_
 refine plan_end ?_
 go_wp2_with fail
 go_end0
 exact ⟨rfl, a8, c8, by rw [HF.out]; exact HM8.out⟩
set_option maxHeartbeats 8000000 in
theorem settled1_gen {row : Option Addr → Nat → Nat → Array Value} {br BX R1 : Nat} {F : Option Nat} {w0 : World} {s : RS} {xs : List Fl} {a : Option Addr} {c : Nat} {wk : World} (h : Ph flV 3 103 (fun _ => none) (fun _ _ => True) 80 row br BX R1 F w0 s xs a c wk) (hget : ∀ a n c, (row a n c)[1]? = some (.slice a n c)) (hset : ∀ a n c a' n' c', (row a n c).setIfInBounds 1 (.slice a' n' c') = row a' n' c') (hs : s.l.length ≤ 100000000) (hn : xs.length ≤ 100000000) :
  Calls Tryz.prog 160 #[.pointer (some ⟨BX, 0, none⟩), .pointer (some ⟨R1, 0, none⟩)] wk fun e w' => e = .returned (.tuple #[]) ∧ ∃ a' c', Ph flV 3 103 (fun _ => none) (fun _ _ => True) 80 row br BX R1 F w0 (flS s).2 (xs ++ [(flS s).1]) a' c' w' := by
 have hst : Stays (X := Fl) (fun _ => none) (fun _ _ => True) := fun _ _ _ _ _ _ _ => trivial
 have HI := Lib.hid h
 have HG := Lib.hid (And.intro hget (And.intro hset hst))
 have HQ := Lib.hid (And.intro (h.q1 1 hget) h.q0)
 have hfs : Hid (flS s = flS s) := Lib.hid rfl
 have hle0 := text_goes.le s
 obtain ⟨t0, ht0⟩ : ∃ t, t = (textS s).1 := ⟨_, rfl⟩
 obtain ⟨s1, hs1⟩ : ∃ t, t = (textS s).2 := ⟨_, rfl⟩
 rw [← hs1] at hle0
 have HT0 := Lib.hid ht0
 have HE1 := Lib.hid hs1
 have hle1 := bool_goes.le s1
 obtain ⟨t1, ht1⟩ : ∃ t, t = (boolS s1).1 := ⟨_, rfl⟩
 obtain ⟨s2, hs2⟩ : ∃ t, t = (boolS s1).2 := ⟨_, rfl⟩
 rw [← hs2] at hle1
 have HT1 := Lib.hid ht1
 have HE2 := Lib.hid hs2
 have hle2 := text_goes.le s2
 obtain ⟨t2, ht2⟩ : ∃ t, t = (textS s2).1 := ⟨_, rfl⟩
 obtain ⟨s3, hs3⟩ : ∃ t, t = (textS s2).2 := ⟨_, rfl⟩
 rw [← hs3] at hle2
 have HT2 := Lib.hid ht2
 have HE3 := Lib.hid hs3
 have HF : Hid (flS s = (⟨t0, t1, t2⟩, s3)) := Lib.hid (by subst ht0 hs1; subst ht1 hs2; subst ht2 hs3; rfl)
 clear h hget hset hst hfs ht0 hs1 ht1 hs2 ht2 hs3
 go_enter Tryz.func160, Tryz.ntmps160
 go_upto_region 0 with (fail)
 refine wp_region_plan_last [([0, 1, 2, 3, 5, 6, 8, 9], 4), ([], 7), ([], 10), ([11], 12), ([], 13), ([14], 15)] [] (fun w' => w'.cell? ⟨BX, 1, none⟩ = some (.slice a xs.length c) ∧ w'.cell? ⟨R1, 0, none⟩ = some (.pointer (some ⟨br, 0, none⟩))) (by kernel_rfl) (by kernel_rfl) HQ.out ?_
 iterate 8
  refine plan_take (v := ?_) rfl rfl (fun w' hS => ?_) ?_
  rotate_left
  ·skip
   go_simp; try with_reducible rfl
  simp only [putL]
 have HN0 := Lib.hid (HI.out.same HG.out.2.2 (Upd.drew _ _))
 clear HQ
 have hc0 := rtext_any br F s _ HN0.out.rd (by omega)
 rw [← HE1.out, ← HT0.out] at hc0
 refine plan_act rfl (fun KK hKK => ?_)
 go_wp2_with fail
 refine hc0.mono ?_
 unfold ReadN
 rintro e u0 ⟨rfl, hR, hU⟩
 have HN1 := Lib.hid (HN0.out.read HG.out.2.2 hR hU)
 have HQ := Lib.hid (And.intro (HN1.out.q1 1 HG.out.1) HN1.out.q0)
 clear hR hU hc0 HN0
 go_wp2_with fail
 refine hKK.out _ _ (.inr HQ.out) ?_
 clear HQ
 try simp only [putL]
 have hc1 := rbool_any br F s1 _ HN1.out.rd (by omega)
 rw [← HE2.out, ← HT1.out] at hc1
 refine plan_act rfl (fun KK hKK => ?_)
 go_wp2_with fail
 refine hc1.mono ?_
 unfold ReadN
 rintro e u1 ⟨rfl, hR, hU⟩
 have HN2 := Lib.hid (HN1.out.read HG.out.2.2 hR hU)
 have HQ := Lib.hid (And.intro (HN2.out.q1 1 HG.out.1) HN2.out.q0)
 clear hR hU hc1 HN1
 go_wp2_with fail
 refine hKK.out _ _ (.inr HQ.out) ?_
 clear HQ
 try simp only [putL]
 have hc2 := rtext_any br F s2 _ HN2.out.rd (by omega)
 rw [← HE3.out, ← HT2.out] at hc2
 refine plan_act rfl (fun KK hKK => ?_)
 go_wp2_with fail
 refine hc2.mono ?_
 unfold ReadN
 rintro e u2 ⟨rfl, hR, hU⟩
 have HN3 := Lib.hid (HN2.out.read HG.out.2.2 hR hU)
 have HQ := Lib.hid (And.intro (HN3.out.q1 1 HG.out.1) HN3.out.q0)
 clear hR hU hc2 HN2
 go_wp2_with fail
 refine hKK.out _ _ (.inr HQ.out) ?_
 clear HQ
 try simp only [putL]
 iterate 1
  refine plan_take (v := ?_) rfl rfl (fun w' hS => ?_) ?_
  rotate_left
  ·skip
   go_simp; try with_reducible rfl
  simp only [putL]
 refine plan_act rfl (fun KK hKK => ?_)
 obtain ⟨i0, hi, hz0, hz1, hz2⟩ := info_parts4 infoFileZ
 refine wpList_slice_gen rfl 78 103 3 (.tmp 13) rfl Tryz.underlying78 i0 (.agg #[.string ⟨#[]⟩, .bool false, .string ⟨#[]⟩]) hi hz0 hz1 (by decide) (by decide) (.agg #[.string (str t0), .bool t1, .string (str t2)]) #[.string (str t0), .bool t1, .string (str t2)] rfl (by kernel_rfl) ?_
 have hUb := Upd.alloc (fun _ => False) u2 (.cells #[.string (str t0), .bool t1, .string (str t2)] 103)
 have hsrc : Src Tryz.prog 3 78 (.slice (some ⟨u2.heap.size, 0, none⟩) 1 1) 1 (flV ⟨t0, t1, t2⟩) (u2.alloc (.cells #[.string (str t0), .bool t1, .string (str t2)] 103)) := row_src (X := #[.string (str t0), .bool t1, .string (str t2)]) Tryz.underlying78 rfl (by simp [Value.oneCell']) (heap_alloc_new u2 _)
 have hownx := ownsRow_upd HN3.out.own hUb (fun _ _ h => h)
 have HS7 := HN3.out.same HG.out.2.2 hUb
 have hq7 := And.intro (HS7.q1 1 HG.out.1) HS7.q0
 go_wp2_with fail
 refine hKK.out _ _ (.inr hq7) ?_
 refine plan_act rfl (fun KK hKK => ?_)
 try simp only [putL]
 refine wpList_app _ rfl (.tmp 3) (.tmp 14) 78 78 rfl 103 i0 (.agg #[.string ⟨#[]⟩, .bool false, .string ⟨#[]⟩]) 3 40 Tryz.underlying78 hi hz0 hz1 hz2 rfl a xs.length c (xs.flatMap flV) rfl hownx (.slice (some ⟨u2.heap.size, 0, none⟩) 1 1) 1 (flV ⟨t0, t1, t2⟩) rfl hsrc ?_ ?_ ?_
 ·unfold maxLen; omega
 ·omega
 clear hi hz0 hz1 hz2
 intro a8 c8 w8 hown8 hg8 hat8 hnil8
 obtain ⟨hcb, hq8, hf8, hq80⟩ := HN3.out.add HG.out.2.2 1 HG.out.1 HG.out.2.1 ⟨t0, t1, t2⟩ trivial (fun g hg => by cases hg) _ hown8 hg8 hat8
 have HM8 := Lib.hid hcb
 clear hown8 hg8 hat8 hnil8 hcb hownx hsrc hUb hq7 HS7
 have HQ8 := Lib.hid (And.intro hq8 hq80)
 clear hq80
 go_wp2_with fail
 refine hKK.out _ _ (.inr HQ8.out) ?_
 try simp only [putL]
 iterate 1
  refine plan_take (v := ?_) rfl rfl (fun w' hS => ?_) ?_
  rotate_left
  ·skip
   go_simp; try with_reducible rfl
  simp only [putL]
 refine plan_act rfl (fun KK hKK => ?_)
 go_wp2_with fail
 refine hKK.out _ _ (.inl rfl) ?_
 refine plan_end ?_
 go_wp2_with fail
 go_end0
 exact ⟨rfl, a8, c8, by rw [HF.out]; exact HM8.out⟩
set_option maxHeartbeats 8000000 in
theorem wait2_gen {row : Option Addr → Nat → Nat → Array Value} {br BX R1 : Nat} {F : Option Nat} {w0 : World} {s : RS} {xs : List Cl} {a : Option Addr} {c : Nat} {wk : World} (h : Ph clV 3 100 (fun _ => none) (fun _ _ => True) 30 row br BX R1 F w0 s xs a c wk) (hget : ∀ a n c, (row a n c)[6]? = some (.slice a n c)) (hset : ∀ a n c a' n' c', (row a n c).setIfInBounds 6 (.slice a' n' c') = row a' n' c') (hs : s.l.length ≤ 100000000) (hn : xs.length ≤ 100000000) :
  Calls Tryz.prog 144 #[.pointer (some ⟨BX, 0, none⟩), .pointer (some ⟨R1, 0, none⟩)] wk fun e w' => e = .returned (.tuple #[]) ∧ ∃ a' c', Ph clV 3 100 (fun _ => none) (fun _ _ => True) 30 row br BX R1 F w0 (clS s).2 (xs ++ [(clS s).1]) a' c' w' := by
 have hst : Stays (X := Cl) (fun _ => none) (fun _ _ => True) := fun _ _ _ _ _ _ _ => trivial
 have HI := Lib.hid h
 have HG := Lib.hid (And.intro hget (And.intro hset hst))
 have HQ := Lib.hid (And.intro (h.q1 6 hget) h.q0)
 have hfs : Hid (clS s = clS s) := Lib.hid rfl
 have hle0 := text_goes.le s
 obtain ⟨t0, ht0⟩ : ∃ t, t = (textS s).1 := ⟨_, rfl⟩
 obtain ⟨s1, hs1⟩ : ∃ t, t = (textS s).2 := ⟨_, rfl⟩
 rw [← hs1] at hle0
 have HT0 := Lib.hid ht0
 have HE1 := Lib.hid hs1
 have hle1 := takeS_len 4 s1
 obtain ⟨t1, ht1⟩ : ∃ t, t = intV s1 := ⟨_, rfl⟩
 obtain ⟨s2, hs2⟩ : ∃ t, t = (takeS 4 s1).2 := ⟨_, rfl⟩
 rw [← hs2] at hle1
 have HT1 := Lib.hid ht1
 have HE2 := Lib.hid hs2
 have hle2 := text_goes.le s2
 obtain ⟨t2, ht2⟩ : ∃ t, t = (textS s2).1 := ⟨_, rfl⟩
 obtain ⟨s3, hs3⟩ : ∃ t, t = (textS s2).2 := ⟨_, rfl⟩
 rw [← hs3] at hle2
 have HT2 := Lib.hid ht2
 have HE3 := Lib.hid hs3
 have HF : Hid (clS s = (⟨t0, t1, t2⟩, s3)) := Lib.hid (by subst ht0 hs1; subst ht1 hs2; subst ht2 hs3; rfl)
 clear h hget hset hst hfs ht0 hs1 ht1 hs2 ht2 hs3
 go_enter Tryz.func144, Tryz.ntmps144
 go_upto_region 0 with (fail)
 refine wp_region_plan_last [([0, 1, 2, 3, 5, 6, 8, 9], 4), ([], 7), ([], 10), ([11], 12), ([], 13), ([14], 15)] [] (fun w' => w'.cell? ⟨BX, 6, none⟩ = some (.slice a xs.length c) ∧ w'.cell? ⟨R1, 0, none⟩ = some (.pointer (some ⟨br, 0, none⟩))) (by kernel_rfl) (by kernel_rfl) HQ.out ?_
 iterate 8
  refine plan_take (v := ?_) rfl rfl (fun w' hS => ?_) ?_
  rotate_left
  ·skip
   go_simp; try with_reducible rfl
  simp only [putL]
 have HN0 := Lib.hid (HI.out.same HG.out.2.2 (Upd.drew _ _))
 clear HQ
 have hc0 := rtext_any br F s _ HN0.out.rd (by omega)
 rw [← HE1.out, ← HT0.out] at hc0
 refine plan_act rfl (fun KK hKK => ?_)
 go_wp2_with fail
 refine hc0.mono ?_
 unfold ReadN
 rintro e u0 ⟨rfl, hR, hU⟩
 have HN1 := Lib.hid (HN0.out.read HG.out.2.2 hR hU)
 have HQ := Lib.hid (And.intro (HN1.out.q1 6 HG.out.1) HN1.out.q0)
 clear hR hU hc0 HN0
 go_wp2_with fail
 refine hKK.out _ _ (.inr HQ.out) ?_
 clear HQ
 try simp only [putL]
 have hc1 := rint_any br F s1 _ HN1.out.rd (by omega)
 rw [← HE2.out, ← HT1.out] at hc1
 refine plan_act rfl (fun KK hKK => ?_)
 go_wp2_with fail
 refine hc1.mono ?_
 unfold ReadN
 rintro e u1 ⟨rfl, hR, hU⟩
 have HN2 := Lib.hid (HN1.out.read HG.out.2.2 hR hU)
 have HQ := Lib.hid (And.intro (HN2.out.q1 6 HG.out.1) HN2.out.q0)
 clear hR hU hc1 HN1
 go_wp2_with fail
 refine hKK.out _ _ (.inr HQ.out) ?_
 clear HQ
 try simp only [putL]
 have hc2 := rtext_any br F s2 _ HN2.out.rd (by omega)
 rw [← HE3.out, ← HT2.out] at hc2
 refine plan_act rfl (fun KK hKK => ?_)
 go_wp2_with fail
 refine hc2.mono ?_
 unfold ReadN
 rintro e u2 ⟨rfl, hR, hU⟩
 have HN3 := Lib.hid (HN2.out.read HG.out.2.2 hR hU)
 have HQ := Lib.hid (And.intro (HN3.out.q1 6 HG.out.1) HN3.out.q0)
 clear hR hU hc2 HN2
 go_wp2_with fail
 refine hKK.out _ _ (.inr HQ.out) ?_
 clear HQ
 try simp only [putL]
 iterate 1
  refine plan_take (v := ?_) rfl rfl (fun w' hS => ?_) ?_
  rotate_left
  ·skip
   go_simp; try with_reducible rfl
  simp only [putL]
 refine plan_act rfl (fun KK hKK => ?_)
 obtain ⟨i0, hi, hz0, hz1, hz2⟩ := info_parts4 infoClashZ
 refine wpList_slice_gen rfl 28 100 3 (.tmp 13) rfl Tryz.underlying28 i0 (.agg #[.string ⟨#[]⟩, .int .i64 0, .string ⟨#[]⟩]) hi hz0 hz1 (by decide) (by decide) (.agg #[.string (str t0), .int .i64 t1, .string (str t2)]) #[.string (str t0), .int .i64 t1, .string (str t2)] rfl (by kernel_rfl) ?_
 have hUb := Upd.alloc (fun _ => False) u2 (.cells #[.string (str t0), .int .i64 t1, .string (str t2)] 100)
 have hsrc : Src Tryz.prog 3 28 (.slice (some ⟨u2.heap.size, 0, none⟩) 1 1) 1 (clV ⟨t0, t1, t2⟩) (u2.alloc (.cells #[.string (str t0), .int .i64 t1, .string (str t2)] 100)) := row_src (X := #[.string (str t0), .int .i64 t1, .string (str t2)]) Tryz.underlying28 rfl (by simp [Value.oneCell']) (heap_alloc_new u2 _)
 have hownx := ownsRow_upd HN3.out.own hUb (fun _ _ h => h)
 have HS7 := HN3.out.same HG.out.2.2 hUb
 have hq7 := And.intro (HS7.q1 6 HG.out.1) HS7.q0
 go_wp2_with fail
 refine hKK.out _ _ (.inr hq7) ?_
 refine plan_act rfl (fun KK hKK => ?_)
 try simp only [putL]
 refine wpList_app _ rfl (.tmp 3) (.tmp 14) 28 28 rfl 100 i0 (.agg #[.string ⟨#[]⟩, .int .i64 0, .string ⟨#[]⟩]) 3 40 Tryz.underlying28 hi hz0 hz1 hz2 rfl a xs.length c (xs.flatMap clV) rfl hownx (.slice (some ⟨u2.heap.size, 0, none⟩) 1 1) 1 (clV ⟨t0, t1, t2⟩) rfl hsrc ?_ ?_ ?_
 ·unfold maxLen; omega
 ·omega
 clear hi hz0 hz1 hz2
 intro a8 c8 w8 hown8 hg8 hat8 hnil8
 obtain ⟨hcb, hq8, hf8, hq80⟩ := HN3.out.add HG.out.2.2 6 HG.out.1 HG.out.2.1 ⟨t0, t1, t2⟩ trivial (fun g hg => by cases hg) _ hown8 hg8 hat8
 have HM8 := Lib.hid hcb
 clear hown8 hg8 hat8 hnil8 hcb hownx hsrc hUb hq7 HS7
 have HQ8 := Lib.hid (And.intro hq8 hq80)
 clear hq80
 go_wp2_with fail
 refine hKK.out _ _ (.inr HQ8.out) ?_
 try simp only [putL]
 iterate 1
  refine plan_take (v := ?_) rfl rfl (fun w' hS => ?_) ?_
  rotate_left
  ·skip
   go_simp; try with_reducible rfl
  simp only [putL]
 refine plan_act rfl (fun KK hKK => ?_)
 go_wp2_with fail
 refine hKK.out _ _ (.inl rfl) ?_
 refine plan_end ?_
 go_wp2_with fail
 go_end0
 exact ⟨rfl, a8, c8, by rw [HF.out]; exact HM8.out⟩
end Go.Proofs.YtccejkikphpnfaaGreatDoor
