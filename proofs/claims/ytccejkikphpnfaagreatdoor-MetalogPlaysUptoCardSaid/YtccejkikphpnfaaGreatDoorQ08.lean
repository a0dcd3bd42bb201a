
/- A law on drawn regions: at first either of two operations may act; behind the last one nothing is asked. slices.Equal on bytes; slices.Clip. -/
import Derived.Test.YtccejkikphpnfaaGreatDoorQ07
namespace Go.Proofs.YtccejkikphpnfaaGreatDoor
set_option linter.unusedSimpArgs false
set_option linter.unusedVariables false
set_option maxRecDepth 100000
open Go.ChangeShapes Go.WideShapes Go.ChangeAt Go.RowKit
set_option maxHeartbeats 8000000 in
theorem some_keys {w : World} {br R1 R2 BX : Nat} {F : Option Nat} {r : List UInt8} {p : Int} {ks : List Ky} {k : Int} {wk : World} (h : RMid w br R1 R2 BX F (i4 ks.length ++ (kysB ks ++ r)) p [] k none 0 wk) (hl : (i4 ks.length ++ (kysB ks ++ r)).length ≤ 100000000) (hn : ks.length ≤ 2000) :
  Calls Tryz.prog 130 #[.agg #[.pointer (some ⟨br, 0, none⟩)], .func (.func 131) #[] #[.pointer (some ⟨BX, 0, none⟩), .pointer (some ⟨R1, 0, none⟩)]] wk fun e w' => e = .returned (.tuple #[]) ∧ ∃ a' c', RMid w br R1 R2 BX F r p ks k a' c' w' := by
 have hU0 := Upd.alloc (fun _ => False) wk (.cells #[.pointer (some ⟨br, 0, none⟩)] 139)
 have hbox := heap_alloc_new wk (.cells #[.pointer (some ⟨br, 0, none⟩)] 139)
 have hRM := h.same hU0
 have hBX := h.lt
 have hbr : br < wk.heap.size := by have := h.n1; have := h.upd.size; omega
 have hR1 : R1 < wk.heap.size := lt_of_heap h.row
 have hlr : (kysB ks ++ r).length ≤ 100000000 := by rw [List.length_append] at hl; omega
 have HI := Lib.hid (And.intro hRM hbox)
 clear h hU0 hRM hbox
 go_enter Tryz.func130, Tryz.ntmps130
 go_upto_region 1 with (fail)
 generalize wk.alloc (.cells #[.pointer (some ⟨br, 0, none⟩)] 139) = y0 at *
 obtain ⟨B, hB⟩ : ∃ B, wk.heap.size = B := ⟨_, rfl⟩
 rw [hB] at HI hBX hbr hR1 ⊢
 clear hB
 have q : y0.cell? ⟨B, 0, none⟩ = some (.pointer (some ⟨br, 0, none⟩)) := by rw [cell_of_row _ _ _ _ _ _ HI.out.2]; rfl
 go_wp2_with fail
 refine (rint_i4 br F (ks.length : Int) (kysB ks ++ r) _ HI.out.1.rd hl (by omega) (by omega)).mono ?_
 rintro e w1 ⟨rfl, hR, hU⟩
 have hb1 := (hU.block B (lt_of_heap HI.out.2) (by omega)).trans HI.out.2
 have HI1 := Lib.hid (And.intro (HI.out.1.read hR hU) hb1)
 clear hR hU hb1 q HI
 go_wp2_with fail
 go_loopw [4] (fun i wr => ∃ (L M : List Ky) (a' : Option Addr) (c' : Nat), Hid (ks = L ++ M) ∧ i = .int .i64 (M.length : Int) ∧ Hid (RMid w br R1 R2 BX F (kysB M ++ r) p L k a' c' wr ∧ wr.heap[B]? = some (.cells #[.pointer (some ⟨br, 0, none⟩)] 139) ∧ (∀ g, blk a' = some g → B < g))) (fun i _ => (intOf i).toNat)
 case atStart => exact ⟨[], ks, none, 0, Lib.hid rfl, rfl, Lib.hid ⟨HI1.out.1, HI1.out.2, fun g e => by cases e⟩⟩
 case round =>
  clear HI1
  obtain ⟨L, M, a', c', HS, rfl, HI⟩ := hrel
  have hrdl : (kysB M ++ r).length ≤ 100000000 := by
   have e : kysB ks = kysB L ++ kysB M := by rw [HS.out]; exact List.flatMap_append
   rw [e] at hlr
   simp only [List.length_append] at hlr ⊢
   omega
  have hML : L.length ≤ 2000 := by have := HS.out; rw [this, List.length_append] at hn; omega
  have q : wr.cell? ⟨B, 0, none⟩ = some (.pointer (some ⟨br, 0, none⟩)) := by rw [cell_of_row _ _ _ _ _ _ HI.out.2.1]; rfl
  cases M with
  | nil =>
   have hfin : RMid w br R1 R2 BX F r p ks k a' c' wr := by
    have := HI.out.1
    rw [HS.out, List.append_nil]
    exact this
   have HF := Lib.hid hfin
   clear hfin HI hrdl q
   go_wp2_with fail
   go_end0
   exact ⟨rfl, a', c', HF.out⟩
  | cons x M =>
   have hI : (0 : Int) < ((x :: M).length : Int) := by simp only [List.length_cons]; omega
   have hdec : IntKind.i64.wrap (((x :: M).length : Int) - 1) = (M.length : Int) := by
    have e : ((x :: M).length : Int) - 1 = (M.length : Int) := by simp only [List.length_cons]; omega
    have hMn : M.length ≤ 2000 := by have := HS.out; rw [this, List.length_append, List.length_cons] at hn; omega
    rw [e]
    exact IntWalk.i64_in _ (by omega)
   have herr := err_any br F (kysB (x :: M) ++ r) 0 wr HI.out.1.rd
   have hk : kysB (x :: M) ++ r = x.b ++ (kysB M ++ r) := by
    have e : kysB (x :: M) = x.b ++ kysB M := List.flatMap_cons
    rw [e, List.append_assoc]
   have hcl := root1_any x (by have := HI.out.1; rw [hk] at this; exact this) (by rw [hk] at hrdl; exact hrdl) (by omega)
   have HCL := Lib.hid hcl
   have HK := Lib.hid hk
   clear hcl hk hrdl
   have hmeas : (M.length : Int) + 1 = ((x :: M).length : Int) := by simp
   generalize ((x :: M).length : Int) = nn at *
   go_wp2_with fail
   refine herr.mono ?_
   rintro e w' ⟨rfl, rfl⟩
   clear herr
   go_wp2_with fail
   refine HCL.out.mono ?_
   rintro e w2 ⟨rfl, a2, c2, hM, hU, hsl⟩
   have hwB : B < wr.heap.size := lt_of_heap HI.out.2.1
   have hb2 := (hU.block B hwB (fun e => by
    rcases e with e | e | e
    ·omega
    ·omega
    ·have := HI.out.2.2 B e; omega)).trans HI.out.2.1
   have HJ := Lib.hid (And.intro hM (And.intro hb2 (fun g (hg : blk a2 = some g) => (hsl g hg).elim (fun e => HI.out.2.2 g e) (fun e => Nat.lt_of_lt_of_le hwB e))))
   clear hM hU hsl hb2 hwB HCL q
   go_wp2_with fail
   go_roundw
   case rel => exact ⟨L ++ [x], M, a2, c2, Lib.hid (by rw [HS.out]; simp), by first | rfl | go_num | (rw [hdec]), HJ.out |> Lib.hid⟩
   case measure => simp [intOf]; omega
/-- A root's bytes behind the first. -/
def rootR (p : Int) (ks : List Ky) (k : Int) : List UInt8 := i4 p ++ (i4 ks.length ++ (kysB ks ++ (i4 0 ++ (i4 0 ++ i4 k))))
theorem rootL_eq (p : Int) (ks : List Ky) (k : Int) : rootL p ks k = [1] ++ rootR p ks k := by
 unfold rootL rootR; simp only [List.append_assoc]
theorem rootR_len (p : Int) (ks : List Ky) (k : Int) (h : ks.length ≤ 2000) : (rootR p ks k).length ≤ 64020 := by
 unfold rootR; simp only [List.length_append, i4_length, kysB_len]; omega
theorem infoRoot : (Tryz.prog.info? 26).map (·.size) = some 5 := by kernel_rfl
theorem rootA_one (p : Int) (a : Option Addr) (n c : Nat) (k : Int) : (rootA p a n c k).all (·.oneCell') = true := by simp [rootA, Value.oneCell']
set_option maxHeartbeats 8000000 in
theorem mrroot_any (p : Int) (ks : List Ky) (k : Int) (h : RootIn p ks.length k) (br : Nat) (F : Option Nat) (w : World) (hr : Rd w br F (rootR p ks k) 0) (hF : ∀ g, F = some g → g < w.heap.size) :
  Calls Tryz.prog 95 #[.agg #[.pointer (some ⟨br, 0, none⟩)]] w fun e w' => ∃ a c, e = .returned (.agg (rootA p a ks.length c k)) ∧ w'.ownsRow 0 52 32 (.slice a ks.length c) ks.length (ks.flatMap kyV) ∧ (∀ g, blk a = some g → w.heap.size ≤ g) ∧ Upd (fun k => k = br) w w' := by
 have hlen := rootR_len p ks k h.n1
 have hbr : br < w.heap.size := by
  obtain ⟨a, c, hh, _⟩ := hr.ex
  exact lt_of_heap hh
 obtain ⟨h1, h2, h3, h4, h5⟩ := h
 unfold rootR at hr hlen
 have HW := Lib.hid (And.intro hr (And.intro hbr hF))
 have hlr : Hid ((i4 ks.length ++ (kysB ks ++ (i4 0 ++ (i4 0 ++ i4 k)))).length ≤ 100000000 ∧ (i4 0 ++ (i4 0 ++ i4 k)).length ≤ 100000000 ∧ (i4 0 ++ i4 k).length ≤ 100000000 ∧ (i4 k ++ []).length ≤ 100000000) := Lib.hid (by
  simp only [List.length_append, i4_length, List.length_nil] at hlen ⊢; omega)
 have hl0 : (i4 p ++ (i4 ks.length ++ (kysB ks ++ (i4 0 ++ (i4 0 ++ i4 k))))).length ≤ 100000000 := by omega
 clear hr hbr hF hlen
 have hU0 : Upd (fun _ => False) w ((w.alloc (.cells #[.pointer (some ⟨br, 0, none⟩)] 139)).alloc (.cells (rootA 0 none 0 0 0) 26)) := (Upd.alloc _ _ _).trans (Upd.alloc _ _ _)
 have hb1 : ((w.alloc (.cells #[.pointer (some ⟨br, 0, none⟩)] 139)).alloc (.cells (rootA 0 none 0 0 0) 26)).heap[w.heap.size]? = some (.cells #[.pointer (some ⟨br, 0, none⟩)] 139) := by
  rw [Below.heap_alloc _ _ _ (by simp)]; exact heap_alloc_new _ _
 have hb2 : ((w.alloc (.cells #[.pointer (some ⟨br, 0, none⟩)] 139)).alloc (.cells (rootA 0 none 0 0 0) 26)).heap[w.heap.size + 1]? = some (.cells (rootA 0 none 0 0 0) 26) := by
  have := heap_alloc_new (w.alloc (.cells #[.pointer (some ⟨br, 0, none⟩)] 139)) (.cells (rootA 0 none 0 0 0) 26)
  simpa using this
 unfold rootA at hU0 hb1 hb2
 have HA := Lib.hid (And.intro hU0 (And.intro hb1 hb2))
 clear hU0 hb1 hb2
 go_enter Tryz.func95, Tryz.ntmps95
 go_upto_region 1 with (fail)
 generalize (w.alloc (.cells #[.pointer (some ⟨br, 0, none⟩)] 139)).alloc (.cells #[.int .i64 0, .slice none 0 0, .slice none 0 0, .slice none 0 0, .int .i64 0] 26) = y0 at *
 obtain ⟨R1, hR1⟩ : ∃ B, B = w.heap.size := ⟨_, rfl⟩
 obtain ⟨R2, hR2⟩ : ∃ B, B = w.heap.size + 1 := ⟨_, rfl⟩
 rw [← hR2, ← hR1] at HA
 rw [← hR2, ← hR1]
 have HB := Lib.hid (And.intro hR1 hR2)
 clear hR1 hR2
 have q : y0.cell? ⟨R1, 0, none⟩ = some (.pointer (some ⟨br, 0, none⟩)) := by rw [cell_of_row _ _ _ _ _ _ HA.out.2.1]; rfl
 go_wp2_with fail
 refine (rint_i4 br F p _ _ (HW.out.1.upd HA.out.1 (fun h => h) (fun _ _ h => h)) hl0 h1 (by omega)).mono ?_
 rintro e w1 ⟨rfl, hR, hU⟩
 have hb1 := (hU.block R1 (lt_of_heap HA.out.2.1) (by have := HB.out.1; have := HW.out.2.1; omega)).trans HA.out.2.1
 have hb2 := (hU.block R2 (lt_of_heap HA.out.2.2) (by have := HB.out.2; have := HW.out.2.1; omega)).trans HA.out.2.2
 have hUw := (HA.out.1.mono (fun _ _ h => h.elim)).trans hU
 have HA1 := Lib.hid (And.intro hR (And.intro hb1 (And.intro hb2 hUw)))
 have hz1 := lt_of_heap hb2
 have HZ1 := Lib.hid hz1
 clear hR hb1 hb2 hUw hz1 hU HA q
 go_upto_region 2 with (fail)
 have hUx := Upd.alloc (fun _ => False) w1 (.cells (rootA p none 0 0 0) 26)
 have hbx := heap_alloc_new w1 (.cells (rootA p none 0 0 0) 26)
 have HM : Hid (RMid w br R1 R2 w1.heap.size F (i4 ks.length ++ (kysB ks ++ (i4 0 ++ (i4 0 ++ i4 k)))) p [] 0 none 0 (w1.alloc (.cells #[.int .i64 p, .slice none 0 0, .slice none 0 0, .slice none 0 0, .int .i64 0] 26))) :=
  Lib.hid ⟨HA1.out.1.upd hUx (fun h => h) (fun _ _ h => h), (hUx.block R1 (lt_of_heap HA1.out.2.1) (fun h => h)).trans HA1.out.2.1, (hUx.block R2 (lt_of_heap HA1.out.2.2.1) (fun h => h)).trans HA1.out.2.2.1, hbx, World.ownsRow_nil _ _ _ _, (fun g e => by cases e),
   HA1.out.2.2.2.trans (hUx.mono (fun _ _ h => h.elim)), HW.out.2.1, by have := HB.out.1; omega, by have := HB.out.1; have := HB.out.2; omega, HZ1.out, HW.out.2.2⟩
 clear hUx hbx HA1 HZ1
 generalize w1.alloc (.cells #[.int .i64 p, .slice none 0 0, .slice none 0 0, .slice none 0 0, .int .i64 0] 26) = y1 at *
 generalize w1.heap.size = BX at *
 have q := HM.out.q0
 have hsk := some_keys HM.out hlr.out.1 h3
 clear HB
 go_wp2_with fail
 refine hsk.mono ?_
 rintro e y2 ⟨rfl, a, c, hM⟩
 have HM2 := Lib.hid hM
 clear hM hsk q HM
 have q := HM2.out.q0
 go_wp2_with fail
 refine (some_zero br F _ _ _ HM2.out.rd hlr.out.2.1).mono ?_
 rintro e y3 ⟨rfl, hR, hU⟩
 have HM3 := Lib.hid (HM2.out.read hR hU)
 clear hR hU q HM2
 have q := HM3.out.q0
 go_wp2_with fail
 refine (some_zero br F _ _ _ HM3.out.rd hlr.out.2.2.1).mono ?_
 rintro e y4 ⟨rfl, hR, hU⟩
 have hR' : Rd y4 br F (i4 k ++ []) 0 := by rw [List.append_nil]; exact hR
 have HM4 := Lib.hid (HM3.out.read hR' hU)
 clear hR hU q HM3 hR'
 have q := HM4.out.q0
 go_wp2_with fail
 refine (rint_i4 br F k [] _ HM4.out.rd hlr.out.2.2.2 h4 (by omega)).mono ?_
 rintro e y5 ⟨rfl, hR, hU⟩
 have HM5 := Lib.hid (HM4.out.read hR hU)
 clear hR hU q HM4
 have hc4 : y5.cell? ⟨BX, 4, none⟩ = some (.int .i64 0) := by rw [cell_of_row _ _ _ _ _ _ HM5.out.var]; rfl
 have hf4 : y5.frozen? ⟨BX, 4, none⟩ = false := free_row HM5.out.var
 go_upto_region 6 with (fail)
 have HM6 := Lib.hid (HM5.out.setK k)
 clear hc4 hf4 HM5
 generalize y5.setCell ⟨BX, 4, none⟩ (.int .i64 k) = y6 at *
 have hvar := HM6.out.var
 have hres := HM6.out.res
 go_wp2_with first
  | refine wpList_load_row rfl 26 (.tmp 3) rfl BX (rootA p a ks.length c k) 26 (0, 0) _ rfl hvar Tryz.underlying26 rfl (by rw [infoRoot]; rfl) ?_
  | refine wpList_store_row rfl 26 (.tmp 2) (.tmp 21) rfl R2 (rootA p a ks.length c k) _ 26 rfl rfl hres (by rw [infoRoot]; rfl) rfl (rootA_one _ _ _ _ _) ?_
 have hU6 := Upd.setRow (S := fun k => k = R2) y6 rfl (rootA p a ks.length c k)
 have hn2 := HM6.out.n2
 have hn3 := HM6.out.n3
 have hn4 := HM6.out.n4
 refine ret_row rfl R2 (rootA p a ks.length c k) 26 (0, 0) _ rfl (setRow_heap _ _ _ _ _ _ hres) Tryz.underlying26 rfl (by rw [infoRoot]; rfl) rfl ⟨a, c, rfl, ?_, ?_, ?_⟩
 ·exact ownsRow_upd HM6.out.own hU6 (fun q hq e => by rw [own_blk] at hq; have := HM6.out.fr q hq; omega)
 ·intro g hg
  have := HM6.out.fr g hg
  omega
 ·exact HM6.out.upd.next hU6 (fun i hi e => by omega)
section
variable {P : Program} (w : World)
theorem run_appV (t tx ty e : TypeId) (i : TypeInfo) (z : Value) (size bytes : Nat) (ht : P.underlying t = some (.slice e)) (hi : P.info? e = some i) (hz : i.zero = some z)
  (hsize : i.size = size) (hby : i.bytes = bytes) (hzs : z.cells.size = size)
  (a : Option Addr) (n : Nat) (xs : List Value) (hv : Vw w a n n size xs) (x : Value) (m : Nat) (news : List Value) (hs : Src P size tx x m news w)
  (h63 : n + m ≤ maxLen) (hbytes : (n + m) * bytes ≤ 140737488355328) :
  ∃ a' c' w', (Builtin.append_ #[t, tx] ty #[.slice a n n, x]).run P w = .ok (.slice a' (n + m) c') w' ∧ Vw w' a' (n + m) c' size (xs ++ news) ∧ Upd (fun _ => False) w w' ∧ (∀ g, blk a' = some g → blk a = some g ∨ w.heap.size ≤ g) := by
 subst hsize
 subst hby
 have hsmall : ((n + m : Nat) : Int) ≤ 9223372036854775807 := by simp only [maxLen] at h63; omega
 have hlen : (xs ++ news).length = (n + m) * i.size := by rw [List.length_append, hv.len, hs.newsLen, Nat.add_mul]
 by_cases hm : m = 0
 ·subst hm
  have hn : news = [] := List.eq_nil_of_length_eq_zero (by simpa using hs.newsLen)
  subst hn
  refine ⟨a, n, w, ?_, by rw [List.append_nil]; exact hv, Upd.refl _ _, fun g e => .inl e⟩
  cases a with
  | none => rcases hs.kind with ⟨e', hk⟩ | hk <;> simp [Builtin.append_, run_underlying ht, run_underlying hk, sizeOf, typeInfo, hi, hs.len, hs.cells]
  | some b => rcases hs.kind with ⟨e', hk⟩ | hk <;> simp [Builtin.append_, run_underlying ht, run_underlying hk, sizeOf, typeInfo, hi, hs.len, hs.cells, storeCells]
 ·have hold : (Builtin.firstCells i.size n (.slice a n n)).run P w.drew = .ok xs.toArray w.drew := by
   cases a with
   | none =>
    have hn : n = 0 := hv.nil rfl
    subst hn
    have hx : xs = [] := List.eq_nil_of_length_eq_zero (by simpa using hv.len)
    subst hx
    exact run_firstCells_none w.drew i.size 0 0 0
   | some b => exact run_firstCells_some w.drew i.size n b n n xs hv.len (fun j u hu => hv.cell b rfl j u hu)
  have hge := grownCap_ge w (n + m) n e
  have hcm : grownCap w (n + m) n e ≤ maxLen := grownCap_le_maxLen w (n + m) n e h63
  have hown : (w.drew.alloc (.cells ((xs ++ news).toArray ++ Builtin.zeroCells z.cells (grownCap w (n + m) n e - (n + m))) e)).ownsRow 0 e i.size
    (.slice (some ⟨w.heap.size, 0, none⟩) (n + m) (grownCap w (n + m) n e)) (n + m) (xs ++ news) := by
   refine ⟨hlen, .inr ⟨w.heap.size, _, _, rfl, Nat.zero_le _, heap_alloc_new w.drew _, hge, hcm, ?_, ?_⟩⟩
   ·simp only [Array.size_append, List.size_toArray, size_zeroCells, hzs, hlen, ← Nat.add_mul]
    congr 1
    omega
   ·simp only [Array.toList_append]
    rw [← hlen]
    exact List.take_left
  exact ⟨_, _, _, run_append_grow_src w t tx ty e i z ht hi hz a n n xs hold x m news hs (by omega) hsmall (growslice_fits (by omega) hbytes), Vw.of_own hown, (Upd.drew _ w).trans (Upd.alloc _ _ _), fun g e => .inr (by cases e; exact Nat.le_refl _)⟩
theorem wpList_appV {ops : Array Oper} {rest : List Oper} {o : Oper} {ac : Act} {Q : Exit → Act → World → Prop} (hgd : o.guard = none) (s xo : Operand) (t tx : TypeId)
  (ho : o.op = .call { callee := .builtin .append, args := #[s, xo], argTypes := #[t, tx] })
  (e : TypeId) (i : TypeInfo) (z : Value) (size bytes : Nat) (ht : P.underlying t = some (.slice e)) (hi : P.info? e = some i) (hz : i.zero = some z)
  (hsize : i.size = size) (hby : i.bytes = bytes) (hzs : z.cells.size = size)
  (a : Option Addr) (n : Nat) (xs : List Value) (hev : ac.eval s = .slice a n n) (hv : Vw w a n n size xs) (x : Value) (m : Nat) (news : List Value) (hx : ac.eval xo = x) (hs : Src P size tx x m news w)
  (h63 : n + m ≤ maxLen) (hbytes : (n + m) * bytes ≤ 140737488355328)
  (h : ∀ a' c' w', Vw w' a' (n + m) c' size (xs ++ news) → Upd (fun _ => False) w w' → (∀ g, blk a' = some g → blk a = some g ∨ w.heap.size ≤ g) → wpList P ops Q rest (ac.put o.dst (.slice a' (n + m) c')) w') : wpList P ops Q (o :: rest) ac w := by
 obtain ⟨a', c', w', hr, h2, h3, h4⟩ := run_appV (P := P) w t tx o.type e i z size bytes ht hi hz hsize hby hzs a n xs hv x m news hs h63 hbytes
 refine wpList_plain hgd fun K hK => ?_
 unfold Oper.wp execOp
 simp only [ho, resolve, invoke, builtin, Sem.run_bind, Sem.run_pure, Result.andThen_ok, List.map_toArray, List.map_cons, List.map_nil, hev, hx, hr]
 exact hK _ _ (h a' c' w' h2 h3 h4)
end
/-- A view clipped. -/
theorem Vw.clip {w : World} {a : Option Addr} {n c size : Nat} {xs : List Value} (h : Vw w a n c size xs) (ha : a = none → n = 0) : Vw w a n n size xs :=
 ⟨h.len, Nat.le_refl _, Nat.le_trans h.le h.cap, ha, h.cell⟩
theorem Vw.clip2 {w : World} {a : Option Addr} {n c size : Nat} {xs : List Value} (h : Vw w a n c size xs) : Vw w a n n size xs :=
 h.clip (fun e => by have := h.nil e; have := h.le; omega)
section
variable {P : Program} {ops : Array Oper} {Q : Exit → Act → World → Prop} {md : Region.Mode} {S : World → Prop} {ex : Nat}
theorem wpOp_of_list {i : Nat} {o : Oper} {K : Act → World → Prop} {A : Act} {w : World} (ho : ops[i]? = some o) (hA : wpList P ops (Exit.then K (calmQ Q)) [o] A w) : wpOp P ops (calmQ Q) i K A w := by
 unfold wpOp
 rw [ho]
 simp only [wpList] at hA
 have hK : ∀ (a' : Act) (w' : World), Exit.then K (calmQ Q) .normal a' w' → K a' w' := fun _ _ h => h
 split at hA
 ·rename_i hw
  simp only [hw, if_true]
  rcases hA with hA | hA
  ·refine .inl ?_
   unfold Oper.wp at *
   generalize (execOp A.eval o).run P w = r at *
   cases r with
   | ok n w' =>
    cases n <;> simp only [Oper.upon] at hA ⊢ <;> exact hA
   | halt x w' => cases x <;> simp only [Oper.upon] at hA ⊢ <;> exact hA
  ·exact .inr ⟨hA.1, hA.2⟩
 ·rename_i hw
  simp only [hw]
  exact hA
abbrev Plan := List (List Nat × Nat) × List Nat
def forkWp (P : Program) (ops : Array Oper) (Q : Exit → Act → World → Prop) (S : World → Prop) (ex : Nat) (seg : List Nat) (e1 e2 : Nat) (p1 p2 : Plan) : List (List Nat × Nat) → Act → World → Prop
 | [], a, w => takes P ops S seg (fun A => (∃ o, ops[e1]? = some o ∧ wpList P ops (Exit.then (fun a' w' => (e1 = ex ∨ S w') ∧ planWp P ops Q S ex p1.1 p1.2 a' w') (calmQ Q)) [o] A w) ∧
   (∃ o, ops[e2]? = some o ∧ wpList P ops (Exit.then (fun a' w' => (e2 = ex ∨ S w') ∧ planWp P ops Q S ex p2.1 p2.2 a' w') (calmQ Q)) [o] A w)) a
 | (sg, e) :: rest, a, w => takes P ops S sg (fun A => ∃ o, ops[e]? = some o ∧
   wpList P ops (Exit.then (fun a' w' => (e = ex ∨ S w') ∧ forkWp P ops Q S ex seg e1 e2 p1 p2 rest a' w') (calmQ Q)) [o] A w) a
def forkOk (md : Region.Mode) (ops : Array Oper) (seg : List Nat) (e1 e2 : Nat) (p1 p2 : Plan) : List (List Nat × Nat) → Array Bool → Bool
 | [], listed => takesOk md ops seg listed && (Region.ready md ops (marked seg listed) == [e1, e2]) && planOk md ops p1.1 p1.2 ((marked seg listed).setIfInBounds e1 true) && planOk md ops p2.1 p2.2 ((marked seg listed).setIfInBounds e2 true)
 | (sg, e) :: rest, listed => takesOk md ops sg listed && (Region.ready md ops (marked sg listed) == [e]) && forkOk md ops seg e1 e2 p1 p2 rest ((marked sg listed).setIfInBounds e true)
def forkSize (seg : List Nat) (p1 : Plan) : List (List Nat × Nat) → Nat
 | [] => seg.length + 1 + planSize p1.1 p1.2
 | (sg, _) :: rest => sg.length + 1 + forkSize seg p1 rest
/-! The moves -/
variable {seg : List Nat} {e1 e2 : Nat} {p1 p2 : Plan}
theorem fork_last {i : Nat} {r : List Nat} {a : Act} {w : World} {o : Oper} {v : Value} (ho : ops[i]? = some o) (hw : Region.wanted o (yielded ops a.tmps) = true)
  (hy : ∀ w', S w' → (execOp a.eval o).run P w' = .ok (.value v) w') (h : forkWp P ops Q S ex r e1 e2 p1 p2 [] (a.put o.dst v) w) : forkWp P ops Q S ex (i :: r) e1 e2 p1 p2 [] a w :=
 ⟨o, v, ho, .inl ⟨hw, hy⟩, h⟩
theorem fork_lskip {i : Nat} {r : List Nat} {a : Act} {w : World} {o : Oper} (ho : ops[i]? = some o) (hw : Region.wanted o (yielded ops a.tmps) = false)
  (h : forkWp P ops Q S ex r e1 e2 p1 p2 [] (a.put o.dst undef) w) : forkWp P ops Q S ex (i :: r) e1 e2 p1 p2 [] a w :=
 ⟨o, undef, ho, .inr ⟨hw, rfl⟩, h⟩
/-- The two ways. -/
theorem fork_both {a : Act} {w : World} (h1 : planWp P ops Q S ex (([], e1) :: p1.1) p1.2 a w) (h2 : planWp P ops Q S ex (([], e2) :: p2.1) p2.2 a w) : forkWp P ops Q S ex [] e1 e2 p1 p2 [] a w :=
 ⟨h1, h2⟩
end
section
variable {P : Program} {ops : Array Oper} {Q : Exit → Act → World → Prop}
theorem wp_region_fork_last {id : Nat} {a : Act} {w : World} (seg : List Nat) (e1 e2 : Nat) (p1 p2 : Plan) (S : World → Prop) (hm : P.follows .mixedOrders = true)
  (hok : (Region.noSelect ops && lastOk .any ops && forkOk .any ops seg e1 e2 p1 p2 [] (Array.replicate ops.size false) && forkSize seg p1 [] == ops.size && planSize p1.1 p1.2 == planSize p2.1 p2.2 && e1 != e2) = true) (hS : S w.drew)
  (h : forkWp P ops Q S (ops.size - 1) seg e1 e2 p1 p2 [] a w.drew) : (Code.region id ops true).wp P Q a w := by
 simp only [Bool.and_eq_true, beq_iff_eq, bne_iff_ne] at hok
 obtain ⟨⟨⟨⟨⟨h1, h2⟩, h3⟩, h4⟩, h5⟩, h6⟩ := hok
 have hex : ∀ listed : Array Bool, listed.size = ops.size → Down .any ops listed → ops.size - 1 ∈ Region.ready .any ops listed → ∀ k, k < ops.size → listed.getD k true = false → k = ops.size - 1 := fun l hz hd hx => last_all h2 hd hz hx
 have key : wpAnyX P .any ops (calmQ Q) S (ops.size - 1) (forkSize seg p1 []) (Array.replicate ops.size false) a w.drew := by
  simp only [forkOk, Bool.and_eq_true, beq_iff_eq] at h3
  obtain ⟨⟨⟨hok1, hok2⟩, hok3⟩, hok4⟩ := h3
  rw [show forkSize seg p1 [] = seg.length + (planSize p1.1 p1.2 + 1) from by simp [forkSize]; omega]
  refine takes_sound (P := P) (Q := calmQ Q) (S := S) h1 (fun _ _ _ h => h) hex (planSize p1.1 p1.2 + 1) seg _ a _ _ (by simp) (down_none _) hok1 hS ?_ h
  intro A hz hd hN
  obtain ⟨⟨o1, ho1, hA1⟩, o2, ho2, hA2⟩ := hN
  have hm1 : e1 ∈ Region.ready .any ops (marked seg (Array.replicate ops.size false)) := by rw [hok2]; simp
  have hm2 : e2 ∈ Region.ready .any ops (marked seg (Array.replicate ops.size false)) := by rw [hok2]; simp
  have hn1 : e1 ≠ ops.size - 1 := fun e => by
   have := hex _ hz hd (e ▸ hm1) e2 (Array.getElem?_eq_some_iff.1 ho2).1 (mem_ready.1 hm2).1
   omega
  have hn2 : e2 ≠ ops.size - 1 := fun e => by
   have := hex _ hz hd (e ▸ hm2) e1 (Array.getElem?_eq_some_iff.1 ho1).1 (mem_ready.1 hm1).1
   omega
  refine ⟨fun h0 => (by rw [hok2] at h0; cases h0), fun i hi => ?_⟩
  have hmem := hi
  rw [hok2] at hi
  simp only [List.mem_cons, List.not_mem_nil, or_false] at hi
  rcases hi with rfl | rfl
  ·refine wpOp_mono (fun a' w' h3 => ⟨h3.1, ?_⟩) (wpOp_of_list ho1 hA1)
   exact plan_sound h1 hex p1.1 p1.2 _ a' w' (by simpa using hz) (hd.next hmem) hok3 (.inl (h3.1.resolve_left hn1)) h3.2
  ·refine wpOp_mono (fun a' w' h3 => ⟨h3.1, ?_⟩) (wpOp_of_list ho2 hA2)
   rw [h5]
   exact plan_sound h1 hex p2.1 p2.2 _ a' w' (by simpa using hz) (hd.next hmem) hok4 (.inl (h3.1.resolve_left hn2)) h3.2
 rw [h4] at key
 exact Code.wp_mono calmQ_imp (wp_region_any hm (wpAny_of_X (S := S) (ex := ops.size - 1) _ _ _ _ key))
end
set_option maxHeartbeats 1000000 in
theorem slEqB_any (a a2 : Option Addr) (c c2 : Nat) (l k : List UInt8) (w : World) (hv : Vw w a l.length c 1 (bvs l)) (hv2 : Vw w a2 k.length c2 1 (bvs k)) :
  Calls Tryz.prog 105 #[.slice a l.length c, .slice a2 k.length c2] w fun e w' => e = .returned (.bool (l == k)) ∧ Upd (fun _ => False) w w' := by
 have hcap := hv.cap
 have hlc := hv.le
 have hcap2 := hv2.cap
 have hlc2 := hv2.le
 unfold maxLen at hcap hcap2
 by_cases hlen : l.length = k.length
 ·have hb : ((l.length : Int) != (k.length : Int)) = false := by simp [hlen]
  have HL := Lib.hid hlen
  clear hlen
  go_enter Tryz.func105, Tryz.ntmps105
  go_wp2_with fail
  go_loopw [13] (fun i wr => ∃ j : Nat, j ≤ l.length ∧ i = .int .i64 (j : Int) ∧ Upd (fun _ => False) w wr ∧ Hid (l.take j = k.take j)) (fun i _ => l.length - (intOf i).toNat)
  case atStart => exact ⟨0, Nat.zero_le _, rfl, Upd.refl _ _, rfl⟩
  case round =>
   obtain ⟨j, hj, rfl, hU, hE⟩ := hrel
   have hvr := hv.upd hU (fun _ _ h => h)
   have hvr2 := hv2.upd hU (fun _ _ h => h)
   by_cases hlt : j < l.length
   ·have hlt2 : j < k.length := by have := HL.out; omega
    obtain ⟨b, off, rfl, hcell⟩ := hvr.at (by omega) (by decide)
    obtain ⟨b2, off2, rfl, hcell2⟩ := hvr2.at (by omega) (by decide)
    have hce : wr.cell? ⟨b, off + j, none⟩ = some (.int .u8 (l[j].toNat : Int)) := hcell j _ (bvs_get l j hlt)
    have hce2 : wr.cell? ⟨b2, off2 + j, none⟩ = some (.int .u8 (k[j].toNat : Int)) := hcell2 j _ (bvs_get k j hlt2)
    have hI : (j : Int) < (l.length : Int) := by omega
    have hI2 : (j : Int) < (k.length : Int) := by omega
    have hbe : ((l[j].toNat : Int) != (k[j].toNat : Int)) = !(l[j] == k[j]) := by
     rw [Bool.eq_iff_iff]; simp [← UInt8.toNat_inj]; omega
    have hne : (l[j] == k[j]) = false → Hid ((l == k) = false) := fun hxy => Lib.hid (by
     cases h : l == k
     ·rfl
     ·have e := eq_of_beq h
      subst e
      simp at hxy)
    have heq : (l[j] == k[j]) = true → Hid (l.take (j + 1) = k.take (j + 1)) := fun hxy => Lib.hid (by
     rw [take_succ_get l j hlt, take_succ_get k j hlt2, hE.out, eq_of_beq hxy])
    have HNE := Lib.hid hne
    have HEQ := Lib.hid heq
    have HQ := Lib.hid (And.intro hce hce2)
    have HU := Lib.hid hU
    clear hcell hcell2 hvr hvr2 hv hv2 hne heq hE hU hce hce2
    generalize (l[j] == k[j]) = bb at *
    have HBE := Lib.hid hbe
    clear hbe
    go_upto_region 6 with (fail)
    refine wp_region_plan_last [] [0, 1, 2, 3, 4, 5, 6, 7, 8] (fun w' => w'.cell? ⟨b, off + j, none⟩ = some (.int .u8 (l[j].toNat : Int)) ∧ w'.cell? ⟨b2, off2 + j, none⟩ = some (.int .u8 (k[j].toNat : Int))) (by kernel_rfl) (by kernel_rfl) HQ.out ?_
    iterate 9
     refine plan_last (v := ?_) rfl rfl (fun w' hS => ?_) ?_
     rotate_left
     ·skip
      go_simp; try with_reducible rfl
     simp only [HBE.out, putL]
    refine plan_end ?_
    cases bb with
    | false =>
     have HN := HNE.out rfl
     go_wp2_with fail
     go_ret
     exact ⟨by rw [HN.out]; rfl, HU.out.trans (Upd.drew _ _)⟩
    | true =>
     have HN := HEQ.out rfl
     go_wp2_with fail
     go_roundw
     case rel => exact ⟨j + 1, by omega, by first | rfl | go_num, HU.out.trans (Upd.drew _ _), HN⟩
     case measure => simp [intOf]; omega
   ·have hI : ¬ (j : Int) < (l.length : Int) := by omega
    have heq : (l == k) = true := by
     have := hE.out
     rw [List.take_of_length_le (by omega), List.take_of_length_le (by have := HL.out; omega)] at this
     simpa using this
    have HE := Lib.hid heq; clear heq
    go_wp2_with fail
    go_ret
    exact ⟨by rw [HE.out]; rfl, hU⟩
 ·have hb : ((l.length : Int) != (k.length : Int)) = true := by simp; omega
  have hne : (l == k) = false := by
   cases h : l == k
   ·rfl
   ·exact absurd (by rw [eq_of_beq h]) hlen
  have HNE := Lib.hid hne; clear hne hlen
  go_enter Tryz.func105, Tryz.ntmps105
  go_wp2_with fail
  go_ret
  exact ⟨by rw [HNE.out]; rfl, Upd.refl _ _⟩
theorem clipI_any (a : Option Addr) (n c size : Nat) (xs : List Value) (w : World) (hv : Vw w a n c size xs) : Calls Tryz.prog 137 #[.slice a n c] w fun e w' => e = .returned (.slice a n n) ∧ w = w' := by
 have h1 := hv.le
 have h2 := hv.cap
 unfold maxLen at h2
 cases a with
 | none =>
  obtain rfl : c = 0 := hv.nil rfl
  obtain rfl : n = 0 := by omega
  go_enter Tryz.func137, Tryz.ntmps137
  go_wp2
  go_ret
  exact ⟨rfl, rfl⟩
 | some b =>
  go_enter Tryz.func137, Tryz.ntmps137
  go_wp2
  go_ret
  exact ⟨rfl, rfl⟩
theorem clipK_any (a : Option Addr) (n c size : Nat) (xs : List Value) (w : World) (hv : Vw w a n c size xs) : Calls Tryz.prog 138 #[.slice a n c] w fun e w' => e = .returned (.slice a n n) ∧ w = w' := by
 have h1 := hv.le
 have h2 := hv.cap
 unfold maxLen at h2
 cases a with
 | none =>
  obtain rfl : c = 0 := hv.nil rfl
  obtain rfl : n = 0 := by omega
  go_enter Tryz.func138, Tryz.ntmps138
  go_wp2
  go_ret
  exact ⟨rfl, rfl⟩
 | some b =>
  go_enter Tryz.func138, Tryz.ntmps138
  go_wp2
  go_ret
  exact ⟨rfl, rfl⟩
theorem clipR_any (a : Option Addr) (n c size : Nat) (xs : List Value) (w : World) (hv : Vw w a n c size xs) : Calls Tryz.prog 139 #[.slice a n c] w fun e w' => e = .returned (.slice a n n) ∧ w = w' := by
 have h1 := hv.le
 have h2 := hv.cap
 unfold maxLen at h2
 cases a with
 | none =>
  obtain rfl : c = 0 := hv.nil rfl
  obtain rfl : n = 0 := by omega
  go_enter Tryz.func139, Tryz.ntmps139
  go_wp2
  go_ret
  exact ⟨rfl, rfl⟩
 | some b =>
  go_enter Tryz.func139, Tryz.ntmps139
  go_wp2
  go_ret
  exact ⟨rfl, rfl⟩
end Go.Proofs.YtccejkikphpnfaaGreatDoor
