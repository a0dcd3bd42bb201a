
/- The log's line; lists of numbers held against each other. -/
import Derived.Test.YtccejkikphpnfaaGreatDoorQ26
import Derived.RegionTactic
import Derived.ChangeAlike
namespace Go.Proofs.YtccejkikphpnfaaGreatDoor
set_option linter.unusedSimpArgs false
set_option linter.unusedVariables false
set_option maxRecDepth 100000
open Go.ChangeShapes Go.WideShapes Go.ChangeAt Go.RowKit
set_option maxHeartbeats 16000000 in
theorem read_waitX (lb : Nat) (a : Option Addr) (c : Nat) (l : List UInt8) (w : World) (hv : Vw w a l.length c 1 (bvs l)) (hl : l.length ≤ 70000000) (hk : kindL l = 3) :
  Calls Tryz.prog 57 #[.pointer (some ⟨lb, 0, none⟩), .slice a l.length c] w (ReadWt w lb l) := by
 have HOK : Hid (okWait l = (waitBC (waitS (s1L l)).1 && (waitGC (waitS (s1L l)).1 == l))) := Lib.hid rfl
 have HG1 : Hid (okWait l = true → ∀ e w', DoWait w lb (waitS (s1L l)).1 e w' → ReadWt w lb l e w') := Lib.hid (fun h e w' hd => by unfold ReadWt; rw [if_pos h]; exact hd)
 have HG0 : Hid (okWait l = false → ∀ e w', ReadNo w e w' → ReadWt w lb l e w') := Lib.hid (fun h e w' hd => by unfold ReadWt; rw [h, if_neg (by decide)]; exact hd)
 generalize ReadWt w lb l = GG at *
 generalize okWait l = OO at *
 have HCL : Hid ((waitGC (waitS (s1L l)).1).length ≤ 80000000) := Lib.hid (by have h1 := waitS_len (s1L l); have h2 : (s1L l).l.length ≤ l.length := takeS_len 1 ⟨l, 0⟩; omega)
 have hU0 := Upd.alloc (fun _ => False) w (.cells #[.pointer (some ⟨lb, 0, none⟩)] 42)
 have hb0 := heap_alloc_new w (.cells #[.pointer (some ⟨lb, 0, none⟩)] 42)
 have HI0 := Lib.hid hv
 have HI := Lib.hid (And.intro (hv.upd hU0 (fun _ _ h => h)) (And.intro hb0 hU0))
 have hkk : takeS (heldN 1) ⟨l, 0⟩ = ((takeS 1 ⟨l, 0⟩).1, s1L l) := rfl
 have hkl : leN (takeS 1 ⟨l, 0⟩).1 = 3 := hk
 have hs1 : (s1L l).l.length ≤ l.length := takeS_len 1 ⟨l, 0⟩
 have HK := Lib.hid (And.intro hkk (And.intro hkl hs1))
 clear hv hU0 hb0 hkk hkl hs1 hk
 go_enter Tryz.func57, Tryz.ntmps57
 go_upto_region 1 with (fail)
 generalize w.alloc (.cells #[.pointer (some ⟨lb, 0, none⟩)] 42) = y0 at *
 obtain ⟨L2, hL2⟩ : ∃ B, w.heap.size = B := ⟨_, rfl⟩
 rw [hL2] at HI ⊢
 have HB := Lib.hid hL2
 clear hL2
 go_wp2_with fail
 refine (read_any3 a c l y0 HI.out.1 (by omega)).mono ?_
 rintro e w1 ⟨br, F, rfl, hR, hU, hbr, hF⟩
 obtain ⟨BR, hBR⟩ : ∃ B, w1.heap.size = B := ⟨_, rfl⟩
 have hbrl : br < BR := by
  obtain ⟨a9, c9, hh, _⟩ := hR.ex
  rw [← hBR]
  exact lt_of_heap hh
 have hz0 := hU.size
 have hUn := Upd.alloc (fun _ => False) w1 (.cells #[.pointer (some ⟨br, 0, none⟩)] 139)
 have hrow := heap_alloc_new w1 (.cells #[.pointer (some ⟨br, 0, none⟩)] 139)
 have hL2 := ((hU.trans hUn).block L2 (lt_of_heap HI.out.2.1) (fun h => h)).trans HI.out.2.1
 have hltL := lt_of_heap HI.out.2.1
 have hUw := HI.out.2.2.trans (hU.trans hUn)
 rw [hBR] at hrow
 have HJ := Lib.hid (And.intro (hR.upd hUn (fun h => h) (fun _ _ h => h)) (And.intro hrow (And.intro hL2 hUw)))
 have hnum := rnum_any br F ⟨l, 0⟩ 1 _ HJ.out.1 (by show l.length ≤ _; omega)
 rw [HK.out.1] at hnum
 unfold ReadN at hnum
 dsimp only at hnum
 rw [HK.out.2.1] at hnum
 have hF2 : ∀ g, F = some g → g < BR := fun g hg => by have := (hF g hg).2; omega
 have hbrL : L2 < br := by omega
 have HN := Lib.hid (And.intro hbrl (And.intro hF2 (And.intro hbrL (fun g (hg : F = some g) => show L2 < g from by have := (hF g hg).1; omega))))
 have HS1 : Hid ((s1L l).l.length ≤ 100000000) := Lib.hid (by have := HK.out.2.2; omega)
 clear hR hU hbr hF hbrl hz0 hUn hrow hL2 hltL hUw hF2 hbrL HI HK
 generalize s1L l = s1 at *
 go_upto_region 5 with (fail)
 generalize w1.alloc (.cells #[.pointer (some ⟨br, 0, none⟩)] 139) = w2 at *
 clear hBR
 have q : w2.cell? ⟨BR, 0, none⟩ = some (.pointer (some ⟨br, 0, none⟩)) := by rw [cell_of_row _ _ _ _ _ _ HJ.out.2.1]; rfl
 go_wp2_with fail
 refine hnum.mono ?_
 rintro e w3 ⟨rfl, hR, hU⟩
 have hn1 := HN.out.1
 have hn2 := HN.out.2.2.1
 have hrow := (hU.block BR (lt_of_heap HJ.out.2.1) (by omega)).trans HJ.out.2.1
 have hL2 := (hU.block L2 (lt_of_heap HJ.out.2.2.1) (by omega)).trans HJ.out.2.2.1
 have hBz := lt_of_heap hrow
 have HB' := HB.out
 have hUw : Upd (fun _ => False) w w3 := HJ.out.2.2.2.next hU (fun i hi e => by omega)
 have HR := Lib.hid (And.intro hR (And.intro hrow (And.intro hL2 (And.intro hUw hBz))))
 clear q hnum
 have q : w3.cell? ⟨BR, 0, none⟩ = some (.pointer (some ⟨br, 0, none⟩)) := by rw [cell_of_row _ _ _ _ _ _ hrow]; rfl
 clear hR hU hrow hL2 hUw hBz HB' hn1 hn2 HJ
 have hmr := mrwait_gen br F s1 w3 HR.out.1 (fun g hg => by have := HN.out.2.1 g hg; have := HR.out.2.2.2.2; omega) HS1.out
 go_wp2_with fail
 refine hmr.mono ?_
 unfold GotWt
 rintro e w4 ⟨r, rfl, hon, hcc, hin, hbl, _, hU4⟩
 rw [← hcc] at HOK HG1
 have HCC := Lib.hid hcc
 have HON := Lib.hid hon
 clear hon
 clear hmr q hcc
 have hn := HN.out
 have hL4 := (hU4.block L2 (lt_of_heap HR.out.2.2.1) (by omega)).trans HR.out.2.2.1
 have hUw4 : Upd (fun _ => False) w w4 := HR.out.2.2.2.1.next hU4 (fun i hi e => by have := HB.out; omega)
 have hz3 := HR.out.2.2.2.1.size
 have hbl2 : WtBl (fun g => w.heap.size ≤ g ∧ g < w4.heap.size) r := hbl.mono (fun g hg => ⟨by omega, hg.2⟩)
 have HH := Lib.hid (And.intro hL4 (And.intro hUw4 (And.intro hin hbl2)))
 clear hL4 hUw4 hz3 hbl hbl2 hin hU4 hn HR HN
 obtain ⟨BX, hBX⟩ : ∃ B, w4.heap.size = B := ⟨_, rfl⟩
 have hUx := Upd.alloc (fun _ => False) w4 (.cells (wtA r) 30)
 have hrx := heap_alloc_new w4 (.cells (wtA r) 30)
 rw [hBX] at hrx
 have hin5 := HH.out.2.2.1.upd hUx
 have hz5 := hUx.size
 have HX : Hid (World.heap (w4.alloc (.cells (wtA r) 30)) = World.heap (w4.alloc (.cells (wtA r) 30)) ∧ (w4.alloc (.cells (wtA r) 30)).heap[L2]? = some (.cells #[.pointer (some ⟨lb, 0, none⟩)] 42) ∧ (w4.alloc (.cells (wtA r) 30)).heap[BX]? = some (.cells (wtA r) 30) ∧ WtIn (w4.alloc (.cells (wtA r) 30)) r ∧ WtBl (fun g => w.heap.size ≤ g ∧ g < (w4.alloc (.cells (wtA r) 30)).heap.size) r ∧ Upd (fun _ => False) w (w4.alloc (.cells (wtA r) 30))) :=
  Lib.hid ⟨rfl, (hUx.block L2 (lt_of_heap HH.out.1) (fun h => h)).trans HH.out.1, hrx, hin5, HH.out.2.2.2.mono (fun g hg => ⟨hg.1, Nat.lt_of_lt_of_le hg.2 hz5⟩), HH.out.2.1.trans hUx⟩
 have hBc : waitB r = waitBC (wtC r) := by rw [waitB_c, HON.out]; rfl
 have hGc : waitG r = waitGC (wtC r) := waitG_c r
 have HBC := Lib.hid (And.intro hBc hGc)
 clear hUx hrx hin5 hz5 HH hBc hGc
 have hsmall : (waitG r).length ≤ 80000000 := by
  rw [HBC.out.2]
  have := HCL.out
  rw [← HCC.out] at this
  exact this
 have hpk := mPackWait_any r _ HX.out.2.2.2.1 hsmall
 clear hsmall
 have hRR : waitR r = if waitB r then waitG r else [] := rfl
 have hEE : waitE r = if waitB r then 0 else 5 := rfl
 generalize waitR r = RL at *
 generalize waitE r = EE at *
 have HRE := Lib.hid (And.intro hRR hEE)
 clear hRR hEE
 obtain ⟨r0, hr0⟩ : ∃ r0, r0 = r := ⟨_, rfl⟩
 rw [← hr0] at HX HRE HBC HOK HG1 HCC HON
 have HR0 := Lib.hid hr0
 clear hr0
 obtain ⟨on, re, src, dst, sa, sc, ss, com, cla, clc, cs⟩ := r
 have hAl : wtA r0 = #[.bool on, .bool re, .int .i64 src, .int .i64 dst, .slice sa ss.length sc, .int .i64 com, .slice cla cs.length clc] := by rw [HR0.out]; rfl
 rw [hAl] at HX
 unfold wtA at hpk ⊢
 dsimp only at hpk ⊢
 have HAL := Lib.hid hAl
 clear hAl
 go_upto_region 16 with (fail)
 generalize w4.alloc (.cells #[.bool on, .bool re, .int .i64 src, .int .i64 dst, .slice sa ss.length sc, .int .i64 com, .slice cla cs.length clc] 30) = w5 at *
 clear hBX
 have hrx := HX.out.2.2.1
 go_wp2_with (refine wpList_load_row rfl 30 (.tmp 13) rfl BX #[.bool on, .bool re, .int .i64 src, .int .i64 dst, .slice sa ss.length sc, .int .i64 com, .slice cla cs.length clc] 30 (0, 0) _ rfl hrx Tryz.underlying30 rfl (by rw [infoPend]; rfl) ?_)
 refine hpk.mono ?_
 unfold Packed
 rintro e w6 ⟨a3, c3, rfl, hv3, hf3, hU6⟩
 have HY : Hid (w6.heap[L2]? = some (.cells #[.pointer (some ⟨lb, 0, none⟩)] 42) ∧ w6.heap[BX]? = some (.cells #[.bool on, .bool re, .int .i64 src, .int .i64 dst, .slice sa ss.length sc, .int .i64 com, .slice cla cs.length clc] 30) ∧ WtIn w6 r0 ∧ WtBl (fun g => w.heap.size ≤ g ∧ g < w6.heap.size) r0 ∧ Upd (fun _ => False) w w6) :=
  Lib.hid ⟨(hU6.block L2 (lt_of_heap HX.out.2.1) (fun h => h)).trans HX.out.2.1, (hU6.block BX (lt_of_heap HX.out.2.2.1) (fun h => h)).trans HX.out.2.2.1, HX.out.2.2.2.1.upd hU6, HX.out.2.2.2.2.1.mono (fun g hg => ⟨hg.1, Nat.lt_of_lt_of_le hg.2 hU6.size⟩), HX.out.2.2.2.2.2.trans hU6⟩
 have HV3 := Lib.hid hv3
 clear hpk hv3 hf3 hU6 hrx HX
 cases hB : waitB r0 with
 | false =>
  have hE := HRE.out.2
  rw [hB] at hE
  simp only [Bool.false_eq_true, if_false] at hE
  subst hE
  have HF : Hid (OO = false) := Lib.hid (by have h1 := HBC.out.1; rw [hB] at h1; rw [HOK.out, wtC_no h1]; rfl)
  clear hB
  go_wp2_with fail
  try go_ret2
  exact HG0.out HF.out _ _ ⟨rfl, HY.out.2.2.2.2⟩
 | true =>
  have hE := HRE.out.2
  have hL := HRE.out.1
  rw [hB] at hE hL
  simp only [if_true] at hE hL
  subst hE
  have h1 := HBC.out.1
  rw [hB] at h1
  have hOK : OO = (RL == l) := by rw [HOK.out, wtC_yes h1, hL, HBC.out.2]; rfl
  have HOK2 := Lib.hid hOK
  have hse := slEqB_any a3 a c3 c RL l w6 HV3.out (HI0.out.upd HY.out.2.2.2.2 (fun _ _ h => h))
  rw [← hOK] at hse
  clear hB h1 hOK hL HV3
  go_wp2_with fail
  refine hse.mono ?_
  rintro e w7 ⟨rfl, hU7⟩
  have HZ : Hid (w7.heap[L2]? = some (.cells #[.pointer (some ⟨lb, 0, none⟩)] 42) ∧ w7.heap[BX]? = some (.cells #[.bool on, .bool re, .int .i64 src, .int .i64 dst, .slice sa ss.length sc, .int .i64 com, .slice cla cs.length clc] 30) ∧ WtIn w7 r0 ∧ WtBl (fun g => w.heap.size ≤ g ∧ g < w7.heap.size) r0 ∧ Upd (fun _ => False) w w7) :=
   Lib.hid ⟨(hU7.block L2 (lt_of_heap HY.out.1) (fun h => h)).trans HY.out.1, (hU7.block BX (lt_of_heap HY.out.2.1) (fun h => h)).trans HY.out.2.1, HY.out.2.2.1.upd hU7, HY.out.2.2.2.1.mono (fun g hg => ⟨hg.1, Nat.lt_of_lt_of_le hg.2 hU7.size⟩), HY.out.2.2.2.2.trans hU7⟩
  clear hse hU7 HY
  cases OO with
  | false =>
   go_wp2_with fail
   try go_ret2
   exact HG0.out (by first | rfl | trivial) _ _ ⟨rfl, HZ.out.2.2.2.2⟩
  | true =>
   go_wp2_with fail
   try go_ret2
   exact HG1.out (by first | rfl | trivial) _ _ ⟨L2, BX, r0, rfl, HZ.out.1, by rw [HAL.out]; exact HZ.out.2.1, ⟨HON.out, rfl⟩, HZ.out.2.2.1, HZ.out.2.2.2.1, HZ.out.2.2.2.2⟩
theorem LogW.setN {w : World} {lb : Nat} {g : Lg} {A : LA} (h : LogW w lb g A) (m : Int) : LogW (w.setCell ⟨lb, 12, none⟩ (.int .i64 m)) lb ⟨g.rr, g.fs, g.cs, g.top, g.ds, m⟩ A ∧ Upd (fun q => q = lb) w (w.setCell ⟨lb, 12, none⟩ (.int .i64 m)) :=
 h.put (g' := ⟨g.rr, g.fs, g.cs, g.top, g.ds, m⟩) (A' := A) (Upd.refl _ _) 12 (.int .i64 m) (by simp [logA]) h.rr h.fs h.cs h.ds h.n1 h.n2 h.n3 h.n4
/-- A root's record fits behind a log. -/
structure Fits (g : Lg) (ks : List Ky) (k : Int) : Prop where
 inn : RootIn (g.top - 1) ks.length k
 rr : g.rr.length < 2000
 cs : g.cs.length + ks.length ≤ 2000
 fs : g.fs.length ≤ 2000
 t0 : 0 ≤ g.top
 t1 : g.top ≤ 2000
 n0 : 0 ≤ g.n
 n1 : g.n ≤ 100000
def lgRoot (g : Lg) (x : RRow) (ks : List Ky) (m : Int) : Lg := ⟨g.rr ++ [x], g.fs ++ [(g.cs.length : Int)], g.cs ++ ks, (g.rr.length : Int) + 1, [], m⟩
theorem read1_any (g : Lg) (A : LA) (lb L2 BX : Nat) (a : Option Addr) (c : Nat) (ks : List Ky) (k : Int) (w : World) (h : LogW w lb g A) (hF : Fits g ks k) (ha : ∀ q, blk a = some q → q ≠ lb)
  (hL : w.heap[L2]? = some (.cells #[.pointer (some ⟨lb, 0, none⟩)] 42)) (hX : w.heap[BX]? = some (.cells (rootA (g.top - 1) a ks.length c k) 26)) (hv : Vw w a ks.length c 32 (ks.flatMap kyV)) :
  Calls Tryz.prog 96 #[.pointer (some ⟨L2, 0, none⟩), .pointer (some ⟨BX, 0, none⟩)] w fun e w' => e = .returned (.int .i64 0) ∧ ∃ A' x, x.p = g.top - 1 ∧ LogW w' lb (lgRoot g x ks g.n) A' ∧ Upd (fun q => q = lb) w w' := by
 have hadd := addRoot_any g A lb a c ks k w h hF.rr hF.cs hF.fs hF.t0 hF.t1 ha hv
 have q : w.cell? ⟨L2, 0, none⟩ = some (.pointer (some ⟨lb, 0, none⟩)) := by rw [cell_of_row _ _ _ _ _ _ hL]; rfl
 unfold lgRoot
 clear h hF ha hL hv
 go_enter Tryz.func96, Tryz.ntmps96
 go_wp2_with (refine wpList_load_row rfl 26 (.tmp 1) rfl BX (rootA (g.top - 1) a ks.length c k) 26 (0, 0) _ rfl hX Tryz.underlying26 rfl (by rw [infoRoot]; rfl) ?_)
 refine hadd.mono ?_
 rintro e w1 ⟨rfl, A', hL1, hU1⟩
 have HF := Lib.hid (And.intro hL1 hU1)
 clear hadd hL1 hU1 hX q
 go_wp2_with fail
 go_ret
 exact ⟨rfl, A', ⟨g.top - 1, a, ks.length, c, k⟩, rfl, HF.out⟩
set_option maxHeartbeats 4000000 in
theorem add_root (g : Lg) (A : LA) (lb : Nat) (ks : List Ky) (k : Int) (a : Option Addr) (c : Nat) (w : World) (h : LogW w lb g A) (hF : Fits g ks k)
  (hv : Vw w a (rootL (g.top - 1) ks k).length c 1 (bvs (rootL (g.top - 1) ks k))) :
  Calls Tryz.prog 21 #[.pointer (some ⟨lb, 0, none⟩), .slice a (rootL (g.top - 1) ks k).length c] w fun e w' => e = .returned (.int .i64 0) ∧ ∃ A' x, x.p = g.top - 1 ∧ LogW w' lb (lgRoot g x ks (g.n + 1)) A' ∧ Upd (fun q => q = lb) w w' := by
 have hread := read_root lb (g.top - 1) ks k hF.inn a c w hv
 have hw : IntKind.i64.wrap (g.n + 1) = g.n + 1 := IntWalk.i64_in _ (by have := hF.n0; have := hF.n1; omega)
 have HF := Lib.hid hF
 have HL := Lib.hid h
 have hlt := h.lt
 clear h hF hv
 go_enter Tryz.func21, Tryz.ntmps21
 go_wp2_with fail
 refine hread.mono ?_
 rintro e w1 ⟨L2, BX, a2, c2, rfl, hL2, hBX, hv2, hfr, hU⟩
 have hr1 := read1_any g A lb L2 BX a2 c2 ks k w1 (HL.out.other hU) HF.out (fun q hq => by have := hfr q hq; omega) hL2 hBX hv2
 have HU := Lib.hid hU
 clear hread hL2 hBX hv2 hfr hU
 go_wp2_with fail
 refine hr1.mono ?_
 rintro e w2 ⟨rfl, A', x, hx, hL2, hU2⟩
 have HL2 := Lib.hid hL2
 have HU2 := Lib.hid ((HU.out.mono (fun _ _ h => h.elim)).trans hU2)
 have q := hL2.c12
 have f := hL2.free 12
 have hqn : (lgRoot g x ks g.n).n = g.n := rfl
 rw [hqn] at q
 clear hr1 hL2 hU2 hqn
 go_wp2_with fail
 have hfin := HL2.out.setN (g.n + 1)
 have HZ := Lib.hid (And.intro hfin.1 (HU2.out.trans hfin.2))
 clear hfin q f
 go_ret
 exact ⟨rfl, A', x, hx, HZ.out⟩
theorem ownsRow_set {w : World} {e : TypeId} {g n c : Nat} {xs : List Value} (h : w.ownsRow 0 e 1 (.slice (some ⟨g, 0, none⟩) n c) n xs) (j : Nat) (hj : j < n) (u : Value) :
  (w.setCell ⟨g, j, none⟩ u).ownsRow 0 e 1 (.slice (some ⟨g, 0, none⟩) n c) n (xs.set j u) := by
 rcases h.2 with ⟨hv, _⟩ | ⟨g', cap, cur, hv, hbg, hg, hnc, hcm, hcs, htake⟩
 ·cases hv
 ·simp only [Value.slice.injEq, Option.some.injEq, Addr.mk.injEq, and_true, true_and] at hv
  obtain ⟨rfl, rfl⟩ := hv
  simp only [Nat.mul_one] at *
  refine ⟨by rw [List.length_set, h.1, Nat.mul_one], .inr ⟨g, c, cur.setIfInBounds j u, rfl, hbg, setCell_heap j u hg, hnc, hcm, by simpa using hcs, ?_⟩⟩
  rw [← htake, Nat.mul_one, Array.toList_setIfInBounds, List.take_set]
theorem ownsRow_at {w : World} {e : TypeId} {g n c : Nat} {xs : List Value} (h : w.ownsRow 0 e 1 (.slice (some ⟨g, 0, none⟩) n c) n xs) (j : Nat) (u : Value) (hu : xs[j]? = some u) : w.cell? ⟨g, j, none⟩ = some u := by
 have hv := Vw.of_own h
 have := hv.cell ⟨g, 0, none⟩ rfl j u hu
 have ha : (Addr.add ⟨g, 0, none⟩ j) = ⟨g, j, none⟩ := by unfold Addr.add; split <;> simp_all
 rwa [ha] at this
theorem ownsRow_free {w : World} {e : TypeId} {g n c : Nat} {xs : List Value} (h : w.ownsRow 0 e 1 (.slice (some ⟨g, 0, none⟩) n c) n xs) (j : Nat) (hj : j < n) : w.frozen? ⟨g, j, none⟩ = false := by
 rcases h.2 with ⟨hv, _⟩ | ⟨g', cap, cur, hv, hbg, hg, hnc, hcm, hcs, htake⟩
 ·cases hv
 ·simp only [Value.slice.injEq, Option.some.injEq, Addr.mk.injEq, and_true, true_and] at hv
  obtain ⟨rfl, rfl⟩ := hv
  simp [World.frozen?, hg]
structure RevAt (xs : List Int) (t : Nat) (ys : List Int) : Prop where
 len : ys.length = xs.length
 val : ∀ k, k < xs.length → ys[k]? = if k < t ∨ xs.length ≤ k + t then xs[xs.length - 1 - k]? else xs[k]?
theorem RevAt.step {xs ys : List Int} {t : Nat} (h : RevAt xs t ys) (ht : t < xs.length - 1 - t) (x y : Int) (hx : xs[t]? = some x) (hy : xs[xs.length - 1 - t]? = some y) : RevAt xs (t + 1) ((ys.set t y).set (xs.length - 1 - t) x) := by
 refine ⟨by simp [h.len], fun k hk => ?_⟩
 have hl := h.len
 rw [List.getElem?_set, List.getElem?_set, List.length_set]
 by_cases h1 : xs.length - 1 - t = k
 ·rw [if_pos h1, if_pos (by omega), if_pos (by omega), ← h1, show xs.length - 1 - (xs.length - 1 - t) = t from by omega, hx]
 ·rw [if_neg h1]
  by_cases h2 : t = k
  ·rw [if_pos h2, if_pos (by omega), if_pos (by omega), ← h2, hy]
  ·rw [if_neg h2, h.val k hk]
   by_cases h3 : k < t ∨ xs.length ≤ k + t
   ·rw [if_pos h3, if_pos (by omega)]
   ·rw [if_neg h3, if_neg (by omega)]
theorem RevAt.fin {xs ys : List Int} {t : Nat} (h : RevAt xs t ys) (ht : xs.length ≤ 2 * t + 1) : ys = xs.reverse := by
 apply List.ext_getElem?
 intro k
 have hl := h.len
 by_cases hk : k < xs.length
 ·rw [h.val k hk, List.getElem?_reverse hk]
  split
  ·rfl
  ·rename_i h3
   have : xs.length - 1 - k = k := by omega
   rw [this]
 ·rw [List.getElem?_eq_none (by omega), List.getElem?_eq_none (by simp; omega)]
set_option maxHeartbeats 4000000 in
theorem rev_any (a : Option Addr) (c : Nat) (xs : List Int) (w : World) (h : w.ownsRow 0 3 1 (.slice a xs.length c) xs.length (xs.map iv)) (hl : xs.length ≤ 100000) :
  Calls Tryz.prog 64 #[.slice a xs.length c] w fun e w' => e = .returned (.tuple #[]) ∧ w'.ownsRow 0 3 1 (.slice a xs.length c) xs.length (xs.reverse.map iv) ∧ Upd (fun q => blk a = some q) w w' := by
 have hw : IntKind.i64.wrap ((xs.length : Int) - 1) = (xs.length : Int) - 1 := IntWalk.i64_in _ (by omega)
 have hlv := (Vw.of_own h).le
 have hcv := (Vw.of_own h).cap
 unfold maxLen at hcv
 have HO := Lib.hid h
 clear h
 go_enter Tryz.func64, Tryz.ntmps64
 go_wp2_with fail
 go_loopw [2, 3] (fun i j wr => ∃ (t : Nat) (ys : List Int), t ≤ xs.length ∧ i = .int .i64 (t : Int) ∧ j = .int .i64 ((xs.length : Int) - 1 - (t : Int)) ∧ Hid (RevAt xs t ys ∧ wr.ownsRow 0 3 1 (.slice a xs.length c) xs.length (ys.map iv) ∧ Upd (fun q => blk a = some q) w wr)) (fun i _ _ => xs.length - (intOf i).toNat)
 case atStart => exact ⟨0, xs, Nat.zero_le _, rfl, by simp, Lib.hid ⟨⟨rfl, fun k hk => by simp; omega⟩, HO.out, Upd.refl _ _⟩⟩
 case round =>
  clear HO
  obtain ⟨t, ys, ht, rfl, rfl, HI⟩ := hrel
  by_cases hlt : t < xs.length - 1 - t
  ·have hI : (t : Int) < (xs.length : Int) - 1 - (t : Int) := by omega
   have hI0 : (0 : Int) ≤ (t : Int) := by omega
   have hI1 : (t : Int) < (xs.length : Int) := by omega
   have hI2 : (0 : Int) ≤ (xs.length : Int) - 1 - (t : Int) := by omega
   have hI3 : (xs.length : Int) - 1 - (t : Int) < (xs.length : Int) := by omega
   have hj : ((xs.length : Int) - 1 - (t : Int)).toNat = xs.length - 1 - t := by omega
   obtain ⟨g, rfl⟩ : ∃ g, a = some ⟨g, 0, none⟩ := by
    rcases HI.out.2.1.2 with ⟨hv, _⟩ | ⟨g, cap, cur, hv, _⟩
    ·simp only [Value.slice.injEq] at hv; omega
    ·simp only [Value.slice.injEq] at hv; exact ⟨g, hv.1⟩
   have hq := And.intro (RevAt.val HI.out.1 t (by omega)) (RevAt.val HI.out.1 (xs.length - 1 - t) (by omega))
   rw [if_neg (by omega), if_neg (by omega)] at hq
   obtain ⟨x, hx⟩ : ∃ x, xs[t]? = some x := ⟨_, List.getElem?_eq_getElem (by omega)⟩
   obtain ⟨y, hy⟩ : ∃ y, xs[xs.length - 1 - t]? = some y := ⟨_, List.getElem?_eq_getElem (by omega)⟩
   have hc1 : wr.cell? ⟨g, t, none⟩ = some (.int .i64 x) := ownsRow_at HI.out.2.1 t _ (by simp [hq.1, hx, iv])
   have hc2 : wr.cell? ⟨g, xs.length - 1 - t, none⟩ = some (.int .i64 y) := ownsRow_at HI.out.2.1 (xs.length - 1 - t) _ (by simp [hq.2, hy, iv])
   have hf1 := ownsRow_free HI.out.2.1 t (by omega)
   have hf2 := ownsRow_free HI.out.2.1 (xs.length - 1 - t) (by omega)
   obtain ⟨j, hjj⟩ : ∃ j, xs.length - 1 - t = j := ⟨_, rfl⟩
   have hjI : (xs.length : Int) - 1 - (t : Int) = (j : Int) := by omega
   have hne : t ≠ j := by omega
   have hlast := HI.out.2.1
   have hstep := HI.out.1.step hlt x y hx hy
   have ho2 := ownsRow_set (ownsRow_set HI.out.2.1 t (by omega) (.int .i64 y)) (xs.length - 1 - t) (by omega) (.int .i64 x)
   have hU2 : Upd (fun q => blk (some (⟨g, 0, none⟩ : Addr)) = some q) w ((wr.setCell ⟨g, t, none⟩ (.int .i64 y)).setCell ⟨g, xs.length - 1 - t, none⟩ (.int .i64 x)) :=
    (HI.out.2.2.trans (Upd.setCell (S := fun q => blk (some (⟨g, 0, none⟩ : Addr)) = some q) wr (by rfl) _)).trans (Upd.setCell (S := fun q => blk (some (⟨g, 0, none⟩ : Addr)) = some q) _ (by rfl) _)
   rw [hjj] at hc2 hf2 ho2 hU2 hstep
   rw [hjI]
   rw [hjI] at hI hI2 hI3
   have hd1 : IntKind.i64.wrap ((t : Int) + 1) = (t : Int) + 1 := IntWalk.i64_in _ (by omega)
   have hd2 : IntKind.i64.wrap ((j : Int) - 1) = (j : Int) - 1 := IntWalk.i64_in _ (by omega)
   have HX := Lib.hid (And.intro hstep (And.intro ho2 (And.intro hU2 (And.intro hjj hjI))))
   clear hstep ho2 hU2 hjj hjI hlast hq hx hy hj HI hlt
   have hap : (⟨g, t, none⟩ : Addr) ≠ ⟨g, j, none⟩ := fun e => by cases e; exact hne rfl
   go_upto_region 3 with (fail)
   go_region
   go_wp2_with fail
   go_roundw
   case rel => exact ⟨t + 1, _, by omega, by first | rfl | go_num, by rw [← HX.out.2.2.2.2]; congr 1; omega, Lib.hid ⟨HX.out.1, by have := ownsRow_upd HX.out.2.1 (Upd.drew (fun _ => False) _) (fun _ _ h => h); simpa [iv, List.map_set] using this, HX.out.2.2.1.trans (Upd.drew _ _)⟩⟩
   case measure => simp [intOf]; omega
  ·have hI : ¬ (t : Int) < (xs.length : Int) - 1 - (t : Int) := by omega
   have hfin := HI.out.1.fin (by omega)
   have hr := HI.out.2.1
   rw [hfin] at hr
   have HF := Lib.hid (And.intro hr HI.out.2.2)
   clear hfin hr HI hlt
   go_wp2_with fail
   go_end0
   refine ⟨rfl, ?_, HF.out.2⟩
   have := HF.out.1
   rw [List.map_reverse] at this
   exact this
/-- From the root i back, each one's elder: these. -/
def Chain (rr : List RRow) : Int → List Int → Prop
 | i, [] => i < 0
 | i, j :: L => j = i ∧ 0 ≤ i ∧ ∃ x, rr[i.toNat]? = some x ∧ Chain rr x.p L
theorem rr_get (rr : List RRow) (i : Nat) (x : RRow) (hx : rr[i]? = some x) : (rr.flatMap rrV)[i * 5 + 0]? = some (.int .i64 x.p) := by
 rw [flatMap_get rrV 5 rrV_len rr i 0 (by decide), hx]; rfl
set_option maxHeartbeats 4000000 in
theorem mLine_any (g : Lg) (A : LA) (lb : Nat) (L : List Int) (w : World) (h : LogW w lb g A) (hch : Chain g.rr (g.top - 1) L) (ht0 : 0 ≤ g.top) (ht1 : g.top ≤ 2000) (hL : L.length ≤ 100000) :
  Calls Tryz.prog 26 #[.pointer (some ⟨lb, 0, none⟩)] w fun e w' => ∃ a c, e = .returned (.slice a L.length c) ∧ w'.ownsRow 0 3 1 (.slice a L.length c) L.length (L.reverse.map iv) ∧ (∀ q, blk a = some q → w.heap.size ≤ q) ∧ Upd (fun _ => False) w w' := by
 have hat := mAt_any h ht0 (by omega)
 obtain ⟨ra, rc, fa, fc, ka, kc, da, dc⟩ := A
 obtain ⟨rr, fs, cs, top, ds, n⟩ := g
 dsimp only at *
 have HL := Lib.hid h
 have HCH := Lib.hid hch
 have hcap := h.rr.cap
 have hlr := h.rr.le
 unfold maxLen at hcap
 dsimp only at hcap hlr
 clear h hch
 go_enter Tryz.func26, Tryz.ntmps26
 go_wp2_with fail
 refine hat.mono ?_
 rintro e w' ⟨rfl, rfl⟩
 clear hat
 go_wp2_with fail
 go_loopw [3, 4] (fun o i wr => ∃ (D R : List Int) (a' : Option Addr) (c' : Nat) (v : Int), Hid (D ++ R = L ∧ Chain rr v R) ∧ o = .slice a' D.length c' ∧ i = .int .i64 v ∧ Hid (wr.ownsRow 0 3 1 (.slice a' D.length c') D.length (D.map iv) ∧ (∀ q, blk a' = some q → w.heap.size ≤ q) ∧ Upd (fun _ => False) w wr)) (fun o _ _ => L.length - (match o with | .slice _ n _ => n | _ => 0))
 case atStart => exact ⟨[], L, none, 0, top - 1, Lib.hid ⟨rfl, HCH.out⟩, rfl, rfl, Lib.hid ⟨World.ownsRow_nil _ _ _ _, (fun q e => by cases e), Upd.refl _ _⟩⟩
 case round =>
  clear HCH
  obtain ⟨D, R, a', c', v, HC, rfl, rfl, HI⟩ := hrel
  cases R with
  | nil =>
   have hv : v < 0 := HC.out.2
   have hI : decide ((0 : Int) ≤ v) = false := by rw [decide_eq_false_iff_not]; omega
   have hDL : D = L := by have := HC.out.1; rwa [List.append_nil] at this
   subst hDL
   have hrev := rev_any a' c' D wr HI.out.1 hL
   have HF := Lib.hid HI.out.2
   clear HC HI
   go_wp2_with fail
   refine hrev.mono ?_
   rintro e w2 ⟨rfl, hown, hU⟩
   have HZ := Lib.hid (And.intro hown (HF.out.2.next hU (fun i hi e => by have := HF.out.1 i e; omega)))
   clear hrev hown hU
   go_wp2_with fail
   go_ret
   exact ⟨a', c', rfl, HZ.out.1, HF.out.1, HZ.out.2⟩
  | cons j R =>
   obtain ⟨hDR, hjv, h0, x, hx, hch⟩ := HC.out
   subst hjv
   have hlen := (List.getElem?_eq_some_iff.1 hx).1
   have hDl : D.length ≤ 100000 := by have := congrArg List.length hDR; rw [List.length_append] at this; omega
   have hI2 : j < (rr.length : Int) := by omega
   have hLw := HL.out.other HI.out.2.2
   obtain ⟨b, o, hb, hcell⟩ := hLw.rr.at (by show 0 < rr.length; omega) (by decide)
   dsimp only at hb
   subst hb
   have q0 := hLw.c0
   dsimp only at q0
   have hq := hcell (j.toNat * 5 + 0) _ (rr_get rr j.toNat x hx)
   rw [Nat.add_zero] at hq
   have HX := Lib.hid (And.intro hDR (And.intro hx hch))
   have hmeas : D.length < L.length := by rw [← hDR, List.length_append, List.length_cons]; omega
   obtain ⟨i0, hi, hz0, hz1, hz2⟩ := info_parts4 infoIntZ
   have HIX := Lib.hid (And.intro hi (And.intro hz0 (And.intro hz1 hz2)))
   clear hi hz0 hz1 hz2 hDR hx hch HC
   have hUa := Upd.alloc (fun _ => False) wr (.cells #[.int .i64 j] 3)
   have hown1 := ownsRow_upd HI.out.1 hUa (fun _ _ h => h)
   have hsrc := int_src wr j
   clear q0 hq hcell hLw
   go_upto_region 6 with (fail)
   go_wp2_with (at_builtin; refine wpList_app _ rfl (.tmp 19) (.tmp 21) 49 49 rfl 3 i0 (.int .i64 0) 1 8 Tryz.underlying49 HIX.out.1 HIX.out.2.1 HIX.out.2.2.1 HIX.out.2.2.2 rfl a' D.length c' (D.map iv) rfl hown1 (.slice (some ⟨wr.heap.size, 0, none⟩) 1 1) 1 [iv j] rfl hsrc ?_ ?_ ?_)
   ·unfold maxLen; omega
   ·omega
   intro a8 c8 w8 hown8 hg8 hat8 hnil8
   have hU8 : Upd (fun _ => False) w w8 := (HI.out.2.2.trans hUa).next (Upd.grown (S := fun k => blk a' = some k) hg8 (fun k hk => hk)) (fun i hi e => by have := HI.out.2.1 i e; omega)
   have hz8 := hUa.size
   have hzw := HI.out.2.2.size
   have hf8 : ∀ q, blk a8 = some q → w.heap.size ≤ q := fun q hq => by
    rcases hat8 with e | e
    ·exact HI.out.2.1 q (e.symm.trans hq)
    ·rw [e] at hq; cases hq; omega
   have hLw8 := HL.out.other hU8
   obtain ⟨b2, o2, hb2, hcell2⟩ := hLw8.rr.at (by show 0 < rr.length; omega) (by decide)
   dsimp only at hb2
   cases hb2
   have q0 := hLw8.c0
   dsimp only at q0
   have hq := hcell2 (j.toNat * 5 + 0) _ (rr_get rr j.toNat x HX.out.2.1)
   rw [Nat.add_zero] at hq
   have HN := Lib.hid (And.intro hown8 (And.intro hf8 hU8))
   clear hown8 hg8 hat8 hnil8 hU8 hz8 hzw hf8 hLw8 hcell2 hUa hown1 hsrc
   go_wp2_with fail
   go_roundw
   case rel => exact ⟨D ++ [j], R, a8, c8, x.p, Lib.hid ⟨by rw [← HX.out.1]; simp, HX.out.2.2⟩, by simp, rfl, Lib.hid ⟨by have := HN.out.1; simpa [iv] using this, HN.out.2⟩⟩
   case measure => simp; omega
end Go.Proofs.YtccejkikphpnfaaGreatDoor
