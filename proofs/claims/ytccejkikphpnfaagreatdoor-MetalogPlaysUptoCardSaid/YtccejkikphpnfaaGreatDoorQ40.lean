
/- The document's log: Commits. -/
import Derived.Test.YtccejkikphpnfaaGreatDoorQ39
namespace Go.Proofs.YtccejkikphpnfaaGreatDoor
set_option linter.unusedSimpArgs false
set_option linter.unusedVariables false
set_option maxRecDepth 100000
open Go.ChangeShapes Go.WideShapes Go.ChangeAt Go.RowKit
def RAdd (w : World) (rb lb : Nat) (A : RA) (n E : Int) (m : MS) (e : Ending) (w' : World) : Prop := e = .returned (.int .i64 E) ∧ ∃ g' A', Twin m g' ∧ g'.n = n ∧ RefX w' rb lb g' A' ∧ Upd (fun q => q = rb ∨ blk A.ra = some q) w w' ∧ ∀ q, blk A'.ra = some q → blk A.ra = some q ∨ w.heap.size ≤ q
theorem s1L_drop (l : List UInt8) (h : 1 ≤ l.length) : s1L l = ⟨l.drop 1, 0⟩ := by
 cases l with
 | nil => simp at h
 | cons b l => rw [(kind_cons b l).2]; rfl
theorem rf_new1 (w : World) (a : Option Addr) (c : Nat) (l : List UInt8) (hv : Vw w a l.length c 1 (bvs l)) (h1 : 1 ≤ l.length) (hl : l.length ≤ 100000000) (hb : ∀ b, blk a = some b → b < w.heap.size) :
  Rf (w.alloc (.cells #[.slice a l.length c, .int .i64 1, .int .i64 0] 149)) w.heap.size (blk a) (s1L l) := by
 refine ⟨⟨a, c, l, 1, 0, heap_alloc_new _ _, hv.upd (Upd.alloc (fun _ => False) _ _) (fun _ _ h => h), rfl, h1, hl, ?_⟩, fun h => ?_⟩
 ·rw [s1L_drop l h1]; unfold absR; rw [if_pos rfl]
 ·have := hb _ h; omega
theorem RAdd.no {w w' : World} {rb lb : Nat} {g : RX} {A : RA} {m : MS} (h : RefX w rb lb g A) (ht : Twin m g) (hU : Upd (fun _ => False) w w') : RAdd w rb lb A g.n 5 m (.returned (.int .i64 5)) w' :=
 ⟨rfl, g, A, ht, rfl, h.other hU, hU.mono (fun _ _ h => h.elim), fun q hq => .inl hq⟩
theorem okWait_clean {l : List UInt8} (h : okWait l = true) (hl : l.length ≤ 70000000) : (waitS (s1L l)).2.e = 0 := by
 unfold okWait at h
 rw [Bool.and_eq_true] at h
 have hg : waitGC (waitS (s1L l)).1 = l := eq_of_beq h.2
 have := wait_back (waitS (s1L l)).1 h.1 (by rw [hg]; omega)
 rw [hg] at this
 rw [this.2]
set_option maxHeartbeats 16000000 in
theorem rAddWait_any (m : MS) (g : RX) (A : RA) (rb lb : Nat) (a : Option Addr) (c : Nat) (l : List UInt8) (w : World) (h : RefX w rb lb g A) (ht : Twin m g) (hv : Vw w a l.length c 1 (bvs l)) (h1 : 1 ≤ l.length) (hl : l.length ≤ 70000000) (hb : ∀ b, blk a = some b → b < w.heap.size) :
  Calls Tryz.prog 71 #[.pointer (some ⟨rb, 0, none⟩), .slice a l.length c] w (RAdd w rb lb A g.n (if okWait l = true then 0 else 5) (if okWait l = true then (m.wait (waitS (s1L l)).1).2 else m)) := by
 have hU0 := Upd.alloc (fun _ => False) w (.cells #[.slice a l.length c, .int .i64 1, .int .i64 0] 149)
 have hrf := rf_new1 w a c l hv h1 (by omega) hb
 have hz0 : (w.alloc (.cells #[.slice a l.length c, .int .i64 1, .int .i64 0] 149)).heap.size = w.heap.size + 1 := by simp
 have hcw := r21wait_any w.heap.size (blk a) (s1L l) _ hrf (fun q hq => by have := hb q hq; omega)
 have hlen := waitS_len (s1L l)
 have hs1 : (s1L l).l.length ≤ l.length := by unfold s1L; exact takeS_len 1 _
 have hOK : okWait l = (waitBC (waitS (s1L l)).1 && (waitGC (waitS (s1L l)).1 == l)) := rfl
 have hcl := fun h => okWait_clean (l := l) h hl
 generalize okWait l = OK at *
 generalize (waitS (s1L l)).1 = cw at *
 generalize (waitS (s1L l)).2 = s2 at *
 obtain ⟨E0, hE0⟩ : ∃ E, E = (if OK = true then (0 : Int) else 5) := ⟨_, rfl⟩
 obtain ⟨m0, hm0⟩ : ∃ E, E = (if OK = true then (m.wait cw).2 else m) := ⟨_, rfl⟩
 rw [← hE0, ← hm0]
 have HE0 := Lib.hid (And.intro hE0 hm0)
 have HN0 : Hid (OK = false → E0 = 5 ∧ m0 = m) := Lib.hid (fun h => by rw [hE0, hm0, h]; exact ⟨rfl, rfl⟩)
 have HN1 : Hid (OK = true → E0 = 0 ∧ m0 = (m.wait cw).2) := Lib.hid (fun h => by rw [hE0, hm0, h]; exact ⟨rfl, rfl⟩)
 clear hE0 hm0 HE0
 have HG := Lib.hid (And.intro h (And.intro ht (And.intro hv (And.intro hb hU0))))
 have HOK := Lib.hid (And.intro hOK hcl)
 have HLN : Hid ((waitGC cw).length ≤ 80000000) := Lib.hid (by omega)
 clear h ht hv hb hU0 hrf hOK hcl hlen hs1 h1
 go_enter Tryz.func71, Tryz.ntmps71
 go_wp2_with fail
 refine hcw.mono ?_
 unfold GotWtR
 rintro e w1 ⟨p, rfl, hon, hpc, hin, hbl, hR, hU⟩
 have hrl := HG.out.1.lt
 have hz1 := hU.size
 have hUw : Upd (fun _ => False) w w1 := HG.out.2.2.2.2.next hU (fun i hi e => by omega)
 have hzr := heap_alloc_new w1 (.cells #[.bool false, .bool false, .int .i64 0, .int .i64 0, .slice none 0 0, .int .i64 0, .slice none 0 0] 30)
 have hUz := Upd.alloc (fun _ => False) w1 (.cells #[.bool false, .bool false, .int .i64 0, .int .i64 0, .slice none 0 0, .int .i64 0, .slice none 0 0] 30)
 have hUs := Upd.setRow (S := fun k => k = w1.heap.size) (w1.alloc (.cells #[.bool false, .bool false, .int .i64 0, .int .i64 0, .slice none 0 0, .int .i64 0, .slice none 0 0] 30)) (b := w1.heap.size) rfl (wtA p)
 have hU2 : Upd (fun _ => False) w1 ((w1.alloc (.cells #[.bool false, .bool false, .int .i64 0, .int .i64 0, .slice none 0 0, .int .i64 0, .slice none 0 0] 30)).setRow w1.heap.size (wtA p)) := hUz.next hUs (fun i hi e => by omega)
 have hrow2 := setRow_heap _ _ _ (wtA p) _ _ hzr
 have hpk := r21PackWait_gen p _ (hin.upd hU2) (by rw [waitG_c, hpc]; exact HLN.out)
 have hsz : (Tryz.prog.info? 30).map (·.size) = some (wtA p).size := by rw [infoPd7]; rfl
 have h7 : (wtA p).size = 7 := rfl
 have hone : (wtA p).all (·.oneCell') = true := by simp [wtA, Value.oneCell']
 have HA := Lib.hid (And.intro hsz (And.intro h7 hone))
 have hwR : waitR p = if waitBC cw = true then waitGC cw else [] := by unfold waitR; rw [waitB_c, waitG_c, hpc, hon, Bool.true_and]
 have hwE : waitE p = if waitBC cw = true then 0 else 5 := by unfold waitE; rw [waitB_c, hpc, hon, Bool.true_and]
 rw [hwR, hwE] at hpk
 obtain ⟨RR, hRR⟩ : ∃ R, R = if waitBC cw = true then waitGC cw else [] := ⟨_, rfl⟩
 obtain ⟨EE, hEE⟩ : ∃ E, E = if waitBC cw = true then (0 : Int) else 5 := ⟨_, rfl⟩
 rw [← hRR, ← hEE] at hpk
 have HRE : Hid ((waitBC cw = true → RR = waitGC cw ∧ EE = 0) ∧ (waitBC cw = false → EE = 5)) := Lib.hid ⟨fun h => by rw [hRR, hEE, if_pos h, if_pos h]; exact ⟨rfl, rfl⟩, fun h => by rw [hEE, h]; rfl⟩
 clear hRR hEE
 have HX := Lib.hid (And.intro (hin.upd hU2) (And.intro hbl (And.intro (hR.upd hU2 (fun h => h) (fun _ _ h => h)) (And.intro (hUw.trans hU2) (And.intro hon (And.intro hpc hU2.size))))))
 have hbr : w.heap.size ≠ w1.heap.size := by omega
 clear hon hpc hin hbl hR hU hUz hUs hU2 hsz h7 hone hwR hwE hUw hcw
 generalize hAA : wtA p = AA at *
 have HAA := Lib.hid hAA
 clear hAA
 go_wp2_with first
  | refine wpList_store_row rfl 30 (.tmp 6) (.tmp 13) rfl w1.heap.size AA _ 30 rfl rfl hzr HA.out.1 (by rw [HA.out.2.1]; rfl) HA.out.2.2 ?_
  | refine wpList_load_row rfl 30 (.tmp 6) rfl w1.heap.size AA 30 (0, 0) _ rfl hrow2 Tryz.underlying30 rfl HA.out.1 ?_
 refine hpk.mono ?_
 unfold Packed
 rintro e w3 ⟨a3, c3, rfl, hv3, hf3, hU3⟩
 generalize (w1.alloc (.cells #[.bool false, .bool false, .int .i64 0, .int .i64 0, .slice none 0 0, .int .i64 0, .slice none 0 0] 30)).setRow w1.heap.size AA = w2 at *
 have hqe := (HX.out.2.2.1.upd hU3 (fun h => h) (fun _ _ h => h)).err
 have HY := Lib.hid (And.intro hv3 (HX.out.2.2.2.1.trans hU3))
 have hrow3 := (hU3.block _ (lt_of_heap hrow2) (fun h => h)).trans hrow2
 have HU3 := Lib.hid hU3
 clear hv3 hf3 hU3 hpk hzr hrow2
 by_cases he : s2.e = 0
 case neg =>
  have hbe : (s2.e != 0) = true := by simp [he]
  have HF : Hid (OK = false) := Lib.hid (by
   cases hO : OK with
   | false => rfl
   | true => exact absurd (HOK.out.2 hO) he)
  clear he
  obtain ⟨rfl, rfl⟩ := HN0.out HF.out
  go_wp2_with fail
  go_ret
  exact RAdd.no HG.out.1 HG.out.2.1 HY.out.2
 case pos =>
  have hbe : (s2.e != 0) = false := by simp [he]
  rw [he] at hqe
  clear he hbe
  by_cases hB : waitBC cw = true
  case neg =>
   have hB0 : waitBC cw = false := by simpa using hB
   have HF : Hid (OK = false) := Lib.hid (by rw [HOK.out.1, hB0]; rfl)
   obtain rfl := HRE.out.2 hB0
   obtain ⟨rfl, rfl⟩ := HN0.out HF.out
   clear hB hB0
   go_wp2_with fail
   go_ret
   exact RAdd.no HG.out.1 HG.out.2.1 HY.out.2
  case pos =>
   obtain ⟨rfl, rfl⟩ := HRE.out.1 hB
   have hO1 : OK = (waitGC cw == l) := by rw [HOK.out.1, hB, Bool.true_and]
   have hbs := sBytes_any a3 a c3 c (waitGC cw) l w3 HY.out.1 (HG.out.2.2.1.upd HY.out.2 (fun _ _ h => h))
   rw [← hO1] at hbs
   clear hB hO1
   go_wp2_with fail
   refine hbs.mono ?_
   rintro e w4 ⟨rfl, rfl⟩
   clear hbs
   cases OK with
   | false =>
    obtain ⟨rfl, rfl⟩ := HN0.out rfl
    go_wp2_with fail
    go_ret
    exact RAdd.no HG.out.1 HG.out.2.1 HY.out.2
   | true =>
    obtain ⟨rfl, rfl⟩ := HN1.out rfl
    have hR3 := HG.out.1.other HY.out.2
    have hth := hR3.there
    have hfin := hR3.putP p (HX.out.1.upd HU3.out) (HX.out.2.1.mono (fun q hq => by
     have h1 := hq.1
     have h2 := hq.2
     have h3 := HG.out.1.lt
     have h4 := HG.out.1.ll
     have h5 := HU3.out.size
     have h6 := HX.out.2.2.2.2.2.2
     exact ⟨⟨by omega, by omega, by omega⟩, fun e => by have := (HG.out.1.n1 q e).2.2; omega⟩))
    rw [HAA.out] at hfin
    have HFN := Lib.hid hfin
    clear hfin
    go_wp2_with first
     | refine wpList_load_row rfl 30 (.tmp 6) rfl w1.heap.size AA 30 (0, 0) _ rfl hrow3 Tryz.underlying30 rfl HA.out.1 ?_
     | refine wpList_store_mid rfl 30 (.tmp 37) (.tmp 35) rfl rb 3 AA rfl rfl (by rw [HA.out.2.1]; exact hth) HA.out.1 HA.out.2.2 ?_
    go_ret
    refine ⟨rfl, ⟨g.rr, g.at_, g.ds, p, g.n⟩, A, ?_, rfl, HFN.out.1, (HY.out.2.mono (fun _ _ h => h.elim)).trans (HFN.out.2.mono (fun _ _ h => .inl h)), fun q hq => .inl hq⟩
    have ht := HG.out.2.1
    exact ⟨ht.rr, ht.top, ht.ds, HX.out.2.2.2.2.1.symm, HX.out.2.2.2.2.2.1.symm⟩
def KeysV (w : World) (l : List Ky) (e : Ending) (w' : World) : Prop := ∃ a c, e = .returned (.slice a l.length c) ∧ Vw w' a l.length c 32 (l.flatMap kyV) ∧ Upd (fun _ => False) w w'
theorem keys_succ (rr : List Rt) (j : Nat) (x : Rt) (hx : rr[j]? = some x) : (rr.take (j + 1)).flatMap (·.ks) = (rr.take j).flatMap (·.ks) ++ x.ks := by
 obtain ⟨hj, rfl⟩ := List.getElem?_eq_some_iff.1 hx
 rw [List.take_succ_eq_append_getElem hj, List.flatMap_append]
 simp
set_option maxHeartbeats 4000000 in
theorem rCommits_any (g : RX) (A : RA) (rb lb : Nat) (w : World) (h : RefX w rb lb g A) (hs : (g.rr.flatMap (·.ks)).length ≤ 100000) :
  Calls Tryz.prog 42 #[.pointer (some ⟨rb, 0, none⟩)] w (KeysV w (g.rr.flatMap (·.ks))) := by
 have q0 := h.c0
 have HL := Lib.hid h
 have hcap := h.rv.cap
 have hlr := h.rv.le
 unfold maxLen at hcap
 have HS := Lib.hid hs
 clear h hs
 obtain ⟨KS, hKS⟩ : ∃ K, K = g.rr.flatMap (·.ks) := ⟨_, rfl⟩
 have HKS := Lib.hid hKS
 rw [← hKS]
 clear hKS
 go_enter Tryz.func42, Tryz.ntmps42
 go_wp2_with fail
 go_loopw [3, 4] (fun o k wr => ∃ (j : Nat) (D : List Ky) (a' : Option Addr) (c' : Nat), j ≤ g.rr.length ∧ Hid (D = (g.rr.take j).flatMap (·.ks)) ∧ o = .slice a' D.length c' ∧ k = .int .i64 (j : Int) ∧
   Hid (wr.ownsRow 0 52 32 (.slice a' D.length c') D.length (D.flatMap kyV) ∧ (∀ q, blk a' = some q → w.heap.size ≤ q) ∧ Upd (fun _ => False) w wr)) (fun _ k _ => g.rr.length - (intOf k).toNat)
 case atStart => exact ⟨0, [], none, 0, Nat.zero_le _, Lib.hid (by simp), rfl, rfl, Lib.hid ⟨World.ownsRow_nil _ _ _ _, (fun q e => by cases e), Upd.refl _ _⟩⟩
 case round =>
  obtain ⟨j, D, a', c', hj, HD, rfl, rfl, HI⟩ := hrel
  clear q0
  have hLw := HL.out.other HI.out.2.2
  have q0 := hLw.c0
  by_cases hjl : j < g.rr.length
  ·have hI2 : (j : Int) < (g.rr.length : Int) := by omega
   have hI3 : (0 : Int) ≤ (j : Int) := by omega
   obtain ⟨x, hx⟩ : ∃ x, g.rr[j]? = some x := ⟨_, List.getElem?_eq_getElem hjl⟩
   have hks := keys_succ g.rr j x hx
   rw [← HD.out] at hks
   have hle := FSum_le g.rr (j + 1)
   unfold FSum at hle
   rw [hks, List.length_append] at hle
   have hlx := HS.out
   have hln : D.length + x.ks.length ≤ 100000 := by omega
   obtain ⟨b, o, hb, hcell⟩ := hLw.rv.at (by omega) (by decide)
   have hq := hcell (j * 5 + 1) _ (rt_get1 g.rr j x hx)
   rw [← Nat.add_assoc] at hq
   rw [hb] at q0
   have hsrc := (hLw.re x (List.mem_of_getElem? hx)).1.cv.src (P := Tryz.prog) (t := 22) Tryz.underlying22 (kysV_one x.ks)
   have HKK := Lib.hid hks
   obtain ⟨i0, hi, hz0, hz1, hz2⟩ := info_parts4 infoKeyZ
   have hown := HI.out.1
   clear hcell hb hx hks hle hLw
   go_wp2_with (at_builtin; refine wpList_app _ rfl (.tmp 14) (.tmp 22) 22 22 rfl 52 i0 (.agg (kyA kyZ)) 32 32 Tryz.underlying22 hi hz0 hz1 hz2 (kyA_size kyZ) a' D.length c' (D.flatMap kyV) rfl hown (.slice x.ca x.ks.length x.cc) x.ks.length (x.ks.flatMap kyV) rfl hsrc ?_ ?_ ?_)
   ·unfold maxLen; omega
   ·omega
   clear hi hz0 hz1 hz2
   intro a8 c8 w8 hown8 hg8 hat8 hnil8
   have hU8 : Upd (fun _ => False) w w8 := HI.out.2.2.next (Upd.grown (S := fun k => blk a' = some k) hg8 (fun k hk => hk)) (fun i hi e => by have := HI.out.2.1 i e; omega)
   have hzw := HI.out.2.2.size
   have hf8 : ∀ q, blk a8 = some q → w.heap.size ≤ q := fun q hq => by
    rcases hat8 with e | e
    ·exact HI.out.2.1 q (e.symm.trans hq)
    ·rw [e] at hq; cases hq; omega
   have hl8 : D.length + x.ks.length = (D ++ x.ks).length := by simp
   have HN : Hid (w8.ownsRow 0 52 32 (.slice a8 (D ++ x.ks).length c8) (D ++ x.ks).length ((D ++ x.ks).flatMap kyV) ∧ (∀ q, blk a8 = some q → w.heap.size ≤ q) ∧ Upd (fun _ => False) w w8) := Lib.hid ⟨by rw [← hl8]; simpa using hown8, hf8, hU8⟩
   clear hown8 hg8 hat8 hnil8 hU8 hzw hf8 hsrc hown
   go_wp2_with fail
   go_roundw
   case rel => exact ⟨j + 1, D ++ x.ks, a8, c8, by omega, Lib.hid (by rw [HKK.out]), by rw [hl8], by first | rfl | go_num, HN⟩
   case measure => simp [intOf]; omega
  ·obtain rfl : j = g.rr.length := by omega
   have hDK : D = KS := by rw [HD.out, HKS.out, List.take_length]
   subst hDK
   have HF := Lib.hid (And.intro (Vw.of_own HI.out.1) HI.out.2.2)
   clear HI HD hLw
   go_wp2_with fail
   go_ret
   exact ⟨a', c', rfl, HF.out.1, HF.out.2⟩
end Go.Proofs.YtccejkikphpnfaaGreatDoor
