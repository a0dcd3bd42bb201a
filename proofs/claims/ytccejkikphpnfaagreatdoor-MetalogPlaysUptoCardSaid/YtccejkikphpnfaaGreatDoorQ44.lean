
/- The document's log: addMove. -/
import Derived.Test.YtccejkikphpnfaaGreatDoorQ40
namespace Go.Proofs.YtccejkikphpnfaaGreatDoor
set_option linter.unusedSimpArgs false
set_option linter.unusedVariables false
set_option maxRecDepth 100000
open Go.ChangeShapes Go.WideShapes Go.ChangeAt Go.RowKit
theorem okMove_clean {l : List UInt8} (h : okMove l = true) : (boolS (takeS 4 (s1L l)).2).2.e = 0 := by
 unfold okMove at h
 have hg := eq_of_beq h
 generalize intV (s1L l) = v at hg
 generalize (boolS (takeS 4 (s1L l)).2).1 = r at hg
 subst hg
 have h1 : s1L (moveL v r) = ⟨i4 v ++ b1 r, 0⟩ := by
  unfold moveL
  rw [List.append_assoc, List.singleton_append, (kind_cons _ _).2]
 rw [h1]
 have h2 : takeS 4 ⟨i4 v ++ b1 r, 0⟩ = (i4 v, ⟨b1 r, 0⟩) := by
  have := i4_length v
  unfold takeS
  rw [if_neg (by simp), if_neg (by simp [this])]
  rw [List.take_append_of_le_length (by omega), List.drop_append_of_le_length (by omega), List.take_of_length_le (by omega), List.drop_of_length_le (by omega)]
  rfl
 rw [h2]
 cases r
 ·show (boolS ⟨b1 false, 0⟩).2.e = 0
  decide
 ·show (boolS ⟨b1 true, 0⟩).2.e = 0
  decide
set_option maxHeartbeats 4000000 in
theorem rAddMove_any (m : MS) (g : RX) (A : RA) (rb lb : Nat) (a : Option Addr) (c : Nat) (l : List UInt8) (w : World) (h : RefX w rb lb g A) (ht : Twin m g) (hi : MSI m) (hn : m.n ≤ 100000) (hv : Vw w a l.length c 1 (bvs l)) (h1 : 1 ≤ l.length) (hl : l.length ≤ 70000000) (hb : ∀ b, blk a = some b → b < w.heap.size) :
  Calls Tryz.prog 70 #[.pointer (some ⟨rb, 0, none⟩), .slice a l.length c] w (RAdd w rb lb A g.n (if okMove l = true then (m.move (mvV l) (mvR l)).1 else 5) (if okMove l = true then (m.move (mvV l) (mvR l)).2 else m)) := by
 have hU0 := Upd.alloc (fun _ => False) w (.cells #[.slice a l.length c, .int .i64 1, .int .i64 0] 149)
 have hrf := rf_new1 w a c l hv h1 (by omega) hb
 have hz0 : (w.alloc (.cells #[.slice a l.length c, .int .i64 1, .int .i64 0] 149)).heap.size = w.heap.size + 1 := by simp
 have hc1 := rfint_any w.heap.size (blk a) (s1L l) _ hrf
 have hc2 := fun w' hr => rfbool_any w.heap.size (blk a) (takeS 4 (s1L l)).2 w' hr
 have hOK : okMove l = (moveL (mvV l) (mvR l) == l) := rfl
 have hcl := fun h => okMove_clean (l := l) h
 have hmv : mvV l = intV (s1L l) := rfl
 have hmr : mvR l = (boolS (takeS 4 (s1L l)).2).1 := rfl
 have hvb := intV_bd (s1L l)
 rw [← hmv] at hc1 hvb
 have hc2' : ∀ w', Rf w' w.heap.size (blk a) (takeS 4 (s1L l)).2 → Calls Tryz.prog 111 #[.pointer (some ⟨w.heap.size, 0, none⟩)] w' (RfRead w' w.heap.size (blk a) (boolS (takeS 4 (s1L l)).2).2 (.bool (mvR l))) := fun w' hr => by rw [hmr]; exact hc2 w' hr
 clear hmv hmr hc2
 generalize okMove l = OK at *
 generalize mvV l = v at *
 generalize mvR l = rd at *
 generalize (boolS (takeS 4 (s1L l)).2).2 = s2 at *
 generalize (takeS 4 (s1L l)).2 = s1 at *
 obtain ⟨E0, hE0⟩ : ∃ E, E = (if OK = true then (m.move v rd).1 else 5) := ⟨_, rfl⟩
 obtain ⟨m0, hm0⟩ : ∃ E, E = (if OK = true then (m.move v rd).2 else m) := ⟨_, rfl⟩
 rw [← hE0, ← hm0]
 have HN0 : Hid (OK = false → E0 = 5 ∧ m0 = m) := Lib.hid (fun h => by rw [hE0, hm0, h]; exact ⟨rfl, rfl⟩)
 have HN1 : Hid (OK = true → (E0, m0) = m.move v rd) := Lib.hid (fun h => by rw [hE0, hm0, h]; rfl)
 clear hE0 hm0
 have hrr : m.rr.length = g.rr.length := by rw [ht.rr, List.length_map]
 have hpx : ∀ i : Nat, m.rr[i]?.map (·.p) = g.rr[i]?.map (·.p) := fun i => by rw [ht.rr, List.getElem?_map]; cases g.rr[i]? <;> rfl
 have hmove : m.move v rd = if g.pd.on = true then (5, m) else if rd = true then (if g.ds.getLast? = some v then (0, ⟨m.rr, m.fs, m.cs, v + 1, m.ds.dropLast, m.on, m.wc, m.n + 1⟩) else (5, m))
   else (if g.at_ ≠ -1 ∧ g.rr[g.at_.toNat]?.map (·.p) = some v then (0, ⟨m.rr, m.fs, m.cs, v + 1, m.ds ++ [m.top - 1], m.on, m.wc, m.n + 1⟩) else (5, m)) := by
  unfold MS.move
  rw [ht.on, ht.ds, hpx, ht.top, show g.at_ + 1 - 1 = g.at_ from by omega]
  have e : (g.at_ + 1 ≠ 0 ∧ Option.map (fun x => x.p) g.rr[g.at_.toNat]? = some v) ↔ (g.at_ ≠ -1 ∧ Option.map (fun x => x.p) g.rr[g.at_.toNat]? = some v) := and_congr_left' (by omega)
  simp only [e]
 have HMV := Lib.hid hmove
 have hA := hi.t0
 have hB := hi.t1
 have hD := hi.dl
 have hRR := hi.rr
 rw [ht.top] at hA hB
 rw [hrr] at hB hRR
 rw [ht.ds] at hD
 have HB := Lib.hid (And.intro hA (And.intro hB (And.intro hRR (show g.ds.length ≤ 100000 by omega))))
 have HG := Lib.hid (And.intro h (And.intro ht (And.intro hv (And.intro hb hU0))))
 have HOK := Lib.hid (And.intro hOK hcl)
 have HVB := Lib.hid hvb
 clear h ht hv hb hU0 hrf hOK hcl h1 hi hrr hpx hmove hA hB hD hRR hvb hn
 go_enter Tryz.func70, Tryz.ntmps70
 go_wp2_with fail
 refine hc1.mono ?_
 unfold RfRead
 rintro e w1 ⟨rfl, hR1, hU1⟩
 have hc2 := hc2' _ hR1
 clear hc1 hc2' hR1
 go_wp2_with fail
 refine hc2.mono ?_
 unfold RfRead
 rintro e w2 ⟨rfl, hR, hU2⟩
 have hqe := hR.err
 have hUw : Upd (fun _ => False) w w2 := HG.out.2.2.2.2.next (hU1.trans hU2) (fun i hi e => by omega)
 have HY := Lib.hid hUw
 have hR3 := HG.out.1.other hUw
 have q3 := hR3.c3
 have hpm := r21PackMove_any v rd w2
 clear hc2 hR hU1 hU2 hUw hR3
 by_cases he : s2.e = 0
 case neg =>
  have hbe : (s2.e != 0) = true := by simp [he]
  have HF : Hid (OK = false) := Lib.hid (by
   cases hO : OK with
   | false => rfl
   | true => exact absurd (HOK.out.2 hO) he)
  obtain ⟨rfl, rfl⟩ := HN0.out HF.out
  clear he
  go_wp2_with fail
  go_ret
  exact RAdd.no HG.out.1 HG.out.2.1 HY.out
 case pos =>
 rw [he] at hqe
 clear he
 go_wp2_with fail
 refine hpm.mono ?_
 unfold Made
 rintro e w3 ⟨a3, c3, rfl, hv3, hf3, hU3⟩
 have hbs := sBytes_any a3 a c3 c (moveL v rd) l w3 hv3 (HG.out.2.2.1.upd (HY.out.trans hU3) (fun _ _ h => h))
 rw [← HOK.out.1] at hbs
 have HY3 := Lib.hid (HY.out.trans hU3)
 clear q3 hv3 hf3 hU3 hpm
 have q3 := (HG.out.1.other HY3.out).c3
 go_wp2_with fail
 refine hbs.mono ?_
 rintro e w4 ⟨rfl, rfl⟩
 clear hbs
 cases OK with
 | false =>
  obtain ⟨rfl, rfl⟩ := HN0.out rfl
  go_wp2_with fail
  go_ret
  exact RAdd.no HG.out.1 HG.out.2.1 HY3.out
 | true =>
 have HR1 := Lib.hid ((HN1.out rfl).trans HMV.out)
 clear HN1 HN0 HMV HOK
 by_cases hon : g.pd.on = true
 case pos =>
  rw [hon] at q3
  have HF : Hid (E0 = 5 ∧ m0 = m) := Lib.hid (by
   have := HR1.out
   rw [if_pos hon] at this
   exact ⟨congrArg Prod.fst this, congrArg Prod.snd this⟩)
  obtain ⟨rfl, rfl⟩ := HF.out
  clear hon HR1
  go_wp2_with fail
  go_ret
  exact RAdd.no HG.out.1 HG.out.2.1 HY3.out
 case neg =>
 have hof : g.pd.on = false := by simpa using hon
 rw [hof] at q3
 have HR2 : Hid ((E0, m0) = if rd = true then (if g.ds.getLast? = some v then (0, ⟨m.rr, m.fs, m.cs, v + 1, m.ds.dropLast, m.on, m.wc, m.n + 1⟩) else (5, m))
   else (if g.at_ ≠ -1 ∧ g.rr[g.at_.toNat]?.map (·.p) = some v then (0, ⟨m.rr, m.fs, m.cs, v + 1, m.ds ++ [m.top - 1], m.on, m.wc, m.n + 1⟩) else (5, m))) := Lib.hid (by
  have := HR1.out
  rw [if_neg hon] at this
  exact this)
 clear hon HR1 hof
 go_upto_region 5 with (fail)
 clear q3 hqe
 cases rd with
 | true =>
  have HR3 : Hid ((E0, m0) = if g.ds.getLast? = some v then (0, ⟨m.rr, m.fs, m.cs, v + 1, m.ds.dropLast, m.on, m.wc, m.n + 1⟩) else (5, m)) := Lib.hid (by
   have := HR2.out
   rw [if_pos rfl] at this
   exact this)
  clear HR2
  have q2 := (HG.out.1.other HY3.out).c2
  have hdl := HB.out.2.2.2
  rcases List.eq_nil_or_concat g.ds with hd | ⟨D, d, hd⟩
  ·have hl0 : g.ds.length = 0 := by rw [hd]; rfl
   rw [hl0] at q2
   have HF : Hid (E0 = 5 ∧ m0 = m) := Lib.hid (by
    have := HR3.out
    rw [if_neg (by rw [hd]; simp)] at this
    exact ⟨congrArg Prod.fst this, congrArg Prod.snd this⟩)
   obtain ⟨rfl, rfl⟩ := HF.out
   clear hd HR3 hl0
   go_wp2_with fail
   go_ret
   exact RAdd.no HG.out.1 HG.out.2.1 HY3.out
  ·rw [List.concat_eq_append] at hd
   have hl0 : g.ds.length = D.length + 1 := by rw [hd]; simp
   have hvd := (HG.out.1.other HY3.out).ds
   obtain ⟨b, o, hb, hcell⟩ := hvd.at (by omega) (by decide)
   have hq := hcell D.length (.int .i64 d) (by rw [hd]; simp [iv])
   have hpre := hvd.pre D.length (by omega)
   have hpx : (g.ds.map iv).take (D.length * 1) = D.map iv := by rw [hd]; simp
   rw [hpx] at hpre
   have hcc := hvd.cap
   have hlc := hvd.le
   unfold maxLen at hcc
   rw [hl0] at q2 hlc
   rw [hb] at q2 hpre
   have hI1 : IntKind.i64.wrap (((D.length + 1 : Nat) : Int) - 1) = (D.length : Int) := by rw [IntWalk.i64_in _ (by omega)]; omega
   have hDl : D.length ≤ 100000 := by omega
   by_cases hdv : d = v
   case neg =>
    have hbd : (d != v) = true := by simp [hdv]
    have HF : Hid (E0 = 5 ∧ m0 = m) := Lib.hid (by
     have := HR3.out
     rw [if_neg (by rw [hd]; simp [hdv])] at this
     exact ⟨congrArg Prod.fst this, congrArg Prod.snd this⟩)
    obtain ⟨rfl, rfl⟩ := HF.out
    clear hd HR3 hl0 hdv hcell hpre hpx hvd hb
    go_wp2_with fail
    go_ret
    exact RAdd.no HG.out.1 HG.out.2.1 HY3.out
   case pos =>
    subst hdv
    have hbd : (d != d) = false := by simp
    have HF : Hid (E0 = 0 ∧ m0 = ⟨m.rr, m.fs, m.cs, d + 1, m.ds.dropLast, m.on, m.wc, m.n + 1⟩) := Lib.hid (by
     have := HR3.out
     rw [if_pos (by rw [hd]; simp)] at this
     exact ⟨congrArg Prod.fst this, congrArg Prod.snd this⟩)
    obtain ⟨rfl, rfl⟩ := HF.out
    have HDL : Hid (m.ds.dropLast = D) := Lib.hid (by rw [HG.out.2.1.ds, hd]; simp)
    have hsrc := hpre.src (P := Tryz.prog) (t := 49) Tryz.underlying49 (one_I D)
    obtain ⟨i0, hi, hz0', hz1, hz2⟩ := info_parts4 infoIntZ
    clear hd HR3 hl0 hcell hpx hvd hb
    go_wp2_with (at_builtin; refine wpList_app _ rfl (.const (.slice none 0 0)) (.tmp 62) 49 49 rfl 3 i0 (.int .i64 0) 1 8 Tryz.underlying49 hi hz0' hz1 hz2 rfl none 0 0 [] rfl (World.ownsRow_nil _ _ _ _) (.slice (some ⟨b, o, none⟩) D.length A.dc) D.length (D.map iv) rfl hsrc ?_ ?_ ?_)
    ·unfold maxLen; omega
    ·omega
    intro a8 c8 w8 hown8 hg8 hat8 hnil8
    try rw [Nat.zero_add, List.nil_append] at hown8
    have hU8 : Upd (fun _ => False) w3 w8 := Upd.grown (S := fun _ => False) hg8 (fun k hk => by cases hk)
    have hR8 := HG.out.1.other (HY3.out.trans hU8)
    have hf8 : ∀ q, blk a8 = some q → w.heap.size ≤ q := fun q hq => by
     rcases hat8 with e | e
     ·rw [e] at hq; cases hq
     ·rw [e] at hq; cases hq; exact HY3.out.size
    have hput := hR8.putD a8 c8 D (Vw.of_own hown8) (fun q hq => by
     have h2 := (hown8.lt q ((own_blk _ _ _).trans hq)).2
     have h3 := HG.out.1.lt
     have h4 := HG.out.1.ll
     have h5 := hf8 q hq
     exact ⟨⟨by omega, by omega, h2⟩, fun e => by have := (HG.out.1.n1 q e).2.2; omega⟩)
    have HP := Lib.hid (And.intro hput.1 (And.intro hput.2 (HY3.out.trans hU8)))
    have q2' := hR8.c2
    have f2 := hR8.free 2
    have q1 := HP.out.1.c1
    have f1 := HP.out.1.free 1
    dsimp only at q1
    try rw [Nat.zero_add]
    clear hput hR8 hU8 hown8 hg8 hat8 hnil8 hf8 q2 hpre hq hsrc
    go_wp2_with fail
    go_ret
    have hput2 := HP.out.1.putI (g' := ⟨g.rr, d, D, g.pd, g.n⟩) 1 (.int .i64 d) (by simp [refA]) rfl rfl rfl
    refine ⟨rfl, ⟨g.rr, d, D, g.pd, g.n⟩, ⟨A.ra, A.rc, a8, c8⟩, ?_, rfl, hput2.1, (HP.out.2.2.mono (fun _ _ h => h.elim)).trans ((HP.out.2.1.trans hput2.2).mono (fun _ _ h => .inl h)), fun q hq => .inl hq⟩
    have ht := HG.out.2.1
    exact ⟨ht.rr, rfl, HDL.out, ht.on, ht.wc⟩
 | false =>
  have HR3 : Hid ((E0, m0) = if g.at_ ≠ -1 ∧ g.rr[g.at_.toNat]?.map (·.p) = some v then (0, ⟨m.rr, m.fs, m.cs, v + 1, m.ds ++ [m.top - 1], m.on, m.wc, m.n + 1⟩) else (5, m)) := Lib.hid (by
   have := HR2.out
   rw [if_neg (by decide)] at this
   exact this)
  clear HR2
  have hRd := HG.out.1.other (HY3.out.trans (Upd.drew _ _))
  have q1 := hRd.c1
  have q0 := hRd.c0
  have hcr := hRd.rv.cap
  have hlr := hRd.rv.le
  unfold maxLen at hcr
  have hA := HB.out.1
  have hB := HB.out.2.1
  go_upto_region 12 with (fail)
  by_cases ha0 : g.at_ < 0
  case pos =>
   have hI0 : decide (g.at_ < 0) = true := decide_eq_true ha0
   have HF : Hid (E0 = 5 ∧ m0 = m) := Lib.hid (by
    have := HR3.out
    rw [if_neg (by omega)] at this
    exact ⟨congrArg Prod.fst this, congrArg Prod.snd this⟩)
   obtain ⟨rfl, rfl⟩ := HF.out
   generalize g.at_ = at0 at *
   clear HR3 hRd q0
   refine wp_region_plan_last [] [0, 1, 2, 3, 4, 5, 6, 7, 8, 9, 10, 11, 12, 13, 14, 15, 16, 17, 18, 19] (fun w' => w'.cell? ⟨rb, 1, none⟩ = some (.int .i64 at0)) (by kernel_rfl) (by kernel_rfl) q1 ?_
   iterate 20
    first | refine plan_lskip rfl rfl ?_ | (refine plan_last (v := ?_) rfl rfl (fun w' hS => ?_) ?_; rotate_left; · (go_simp; try with_reducible rfl))
    simp only [putL]
   refine plan_end ?_
   go_wp2_with fail
   go_ret
   exact RAdd.no HG.out.1 HG.out.2.1 (HY3.out.trans (Upd.drew _ _))
  case neg =>
  obtain ⟨j, hj⟩ : ∃ j : Nat, g.at_ = (j : Int) := ⟨g.at_.toNat, by omega⟩
  have hjl : j < g.rr.length := by omega
  obtain ⟨x, hx⟩ : ∃ x, g.rr[j]? = some x := ⟨_, List.getElem?_eq_getElem hjl⟩
  obtain ⟨b, o, hb, hcell⟩ := hRd.rv.at (by omega) (by decide)
  have hq := hcell (j * 5 + 0) _ (rt_get g.rr j x hx)
  rw [Nat.add_zero] at hq
  rw [hj] at q1
  rw [hb] at q0
  have hI0 : decide ((j : Int) < 0) = false := decide_eq_false (by omega)
  have hI1 : (0 : Int) ≤ (j : Int) := by omega
  have hI2 : (j : Int) < (g.rr.length : Int) := by omega
  have HJ := Lib.hid hj
  have HR4 : Hid ((E0, m0) = if x.p = v then (0, ⟨m.rr, m.fs, m.cs, v + 1, m.ds ++ [m.top - 1], m.on, m.wc, m.n + 1⟩) else (5, m)) := Lib.hid (by
   rw [HR3.out, hj, Int.toNat_natCast, hx]
   by_cases hxv : x.p = v
   ·rw [if_pos ⟨by omega, by rw [Option.map_some, hxv]⟩, if_pos hxv]
   ·rw [if_neg (fun h => hxv (by simpa using h.2)), if_neg hxv])
  clear HR3 hcell hx hb hj ha0 hA hB hRd
  generalize x.p = xp at *
  by_cases hxv : xp = v
  case neg =>
   have hbx : (xp != v) = true := by simp [hxv]
   have HF : Hid (E0 = 5 ∧ m0 = m) := Lib.hid (by
    have := HR4.out
    rw [if_neg hxv] at this
    exact ⟨congrArg Prod.fst this, congrArg Prod.snd this⟩)
   obtain ⟨rfl, rfl⟩ := HF.out
   clear HR4 hxv
   refine wp_region_plan_last [] [0, 1, 2, 3, 4, 5, 6, 7, 8, 9, 10, 11, 12, 13, 14, 15, 16, 17, 18, 19] (fun w' => w'.cell? ⟨rb, 1, none⟩ = some (.int .i64 (j : Int)) ∧ w'.cell? ⟨rb, 0, none⟩ = some (.slice (some ⟨b, o, none⟩) g.rr.length A.rc) ∧ w'.cell? ⟨b, o + j * 5, none⟩ = some (.int .i64 xp)) (by kernel_rfl) (by kernel_rfl) ⟨q1, q0, hq⟩ ?_
   iterate 20
    first | refine plan_lskip rfl rfl ?_ | (refine plan_last (v := ?_) rfl rfl (fun w' hS => ?_) ?_; rotate_left; · (go_simp; try with_reducible rfl))
    simp only [putL]
   refine plan_end ?_
   go_wp2_with fail
   go_ret
   exact RAdd.no HG.out.1 HG.out.2.1 (HY3.out.trans (Upd.drew _ _))
  case pos =>
  subst hxv
  have hbx : (xp != xp) = false := by simp
  have HF : Hid (E0 = 0 ∧ m0 = ⟨m.rr, m.fs, m.cs, xp + 1, m.ds ++ [m.top - 1], m.on, m.wc, m.n + 1⟩) := Lib.hid (by
   have := HR4.out
   rw [if_pos rfl] at this
   exact ⟨congrArg Prod.fst this, congrArg Prod.snd this⟩)
  obtain ⟨rfl, rfl⟩ := HF.out
  clear HR4
  refine wp_region_plan_last [] [0, 1, 2, 3, 4, 5, 6, 7, 8, 9, 10, 11, 12, 13, 14, 15, 16, 17, 18, 19] (fun w' => w'.cell? ⟨rb, 1, none⟩ = some (.int .i64 (j : Int)) ∧ w'.cell? ⟨rb, 0, none⟩ = some (.slice (some ⟨b, o, none⟩) g.rr.length A.rc) ∧ w'.cell? ⟨b, o + j * 5, none⟩ = some (.int .i64 xp)) (by kernel_rfl) (by kernel_rfl) ⟨q1, q0, hq⟩ ?_
  iterate 20
   first | refine plan_lskip rfl rfl ?_ | (refine plan_last (v := ?_) rfl rfl (fun w' hS => ?_) ?_; rotate_left; · (go_simp; try with_reducible rfl))
   simp only [putL]
  refine plan_end ?_
  have HY5 : Hid (Upd (fun _ => False) w w3.drew.drew) := Lib.hid ((HY3.out.trans (Upd.drew _ _)).trans (Upd.drew _ _))
  clear q0 q1 hq hI0 hI1 hI2 hbx hcr hlr
  go_upto_region 14 with (fail)
  have hRd := HG.out.1.other HY5.out
  have q1 := hRd.c1
  have q2 := hRd.c2
  rw [HJ.out] at q1
  have hvd := hRd.ds
  have hdl := HB.out.2.2.2
  have HRD := Lib.hid hRd
  clear hRd
  obtain ⟨i0, hi, hz0', hz1, hz2⟩ := info_parts4 infoIntZ
  refine wp_region_fork_last [0, 1, 2, 3, 4, 6, 7, 8, 9] 5 10 ([([], 10), ([], 11), ([12, 13], 14)], []) ([([], 5), ([], 11), ([12, 13], 14)], []) (fun w' => w'.cell? ⟨rb, 2, none⟩ = some (.slice A.da g.ds.length A.dc) ∧ w'.cell? ⟨rb, 1, none⟩ = some (.int .i64 (j : Int))) (by kernel_rfl) (by kernel_rfl) ⟨q2, q1⟩ ?_
  generalize w3.drew.drew = y at *
  iterate 9
   first | refine fork_lskip rfl rfl ?_ | (refine fork_last (v := ?_) rfl rfl (fun w' hS => ?_) ?_; rotate_left; · (go_simp; try with_reducible rfl))
   simp only [putL]
  refine fork_both ?_ ?_
  ·refine plan_act rfl (fun K1 hK1 => ?_)
   refine wpList_app _ rfl (.const (.slice none 0 0)) (.tmp 94) 49 49 rfl 3 i0 (.int .i64 0) 1 8 Tryz.underlying49 hi hz0' hz1 hz2 rfl none 0 0 [] rfl (World.ownsRow_nil _ _ _ _) (.slice A.da g.ds.length A.dc) g.ds.length (g.ds.map iv) rfl (hvd.src (P := Tryz.prog) (t := 49) Tryz.underlying49 (one_I g.ds)) ?_ ?_ ?_
   ·unfold maxLen; omega
   ·omega
   intro a5 c5 w5 hown5 hg5 hat5 hnil5
   try rw [Nat.zero_add, List.nil_append] at hown5
   have hU5 : Upd (fun _ => False) y w5 := Upd.grown (S := fun _ => False) hg5 (fun k hk => by cases hk)
   have hf5 : ∀ q, blk a5 = some q → y.heap.size ≤ q := fun q hq => by
    rcases hat5 with e | e
    ·rw [e] at hq; cases hq
    ·rw [e] at hq; cases hq; exact Nat.le_refl _
   clear hg5 hat5 hnil5
   try rw [Nat.zero_add]
   go_wp2_with fail
   refine hK1.out _ _ (.inr ⟨(hU5.cell (World.block_lt_of_cell? _ _ q2) (fun h => h)).trans q2, (hU5.cell (World.block_lt_of_cell? _ _ q1) (fun h => h)).trans q1⟩) ?_
   refine plan_act rfl (fun K2 hK2 => ?_)
   have hUb := Upd.alloc (fun _ => False) w5 (.cells #[.int .i64 (j : Int)] 3)
   have hU6 : Upd (fun _ => False) y (w5.alloc (.cells #[.int .i64 (j : Int)] 3)) := hU5.trans hUb
   obtain ⟨BB, hBB⟩ : ∃ B, B = w5.heap.size := ⟨_, rfl⟩
   have hsrc6 : Src Tryz.prog 1 49 (.slice (some ⟨BB, 0, none⟩) 1 1) 1 [iv (j : Int)] (w5.alloc (.cells #[.int .i64 (j : Int)] 3)) := by rw [hBB]; exact int_src w5 (j : Int)
   have hown6 := ownsRow_upd hown5 hUb (fun _ _ h => h)
   have hf6 : ∀ q, blk a5 = some q → w.heap.size ≤ q := fun q hq => Nat.le_trans HY5.out.size (hf5 q hq)
   clear hown5 hf5 hUb
   go_wp2_with fail
   rw [← hBB]
   refine hK2.out _ _ (.inr ⟨(hU6.cell (World.block_lt_of_cell? _ _ q2) (fun h => h)).trans q2, (hU6.cell (World.block_lt_of_cell? _ _ q1) (fun h => h)).trans q1⟩) ?_
   clear q1 q2
   refine plan_act rfl (fun K3 hK3 => ?_)
   try simp only [putL]
   refine wpList_app _ rfl (.tmp 95) (.tmp 100) 49 49 rfl 3 i0 (.int .i64 0) 1 8 Tryz.underlying49 hi hz0' hz1 hz2 rfl a5 g.ds.length c5 (g.ds.map iv) rfl hown6 (.slice (some ⟨BB, 0, none⟩) 1 1) 1 [iv (j : Int)] rfl hsrc6 ?_ ?_ ?_
   ·unfold maxLen; omega
   ·omega
   intro a8 c8 w8 hown8 hg8 hat8 hnil8
   have hU8 : Upd (fun _ => False) w w8 := (HY5.out.trans hU6).next (Upd.grown (S := fun k => blk a5 = some k) hg8 (fun k hk => hk)) (fun i hi e => by have := hf6 i e; omega)
   have hR8 := HG.out.1.other hU8
   have hz6 := (HY5.out.trans hU6).size
   have hf8 : ∀ q, blk a8 = some q → w.heap.size ≤ q := fun q hq => by
    rcases hat8 with e | e
    ·exact hf6 q (e.symm.trans hq)
    ·rw [e] at hq; cases hq; exact hz6
   have hl8 : g.ds.length + 1 = (g.ds ++ [(j : Int)]).length := by simp
   have hv8 : Vw w8 a8 (g.ds ++ [(j : Int)]).length c8 1 ((g.ds ++ [(j : Int)]).map iv) := by rw [← hl8]; simpa [iv] using Vw.of_own hown8
   have hput := hR8.putD a8 c8 (g.ds ++ [(j : Int)]) hv8 (fun q hq => by
    have h2 := (hown8.lt q ((own_blk _ _ _).trans hq)).2
    have h3 := HG.out.1.lt
    have h4 := HG.out.1.ll
    have h5 := hf8 q hq
    exact ⟨⟨by omega, by omega, h2⟩, fun e => by have := (HG.out.1.n1 q e).2.2; omega⟩)
   rw [← hl8] at hput
   have HP := Lib.hid (And.intro hput.1 (And.intro hput.2 hU8))
   have q2'' := hR8.c2
   have q1'' := hR8.c1
   rw [HJ.out] at q1''
   have f2 := hR8.free 2
   have q1 := HP.out.1.c1
   have f1 := HP.out.1.free 1
   dsimp only at q1
   rw [HJ.out] at q1
   clear hput hR8 hU8 hown8 hg8 hat8 hnil8 hf8 hv8 hl8 hsrc6 hown6 hU6 hf6 hz6
   go_wp2_with fail
   refine hK3.out _ _ (.inr ⟨q2'', q1''⟩) ?_
   iterate 2
    first | refine plan_skip rfl rfl ?_ | (refine plan_take (v := ?_) rfl rfl (fun w' hS => ?_) ?_; rotate_left; · (go_simp; try with_reducible rfl))
    simp only [putL]
   refine plan_act rfl (fun K4 hK4 => ?_)
   go_wp2_with fail
   refine hK4.out _ _ (.inl rfl) (plan_end ?_)
   go_wp2_with fail
   go_ret
   have hput2 := HP.out.1.putI (g' := ⟨g.rr, xp, g.ds ++ [(j : Int)], g.pd, g.n⟩) 1 (.int .i64 xp) (by simp [refA]) rfl rfl rfl
   refine ⟨rfl, ⟨g.rr, xp, g.ds ++ [(j : Int)], g.pd, g.n⟩, ⟨A.ra, A.rc, a8, c8⟩, ?_, rfl, hput2.1, (HP.out.2.2.mono (fun _ _ h => h.elim)).trans ((HP.out.2.1.trans hput2.2).mono (fun _ _ h => .inl h)), fun q hq => .inl hq⟩
   have ht := HG.out.2.1
   refine ⟨ht.rr, rfl, ?_, ht.on, ht.wc⟩
   show m.ds ++ [m.top - 1] = g.ds ++ [(j : Int)]
   rw [ht.ds, ht.top, HJ.out, show (j : Int) + 1 - 1 = (j : Int) from by omega]
  ·refine plan_act rfl (fun K1 hK1 => ?_)
   have hUb := Upd.alloc (fun _ => False) y (.cells #[.int .i64 (j : Int)] 3)
   have hbb := heap_alloc_new y (.cells #[.int .i64 (j : Int)] 3)
   go_wp2_with fail
   refine hK1.out _ _ (.inr ⟨(hUb.cell (World.block_lt_of_cell? _ _ q2) (fun h => h)).trans q2, (hUb.cell (World.block_lt_of_cell? _ _ q1) (fun h => h)).trans q1⟩) ?_
   refine plan_act rfl (fun K2 hK2 => ?_)
   try simp only [putL]
   refine wpList_app _ rfl (.const (.slice none 0 0)) (.tmp 94) 49 49 rfl 3 i0 (.int .i64 0) 1 8 Tryz.underlying49 hi hz0' hz1 hz2 rfl none 0 0 [] rfl (World.ownsRow_nil _ _ _ _) (.slice A.da g.ds.length A.dc) g.ds.length (g.ds.map iv) rfl ((hvd.upd hUb (fun _ _ h => h)).src (P := Tryz.prog) (t := 49) Tryz.underlying49 (one_I g.ds)) ?_ ?_ ?_
   ·unfold maxLen; omega
   ·omega
   intro a5 c5 w5 hown5 hg5 hat5 hnil5
   try rw [Nat.zero_add, List.nil_append] at hown5
   have hU5 : Upd (fun _ => False) (y.alloc (.cells #[.int .i64 (j : Int)] 3)) w5 := Upd.grown (S := fun _ => False) hg5 (fun k hk => by cases hk)
   have hf5 : ∀ q, blk a5 = some q → (y.alloc (.cells #[.int .i64 (j : Int)] 3)).heap.size ≤ q := fun q hq => by
    rcases hat5 with e | e
    ·rw [e] at hq; cases hq
    ·rw [e] at hq; cases hq; exact Nat.le_refl _
   clear hg5 hat5 hnil5
   try rw [Nat.zero_add]
   go_wp2_with fail
   have hU6 : Upd (fun _ => False) y w5 := hUb.trans hU5
   obtain ⟨BB, hBB⟩ : ∃ B, B = y.heap.size := ⟨_, rfl⟩
   have hsrc6 : Src Tryz.prog 1 49 (.slice (some ⟨BB, 0, none⟩) 1 1) 1 [iv (j : Int)] w5 := by
    rw [hBB]
    exact row_src (X := #[.int .i64 (j : Int)]) Tryz.underlying49 rfl (by simp [Value.oneCell']) ((hU5.block _ (lt_of_heap hbb) (fun h => h)).trans hbb)
   have hown6 := hown5
   have hzb := hUb.size
   have hf6 : ∀ q, blk a5 = some q → w.heap.size ≤ q := fun q hq => by have h1 := hf5 q hq; have h2 := HY5.out.size; omega
   rw [← hBB]
   refine hK2.out _ _ (.inr ⟨(hU6.cell (World.block_lt_of_cell? _ _ q2) (fun h => h)).trans q2, (hU6.cell (World.block_lt_of_cell? _ _ q1) (fun h => h)).trans q1⟩) ?_
   clear q1 q2 hown5 hf5 hUb hbb hzb hU5
   refine plan_act rfl (fun K3 hK3 => ?_)
   try simp only [putL]
   refine wpList_app _ rfl (.tmp 95) (.tmp 100) 49 49 rfl 3 i0 (.int .i64 0) 1 8 Tryz.underlying49 hi hz0' hz1 hz2 rfl a5 g.ds.length c5 (g.ds.map iv) rfl hown6 (.slice (some ⟨BB, 0, none⟩) 1 1) 1 [iv (j : Int)] rfl hsrc6 ?_ ?_ ?_
   ·unfold maxLen; omega
   ·omega
   intro a8 c8 w8 hown8 hg8 hat8 hnil8
   have hU8 : Upd (fun _ => False) w w8 := (HY5.out.trans hU6).next (Upd.grown (S := fun k => blk a5 = some k) hg8 (fun k hk => hk)) (fun i hi e => by have := hf6 i e; omega)
   have hR8 := HG.out.1.other hU8
   have hz6 := (HY5.out.trans hU6).size
   have hf8 : ∀ q, blk a8 = some q → w.heap.size ≤ q := fun q hq => by
    rcases hat8 with e | e
    ·exact hf6 q (e.symm.trans hq)
    ·rw [e] at hq; cases hq; exact hz6
   have hl8 : g.ds.length + 1 = (g.ds ++ [(j : Int)]).length := by simp
   have hv8 : Vw w8 a8 (g.ds ++ [(j : Int)]).length c8 1 ((g.ds ++ [(j : Int)]).map iv) := by rw [← hl8]; simpa [iv] using Vw.of_own hown8
   have hput := hR8.putD a8 c8 (g.ds ++ [(j : Int)]) hv8 (fun q hq => by
    have h2 := (hown8.lt q ((own_blk _ _ _).trans hq)).2
    have h3 := HG.out.1.lt
    have h4 := HG.out.1.ll
    have h5 := hf8 q hq
    exact ⟨⟨by omega, by omega, h2⟩, fun e => by have := (HG.out.1.n1 q e).2.2; omega⟩)
   rw [← hl8] at hput
   have HP := Lib.hid (And.intro hput.1 (And.intro hput.2 hU8))
   have q2'' := hR8.c2
   have q1'' := hR8.c1
   rw [HJ.out] at q1''
   have f2 := hR8.free 2
   have q1 := HP.out.1.c1
   have f1 := HP.out.1.free 1
   dsimp only at q1
   rw [HJ.out] at q1
   clear hput hR8 hU8 hown8 hg8 hat8 hnil8 hf8 hv8 hl8 hsrc6 hown6 hU6 hf6 hz6
   go_wp2_with fail
   refine hK3.out _ _ (.inr ⟨q2'', q1''⟩) ?_
   iterate 2
    first | refine plan_skip rfl rfl ?_ | (refine plan_take (v := ?_) rfl rfl (fun w' hS => ?_) ?_; rotate_left; · (go_simp; try with_reducible rfl))
    simp only [putL]
   refine plan_act rfl (fun K4 hK4 => ?_)
   go_wp2_with fail
   refine hK4.out _ _ (.inl rfl) (plan_end ?_)
   go_wp2_with fail
   go_ret
   have hput2 := HP.out.1.putI (g' := ⟨g.rr, xp, g.ds ++ [(j : Int)], g.pd, g.n⟩) 1 (.int .i64 xp) (by simp [refA]) rfl rfl rfl
   refine ⟨rfl, ⟨g.rr, xp, g.ds ++ [(j : Int)], g.pd, g.n⟩, ⟨A.ra, A.rc, a8, c8⟩, ?_, rfl, hput2.1, (HP.out.2.2.mono (fun _ _ h => h.elim)).trans ((HP.out.2.1.trans hput2.2).mono (fun _ _ h => .inl h)), fun q hq => .inl hq⟩
   have ht := HG.out.2.1
   refine ⟨ht.rr, rfl, ?_, ht.on, ht.wc⟩
   show m.ds ++ [m.top - 1] = g.ds ++ [(j : Int)]
   rw [ht.ds, ht.top, HJ.out, show (j : Int) + 1 - 1 = (j : Int) from by omega]
end Go.Proofs.YtccejkikphpnfaaGreatDoor
