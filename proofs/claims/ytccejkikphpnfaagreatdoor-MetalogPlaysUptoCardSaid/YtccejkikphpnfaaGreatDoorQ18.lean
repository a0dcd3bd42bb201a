
/- equal settled commits held against each other. -/
import Derived.Test.YtccejkikphpnfaaGreatDoorQ17
namespace Go.Proofs.YtccejkikphpnfaaGreatDoor
set_option linter.unusedSimpArgs false
set_option linter.unusedVariables false
set_option maxRecDepth 100000
open Go.ChangeShapes Go.WideShapes Go.ChangeAt Go.RowKit
theorem flat_ivV : ∀ (l : List Int), l.flatMap ivV = l.map iv
 | [] => rfl
 | x :: l => by rw [List.flatMap_cons, flat_ivV l, List.map_cons]; rfl
/-- What numbers leaves. -/
def GotInts (w : World) (br : Nat) (F : Option Nat) (s' : RS) (l : List Int) (e : Ending) (w' : World) : Prop :=
 ∃ a c, e = .returned (.slice a l.length c) ∧ Vw w' a l.length c 1 (l.map iv) ∧ (∀ g, blk a = some g → w.heap.size ≤ g ∧ g < w'.heap.size) ∧ Rd w' br F s'.l s'.e ∧ Upd (fun k => k = br) w w'
abbrev rowI : Option Addr → Nat → Nat → Array Value := fun a n c => #[.slice a n c]
theorem plain_stays {X : Type} : Stays (X := X) (fun _ => none) (fun _ _ => True) := fun _ _ _ _ _ _ _ => trivial
set_option maxHeartbeats 8000000 in
theorem mrnumbers_any (br : Nat) (F : Option Nat) (s : RS) (w : World) (hr : Rd w br F s.l s.e) (hF : ∀ g, F = some g → g < w.heap.size) (hl : s.l.length ≤ 100000000) :
  Calls Tryz.prog 134 #[.agg #[.pointer (some ⟨br, 0, none⟩)]] w (GotInts w br F (numsS s).2 (numsS s).1) := by
 have hbr : br < w.heap.size := by
  obtain ⟨a, c, hh, _⟩ := hr.ex
  exact lt_of_heap hh
 have hU0 : Upd (fun _ => False) w ((w.alloc (.cells #[.pointer (some ⟨br, 0, none⟩)] 139)).alloc (.cells #[.slice none 0 0] 49)) := (Upd.alloc _ _ _).trans (Upd.alloc _ _ _)
 have hb1 : ((w.alloc (.cells #[.pointer (some ⟨br, 0, none⟩)] 139)).alloc (.cells #[.slice none 0 0] 49)).heap[w.heap.size]? = some (.cells #[.pointer (some ⟨br, 0, none⟩)] 139) := by
  rw [Below.heap_alloc _ _ _ (by simp)]; exact heap_alloc_new _ _
 have hb2 : ((w.alloc (.cells #[.pointer (some ⟨br, 0, none⟩)] 139)).alloc (.cells #[.slice none 0 0] 49)).heap[w.heap.size + 1]? = some (.cells #[.slice none 0 0] 49) := by
  have := heap_alloc_new (w.alloc (.cells #[.pointer (some ⟨br, 0, none⟩)] 139)) (.cells #[.slice none 0 0] 49)
  simpa using this
 have HA := Lib.hid (And.intro hU0 (And.intro hb1 hb2))
 have HW := Lib.hid (And.intro hr (And.intro hF hl))
 have HS : Hid (numsS s = someS intF s) := Lib.hid rfl
 generalize numsS s = SS at *
 clear hU0 hb1 hb2 hr hF hl
 go_enter Tryz.func134, Tryz.ntmps134
 go_upto_region 2 with (fail)
 generalize (w.alloc (.cells #[.pointer (some ⟨br, 0, none⟩)] 139)).alloc (.cells #[.slice none 0 0] 49) = y0 at *
 obtain ⟨R1, hR1⟩ : ∃ B, B = w.heap.size := ⟨_, rfl⟩
 obtain ⟨BX, hBX⟩ : ∃ B, B = w.heap.size + 1 := ⟨_, rfl⟩
 rw [← hBX, ← hR1] at HA
 rw [← hBX, ← hR1]
 have HB := Lib.hid (And.intro hR1 (And.intro hBX hbr))
 clear hR1 hBX hbr
 have q : y0.cell? ⟨R1, 0, none⟩ = some (.pointer (some ⟨br, 0, none⟩)) := by rw [cell_of_row _ _ _ _ _ _ HA.out.2.1]; rfl
 have hsm := some_gen int_eats br BX F 159 #[.pointer (some ⟨BX, 0, none⟩), .pointer (some ⟨R1, 0, none⟩)] (enter_of Tryz.func159 (by kernel_rfl) (by kernel_rfl) _) s y0 (HW.out.1.upd HA.out.1 (fun h => h) (fun _ _ h => h)) HW.out.2.2 (lt_of_heap HA.out.2.2)
  (fun w0 L s' w' => ∃ a c, Ph ivV 1 3 (fun _ => none) (fun _ _ => True) 49 rowI br BX R1 F w0 s' L a c w')
  (fun w0 hu hR => ⟨none, 0, hR, (hu.block R1 (lt_of_heap HA.out.2.1) (by have := HB.out; omega)).trans HA.out.2.1, (hu.block BX (lt_of_heap HA.out.2.2) (by have := HB.out; omega)).trans HA.out.2.2, World.ownsRow_nil _ _ _ _, (fun g hg => by cases hg), (fun x hx => by cases hx), Upd.refl _ _,
   by have := HB.out; have := lt_of_heap HA.out.2.2; have := hu.size; omega, by have := HB.out; have := lt_of_heap HA.out.2.2; have := hu.size; omega, by have := lt_of_heap HA.out.2.2; have := hu.size; omega, by have := HB.out; omega, by have := HB.out; omega, by have := HB.out; omega,
   fun g hg => by have := HW.out.2.1 g hg; have := HB.out; have := lt_of_heap HA.out.2.2; have := hu.size; omega⟩)
  (fun w0 L s' w' ⟨a, c, h⟩ => h.rd) (fun w0 L s' w' ⟨a, c, h⟩ => h.upd)
  (fun w0 L s' w' ⟨a, c, h⟩ he hl hn => (numbers1_any h hl hn).mono (fun e w2 h2 => h2))
 rw [← HS.out] at hsm
 go_wp2_with fail
 refine hsm.mono ?_
 rintro e w1 ⟨rfl, w0, hUa, a, c, hP⟩
 have HP := Lib.hid hP
 have HUa := Lib.hid hUa
 clear hP hUa hsm q
 have q := HP.out.q1 0 (fun _ _ _ => rfl)
 go_wp2_with fail
 go_ret
 have hU01 := (HA.out.1.mono (T := fun k => k = br) (fun _ _ h => h.elim)).trans HUa.out
 refine ⟨a, c, rfl, ?_, fun g hg => ⟨Nat.le_trans hU01.size (HP.out.fr g hg), (HP.out.own.lt g ((own_blk _ _ _).trans hg)).2⟩, HP.out.rd, hU01.next HP.out.upd (fun i hi e => ?_)⟩
 ·have := Vw.of_own HP.out.own
  rw [flat_ivV] at this
  exact this
 ·have := HB.out
  rcases e with e | e
  ·exact e
  ·omega
/-- What settled leaves. -/
def GotSt (w : World) (br : Nat) (F : Option Nat) (s' : RS) (v : Int × List Fl) (e : Ending) (w' : World) : Prop :=
 ∃ x : St, e = .returned (.agg #[.int .i64 x.com, .slice x.a x.fs.length x.c]) ∧ (x.com, x.fs) = v ∧ StIn w' x ∧ (∀ g, blk x.a = some g → w.heap.size ≤ g ∧ g < w'.heap.size) ∧ Rd w' br F s'.l s'.e ∧ Upd (fun k => k = br) w w'
abbrev rowS (v : Int) : Option Addr → Nat → Nat → Array Value := fun a n c => #[.int .i64 v, .slice a n c]
theorem infoSettled : (Tryz.prog.info? 80).map (·.size) = some 2 := by kernel_rfl
set_option maxHeartbeats 8000000 in
theorem mrsettled_any (br : Nat) (F : Option Nat) (s : RS) (w : World) (hr : Rd w br F s.l s.e) (hF : ∀ g, F = some g → g < w.heap.size) (hl : s.l.length ≤ 100000000) :
  Calls Tryz.prog 143 #[.agg #[.pointer (some ⟨br, 0, none⟩)]] w (GotSt w br F (stS s).2 (stS s).1) := by
 have hbr : br < w.heap.size := by
  obtain ⟨a, c, hh, _⟩ := hr.ex
  exact lt_of_heap hh
 have hU0 : Upd (fun _ => False) w ((w.alloc (.cells #[.pointer (some ⟨br, 0, none⟩)] 139)).alloc (.cells #[.int .i64 0, .slice none 0 0] 80)) := (Upd.alloc _ _ _).trans (Upd.alloc _ _ _)
 have hb1 : ((w.alloc (.cells #[.pointer (some ⟨br, 0, none⟩)] 139)).alloc (.cells #[.int .i64 0, .slice none 0 0] 80)).heap[w.heap.size]? = some (.cells #[.pointer (some ⟨br, 0, none⟩)] 139) := by
  rw [Below.heap_alloc _ _ _ (by simp)]; exact heap_alloc_new _ _
 have hb2 : ((w.alloc (.cells #[.pointer (some ⟨br, 0, none⟩)] 139)).alloc (.cells #[.int .i64 0, .slice none 0 0] 80)).heap[w.heap.size + 1]? = some (.cells #[.int .i64 0, .slice none 0 0] 80) := by
  have := heap_alloc_new (w.alloc (.cells #[.pointer (some ⟨br, 0, none⟩)] 139)) (.cells #[.int .i64 0, .slice none 0 0] 80)
  simpa using this
 have HA := Lib.hid (And.intro hU0 (And.intro hb1 hb2))
 have HW := Lib.hid (And.intro hr (And.intro hF hl))
 have hri := rint_any br F s _ (hr.upd hU0 (fun h => h) (fun _ _ h => h)) hl
 have HS : Hid (stS s = ((intV s, (someS flS (takeS 4 s).2).1), (someS flS (takeS 4 s).2).2)) := Lib.hid rfl
 have htl := takeS_len 4 s
 generalize stS s = SS at *
 generalize intV s = v at *
 generalize (takeS 4 s).2 = s1 at *
 have HTL := Lib.hid htl
 clear hU0 hb1 hb2 hr hF hl htl
 go_enter Tryz.func143, Tryz.ntmps143
 go_upto_region 1 with (fail)
 generalize (w.alloc (.cells #[.pointer (some ⟨br, 0, none⟩)] 139)).alloc (.cells #[.int .i64 0, .slice none 0 0] 80) = y0 at *
 obtain ⟨R1, hR1⟩ : ∃ B, B = w.heap.size := ⟨_, rfl⟩
 obtain ⟨R2, hR2⟩ : ∃ B, B = w.heap.size + 1 := ⟨_, rfl⟩
 rw [← hR2, ← hR1] at HA
 rw [← hR2, ← hR1]
 have HB := Lib.hid (And.intro hR1 (And.intro hR2 hbr))
 clear hR1 hR2 hbr
 have q : y0.cell? ⟨R1, 0, none⟩ = some (.pointer (some ⟨br, 0, none⟩)) := by rw [cell_of_row _ _ _ _ _ _ HA.out.2.1]; rfl
 go_wp2_with fail
 refine hri.mono ?_
 unfold ReadN
 rintro e w1 ⟨rfl, hR, hU⟩
 have hc1 := (hU.block R1 (lt_of_heap HA.out.2.1) (by have := HB.out; omega)).trans HA.out.2.1
 have hc2 := (hU.block R2 (lt_of_heap HA.out.2.2) (by have := HB.out; omega)).trans HA.out.2.2
 have hUw := (HA.out.1.mono (T := fun k => k = br) (fun _ _ h => h.elim)).trans hU
 have HA1 := Lib.hid (And.intro hR (And.intro hc1 (And.intro hc2 hUw)))
 clear hR hc1 hc2 hUw hU hri q HA
 go_upto_region 2 with (fail)
 have hUx := Upd.alloc (fun _ => False) w1 (.cells #[.int .i64 v, .slice none 0 0] 80)
 have hbx := heap_alloc_new w1 (.cells #[.int .i64 v, .slice none 0 0] 80)
 have hx1 := (hUx.block R1 (lt_of_heap HA1.out.2.1) (fun h => h)).trans HA1.out.2.1
 have hx2 := (hUx.block R2 (lt_of_heap HA1.out.2.2.1) (fun h => h)).trans HA1.out.2.2.1
 have HX := Lib.hid (And.intro (HA1.out.1.upd hUx (fun h => h) (fun _ _ h => h)) (And.intro hx1 (And.intro hx2 (And.intro hbx (HA1.out.2.2.2.trans (hUx.mono (fun _ _ h => h.elim)))))))
 have hz := lt_of_heap HA1.out.2.2.1
 have HZ := Lib.hid hz
 clear hUx hbx hx1 hx2 hz HA1
 generalize w1.alloc (.cells #[.int .i64 v, .slice none 0 0] 80) = y1 at *
 generalize w1.heap.size = BX at *
 have q : y1.cell? ⟨R1, 0, none⟩ = some (.pointer (some ⟨br, 0, none⟩)) := by rw [cell_of_row _ _ _ _ _ _ HX.out.2.1]; rfl
 have hsm := some_gen fl_eats br BX F 160 #[.pointer (some ⟨BX, 0, none⟩), .pointer (some ⟨R1, 0, none⟩)] (enter_of Tryz.func160 (by kernel_rfl) (by kernel_rfl) _) s1 y1 HX.out.1 (Nat.le_trans HTL.out HW.out.2.2) (lt_of_heap HX.out.2.2.2.1)
  (fun w0 L s' w' => ∃ a c, Ph flV 3 103 (fun _ => none) (fun _ _ => True) 80 (rowS v) br BX R1 F w0 s' L a c w')
  (fun w0 hu hR => ⟨none, 0, hR, (hu.block R1 (lt_of_heap HX.out.2.1) (by have := HB.out; omega)).trans HX.out.2.1, (hu.block BX (lt_of_heap HX.out.2.2.2.1) (by have := HB.out; have := HZ.out; omega)).trans HX.out.2.2.2.1, World.ownsRow_nil _ _ _ _, (fun g hg => by cases hg), (fun x hx => by cases hx), Upd.refl _ _,
   by have := HB.out; have := HZ.out; have := lt_of_heap HX.out.2.2.2.1; have := hu.size; omega, by have := HB.out; have := HZ.out; have := lt_of_heap HX.out.2.2.2.1; have := hu.size; omega, by have := lt_of_heap HX.out.2.2.2.1; have := hu.size; omega, by have := HB.out; omega, by have := HB.out; have := HZ.out; omega, by have := HB.out; have := HZ.out; omega,
   fun g hg => by have := HW.out.2.1 g hg; have := HB.out; have := HZ.out; have := lt_of_heap HX.out.2.2.2.1; have := hu.size; omega⟩)
  (fun w0 L s' w' ⟨a, c, h⟩ => h.rd) (fun w0 L s' w' ⟨a, c, h⟩ => h.upd)
  (fun w0 L s' w' ⟨a, c, h⟩ he hl hn => (settled1_gen h (fun _ _ _ => rfl) (fun _ _ _ _ _ _ => rfl) hl hn).mono (fun e w2 h2 => h2))
 go_wp2_with fail
 refine hsm.mono ?_
 rintro e w3 ⟨rfl, w0, hUa, a, c, hP⟩
 have hlong := fl_long s1
 have hs1l : s1.l.length ≤ maxLen := by have := HTL.out; have := HW.out.2.2; unfold maxLen; omega
 have HLG := Lib.hid (And.intro hlong hs1l)
 clear hlong hs1l
 have hsl : SS = ((v, (someS flS s1).1), (someS flS s1).2) := HS.out
 have HSL := Lib.hid hsl
 generalize (someS flS s1).1 = fl at *
 generalize (someS flS s1).2 = s2 at *
 have hR2 := (hP.upd.block R2 (Nat.lt_of_lt_of_le (lt_of_heap HX.out.2.2.1) hUa.size) (fun e => by have := HB.out; have := HZ.out; omega)).trans ((hUa.block R2 (lt_of_heap HX.out.2.2.1) (fun e => by have := HB.out; omega)).trans HX.out.2.2.1)
 have HP := Lib.hid (And.intro hP hR2)
 have HUa := Lib.hid hUa
 clear hP hUa hsm q hsl HS hR2
 have hvar := HP.out.1.var
 have hres := HP.out.2
 go_wp2_with first
  | refine wpList_load_row rfl 80 (.tmp 3) rfl BX (rowS v a fl.length c) 80 (0, 0) _ rfl hvar Tryz.underlying80 rfl (by rw [infoSettled]; rfl) ?_
  | refine wpList_store_row rfl 80 (.tmp 2) (.tmp 11) rfl R2 (rowS v a fl.length c) _ 80 rfl rfl hres (by rw [infoSettled]; rfl) rfl (by simp [Value.oneCell']) ?_
 have hU6 := Upd.setRow (S := fun k => k = R2) w3 rfl (rowS v a fl.length c)
 have hU01 := HX.out.2.2.2.2.trans HUa.out
 have hz6 := hU6.size
 refine ret_row rfl R2 (rowS v a fl.length c) 80 (0, 0) _ rfl (setRow_heap _ _ _ _ _ _ hres) Tryz.underlying80 rfl (by rw [infoSettled]; rfl) rfl ⟨⟨v, fl, a, c⟩, rfl, by rw [HSL.out], ?_, ?_, ?_, ?_⟩
 ·exact ⟨(Vw.of_own HP.out.1.own).upd hU6 (fun k hk e => by have := HP.out.1.fr k hk; have := HUa.out.size; have := lt_of_heap HX.out.2.2.1; omega), fun y hy => Nat.le_trans (HLG.out.1 y hy).1 HLG.out.2, fun y hy => Nat.le_trans (HLG.out.1 y hy).2 HLG.out.2⟩
 ·intro g hg
  have h1 := HP.out.1.fr g hg
  have h2 := (HP.out.1.own.lt g ((own_blk _ _ _).trans hg)).2
  have := hU01.size
  exact ⟨by omega, by omega⟩
 ·rw [HSL.out]
  exact HP.out.1.rd.upd hU6 (fun e => by have := HB.out; omega) (fun g hg e => by have := HW.out.2.1 g hg; have := HB.out; omega)
 ·refine (hU01.next HP.out.1.upd (fun i hi e => ?_)).next hU6 (fun i hi e => ?_)
  ·have := HB.out
   have := HZ.out
   rcases e with e | e
   ·exact e
   ·omega
  ·have := HB.out; omega
theorem infoMarkerZ : (Tryz.prog.info? 77).map (fun i => (i.zero, i.size, i.bytes)) = some (some (.agg #[.int .i64 0, .slice none 0 0]), 2, 32) := by kernel_rfl
theorem infoSettledZ : (Tryz.prog.info? 80).map (fun i => (i.zero, i.size, i.bytes)) = some (some (.agg #[.int .i64 0, .slice none 0 0]), 2, 32) := by kernel_rfl
def mkBl (m : Mk) : Option Nat := blk m.a
def stBl (m : St) : Option Nat := blk m.a
def mkC (m : Mk) : Int × List Int := (m.old, m.new)
def stC (m : St) : Int × List Fl := (m.com, m.fs)
theorem mk_stays : Stays mkBl MkIn := fun S w w' x h hU hS => Vw.upd h hU (fun k hk => hS k hk)
theorem st_stays : Stays stBl StIn := fun S w w' x h hU hS => ⟨h.v.upd hU (fun k hk => hS k hk), h.p, h.t⟩
set_option maxHeartbeats 8000000 in
theorem root2_gen {row : Option Addr → Nat → Nat → Array Value} {br BX R1 : Nat} {F : Option Nat} {w0 : World} {s : RS} {xs : List Mk} {a : Option Addr} {c : Nat} {wk : World} (h : Ph mkV 2 77 mkBl MkIn 26 row br BX R1 F w0 s xs a c wk) (hget : ∀ a n c, (row a n c)[2]? = some (.slice a n c)) (hset : ∀ a n c a' n' c', (row a n c).setIfInBounds 2 (.slice a' n' c') = row a' n' c') (hs : s.l.length ≤ 100000000) (hn : xs.length ≤ 100000000) :
  Calls Tryz.prog 133 #[.pointer (some ⟨BX, 0, none⟩), .pointer (some ⟨R1, 0, none⟩)] wk fun e w' => e = .returned (.tuple #[]) ∧ ∃ x a' c', mkC x = (mkS s).1 ∧ Ph mkV 2 77 mkBl MkIn 26 row br BX R1 F w0 (mkS s).2 (xs ++ [x]) a' c' w' := by
 have hst : Stays (X := Mk) mkBl MkIn := mk_stays
 have HI := Lib.hid h
 have HG := Lib.hid (And.intro hget (And.intro hset hst))
 have HQ := Lib.hid (And.intro (h.q1 2 hget) h.q0)
 have hfs : Hid (mkS s = mkS s) := Lib.hid rfl
 have hle0 := takeS_len 4 s
 obtain ⟨t0, ht0⟩ : ∃ t, t = intV s := ⟨_, rfl⟩
 obtain ⟨s1, hs1⟩ : ∃ t, t = (takeS 4 s).2 := ⟨_, rfl⟩
 rw [← hs1] at hle0
 have HT0 := Lib.hid ht0
 have HE1 := Lib.hid hs1
 have hle1 := (show (numsS s1).2.l.length ≤ s1.l.length from (some_goes int_eats.toGoes).le s1)
 obtain ⟨t1, ht1⟩ : ∃ t, t = (numsS s1).1 := ⟨_, rfl⟩
 obtain ⟨s2, hs2⟩ : ∃ t, t = (numsS s1).2 := ⟨_, rfl⟩
 rw [← hs2] at hle1
 have HT1 := Lib.hid ht1
 have HE2 := Lib.hid hs2
 have HF : Hid (mkS s = ((t0, t1), s2)) := Lib.hid (by subst ht0 hs1; subst ht1 hs2; rfl)
 clear h hget hset hst hfs ht0 hs1 ht1 hs2
 go_enter Tryz.func133, Tryz.ntmps133
 go_upto_region 0 with (fail)
 refine wp_region_plan_last [([0, 1, 2, 3, 5], 4), ([], 6), ([7], 8), ([], 9), ([10], 11)] [] (fun w' => w'.cell? ⟨BX, 2, none⟩ = some (.slice a xs.length c) ∧ w'.cell? ⟨R1, 0, none⟩ = some (.pointer (some ⟨br, 0, none⟩))) (by kernel_rfl) (by kernel_rfl) HQ.out ?_
 iterate 5
  refine plan_take (v := ?_) rfl rfl (fun w' hS => ?_) ?_
  rotate_left
  ·skip
   go_simp; try with_reducible rfl
  simp only [putL]
 have HN0 := Lib.hid (HI.out.same HG.out.2.2 (Upd.drew _ _))
 clear HQ
 have hc0 := rint_any br F s _ HN0.out.rd (by omega)
 rw [← HE1.out, ← HT0.out] at hc0
 refine plan_act rfl (fun KK hKK => ?_)
 go_wp2_with fail
 refine hc0.mono ?_
 unfold ReadN
 rintro e u0 ⟨rfl, hR, hU⟩
 have HN1 := Lib.hid (HN0.out.read HG.out.2.2 hR hU)
 have HQ := Lib.hid (And.intro (HN1.out.q1 2 HG.out.1) HN1.out.q0)
 clear hR hU hc0 HN0
 go_wp2_with fail
 refine hKK.out _ _ (.inr HQ.out) ?_
 clear HQ
 try simp only [putL]
 have hc1 := mrnumbers_any br F s1 _ HN1.out.rd (fun g hg => by have := HN1.out.n7 g hg; have := HN1.out.upd.size; omega) (by omega)
 rw [← HE2.out, ← HT1.out] at hc1
 refine plan_act rfl (fun KK hKK => ?_)
 go_wp2_with fail
 refine hc1.mono ?_
 unfold GotInts
 rintro e u1 ⟨na, nc, rfl, hv, hfr, hR, hU⟩
 have HX := Lib.hid (And.intro hv hfr)
 have HB := Lib.hid (fun g (hg : blk a = some g) => (HN1.out.own.lt g ((own_blk _ _ _).trans hg)).2)
 have HZ := Lib.hid HN1.out.upd.size
 clear hv hfr
 have HN2 := Lib.hid (HN1.out.read HG.out.2.2 hR hU)
 have HQ := Lib.hid (And.intro (HN2.out.q1 2 HG.out.1) HN2.out.q0)
 clear hR hU hc1 HN1
 go_wp2_with fail
 refine hKK.out _ _ (.inr HQ.out) ?_
 clear HQ
 try simp only [putL]
 iterate 1
  refine plan_take (v := ?_) rfl rfl (fun w' hS => ?_) ?_
  rotate_left
  ·skip
   go_simp; try with_reducible rfl
  simp only [putL]
 refine plan_act rfl (fun KK hKK => ?_)
 obtain ⟨i0, hi, hz0, hz1, hz2⟩ := info_parts4 infoMarkerZ
 refine wpList_slice_gen rfl 23 77 2 (.tmp 9) rfl Tryz.underlying23 i0 (.agg #[.int .i64 0, .slice none 0 0]) hi hz0 hz1 (by decide) (by decide) (.agg #[.int .i64 t0, .slice na t1.length nc]) #[.int .i64 t0, .slice na t1.length nc] rfl (by kernel_rfl) ?_
 have hUb := Upd.alloc (fun _ => False) u1 (.cells #[.int .i64 t0, .slice na t1.length nc] 77)
 have hsrc : Src Tryz.prog 2 23 (.slice (some ⟨u1.heap.size, 0, none⟩) 1 1) 1 (mkV ⟨t0, t1, na, nc⟩) (u1.alloc (.cells #[.int .i64 t0, .slice na t1.length nc] 77)) := row_src (X := #[.int .i64 t0, .slice na t1.length nc]) Tryz.underlying23 rfl (by simp [Value.oneCell']) (heap_alloc_new u1 _)
 have hownx := ownsRow_upd HN2.out.own hUb (fun _ _ h => h)
 have HS7 := HN2.out.same HG.out.2.2 hUb
 have hq7 := And.intro (HS7.q1 2 HG.out.1) HS7.q0
 go_wp2_with fail
 refine hKK.out _ _ (.inr hq7) ?_
 refine plan_act rfl (fun KK hKK => ?_)
 try simp only [putL]
 refine wpList_app _ rfl (.tmp 3) (.tmp 10) 23 23 rfl 77 i0 (.agg #[.int .i64 0, .slice none 0 0]) 2 32 Tryz.underlying23 hi hz0 hz1 hz2 rfl a xs.length c (xs.flatMap mkV) rfl hownx (.slice (some ⟨u1.heap.size, 0, none⟩) 1 1) 1 (mkV ⟨t0, t1, na, nc⟩) rfl hsrc ?_ ?_ ?_
 ·unfold maxLen; omega
 ·omega
 clear hi hz0 hz1 hz2
 intro a8 c8 w8 hown8 hg8 hat8 hnil8
 obtain ⟨hcb, hq8, hf8, hq80⟩ := HN2.out.add HG.out.2.2 2 HG.out.1 HG.out.2.1 ⟨t0, t1, na, nc⟩ HX.out.1 (fun g hg => by have h1 := HX.out.2 g hg; have h2 := HZ.out; have h3 := HB.out g; exact ⟨by omega, h1.2, fun e => by have := h3 e; omega⟩) _ hown8 hg8 hat8
 have HM8 := Lib.hid hcb
 clear hown8 hg8 hat8 hnil8 hcb hownx hsrc hUb hq7 HS7
 have HQ8 := Lib.hid (And.intro hq8 hq80)
 clear hq80
 go_wp2_with fail
 refine hKK.out _ _ (.inr HQ8.out) ?_
 try simp only [putL]
 iterate 1
  refine plan_take (v := ?_) rfl rfl (fun w' hS => ?_) ?_
  rotate_left
  ·skip
   go_simp; try with_reducible rfl
  simp only [putL]
 refine plan_act rfl (fun KK hKK => ?_)
 go_wp2_with fail
 refine hKK.out _ _ (.inl rfl) ?_
 refine plan_end ?_
 go_wp2_with fail
 go_end0
 exact ⟨rfl, ⟨t0, t1, na, nc⟩, a8, c8, by rw [HF.out]; rfl, by rw [HF.out]; exact HM8.out⟩
set_option maxHeartbeats 8000000 in
theorem wait1_gen {row : Option Addr → Nat → Nat → Array Value} {br BX R1 : Nat} {F : Option Nat} {w0 : World} {s : RS} {xs : List St} {a : Option Addr} {c : Nat} {wk : World} (h : Ph stV 2 80 stBl StIn 30 row br BX R1 F w0 s xs a c wk) (hget : ∀ a n c, (row a n c)[4]? = some (.slice a n c)) (hset : ∀ a n c a' n' c', (row a n c).setIfInBounds 4 (.slice a' n' c') = row a' n' c') (hs : s.l.length ≤ 100000000) (hn : xs.length ≤ 100000000) :
  Calls Tryz.prog 142 #[.pointer (some ⟨BX, 0, none⟩), .pointer (some ⟨R1, 0, none⟩)] wk fun e w' => e = .returned (.tuple #[]) ∧ ∃ x a' c', stC x = (stS s).1 ∧ Ph stV 2 80 stBl StIn 30 row br BX R1 F w0 (stS s).2 (xs ++ [x]) a' c' w' := by
 have hst : Stays (X := St) stBl StIn := st_stays
 have HI := Lib.hid h
 have HG := Lib.hid (And.intro hget (And.intro hset hst))
 have HQ := Lib.hid (And.intro (h.q1 4 hget) h.q0)
 have hfs : Hid (stS s = stS s) := Lib.hid rfl
 have hle0 := st_eats.le s
 obtain ⟨t0, ht0⟩ : ∃ t, t = (stS s).1 := ⟨_, rfl⟩
 obtain ⟨s1, hs1⟩ : ∃ t, t = (stS s).2 := ⟨_, rfl⟩
 rw [← hs1] at hle0
 have HT0 := Lib.hid ht0
 have HE1 := Lib.hid hs1
 have HF : Hid (stS s = (t0, s1)) := Lib.hid (by subst ht0 hs1; generalize stS s = q; rfl)
 clear h hget hset hst hfs ht0 hs1
 go_enter Tryz.func142, Tryz.ntmps142
 go_upto_region 0 with (fail)
 refine wp_region_plan_last [([0, 1, 2], 3), ([], 4), ([], 5), ([6], 7)] [] (fun w' => w'.cell? ⟨BX, 4, none⟩ = some (.slice a xs.length c) ∧ w'.cell? ⟨R1, 0, none⟩ = some (.pointer (some ⟨br, 0, none⟩))) (by kernel_rfl) (by kernel_rfl) HQ.out ?_
 iterate 3
  refine plan_take (v := ?_) rfl rfl (fun w' hS => ?_) ?_
  rotate_left
  ·skip
   go_simp; try with_reducible rfl
  simp only [putL]
 have HN0 := Lib.hid (HI.out.same HG.out.2.2 (Upd.drew _ _))
 clear HQ
 have hc0 := mrsettled_any br F s _ HN0.out.rd (fun g hg => by have := HN0.out.n7 g hg; have := HN0.out.upd.size; omega) (by omega)
 rw [← HE1.out, ← HT0.out] at hc0
 refine plan_act rfl (fun KK hKK => ?_)
 go_wp2_with fail
 refine hc0.mono ?_
 unfold GotSt
 rintro e u0 ⟨x, rfl, hx, hv, hfr, hR, hU⟩
 have HX := Lib.hid (And.intro hv hfr)
 have HB := Lib.hid (fun g (hg : blk a = some g) => (HN0.out.own.lt g ((own_blk _ _ _).trans hg)).2)
 have HZ := Lib.hid HN0.out.upd.size
 have HXC := Lib.hid hx
 clear hv hfr hx
 have HN1 := Lib.hid (HN0.out.read HG.out.2.2 hR hU)
 have HQ := Lib.hid (And.intro (HN1.out.q1 4 HG.out.1) HN1.out.q0)
 clear hR hU hc0 HN0
 go_wp2_with fail
 refine hKK.out _ _ (.inr HQ.out) ?_
 clear HQ
 try simp only [putL]
 refine plan_act rfl (fun KK hKK => ?_)
 obtain ⟨i0, hi, hz0, hz1, hz2⟩ := info_parts4 infoSettledZ
 refine wpList_slice_gen rfl 27 80 2 (.tmp 5) rfl Tryz.underlying27 i0 (.agg #[.int .i64 0, .slice none 0 0]) hi hz0 hz1 (by decide) (by decide) (.agg #[.int .i64 x.com, .slice x.a x.fs.length x.c]) #[.int .i64 x.com, .slice x.a x.fs.length x.c] rfl (by kernel_rfl) ?_
 have hUb := Upd.alloc (fun _ => False) u0 (.cells #[.int .i64 x.com, .slice x.a x.fs.length x.c] 80)
 have hsrc : Src Tryz.prog 2 27 (.slice (some ⟨u0.heap.size, 0, none⟩) 1 1) 1 (stV x) (u0.alloc (.cells #[.int .i64 x.com, .slice x.a x.fs.length x.c] 80)) := row_src (X := #[.int .i64 x.com, .slice x.a x.fs.length x.c]) Tryz.underlying27 rfl (by simp [Value.oneCell']) (heap_alloc_new u0 _)
 have hownx := ownsRow_upd HN1.out.own hUb (fun _ _ h => h)
 have HS7 := HN1.out.same HG.out.2.2 hUb
 have hq7 := And.intro (HS7.q1 4 HG.out.1) HS7.q0
 go_wp2_with fail
 refine hKK.out _ _ (.inr hq7) ?_
 refine plan_act rfl (fun KK hKK => ?_)
 try simp only [putL]
 refine wpList_app _ rfl (.tmp 3) (.tmp 6) 27 27 rfl 80 i0 (.agg #[.int .i64 0, .slice none 0 0]) 2 32 Tryz.underlying27 hi hz0 hz1 hz2 rfl a xs.length c (xs.flatMap stV) rfl hownx (.slice (some ⟨u0.heap.size, 0, none⟩) 1 1) 1 (stV x) rfl hsrc ?_ ?_ ?_
 ·unfold maxLen; omega
 ·omega
 clear hi hz0 hz1 hz2
 intro a8 c8 w8 hown8 hg8 hat8 hnil8
 obtain ⟨hcb, hq8, hf8, hq80⟩ := HN1.out.add HG.out.2.2 4 HG.out.1 HG.out.2.1 x HX.out.1 (fun g hg => by have h1 := HX.out.2 g hg; have h2 := HZ.out; have h3 := HB.out g; exact ⟨by omega, h1.2, fun e => by have := h3 e; omega⟩) _ hown8 hg8 hat8
 have HM8 := Lib.hid hcb
 clear hown8 hg8 hat8 hnil8 hcb hownx hsrc hUb hq7 HS7
 have HQ8 := Lib.hid (And.intro hq8 hq80)
 clear hq80
 go_wp2_with fail
 refine hKK.out _ _ (.inr HQ8.out) ?_
 try simp only [putL]
 iterate 1
  refine plan_take (v := ?_) rfl rfl (fun w' hS => ?_) ?_
  rotate_left
  ·skip
   go_simp; try with_reducible rfl
  simp only [putL]
 refine plan_act rfl (fun KK hKK => ?_)
 go_wp2_with fail
 refine hKK.out _ _ (.inl rfl) ?_
 refine plan_end ?_
 go_wp2_with fail
 go_end0
 exact ⟨rfl, x, a8, c8, by rw [HF.out]; exact HXC.out, by rw [HF.out]; exact HM8.out⟩
set_option maxHeartbeats 2000000 in
theorem sSettled_any (x y : St) (w : World) (hx : StIn w x) (hy : StIn w y) (he : stC x = stC y) :
  Calls Tryz.prog 59 #[.agg #[.int .i64 x.com, .slice x.a x.fs.length x.c], .agg #[.int .i64 y.com, .slice y.a y.fs.length y.c]] w fun e w' => e = .returned (.bool true) ∧ Upd (fun _ => False) w w' := by
 obtain ⟨xc, xf, xa, xk⟩ := x
 obtain ⟨yc, yf, ya, yk⟩ := y
 unfold stC at he
 simp only [Prod.mk.injEq] at he
 obtain ⟨rfl, rfl⟩ := he
 have hU1 := Upd.alloc (fun _ => False) w (.cells #[.int .i64 xc, .slice xa xf.length xk] 80)
 have hU2 := Upd.alloc (fun _ => False) (w.alloc (.cells #[.int .i64 xc, .slice xa xf.length xk] 80)) (.cells #[.int .i64 xc, .slice ya xf.length yk] 80)
 have hr1 := (hU2.block _ (lt_of_heap (heap_alloc_new w (.cells #[.int .i64 xc, .slice xa xf.length xk] 80))) (fun e => e)).trans (heap_alloc_new w (.cells #[.int .i64 xc, .slice xa xf.length xk] 80))
 have hr2 := heap_alloc_new (w.alloc (.cells #[.int .i64 xc, .slice xa xf.length xk] 80)) (.cells #[.int .i64 xc, .slice ya xf.length yk] 80)
 have hU := hU1.trans hU2
 have hsz : (w.alloc (.cells #[.int .i64 xc, .slice xa xf.length xk] 80)).heap.size = w.heap.size + 1 := by simp
 rw [hsz] at hr2
 have h1 := hx.v.upd hU (fun _ _ h => h)
 have k1 := hy.v.upd hU (fun _ _ h => h)
 have HP := Lib.hid (And.intro hU (And.intro hr1 (And.intro hr2 (And.intro h1 k1))))
 clear hU hr1 hr2 h1 k1 hU1 hU2 hsz hx hy
 go_enter Tryz.func59, Tryz.ntmps59
 go_upto_region 1 with (fail)
 obtain ⟨hU, hr1, hr2, h1, k1⟩ := HP.out
 clear HP
 generalize (w.alloc (.cells #[.int .i64 xc, .slice xa xf.length xk] 80)).alloc (.cells #[.int .i64 xc, .slice ya xf.length yk] 80) = y0 at *
 dsimp only at h1 k1
 have hpl := plainFi_any xa ya xk yk xf y0 h1 k1
 have HU := Lib.hid hU
 have q1 : y0.cell? ⟨w.heap.size, 0, none⟩ = some (.int .i64 xc) := by rw [cell_of_row _ _ _ _ _ _ hr1]; rfl
 have q2 : y0.cell? ⟨w.heap.size, 1, none⟩ = some (.slice xa xf.length xk) := by rw [cell_of_row _ _ _ _ _ _ hr1]; rfl
 have q3 : y0.cell? ⟨w.heap.size + 1, 0, none⟩ = some (.int .i64 xc) := by rw [cell_of_row _ _ _ _ _ _ hr2]; rfl
 have q4 : y0.cell? ⟨w.heap.size + 1, 1, none⟩ = some (.slice ya xf.length yk) := by rw [cell_of_row _ _ _ _ _ _ hr2]; rfl
 clear hU h1 k1 hr1 hr2
 go_wp2_with fail
 refine hpl.mono ?_
 rintro e w1 ⟨rfl, hV⟩
 have HZ := Lib.hid (HU.out.trans hV)
 clear q1 q2 q3 q4 hV hpl
 go_wp2_with fail
 go_ret
 exact ⟨by first | rfl | simp, HZ.out⟩
set_option maxHeartbeats 4000000 in
theorem sameSe_any (a a2 : Option Addr) (c c2 : Nat) (l k : List St) (w : World) (hv : Vw w a l.length c 2 (l.flatMap stV)) (hv2 : Vw w a2 k.length c2 2 (k.flatMap stV)) (he : l.map stC = k.map stC) (hl : ∀ m ∈ l, StIn w m) (hk : ∀ m ∈ k, StIn w m) :
  Calls Tryz.prog 58 #[.slice a l.length c, .slice a2 k.length c2, .func (.func 59) #[] #[]] w fun e w' => e = .returned (.bool true) ∧ Upd (fun _ => False) w w' := by
 have hlen : l.length = k.length := by have := congrArg List.length he; simpa using this
 have hcap := hv.cap
 have hlc := hv.le
 unfold maxLen at hcap
 have HV := Lib.hid (And.intro hv (And.intro hv2 (And.intro hl (And.intro hk (And.intro he hlen)))))
 clear hv hv2 hl hk he
 rw [← hlen]
 clear hlen
 have hb : ((l.length : Int) != (l.length : Int)) = false := by simp
 go_enter Tryz.func58, Tryz.ntmps58
 go_wp2_with fail
 clear hb
 go_loopw [7] (fun i wr => ∃ j : Nat, j ≤ l.length ∧ i = .int .i64 (j : Int) ∧ Upd (fun _ => False) w wr) (fun i _ => l.length - (intOf i).toNat)
 case atStart => exact ⟨0, Nat.zero_le _, rfl, Upd.refl _ _⟩
 case round =>
  obtain ⟨j, hj, rfl, hU⟩ := hrel
  by_cases hlt : j < l.length
  ·have hlk : j < k.length := by have := HV.out.2.2.2.2.2; omega
   have hI : (j : Int) < (l.length : Int) := by omega
   have hI0 : (0 : Int) ≤ (j : Int) := by omega
   obtain ⟨b, o, hb, hcell⟩ := (HV.out.1.upd hU (fun _ _ h => h)).at (by omega) (by decide)
   obtain ⟨b2, o2, hb2, hcell2⟩ := (HV.out.2.1.upd hU (fun _ _ h => h)).at (by omega) (by decide)
   subst hb hb2
   have hq : ∀ r (hr : r < 2), wr.cell? ⟨b, o + j * 2 + r, none⟩ = (stV l[j])[r]? ∧ wr.cell? ⟨b2, o2 + j * 2 + r, none⟩ = (stV k[j])[r]? := fun r hr => by
    have hx : ∃ v, (stV l[j])[r]? = some v := ⟨_, List.getElem?_eq_getElem (show r < (stV l[j]).length from hr)⟩
    have hy : ∃ v, (stV k[j])[r]? = some v := ⟨_, List.getElem?_eq_getElem (show r < (stV k[j]).length from hr)⟩
    obtain ⟨v, hx⟩ := hx
    obtain ⟨u, hy⟩ := hy
    rw [hx, hy]
    have e := (st_get l j r hlt hr).trans hx
    have e2 := (st_get k j r hlk hr).trans hy
    exact ⟨by rw [Nat.add_assoc]; exact hcell _ _ e, by rw [Nat.add_assoc]; exact hcell2 _ _ e2⟩
   have hee : stC l[j] = stC k[j] := by
    have h3 := congrArg (fun z => z[j]?) HV.out.2.2.2.2.1
    simp only [List.getElem?_map, List.getElem?_eq_getElem hlt, List.getElem?_eq_getElem hlk, Option.map_some, Option.some.injEq] at h3
    exact h3
   have heq : ∀ w', Upd (fun _ => False) wr w' → Calls Tryz.prog 59 #[.agg #[.int .i64 l[j].com, .slice l[j].a l[j].fs.length l[j].c], .agg #[.int .i64 k[j].com, .slice k[j].a k[j].fs.length k[j].c]] w' fun e w'' => e = .returned (.bool true) ∧ Upd (fun _ => False) w' w'' :=
    fun w' hu => sSettled_any l[j] k[j] w' (((HV.out.2.2.1 _ (List.getElem_mem hlt)).upd hU).upd hu) (((HV.out.2.2.2.1 _ (List.getElem_mem hlk)).upd hU).upd hu) hee
   have HU := Lib.hid hU
   have HEQ := Lib.hid heq
   have HQ := Lib.hid hq
   clear hcell hcell2 hU heq hq hee
   generalize l[j] = x at *
   generalize k[j] = y at *
   obtain ⟨xc, xf, xa, xk⟩ := x
   obtain ⟨yc, yf, ya, yk⟩ := y
   have HS : Hid ((wr.cell? ⟨b, o + j * 2, none⟩ = some (.int .i64 xc) ∧ wr.cell? ⟨b, o + j * 2 + 1, none⟩ = some (.slice xa xf.length xk)) ∧
     (wr.cell? ⟨b2, o2 + j * 2, none⟩ = some (.int .i64 yc) ∧ wr.cell? ⟨b2, o2 + j * 2 + 1, none⟩ = some (.slice ya yf.length yk))) :=
    Lib.hid ⟨⟨(HQ.out 0 (by decide)).1, (HQ.out 1 (by decide)).1⟩, ⟨(HQ.out 0 (by decide)).2, (HQ.out 1 (by decide)).2⟩⟩
   dsimp only at HEQ
   clear HQ hlk
   go_upto_region 6 with (fail)
   refine wp_region_plan_last [([0, 1, 2, 3, 4, 5, 6, 7, 8], 9)] [10] (fun wr => (wr.cell? ⟨b, o + j * 2, none⟩ = some (.int .i64 xc) ∧ wr.cell? ⟨b, o + j * 2 + 1, none⟩ = some (.slice xa xf.length xk)) ∧
     (wr.cell? ⟨b2, o2 + j * 2, none⟩ = some (.int .i64 yc) ∧ wr.cell? ⟨b2, o2 + j * 2 + 1, none⟩ = some (.slice ya yf.length yk))) (by kernel_rfl) (by kernel_rfl) HS.out ?_
   iterate 9
    refine plan_take (v := ?_) rfl rfl (fun w' hS => ?_) ?_
    rotate_left
    ·skip
     go_simp; try with_reducible rfl
    simp only [putL]
   refine plan_act rfl (fun KK hKK => ?_)
   go_wp2_with fail
   refine (HEQ.out _ (Upd.drew _ _)).mono ?_
   rintro e w2 ⟨rfl, hU2⟩
   have hU4 := (Upd.drew (fun _ => False) wr).trans hU2
   have HU2 := Lib.hid (HU.out.trans hU4)
   have cc : ∀ (q : Addr) (v : Value), wr.cell? q = some v → w2.cell? q = some v := fun q v h => (hU4.cell (World.block_lt_of_cell? wr q h) (fun h => h)).trans h
   have HS2 := Lib.hid (And.intro (And.intro (cc _ _ HS.out.1.1) (cc _ _ HS.out.1.2)) (And.intro (cc _ _ HS.out.2.1) (cc _ _ HS.out.2.2)))
   clear hU2 hU4 cc
   go_wp2_with fail
   refine hKK.out _ _ (.inr HS2.out) ?_
   iterate 1
    refine plan_last (v := ?_) rfl rfl (fun w' hS => ?_) ?_
    rotate_left
    ·skip
     go_simp; try with_reducible rfl
    simp only [putL]
   refine plan_end ?_
   go_wp2_with fail
   go_roundw
   case rel => exact ⟨j + 1, by omega, by first | rfl | go_num, HU2.out⟩
   case measure => simp [intOf]; omega
  ·obtain rfl : j = l.length := by omega
   go_wp2_with fail
   go_ret
   exact ⟨rfl, hU⟩
end Go.Proofs.YtccejkikphpnfaaGreatDoor
