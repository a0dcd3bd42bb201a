
/- A slice in a variable's field, appended to while a reader is read. -/
import Derived.Test.YtccejkikphpnfaaGreatDoorQ14
namespace Go.Proofs.YtccejkikphpnfaaGreatDoor
set_option linter.unusedSimpArgs false
set_option linter.unusedVariables false
set_option maxRecDepth 100000
open Go.ChangeShapes Go.WideShapes Go.ChangeAt Go.RowKit
set_option maxHeartbeats 2000000 in
theorem eqlCl_any (x : Cl) (w : World) : Calls Tryz.prog 108 #[.agg #[sv x.path, .int .i64 x.kind, sv x.text], .agg #[sv x.path, .int .i64 x.kind, sv x.text]] w fun e w' => e = .returned (.bool true) ∧ Upd (fun _ => False) w w' := by
 obtain ⟨xp, xk, xt⟩ := x
 unfold sv
 have hU := (Upd.alloc (fun _ => False) w (.cells #[.string (str xp), .int .i64 xk, .string (str xt)] 100)).trans (Upd.alloc (fun _ => False) (w.alloc (.cells #[.string (str xp), .int .i64 xk, .string (str xt)] 100)) (.cells #[.string (str xp), .int .i64 xk, .string (str xt)] 100))
 have HU := Lib.hid hU
 clear hU
 go_enter Tryz.func108, Tryz.ntmps108
 go_wp2_with fail
 go_ret
 exact ⟨by first | rfl | simp, HU.out⟩
set_option maxHeartbeats 2000000 in
theorem sameCl_any (a a2 : Option Addr) (c c2 : Nat) (l : List Cl) (w : World) (hv : Vw w a l.length c 3 (l.flatMap clV)) (hv2 : Vw w a2 l.length c2 3 (l.flatMap clV)) :
  Calls Tryz.prog 107 #[.slice a l.length c, .slice a2 l.length c2, .func (.func 108) #[] #[]] w fun e w' => e = .returned (.bool true) ∧ Upd (fun _ => False) w w' := by
 have hcap := hv.cap
 have hlc := hv.le
 unfold maxLen at hcap
 have HV := Lib.hid (And.intro hv hv2)
 clear hv hv2
 have hb : ((l.length : Int) != (l.length : Int)) = false := by simp
 go_enter Tryz.func107, Tryz.ntmps107
 go_wp2_with fail
 clear hb
 go_loopw [7] (fun i wr => ∃ j : Nat, j ≤ l.length ∧ i = .int .i64 (j : Int) ∧ Upd (fun _ => False) w wr) (fun i _ => l.length - (intOf i).toNat)
 case atStart => exact ⟨0, Nat.zero_le _, rfl, Upd.refl _ _⟩
 case round =>
  obtain ⟨j, hj, rfl, hU⟩ := hrel
  by_cases hlt : j < l.length
  ·have hI : (j : Int) < (l.length : Int) := by omega
   have hI0 : (0 : Int) ≤ (j : Int) := by omega
   obtain ⟨b, o, hb, hcell⟩ := (HV.out.1.upd hU (fun _ _ h => h)).at (by omega) (by decide)
   obtain ⟨b2, o2, hb2, hcell2⟩ := (HV.out.2.upd hU (fun _ _ h => h)).at (by omega) (by decide)
   subst hb hb2
   have hq : ∀ r (hr : r < 3), wr.cell? ⟨b, o + j * 3 + r, none⟩ = (clV l[j])[r]? ∧ wr.cell? ⟨b2, o2 + j * 3 + r, none⟩ = (clV l[j])[r]? := fun r hr => by
    have hx : ∃ v, (clV l[j])[r]? = some v := ⟨_, List.getElem?_eq_getElem (show r < (clV l[j]).length from hr)⟩
    obtain ⟨v, hx⟩ := hx
    rw [hx]
    have e := (cl_get l j r hlt hr).trans hx
    exact ⟨by rw [Nat.add_assoc]; exact hcell _ _ e, by rw [Nat.add_assoc]; exact hcell2 _ _ e⟩
   have heq := fun w => eqlCl_any l[j] w
   have HU := Lib.hid hU
   have HEQ := Lib.hid heq
   have HQ := Lib.hid hq
   clear hcell hcell2 hU heq hq
   generalize l[j] = x at *
   obtain ⟨xp, xk, xt⟩ := x
   have HS : Hid ((wr.cell? ⟨b, o + j * 3, none⟩ = some (.string (str xp)) ∧ wr.cell? ⟨b, o + j * 3 + 1, none⟩ = some (.int .i64 xk) ∧ wr.cell? ⟨b, o + j * 3 + 2, none⟩ = some (.string (str xt))) ∧
     (wr.cell? ⟨b2, o2 + j * 3, none⟩ = some (.string (str xp)) ∧ wr.cell? ⟨b2, o2 + j * 3 + 1, none⟩ = some (.int .i64 xk) ∧ wr.cell? ⟨b2, o2 + j * 3 + 2, none⟩ = some (.string (str xt)))) :=
    Lib.hid ⟨⟨(HQ.out 0 (by decide)).1, (HQ.out 1 (by decide)).1, (HQ.out 2 (by decide)).1⟩, ⟨(HQ.out 0 (by decide)).2, (HQ.out 1 (by decide)).2, (HQ.out 2 (by decide)).2⟩⟩
   unfold sv at HEQ
   go_upto_region 6 with (fail)
   refine wp_region_plan_last [([0, 1, 2, 3, 4, 5, 6, 7, 8], 9)] [10] (fun wr => (wr.cell? ⟨b, o + j * 3, none⟩ = some (.string (str xp)) ∧ wr.cell? ⟨b, o + j * 3 + 1, none⟩ = some (.int .i64 xk) ∧ wr.cell? ⟨b, o + j * 3 + 2, none⟩ = some (.string (str xt))) ∧
     (wr.cell? ⟨b2, o2 + j * 3, none⟩ = some (.string (str xp)) ∧ wr.cell? ⟨b2, o2 + j * 3 + 1, none⟩ = some (.int .i64 xk) ∧ wr.cell? ⟨b2, o2 + j * 3 + 2, none⟩ = some (.string (str xt)))) (by kernel_rfl) (by kernel_rfl) HS.out ?_
   iterate 9
    refine plan_take (v := ?_) rfl rfl (fun w' hS => ?_) ?_
    rotate_left
    ·skip
     go_simp; try with_reducible rfl
    simp only [putL]
   refine plan_act rfl (fun KK hKK => ?_)
   go_wp2_with fail
   refine (HEQ.out _).mono ?_
   rintro e w2 ⟨rfl, hU2⟩
   have hU4 := (Upd.drew (fun _ => False) wr).trans hU2
   have HU2 := Lib.hid (HU.out.trans hU4)
   have cc : ∀ (q : Addr) (v : Value), wr.cell? q = some v → w2.cell? q = some v := fun q v h => (hU4.cell (World.block_lt_of_cell? wr q h) (fun h => h)).trans h
   have HS2 := Lib.hid (And.intro (And.intro (cc _ _ HS.out.1.1) (And.intro (cc _ _ HS.out.1.2.1) (cc _ _ HS.out.1.2.2))) (And.intro (cc _ _ HS.out.2.1) (And.intro (cc _ _ HS.out.2.2.1) (cc _ _ HS.out.2.2.2))))
   clear hU2 hU4 cc
   go_wp2_with fail
   refine hKK.out _ _ (.inr HS2.out) ?_
   iterate 1
    refine plan_last (v := ?_) rfl rfl (fun w' hS => ?_) ?_
    rotate_left
    ·skip
     go_simp; try with_reducible rfl
    simp only [putL]
   refine plan_end ?_
   go_wp2_with fail
   go_roundw
   case rel => exact ⟨j + 1, by omega, by first | rfl | go_num, HU2.out⟩
   case measure => simp [intOf]; omega
  ·obtain rfl : j = l.length := by omega
   go_wp2_with fail
   go_ret
   exact ⟨rfl, hU⟩
theorem plainCl_any (a a2 : Option Addr) (c c2 : Nat) (l : List Cl) (w : World) (hv : Vw w a l.length c 3 (l.flatMap clV)) (hv2 : Vw w a2 l.length c2 3 (l.flatMap clV)) :
  Calls Tryz.prog 60 #[.slice a l.length c, .slice a2 l.length c2] w fun e w' => e = .returned (.bool true) ∧ Upd (fun _ => False) w w' := by
 have h := sameCl_any a a2 c c2 l w hv hv2
 go_enter Tryz.func60, Tryz.ntmps60
 go_wp2_with fail
 refine h.mono ?_
 rintro e w1 ⟨rfl, hU⟩
 go_wp2_with fail
 go_ret
 exact ⟨rfl, hU⟩
set_option maxHeartbeats 2000000 in
theorem eqlFi_any (x : Fl) (w : World) : Calls Tryz.prog 146 #[.agg #[sv x.path, .bool x.exec, sv x.text], .agg #[sv x.path, .bool x.exec, sv x.text]] w fun e w' => e = .returned (.bool true) ∧ Upd (fun _ => False) w w' := by
 obtain ⟨xp, xe, xt⟩ := x
 unfold sv
 have hU := (Upd.alloc (fun _ => False) w (.cells #[.string (str xp), .bool xe, .string (str xt)] 103)).trans (Upd.alloc (fun _ => False) (w.alloc (.cells #[.string (str xp), .bool xe, .string (str xt)] 103)) (.cells #[.string (str xp), .bool xe, .string (str xt)] 103))
 have HU := Lib.hid hU
 clear hU
 go_enter Tryz.func146, Tryz.ntmps146
 go_wp2_with fail
 go_ret
 exact ⟨by first | rfl | simp, HU.out⟩
set_option maxHeartbeats 2000000 in
theorem sameFi_any (a a2 : Option Addr) (c c2 : Nat) (l : List Fl) (w : World) (hv : Vw w a l.length c 3 (l.flatMap flV)) (hv2 : Vw w a2 l.length c2 3 (l.flatMap flV)) :
  Calls Tryz.prog 145 #[.slice a l.length c, .slice a2 l.length c2, .func (.func 146) #[] #[]] w fun e w' => e = .returned (.bool true) ∧ Upd (fun _ => False) w w' := by
 have hcap := hv.cap
 have hlc := hv.le
 unfold maxLen at hcap
 have HV := Lib.hid (And.intro hv hv2)
 clear hv hv2
 have hb : ((l.length : Int) != (l.length : Int)) = false := by simp
 go_enter Tryz.func145, Tryz.ntmps145
 go_wp2_with fail
 clear hb
 go_loopw [7] (fun i wr => ∃ j : Nat, j ≤ l.length ∧ i = .int .i64 (j : Int) ∧ Upd (fun _ => False) w wr) (fun i _ => l.length - (intOf i).toNat)
 case atStart => exact ⟨0, Nat.zero_le _, rfl, Upd.refl _ _⟩
 case round =>
  obtain ⟨j, hj, rfl, hU⟩ := hrel
  by_cases hlt : j < l.length
  ·have hI : (j : Int) < (l.length : Int) := by omega
   have hI0 : (0 : Int) ≤ (j : Int) := by omega
   obtain ⟨b, o, hb, hcell⟩ := (HV.out.1.upd hU (fun _ _ h => h)).at (by omega) (by decide)
   obtain ⟨b2, o2, hb2, hcell2⟩ := (HV.out.2.upd hU (fun _ _ h => h)).at (by omega) (by decide)
   subst hb hb2
   have hq : ∀ r (hr : r < 3), wr.cell? ⟨b, o + j * 3 + r, none⟩ = (flV l[j])[r]? ∧ wr.cell? ⟨b2, o2 + j * 3 + r, none⟩ = (flV l[j])[r]? := fun r hr => by
    have hx : ∃ v, (flV l[j])[r]? = some v := ⟨_, List.getElem?_eq_getElem (show r < (flV l[j]).length from hr)⟩
    obtain ⟨v, hx⟩ := hx
    rw [hx]
    have e := (fl_get l j r hlt hr).trans hx
    exact ⟨by rw [Nat.add_assoc]; exact hcell _ _ e, by rw [Nat.add_assoc]; exact hcell2 _ _ e⟩
   have heq := fun w => eqlFi_any l[j] w
   have HU := Lib.hid hU
   have HEQ := Lib.hid heq
   have HQ := Lib.hid hq
   clear hcell hcell2 hU heq hq
   generalize l[j] = x at *
   obtain ⟨xp, xe, xt⟩ := x
   have HS : Hid ((wr.cell? ⟨b, o + j * 3, none⟩ = some (.string (str xp)) ∧ wr.cell? ⟨b, o + j * 3 + 1, none⟩ = some (.bool xe) ∧ wr.cell? ⟨b, o + j * 3 + 2, none⟩ = some (.string (str xt))) ∧
     (wr.cell? ⟨b2, o2 + j * 3, none⟩ = some (.string (str xp)) ∧ wr.cell? ⟨b2, o2 + j * 3 + 1, none⟩ = some (.bool xe) ∧ wr.cell? ⟨b2, o2 + j * 3 + 2, none⟩ = some (.string (str xt)))) :=
    Lib.hid ⟨⟨(HQ.out 0 (by decide)).1, (HQ.out 1 (by decide)).1, (HQ.out 2 (by decide)).1⟩, ⟨(HQ.out 0 (by decide)).2, (HQ.out 1 (by decide)).2, (HQ.out 2 (by decide)).2⟩⟩
   unfold sv at HEQ
   go_upto_region 6 with (fail)
   refine wp_region_plan_last [([0, 1, 2, 3, 4, 5, 6, 7, 8], 9)] [10] (fun wr => (wr.cell? ⟨b, o + j * 3, none⟩ = some (.string (str xp)) ∧ wr.cell? ⟨b, o + j * 3 + 1, none⟩ = some (.bool xe) ∧ wr.cell? ⟨b, o + j * 3 + 2, none⟩ = some (.string (str xt))) ∧
     (wr.cell? ⟨b2, o2 + j * 3, none⟩ = some (.string (str xp)) ∧ wr.cell? ⟨b2, o2 + j * 3 + 1, none⟩ = some (.bool xe) ∧ wr.cell? ⟨b2, o2 + j * 3 + 2, none⟩ = some (.string (str xt)))) (by kernel_rfl) (by kernel_rfl) HS.out ?_
   iterate 9
    refine plan_take (v := ?_) rfl rfl (fun w' hS => ?_) ?_
    rotate_left
    ·skip
     go_simp; try with_reducible rfl
    simp only [putL]
   refine plan_act rfl (fun KK hKK => ?_)
   go_wp2_with fail
   refine (HEQ.out _).mono ?_
   rintro e w2 ⟨rfl, hU2⟩
   have hU4 := (Upd.drew (fun _ => False) wr).trans hU2
   have HU2 := Lib.hid (HU.out.trans hU4)
   have cc : ∀ (q : Addr) (v : Value), wr.cell? q = some v → w2.cell? q = some v := fun q v h => (hU4.cell (World.block_lt_of_cell? wr q h) (fun h => h)).trans h
   have HS2 := Lib.hid (And.intro (And.intro (cc _ _ HS.out.1.1) (And.intro (cc _ _ HS.out.1.2.1) (cc _ _ HS.out.1.2.2))) (And.intro (cc _ _ HS.out.2.1) (And.intro (cc _ _ HS.out.2.2.1) (cc _ _ HS.out.2.2.2))))
   clear hU2 hU4 cc
   go_wp2_with fail
   refine hKK.out _ _ (.inr HS2.out) ?_
   iterate 1
    refine plan_last (v := ?_) rfl rfl (fun w' hS => ?_) ?_
    rotate_left
    ·skip
     go_simp; try with_reducible rfl
    simp only [putL]
   refine plan_end ?_
   go_wp2_with fail
   go_roundw
   case rel => exact ⟨j + 1, by omega, by first | rfl | go_num, HU2.out⟩
   case measure => simp [intOf]; omega
  ·obtain rfl : j = l.length := by omega
   go_wp2_with fail
   go_ret
   exact ⟨rfl, hU⟩
theorem plainFi_any (a a2 : Option Addr) (c c2 : Nat) (l : List Fl) (w : World) (hv : Vw w a l.length c 3 (l.flatMap flV)) (hv2 : Vw w a2 l.length c2 3 (l.flatMap flV)) :
  Calls Tryz.prog 106 #[.slice a l.length c, .slice a2 l.length c2] w fun e w' => e = .returned (.bool true) ∧ Upd (fun _ => False) w w' := by
 have h := sameFi_any a a2 c c2 l w hv hv2
 go_enter Tryz.func106, Tryz.ntmps106
 go_wp2_with fail
 refine h.mono ?_
 rintro e w1 ⟨rfl, hU⟩
 go_wp2_with fail
 go_ret
 exact ⟨rfl, hU⟩
/-- So many readings, till something is wrong. -/
def listS {X : Type} (f : RS → X × RS) : Nat → RS → List X × RS
 | 0, s => ([], s)
 | n + 1, s => if s.e ≠ 0 then ([], s) else ((f s).1 :: (listS f n (f s).2).1, (listS f n (f s).2).2)
theorem listS_stop {X : Type} (f : RS → X × RS) (n : Nat) (s : RS) (h : s.e ≠ 0) : listS f n s = ([], s) := by
 cases n with
 | zero => rfl
 | succ n => rw [listS, if_pos h]
theorem listS_go {X : Type} (f : RS → X × RS) (n : Nat) (s : RS) (h : s.e = 0) : listS f (n + 1) s = ((f s).1 :: (listS f n (f s).2).1, (listS f n (f s).2).2) := by
 rw [listS, if_neg (by simp [h])]
/-- A reading takes something, unless something is wrong; nothing grows. -/
structure Goes {X : Type} (f : RS → X × RS) : Prop where
 le : ∀ s, (f s).2.l.length ≤ s.l.length
 stuck : ∀ s, s.e ≠ 0 → (f s).2.e ≠ 0
structure Eats {X : Type} (f : RS → X × RS) : Prop extends Goes f where
 less : ∀ s, s.e = 0 → (f s).2.e = 0 → (f s).2.l.length < s.l.length
theorem listS_len {X : Type} {f : RS → X × RS} (h : Eats f) : ∀ (n : Nat) (s : RS), (listS f n s).1.length ≤ s.l.length + 1 ∧ (listS f n s).2.l.length ≤ s.l.length
 | 0, s => ⟨by simp [listS], Nat.le_refl _⟩
 | n + 1, s => by
  by_cases he : s.e = 0
  ·rw [listS_go f n s he]
   have h2 := h.le s
   have ih := listS_len h n (f s).2
   by_cases h1 : (f s).2.e = 0
   ·have := h.less s he h1
    refine ⟨?_, by dsimp only; omega⟩
    dsimp only
    rw [List.length_cons]; omega
   ·rw [listS_stop f n _ h1]
    refine ⟨by simp, by dsimp only; omega⟩
  ·rw [listS_stop f _ s he]
   exact ⟨by simp, Nat.le_refl _⟩
/-- A number, and so many readings. -/
def someS {X : Type} (f : RS → X × RS) (s : RS) : List X × RS := listS f (intV s).toNat (takeS 4 s).2
theorem someS_len {X : Type} {f : RS → X × RS} (h : Eats f) (s : RS) : (someS f s).1.length ≤ s.l.length + 1 ∧ (someS f s).2.l.length ≤ s.l.length := by
 have h1 := listS_len h (intV s).toNat (takeS 4 s).2
 have h2 := takeS_len 4 s
 exact ⟨by unfold someS; omega, by unfold someS; omega⟩
theorem enter_of {fid : Nat} {fn : Func} (hf : Tryz.prog.funcs[fid]? = some fn) (hn : (fn.name == "runtime.NumGoroutine") = false) (hb : fn.body.isNone = false) (args : Array Value) (w : World) : (callFunc fid args).run Tryz.prog w = .ok (.enter fid args) w := by
 have h1 : fn.name ≠ "runtime.NumGoroutine" := by simpa using hn
 have h2 : fn.body ≠ none := by intro e; rw [e] at hb; cases hb
 simp [callFunc, hf, h1, h2]
set_option maxHeartbeats 8000000 in
theorem some_gen {X : Type} {f : RS → X × RS} (hf : Eats f) (br BX : Nat) (F : Option Nat) (fid : Nat) (cap : Array Value) (hent : ∀ w, (callFunc fid cap).run Tryz.prog w = .ok (.enter fid cap) w) (s : RS) (wk : World) (hr : Rd wk br F s.l s.e) (hl : s.l.length ≤ 100000000) (hbx : BX < wk.heap.size)
  (I : World → List X → RS → World → Prop) (hinit : ∀ w0, Upd (fun k => k = br) wk w0 → Rd w0 br F (takeS 4 s).2.l (takeS 4 s).2.e → I w0 [] (takeS 4 s).2 w0)
  (hrd : ∀ w0 L s' w', I w0 L s' w' → Rd w' br F s'.l s'.e) (hupd : ∀ w0 L s' w', I w0 L s' w' → Upd (fun q => q = br ∨ q = BX) w0 w')
  (hstep : ∀ w0 L s' w', I w0 L s' w' → s'.e = 0 → s'.l.length ≤ 100000000 → L.length ≤ 100000000 → Calls Tryz.prog fid cap w' fun e w2 => e = .returned (.tuple #[]) ∧ I w0 (L ++ [(f s').1]) (f s').2 w2) :
  Calls Tryz.prog 130 #[.agg #[.pointer (some ⟨br, 0, none⟩)], .func (.func fid) #[] cap] wk fun e w' => e = .returned (.tuple #[]) ∧ ∃ w0, Upd (fun k => k = br) wk w0 ∧ I w0 (someS f s).1 (someS f s).2 w' := by
 have hU0 := Upd.alloc (fun _ => False) wk (.cells #[.pointer (some ⟨br, 0, none⟩)] 139)
 have hbox := heap_alloc_new wk (.cells #[.pointer (some ⟨br, 0, none⟩)] 139)
 have hbr : br < wk.heap.size := by
  obtain ⟨a, c, hh, _⟩ := hr.ex
  exact lt_of_heap hh
 have hlen := listS_len hf (intV s).toNat (takeS 4 s).2
 have htl := takeS_len 4 s
 have hss : someS f s = listS f (intV s).toNat (takeS 4 s).2 := rfl
 have hri := rint_any br F s _ (hr.upd hU0 (fun h => h) (fun _ _ h => h)) hl
 have hib := intV_bd s
 generalize someS f s = SS at *
 generalize intV s = n0 at *
 generalize (takeS 4 s).2 = s1 at *
 have HSS := Lib.hid hss
 have HI := Lib.hid (And.intro hinit (And.intro hrd (And.intro hupd hstep)))
 have HU0 := Lib.hid hU0
 have HL := Lib.hid (And.intro hlen (And.intro htl hl))
 have HBX := Lib.hid hbox
 clear hss hinit hrd hupd hstep hU0 hlen htl hl hbox hr
 go_enter Tryz.func130, Tryz.ntmps130
 go_upto_region 1 with (fail)
 generalize wk.alloc (.cells #[.pointer (some ⟨br, 0, none⟩)] 139) = y0 at *
 obtain ⟨B, hB⟩ : ∃ B, wk.heap.size = B := ⟨_, rfl⟩
 rw [hB] at HBX hbr hbx ⊢
 clear hB
 have q : y0.cell? ⟨B, 0, none⟩ = some (.pointer (some ⟨br, 0, none⟩)) := by rw [cell_of_row _ _ _ _ _ _ HBX.out]; rfl
 go_wp2_with fail
 refine hri.mono ?_
 unfold ReadN
 rintro e w1 ⟨rfl, hR, hU⟩
 have hb1 := (hU.block B (lt_of_heap HBX.out) (by omega)).trans HBX.out
 have hUw := (HU0.out.mono (T := fun k => k = br) (fun _ _ h => h.elim)).trans hU
 have HJ := Lib.hid (And.intro (HI.out.1 w1 hUw hR) hb1)
 have HUW := Lib.hid hUw
 have hBz := lt_of_heap hb1
 have HBZ := Lib.hid hBz
 clear hR hU hb1 hUw q hri hBz
 go_wp2_with fail
 go_loopw [4] (fun i wr => ∃ (v : Int) (L : List X) (sj : RS), i = .int .i64 v ∧ Hid (v ≤ n0 ∧ -1 ≤ v) ∧ Hid (listS f n0.toNat s1 = (L ++ (listS f v.toNat sj).1, (listS f v.toNat sj).2)) ∧ Hid (I w1 L sj wr ∧ sj.l.length ≤ s1.l.length)) (fun i _ => (intOf i).toNat)
 case atStart => exact ⟨n0, [], s1, rfl, Lib.hid ⟨Int.le_refl _, hib.1⟩, Lib.hid rfl, Lib.hid ⟨HJ.out.1, Nat.le_refl _⟩⟩
 case round =>
  obtain ⟨v, L, sj, rfl, HV, HT, HK⟩ := hrel
  have hB1 := ((HI.out.2.2.1 _ _ _ _ HK.out.1).block B HBZ.out (by omega)).trans HJ.out.2
  have q : wr.cell? ⟨B, 0, none⟩ = some (.pointer (some ⟨br, 0, none⟩)) := by rw [cell_of_row _ _ _ _ _ _ hB1]; rfl
  clear hB1
  by_cases h0 : 0 < v
  case neg =>
   have hI : decide (0 < v) = false := decide_eq_false h0
   have HF : Hid (I w1 SS.1 SS.2 wr) := Lib.hid (by
    have ht := HT.out
    rw [show v.toNat = 0 from by omega] at ht
    rw [HSS.out, ht]
    simpa [listS] using HK.out.1)
   clear q
   go_wp2_with fail
   go_end0
   exact ⟨rfl, w1, HUW.out, HF.out⟩
  have hI : decide (0 < v) = true := decide_eq_true h0
  have herr := err_any br F sj.l sj.e wr (HI.out.2.1 _ _ _ _ HK.out.1)
  by_cases he : sj.e = 0
  case neg =>
   have hE : (sj.e == 0) = false := by simp [he]
   have HF : Hid (I w1 SS.1 SS.2 wr) := Lib.hid (by
    have ht := HT.out
    rw [listS_stop f _ sj he] at ht
    rw [HSS.out, ht]
    simpa using HK.out.1)
   generalize sj.e = se at *
   clear he
   go_wp2_with fail
   refine herr.mono ?_
   rintro e w' ⟨rfl, rfl⟩
   clear herr q
   go_wp2_with fail
   go_end0
   exact ⟨rfl, w1, HUW.out, HF.out⟩
  have HE := Lib.hid he
  rw [he] at herr
  obtain ⟨m, hm⟩ : ∃ m : Nat, v = (m : Int) + 1 := ⟨(v - 1).toNat, by omega⟩
  have HT2 : Hid (listS f n0.toNat s1 = (L ++ [(f sj).1] ++ (listS f m (f sj).2).1, (listS f m (f sj).2).2)) := Lib.hid (by
   have ht := HT.out
   rw [show v.toNat = m + 1 from by omega, listS_go f m sj he] at ht
   rw [ht]; simp)
  have hLn : L.length ≤ 100000000 - 1 + 1 := by
   have h1 := HL.out.1.1
   have h2 := HL.out.2.1
   have h3 := HL.out.2.2
   rw [HT2.out] at h1
   simp only [List.length_append, List.length_singleton] at h1
   omega
  have hsl : sj.l.length ≤ 100000000 := by have := HK.out.2; have := HL.out.2.1; have := HL.out.2.2; omega
  have HCL := Lib.hid (HI.out.2.2.2 w1 L sj wr HK.out.1 he hsl (by omega))
  have HLE : Hid ((f sj).2.l.length ≤ s1.l.length) := Lib.hid (Nat.le_trans (hf.le sj) HK.out.2)
  have hdec : IntKind.i64.wrap (v - 1) = (m : Int) := by
   have := HV.out
   rw [hm, Int.add_sub_cancel]
   exact IntWalk.i64_in _ (by omega)
  have HV2 : Hid ((m : Int) ≤ n0 ∧ -1 ≤ (m : Int)) := Lib.hid (by have := HV.out; omega)
  have hmv : (m : Int) < v := by omega
  clear he hLn hsl HV HT hm
  go_wp2_with fail
  refine herr.mono ?_
  rintro e w' ⟨rfl, rfl⟩
  clear herr
  go_wp2_with fail
  refine HCL.out.mono ?_
  rintro e w2 ⟨rfl, hI2⟩
  have HJ2 := Lib.hid (And.intro hI2 HLE.out)
  clear hI2 HCL q
  go_wp2_with fail
  go_roundw
  case rel => exact ⟨(m : Int), L ++ [(f sj).1], (f sj).2, by first | rfl | go_num | (rw [hdec]), HV2, by rw [Int.toNat_natCast]; exact HT2, HJ2⟩
  case measure => simp [intOf]; omega
/-- Since w0 the variable's block BX has got a slice of xs (at the row's place), of which each may own a block; the reader br (its box: R1) stands at s. -/
structure Ph {X : Type} (dec : X → List Value) (sz : Nat) (eT : TypeId) (ib : X → Option Nat) (inn : World → X → Prop) (T : TypeId) (row : Option Addr → Nat → Nat → Array Value) (br BX R1 : Nat) (F : Option Nat) (w0 : World)
  (s : RS) (xs : List X) (a : Option Addr) (c : Nat) (wk : World) : Prop where
 rd : Rd wk br F s.l s.e
 box : wk.heap[R1]? = some (.cells #[.pointer (some ⟨br, 0, none⟩)] 139)
 var : wk.heap[BX]? = some (.cells (row a xs.length c) T)
 own : wk.ownsRow 0 eT sz (.slice a xs.length c) xs.length (xs.flatMap dec)
 fr : ∀ g, blk a = some g → w0.heap.size ≤ g
 ind : ∀ x ∈ xs, inn wk x ∧ ∀ g, ib x = some g → w0.heap.size ≤ g ∧ g < wk.heap.size ∧ blk a ≠ some g
 upd : Upd (fun q => q = br ∨ q = BX) w0 wk
 n1 : br < w0.heap.size
 n2 : R1 < w0.heap.size
 n3 : BX < w0.heap.size
 n4 : R1 ≠ br
 n5 : BX ≠ br
 n6 : BX ≠ R1
 n7 : ∀ g, F = some g → g < w0.heap.size ∧ g ≠ BX
/-- What an element has in memory stays, where its block does. -/
def Stays {X : Type} (ib : X → Option Nat) (inn : World → X → Prop) : Prop := ∀ (S : Nat → Prop) (w w' : World) (x : X), inn w x → Upd S w w' → (∀ g, ib x = some g → ¬ S g) → inn w' x
section
variable {X : Type} {dec : X → List Value} {sz : Nat} {eT : TypeId} {ib : X → Option Nat} {inn : World → X → Prop} {T : TypeId} {row : Option Addr → Nat → Nat → Array Value} {br BX R1 : Nat} {F : Option Nat} {w0 : World}
 {s s' : RS} {xs : List X} {a : Option Addr} {c : Nat} {wk w' : World}
theorem Ph.read (hst : Stays ib inn) (h : Ph dec sz eT ib inn T row br BX R1 F w0 s xs a c wk) (hR : Rd w' br F s'.l s'.e) (hU : Upd (fun k => k = br) wk w') : Ph dec sz eT ib inn T row br BX R1 F w0 s' xs a c w' := by
 have h1 := h.n1; have h4 := h.n4; have h5 := h.n5
 refine ⟨hR, (hU.block R1 (lt_of_heap h.box) h4).trans h.box, (hU.block BX (lt_of_heap h.var) h5).trans h.var,
  ownsRow_upd h.own hU (fun q hq e => by rw [own_blk] at hq; have := h.fr q hq; omega), h.fr, fun x hx => ?_, h.upd.trans (hU.mono (fun _ _ e => .inl e)), h1, h.n2, h.n3, h4, h5, h.n6, h.n7⟩
 obtain ⟨i1, i2⟩ := h.ind x hx
 exact ⟨hst _ _ _ x i1 hU (fun g hg e => by have := (i2 g hg).1; omega), fun g hg => ⟨(i2 g hg).1, Nat.lt_of_lt_of_le (i2 g hg).2.1 hU.size, (i2 g hg).2.2⟩⟩
theorem Ph.same (hst : Stays ib inn) (h : Ph dec sz eT ib inn T row br BX R1 F w0 s xs a c wk) (hU : Upd (fun _ => False) wk w') : Ph dec sz eT ib inn T row br BX R1 F w0 s xs a c w' :=
 h.read hst (h.rd.upd hU (fun h => h) (fun _ _ h => h)) (hU.mono (fun _ _ h => h.elim))
theorem Ph.q0 (h : Ph dec sz eT ib inn T row br BX R1 F w0 s xs a c wk) : wk.cell? ⟨R1, 0, none⟩ = some (.pointer (some ⟨br, 0, none⟩)) := by rw [cell_of_row _ _ _ _ _ _ h.box]; rfl
theorem Ph.q1 (h : Ph dec sz eT ib inn T row br BX R1 F w0 s xs a c wk) (j : Nat) (hget : ∀ a n c, (row a n c)[j]? = some (.slice a n c)) : wk.cell? ⟨BX, j, none⟩ = some (.slice a xs.length c) := by rw [cell_of_row _ _ _ _ _ _ h.var]; exact hget _ _ _
theorem Ph.lt (h : Ph dec sz eT ib inn T row br BX R1 F w0 s xs a c wk) : BX < wk.heap.size := lt_of_heap h.var
theorem Ph.add (hst : Stays ib inn) (h : Ph dec sz eT ib inn T row br BX R1 F w0 s xs a c wk) (j : Nat) (hget : ∀ a n c, (row a n c)[j]? = some (.slice a n c)) (hset : ∀ a n c a' n' c', (row a n c).setIfInBounds j (.slice a' n' c') = row a' n' c')
  (x : X) (hix : inn wk x) (hbx : ∀ g, ib x = some g → w0.heap.size ≤ g ∧ g < wk.heap.size ∧ blk a ≠ some g) (o : Obj) {w8 : World} {a8 : Option Addr} {c8 : Nat} (hown : w8.ownsRow 0 eT sz (.slice a8 (xs.length + 1) c8) (xs.length + 1) (xs.flatMap dec ++ dec x))
  (hg : (wk.alloc o).grownBy w8 (blk a)) (hat : blk a8 = blk a ∨ blk a8 = some (wk.alloc o).heap.size) :
  Ph dec sz eT ib inn T row br BX R1 F w0 s (xs ++ [x]) a8 c8 (w8.setCell ⟨BX, j, none⟩ (.slice a8 (xs.length + 1) c8)) ∧ w8.cell? ⟨BX, j, none⟩ = some (.slice a xs.length c) ∧ w8.frozen? ⟨BX, j, none⟩ = false ∧ w8.cell? ⟨R1, 0, none⟩ = some (.pointer (some ⟨br, 0, none⟩)) := by
 have h1 := h.n1; have h2 := h.n2; have h3 := h.n3; have h4 := h.n4; have h5 := h.n5; have h6 := h.n6
 have hlt := h.lt
 have hUa := Upd.alloc (fun _ => False) wk o
 have hUg := Upd.grown (S := fun k => blk a = some k) hg (fun k hk => hk)
 have hz := hUa.size
 have hz0 := h.upd.size
 have hU8 : Upd (fun q => blk a = some q) wk w8 := (hUa.mono (fun _ _ e => e.elim)).next hUg (fun i hi e => e)
 have hkeep : ∀ q, q < w0.heap.size → w8.heap[q]? = wk.heap[q]? := fun q hq => hU8.block q (Nat.lt_of_lt_of_le hq hz0) (fun e => by have := h.fr q e; omega)
 have hvar8 := (hkeep BX h3).trans h.var
 have hrow8 := (hkeep R1 h2).trans h.box
 have hst8 := Upd.setCell (S := fun q => q = BX) w8 (p := ⟨BX, j, none⟩) rfl (.slice a8 (xs.length + 1) c8)
 have hf8 : ∀ g, blk a8 = some g → blk a = some g ∨ wk.heap.size ≤ g := fun g hg' => by
  rcases hat with e | e
  ·exact .inl (e.symm.trans hg')
  ·rw [e] at hg'; cases hg'; exact .inr hz
 have hfx : ∀ g, blk a8 = some g → w0.heap.size ≤ g := fun g hg' => by
  rcases hf8 g hg' with e | e
  ·exact h.fr g e
  ·omega
 have hUall : Upd (fun q => q = BX ∨ blk a = some q) wk (w8.setCell ⟨BX, j, none⟩ (.slice a8 (xs.length + 1) c8)) :=
  (hU8.mono (fun _ _ e => .inr e)).trans (hst8.mono (fun _ _ e => .inl e))
 have hll : (xs ++ [x]).length = xs.length + 1 := by simp
 have hind : ∀ y, inn wk y → (∀ g, ib y = some g → w0.heap.size ≤ g ∧ g < wk.heap.size ∧ blk a ≠ some g) → inn (w8.setCell ⟨BX, j, none⟩ (.slice a8 (xs.length + 1) c8)) y ∧ ∀ g, ib y = some g → w0.heap.size ≤ g ∧ g < (w8.setCell ⟨BX, j, none⟩ (.slice a8 (xs.length + 1) c8)).heap.size ∧ blk a8 ≠ some g := fun y i1 i2 =>
  ⟨hst _ _ _ y i1 hUall (fun g hg' e => by
   obtain ⟨j1, j2, j3⟩ := i2 g hg'
   rcases e with e | e
   ·omega
   ·exact j3 e), fun g hg' => by
   obtain ⟨j1, j2, j3⟩ := i2 g hg'
   refine ⟨j1, Nat.lt_of_lt_of_le j2 hUall.size, fun e => ?_⟩
   rcases hf8 g e with e2 | e2
   ·exact j3 e2
   ·omega⟩
 refine ⟨⟨?_, ?_, ?_, ?_, hfx, fun y hy => ?_, ?_, h1, h2, h3, h4, h5, h6, h.n7⟩, ?_, free_row hvar8, ?_⟩
 ·refine h.rd.upd hUall (fun e => ?_) (fun g hg' e => ?_)
  ·rcases e with e | e
   ·omega
   ·have := h.fr _ e; omega
  ·have := h.n7 g hg'
   rcases e with e | e
   ·omega
   ·have := h.fr _ e; omega
 ·exact (hst8.block R1 (lt_of_heap hrow8) (fun e => h6 e.symm)).trans hrow8
 ·rw [setCell_heap j (.slice a8 (xs.length + 1) c8) hvar8, hll, hset]
 ·have := ownsRow_setCell_ne hown (a := ⟨BX, j, none⟩) (by rw [own_blk]; intro e; have := hfx _ e; simp at this; omega) (.slice a8 (xs.length + 1) c8)
  rw [hll]
  simpa using this
 ·rcases List.mem_append.1 hy with hy | hy
  ·exact hind y (h.ind y hy).1 (h.ind y hy).2
  ·simp at hy
   subst hy
   exact hind y hix hbx
 ·refine h.upd.next hUall (fun i hi e => ?_)
  rcases e with e | e
  ·exact .inr e
  ·have := h.fr _ e; omega
 ·rw [cell_of_row _ _ _ _ _ _ hvar8]; exact hget _ _ _
 ·rw [cell_of_row _ _ _ _ _ _ hrow8]; rfl
end
end Go.Proofs.YtccejkikphpnfaaGreatDoor
