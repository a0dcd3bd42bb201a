
/- Markers, what was settled, clashes: whether each may be, and lists of them. -/
import Derived.Test.YtccejkikphpnfaaGreatDoorQ12
namespace Go.Proofs.YtccejkikphpnfaaGreatDoor
set_option linter.unusedSimpArgs false
set_option linter.unusedVariables false
set_option maxRecDepth 100000
open Go.ChangeShapes Go.WideShapes Go.ChangeAt Go.RowKit
/-- A marker, and where its numbers lie. -/
structure Mk where
 old : Int
 new : List Int
 a : Option Addr
 c : Nat
def mkV (m : Mk) : List Value := [.int .i64 m.old, .slice m.a m.new.length m.c]
theorem mkV_len (x : Mk) : (mkV x).length = 2 := rfl
theorem mk_get (l : List Mk) (i r : Nat) (hi : i < l.length) (hr : r < 2) : (l.flatMap mkV)[i * 2 + r]? = (mkV l[i])[r]? := by
 rw [flatMap_get mkV 2 mkV_len l i r hr, List.getElem?_eq_getElem hi]; rfl
def MkIn (w : World) (m : Mk) : Prop := Vw w m.a m.new.length m.c 1 (m.new.map iv)
theorem MkIn.upd {w w' : World} {m : Mk} (h : MkIn w m) (hU : Upd (fun _ => False) w w') : MkIn w' m := Vw.upd h hU (fun _ _ h => h)
def badM (m : Mk) : Bool := decide (m.old < 0) || (!numB m.old || !allB m.new)
set_option maxHeartbeats 2000000 in
theorem mmarkers1_any (m : Mk) (w : World) (hm : MkIn w m) : Calls Tryz.prog 120 #[.agg #[.int .i64 m.old, .slice m.a m.new.length m.c]] w fun e w' => e = .returned (.bool (badM m)) ∧ Upd (fun _ => False) w w' := by
 have hU := Upd.alloc (fun _ => False) w (.cells #[.int .i64 m.old, .slice m.a m.new.length m.c] 77)
 have hnum := number_any m.old (w.alloc (.cells #[.int .i64 m.old, .slice m.a m.new.length m.c] 77))
 have hall := mall_any m.a m.c m.new (w.alloc (.cells #[.int .i64 m.old, .slice m.a m.new.length m.c] 77)) (hm.upd hU)
 have HD : Hid (badM m = (decide (m.old < 0) || (!numB m.old || !allB m.new))) := Lib.hid rfl
 generalize badM m = R at *
 generalize numB m.old = b1 at *
 generalize allB m.new = b2 at *
 have HU := Lib.hid hU
 clear hU hm
 by_cases h0 : m.old < 0
 ·have HD2 : Hid (R = true) := Lib.hid (by rw [HD.out, decide_eq_true h0]; rfl)
  clear hnum hall HD
  go_enter Tryz.func120, Tryz.ntmps120
  go_wp2_with fail
  go_ret
  exact ⟨by rw [HD2.out]; rfl, HU.out⟩
 ·have hI : decide (m.old < 0) = false := decide_eq_false h0
  have hD := HD.out
  rw [hI, Bool.false_or] at hD
  have HD2 := Lib.hid hD
  clear hD HD h0
  go_enter Tryz.func120, Tryz.ntmps120
  go_wp2_with fail
  refine hnum.mono ?_
  rintro e w' ⟨rfl, rfl⟩
  clear hnum
  cases b1 with
  | false =>
   clear hall
   go_wp2_with fail
   go_ret
   exact ⟨by rw [HD2.out]; rfl, HU.out⟩
  | true =>
   go_wp2_with fail
   refine hall.mono ?_
   rintro e w' ⟨rfl, hU⟩
   have HU2 := Lib.hid (HU.out.trans hU)
   clear hall hU
   go_wp2_with fail
   go_ret
   exact ⟨by rw [HD2.out]; rfl, HU2.out⟩
set_option maxHeartbeats 2000000 in
theorem cfM_idx (a : Option Addr) (c : Nat) (l : List Mk) (w : World) (hv : Vw w a l.length c 2 (l.flatMap mkV)) (hm : ∀ m ∈ l, MkIn w m) :
  Calls Tryz.prog 149 #[.slice a l.length c, .func (.func 120) #[] #[]] w fun e w' => ∃ k : Int, e = .returned (.int .i64 k) ∧ decide (0 ≤ k) = l.any badM ∧ Upd (fun _ => False) w w' := by
 have hcap := hv.cap
 have hlc := hv.le
 unfold maxLen at hcap
 have HV := Lib.hid hv
 have HM := Lib.hid hm
 clear hv hm
 go_enter Tryz.func149, Tryz.ntmps149
 go_wp2_with fail
 go_loopw [8] (fun i wr => ∃ j : Nat, j ≤ l.length ∧ i = .int .i64 (j : Int) ∧ Hid ((l.take j).any badM = false) ∧ Hid (Upd (fun _ => False) w wr)) (fun i _ => l.length - (intOf i).toNat)
 case atStart => exact ⟨0, Nat.zero_le _, rfl, (by show _ = _; simp), Lib.hid (Upd.refl _ _)⟩
 case round =>
  obtain ⟨j, hj, rfl, hA, HU⟩ := hrel
  by_cases hlt : j < l.length
  ·have hI : (j : Int) < (l.length : Int) := by omega
   obtain ⟨b, o, hb, hcell⟩ := (HV.out.upd HU.out (fun _ _ h => h)).at (by omega) (by decide)
   subst hb
   have q0 : wr.cell? ⟨b, o + j * 2, none⟩ = some (.int .i64 l[j].old) := hcell (j * 2 + 0) _ (mk_get l j 0 hlt (by decide))
   have q1 : wr.cell? ⟨b, o + j * 2 + 1, none⟩ = some (.slice l[j].a l[j].new.length l[j].c) := hcell (j * 2 + 1) _ (mk_get l j 1 hlt (by decide))
   have hmx := HM.out l[j] (List.getElem_mem hlt)
   have hs := any_take_succ badM l j hlt
   rw [hA.out, Bool.false_or] at hs
   have hall := any_of_take badM l (j + 1)
   rw [hs] at hall
   generalize l[j] = x at *
   have HS := Lib.hid hs
   have HALL := Lib.hid hall
   have hlaw := mmarkers1_any x wr (hmx.upd HU.out)
   clear hcell hs hall hA
   clear hmx
   cases hp : badM x with
   | true =>
    rw [hp] at hlaw
    have HANY := Lib.hid (HALL.out hp)
    clear hp
    go_wp2_with fail
    refine hlaw.mono ?_
    rintro e w2 ⟨rfl, hU2⟩
    have HU2 := Lib.hid (HU.out.trans hU2)
    clear hlaw hU2
    go_wp2_with fail
    go_ret
    exact ⟨(j : Int), rfl, by rw [HANY.out]; exact decide_eq_true (by omega), HU2.out⟩
   | false =>
    rw [hp] at hlaw
    have HP := Lib.hid hp
    clear hp
    go_wp2_with fail
    refine hlaw.mono ?_
    rintro e w2 ⟨rfl, hU2⟩
    have HU2 := Lib.hid (HU.out.trans hU2)
    clear hlaw hU2
    go_wp2_with fail
    go_roundw
    case rel => exact ⟨j + 1, by omega, by first | rfl | go_num, (by show _ = _; rw [HS.out, HP.out]), HU2⟩
    case measure => simp [intOf]; omega
  ·obtain rfl : j = l.length := by omega
   have h0 := hA.out
   rw [List.take_length] at h0
   have H0 := Lib.hid h0
   have hI : ¬ (l.length : Int) < (l.length : Int) := by omega
   clear h0 hA hlt
   go_wp2_with fail
   go_ret
   exact ⟨-1, rfl, by rw [H0.out]; decide, HU.out⟩
theorem cfM_any (a : Option Addr) (c : Nat) (l : List Mk) (w : World) (hv : Vw w a l.length c 2 (l.flatMap mkV)) (hm : ∀ m ∈ l, MkIn w m) :
  Calls Tryz.prog 119 #[.slice a l.length c, .func (.func 120) #[] #[]] w fun e w' => e = .returned (.bool (l.any badM)) ∧ Upd (fun _ => False) w w' := by
 have h := cfM_idx a c l w hv hm
 clear hv hm
 go_enter Tryz.func119, Tryz.ntmps119
 go_wp2_with fail
 refine h.mono ?_
 rintro e w' ⟨k, rfl, hk, hU⟩
 have HK := Lib.hid (And.intro hk hU)
 clear hk h hU
 go_wp2_with fail
 go_ret
 exact ⟨by rw [← HK.out.1]; rfl, HK.out.2⟩
def markersB (l : List Mk) : Bool := decide (l.length ≤ 2000) && !l.any badM
theorem markers_any (a : Option Addr) (c : Nat) (l : List Mk) (w : World) (hv : Vw w a l.length c 2 (l.flatMap mkV)) (hm : ∀ m ∈ l, MkIn w m) :
  Calls Tryz.prog 80 #[.slice a l.length c] w fun e w' => e = .returned (.bool (markersB l)) ∧ Upd (fun _ => False) w w' := by
 have h := cfM_any a c l w hv hm
 have e : markersB l = (decide (l.length ≤ 2000) && !l.any badM) := rfl
 clear hv hm
 by_cases h0 : l.length ≤ 2000
 ·rw [decide_eq_true h0, Bool.true_and] at e
  rw [e]
  have hI : decide ((l.length : Int) ≤ 2000) = true := by rw [decide_eq_true_iff]; omega
  generalize l.any badM = b at *
  clear e h0
  go_enter Tryz.func80, Tryz.ntmps80
  go_wp2_with fail
  refine h.mono ?_
  rintro e w' ⟨rfl, hU⟩
  have HU := Lib.hid hU
  clear h hU
  go_wp2_with fail
  go_ret
  exact ⟨rfl, HU.out⟩
 ·rw [decide_eq_false h0, Bool.false_and] at e
  rw [e]
  have hI : decide ((l.length : Int) ≤ 2000) = false := by rw [decide_eq_false_iff_not]; omega
  clear e h0 h
  go_enter Tryz.func80, Tryz.ntmps80
  go_wp2_with fail
  go_ret
  exact ⟨rfl, Upd.refl _ _⟩
/-- What was settled, and where its files lie. -/
structure St where
 com : Int
 fs : List Fl
 a : Option Addr
 c : Nat
def stV (m : St) : List Value := [.int .i64 m.com, .slice m.a m.fs.length m.c]
theorem stV_len (x : St) : (stV x).length = 2 := rfl
theorem st_get (l : List St) (i r : Nat) (hi : i < l.length) (hr : r < 2) : (l.flatMap stV)[i * 2 + r]? = (stV l[i])[r]? := by
 rw [flatMap_get stV 2 stV_len l i r hr, List.getElem?_eq_getElem hi]; rfl
structure StIn (w : World) (m : St) : Prop where
 v : Vw w m.a m.fs.length m.c 3 (m.fs.flatMap flV)
 p : ∀ x ∈ m.fs, x.path.length ≤ maxLen
 t : ∀ x ∈ m.fs, x.text.length ≤ maxLen
theorem StIn.upd {w w' : World} {m : St} (h : StIn w m) (hU : Upd (fun _ => False) w w') : StIn w' m := ⟨h.v.upd hU (fun _ _ h => h), h.p, h.t⟩
def badS (m : St) : Bool := !numB m.com || !rightT m.fs
set_option maxHeartbeats 2000000 in
theorem mwait1_any (m : St) (w : World) (hm : StIn w m) : Calls Tryz.prog 88 #[.agg #[.int .i64 m.com, .slice m.a m.fs.length m.c]] w fun e w' => e = .returned (.bool (badS m)) ∧ Upd (fun _ => False) w w' := by
 have hU := Upd.alloc (fun _ => False) w (.cells #[.int .i64 m.com, .slice m.a m.fs.length m.c] 80)
 have hnum := number_any m.com (w.alloc (.cells #[.int .i64 m.com, .slice m.a m.fs.length m.c] 80))
 have hall := tRight_any m.a m.c m.fs (w.alloc (.cells #[.int .i64 m.com, .slice m.a m.fs.length m.c] 80)) (hm.upd hU).v hm.p hm.t
 have HD2 : Hid (badS m = (!numB m.com || !rightT m.fs)) := Lib.hid rfl
 generalize badS m = R at *
 generalize numB m.com = b1 at *
 generalize rightT m.fs = b2 at *
 have HU := Lib.hid hU
 clear hU hm
 go_enter Tryz.func88, Tryz.ntmps88
 go_wp2_with fail
 refine hnum.mono ?_
 rintro e w' ⟨rfl, rfl⟩
 clear hnum
 cases b1 with
 | false =>
  clear hall
  go_wp2_with fail
  go_ret
  exact ⟨by rw [HD2.out]; rfl, HU.out⟩
 | true =>
  go_wp2_with fail
  refine hall.mono ?_
  rintro e w' ⟨rfl, hU⟩
  have HU2 := Lib.hid (HU.out.trans hU)
  clear hall hU
  go_wp2_with fail
  go_ret
  exact ⟨by rw [HD2.out]; rfl, HU2.out⟩
set_option maxHeartbeats 2000000 in
theorem cfSe_idx (a : Option Addr) (c : Nat) (l : List St) (w : World) (hv : Vw w a l.length c 2 (l.flatMap stV)) (hm : ∀ m ∈ l, StIn w m) :
  Calls Tryz.prog 122 #[.slice a l.length c, .func (.func 88) #[] #[]] w fun e w' => ∃ k : Int, e = .returned (.int .i64 k) ∧ decide (0 ≤ k) = l.any badS ∧ Upd (fun _ => False) w w' := by
 have hcap := hv.cap
 have hlc := hv.le
 unfold maxLen at hcap
 have HV := Lib.hid hv
 have HM := Lib.hid hm
 clear hv hm
 go_enter Tryz.func122, Tryz.ntmps122
 go_wp2_with fail
 go_loopw [8] (fun i wr => ∃ j : Nat, j ≤ l.length ∧ i = .int .i64 (j : Int) ∧ Hid ((l.take j).any badS = false) ∧ Hid (Upd (fun _ => False) w wr)) (fun i _ => l.length - (intOf i).toNat)
 case atStart => exact ⟨0, Nat.zero_le _, rfl, (by show _ = _; simp), Lib.hid (Upd.refl _ _)⟩
 case round =>
  obtain ⟨j, hj, rfl, hA, HU⟩ := hrel
  by_cases hlt : j < l.length
  ·have hI : (j : Int) < (l.length : Int) := by omega
   obtain ⟨b, o, hb, hcell⟩ := (HV.out.upd HU.out (fun _ _ h => h)).at (by omega) (by decide)
   subst hb
   have q0 : wr.cell? ⟨b, o + j * 2, none⟩ = some (.int .i64 l[j].com) := hcell (j * 2 + 0) _ (st_get l j 0 hlt (by decide))
   have q1 : wr.cell? ⟨b, o + j * 2 + 1, none⟩ = some (.slice l[j].a l[j].fs.length l[j].c) := hcell (j * 2 + 1) _ (st_get l j 1 hlt (by decide))
   have hmx := HM.out l[j] (List.getElem_mem hlt)
   have hs := any_take_succ badS l j hlt
   rw [hA.out, Bool.false_or] at hs
   have hall := any_of_take badS l (j + 1)
   rw [hs] at hall
   generalize l[j] = x at *
   have HS := Lib.hid hs
   have HALL := Lib.hid hall
   have hlaw := mwait1_any x wr (hmx.upd HU.out)
   clear hcell hs hall hA
   clear hmx
   cases hp : badS x with
   | true =>
    rw [hp] at hlaw
    have HANY := Lib.hid (HALL.out hp)
    clear hp
    go_wp2_with fail
    refine hlaw.mono ?_
    rintro e w2 ⟨rfl, hU2⟩
    have HU2 := Lib.hid (HU.out.trans hU2)
    clear hlaw hU2
    go_wp2_with fail
    go_ret
    exact ⟨(j : Int), rfl, by rw [HANY.out]; exact decide_eq_true (by omega), HU2.out⟩
   | false =>
    rw [hp] at hlaw
    have HP := Lib.hid hp
    clear hp
    go_wp2_with fail
    refine hlaw.mono ?_
    rintro e w2 ⟨rfl, hU2⟩
    have HU2 := Lib.hid (HU.out.trans hU2)
    clear hlaw hU2
    go_wp2_with fail
    go_roundw
    case rel => exact ⟨j + 1, by omega, by first | rfl | go_num, (by show _ = _; rw [HS.out, HP.out]), HU2⟩
    case measure => simp [intOf]; omega
  ·obtain rfl : j = l.length := by omega
   have h0 := hA.out
   rw [List.take_length] at h0
   have H0 := Lib.hid h0
   have hI : ¬ (l.length : Int) < (l.length : Int) := by omega
   clear h0 hA hlt
   go_wp2_with fail
   go_ret
   exact ⟨-1, rfl, by rw [H0.out]; decide, HU.out⟩
theorem cfSe_any (a : Option Addr) (c : Nat) (l : List St) (w : World) (hv : Vw w a l.length c 2 (l.flatMap stV)) (hm : ∀ m ∈ l, StIn w m) :
  Calls Tryz.prog 87 #[.slice a l.length c, .func (.func 88) #[] #[]] w fun e w' => e = .returned (.bool (l.any badS)) ∧ Upd (fun _ => False) w w' := by
 have h := cfSe_idx a c l w hv hm
 clear hv hm
 go_enter Tryz.func87, Tryz.ntmps87
 go_wp2_with fail
 refine h.mono ?_
 rintro e w' ⟨k, rfl, hk, hU⟩
 have HK := Lib.hid (And.intro hk hU)
 clear hk h hU
 go_wp2_with fail
 go_ret
 exact ⟨by rw [← HK.out.1]; rfl, HK.out.2⟩
/-- A clash. -/
structure Cl where
 path : List UInt8
 kind : Int
 text : List UInt8
def clV (m : Cl) : List Value := [sv m.path, .int .i64 m.kind, sv m.text]
theorem clV_len (x : Cl) : (clV x).length = 3 := rfl
theorem cl_get (l : List Cl) (i r : Nat) (hi : i < l.length) (hr : r < 3) : (l.flatMap clV)[i * 3 + r]? = (clV l[i])[r]? := by
 rw [flatMap_get clV 3 clV_len l i r hr, List.getElem?_eq_getElem hi]; rfl
def badC (m : Cl) : Bool := !numB m.kind
theorem mwait2_any (m : Cl) (w : World) : Calls Tryz.prog 91 #[.agg #[.string (str m.path), .int .i64 m.kind, .string (str m.text)]] w fun e w' => e = .returned (.bool (badC m)) ∧ Upd (fun _ => False) w w' := by
 have hU := Upd.alloc (fun _ => False) w (.cells #[.string (str m.path), .int .i64 m.kind, .string (str m.text)] 100)
 have hnum := number_any m.kind (w.alloc (.cells #[.string (str m.path), .int .i64 m.kind, .string (str m.text)] 100))
 have HD2 : Hid (badC m = !numB m.kind) := Lib.hid rfl
 generalize badC m = R at *
 generalize numB m.kind = b1 at *
 have HU := Lib.hid hU
 clear hU
 go_enter Tryz.func91, Tryz.ntmps91
 go_wp2_with fail
 refine hnum.mono ?_
 rintro e w' ⟨rfl, rfl⟩
 clear hnum
 go_wp2_with fail
 go_ret
 exact ⟨by rw [HD2.out]; rfl, HU.out⟩
set_option maxHeartbeats 2000000 in
theorem cfCl_idx (a : Option Addr) (c : Nat) (l : List Cl) (w : World) (hv : Vw w a l.length c 3 (l.flatMap clV)) :
  Calls Tryz.prog 126 #[.slice a l.length c, .func (.func 91) #[] #[]] w fun e w' => ∃ k : Int, e = .returned (.int .i64 k) ∧ decide (0 ≤ k) = l.any badC ∧ Upd (fun _ => False) w w' := by
 have hcap := hv.cap
 have hlc := hv.le
 unfold maxLen at hcap
 have HV := Lib.hid hv
 clear hv
 go_enter Tryz.func126, Tryz.ntmps126
 go_wp2_with fail
 go_loopw [8] (fun i wr => ∃ j : Nat, j ≤ l.length ∧ i = .int .i64 (j : Int) ∧ Hid ((l.take j).any badC = false) ∧ Hid (Upd (fun _ => False) w wr)) (fun i _ => l.length - (intOf i).toNat)
 case atStart => exact ⟨0, Nat.zero_le _, rfl, (by show _ = _; simp), Lib.hid (Upd.refl _ _)⟩
 case round =>
  obtain ⟨j, hj, rfl, hA, HU⟩ := hrel
  by_cases hlt : j < l.length
  ·have hI : (j : Int) < (l.length : Int) := by omega
   obtain ⟨b, o, hb, hcell⟩ := (HV.out.upd HU.out (fun _ _ h => h)).at (by omega) (by decide)
   subst hb
   have q0 : wr.cell? ⟨b, o + j * 3, none⟩ = some (.string (str l[j].path)) := hcell (j * 3 + 0) _ (cl_get l j 0 hlt (by decide))
   have q1 : wr.cell? ⟨b, o + j * 3 + 1, none⟩ = some (.int .i64 l[j].kind) := hcell (j * 3 + 1) _ (cl_get l j 1 hlt (by decide))
   have q2 : wr.cell? ⟨b, o + j * 3 + 2, none⟩ = some (.string (str l[j].text)) := hcell (j * 3 + 2) _ (cl_get l j 2 hlt (by decide))
   have hs := any_take_succ badC l j hlt
   rw [hA.out, Bool.false_or] at hs
   have hall := any_of_take badC l (j + 1)
   rw [hs] at hall
   generalize l[j] = x at *
   have HS := Lib.hid hs
   have HALL := Lib.hid hall
   have hlaw := mwait2_any x wr
   clear hcell hs hall hA
   cases hp : badC x with
   | true =>
    rw [hp] at hlaw
    have HANY := Lib.hid (HALL.out hp)
    clear hp
    go_wp2_with fail
    refine hlaw.mono ?_
    rintro e w2 ⟨rfl, hU2⟩
    have HU2 := Lib.hid (HU.out.trans hU2)
    clear hlaw hU2
    go_wp2_with fail
    go_ret
    exact ⟨(j : Int), rfl, by rw [HANY.out]; exact decide_eq_true (by omega), HU2.out⟩
   | false =>
    rw [hp] at hlaw
    have HP := Lib.hid hp
    clear hp
    go_wp2_with fail
    refine hlaw.mono ?_
    rintro e w2 ⟨rfl, hU2⟩
    have HU2 := Lib.hid (HU.out.trans hU2)
    clear hlaw hU2
    go_wp2_with fail
    go_roundw
    case rel => exact ⟨j + 1, by omega, by first | rfl | go_num, (by show _ = _; rw [HS.out, HP.out]), HU2⟩
    case measure => simp [intOf]; omega
  ·obtain rfl : j = l.length := by omega
   have h0 := hA.out
   rw [List.take_length] at h0
   have H0 := Lib.hid h0
   have hI : ¬ (l.length : Int) < (l.length : Int) := by omega
   clear h0 hA hlt
   go_wp2_with fail
   go_ret
   exact ⟨-1, rfl, by rw [H0.out]; decide, HU.out⟩
theorem cfCl_any (a : Option Addr) (c : Nat) (l : List Cl) (w : World) (hv : Vw w a l.length c 3 (l.flatMap clV)) :
  Calls Tryz.prog 90 #[.slice a l.length c, .func (.func 91) #[] #[]] w fun e w' => e = .returned (.bool (l.any badC)) ∧ Upd (fun _ => False) w w' := by
 have h := cfCl_idx a c l w hv
 clear hv
 go_enter Tryz.func90, Tryz.ntmps90
 go_wp2_with fail
 refine h.mono ?_
 rintro e w' ⟨k, rfl, hk, hU⟩
 have HK := Lib.hid (And.intro hk hU)
 clear hk h hU
 go_wp2_with fail
 go_ret
 exact ⟨by rw [← HK.out.1]; rfl, HK.out.2⟩
end Go.Proofs.YtccejkikphpnfaaGreatDoor
