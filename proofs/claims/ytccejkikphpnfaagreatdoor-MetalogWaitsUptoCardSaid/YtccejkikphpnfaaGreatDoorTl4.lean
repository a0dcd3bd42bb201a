
/- Roots and waits in general: whether they may be. -/
import Derived.Test.YtccejkikphpnfaaGreatDoorTl3
namespace Go.Proofs.YtccejkikphpnfaaGreatDoor
set_option linter.unusedSimpArgs false
set_option linter.unusedVariables false
set_option maxRecDepth 100000
open Go.ChangeShapes Go.WideShapes Go.ChangeAt Go.RowKit

/-- A root, and where its parts lie. -/
structure Rt where
  p : Int
  ca : Option Addr
  cc : Nat
  ks : List Ky
  ma : Option Addr
  mc : Nat
  ms : List Mk
  na : Option Addr
  nc : Nat
  ns : List Nm
  k : Int
def rtA (r : Rt) : Array Value := #[.int .i64 r.p, .slice r.ca r.ks.length r.cc, .slice r.ma r.ms.length r.mc, .slice r.na r.ns.length r.nc, .int .i64 r.k]
structure RtIn (w : World) (r : Rt) : Prop where
  cv : Vw w r.ca r.ks.length r.cc 32 (r.ks.flatMap kyV)
  mv : Vw w r.ma r.ms.length r.mc 2 (r.ms.flatMap mkV)
  me : ∀ m ∈ r.ms, MkIn w m
  nv : Vw w r.na r.ns.length r.nc 2 (r.ns.flatMap nmV)
  nl : ∀ x ∈ r.ns, x.name.length ≤ maxLen
theorem RtIn.upd {w w' : World} {r : Rt} (h : RtIn w r) (hU : Upd (fun _ => False) w w') : RtIn w' r :=
  ⟨h.cv.upd hU (fun _ _ h => h), h.mv.upd hU (fun _ _ h => h), fun m hm => (h.me m hm).upd hU, h.nv.upd hU (fun _ _ h => h), h.nl⟩
def rootB (r : Rt) : Bool := (decide (-1 ≤ r.p) && decide (r.p ≤ 1999)) && (decide (r.ks.length ≤ 2000) && (markersB r.ms && (marksB r.ns && numB r.k)))
theorem row5 {w : World} {b : Nat} {v0 v1 v2 v3 v4 : Value} {T : TypeId} {fr : Nat × Nat} (h : w.heap[b]? = some (.cells #[v0, v1, v2, v3, v4] T fr)) :
    w.cell? ⟨b, 0, none⟩ = some v0 ∧ w.cell? ⟨b, 1, none⟩ = some v1 ∧ w.cell? ⟨b, 2, none⟩ = some v2 ∧ w.cell? ⟨b, 3, none⟩ = some v3 ∧ w.cell? ⟨b, 4, none⟩ = some v4 := by
  refine ⟨?_, ?_, ?_, ?_, ?_⟩ <;> (rw [cell_of_row _ _ _ _ _ _ h]; rfl)
theorem row7 {w : World} {b : Nat} {v0 v1 v2 v3 v4 v5 v6 : Value} {T : TypeId} {fr : Nat × Nat} (h : w.heap[b]? = some (.cells #[v0, v1, v2, v3, v4, v5, v6] T fr)) :
    w.cell? ⟨b, 0, none⟩ = some v0 ∧ w.cell? ⟨b, 1, none⟩ = some v1 ∧ w.cell? ⟨b, 2, none⟩ = some v2 ∧ w.cell? ⟨b, 3, none⟩ = some v3 ∧ w.cell? ⟨b, 4, none⟩ = some v4 ∧ w.cell? ⟨b, 5, none⟩ = some v5 ∧ w.cell? ⟨b, 6, none⟩ = some v6 := by
  refine ⟨?_, ?_, ?_, ?_, ?_, ?_, ?_⟩ <;> (rw [cell_of_row _ _ _ _ _ _ h]; rfl)

set_option maxHeartbeats 4000000 in
theorem mroot_any (r : Rt) (w : World) (h : RtIn w r) : Calls Tryz.prog 43 #[.agg (rtA r)] w fun e w' => e = .returned (.bool (rootB r)) ∧ Upd (fun _ => False) w w' := by
  have hU := Upd.alloc (fun _ => False) w (.cells (rtA r) 26)
  have hrow := heap_alloc_new w (.cells (rtA r) 26)
  have h1 := h.upd hU
  have HD : Hid (rootB r = ((decide (-1 ≤ r.p) && decide (r.p ≤ 1999)) && (decide (r.ks.length ≤ 2000) && (markersB r.ms && (marksB r.ns && numB r.k))))) := Lib.hid rfl
  have hw := within_any r.p (-1) 1999 (w.alloc (.cells (rtA r) 26))
  have hmk := markers_any r.ma r.mc r.ms (w.alloc (.cells (rtA r) 26)) h1.mv h1.me
  have hnm : ∀ w', Upd (fun _ => False) (w.alloc (.cells (rtA r) 26)) w' → Calls Tryz.prog 81 #[.slice r.na r.ns.length r.nc] w' fun e w2 => e = .returned (.bool (marksB r.ns)) ∧ Upd (fun _ => False) w' w2 := fun w' hu => marks_any r.na r.nc r.ns w' (h1.upd hu).nv h1.nl
  have hnu : ∀ w', Calls Tryz.prog 82 #[.int .i64 r.k] w' fun e w2 => e = .returned (.bool (numB r.k)) ∧ w' = w2 := fun w' => number_any r.k w'
  generalize rootB r = R at *
  generalize markersB r.ms = b2 at *
  generalize marksB r.ns = b3 at *
  generalize numB r.k = b4 at *
  obtain ⟨p, ca, cc, ks, ma, mc, ms, na, nc, ns, k⟩ := r
  unfold rtA at *
  dsimp only at *
  generalize (decide (-1 ≤ p) && decide (p ≤ 1999)) = b1 at *
  have HU := Lib.hid hU
  have HN := Lib.hid (And.intro hnm hnu)
  have HR := Lib.hid hrow
  clear hU h1 h hnm hnu hrow
  go_enter Tryz.func43, Tryz.ntmps43
  go_wp2_with fail
  refine hw.mono ?_
  rintro e w' ⟨rfl, rfl⟩
  clear hw
  cases b1 with
  | false =>
    go_wp2_with fail
    go_ret
    exact ⟨by rw [HD.out]; rfl, HU.out⟩
  | true =>
  by_cases hn : ks.length ≤ 2000
  case neg =>
    have hI : decide ((ks.length : Int) ≤ 2000) = false := by rw [decide_eq_false_iff_not]; omega
    have HD2 : Hid (R = false) := Lib.hid (by rw [HD.out, decide_eq_false hn]; rfl)
    clear hn
    go_wp2_with fail
    go_ret
    exact ⟨by rw [HD2.out]; rfl, HU.out⟩
  case pos =>
  have hI : decide ((ks.length : Int) ≤ 2000) = true := by rw [decide_eq_true_iff]; omega
  have hD := HD.out
  rw [decide_eq_true hn, Bool.true_and, Bool.true_and] at hD
  have HD2 := Lib.hid hD
  clear hn hD HD
  go_wp2_with fail
  refine hmk.mono ?_
  rintro e w1 ⟨rfl, hU1⟩
  have HU1 := Lib.hid hU1
  obtain ⟨z0, z1, z2, z3, z4⟩ := row5 ((hU1.block _ (lt_of_heap HR.out) (fun h => h)).trans HR.out)
  clear hmk hU1 hI z0 z1 z2
  cases b2 with
  | false =>
    clear z3 z4
    go_wp2_with fail
    go_ret
    exact ⟨by rw [HD2.out]; rfl, HU.out.trans HU1.out⟩
  | true =>
  have hnm := HN.out.1 w1 HU1.out
  go_wp2_with fail
  refine hnm.mono ?_
  rintro e w2 ⟨rfl, hU2⟩
  have HU2 := Lib.hid (HU1.out.trans hU2)
  obtain ⟨z0, z1, z2, z3', z4'⟩ := row5 ((HU2.out.block _ (lt_of_heap HR.out) (fun h => h)).trans HR.out)
  clear hU2 hnm z0 z1 z2 z3' z3 z4
  cases b3 with
  | false =>
    clear z4'
    go_wp2_with fail
    go_ret
    exact ⟨by rw [HD2.out]; rfl, HU.out.trans HU2.out⟩
  | true =>
  have hnu := HN.out.2 w2
  go_wp2_with fail
  refine hnu.mono ?_
  rintro e w3 ⟨rfl, rfl⟩
  clear hnu
  go_wp2_with fail
  go_ret
  exact ⟨by rw [HD2.out]; rfl, HU.out.trans HU2.out⟩

/-- What waits, and where its parts lie. -/
structure Wt where
  on : Bool
  re : Bool
  src : Int
  dst : Int
  sa : Option Addr
  sc : Nat
  ss : List St
  com : Int
  ca : Option Addr
  cc : Nat
  cs : List Cl
def wtA (p : Wt) : Array Value := #[.bool p.on, .bool p.re, .int .i64 p.src, .int .i64 p.dst, .slice p.sa p.ss.length p.sc, .int .i64 p.com, .slice p.ca p.cs.length p.cc]
structure WtIn (w : World) (p : Wt) : Prop where
  sv : Vw w p.sa p.ss.length p.sc 2 (p.ss.flatMap stV)
  se : ∀ m ∈ p.ss, StIn w m
  cv : Vw w p.ca p.cs.length p.cc 3 (p.cs.flatMap clV)
theorem WtIn.upd {w w' : World} {p : Wt} (h : WtIn w p) (hU : Upd (fun _ => False) w w') : WtIn w' p :=
  ⟨h.sv.upd hU (fun _ _ h => h), fun m hm => (h.se m hm).upd hU, h.cv.upd hU (fun _ _ h => h)⟩
def waitB (p : Wt) : Bool := p.on && (numB p.src && (numB p.dst && (numB p.com && (decide (p.ss.length ≤ 2000) && (decide (p.cs.length ≤ 100) && (!p.ss.any badS && !p.cs.any badC))))))

set_option maxHeartbeats 4000000 in
theorem mwait_any (p : Wt) (w : World) (h : WtIn w p) : Calls Tryz.prog 52 #[.agg (wtA p)] w fun e w' => e = .returned (.bool (waitB p)) ∧ Upd (fun _ => False) w w' := by
  have hU := Upd.alloc (fun _ => False) w (.cells (wtA p) 30)
  have hrow := heap_alloc_new w (.cells (wtA p) 30)
  have h1 := h.upd hU
  have HD : Hid (waitB p = (p.on && (numB p.src && (numB p.dst && (numB p.com && (decide (p.ss.length ≤ 2000) && (decide (p.cs.length ≤ 100) && (!p.ss.any badS && !p.cs.any badC)))))))) := Lib.hid rfl
  have hn1 := number_any p.src (w.alloc (.cells (wtA p) 30))
  have hn2 := number_any p.dst (w.alloc (.cells (wtA p) 30))
  have hn3 := number_any p.com (w.alloc (.cells (wtA p) 30))
  have hcs := cfSe_any p.sa p.sc p.ss (w.alloc (.cells (wtA p) 30)) h1.sv h1.se
  have hcl : ∀ w', Upd (fun _ => False) (w.alloc (.cells (wtA p) 30)) w' → Calls Tryz.prog 90 #[.slice p.ca p.cs.length p.cc, .func (.func 91) #[] #[]] w' fun e w2 => e = .returned (.bool (p.cs.any badC)) ∧ Upd (fun _ => False) w' w2 := fun w' hu => cfCl_any p.ca p.cc p.cs w' (h1.upd hu).cv
  generalize waitB p = R at *
  generalize numB p.src = b1 at *
  generalize numB p.dst = b2 at *
  generalize numB p.com = b3 at *
  generalize p.ss.any badS = b4 at *
  generalize p.cs.any badC = b5 at *
  obtain ⟨on, re, src, dst, sa, sc, ss, com, ca, cc, cs⟩ := p
  unfold wtA at *
  dsimp only at *
  have HU := Lib.hid hU
  have HN := Lib.hid hcl
  have HR := Lib.hid hrow
  clear hU h1 h hcl hrow
  go_enter Tryz.func52, Tryz.ntmps52
  cases on with
  | false =>
    go_wp2_with fail
    go_ret
    exact ⟨by rw [HD.out]; rfl, HU.out⟩
  | true =>
  go_wp2_with fail
  refine hn1.mono ?_
  rintro e w' ⟨rfl, rfl⟩
  clear hn1
  cases b1 with
  | false =>
    go_wp2_with fail
    go_ret
    exact ⟨by rw [HD.out]; rfl, HU.out⟩
  | true =>
  go_wp2_with fail
  refine hn2.mono ?_
  rintro e w' ⟨rfl, rfl⟩
  clear hn2
  cases b2 with
  | false =>
    go_wp2_with fail
    go_ret
    exact ⟨by rw [HD.out]; rfl, HU.out⟩
  | true =>
  go_wp2_with fail
  refine hn3.mono ?_
  rintro e w' ⟨rfl, rfl⟩
  clear hn3
  cases b3 with
  | false =>
    go_wp2_with fail
    go_ret
    exact ⟨by rw [HD.out]; rfl, HU.out⟩
  | true =>
  have hD := HD.out
  rw [Bool.true_and, Bool.true_and, Bool.true_and, Bool.true_and] at hD
  have HD1 := Lib.hid hD
  clear hD HD
  by_cases hn : ss.length ≤ 2000
  case neg =>
    have hI : decide ((2000 : Int) < (ss.length : Int)) = true := by rw [decide_eq_true_iff]; omega
    have HD2 : Hid (R = false) := Lib.hid (by rw [HD1.out, decide_eq_false hn]; rfl)
    clear hn
    go_wp2_with fail
    go_ret
    exact ⟨by rw [HD2.out]; rfl, HU.out⟩
  case pos =>
  have hI : decide ((2000 : Int) < (ss.length : Int)) = false := by rw [decide_eq_false_iff_not]; omega
  have hD := HD1.out
  rw [decide_eq_true hn, Bool.true_and] at hD
  by_cases hm : cs.length ≤ 100
  case neg =>
    have hJ : decide ((100 : Int) < (cs.length : Int)) = true := by rw [decide_eq_true_iff]; omega
    have HD2 : Hid (R = false) := Lib.hid (by rw [hD, decide_eq_false hm]; rfl)
    clear hn hm hD
    go_wp2_with fail
    go_ret
    exact ⟨by rw [HD2.out]; rfl, HU.out⟩
  case pos =>
  have hJ : decide ((100 : Int) < (cs.length : Int)) = false := by rw [decide_eq_false_iff_not]; omega
  rw [decide_eq_true hm, Bool.true_and] at hD
  have HD2 := Lib.hid hD
  clear hn hm hD HD1
  go_wp2_with fail
  refine hcs.mono ?_
  rintro e w1 ⟨rfl, hU1⟩
  have HU1 := Lib.hid hU1
  obtain ⟨z0, z1, z2, z3, z4, z5, z6⟩ := row7 ((hU1.block _ (lt_of_heap HR.out) (fun h => h)).trans HR.out)
  clear hcs hU1 hI hJ z0 z1 z2 z3 z4 z5
  cases b4 with
  | true =>
    clear z6
    go_wp2_with fail
    go_ret
    exact ⟨by rw [HD2.out]; rfl, HU.out.trans HU1.out⟩
  | false =>
  have hcl := HN.out w1 HU1.out
  go_wp2_with fail
  refine hcl.mono ?_
  rintro e w2 ⟨rfl, hU2⟩
  have HU2 := Lib.hid (HU1.out.trans hU2)
  clear hU2 hcl z6
  go_wp2_with fail
  go_ret
  exact ⟨by rw [HD2.out]; rfl, HU.out.trans HU2.out⟩
end Go.Proofs.YtccejkikphpnfaaGreatDoor

