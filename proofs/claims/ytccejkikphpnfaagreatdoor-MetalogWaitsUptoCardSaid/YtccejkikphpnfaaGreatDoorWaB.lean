
/- copies of settled commits, of clashes, of files. -/
import Derived.Test.YtccejkikphpnfaaGreatDoorTl4
import Derived.Test.YtccejkikphpnfaaGreatDoorWaA
import Derived.Test.YtccejkikphpnfaaGreatDoorWaC
namespace Go.Proofs.YtccejkikphpnfaaGreatDoor
set_option linter.unusedSimpArgs false
set_option linter.unusedVariables false
set_option maxRecDepth 100000
open Go.ChangeShapes Go.WideShapes Go.ChangeAt Go.RowKit

set_option maxHeartbeats 2000000 in
theorem eqlCl_any (x : Cl) (w : World) : Calls Tryz.prog 108 #[.agg #[sv x.path, .int .i64 x.kind, sv x.text], .agg #[sv x.path, .int .i64 x.kind, sv x.text]] w fun e w' => e = .returned (.bool true) ∧ Upd (fun _ => False) w w' := by
  obtain ⟨xp, xk, xt⟩ := x
  unfold sv
  have hU := (Upd.alloc (fun _ => False) w (.cells #[.string (str xp), .int .i64 xk, .string (str xt)] 100)).trans (Upd.alloc (fun _ => False) (w.alloc (.cells #[.string (str xp), .int .i64 xk, .string (str xt)] 100)) (.cells #[.string (str xp), .int .i64 xk, .string (str xt)] 100))
  have HU := Lib.hid hU
  clear hU
  go_enter Tryz.func108, Tryz.ntmps108
  go_wp2_with fail
  go_ret
  exact ⟨by first | rfl | simp, HU.out⟩
set_option maxHeartbeats 2000000 in
theorem sameCl_any (a a2 : Option Addr) (c c2 : Nat) (l : List Cl) (w : World) (hv : Vw w a l.length c 3 (l.flatMap clV)) (hv2 : Vw w a2 l.length c2 3 (l.flatMap clV)) :
    Calls Tryz.prog 107 #[.slice a l.length c, .slice a2 l.length c2, .func (.func 108) #[] #[]] w fun e w' => e = .returned (.bool true) ∧ Upd (fun _ => False) w w' := by
  have hcap := hv.cap
  have hlc := hv.le
  unfold maxLen at hcap
  have HV := Lib.hid (And.intro hv hv2)
  clear hv hv2
  have hb : ((l.length : Int) != (l.length : Int)) = false := by simp
  go_enter Tryz.func107, Tryz.ntmps107
  go_wp2_with fail
  clear hb
  go_loopw [7] (fun i wr => ∃ j : Nat, j ≤ l.length ∧ i = .int .i64 (j : Int) ∧ Upd (fun _ => False) w wr) (fun i _ => l.length - (intOf i).toNat)
  case atStart => exact ⟨0, Nat.zero_le _, rfl, Upd.refl _ _⟩
  case round =>
    obtain ⟨j, hj, rfl, hU⟩ := hrel
    by_cases hlt : j < l.length
    · have hI : (j : Int) < (l.length : Int) := by omega
      have hI0 : (0 : Int) ≤ (j : Int) := by omega
      obtain ⟨b, o, hb, hcell⟩ := (HV.out.1.upd hU (fun _ _ h => h)).at (by omega) (by decide)
      obtain ⟨b2, o2, hb2, hcell2⟩ := (HV.out.2.upd hU (fun _ _ h => h)).at (by omega) (by decide)
      subst hb hb2
      have hq : ∀ r (hr : r < 3), wr.cell? ⟨b, o + j * 3 + r, none⟩ = (clV l[j])[r]? ∧ wr.cell? ⟨b2, o2 + j * 3 + r, none⟩ = (clV l[j])[r]? := fun r hr => by
        have hx : ∃ v, (clV l[j])[r]? = some v := ⟨_, List.getElem?_eq_getElem (show r < (clV l[j]).length from hr)⟩
        obtain ⟨v, hx⟩ := hx
        rw [hx]
        have e := (cl_get l j r hlt hr).trans hx
        exact ⟨by rw [Nat.add_assoc]; exact hcell _ _ e, by rw [Nat.add_assoc]; exact hcell2 _ _ e⟩
      have heq := fun w => eqlCl_any l[j] w
      have HU := Lib.hid hU
      have HEQ := Lib.hid heq
      have HQ := Lib.hid hq
      clear hcell hcell2 hU heq hq
      generalize l[j] = x at *
      obtain ⟨xp, xk, xt⟩ := x
      have HS : Hid ((wr.cell? ⟨b, o + j * 3, none⟩ = some (.string (str xp)) ∧ wr.cell? ⟨b, o + j * 3 + 1, none⟩ = some (.int .i64 xk) ∧ wr.cell? ⟨b, o + j * 3 + 2, none⟩ = some (.string (str xt))) ∧
          (wr.cell? ⟨b2, o2 + j * 3, none⟩ = some (.string (str xp)) ∧ wr.cell? ⟨b2, o2 + j * 3 + 1, none⟩ = some (.int .i64 xk) ∧ wr.cell? ⟨b2, o2 + j * 3 + 2, none⟩ = some (.string (str xt)))) :=
        Lib.hid ⟨⟨(HQ.out 0 (by decide)).1, (HQ.out 1 (by decide)).1, (HQ.out 2 (by decide)).1⟩, ⟨(HQ.out 0 (by decide)).2, (HQ.out 1 (by decide)).2, (HQ.out 2 (by decide)).2⟩⟩
      unfold sv at HEQ
      go_upto_region 6 with (fail)
      refine wp_region_plan_last [([0, 1, 2, 3, 4, 5, 6, 7, 8], 9)] [10] (fun wr => (wr.cell? ⟨b, o + j * 3, none⟩ = some (.string (str xp)) ∧ wr.cell? ⟨b, o + j * 3 + 1, none⟩ = some (.int .i64 xk) ∧ wr.cell? ⟨b, o + j * 3 + 2, none⟩ = some (.string (str xt))) ∧
          (wr.cell? ⟨b2, o2 + j * 3, none⟩ = some (.string (str xp)) ∧ wr.cell? ⟨b2, o2 + j * 3 + 1, none⟩ = some (.int .i64 xk) ∧ wr.cell? ⟨b2, o2 + j * 3 + 2, none⟩ = some (.string (str xt)))) (by kernel_rfl) (by kernel_rfl) HS.out ?_
      iterate 9
        refine plan_take (v := ?_) rfl rfl (fun w' hS => ?_) ?_
        rotate_left
        · skip
          go_simp; try with_reducible rfl
        simp only [Act.put, List.getElem_toArray, List.getElem_cons_zero, List.getElem_cons_succ, List.setIfInBounds_toArray, List.set_cons_zero, List.set_cons_succ]
      refine plan_act rfl (fun KK hKK => ?_)
      go_wp2_with fail
      refine (HEQ.out _).mono ?_
      rintro e w2 ⟨rfl, hU2⟩
      have hU4 := (Upd.drew (fun _ => False) wr).trans hU2
      have HU2 := Lib.hid (HU.out.trans hU4)
      have cc : ∀ (q : Addr) (v : Value), wr.cell? q = some v → w2.cell? q = some v := fun q v h => (hU4.cell (World.block_lt_of_cell? wr q h) (fun h => h)).trans h
      have HS2 := Lib.hid (And.intro (And.intro (cc _ _ HS.out.1.1) (And.intro (cc _ _ HS.out.1.2.1) (cc _ _ HS.out.1.2.2))) (And.intro (cc _ _ HS.out.2.1) (And.intro (cc _ _ HS.out.2.2.1) (cc _ _ HS.out.2.2.2))))
      clear hU2 hU4 cc
      go_wp2_with fail
      refine hKK.out _ _ (.inr HS2.out) ?_
      iterate 1
        refine plan_last (v := ?_) rfl rfl (fun w' hS => ?_) ?_
        rotate_left
        · skip
          go_simp; try with_reducible rfl
        simp only [Act.put, List.getElem_toArray, List.getElem_cons_zero, List.getElem_cons_succ, List.setIfInBounds_toArray, List.set_cons_zero, List.set_cons_succ]
      refine plan_end ?_
      go_wp2_with fail
      go_roundw
      case rel => exact ⟨j + 1, by omega, by first | rfl | go_num, HU2.out⟩
      case measure => simp [intOf]; omega
    · obtain rfl : j = l.length := by omega
      go_wp2_with fail
      go_ret
      exact ⟨rfl, hU⟩
theorem plainCl_any (a a2 : Option Addr) (c c2 : Nat) (l : List Cl) (w : World) (hv : Vw w a l.length c 3 (l.flatMap clV)) (hv2 : Vw w a2 l.length c2 3 (l.flatMap clV)) :
    Calls Tryz.prog 60 #[.slice a l.length c, .slice a2 l.length c2] w fun e w' => e = .returned (.bool true) ∧ Upd (fun _ => False) w w' := by
  have h := sameCl_any a a2 c c2 l w hv hv2
  go_enter Tryz.func60, Tryz.ntmps60
  go_wp2_with fail
  refine h.mono ?_
  rintro e w1 ⟨rfl, hU⟩
  go_wp2_with fail
  go_ret
  exact ⟨rfl, hU⟩

set_option maxHeartbeats 2000000 in
theorem eqlFi_any (x : Fl) (w : World) : Calls Tryz.prog 146 #[.agg #[sv x.path, .bool x.exec, sv x.text], .agg #[sv x.path, .bool x.exec, sv x.text]] w fun e w' => e = .returned (.bool true) ∧ Upd (fun _ => False) w w' := by
  obtain ⟨xp, xe, xt⟩ := x
  unfold sv
  have hU := (Upd.alloc (fun _ => False) w (.cells #[.string (str xp), .bool xe, .string (str xt)] 103)).trans (Upd.alloc (fun _ => False) (w.alloc (.cells #[.string (str xp), .bool xe, .string (str xt)] 103)) (.cells #[.string (str xp), .bool xe, .string (str xt)] 103))
  have HU := Lib.hid hU
  clear hU
  go_enter Tryz.func146, Tryz.ntmps146
  go_wp2_with fail
  go_ret
  exact ⟨by first | rfl | simp, HU.out⟩
set_option maxHeartbeats 2000000 in
theorem sameFi_any (a a2 : Option Addr) (c c2 : Nat) (l : List Fl) (w : World) (hv : Vw w a l.length c 3 (l.flatMap flV)) (hv2 : Vw w a2 l.length c2 3 (l.flatMap flV)) :
    Calls Tryz.prog 145 #[.slice a l.length c, .slice a2 l.length c2, .func (.func 146) #[] #[]] w fun e w' => e = .returned (.bool true) ∧ Upd (fun _ => False) w w' := by
  have hcap := hv.cap
  have hlc := hv.le
  unfold maxLen at hcap
  have HV := Lib.hid (And.intro hv hv2)
  clear hv hv2
  have hb : ((l.length : Int) != (l.length : Int)) = false := by simp
  go_enter Tryz.func145, Tryz.ntmps145
  go_wp2_with fail
  clear hb
  go_loopw [7] (fun i wr => ∃ j : Nat, j ≤ l.length ∧ i = .int .i64 (j : Int) ∧ Upd (fun _ => False) w wr) (fun i _ => l.length - (intOf i).toNat)
  case atStart => exact ⟨0, Nat.zero_le _, rfl, Upd.refl _ _⟩
  case round =>
    obtain ⟨j, hj, rfl, hU⟩ := hrel
    by_cases hlt : j < l.length
    · have hI : (j : Int) < (l.length : Int) := by omega
      have hI0 : (0 : Int) ≤ (j : Int) := by omega
      obtain ⟨b, o, hb, hcell⟩ := (HV.out.1.upd hU (fun _ _ h => h)).at (by omega) (by decide)
      obtain ⟨b2, o2, hb2, hcell2⟩ := (HV.out.2.upd hU (fun _ _ h => h)).at (by omega) (by decide)
      subst hb hb2
      have hq : ∀ r (hr : r < 3), wr.cell? ⟨b, o + j * 3 + r, none⟩ = (flV l[j])[r]? ∧ wr.cell? ⟨b2, o2 + j * 3 + r, none⟩ = (flV l[j])[r]? := fun r hr => by
        have hx : ∃ v, (flV l[j])[r]? = some v := ⟨_, List.getElem?_eq_getElem (show r < (flV l[j]).length from hr)⟩
        obtain ⟨v, hx⟩ := hx
        rw [hx]
        have e := (fl_get l j r hlt hr).trans hx
        exact ⟨by rw [Nat.add_assoc]; exact hcell _ _ e, by rw [Nat.add_assoc]; exact hcell2 _ _ e⟩
      have heq := fun w => eqlFi_any l[j] w
      have HU := Lib.hid hU
      have HEQ := Lib.hid heq
      have HQ := Lib.hid hq
      clear hcell hcell2 hU heq hq
      generalize l[j] = x at *
      obtain ⟨xp, xe, xt⟩ := x
      have HS : Hid ((wr.cell? ⟨b, o + j * 3, none⟩ = some (.string (str xp)) ∧ wr.cell? ⟨b, o + j * 3 + 1, none⟩ = some (.bool xe) ∧ wr.cell? ⟨b, o + j * 3 + 2, none⟩ = some (.string (str xt))) ∧
          (wr.cell? ⟨b2, o2 + j * 3, none⟩ = some (.string (str xp)) ∧ wr.cell? ⟨b2, o2 + j * 3 + 1, none⟩ = some (.bool xe) ∧ wr.cell? ⟨b2, o2 + j * 3 + 2, none⟩ = some (.string (str xt)))) :=
        Lib.hid ⟨⟨(HQ.out 0 (by decide)).1, (HQ.out 1 (by decide)).1, (HQ.out 2 (by decide)).1⟩, ⟨(HQ.out 0 (by decide)).2, (HQ.out 1 (by decide)).2, (HQ.out 2 (by decide)).2⟩⟩
      unfold sv at HEQ
      go_upto_region 6 with (fail)
      refine wp_region_plan_last [([0, 1, 2, 3, 4, 5, 6, 7, 8], 9)] [10] (fun wr => (wr.cell? ⟨b, o + j * 3, none⟩ = some (.string (str xp)) ∧ wr.cell? ⟨b, o + j * 3 + 1, none⟩ = some (.bool xe) ∧ wr.cell? ⟨b, o + j * 3 + 2, none⟩ = some (.string (str xt))) ∧
          (wr.cell? ⟨b2, o2 + j * 3, none⟩ = some (.string (str xp)) ∧ wr.cell? ⟨b2, o2 + j * 3 + 1, none⟩ = some (.bool xe) ∧ wr.cell? ⟨b2, o2 + j * 3 + 2, none⟩ = some (.string (str xt)))) (by kernel_rfl) (by kernel_rfl) HS.out ?_
      iterate 9
        refine plan_take (v := ?_) rfl rfl (fun w' hS => ?_) ?_
        rotate_left
        · skip
          go_simp; try with_reducible rfl
        simp only [Act.put, List.getElem_toArray, List.getElem_cons_zero, List.getElem_cons_succ, List.setIfInBounds_toArray, List.set_cons_zero, List.set_cons_succ]
      refine plan_act rfl (fun KK hKK => ?_)
      go_wp2_with fail
      refine (HEQ.out _).mono ?_
      rintro e w2 ⟨rfl, hU2⟩
      have hU4 := (Upd.drew (fun _ => False) wr).trans hU2
      have HU2 := Lib.hid (HU.out.trans hU4)
      have cc : ∀ (q : Addr) (v : Value), wr.cell? q = some v → w2.cell? q = some v := fun q v h => (hU4.cell (World.block_lt_of_cell? wr q h) (fun h => h)).trans h
      have HS2 := Lib.hid (And.intro (And.intro (cc _ _ HS.out.1.1) (And.intro (cc _ _ HS.out.1.2.1) (cc _ _ HS.out.1.2.2))) (And.intro (cc _ _ HS.out.2.1) (And.intro (cc _ _ HS.out.2.2.1) (cc _ _ HS.out.2.2.2))))
      clear hU2 hU4 cc
      go_wp2_with fail
      refine hKK.out _ _ (.inr HS2.out) ?_
      iterate 1
        refine plan_last (v := ?_) rfl rfl (fun w' hS => ?_) ?_
        rotate_left
        · skip
          go_simp; try with_reducible rfl
        simp only [Act.put, List.getElem_toArray, List.getElem_cons_zero, List.getElem_cons_succ, List.setIfInBounds_toArray, List.set_cons_zero, List.set_cons_succ]
      refine plan_end ?_
      go_wp2_with fail
      go_roundw
      case rel => exact ⟨j + 1, by omega, by first | rfl | go_num, HU2.out⟩
      case measure => simp [intOf]; omega
    · obtain rfl : j = l.length := by omega
      go_wp2_with fail
      go_ret
      exact ⟨rfl, hU⟩
theorem plainFi_any (a a2 : Option Addr) (c c2 : Nat) (l : List Fl) (w : World) (hv : Vw w a l.length c 3 (l.flatMap flV)) (hv2 : Vw w a2 l.length c2 3 (l.flatMap flV)) :
    Calls Tryz.prog 106 #[.slice a l.length c, .slice a2 l.length c2] w fun e w' => e = .returned (.bool true) ∧ Upd (fun _ => False) w w' := by
  have h := sameFi_any a a2 c c2 l w hv hv2
  go_enter Tryz.func106, Tryz.ntmps106
  go_wp2_with fail
  refine h.mono ?_
  rintro e w1 ⟨rfl, hU⟩
  go_wp2_with fail
  go_ret
  exact ⟨rfl, hU⟩
end Go.Proofs.YtccejkikphpnfaaGreatDoor

namespace Go.Proofs.YtccejkikphpnfaaGreatDoor
set_option linter.unusedSimpArgs false
set_option linter.unusedVariables false
set_option maxRecDepth 100000
open Go.ChangeShapes Go.WideShapes Go.ChangeAt Go.RowKit

set_option maxHeartbeats 2000000 in
theorem sSettled_any (x y : St) (w : World) (hx : StIn w x) (hy : StIn w y) (he : stC x = stC y) :
    Calls Tryz.prog 59 #[.agg #[.int .i64 x.com, .slice x.a x.fs.length x.c], .agg #[.int .i64 y.com, .slice y.a y.fs.length y.c]] w fun e w' => e = .returned (.bool true) ∧ Upd (fun _ => False) w w' := by
  obtain ⟨xc, xf, xa, xk⟩ := x
  obtain ⟨yc, yf, ya, yk⟩ := y
  unfold stC at he
  simp only [Prod.mk.injEq] at he
  obtain ⟨rfl, rfl⟩ := he
  have hU1 := Upd.alloc (fun _ => False) w (.cells #[.int .i64 xc, .slice xa xf.length xk] 80)
  have hU2 := Upd.alloc (fun _ => False) (w.alloc (.cells #[.int .i64 xc, .slice xa xf.length xk] 80)) (.cells #[.int .i64 xc, .slice ya xf.length yk] 80)
  have hr1 := (hU2.block _ (lt_of_heap (heap_alloc_new w (.cells #[.int .i64 xc, .slice xa xf.length xk] 80))) (fun e => e)).trans (heap_alloc_new w (.cells #[.int .i64 xc, .slice xa xf.length xk] 80))
  have hr2 := heap_alloc_new (w.alloc (.cells #[.int .i64 xc, .slice xa xf.length xk] 80)) (.cells #[.int .i64 xc, .slice ya xf.length yk] 80)
  have hU := hU1.trans hU2
  have hsz : (w.alloc (.cells #[.int .i64 xc, .slice xa xf.length xk] 80)).heap.size = w.heap.size + 1 := by simp
  rw [hsz] at hr2
  have h1 := hx.v.upd hU (fun _ _ h => h)
  have k1 := hy.v.upd hU (fun _ _ h => h)
  have HP := Lib.hid (And.intro hU (And.intro hr1 (And.intro hr2 (And.intro h1 k1))))
  clear hU hr1 hr2 h1 k1 hU1 hU2 hsz hx hy
  go_enter Tryz.func59, Tryz.ntmps59
  go_upto_region 1 with (fail)
  obtain ⟨hU, hr1, hr2, h1, k1⟩ := HP.out
  clear HP
  generalize (w.alloc (.cells #[.int .i64 xc, .slice xa xf.length xk] 80)).alloc (.cells #[.int .i64 xc, .slice ya xf.length yk] 80) = y0 at *
  dsimp only at h1 k1
  have hpl := plainFi_any xa ya xk yk xf y0 h1 k1
  have HU := Lib.hid hU
  have q1 : y0.cell? ⟨w.heap.size, 0, none⟩ = some (.int .i64 xc) := by rw [cell_of_row _ _ _ _ _ _ hr1]; rfl
  have q2 : y0.cell? ⟨w.heap.size, 1, none⟩ = some (.slice xa xf.length xk) := by rw [cell_of_row _ _ _ _ _ _ hr1]; rfl
  have q3 : y0.cell? ⟨w.heap.size + 1, 0, none⟩ = some (.int .i64 xc) := by rw [cell_of_row _ _ _ _ _ _ hr2]; rfl
  have q4 : y0.cell? ⟨w.heap.size + 1, 1, none⟩ = some (.slice ya xf.length yk) := by rw [cell_of_row _ _ _ _ _ _ hr2]; rfl
  clear hU h1 k1 hr1 hr2
  go_wp2_with fail
  refine hpl.mono ?_
  rintro e w1 ⟨rfl, hV⟩
  have HZ := Lib.hid (HU.out.trans hV)
  clear q1 q2 q3 q4 hV hpl
  go_wp2_with fail
  go_ret
  exact ⟨by first | rfl | simp, HZ.out⟩
set_option maxHeartbeats 4000000 in
theorem sameSe_any (a a2 : Option Addr) (c c2 : Nat) (l k : List St) (w : World) (hv : Vw w a l.length c 2 (l.flatMap stV)) (hv2 : Vw w a2 k.length c2 2 (k.flatMap stV)) (he : l.map stC = k.map stC) (hl : ∀ m ∈ l, StIn w m) (hk : ∀ m ∈ k, StIn w m) :
    Calls Tryz.prog 58 #[.slice a l.length c, .slice a2 k.length c2, .func (.func 59) #[] #[]] w fun e w' => e = .returned (.bool true) ∧ Upd (fun _ => False) w w' := by
  have hlen : l.length = k.length := by have := congrArg List.length he; simpa using this
  have hcap := hv.cap
  have hlc := hv.le
  unfold maxLen at hcap
  have HV := Lib.hid (And.intro hv (And.intro hv2 (And.intro hl (And.intro hk (And.intro he hlen)))))
  clear hv hv2 hl hk he
  rw [← hlen]
  clear hlen
  have hb : ((l.length : Int) != (l.length : Int)) = false := by simp
  go_enter Tryz.func58, Tryz.ntmps58
  go_wp2_with fail
  clear hb
  go_loopw [7] (fun i wr => ∃ j : Nat, j ≤ l.length ∧ i = .int .i64 (j : Int) ∧ Upd (fun _ => False) w wr) (fun i _ => l.length - (intOf i).toNat)
  case atStart => exact ⟨0, Nat.zero_le _, rfl, Upd.refl _ _⟩
  case round =>
    obtain ⟨j, hj, rfl, hU⟩ := hrel
    by_cases hlt : j < l.length
    · have hlk : j < k.length := by have := HV.out.2.2.2.2.2; omega
      have hI : (j : Int) < (l.length : Int) := by omega
      have hI0 : (0 : Int) ≤ (j : Int) := by omega
      obtain ⟨b, o, hb, hcell⟩ := (HV.out.1.upd hU (fun _ _ h => h)).at (by omega) (by decide)
      obtain ⟨b2, o2, hb2, hcell2⟩ := (HV.out.2.1.upd hU (fun _ _ h => h)).at (by omega) (by decide)
      subst hb hb2
      have hq : ∀ r (hr : r < 2), wr.cell? ⟨b, o + j * 2 + r, none⟩ = (stV l[j])[r]? ∧ wr.cell? ⟨b2, o2 + j * 2 + r, none⟩ = (stV k[j])[r]? := fun r hr => by
        have hx : ∃ v, (stV l[j])[r]? = some v := ⟨_, List.getElem?_eq_getElem (show r < (stV l[j]).length from hr)⟩
        have hy : ∃ v, (stV k[j])[r]? = some v := ⟨_, List.getElem?_eq_getElem (show r < (stV k[j]).length from hr)⟩
        obtain ⟨v, hx⟩ := hx
        obtain ⟨u, hy⟩ := hy
        rw [hx, hy]
        have e := (st_get l j r hlt hr).trans hx
        have e2 := (st_get k j r hlk hr).trans hy
        exact ⟨by rw [Nat.add_assoc]; exact hcell _ _ e, by rw [Nat.add_assoc]; exact hcell2 _ _ e2⟩
      have hee : stC l[j] = stC k[j] := by
        have h3 := congrArg (fun z => z[j]?) HV.out.2.2.2.2.1
        simp only [List.getElem?_map, List.getElem?_eq_getElem hlt, List.getElem?_eq_getElem hlk, Option.map_some, Option.some.injEq] at h3
        exact h3
      have heq : ∀ w', Upd (fun _ => False) wr w' → Calls Tryz.prog 59 #[.agg #[.int .i64 l[j].com, .slice l[j].a l[j].fs.length l[j].c], .agg #[.int .i64 k[j].com, .slice k[j].a k[j].fs.length k[j].c]] w' fun e w'' => e = .returned (.bool true) ∧ Upd (fun _ => False) w' w'' :=
        fun w' hu => sSettled_any l[j] k[j] w' (((HV.out.2.2.1 _ (List.getElem_mem hlt)).upd hU).upd hu) (((HV.out.2.2.2.1 _ (List.getElem_mem hlk)).upd hU).upd hu) hee
      have HU := Lib.hid hU
      have HEQ := Lib.hid heq
      have HQ := Lib.hid hq
      clear hcell hcell2 hU heq hq hee
      generalize l[j] = x at *
      generalize k[j] = y at *
      obtain ⟨xc, xf, xa, xk⟩ := x
      obtain ⟨yc, yf, ya, yk⟩ := y
      have HS : Hid ((wr.cell? ⟨b, o + j * 2, none⟩ = some (.int .i64 xc) ∧ wr.cell? ⟨b, o + j * 2 + 1, none⟩ = some (.slice xa xf.length xk)) ∧
          (wr.cell? ⟨b2, o2 + j * 2, none⟩ = some (.int .i64 yc) ∧ wr.cell? ⟨b2, o2 + j * 2 + 1, none⟩ = some (.slice ya yf.length yk))) :=
        Lib.hid ⟨⟨(HQ.out 0 (by decide)).1, (HQ.out 1 (by decide)).1⟩, ⟨(HQ.out 0 (by decide)).2, (HQ.out 1 (by decide)).2⟩⟩
      dsimp only at HEQ
      clear HQ hlk
      go_upto_region 6 with (fail)
      refine wp_region_plan_last [([0, 1, 2, 3, 4, 5, 6, 7, 8], 9)] [10] (fun wr => (wr.cell? ⟨b, o + j * 2, none⟩ = some (.int .i64 xc) ∧ wr.cell? ⟨b, o + j * 2 + 1, none⟩ = some (.slice xa xf.length xk)) ∧
          (wr.cell? ⟨b2, o2 + j * 2, none⟩ = some (.int .i64 yc) ∧ wr.cell? ⟨b2, o2 + j * 2 + 1, none⟩ = some (.slice ya yf.length yk))) (by kernel_rfl) (by kernel_rfl) HS.out ?_
      iterate 9
        refine plan_take (v := ?_) rfl rfl (fun w' hS => ?_) ?_
        rotate_left
        · skip
          go_simp; try with_reducible rfl
        simp only [Act.put, List.getElem_toArray, List.getElem_cons_zero, List.getElem_cons_succ, List.setIfInBounds_toArray, List.set_cons_zero, List.set_cons_succ]
      refine plan_act rfl (fun KK hKK => ?_)
      go_wp2_with fail
      refine (HEQ.out _ (Upd.drew _ _)).mono ?_
      rintro e w2 ⟨rfl, hU2⟩
      have hU4 := (Upd.drew (fun _ => False) wr).trans hU2
      have HU2 := Lib.hid (HU.out.trans hU4)
      have cc : ∀ (q : Addr) (v : Value), wr.cell? q = some v → w2.cell? q = some v := fun q v h => (hU4.cell (World.block_lt_of_cell? wr q h) (fun h => h)).trans h
      have HS2 := Lib.hid (And.intro (And.intro (cc _ _ HS.out.1.1) (cc _ _ HS.out.1.2)) (And.intro (cc _ _ HS.out.2.1) (cc _ _ HS.out.2.2)))
      clear hU2 hU4 cc
      go_wp2_with fail
      refine hKK.out _ _ (.inr HS2.out) ?_
      iterate 1
        refine plan_last (v := ?_) rfl rfl (fun w' hS => ?_) ?_
        rotate_left
        · skip
          go_simp; try with_reducible rfl
        simp only [Act.put, List.getElem_toArray, List.getElem_cons_zero, List.getElem_cons_succ, List.setIfInBounds_toArray, List.set_cons_zero, List.set_cons_succ]
      refine plan_end ?_
      go_wp2_with fail
      go_roundw
      case rel => exact ⟨j + 1, by omega, by first | rfl | go_num, HU2.out⟩
      case measure => simp [intOf]; omega
    · obtain rfl : j = l.length := by omega
      go_wp2_with fail
      go_ret
      exact ⟨rfl, hU⟩
end Go.Proofs.YtccejkikphpnfaaGreatDoor

namespace Go.Proofs.YtccejkikphpnfaaGreatDoor
set_option linter.unusedSimpArgs false
set_option linter.unusedVariables false
set_option maxRecDepth 100000
open Go.ChangeShapes Go.WideShapes Go.ChangeAt Go.RowKit

set_option maxHeartbeats 8000000 in
theorem sPending_any (p q : Wt) (w : World) (hp : WtIn w p) (hq : WtIn w q) (hon : p.on = q.on) (he : wtC p = wtC q) :
    Calls Tryz.prog 22 #[.agg (wtA p), .agg (wtA q)] w fun e w' => e = .returned (.bool true) ∧ Upd (fun _ => False) w w' := by
  obtain ⟨on, re, src, dst, sa, sc, ss, com, ca, cc, cs⟩ := p
  obtain ⟨on2, re2, src2, dst2, sa2, sc2, ss2, com2, ca2, cc2, cs2⟩ := q
  unfold wtC at he
  simp only [WC.mk.injEq] at he hon
  obtain ⟨rfl, rfl, rfl, hss, rfl, rfl⟩ := he
  subst hon
  unfold wtA
  dsimp only
  have hU1 := Upd.alloc (fun _ => False) w (.cells #[.bool on, .bool re, .int .i64 src, .int .i64 dst, .slice sa ss.length sc, .int .i64 com, .slice ca cs.length cc] 30)
  have hU2 := Upd.alloc (fun _ => False) (w.alloc (.cells #[.bool on, .bool re, .int .i64 src, .int .i64 dst, .slice sa ss.length sc, .int .i64 com, .slice ca cs.length cc] 30)) (.cells #[.bool on, .bool re, .int .i64 src, .int .i64 dst, .slice sa2 ss2.length sc2, .int .i64 com, .slice ca2 cs.length cc2] 30)
  have hr1 := (hU2.block _ (lt_of_heap (heap_alloc_new w (.cells #[.bool on, .bool re, .int .i64 src, .int .i64 dst, .slice sa ss.length sc, .int .i64 com, .slice ca cs.length cc] 30))) (fun e => e)).trans (heap_alloc_new w (.cells #[.bool on, .bool re, .int .i64 src, .int .i64 dst, .slice sa ss.length sc, .int .i64 com, .slice ca cs.length cc] 30))
  have hr2 := heap_alloc_new (w.alloc (.cells #[.bool on, .bool re, .int .i64 src, .int .i64 dst, .slice sa ss.length sc, .int .i64 com, .slice ca cs.length cc] 30)) (.cells #[.bool on, .bool re, .int .i64 src, .int .i64 dst, .slice sa2 ss2.length sc2, .int .i64 com, .slice ca2 cs.length cc2] 30)
  have hU := hU1.trans hU2
  have hsz : (w.alloc (.cells #[.bool on, .bool re, .int .i64 src, .int .i64 dst, .slice sa ss.length sc, .int .i64 com, .slice ca cs.length cc] 30)).heap.size = w.heap.size + 1 := by simp
  rw [hsz] at hr2
  have h1 := hp.upd hU
  have k1 := hq.upd hU
  have HP := Lib.hid (And.intro hU (And.intro hr1 (And.intro hr2 (And.intro h1 (And.intro k1 hss)))))
  clear hU hr1 hr2 h1 k1 hU1 hU2 hsz hp hq hss
  go_enter Tryz.func22, Tryz.ntmps22
  go_upto_region 1 with (fail)
  obtain ⟨hU, hr1, hr2, h1, k1, hss⟩ := HP.out
  clear HP
  generalize (w.alloc (.cells #[.bool on, .bool re, .int .i64 src, .int .i64 dst, .slice sa ss.length sc, .int .i64 com, .slice ca cs.length cc] 30)).alloc (.cells #[.bool on, .bool re, .int .i64 src, .int .i64 dst, .slice sa2 ss2.length sc2, .int .i64 com, .slice ca2 cs.length cc2] 30) = y0 at *
  have hpl := sameSe_any sa sa2 sc sc2 ss ss2 y0 h1.sv k1.sv hss h1.se k1.se
  have HPC : Hid (∀ w', Upd (fun _ => False) y0 w' → Calls Tryz.prog 60 #[.slice ca cs.length cc, .slice ca2 cs.length cc2] w' fun e w'' => e = .returned (.bool true) ∧ Upd (fun _ => False) w' w'') := Lib.hid (fun w' hu => plainCl_any ca ca2 cc cc2 cs w' (h1.cv.upd hu (fun _ _ h => h)) (k1.cv.upd hu (fun _ _ h => h)))
  have HU := Lib.hid hU
  have HR := Lib.hid (And.intro hr1 hr2)
  have x0 : y0.cell? ⟨w.heap.size, 0, none⟩ = some (.bool on) := by rw [cell_of_row _ _ _ _ _ _ hr1]; rfl
  have x1 : y0.cell? ⟨w.heap.size, 1, none⟩ = some (.bool re) := by rw [cell_of_row _ _ _ _ _ _ hr1]; rfl
  have x2 : y0.cell? ⟨w.heap.size, 2, none⟩ = some (.int .i64 src) := by rw [cell_of_row _ _ _ _ _ _ hr1]; rfl
  have x3 : y0.cell? ⟨w.heap.size, 3, none⟩ = some (.int .i64 dst) := by rw [cell_of_row _ _ _ _ _ _ hr1]; rfl
  have x4 : y0.cell? ⟨w.heap.size, 4, none⟩ = some (.slice sa ss.length sc) := by rw [cell_of_row _ _ _ _ _ _ hr1]; rfl
  have x5 : y0.cell? ⟨w.heap.size, 5, none⟩ = some (.int .i64 com) := by rw [cell_of_row _ _ _ _ _ _ hr1]; rfl
  have x6 : y0.cell? ⟨w.heap.size, 6, none⟩ = some (.slice ca cs.length cc) := by rw [cell_of_row _ _ _ _ _ _ hr1]; rfl
  have z0 : y0.cell? ⟨w.heap.size + 1, 0, none⟩ = some (.bool on) := by rw [cell_of_row _ _ _ _ _ _ hr2]; rfl
  have z1 : y0.cell? ⟨w.heap.size + 1, 1, none⟩ = some (.bool re) := by rw [cell_of_row _ _ _ _ _ _ hr2]; rfl
  have z2 : y0.cell? ⟨w.heap.size + 1, 2, none⟩ = some (.int .i64 src) := by rw [cell_of_row _ _ _ _ _ _ hr2]; rfl
  have z3 : y0.cell? ⟨w.heap.size + 1, 3, none⟩ = some (.int .i64 dst) := by rw [cell_of_row _ _ _ _ _ _ hr2]; rfl
  have z4 : y0.cell? ⟨w.heap.size + 1, 4, none⟩ = some (.slice sa2 ss2.length sc2) := by rw [cell_of_row _ _ _ _ _ _ hr2]; rfl
  have z5 : y0.cell? ⟨w.heap.size + 1, 5, none⟩ = some (.int .i64 com) := by rw [cell_of_row _ _ _ _ _ _ hr2]; rfl
  have z6 : y0.cell? ⟨w.heap.size + 1, 6, none⟩ = some (.slice ca2 cs.length cc2) := by rw [cell_of_row _ _ _ _ _ _ hr2]; rfl
  clear hU h1 k1 hr1 hr2 hss
  generalize w.heap.size + 1 = Y2 at *
  generalize w.heap.size = Y1 at *
  go_wp2_with fail
  refine hpl.mono ?_
  rintro e w1 ⟨rfl, hV⟩
  have hs1 := (hV.block _ (lt_of_heap HR.out.1) (fun h => h)).trans HR.out.1
  have hs2 := (hV.block _ (lt_of_heap HR.out.2) (fun h => h)).trans HR.out.2
  have HV := Lib.hid hV
  have hpc := HPC.out w1 hV
  have HS := Lib.hid (And.intro hs1 hs2)
  clear x0 x1 x2 x3 x4 x5 x6 z0 z1 z2 z3 z4 z5 z6 hV hpl
  have x0 : w1.cell? ⟨Y1, 0, none⟩ = some (.bool on) := by rw [cell_of_row _ _ _ _ _ _ hs1]; rfl
  have x1 : w1.cell? ⟨Y1, 1, none⟩ = some (.bool re) := by rw [cell_of_row _ _ _ _ _ _ hs1]; rfl
  have x2 : w1.cell? ⟨Y1, 2, none⟩ = some (.int .i64 src) := by rw [cell_of_row _ _ _ _ _ _ hs1]; rfl
  have x3 : w1.cell? ⟨Y1, 3, none⟩ = some (.int .i64 dst) := by rw [cell_of_row _ _ _ _ _ _ hs1]; rfl
  have x4 : w1.cell? ⟨Y1, 4, none⟩ = some (.slice sa ss.length sc) := by rw [cell_of_row _ _ _ _ _ _ hs1]; rfl
  have x5 : w1.cell? ⟨Y1, 5, none⟩ = some (.int .i64 com) := by rw [cell_of_row _ _ _ _ _ _ hs1]; rfl
  have x6 : w1.cell? ⟨Y1, 6, none⟩ = some (.slice ca cs.length cc) := by rw [cell_of_row _ _ _ _ _ _ hs1]; rfl
  have z0 : w1.cell? ⟨Y2, 0, none⟩ = some (.bool on) := by rw [cell_of_row _ _ _ _ _ _ hs2]; rfl
  have z1 : w1.cell? ⟨Y2, 1, none⟩ = some (.bool re) := by rw [cell_of_row _ _ _ _ _ _ hs2]; rfl
  have z2 : w1.cell? ⟨Y2, 2, none⟩ = some (.int .i64 src) := by rw [cell_of_row _ _ _ _ _ _ hs2]; rfl
  have z3 : w1.cell? ⟨Y2, 3, none⟩ = some (.int .i64 dst) := by rw [cell_of_row _ _ _ _ _ _ hs2]; rfl
  have z4 : w1.cell? ⟨Y2, 4, none⟩ = some (.slice sa2 ss2.length sc2) := by rw [cell_of_row _ _ _ _ _ _ hs2]; rfl
  have z5 : w1.cell? ⟨Y2, 5, none⟩ = some (.int .i64 com) := by rw [cell_of_row _ _ _ _ _ _ hs2]; rfl
  have z6 : w1.cell? ⟨Y2, 6, none⟩ = some (.slice ca2 cs.length cc2) := by rw [cell_of_row _ _ _ _ _ _ hs2]; rfl
  clear hs1 hs2
  go_wp2_with fail
  refine hpc.mono ?_
  rintro e w2 ⟨rfl, hV2⟩
  have HZ := Lib.hid (HU.out.trans (HV.out.trans hV2))
  clear x0 x1 x2 x3 x4 x5 x6 z0 z1 z2 z3 z4 z5 z6 hV2 hpc
  go_wp2_with fail
  go_ret
  exact ⟨by first | rfl | simp, HZ.out⟩
end Go.Proofs.YtccejkikphpnfaaGreatDoor

namespace Go.Proofs.YtccejkikphpnfaaGreatDoor
set_option linter.unusedSimpArgs false
set_option linter.unusedVariables false
set_option maxRecDepth 100000
open Go.ChangeShapes Go.WideShapes Go.ChangeAt Go.RowKit

theorem alloc_size (w : World) (o : Obj) : (w.alloc o).heap.size = w.heap.size + 1 := by simp
theorem own_base {w : World} {base : Nat} {e : TypeId} {size n c : Nat} {a : Option Addr} {xs : List Value} (h : w.ownsRow 0 e size (.slice a n c) n xs) (hb : ∀ k, blk a = some k → base ≤ k) : w.ownsRow base e size (.slice a n c) n xs := by
  refine ⟨h.1, ?_⟩
  rcases h.2 with h' | ⟨g, cap, cur, h', _, hr⟩
  · exact .inl h'
  · refine .inr ⟨g, cap, cur, h', ?_, hr⟩
    simp only [Value.slice.injEq] at h'
    obtain ⟨rfl, _⟩ := h'
    exact hb g rfl

@[go_sem] theorem eql_nil_settledsT (w : World) (a : Option Addr) (n c : Nat) : (binOp .eql 27 (.slice a n c) (.slice none 0 0)).run Tryz.prog w = .ok (.bool a.isNone) w :=
  Go.run_eql_slice_nil w 27 80 a n c Tryz.underlying27
theorem one_Se (l : List St) : ∀ u ∈ l.flatMap stV, u.oneCell' = true := fun u hu => by
  rw [List.mem_flatMap] at hu
  obtain ⟨x, _, hx⟩ := hu
  unfold stV at hx
  skip
  simp only [List.mem_cons, List.not_mem_nil, or_false] at hx
  rcases hx with rfl | rfl <;> rfl
def ClonedSe (w : World) (l : List St) (e : Ending) (w' : World) : Prop :=
  ∃ a' c', e = .returned (.slice a' l.length c') ∧ w'.ownsRow w.heap.size 80 2 (.slice a' l.length c') l.length (l.flatMap stV) ∧ Upd (fun _ => False) w w'
theorem cloneSe_any (a : Option Addr) (c : Nat) (l : List St) (w : World) (hv : Vw w a l.length c 2 (l.flatMap stV)) (hl : l.length ≤ 1000000000) :
    Calls Tryz.prog 61 #[.slice a l.length c] w (ClonedSe w l) := by
  obtain ⟨i0, hi, hz0, hz1, hz2⟩ := info_parts4 infoSettledZ
  cases a with
  | none =>
    have hc := hv.nil rfl
    have hn : l.length = 0 := by have := hv.le; omega
    have hl0 : l = [] := List.eq_nil_of_length_eq_zero hn
    subst hl0 hc
    go_enter Tryz.func61, Tryz.ntmps61
    go_wp2_with fail
    go_ret
    exact ⟨none, 0, rfl, World.ownsRow_nil _ _ _ _, Upd.refl _ _⟩
  | some x =>
    go_enter Tryz.func61, Tryz.ntmps61
    go_wp2_with (at_builtin; refine wpList_app _ rfl (.tmp 5) (.tmp 6) 27 27 rfl 80 i0 (.agg #[.int .i64 0, .slice none 0 0]) 2 32 Tryz.underlying27 hi hz0 hz1 hz2 rfl (some ⟨w.heap.size, 0, none⟩) 0 0 [] rfl (World.ownsRow_made w #[] 0 (Nat.zero_le _) (Nat.zero_le _) (by simp)) (.slice (some x) l.length c) l.length (l.flatMap stV) rfl ?_ ?_ ?_ ?_)
    · exact (hv.upd (Upd.alloc (fun _ => False) w _) (fun _ _ h => h)).src (P := Tryz.prog) (t := 27) Tryz.underlying27 (one_Se l)
    · unfold maxLen; omega
    · omega
    intro a2 c2 w2 hown hg hat hnil
    go_wp2_with fail
    go_ret
    simp only [Nat.zero_add, List.nil_append] at *
    refine ⟨a2, c2, rfl, own_base hown (fun k hk => ?_), (Upd.alloc (fun _ => False) w (.cells #[] 80)).next (Upd.grown (S := fun k => k = w.heap.size) hg (fun k hk => by simpa [blk] using hk.symm)) (fun i hi h => by omega)⟩
    rcases hat with e | e
    · rw [e] at hk
      exact Nat.le_of_eq (Option.some.inj (show some w.heap.size = some k from hk))
    · rw [e] at hk
      simp only [Option.some.injEq, alloc_size] at hk
      omega

@[go_sem] theorem eql_nil_clashesT (w : World) (a : Option Addr) (n c : Nat) : (binOp .eql 28 (.slice a n c) (.slice none 0 0)).run Tryz.prog w = .ok (.bool a.isNone) w :=
  Go.run_eql_slice_nil w 28 100 a n c Tryz.underlying28
theorem one_Cl (l : List Cl) : ∀ u ∈ l.flatMap clV, u.oneCell' = true := fun u hu => by
  rw [List.mem_flatMap] at hu
  obtain ⟨x, _, hx⟩ := hu
  unfold clV at hx
  unfold sv at hx
  simp only [List.mem_cons, List.not_mem_nil, or_false] at hx
  rcases hx with rfl | rfl | rfl <;> rfl
def ClonedCl (w : World) (l : List Cl) (e : Ending) (w' : World) : Prop :=
  ∃ a' c', e = .returned (.slice a' l.length c') ∧ w'.ownsRow w.heap.size 100 3 (.slice a' l.length c') l.length (l.flatMap clV) ∧ Upd (fun _ => False) w w'
theorem cloneCl_any (a : Option Addr) (c : Nat) (l : List Cl) (w : World) (hv : Vw w a l.length c 3 (l.flatMap clV)) (hl : l.length ≤ 1000000000) :
    Calls Tryz.prog 62 #[.slice a l.length c] w (ClonedCl w l) := by
  obtain ⟨i0, hi, hz0, hz1, hz2⟩ := info_parts4 infoClashZ
  cases a with
  | none =>
    have hc := hv.nil rfl
    have hn : l.length = 0 := by have := hv.le; omega
    have hl0 : l = [] := List.eq_nil_of_length_eq_zero hn
    subst hl0 hc
    go_enter Tryz.func62, Tryz.ntmps62
    go_wp2_with fail
    go_ret
    exact ⟨none, 0, rfl, World.ownsRow_nil _ _ _ _, Upd.refl _ _⟩
  | some x =>
    go_enter Tryz.func62, Tryz.ntmps62
    go_wp2_with (at_builtin; refine wpList_app _ rfl (.tmp 5) (.tmp 6) 28 28 rfl 100 i0 (.agg #[.string ⟨#[]⟩, .int .i64 0, .string ⟨#[]⟩]) 3 40 Tryz.underlying28 hi hz0 hz1 hz2 rfl (some ⟨w.heap.size, 0, none⟩) 0 0 [] rfl (World.ownsRow_made w #[] 0 (Nat.zero_le _) (Nat.zero_le _) (by simp)) (.slice (some x) l.length c) l.length (l.flatMap clV) rfl ?_ ?_ ?_ ?_)
    · exact (hv.upd (Upd.alloc (fun _ => False) w _) (fun _ _ h => h)).src (P := Tryz.prog) (t := 28) Tryz.underlying28 (one_Cl l)
    · unfold maxLen; omega
    · omega
    intro a2 c2 w2 hown hg hat hnil
    go_wp2_with fail
    go_ret
    simp only [Nat.zero_add, List.nil_append] at *
    refine ⟨a2, c2, rfl, own_base hown (fun k hk => ?_), (Upd.alloc (fun _ => False) w (.cells #[] 100)).next (Upd.grown (S := fun k => k = w.heap.size) hg (fun k hk => by simpa [blk] using hk.symm)) (fun i hi h => by omega)⟩
    rcases hat with e | e
    · rw [e] at hk
      exact Nat.le_of_eq (Option.some.inj (show some w.heap.size = some k from hk))
    · rw [e] at hk
      simp only [Option.some.injEq, alloc_size] at hk
      omega

@[go_sem] theorem eql_nil_filesT (w : World) (a : Option Addr) (n c : Nat) : (binOp .eql 78 (.slice a n c) (.slice none 0 0)).run Tryz.prog w = .ok (.bool a.isNone) w :=
  Go.run_eql_slice_nil w 78 103 a n c Tryz.underlying78
theorem one_Fi (l : List Fl) : ∀ u ∈ l.flatMap flV, u.oneCell' = true := fun u hu => by
  rw [List.mem_flatMap] at hu
  obtain ⟨x, _, hx⟩ := hu
  unfold flV at hx
  unfold sv at hx
  simp only [List.mem_cons, List.not_mem_nil, or_false] at hx
  rcases hx with rfl | rfl | rfl <;> rfl
def ClonedFi (w : World) (l : List Fl) (e : Ending) (w' : World) : Prop :=
  ∃ a' c', e = .returned (.slice a' l.length c') ∧ w'.ownsRow w.heap.size 103 3 (.slice a' l.length c') l.length (l.flatMap flV) ∧ Upd (fun _ => False) w w'
theorem cloneFi_any (a : Option Addr) (c : Nat) (l : List Fl) (w : World) (hv : Vw w a l.length c 3 (l.flatMap flV)) (hl : l.length ≤ 1000000000) :
    Calls Tryz.prog 63 #[.slice a l.length c] w (ClonedFi w l) := by
  obtain ⟨i0, hi, hz0, hz1, hz2⟩ := info_parts4 infoFileZ
  cases a with
  | none =>
    have hc := hv.nil rfl
    have hn : l.length = 0 := by have := hv.le; omega
    have hl0 : l = [] := List.eq_nil_of_length_eq_zero hn
    subst hl0 hc
    go_enter Tryz.func63, Tryz.ntmps63
    go_wp2_with fail
    go_ret
    exact ⟨none, 0, rfl, World.ownsRow_nil _ _ _ _, Upd.refl _ _⟩
  | some x =>
    go_enter Tryz.func63, Tryz.ntmps63
    go_wp2_with (at_builtin; refine wpList_app _ rfl (.tmp 5) (.tmp 6) 78 78 rfl 103 i0 (.agg #[.string ⟨#[]⟩, .bool false, .string ⟨#[]⟩]) 3 40 Tryz.underlying78 hi hz0 hz1 hz2 rfl (some ⟨w.heap.size, 0, none⟩) 0 0 [] rfl (World.ownsRow_made w #[] 0 (Nat.zero_le _) (Nat.zero_le _) (by simp)) (.slice (some x) l.length c) l.length (l.flatMap flV) rfl ?_ ?_ ?_ ?_)
    · exact (hv.upd (Upd.alloc (fun _ => False) w _) (fun _ _ h => h)).src (P := Tryz.prog) (t := 78) Tryz.underlying78 (one_Fi l)
    · unfold maxLen; omega
    · omega
    intro a2 c2 w2 hown hg hat hnil
    go_wp2_with fail
    go_ret
    simp only [Nat.zero_add, List.nil_append] at *
    refine ⟨a2, c2, rfl, own_base hown (fun k hk => ?_), (Upd.alloc (fun _ => False) w (.cells #[] 103)).next (Upd.grown (S := fun k => k = w.heap.size) hg (fun k hk => by simpa [blk] using hk.symm)) (fun i hi h => by omega)⟩
    rcases hat with e | e
    · rw [e] at hk
      exact Nat.le_of_eq (Option.some.inj (show some w.heap.size = some k from hk))
    · rw [e] at hk
      simp only [Option.some.injEq, alloc_size] at hk
      omega
end Go.Proofs.YtccejkikphpnfaaGreatDoor
