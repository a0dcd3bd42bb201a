
/- few of layer 25. -/
import Derived.Test.YteefceainlfdfaaDoorRc3
namespace Go.Proofs.YteefceainlfdfaaDoor
set_option linter.unusedSimpArgs false
set_option linter.unusedVariables false
set_option maxRecDepth 100000
open Go.ChangeShapes Go.WideShapes Go.ChangeAt Go.RowKit

def chLen (x : Chg) : Nat := x.text.length + x.path.length
def fewN (c : Cmd) : Nat := c.msg.length + c.name.length + (c.ch.map chLen).sum + (c.ps.map List.length).sum
def fewL (c : Cmd) : Bool := decide (c.ch.length ≤ 120) && decide (c.ps.length ≤ 120) && decide (fewN c ≤ 30000)
theorem sum_drop {X : Type} (f : X → Nat) (l : List X) (j : Nat) (h : j < l.length) : ((l.drop j).map f).sum = f l[j] + ((l.drop (j + 1)).map f).sum := by
  rw [List.drop_eq_getElem_cons h, List.map_cons, List.sum_cons]

set_option maxHeartbeats 8000000 in
theorem few25_mid (c : Cmd) (a1 : Option Addr) (c1 : Nat) (a2 : Option Addr) (c2 : Nat) (w : World) (h : CmdIn w c a1 c1 a2 c2) (hN : fewN c ≤ 72057594037927936) :
    Calls Tryd.prog 24 #[cmdV c a1 c1 a2 c2] w fun e w' => e = .returned (.bool (fewL c)) ∧ Upd (fun _ => False) w w' := by
  have hU1 := Upd.alloc (fun _ => False) w (.cells (cmdV c a1 c1 a2 c2).cells 25)
  have hrow := heap_alloc_new w (.cells (cmdV c a1 c1 a2 c2).cells 25)
  have h1 := h.upd hU1
  have hcap := h.ch.cap
  have hlc := h.ch.le
  have hcap2 := h.ps.cap
  have hlc2 := h.ps.le
  unfold maxLen at hcap hcap2
  have hsm := str_size c.msg
  have hsn := str_size c.name
  obtain ⟨M, hM⟩ : ∃ M, fewN c = M := ⟨_, rfl⟩
  have hM2 : c.msg.length + c.name.length + (c.ch.map chLen).sum + (c.ps.map List.length).sum = M := hM
  have HD : Hid (fewL c = (decide (c.ch.length ≤ 120) && decide (c.ps.length ≤ 120) && decide (M ≤ 30000))) := Lib.hid (by unfold fewL; rw [hM])
  rw [hM] at hN
  have HM := Lib.hid hM2
  have hmn : c.msg.length + c.name.length ≤ 72057594037927936 := by omega
  unfold cmdV at hU1 hrow h1 ⊢
  unfold sv at hU1 hrow h1 ⊢
  dsimp only [Value.cells] at hU1 hrow h1
  have HP := Lib.hid (And.intro hU1 (And.intro hrow h1))
  clear hU1 hrow h1 h hM hM2
  go_enter Tryd.func24, Tryd.ntmps24
  go_upto_region 1 with (fail)
  obtain ⟨hU1, hrow, h1⟩ := HP.out
  generalize w.alloc (.cells #[.int .i64 c.kind, .string (str c.msg), .slice a1 c.ch.length c1, .slice a2 c.ps.length c2, .int .i64 c.count, .int .i64 c.commit, .int .i64 c.dest, .string (str c.name)] 25) = y0 at *
  obtain ⟨B, hB⟩ : ∃ B, B = w.heap.size := ⟨_, rfl⟩
  rw [← hB] at hrow ⊢
  obtain ⟨z0, z1, z2, z3, z4, z5, z6, z7⟩ := cmd_cells hrow (Upd.refl _ y0)
  have HU := Lib.hid hU1
  have HI := Lib.hid h1
  have HR0 := Lib.hid hrow
  clear hU1 hrow h1 HP hB z0 z4 z5 z6
  go_wp2_with fail
  clear z1 z2 z3 z7
  go_loopw [3, 4] (fun v i wr => ∃ j n : Nat, j ≤ c.ch.length ∧ i = .int .i64 (j : Int) ∧ v = .int .i64 (n : Int) ∧ Hid (n + ((c.ch.drop j).map chLen).sum + (c.ps.map List.length).sum = M) ∧ Hid (Upd (fun _ => False) y0 wr)) (fun _ i _ => c.ch.length - (intOf i).toNat)
  case atStart => exact ⟨0, c.msg.length + c.name.length, Nat.zero_le _, rfl, by first | rfl | go_num, HM, Lib.hid (Upd.refl _ _)⟩
  case round =>
    obtain ⟨j, n, hj, rfl, rfl, hS, HUr⟩ := hrel
    obtain ⟨z0, z1, z2, z3, z4, z5, z6, z7⟩ := cmd_cells HR0.out HUr.out
    have hn : n ≤ 72057594037927936 := by have := hS.out; omega
    by_cases hlt : j < c.ch.length
    · have hI : (j : Int) < (c.ch.length : Int) := by omega
      obtain ⟨b, o, hb, hcell⟩ := (HI.out.ch.upd HUr.out (fun _ _ h => h)).at (by omega) (by decide)
      rw [hb] at z2 ⊢
      have q0 : wr.cell? ⟨b, o + j * 4, none⟩ = some (sv c.ch[j].path) := hcell (j * 4 + 0) _ (chV_get c.ch j 0 hlt (by decide))
      have q3 : wr.cell? ⟨b, o + j * 4 + 3, none⟩ = some (sv c.ch[j].text) := hcell (j * 4 + 3) _ (chV_get c.ch j 3 hlt (by decide))
      have hsd := sum_drop chLen c.ch j hlt
      have hcl : chLen c.ch[j] = c.ch[j].text.length + c.ch[j].path.length := rfl
      have hs0 := str_size c.ch[j].path
      have hs3 := str_size c.ch[j].text
      have hS' := hS.out
      rw [hsd, hcl] at hS'
      unfold sv at q0 q3
      generalize c.ch[j].path = p at *
      generalize c.ch[j].text = t at *
      have ht : n + t.length + p.length ≤ 72057594037927936 := by omega
      have hw1 : IntKind.i64.wrap ((n : Int) + (t.length : Int)) = (n : Int) + (t.length : Int) := IntWalk.i64_in _ (by omega)
      have hw2 : IntKind.i64.wrap ((n : Int) + (t.length : Int) + (p.length : Int)) = (n : Int) + (t.length : Int) + (p.length : Int) := IntWalk.i64_in _ (by omega)
      have HS2 : Hid ((n + t.length + p.length) + ((c.ch.drop (j + 1)).map chLen).sum + (c.ps.map List.length).sum = M) := Lib.hid (by omega)
      have HQ := Lib.hid (And.intro z2 (And.intro q0 q3))
      clear hcell z0 z1 z3 z4 z5 z6 z7 hsd hcl hS' hS q0 q3
      go_upto_region 5 with (fail)
      clear z2
      refine wp_region_plan_last [] [0, 1, 2, 3, 4, 5, 6, 7, 8, 9, 10, 11, 12, 13, 14, 15, 16, 17] (fun w' => w'.cell? ⟨B, 2, none⟩ = some (.slice (some ⟨b, o, none⟩) c.ch.length c1) ∧ w'.cell? ⟨b, o + j * 4, none⟩ = some (.string (str p)) ∧ w'.cell? ⟨b, o + j * 4 + 3, none⟩ = some (.string (str t))) (by kernel_rfl) (by kernel_rfl) HQ.out ?_
      iterate 18
        refine plan_last (v := ?_) rfl rfl (fun w' hS => ?_) ?_
        rotate_left
        · skip
          go_simp; try with_reducible rfl
        simp only [Act.put, List.getElem_toArray, List.getElem_cons_zero, List.getElem_cons_succ, List.setIfInBounds_toArray, List.set_cons_zero, List.set_cons_succ]
      refine plan_end ?_
      go_wp2_with fail
      go_roundw
      case rel => exact ⟨j + 1, n + t.length + p.length, by omega, by first | rfl | go_num, by first | rfl | go_num, HS2, Lib.hid (HUr.out.trans (Upd.drew _ _))⟩
      case measure => simp [intOf]; omega
    · obtain rfl : j = c.ch.length := by omega
      have hS0 : Hid (n + (c.ps.map List.length).sum = M) := Lib.hid (by have := hS.out; rw [List.drop_length] at this; simpa using this)
      clear hS z0 z1 z4 z5 z6 z7
      go_wp2_with fail
      clear z2 z3
      go_loopw [3, 5] (fun v i wx => ∃ j n : Nat, j ≤ c.ps.length ∧ i = .int .i64 (j : Int) ∧ v = .int .i64 (n : Int) ∧ Hid (n + ((c.ps.drop j).map List.length).sum = M) ∧ Hid (Upd (fun _ => False) y0 wx)) (fun _ i _ => c.ps.length - (intOf i).toNat)
      case atStart => exact ⟨0, n, Nat.zero_le _, rfl, rfl, hS0, HUr⟩
      case round =>
        clear HUr hS0 hn
        obtain ⟨j, n, hj, rfl, rfl, hS, HUr⟩ := hrel
        obtain ⟨z0, z1, z2, z3, z4, z5, z6, z7⟩ := cmd_cells HR0.out HUr.out
        have hn : n ≤ 72057594037927936 := by have := hS.out; omega
        by_cases hlt : j < c.ps.length
        · have hI : (j : Int) < (c.ps.length : Int) := by omega
          obtain ⟨b, o, hb, hcell⟩ := (HI.out.ps.upd HUr.out (fun _ _ h => h)).at (by omega) (by decide)
          rw [hb] at z3 ⊢
          have q0 := hcell j (sv c.ps[j]) (by simp [List.getElem?_map, List.getElem?_eq_getElem hlt])
          have hsd := sum_drop List.length c.ps j hlt
          have hs0 := str_size c.ps[j]
          have hS' := hS.out
          rw [hsd] at hS'
          unfold sv at q0
          generalize c.ps[j] = p at *
          have ht : n + p.length ≤ 72057594037927936 := by omega
          have HS2 : Hid ((n + p.length) + ((c.ps.drop (j + 1)).map List.length).sum = M) := Lib.hid (by omega)
          clear hcell z0 z1 z2 z4 z5 z6 z7 hsd hS' hS
          go_wp2_with fail
          go_roundw
          case rel => exact ⟨j + 1, n + p.length, by omega, by first | rfl | go_num, by first | rfl | go_num, HS2, HUr⟩
          case measure => simp [intOf]; omega
        · obtain rfl : j = c.ps.length := by omega
          have hnM : n = M := by have := hS.out; rw [List.drop_length] at this; simpa using this
          subst hnM
          clear hS z0 z1 z4 z5 z6 z7
          by_cases f1 : c.ch.length ≤ 120
          · have g1 : (c.ch.length : Int) ≤ 120 := by omega
            by_cases f2 : c.ps.length ≤ 120
            · have g2 : (c.ps.length : Int) ≤ 120 := by omega
              by_cases f3 : n ≤ 30000
              · have g3 : (n : Int) ≤ 30000 := by omega
                have HR : Hid (fewL c = true) := Lib.hid (by rw [HD.out, decide_eq_true f1, decide_eq_true f2, decide_eq_true f3]; rfl)
                go_wp2_with fail
                go_ret
                exact ⟨by rw [HR.out]; rfl, HU.out.trans HUr.out⟩
              · have g3 : decide ((n : Int) ≤ 30000) = false := by rw [decide_eq_false_iff_not]; omega
                have HR : Hid (fewL c = false) := Lib.hid (by rw [HD.out, decide_eq_false f3]; simp)
                go_wp2_with fail
                go_ret
                exact ⟨by rw [HR.out]; rfl, HU.out.trans HUr.out⟩
            · have g2 : decide ((c.ps.length : Int) ≤ 120) = false := by rw [decide_eq_false_iff_not]; omega
              have HR : Hid (fewL c = false) := Lib.hid (by rw [HD.out, decide_eq_false f2]; simp)
              go_wp2_with fail
              go_ret
              exact ⟨by rw [HR.out]; rfl, HU.out.trans HUr.out⟩
          · have g1 : decide ((c.ch.length : Int) ≤ 120) = false := by rw [decide_eq_false_iff_not]; omega
            have HR : Hid (fewL c = false) := Lib.hid (by rw [HD.out, decide_eq_false f1]; simp)
            go_wp2_with fail
            go_ret
            exact ⟨by rw [HR.out]; rfl, HU.out.trans HUr.out⟩
set_option maxHeartbeats 8000000 in
theorem few25_big (c : Cmd) (a1 : Option Addr) (c1 : Nat) (a2 : Option Addr) (c2 : Nat) (w : World) (h : CmdIn w c a1 c1 a2 c2) (hbig : 120 < c.ch.length ∨ 120 < c.ps.length) :
    Calls Tryd.prog 24 #[cmdV c a1 c1 a2 c2] w fun e w' => e = .returned (.bool (fewL c)) ∧ Upd (fun _ => False) w w' := by
  have hU1 := Upd.alloc (fun _ => False) w (.cells (cmdV c a1 c1 a2 c2).cells 25)
  have hrow := heap_alloc_new w (.cells (cmdV c a1 c1 a2 c2).cells 25)
  have h1 := h.upd hU1
  have hcap := h.ch.cap
  have hlc := h.ch.le
  have hcap2 := h.ps.cap
  have hlc2 := h.ps.le
  unfold maxLen at hcap hcap2
  have hsm := str_size c.msg
  have hsn := str_size c.name
  have HD : Hid (fewL c = false) := Lib.hid (by
    unfold fewL
    rcases hbig with h | h
    · rw [decide_eq_false (by omega : ¬ c.ch.length ≤ 120)]; rfl
    · rw [decide_eq_false (by omega : ¬ c.ps.length ≤ 120)]; simp)
  unfold cmdV at hU1 hrow h1 ⊢
  unfold sv at hU1 hrow h1 ⊢
  dsimp only [Value.cells] at hU1 hrow h1
  have HP := Lib.hid (And.intro hU1 (And.intro hrow h1))
  clear hU1 hrow h1 h
  go_enter Tryd.func24, Tryd.ntmps24
  go_upto_region 1 with (fail)
  obtain ⟨hU1, hrow, h1⟩ := HP.out
  generalize w.alloc (.cells #[.int .i64 c.kind, .string (str c.msg), .slice a1 c.ch.length c1, .slice a2 c.ps.length c2, .int .i64 c.count, .int .i64 c.commit, .int .i64 c.dest, .string (str c.name)] 25) = y0 at *
  obtain ⟨B, hB⟩ : ∃ B, B = w.heap.size := ⟨_, rfl⟩
  rw [← hB] at hrow ⊢
  obtain ⟨z0, z1, z2, z3, z4, z5, z6, z7⟩ := cmd_cells hrow (Upd.refl _ y0)
  have HU := Lib.hid hU1
  have HI := Lib.hid h1
  have HR0 := Lib.hid hrow
  clear hU1 hrow h1 HP hB z0 z4 z5 z6
  go_wp2_with fail
  clear z1 z2 z3 z7
  go_loopw [3, 4] (fun v i wr => ∃ (j : Nat) (z : Int), j ≤ c.ch.length ∧ i = .int .i64 (j : Int) ∧ v = .int .i64 z ∧ Hid (Upd (fun _ => False) y0 wr)) (fun _ i _ => c.ch.length - (intOf i).toNat)
  case atStart => exact ⟨0, _, Nat.zero_le _, rfl, rfl, Lib.hid (Upd.refl _ _)⟩
  case round =>
    obtain ⟨j, z, hj, rfl, rfl, HUr⟩ := hrel
    obtain ⟨z0, z1, z2, z3, z4, z5, z6, z7⟩ := cmd_cells HR0.out HUr.out
    by_cases hlt : j < c.ch.length
    · have hI : (j : Int) < (c.ch.length : Int) := by omega
      obtain ⟨b, o, hb, hcell⟩ := (HI.out.ch.upd HUr.out (fun _ _ h => h)).at (by omega) (by decide)
      rw [hb] at z2 ⊢
      have q0 : wr.cell? ⟨b, o + j * 4, none⟩ = some (sv c.ch[j].path) := hcell (j * 4 + 0) _ (chV_get c.ch j 0 hlt (by decide))
      have q3 : wr.cell? ⟨b, o + j * 4 + 3, none⟩ = some (sv c.ch[j].text) := hcell (j * 4 + 3) _ (chV_get c.ch j 3 hlt (by decide))
      have hs0 := str_size c.ch[j].path
      have hs3 := str_size c.ch[j].text
      unfold sv at q0 q3
      generalize c.ch[j].path = p at *
      generalize c.ch[j].text = t at *
      have HQ := Lib.hid (And.intro z2 (And.intro q0 q3))
      clear hcell z0 z1 z3 z4 z5 z6 z7 q0 q3
      go_upto_region 5 with (fail)
      clear z2
      refine wp_region_plan_last [] [0, 1, 2, 3, 4, 5, 6, 7, 8, 9, 10, 11, 12, 13, 14, 15, 16, 17] (fun w' => w'.cell? ⟨B, 2, none⟩ = some (.slice (some ⟨b, o, none⟩) c.ch.length c1) ∧ w'.cell? ⟨b, o + j * 4, none⟩ = some (.string (str p)) ∧ w'.cell? ⟨b, o + j * 4 + 3, none⟩ = some (.string (str t))) (by kernel_rfl) (by kernel_rfl) HQ.out ?_
      iterate 18
        refine plan_last (v := ?_) rfl rfl (fun w' hS => ?_) ?_
        rotate_left
        · skip
          go_simp; try with_reducible rfl
        simp only [Act.put, List.getElem_toArray, List.getElem_cons_zero, List.getElem_cons_succ, List.setIfInBounds_toArray, List.set_cons_zero, List.set_cons_succ]
      refine plan_end ?_
      go_wp2_with fail
      go_roundw
      case rel => exact ⟨j + 1, _, by omega, by first | rfl | go_num, rfl, Lib.hid (HUr.out.trans (Upd.drew _ _))⟩
      case measure => simp [intOf]; omega
    · obtain rfl : j = c.ch.length := by omega
      clear z0 z1 z4 z5 z6 z7
      go_wp2_with fail
      clear z2 z3
      go_loopw [3, 5] (fun v i wx => ∃ (j : Nat) (z : Int), j ≤ c.ps.length ∧ i = .int .i64 (j : Int) ∧ v = .int .i64 z ∧ Hid (Upd (fun _ => False) y0 wx)) (fun _ i _ => c.ps.length - (intOf i).toNat)
      case atStart => exact ⟨0, _, Nat.zero_le _, rfl, rfl, HUr⟩
      case round =>
        clear HUr
        obtain ⟨j, z, hj, rfl, rfl, HUr⟩ := hrel
        obtain ⟨z0, z1, z2, z3, z4, z5, z6, z7⟩ := cmd_cells HR0.out HUr.out
        by_cases hlt : j < c.ps.length
        · have hI : (j : Int) < (c.ps.length : Int) := by omega
          obtain ⟨b, o, hb, hcell⟩ := (HI.out.ps.upd HUr.out (fun _ _ h => h)).at (by omega) (by decide)
          rw [hb] at z3 ⊢
          have q0 := hcell j (sv c.ps[j]) (by simp [List.getElem?_map, List.getElem?_eq_getElem hlt])
          have hs0 := str_size c.ps[j]
          unfold sv at q0
          generalize c.ps[j] = p at *
          clear hcell z0 z1 z2 z4 z5 z6 z7
          go_wp2_with fail
          go_roundw
          case rel => exact ⟨j + 1, _, by omega, by first | rfl | go_num, rfl, HUr⟩
          case measure => simp [intOf]; omega
        · obtain rfl : j = c.ps.length := by omega
          clear z0 z1 z4 z5 z6 z7
          by_cases f1 : c.ch.length ≤ 120
          · have g1 : (c.ch.length : Int) ≤ 120 := by omega
            have g2 : decide ((c.ps.length : Int) ≤ 120) = false := by rw [decide_eq_false_iff_not]; omega
            go_wp2_with fail
            go_ret
            exact ⟨by rw [HD.out]; rfl, HU.out.trans HUr.out⟩
          · have g1 : decide ((c.ch.length : Int) ≤ 120) = false := by rw [decide_eq_false_iff_not]; omega
            go_wp2_with fail
            go_ret
            exact ⟨by rw [HD.out]; rfl, HU.out.trans HUr.out⟩
/-- Each text of it has a length that a process's memory may hold. -/
structure Fits (c : Cmd) : Prop where
  msg : c.msg.length ≤ 140737488351232
  name : c.name.length ≤ 140737488351232
  ch : ∀ x ∈ c.ch, x.path.length ≤ 140737488351232 ∧ x.text.length ≤ 140737488351232
  ps : ∀ x ∈ c.ps, x.length ≤ 140737488351232
theorem sum_le {X : Type} (f : X → Nat) (m : Nat) : ∀ (l : List X), (∀ x ∈ l, f x ≤ m) → (l.map f).sum ≤ l.length * m
  | [], _ => Nat.zero_le _
  | x :: l, h => by
    have h1 := h x (by simp)
    have h2 := sum_le f m l (fun y hy => h y (by simp [hy]))
    rw [List.map_cons, List.sum_cons, List.length_cons, Nat.succ_mul]
    omega
theorem few25_any (c : Cmd) (a1 : Option Addr) (c1 : Nat) (a2 : Option Addr) (c2 : Nat) (w : World) (h : CmdIn w c a1 c1 a2 c2) (hf : Fits c) :
    Calls Tryd.prog 24 #[cmdV c a1 c1 a2 c2] w fun e w' => e = .returned (.bool (fewL c)) ∧ Upd (fun _ => False) w w' := by
  by_cases hb : 120 < c.ch.length ∨ 120 < c.ps.length
  · exact few25_big c a1 c1 a2 c2 w h hb
  · refine few25_mid c a1 c1 a2 c2 w h ?_
    have h1 := sum_le chLen 281474976702464 c.ch (fun x hx => by have := hf.ch x hx; unfold chLen; omega)
    have h2 := sum_le List.length 140737488351232 c.ps (fun x hx => hf.ps x hx)
    have h3 : c.ch.length * 281474976702464 ≤ 120 * 281474976702464 := Nat.mul_le_mul_right _ (by omega)
    have h4 : c.ps.length * 140737488351232 ≤ 120 * 140737488351232 := Nat.mul_le_mul_right _ (by omega)
    have h5 := hf.msg
    have h6 := hf.name
    unfold fewN
    omega
end Go.Proofs.YteefceainlfdfaaDoor
