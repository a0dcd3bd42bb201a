
/- The walk of CommandWrong. -/
import Derived.Test.YteefceainlfdfaaDoorAwake25
import Derived.Test.YteefceainlfdfaaDoorPath6
namespace Go.Proofs.YteefceainlfdfaaDoor
set_option linter.unusedSimpArgs false
set_option linter.unusedVariables false
set_option maxRecDepth 100000
open Go.ChangeShapes Go.WideShapes Go.ChangeAt Go.RowKit

theorem wrong_c (k cnt : Int) (nm : List UInt8) (hk : ¬ (k = 12 ∨ k = 13)) (h1 : 1 ≤ k) (h15 : k ≤ 15) : rightL ⟨k, [], [], [], 2, 0, 0, nm⟩ = 0 := by
  unfold rightL rightOf
  dsimp only
  rw [if_neg (by omega), if_neg (by simp [longL]), if_neg (by simp [pathsL]), if_neg (fun h => hk h.1), if_neg (by omega)]
theorem right_bad (k cnt : Int) (n : Bool) (h1 : 1 ≤ k) (h15 : k ≤ 15) : rightOf k cnt false false n = 11 := by
  unfold rightOf
  rw [if_neg (by omega), if_neg (by decide), if_pos rfl]
theorem wrong_n (k : Int) (nm : List UInt8) : rightL ⟨k, [], [], [], 2, 0, 0, nm⟩ = rightOf k 2 false true (nameL nm) := rfl
theorem wrong_x (k : Int) (nm p : List UInt8) (h1 : 1 ≤ k) (h15 : k ≤ 15) : rightL ⟨k, [], [⟨p, false, false, []⟩], [], 2, 0, 0, nm⟩ = if pathL p = true then rightL ⟨k, [], [], [], 2, 0, 0, nm⟩ else 11 := by
  have hp : pathsL ⟨k, [], [⟨p, false, false, []⟩], [], 2, 0, 0, nm⟩ = pathL p := by simp [pathsL, badCh]
  have e : rightL ⟨k, [], [⟨p, false, false, []⟩], [], 2, 0, 0, nm⟩ = rightOf k 2 false (pathsL ⟨k, [], [⟨p, false, false, []⟩], [], 2, 0, 0, nm⟩) (nameL nm) := rfl
  rw [e, hp, wrong_n]
  cases pathL p
  · rw [right_bad k 2 _ h1 h15]; rfl
  · rfl
theorem wrong_y (k : Int) (nm p : List UInt8) (h1 : 1 ≤ k) (h15 : k ≤ 15) : rightL ⟨k, [], [], [p], 2, 0, 0, nm⟩ = if pathL p = true then rightL ⟨k, [], [], [], 2, 0, 0, nm⟩ else 11 := by
  have hp : pathsL ⟨k, [], [], [p], 2, 0, 0, nm⟩ = pathL p := by simp [pathsL, badPa]
  have e : rightL ⟨k, [], [], [p], 2, 0, 0, nm⟩ = rightOf k 2 false (pathsL ⟨k, [], [], [p], 2, 0, 0, nm⟩) (nameL nm) := rfl
  rw [e, hp, wrong_n]
  cases pathL p
  · rw [right_bad k 2 _ h1 h15]; rfl
  · rfl

theorem five_at (w : World) (o0 o1 o2 o3 o4 : Obj) : Upd (fun _ => False) w (((((w.alloc o0).alloc o1).alloc o2).alloc o3).alloc o4) ∧
    (((((w.alloc o0).alloc o1).alloc o2).alloc o3).alloc o4).heap[w.heap.size]? = some o0 ∧ (((((w.alloc o0).alloc o1).alloc o2).alloc o3).alloc o4).heap[w.heap.size + 1]? = some o1 ∧
    (((((w.alloc o0).alloc o1).alloc o2).alloc o3).alloc o4).heap[w.heap.size + 1 + 1]? = some o2 ∧ (((((w.alloc o0).alloc o1).alloc o2).alloc o3).alloc o4).heap[w.heap.size + 1 + 1 + 1]? = some o3 ∧
    (((((w.alloc o0).alloc o1).alloc o2).alloc o3).alloc o4).heap[w.heap.size + 1 + 1 + 1 + 1]? = some o4 := by
  refine ⟨((((Upd.alloc _ _ _).trans (Upd.alloc _ _ _)).trans (Upd.alloc _ _ _)).trans (Upd.alloc _ _ _)).trans (Upd.alloc _ _ _), ?_, ?_, ?_, ?_, ?_⟩
  · rw [Below.heap_alloc _ _ _ (by simp <;> omega), Below.heap_alloc _ _ _ (by simp <;> omega), Below.heap_alloc _ _ _ (by simp <;> omega), Below.heap_alloc _ _ _ (by simp)]
    exact heap_alloc_new _ _
  · rw [Below.heap_alloc _ _ _ (by simp <;> omega), Below.heap_alloc _ _ _ (by simp <;> omega), Below.heap_alloc _ _ _ (by simp)]
    have := heap_alloc_new (w.alloc o0) o1
    simpa using this
  · rw [Below.heap_alloc _ _ _ (by simp <;> omega), Below.heap_alloc _ _ _ (by simp)]
    have := heap_alloc_new ((w.alloc o0).alloc o1) o2
    simpa using this
  · rw [Below.heap_alloc _ _ _ (by simp)]
    have := heap_alloc_new (((w.alloc o0).alloc o1).alloc o2) o3
    simpa using this
  · have := heap_alloc_new ((((w.alloc o0).alloc o1).alloc o2).alloc o3) o4
    simpa using this
theorem vw_row {w : World} {b n : Nat} {T : TypeId} {cs : Array Value} {fr : Nat × Nat} {size : Nat} (hr : w.heap[b]? = some (.cells cs T fr)) (hn : cs.size = n * size) (hm : n ≤ 1000000) : Vw w (some ⟨b, 0, none⟩) n n size cs.toList := by
  refine ⟨by simpa using hn, Nat.le_refl _, by unfold maxLen; omega, (fun h => by cases h), fun x hx j u hu => ?_⟩
  cases hx
  have ha : (Addr.add ⟨b, 0, none⟩ j) = ⟨b, j, none⟩ := by unfold Addr.add; split <;> simp_all
  rw [ha, cell_of_row _ _ _ _ _ _ hr]
  simpa using hu

set_option maxHeartbeats 8000000 in
theorem CommandWrong_walk (w : World) (k0 : Int) (wk : (Lit.int .i64 k0).wf = true) (ps : ByteArray) (wp : ps.size ≤ maxLen) (nms : ByteArray) (wn : nms.size ≤ maxLen) :
    Calls Tryd.prog 4 #[.int .i64 k0, .string ps, .string nms] w fun e w' => e = .returned (.bool true) ∧ Below w.heap.size w w' := by
  obtain ⟨p, rfl⟩ : ∃ p, ps = str p := ⟨ps.data.toList, (str_data ps).symm⟩
  obtain ⟨nm, rfl⟩ : ∃ p, nms = str p := ⟨nms.data.toList, (str_data nms).symm⟩
  have hsp := str_size p
  have hsn := str_size nm
  clear wk wp wn
  by_cases h200 : 200 < p.length
  · have hi : (200 : Int) < (p.length : Int) := by omega
    clear h200
    go_enter Tryd.func4, Tryd.ntmps4
    go_wp2_with fail
    refine (awake25_any _).mono ?_
    rintro e w1 ⟨rfl, hU⟩
    go_wp2_with fail
    go_ret
    exact ⟨rfl, hU.clean⟩
  have hi1 : decide ((200 : Int) < (p.length : Int)) = false := by rw [decide_eq_false_iff_not]; omega
  by_cases h100 : 100 < nm.length
  · have hi : (100 : Int) < (nm.length : Int) := by omega
    clear h100 h200
    go_enter Tryd.func4, Tryd.ntmps4
    go_wp2_with fail
    refine (awake25_any _).mono ?_
    rintro e w1 ⟨rfl, hU⟩
    go_wp2_with fail
    go_ret
    exact ⟨rfl, hU.clean⟩
  have hi2 : decide ((100 : Int) < (nm.length : Int)) = false := by rw [decide_eq_false_iff_not]; omega
  go_enter Tryd.func4, Tryd.ntmps4
  go_upto_region 4 with (fail)
  obtain ⟨k, hk, h1, h15⟩ : ∃ k, wrap64 (1 + wrap64 ((IntKind.u64.wrap k0).tmod 15)) = k ∧ 1 ≤ k ∧ k ≤ 15 := by
    have hr := wrap_u64 k0
    have e : (IntKind.u64.wrap k0).tmod 15 = (IntKind.u64.wrap k0) % 15 := Int.tmod_eq_emod_of_nonneg hr.1
    rw [e, IntWalk.wrap64_in (IntKind.u64.wrap k0 % 15) (by omega), IntWalk.wrap64_in _ (by omega)]
    exact ⟨_, rfl, by omega, by omega⟩
  rw [hk]
  clear hk
  go_upto_region 9 with (fail)
  have hF := five_at w (.cells #[.int .i64 k, .string ⟨#[]⟩, .slice none 0 0, .slice none 0 0, .int .i64 2, .int .i64 0, .int .i64 0, .string (str nm)] 25)
    (.cells #[.int .i64 k, .string ⟨#[]⟩, .slice (some ⟨w.heap.size + 1 + 1, 0, none⟩) 1 1, .slice none 0 0, .int .i64 2, .int .i64 0, .int .i64 0, .string (str nm)] 25)
    (.cells #[.string (str p), .bool false, .bool false, .string ⟨#[]⟩] 30)
    (.cells #[.int .i64 k, .string ⟨#[]⟩, .slice none 0 0, .slice (some ⟨w.heap.size + 1 + 1 + 1 + 1, 0, none⟩) 1 1, .int .i64 2, .int .i64 0, .int .i64 0, .string (str nm)] 25)
    (.cells #[.string (str p)] 9)
  generalize (((((w.alloc (.cells #[.int .i64 k, .string ⟨#[]⟩, .slice none 0 0, .slice none 0 0, .int .i64 2, .int .i64 0, .int .i64 0, .string (str nm)] 25)).alloc
    (.cells #[.int .i64 k, .string ⟨#[]⟩, .slice (some ⟨w.heap.size + 1 + 1, 0, none⟩) 1 1, .slice none 0 0, .int .i64 2, .int .i64 0, .int .i64 0, .string (str nm)] 25)).alloc
    (.cells #[.string (str p), .bool false, .bool false, .string ⟨#[]⟩] 30)).alloc
    (.cells #[.int .i64 k, .string ⟨#[]⟩, .slice none 0 0, .slice (some ⟨w.heap.size + 1 + 1 + 1 + 1, 0, none⟩) 1 1, .int .i64 2, .int .i64 0, .int .i64 0, .string (str nm)] 25)).alloc
    (.cells #[.string (str p)] 9)) = w1 at hF ⊢
  obtain ⟨hU1, r0, r1, r2, r3, r4⟩ := hF
  have hvx : Vw w1 (some ⟨w.heap.size + 1 + 1, 0, none⟩) 1 1 4 ([(⟨p, false, false, []⟩ : Chg)].flatMap chV) := vw_row (n := 1) (size := 4) r2 rfl (by decide)
  have hvy : Vw w1 (some ⟨w.heap.size + 1 + 1 + 1 + 1, 0, none⟩) 1 1 1 ([p].map sv) := vw_row (n := 1) (size := 1) r4 rfl (by decide)
  have hrc := fun w' => cRight_any ⟨k, [], [], [], 2, 0, 0, nm⟩ none 0 none 0 w' ⟨Vw.nl w' 4, Vw.nl w' 1⟩
  have hrx := fun w' (hU : Upd (fun _ => False) w1 w') => cRight_any ⟨k, [], [⟨p, false, false, []⟩], [], 2, 0, 0, nm⟩ (some ⟨w.heap.size + 1 + 1, 0, none⟩) 1 none 0 w' ⟨hvx.upd hU (fun _ _ h => h), Vw.nl w' 1⟩
  have hry := fun w' (hU : Upd (fun _ => False) w1 w') => cRight_any ⟨k, [], [], [p], 2, 0, 0, nm⟩ none 0 (some ⟨w.heap.size + 1 + 1 + 1 + 1, 0, none⟩) 1 w' ⟨Vw.nl w' 4, hvy.upd hU (fun _ _ h => h)⟩
  simp only [wrong_x k nm p h1 h15] at hrx
  simp only [wrong_y k nm p h1 h15] at hry
  have hwc := wrong_c k 2 nm
  have hkk : ¬ (k = 12 ∨ k = 13) → rightL ⟨k, [], [], [], 2, 0, 0, nm⟩ = 0 := fun h => hwc h h1 h15
  have hrp := fun w => r11Path_any p w
  unfold sv at hrp
  generalize pathL p = pb at *
  generalize rightL ⟨k, [], [], [], 2, 0, 0, nm⟩ = R at *
  obtain ⟨z0, z1, z2, z3, z4, z5, z6, z7⟩ := cmd_cells r0 (Upd.refl _ w1)
  have HX := Lib.hid hrx
  have HY := Lib.hid hry
  have HPA := Lib.hid hrp
  have HK := Lib.hid hkk
  have HR := Lib.hid (And.intro hU1 (And.intro r1 r3))
  have HC := Lib.hid hrc
  clear hrx hry hkk hwc hU1 r0 r1 r2 r3 r4 hvx hvy hrc hrp
  go_wp2_with fail
  refine (HC.out w1).mono ?_
  rintro e w2 ⟨rfl, hU2⟩
  clear z0 z1 z2 z3 z4 z5 z6 z7
  have HU2 := Lib.hid hU2
  clear hU2
  by_cases hm : k = 12 ∨ k = 13
  · cases pb
    all_goals
      rcases hm with rfl | rfl
    all_goals
      go_wp2_with fail
      refine (HPA.out w2).mono ?_
      rintro e w3 ⟨rfl, hU3⟩
      have hU13 := HU2.out.trans hU3
      have HU3 := Lib.hid hU13
      clear hU3 hU13
      go_wp2_with fail
      refine (awake25_any w3).mono ?_
      rintro e w4 ⟨rfl, hU4⟩
      have hU14 := HU3.out.trans hU4
      obtain ⟨z0, z1, z2, z3, z4, z5, z6, z7⟩ := cmd_cells HR.out.2.1 hU14
      have hx := HX.out w4 hU14
      simp only [reduceIte, Bool.false_eq_true] at hx
      have HU4 := Lib.hid hU14
      clear hU4 hU14
      go_wp2_with fail
      refine hx.mono ?_
      rintro e w5 ⟨rfl, hU5⟩
      clear z0 z1 z2 z3 z4 z5 z6 z7 hx
      have hU15 := HU4.out.trans hU5
      obtain ⟨z0, z1, z2, z3, z4, z5, z6, z7⟩ := cmd_cells HR.out.2.2 hU15
      have hy := HY.out w5 hU15
      simp only [reduceIte, Bool.false_eq_true] at hy
      have HU5 := Lib.hid hU15
      clear hU5 hU15
      go_wp2_with fail
      refine hy.mono ?_
      rintro e w6 ⟨rfl, hU6⟩
      clear z0 z1 z2 z3 z4 z5 z6 z7 hy
      go_wp2_with fail
      go_ret
      exact ⟨by first | rfl | simp, (HR.out.1.trans (HU5.out.trans hU6)).clean⟩
  · have hR := HK.out hm
    subst hR
    have e12 : (k == 12) = false := by rw [beq_eq_false_iff_ne]; omega
    have e13 : (k == 13) = false := by rw [beq_eq_false_iff_ne]; omega
    clear hm
    cases pb
    all_goals
      go_wp2_with fail
      refine (HPA.out w2).mono ?_
      rintro e w3 ⟨rfl, hU3⟩
      have hU13 := HU2.out.trans hU3
      have HU3 := Lib.hid hU13
      clear hU3 hU13
      go_wp2_with fail
      refine (awake25_any w3).mono ?_
      rintro e w4 ⟨rfl, hU4⟩
      have hU14 := HU3.out.trans hU4
      obtain ⟨z0, z1, z2, z3, z4, z5, z6, z7⟩ := cmd_cells HR.out.2.1 hU14
      have hx := HX.out w4 hU14
      simp only [reduceIte, Bool.false_eq_true] at hx
      have HU4 := Lib.hid hU14
      clear hU4 hU14
      go_wp2_with fail
      refine hx.mono ?_
      rintro e w5 ⟨rfl, hU5⟩
      clear z0 z1 z2 z3 z4 z5 z6 z7 hx
      have hU15 := HU4.out.trans hU5
      obtain ⟨z0, z1, z2, z3, z4, z5, z6, z7⟩ := cmd_cells HR.out.2.2 hU15
      have hy := HY.out w5 hU15
      simp only [reduceIte, Bool.false_eq_true] at hy
      have HU5 := Lib.hid hU15
      clear hU5 hU15
      go_wp2_with fail
      refine hy.mono ?_
      rintro e w6 ⟨rfl, hU6⟩
      clear z0 z1 z2 z3 z4 z5 z6 z7 hy
      go_wp2_with fail
      go_ret
      exact ⟨by first | rfl | simp, (HR.out.1.trans (HU5.out.trans hU6)).clean⟩
end Go.Proofs.YteefceainlfdfaaDoor
