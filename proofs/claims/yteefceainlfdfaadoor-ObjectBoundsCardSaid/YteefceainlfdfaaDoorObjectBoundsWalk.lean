
/- The walk of ObjectBounds. -/
import Derived.Test.YteefceainlfdfaaDoorAwake15
namespace Go.Proofs.YteefceainlfdfaaDoor
set_option linter.unusedSimpArgs false
set_option linter.unusedVariables false
set_option maxRecDepth 100000
open Go.ChangeShapes Go.WideShapes Go.ChangeAt Go.RowKit

theorem less_total : ∀ a b : List UInt8, Op.bytesLess a b = true ∨ a = b ∨ Op.bytesLess b a = true
  | [], [] => .inr (.inl rfl)
  | [], _ :: _ => .inl rfl
  | _ :: _, [] => .inr (.inr rfl)
  | x :: a, y :: b => by
    simp only [Op.bytesLess]
    rcases less_total a b with h | h | h
    · by_cases h1 : x < y
      · simp [h1]
      · by_cases h2 : y < x
        · simp [h2]
        · have : x = y := UInt8.le_antisymm (UInt8.not_lt.1 h2) (UInt8.not_lt.1 h1)
          subst this; simp [h]
    · subst h
      by_cases h1 : x < y
      · simp [h1]
      · by_cases h2 : y < x
        · simp [h2]
        · have : x = y := UInt8.le_antisymm (UInt8.not_lt.1 h2) (UInt8.not_lt.1 h1)
          subst this; simp
    · by_cases h1 : x < y
      · simp [h1]
      · by_cases h2 : y < x
        · simp [h2]
        · have : x = y := UInt8.le_antisymm (UInt8.not_lt.1 h2) (UInt8.not_lt.1 h1)
          subst this; simp [h]
theorem leS_total (a b : List UInt8) (h1 : leS a b = false) (h2 : leS b a = false) : False := by
  unfold leS at h1 h2
  rw [Bool.or_eq_false_iff] at h1 h2
  rcases less_total a b with h | h | h
  · rw [h] at h1; cases h1.1
  · subst h; simp at h1
  · rw [h] at h2; cases h2.1
def entP (p : List UInt8) : Ent := ⟨p, false, key0, rfl⟩
theorem tree2 (p q : List UInt8) (h : treeL [entP p, entP q] = true) : leS q p = false := by
  unfold treeL at h
  rw [Bool.and_eq_true] at h
  have h2 : (List.range 2).any (badAt [entP p, entP q]) = false := by simpa using h.2
  rw [List.any_eq_false] at h2
  have h3 := h2 1 (by simp)
  simp [badAt, entP] at h3
  exact h3.1.2
theorem not_both (p q : List UInt8) : ¬ (treeL [entP p, entP q] = true ∧ treeL [entP q, entP p] = true) := fun h => leS_total _ _ (tree2 q p h.2) (tree2 p q h.1)
def bCom (l : List UInt8) : Com := ⟨true, key0, key0, l, 0, rfl, rfl, by decide, by decide⟩
theorem bCom_lit (l : List UInt8) : comA (bCom l) = #[.bool true, .int .u8 0, .int .u8 0, .int .u8 0, .int .u8 0, .int .u8 0, .int .u8 0, .int .u8 0, .int .u8 0, .int .u8 0, .int .u8 0, .int .u8 0, .int .u8 0, .int .u8 0, .int .u8 0, .int .u8 0, .int .u8 0, .int .u8 0, .int .u8 0, .int .u8 0, .int .u8 0, .int .u8 0, .int .u8 0, .int .u8 0, .int .u8 0, .int .u8 0, .int .u8 0, .int .u8 0, .int .u8 0, .int .u8 0, .int .u8 0, .int .u8 0, .int .u8 0, .int .u8 0, .int .u8 0, .int .u8 0, .int .u8 0, .int .u8 0, .int .u8 0, .int .u8 0, .int .u8 0, .int .u8 0, .int .u8 0, .int .u8 0, .int .u8 0, .int .u8 0, .int .u8 0, .int .u8 0, .int .u8 0, .int .u8 0, .int .u8 0, .int .u8 0, .int .u8 0, .int .u8 0, .int .u8 0, .int .u8 0, .int .u8 0, .int .u8 0, .int .u8 0, .int .u8 0, .int .u8 0, .int .u8 0, .int .u8 0, .int .u8 0, .int .u8 0, .string (str l), .int .u64 0] := rfl
theorem bCom_E (l : List UInt8) : comE (bCom l) = if 1000 < l.length then 6 else 0 := by
  have e2 : ((bCom l).rooted && !((bCom l).parent == key0)) = false := by show (true && !(key0 == key0)) = false; decide
  unfold comE
  rw [e2]
  rfl
theorem zeros1 (w : World) (N : Nat) (hN : N ≤ 30000) : ∃ l : List UInt8, Hid (l.length = N) ∧
    (convert 28 9 (.slice (some ⟨w.heap.size, 0, none⟩) N N)).run Tryd.prog (w.alloc (.cells (madeCells #[.int .u8 0] N) 5)) = .ok (.string (str l)) (w.alloc (.cells (madeCells #[.int .u8 0] N) 5)) := by
  refine ⟨List.replicate N 0, Lib.hid List.length_replicate, ?_⟩
  have h := World.ownsRow_lit (base := 0) (e := 5) (size := 1) w (madeCells #[.int .u8 0] N) N (Nat.zero_le _) (by unfold maxLen; omega) (by rw [size_madeCells, Nat.mul_one])
  rw [toList_madeCells_one] at h
  have e : List.replicate N (Value.int .u8 0) = bvs (List.replicate N 0) := by simp [bvs, bv]
  rw [e] at h
  have hv := Vw.conv (l := List.replicate N 0) (c := N) (by rw [List.length_replicate]; exact Vw.of_own h)
  rw [List.length_replicate] at hv
  exact hv
theorem two_ents (w : World) (p q : List UInt8) : Vw (w.alloc (.cells #[.string (str p), .bool false, .int .u8 0, .int .u8 0, .int .u8 0, .int .u8 0, .int .u8 0, .int .u8 0, .int .u8 0, .int .u8 0, .int .u8 0, .int .u8 0, .int .u8 0, .int .u8 0, .int .u8 0, .int .u8 0, .int .u8 0, .int .u8 0, .int .u8 0, .int .u8 0, .int .u8 0, .int .u8 0, .int .u8 0, .int .u8 0, .int .u8 0, .int .u8 0, .int .u8 0, .int .u8 0, .int .u8 0, .int .u8 0, .int .u8 0, .int .u8 0, .int .u8 0, .int .u8 0, .string (str q), .bool false, .int .u8 0, .int .u8 0, .int .u8 0, .int .u8 0, .int .u8 0, .int .u8 0, .int .u8 0, .int .u8 0, .int .u8 0, .int .u8 0, .int .u8 0, .int .u8 0, .int .u8 0, .int .u8 0, .int .u8 0, .int .u8 0, .int .u8 0, .int .u8 0, .int .u8 0, .int .u8 0, .int .u8 0, .int .u8 0, .int .u8 0, .int .u8 0, .int .u8 0, .int .u8 0, .int .u8 0, .int .u8 0, .int .u8 0, .int .u8 0, .int .u8 0, .int .u8 0] 44)) (some ⟨w.heap.size, 0, none⟩) [entP p, entP q].length 2 34 ([entP p, entP q].flatMap entV) := by
  refine ⟨by rw [flatMap_length entV 34 entV_len], Nat.le_refl _, by decide, (fun h => by cases h), fun x hx j u hu => ?_⟩
  cases hx
  have ha : (Addr.add ⟨w.heap.size, 0, none⟩ j) = ⟨w.heap.size, j, none⟩ := by unfold Addr.add; split <;> simp_all
  have he : (#[.string (str p), .bool false, .int .u8 0, .int .u8 0, .int .u8 0, .int .u8 0, .int .u8 0, .int .u8 0, .int .u8 0, .int .u8 0, .int .u8 0, .int .u8 0, .int .u8 0, .int .u8 0, .int .u8 0, .int .u8 0, .int .u8 0, .int .u8 0, .int .u8 0, .int .u8 0, .int .u8 0, .int .u8 0, .int .u8 0, .int .u8 0, .int .u8 0, .int .u8 0, .int .u8 0, .int .u8 0, .int .u8 0, .int .u8 0, .int .u8 0, .int .u8 0, .int .u8 0, .int .u8 0, .string (str q), .bool false, .int .u8 0, .int .u8 0, .int .u8 0, .int .u8 0, .int .u8 0, .int .u8 0, .int .u8 0, .int .u8 0, .int .u8 0, .int .u8 0, .int .u8 0, .int .u8 0, .int .u8 0, .int .u8 0, .int .u8 0, .int .u8 0, .int .u8 0, .int .u8 0, .int .u8 0, .int .u8 0, .int .u8 0, .int .u8 0, .int .u8 0, .int .u8 0, .int .u8 0, .int .u8 0, .int .u8 0, .int .u8 0, .int .u8 0, .int .u8 0, .int .u8 0, .int .u8 0] : Array Value) = ([entP p, entP q].flatMap entV).toArray := rfl
  rw [ha, cell_of_row _ _ _ _ _ _ (heap_alloc_new w _), he, List.getElem?_toArray]
  exact hu

set_option maxHeartbeats 8000000 in
theorem ObjB0 (w : World) (n0 : Int) (hk : (IntKind.u64.wrap n0).tmod 6 = 0) (p q : List UInt8) :
    Calls Tryd.prog 6 #[.int .i64 n0, .string (str p), .string (str q)] w fun e w' => e = .returned (.bool true) ∧ Below w.heap.size w w' := by
  have hsp := str_size p
  have hsq := str_size q
  obtain ⟨N, hN⟩ : ∃ N : Nat, Hid (N = 19997) := ⟨_, Lib.hid rfl⟩
  have hNi : (N : Int) = 19997 := by have := hN.out; omega
  obtain ⟨M, hM⟩ : ∃ M : Nat, Hid (M = 997) := ⟨_, Lib.hid rfl⟩
  have hMi : (M : Int) = 997 := by have := hM.out; omega
  have hmk := run_make_row' (P := Tryd.prog) 28 5 (.int .u8 0) 1 Tryd.underlying28 infoU8 rfl .i64 .i64 N (by omega) (by omega)
  rw [hNi] at hmk
  have hmk2 := run_make_row' (P := Tryd.prog) 28 5 (.int .u8 0) 1 Tryd.underlying28 infoU8 rfl .i64 .i64 M (by omega) (by omega)
  rw [hMi] at hmk2
  clear hNi hMi
  have HMK2 := Lib.hid hmk2
  clear hmk2
  obtain ⟨l1, hl1, hz⟩ := zeros1 w N (by have := hN.out; omega)
  have hb := oBlob_any l1 (w.alloc (.cells (madeCells #[.int .u8 0] N) 5))
  have hbE : blobE l1 = 0 := by unfold blobE; rw [hl1.out, hN.out]; decide
  rw [hbE] at hb
  have HB := Lib.hid hb
  have HU0 := Lib.hid (Upd.alloc (fun _ => False) w (.cells (madeCells #[.int .u8 0] N) 5))
  clear hb hbE
  go_enter Tryd.func6, Tryd.ntmps6
  go_wp2_with fail
  refine HB.out.mono ?_
  unfold Packed
  rintro e w1 ⟨a1, c1, rfl, hv1, hf1, hU1⟩
  have HU1 := Lib.hid (HU0.out.trans hU1)
  clear hv1 hf1 hU1 HB HU0 hmk hz
  obtain ⟨l2, hl2, hz⟩ := zeros1 w1 M (by have := hM.out; omega)
  have hc := oCommit_any (bCom l2) (w1.alloc (.cells (madeCells #[.int .u8 0] M) 5))
  have hcE : comE (bCom l2) = 0 := by rw [bCom_E, hl2.out, hM.out]; decide
  rw [hcE, bCom_lit] at hc
  have HC := Lib.hid hc
  have HU2 := Lib.hid (HU1.out.trans (Upd.alloc (fun _ => False) w1 (.cells (madeCells #[.int .u8 0] M) 5)))
  have hmk := HMK2.out
  clear hc hcE
  go_wp2_with fail
  refine HC.out.mono ?_
  unfold Packed
  rintro e w2 ⟨a2, c2, rfl, hv2, hf2, hU2⟩
  have HU3 := Lib.hid (HU2.out.trans hU2)
  clear hv2 hf2 hU2 HC HU2 hmk hz HU1 HMK2
  by_cases h60 : 60 < p.length
  · have hI : (60 : Int) < (p.length : Int) := by omega
    go_wp2_with fail
    refine (awake15_any _).mono ?_
    rintro e w3 ⟨rfl, hU⟩
    have HU4 := Lib.hid (HU3.out.trans hU)
    clear hU
    go_wp2_with fail
    go_ret
    exact ⟨rfl, HU4.out.clean⟩
  have hI1 : decide ((60 : Int) < (p.length : Int)) = false := by rw [decide_eq_false_iff_not]; omega
  by_cases h61 : 60 < q.length
  · have hI : (60 : Int) < (q.length : Int) := by omega
    go_wp2_with fail
    refine (awake15_any _).mono ?_
    rintro e w3 ⟨rfl, hU⟩
    have HU4 := Lib.hid (HU3.out.trans hU)
    clear hU
    go_wp2_with fail
    go_ret
    exact ⟨rfl, HU4.out.clean⟩
  have hI2 : decide ((60 : Int) < (q.length : Int)) = false := by rw [decide_eq_false_iff_not]; omega
  have ht1 := fun w => oTree_any (some ⟨w.heap.size, 0, none⟩) 2 [entP p, entP q] _ (two_ents w p q)
  have ht2 := fun w => r15Tree_any (some ⟨w.heap.size, 0, none⟩) 2 [entP p, entP q] _ (two_ents w p q)
  have ht3 := fun w => oTree_any (some ⟨w.heap.size, 0, none⟩) 2 [entP q, entP p] _ (two_ents w q p)
  have hnb := not_both p q
  have e1 : treeE [entP p, entP q] = if treeL [entP p, entP q] = true then 0 else 5 := rfl
  have e2 : treeE [entP q, entP p] = if treeL [entP q, entP p] = true then 0 else 5 := rfl
  generalize treeE [entP p, entP q] = E1 at *
  generalize treeE [entP q, entP p] = E2 at *
  have hee : (E1 = 0 ∧ E2 = 5) ∨ (E1 = 5 ∧ E2 = 0) ∨ (E1 = 5 ∧ E2 = 5) := by
    by_cases h1 : treeL [entP p, entP q] = true
    · rw [if_pos h1] at e1
      have h2 : ¬ treeL [entP q, entP p] = true := fun h => hnb ⟨h1, h⟩
      rw [if_neg h2] at e2
      exact .inl ⟨e1, e2⟩
    · rw [if_neg h1] at e1
      by_cases h2 : treeL [entP q, entP p] = true
      · rw [if_pos h2] at e2; exact .inr (.inl ⟨e1, e2⟩)
      · rw [if_neg h2] at e2; exact .inr (.inr ⟨e1, e2⟩)
  have HT1 := Lib.hid ht1
  have HT2 := Lib.hid ht2
  have HT3 := Lib.hid ht3
  have HEE := Lib.hid hee
  clear ht1 ht2 ht3 hnb e1 e2 hee
  go_wp2_with fail
  refine (HT1.out _).mono ?_
  unfold Packed
  rintro e w3 ⟨a3, c3, rfl, hv3, hf3, hU3⟩
  have HU4 := Lib.hid ((HU3.out.trans (Upd.alloc (fun _ => False) w2 _)).trans hU3)
  clear hv3 hf3 hU3 HU3
  go_wp2_with fail
  refine (HT2.out _).mono ?_
  unfold Packed
  rintro e w4 ⟨a4, c4, rfl, hv4, hf4, hU4⟩
  have HU5 := Lib.hid ((HU4.out.trans (Upd.alloc (fun _ => False) w3 _)).trans hU4)
  clear hv4 hf4 hU4 HU4
  go_wp2_with fail
  refine (HT3.out _).mono ?_
  unfold Packed
  rintro e w5 ⟨a5, c5, rfl, hv5, hf5, hU5⟩
  have HU6 := Lib.hid ((HU5.out.trans (Upd.alloc (fun _ => False) w4 _)).trans hU5)
  clear hv5 hf5 hU5 HU5 HT1 HT2 HT3
  go_wp2_with fail
  refine (awake15_any _).mono ?_
  rintro e w6 ⟨rfl, hU⟩
  have HU7 := Lib.hid (HU6.out.trans hU)
  clear hU HU6
  have hee := HEE.out
  clear HEE
  rcases hee with ⟨rfl, rfl⟩ | ⟨rfl, rfl⟩ | ⟨rfl, rfl⟩
  all_goals
    go_wp2_with fail
    go_ret
    exact ⟨rfl, HU7.out.clean⟩

set_option maxHeartbeats 8000000 in
theorem ObjB1 (w : World) (n0 : Int) (hk : (IntKind.u64.wrap n0).tmod 6 = 1) (p q : List UInt8) :
    Calls Tryd.prog 6 #[.int .i64 n0, .string (str p), .string (str q)] w fun e w' => e = .returned (.bool true) ∧ Below w.heap.size w w' := by
  have hsp := str_size p
  have hsq := str_size q
  obtain ⟨N, hN⟩ : ∃ N : Nat, Hid (N = 19998) := ⟨_, Lib.hid rfl⟩
  have hNi : (N : Int) = 19998 := by have := hN.out; omega
  obtain ⟨M, hM⟩ : ∃ M : Nat, Hid (M = 998) := ⟨_, Lib.hid rfl⟩
  have hMi : (M : Int) = 998 := by have := hM.out; omega
  have hmk := run_make_row' (P := Tryd.prog) 28 5 (.int .u8 0) 1 Tryd.underlying28 infoU8 rfl .i64 .i64 N (by omega) (by omega)
  rw [hNi] at hmk
  have hmk2 := run_make_row' (P := Tryd.prog) 28 5 (.int .u8 0) 1 Tryd.underlying28 infoU8 rfl .i64 .i64 M (by omega) (by omega)
  rw [hMi] at hmk2
  clear hNi hMi
  have HMK2 := Lib.hid hmk2
  clear hmk2
  obtain ⟨l1, hl1, hz⟩ := zeros1 w N (by have := hN.out; omega)
  have hb := oBlob_any l1 (w.alloc (.cells (madeCells #[.int .u8 0] N) 5))
  have hbE : blobE l1 = 0 := by unfold blobE; rw [hl1.out, hN.out]; decide
  rw [hbE] at hb
  have HB := Lib.hid hb
  have HU0 := Lib.hid (Upd.alloc (fun _ => False) w (.cells (madeCells #[.int .u8 0] N) 5))
  clear hb hbE
  go_enter Tryd.func6, Tryd.ntmps6
  go_wp2_with fail
  refine HB.out.mono ?_
  unfold Packed
  rintro e w1 ⟨a1, c1, rfl, hv1, hf1, hU1⟩
  have HU1 := Lib.hid (HU0.out.trans hU1)
  clear hv1 hf1 hU1 HB HU0 hmk hz
  obtain ⟨l2, hl2, hz⟩ := zeros1 w1 M (by have := hM.out; omega)
  have hc := oCommit_any (bCom l2) (w1.alloc (.cells (madeCells #[.int .u8 0] M) 5))
  have hcE : comE (bCom l2) = 0 := by rw [bCom_E, hl2.out, hM.out]; decide
  rw [hcE, bCom_lit] at hc
  have HC := Lib.hid hc
  have HU2 := Lib.hid (HU1.out.trans (Upd.alloc (fun _ => False) w1 (.cells (madeCells #[.int .u8 0] M) 5)))
  have hmk := HMK2.out
  clear hc hcE
  go_wp2_with fail
  refine HC.out.mono ?_
  unfold Packed
  rintro e w2 ⟨a2, c2, rfl, hv2, hf2, hU2⟩
  have HU3 := Lib.hid (HU2.out.trans hU2)
  clear hv2 hf2 hU2 HC HU2 hmk hz HU1 HMK2
  by_cases h60 : 60 < p.length
  · have hI : (60 : Int) < (p.length : Int) := by omega
    go_wp2_with fail
    refine (awake15_any _).mono ?_
    rintro e w3 ⟨rfl, hU⟩
    have HU4 := Lib.hid (HU3.out.trans hU)
    clear hU
    go_wp2_with fail
    go_ret
    exact ⟨rfl, HU4.out.clean⟩
  have hI1 : decide ((60 : Int) < (p.length : Int)) = false := by rw [decide_eq_false_iff_not]; omega
  by_cases h61 : 60 < q.length
  · have hI : (60 : Int) < (q.length : Int) := by omega
    go_wp2_with fail
    refine (awake15_any _).mono ?_
    rintro e w3 ⟨rfl, hU⟩
    have HU4 := Lib.hid (HU3.out.trans hU)
    clear hU
    go_wp2_with fail
    go_ret
    exact ⟨rfl, HU4.out.clean⟩
  have hI2 : decide ((60 : Int) < (q.length : Int)) = false := by rw [decide_eq_false_iff_not]; omega
  have ht1 := fun w => oTree_any (some ⟨w.heap.size, 0, none⟩) 2 [entP p, entP q] _ (two_ents w p q)
  have ht2 := fun w => r15Tree_any (some ⟨w.heap.size, 0, none⟩) 2 [entP p, entP q] _ (two_ents w p q)
  have ht3 := fun w => oTree_any (some ⟨w.heap.size, 0, none⟩) 2 [entP q, entP p] _ (two_ents w q p)
  have hnb := not_both p q
  have e1 : treeE [entP p, entP q] = if treeL [entP p, entP q] = true then 0 else 5 := rfl
  have e2 : treeE [entP q, entP p] = if treeL [entP q, entP p] = true then 0 else 5 := rfl
  generalize treeE [entP p, entP q] = E1 at *
  generalize treeE [entP q, entP p] = E2 at *
  have hee : (E1 = 0 ∧ E2 = 5) ∨ (E1 = 5 ∧ E2 = 0) ∨ (E1 = 5 ∧ E2 = 5) := by
    by_cases h1 : treeL [entP p, entP q] = true
    · rw [if_pos h1] at e1
      have h2 : ¬ treeL [entP q, entP p] = true := fun h => hnb ⟨h1, h⟩
      rw [if_neg h2] at e2
      exact .inl ⟨e1, e2⟩
    · rw [if_neg h1] at e1
      by_cases h2 : treeL [entP q, entP p] = true
      · rw [if_pos h2] at e2; exact .inr (.inl ⟨e1, e2⟩)
      · rw [if_neg h2] at e2; exact .inr (.inr ⟨e1, e2⟩)
  have HT1 := Lib.hid ht1
  have HT2 := Lib.hid ht2
  have HT3 := Lib.hid ht3
  have HEE := Lib.hid hee
  clear ht1 ht2 ht3 hnb e1 e2 hee
  go_wp2_with fail
  refine (HT1.out _).mono ?_
  unfold Packed
  rintro e w3 ⟨a3, c3, rfl, hv3, hf3, hU3⟩
  have HU4 := Lib.hid ((HU3.out.trans (Upd.alloc (fun _ => False) w2 _)).trans hU3)
  clear hv3 hf3 hU3 HU3
  go_wp2_with fail
  refine (HT2.out _).mono ?_
  unfold Packed
  rintro e w4 ⟨a4, c4, rfl, hv4, hf4, hU4⟩
  have HU5 := Lib.hid ((HU4.out.trans (Upd.alloc (fun _ => False) w3 _)).trans hU4)
  clear hv4 hf4 hU4 HU4
  go_wp2_with fail
  refine (HT3.out _).mono ?_
  unfold Packed
  rintro e w5 ⟨a5, c5, rfl, hv5, hf5, hU5⟩
  have HU6 := Lib.hid ((HU5.out.trans (Upd.alloc (fun _ => False) w4 _)).trans hU5)
  clear hv5 hf5 hU5 HU5 HT1 HT2 HT3
  go_wp2_with fail
  refine (awake15_any _).mono ?_
  rintro e w6 ⟨rfl, hU⟩
  have HU7 := Lib.hid (HU6.out.trans hU)
  clear hU HU6
  have hee := HEE.out
  clear HEE
  rcases hee with ⟨rfl, rfl⟩ | ⟨rfl, rfl⟩ | ⟨rfl, rfl⟩
  all_goals
    go_wp2_with fail
    go_ret
    exact ⟨rfl, HU7.out.clean⟩

set_option maxHeartbeats 8000000 in
theorem ObjB2 (w : World) (n0 : Int) (hk : (IntKind.u64.wrap n0).tmod 6 = 2) (p q : List UInt8) :
    Calls Tryd.prog 6 #[.int .i64 n0, .string (str p), .string (str q)] w fun e w' => e = .returned (.bool true) ∧ Below w.heap.size w w' := by
  have hsp := str_size p
  have hsq := str_size q
  obtain ⟨N, hN⟩ : ∃ N : Nat, Hid (N = 19999) := ⟨_, Lib.hid rfl⟩
  have hNi : (N : Int) = 19999 := by have := hN.out; omega
  obtain ⟨M, hM⟩ : ∃ M : Nat, Hid (M = 999) := ⟨_, Lib.hid rfl⟩
  have hMi : (M : Int) = 999 := by have := hM.out; omega
  have hmk := run_make_row' (P := Tryd.prog) 28 5 (.int .u8 0) 1 Tryd.underlying28 infoU8 rfl .i64 .i64 N (by omega) (by omega)
  rw [hNi] at hmk
  have hmk2 := run_make_row' (P := Tryd.prog) 28 5 (.int .u8 0) 1 Tryd.underlying28 infoU8 rfl .i64 .i64 M (by omega) (by omega)
  rw [hMi] at hmk2
  clear hNi hMi
  have HMK2 := Lib.hid hmk2
  clear hmk2
  obtain ⟨l1, hl1, hz⟩ := zeros1 w N (by have := hN.out; omega)
  have hb := oBlob_any l1 (w.alloc (.cells (madeCells #[.int .u8 0] N) 5))
  have hbE : blobE l1 = 0 := by unfold blobE; rw [hl1.out, hN.out]; decide
  rw [hbE] at hb
  have HB := Lib.hid hb
  have HU0 := Lib.hid (Upd.alloc (fun _ => False) w (.cells (madeCells #[.int .u8 0] N) 5))
  clear hb hbE
  go_enter Tryd.func6, Tryd.ntmps6
  go_wp2_with fail
  refine HB.out.mono ?_
  unfold Packed
  rintro e w1 ⟨a1, c1, rfl, hv1, hf1, hU1⟩
  have HU1 := Lib.hid (HU0.out.trans hU1)
  clear hv1 hf1 hU1 HB HU0 hmk hz
  obtain ⟨l2, hl2, hz⟩ := zeros1 w1 M (by have := hM.out; omega)
  have hc := oCommit_any (bCom l2) (w1.alloc (.cells (madeCells #[.int .u8 0] M) 5))
  have hcE : comE (bCom l2) = 0 := by rw [bCom_E, hl2.out, hM.out]; decide
  rw [hcE, bCom_lit] at hc
  have HC := Lib.hid hc
  have HU2 := Lib.hid (HU1.out.trans (Upd.alloc (fun _ => False) w1 (.cells (madeCells #[.int .u8 0] M) 5)))
  have hmk := HMK2.out
  clear hc hcE
  go_wp2_with fail
  refine HC.out.mono ?_
  unfold Packed
  rintro e w2 ⟨a2, c2, rfl, hv2, hf2, hU2⟩
  have HU3 := Lib.hid (HU2.out.trans hU2)
  clear hv2 hf2 hU2 HC HU2 hmk hz HU1 HMK2
  by_cases h60 : 60 < p.length
  · have hI : (60 : Int) < (p.length : Int) := by omega
    go_wp2_with fail
    refine (awake15_any _).mono ?_
    rintro e w3 ⟨rfl, hU⟩
    have HU4 := Lib.hid (HU3.out.trans hU)
    clear hU
    go_wp2_with fail
    go_ret
    exact ⟨rfl, HU4.out.clean⟩
  have hI1 : decide ((60 : Int) < (p.length : Int)) = false := by rw [decide_eq_false_iff_not]; omega
  by_cases h61 : 60 < q.length
  · have hI : (60 : Int) < (q.length : Int) := by omega
    go_wp2_with fail
    refine (awake15_any _).mono ?_
    rintro e w3 ⟨rfl, hU⟩
    have HU4 := Lib.hid (HU3.out.trans hU)
    clear hU
    go_wp2_with fail
    go_ret
    exact ⟨rfl, HU4.out.clean⟩
  have hI2 : decide ((60 : Int) < (q.length : Int)) = false := by rw [decide_eq_false_iff_not]; omega
  have ht1 := fun w => oTree_any (some ⟨w.heap.size, 0, none⟩) 2 [entP p, entP q] _ (two_ents w p q)
  have ht2 := fun w => r15Tree_any (some ⟨w.heap.size, 0, none⟩) 2 [entP p, entP q] _ (two_ents w p q)
  have ht3 := fun w => oTree_any (some ⟨w.heap.size, 0, none⟩) 2 [entP q, entP p] _ (two_ents w q p)
  have hnb := not_both p q
  have e1 : treeE [entP p, entP q] = if treeL [entP p, entP q] = true then 0 else 5 := rfl
  have e2 : treeE [entP q, entP p] = if treeL [entP q, entP p] = true then 0 else 5 := rfl
  generalize treeE [entP p, entP q] = E1 at *
  generalize treeE [entP q, entP p] = E2 at *
  have hee : (E1 = 0 ∧ E2 = 5) ∨ (E1 = 5 ∧ E2 = 0) ∨ (E1 = 5 ∧ E2 = 5) := by
    by_cases h1 : treeL [entP p, entP q] = true
    · rw [if_pos h1] at e1
      have h2 : ¬ treeL [entP q, entP p] = true := fun h => hnb ⟨h1, h⟩
      rw [if_neg h2] at e2
      exact .inl ⟨e1, e2⟩
    · rw [if_neg h1] at e1
      by_cases h2 : treeL [entP q, entP p] = true
      · rw [if_pos h2] at e2; exact .inr (.inl ⟨e1, e2⟩)
      · rw [if_neg h2] at e2; exact .inr (.inr ⟨e1, e2⟩)
  have HT1 := Lib.hid ht1
  have HT2 := Lib.hid ht2
  have HT3 := Lib.hid ht3
  have HEE := Lib.hid hee
  clear ht1 ht2 ht3 hnb e1 e2 hee
  go_wp2_with fail
  refine (HT1.out _).mono ?_
  unfold Packed
  rintro e w3 ⟨a3, c3, rfl, hv3, hf3, hU3⟩
  have HU4 := Lib.hid ((HU3.out.trans (Upd.alloc (fun _ => False) w2 _)).trans hU3)
  clear hv3 hf3 hU3 HU3
  go_wp2_with fail
  refine (HT2.out _).mono ?_
  unfold Packed
  rintro e w4 ⟨a4, c4, rfl, hv4, hf4, hU4⟩
  have HU5 := Lib.hid ((HU4.out.trans (Upd.alloc (fun _ => False) w3 _)).trans hU4)
  clear hv4 hf4 hU4 HU4
  go_wp2_with fail
  refine (HT3.out _).mono ?_
  unfold Packed
  rintro e w5 ⟨a5, c5, rfl, hv5, hf5, hU5⟩
  have HU6 := Lib.hid ((HU5.out.trans (Upd.alloc (fun _ => False) w4 _)).trans hU5)
  clear hv5 hf5 hU5 HU5 HT1 HT2 HT3
  go_wp2_with fail
  refine (awake15_any _).mono ?_
  rintro e w6 ⟨rfl, hU⟩
  have HU7 := Lib.hid (HU6.out.trans hU)
  clear hU HU6
  have hee := HEE.out
  clear HEE
  rcases hee with ⟨rfl, rfl⟩ | ⟨rfl, rfl⟩ | ⟨rfl, rfl⟩
  all_goals
    go_wp2_with fail
    go_ret
    exact ⟨rfl, HU7.out.clean⟩

set_option maxHeartbeats 8000000 in
theorem ObjB3 (w : World) (n0 : Int) (hk : (IntKind.u64.wrap n0).tmod 6 = 3) (p q : List UInt8) :
    Calls Tryd.prog 6 #[.int .i64 n0, .string (str p), .string (str q)] w fun e w' => e = .returned (.bool true) ∧ Below w.heap.size w w' := by
  have hsp := str_size p
  have hsq := str_size q
  obtain ⟨N, hN⟩ : ∃ N : Nat, Hid (N = 20000) := ⟨_, Lib.hid rfl⟩
  have hNi : (N : Int) = 20000 := by have := hN.out; omega
  obtain ⟨M, hM⟩ : ∃ M : Nat, Hid (M = 1000) := ⟨_, Lib.hid rfl⟩
  have hMi : (M : Int) = 1000 := by have := hM.out; omega
  have hmk := run_make_row' (P := Tryd.prog) 28 5 (.int .u8 0) 1 Tryd.underlying28 infoU8 rfl .i64 .i64 N (by omega) (by omega)
  rw [hNi] at hmk
  have hmk2 := run_make_row' (P := Tryd.prog) 28 5 (.int .u8 0) 1 Tryd.underlying28 infoU8 rfl .i64 .i64 M (by omega) (by omega)
  rw [hMi] at hmk2
  clear hNi hMi
  have HMK2 := Lib.hid hmk2
  clear hmk2
  obtain ⟨l1, hl1, hz⟩ := zeros1 w N (by have := hN.out; omega)
  have hb := oBlob_any l1 (w.alloc (.cells (madeCells #[.int .u8 0] N) 5))
  have hbE : blobE l1 = 0 := by unfold blobE; rw [hl1.out, hN.out]; decide
  rw [hbE] at hb
  have HB := Lib.hid hb
  have HU0 := Lib.hid (Upd.alloc (fun _ => False) w (.cells (madeCells #[.int .u8 0] N) 5))
  clear hb hbE
  go_enter Tryd.func6, Tryd.ntmps6
  go_wp2_with fail
  refine HB.out.mono ?_
  unfold Packed
  rintro e w1 ⟨a1, c1, rfl, hv1, hf1, hU1⟩
  have HU1 := Lib.hid (HU0.out.trans hU1)
  clear hv1 hf1 hU1 HB HU0 hmk hz
  obtain ⟨l2, hl2, hz⟩ := zeros1 w1 M (by have := hM.out; omega)
  have hc := oCommit_any (bCom l2) (w1.alloc (.cells (madeCells #[.int .u8 0] M) 5))
  have hcE : comE (bCom l2) = 0 := by rw [bCom_E, hl2.out, hM.out]; decide
  rw [hcE, bCom_lit] at hc
  have HC := Lib.hid hc
  have HU2 := Lib.hid (HU1.out.trans (Upd.alloc (fun _ => False) w1 (.cells (madeCells #[.int .u8 0] M) 5)))
  have hmk := HMK2.out
  clear hc hcE
  go_wp2_with fail
  refine HC.out.mono ?_
  unfold Packed
  rintro e w2 ⟨a2, c2, rfl, hv2, hf2, hU2⟩
  have HU3 := Lib.hid (HU2.out.trans hU2)
  clear hv2 hf2 hU2 HC HU2 hmk hz HU1 HMK2
  by_cases h60 : 60 < p.length
  · have hI : (60 : Int) < (p.length : Int) := by omega
    go_wp2_with fail
    refine (awake15_any _).mono ?_
    rintro e w3 ⟨rfl, hU⟩
    have HU4 := Lib.hid (HU3.out.trans hU)
    clear hU
    go_wp2_with fail
    go_ret
    exact ⟨rfl, HU4.out.clean⟩
  have hI1 : decide ((60 : Int) < (p.length : Int)) = false := by rw [decide_eq_false_iff_not]; omega
  by_cases h61 : 60 < q.length
  · have hI : (60 : Int) < (q.length : Int) := by omega
    go_wp2_with fail
    refine (awake15_any _).mono ?_
    rintro e w3 ⟨rfl, hU⟩
    have HU4 := Lib.hid (HU3.out.trans hU)
    clear hU
    go_wp2_with fail
    go_ret
    exact ⟨rfl, HU4.out.clean⟩
  have hI2 : decide ((60 : Int) < (q.length : Int)) = false := by rw [decide_eq_false_iff_not]; omega
  have ht1 := fun w => oTree_any (some ⟨w.heap.size, 0, none⟩) 2 [entP p, entP q] _ (two_ents w p q)
  have ht2 := fun w => r15Tree_any (some ⟨w.heap.size, 0, none⟩) 2 [entP p, entP q] _ (two_ents w p q)
  have ht3 := fun w => oTree_any (some ⟨w.heap.size, 0, none⟩) 2 [entP q, entP p] _ (two_ents w q p)
  have hnb := not_both p q
  have e1 : treeE [entP p, entP q] = if treeL [entP p, entP q] = true then 0 else 5 := rfl
  have e2 : treeE [entP q, entP p] = if treeL [entP q, entP p] = true then 0 else 5 := rfl
  generalize treeE [entP p, entP q] = E1 at *
  generalize treeE [entP q, entP p] = E2 at *
  have hee : (E1 = 0 ∧ E2 = 5) ∨ (E1 = 5 ∧ E2 = 0) ∨ (E1 = 5 ∧ E2 = 5) := by
    by_cases h1 : treeL [entP p, entP q] = true
    · rw [if_pos h1] at e1
      have h2 : ¬ treeL [entP q, entP p] = true := fun h => hnb ⟨h1, h⟩
      rw [if_neg h2] at e2
      exact .inl ⟨e1, e2⟩
    · rw [if_neg h1] at e1
      by_cases h2 : treeL [entP q, entP p] = true
      · rw [if_pos h2] at e2; exact .inr (.inl ⟨e1, e2⟩)
      · rw [if_neg h2] at e2; exact .inr (.inr ⟨e1, e2⟩)
  have HT1 := Lib.hid ht1
  have HT2 := Lib.hid ht2
  have HT3 := Lib.hid ht3
  have HEE := Lib.hid hee
  clear ht1 ht2 ht3 hnb e1 e2 hee
  go_wp2_with fail
  refine (HT1.out _).mono ?_
  unfold Packed
  rintro e w3 ⟨a3, c3, rfl, hv3, hf3, hU3⟩
  have HU4 := Lib.hid ((HU3.out.trans (Upd.alloc (fun _ => False) w2 _)).trans hU3)
  clear hv3 hf3 hU3 HU3
  go_wp2_with fail
  refine (HT2.out _).mono ?_
  unfold Packed
  rintro e w4 ⟨a4, c4, rfl, hv4, hf4, hU4⟩
  have HU5 := Lib.hid ((HU4.out.trans (Upd.alloc (fun _ => False) w3 _)).trans hU4)
  clear hv4 hf4 hU4 HU4
  go_wp2_with fail
  refine (HT3.out _).mono ?_
  unfold Packed
  rintro e w5 ⟨a5, c5, rfl, hv5, hf5, hU5⟩
  have HU6 := Lib.hid ((HU5.out.trans (Upd.alloc (fun _ => False) w4 _)).trans hU5)
  clear hv5 hf5 hU5 HU5 HT1 HT2 HT3
  go_wp2_with fail
  refine (awake15_any _).mono ?_
  rintro e w6 ⟨rfl, hU⟩
  have HU7 := Lib.hid (HU6.out.trans hU)
  clear hU HU6
  have hee := HEE.out
  clear HEE
  rcases hee with ⟨rfl, rfl⟩ | ⟨rfl, rfl⟩ | ⟨rfl, rfl⟩
  all_goals
    go_wp2_with fail
    go_ret
    exact ⟨rfl, HU7.out.clean⟩

set_option maxHeartbeats 8000000 in
theorem ObjB4 (w : World) (n0 : Int) (hk : (IntKind.u64.wrap n0).tmod 6 = 4) (p q : List UInt8) :
    Calls Tryd.prog 6 #[.int .i64 n0, .string (str p), .string (str q)] w fun e w' => e = .returned (.bool true) ∧ Below w.heap.size w w' := by
  have hsp := str_size p
  have hsq := str_size q
  obtain ⟨N, hN⟩ : ∃ N : Nat, Hid (N = 20001) := ⟨_, Lib.hid rfl⟩
  have hNi : (N : Int) = 20001 := by have := hN.out; omega
  obtain ⟨M, hM⟩ : ∃ M : Nat, Hid (M = 1001) := ⟨_, Lib.hid rfl⟩
  have hMi : (M : Int) = 1001 := by have := hM.out; omega
  have hmk := run_make_row' (P := Tryd.prog) 28 5 (.int .u8 0) 1 Tryd.underlying28 infoU8 rfl .i64 .i64 N (by omega) (by omega)
  rw [hNi] at hmk
  have hmk2 := run_make_row' (P := Tryd.prog) 28 5 (.int .u8 0) 1 Tryd.underlying28 infoU8 rfl .i64 .i64 M (by omega) (by omega)
  rw [hMi] at hmk2
  clear hNi hMi
  have HMK2 := Lib.hid hmk2
  clear hmk2
  obtain ⟨l1, hl1, hz⟩ := zeros1 w N (by have := hN.out; omega)
  have hb := oBlob_any l1 (w.alloc (.cells (madeCells #[.int .u8 0] N) 5))
  have hbE : blobE l1 = 6 := by unfold blobE; rw [hl1.out, hN.out]; decide
  rw [hbE] at hb
  have HB := Lib.hid hb
  have HU0 := Lib.hid (Upd.alloc (fun _ => False) w (.cells (madeCells #[.int .u8 0] N) 5))
  clear hb hbE
  go_enter Tryd.func6, Tryd.ntmps6
  go_wp2_with fail
  refine HB.out.mono ?_
  unfold Packed
  rintro e w1 ⟨a1, c1, rfl, hv1, hf1, hU1⟩
  have HU1 := Lib.hid (HU0.out.trans hU1)
  clear hv1 hf1 hU1 HB HU0 hmk hz
  obtain ⟨l2, hl2, hz⟩ := zeros1 w1 M (by have := hM.out; omega)
  have hc := oCommit_any (bCom l2) (w1.alloc (.cells (madeCells #[.int .u8 0] M) 5))
  have hcE : comE (bCom l2) = 6 := by rw [bCom_E, hl2.out, hM.out]; decide
  rw [hcE, bCom_lit] at hc
  have HC := Lib.hid hc
  have HU2 := Lib.hid (HU1.out.trans (Upd.alloc (fun _ => False) w1 (.cells (madeCells #[.int .u8 0] M) 5)))
  have hmk := HMK2.out
  clear hc hcE
  go_wp2_with fail
  refine HC.out.mono ?_
  unfold Packed
  rintro e w2 ⟨a2, c2, rfl, hv2, hf2, hU2⟩
  have HU3 := Lib.hid (HU2.out.trans hU2)
  clear hv2 hf2 hU2 HC HU2 hmk hz HU1 HMK2
  by_cases h60 : 60 < p.length
  · have hI : (60 : Int) < (p.length : Int) := by omega
    go_wp2_with fail
    refine (awake15_any _).mono ?_
    rintro e w3 ⟨rfl, hU⟩
    have HU4 := Lib.hid (HU3.out.trans hU)
    clear hU
    go_wp2_with fail
    go_ret
    exact ⟨rfl, HU4.out.clean⟩
  have hI1 : decide ((60 : Int) < (p.length : Int)) = false := by rw [decide_eq_false_iff_not]; omega
  by_cases h61 : 60 < q.length
  · have hI : (60 : Int) < (q.length : Int) := by omega
    go_wp2_with fail
    refine (awake15_any _).mono ?_
    rintro e w3 ⟨rfl, hU⟩
    have HU4 := Lib.hid (HU3.out.trans hU)
    clear hU
    go_wp2_with fail
    go_ret
    exact ⟨rfl, HU4.out.clean⟩
  have hI2 : decide ((60 : Int) < (q.length : Int)) = false := by rw [decide_eq_false_iff_not]; omega
  have ht1 := fun w => oTree_any (some ⟨w.heap.size, 0, none⟩) 2 [entP p, entP q] _ (two_ents w p q)
  have ht2 := fun w => r15Tree_any (some ⟨w.heap.size, 0, none⟩) 2 [entP p, entP q] _ (two_ents w p q)
  have ht3 := fun w => oTree_any (some ⟨w.heap.size, 0, none⟩) 2 [entP q, entP p] _ (two_ents w q p)
  have hnb := not_both p q
  have e1 : treeE [entP p, entP q] = if treeL [entP p, entP q] = true then 0 else 5 := rfl
  have e2 : treeE [entP q, entP p] = if treeL [entP q, entP p] = true then 0 else 5 := rfl
  generalize treeE [entP p, entP q] = E1 at *
  generalize treeE [entP q, entP p] = E2 at *
  have hee : (E1 = 0 ∧ E2 = 5) ∨ (E1 = 5 ∧ E2 = 0) ∨ (E1 = 5 ∧ E2 = 5) := by
    by_cases h1 : treeL [entP p, entP q] = true
    · rw [if_pos h1] at e1
      have h2 : ¬ treeL [entP q, entP p] = true := fun h => hnb ⟨h1, h⟩
      rw [if_neg h2] at e2
      exact .inl ⟨e1, e2⟩
    · rw [if_neg h1] at e1
      by_cases h2 : treeL [entP q, entP p] = true
      · rw [if_pos h2] at e2; exact .inr (.inl ⟨e1, e2⟩)
      · rw [if_neg h2] at e2; exact .inr (.inr ⟨e1, e2⟩)
  have HT1 := Lib.hid ht1
  have HT2 := Lib.hid ht2
  have HT3 := Lib.hid ht3
  have HEE := Lib.hid hee
  clear ht1 ht2 ht3 hnb e1 e2 hee
  go_wp2_with fail
  refine (HT1.out _).mono ?_
  unfold Packed
  rintro e w3 ⟨a3, c3, rfl, hv3, hf3, hU3⟩
  have HU4 := Lib.hid ((HU3.out.trans (Upd.alloc (fun _ => False) w2 _)).trans hU3)
  clear hv3 hf3 hU3 HU3
  go_wp2_with fail
  refine (HT2.out _).mono ?_
  unfold Packed
  rintro e w4 ⟨a4, c4, rfl, hv4, hf4, hU4⟩
  have HU5 := Lib.hid ((HU4.out.trans (Upd.alloc (fun _ => False) w3 _)).trans hU4)
  clear hv4 hf4 hU4 HU4
  go_wp2_with fail
  refine (HT3.out _).mono ?_
  unfold Packed
  rintro e w5 ⟨a5, c5, rfl, hv5, hf5, hU5⟩
  have HU6 := Lib.hid ((HU5.out.trans (Upd.alloc (fun _ => False) w4 _)).trans hU5)
  clear hv5 hf5 hU5 HU5 HT1 HT2 HT3
  go_wp2_with fail
  refine (awake15_any _).mono ?_
  rintro e w6 ⟨rfl, hU⟩
  have HU7 := Lib.hid (HU6.out.trans hU)
  clear hU HU6
  have hee := HEE.out
  clear HEE
  rcases hee with ⟨rfl, rfl⟩ | ⟨rfl, rfl⟩ | ⟨rfl, rfl⟩
  all_goals
    go_wp2_with fail
    go_ret
    exact ⟨rfl, HU7.out.clean⟩

set_option maxHeartbeats 8000000 in
theorem ObjB5 (w : World) (n0 : Int) (hk : (IntKind.u64.wrap n0).tmod 6 = 5) (p q : List UInt8) :
    Calls Tryd.prog 6 #[.int .i64 n0, .string (str p), .string (str q)] w fun e w' => e = .returned (.bool true) ∧ Below w.heap.size w w' := by
  have hsp := str_size p
  have hsq := str_size q
  obtain ⟨N, hN⟩ : ∃ N : Nat, Hid (N = 20002) := ⟨_, Lib.hid rfl⟩
  have hNi : (N : Int) = 20002 := by have := hN.out; omega
  obtain ⟨M, hM⟩ : ∃ M : Nat, Hid (M = 1002) := ⟨_, Lib.hid rfl⟩
  have hMi : (M : Int) = 1002 := by have := hM.out; omega
  have hmk := run_make_row' (P := Tryd.prog) 28 5 (.int .u8 0) 1 Tryd.underlying28 infoU8 rfl .i64 .i64 N (by omega) (by omega)
  rw [hNi] at hmk
  have hmk2 := run_make_row' (P := Tryd.prog) 28 5 (.int .u8 0) 1 Tryd.underlying28 infoU8 rfl .i64 .i64 M (by omega) (by omega)
  rw [hMi] at hmk2
  clear hNi hMi
  have HMK2 := Lib.hid hmk2
  clear hmk2
  obtain ⟨l1, hl1, hz⟩ := zeros1 w N (by have := hN.out; omega)
  have hb := oBlob_any l1 (w.alloc (.cells (madeCells #[.int .u8 0] N) 5))
  have hbE : blobE l1 = 6 := by unfold blobE; rw [hl1.out, hN.out]; decide
  rw [hbE] at hb
  have HB := Lib.hid hb
  have HU0 := Lib.hid (Upd.alloc (fun _ => False) w (.cells (madeCells #[.int .u8 0] N) 5))
  clear hb hbE
  go_enter Tryd.func6, Tryd.ntmps6
  go_wp2_with fail
  refine HB.out.mono ?_
  unfold Packed
  rintro e w1 ⟨a1, c1, rfl, hv1, hf1, hU1⟩
  have HU1 := Lib.hid (HU0.out.trans hU1)
  clear hv1 hf1 hU1 HB HU0 hmk hz
  obtain ⟨l2, hl2, hz⟩ := zeros1 w1 M (by have := hM.out; omega)
  have hc := oCommit_any (bCom l2) (w1.alloc (.cells (madeCells #[.int .u8 0] M) 5))
  have hcE : comE (bCom l2) = 6 := by rw [bCom_E, hl2.out, hM.out]; decide
  rw [hcE, bCom_lit] at hc
  have HC := Lib.hid hc
  have HU2 := Lib.hid (HU1.out.trans (Upd.alloc (fun _ => False) w1 (.cells (madeCells #[.int .u8 0] M) 5)))
  have hmk := HMK2.out
  clear hc hcE
  go_wp2_with fail
  refine HC.out.mono ?_
  unfold Packed
  rintro e w2 ⟨a2, c2, rfl, hv2, hf2, hU2⟩
  have HU3 := Lib.hid (HU2.out.trans hU2)
  clear hv2 hf2 hU2 HC HU2 hmk hz HU1 HMK2
  by_cases h60 : 60 < p.length
  · have hI : (60 : Int) < (p.length : Int) := by omega
    go_wp2_with fail
    refine (awake15_any _).mono ?_
    rintro e w3 ⟨rfl, hU⟩
    have HU4 := Lib.hid (HU3.out.trans hU)
    clear hU
    go_wp2_with fail
    go_ret
    exact ⟨rfl, HU4.out.clean⟩
  have hI1 : decide ((60 : Int) < (p.length : Int)) = false := by rw [decide_eq_false_iff_not]; omega
  by_cases h61 : 60 < q.length
  · have hI : (60 : Int) < (q.length : Int) := by omega
    go_wp2_with fail
    refine (awake15_any _).mono ?_
    rintro e w3 ⟨rfl, hU⟩
    have HU4 := Lib.hid (HU3.out.trans hU)
    clear hU
    go_wp2_with fail
    go_ret
    exact ⟨rfl, HU4.out.clean⟩
  have hI2 : decide ((60 : Int) < (q.length : Int)) = false := by rw [decide_eq_false_iff_not]; omega
  have ht1 := fun w => oTree_any (some ⟨w.heap.size, 0, none⟩) 2 [entP p, entP q] _ (two_ents w p q)
  have ht2 := fun w => r15Tree_any (some ⟨w.heap.size, 0, none⟩) 2 [entP p, entP q] _ (two_ents w p q)
  have ht3 := fun w => oTree_any (some ⟨w.heap.size, 0, none⟩) 2 [entP q, entP p] _ (two_ents w q p)
  have hnb := not_both p q
  have e1 : treeE [entP p, entP q] = if treeL [entP p, entP q] = true then 0 else 5 := rfl
  have e2 : treeE [entP q, entP p] = if treeL [entP q, entP p] = true then 0 else 5 := rfl
  generalize treeE [entP p, entP q] = E1 at *
  generalize treeE [entP q, entP p] = E2 at *
  have hee : (E1 = 0 ∧ E2 = 5) ∨ (E1 = 5 ∧ E2 = 0) ∨ (E1 = 5 ∧ E2 = 5) := by
    by_cases h1 : treeL [entP p, entP q] = true
    · rw [if_pos h1] at e1
      have h2 : ¬ treeL [entP q, entP p] = true := fun h => hnb ⟨h1, h⟩
      rw [if_neg h2] at e2
      exact .inl ⟨e1, e2⟩
    · rw [if_neg h1] at e1
      by_cases h2 : treeL [entP q, entP p] = true
      · rw [if_pos h2] at e2; exact .inr (.inl ⟨e1, e2⟩)
      · rw [if_neg h2] at e2; exact .inr (.inr ⟨e1, e2⟩)
  have HT1 := Lib.hid ht1
  have HT2 := Lib.hid ht2
  have HT3 := Lib.hid ht3
  have HEE := Lib.hid hee
  clear ht1 ht2 ht3 hnb e1 e2 hee
  go_wp2_with fail
  refine (HT1.out _).mono ?_
  unfold Packed
  rintro e w3 ⟨a3, c3, rfl, hv3, hf3, hU3⟩
  have HU4 := Lib.hid ((HU3.out.trans (Upd.alloc (fun _ => False) w2 _)).trans hU3)
  clear hv3 hf3 hU3 HU3
  go_wp2_with fail
  refine (HT2.out _).mono ?_
  unfold Packed
  rintro e w4 ⟨a4, c4, rfl, hv4, hf4, hU4⟩
  have HU5 := Lib.hid ((HU4.out.trans (Upd.alloc (fun _ => False) w3 _)).trans hU4)
  clear hv4 hf4 hU4 HU4
  go_wp2_with fail
  refine (HT3.out _).mono ?_
  unfold Packed
  rintro e w5 ⟨a5, c5, rfl, hv5, hf5, hU5⟩
  have HU6 := Lib.hid ((HU5.out.trans (Upd.alloc (fun _ => False) w4 _)).trans hU5)
  clear hv5 hf5 hU5 HU5 HT1 HT2 HT3
  go_wp2_with fail
  refine (awake15_any _).mono ?_
  rintro e w6 ⟨rfl, hU⟩
  have HU7 := Lib.hid (HU6.out.trans hU)
  clear hU HU6
  have hee := HEE.out
  clear HEE
  rcases hee with ⟨rfl, rfl⟩ | ⟨rfl, rfl⟩ | ⟨rfl, rfl⟩
  all_goals
    go_wp2_with fail
    go_ret
    exact ⟨rfl, HU7.out.clean⟩

theorem ObjectBounds_walk (w : World) (n0 : Int) (wn : (Lit.int .i64 n0).wf = true) (ps : ByteArray) (wp : ps.size ≤ maxLen) (qs : ByteArray) (wq : qs.size ≤ maxLen) :
    Calls Tryd.prog 6 #[.int .i64 n0, .string ps, .string qs] w fun e w' => e = .returned (.bool true) ∧ Below w.heap.size w w' := by
  obtain ⟨p, rfl⟩ : ∃ p, ps = str p := ⟨ps.data.toList, (str_data ps).symm⟩
  obtain ⟨q, rfl⟩ : ∃ p, qs = str p := ⟨qs.data.toList, (str_data qs).symm⟩
  have hr := wrap_u64 n0
  have h : (IntKind.u64.wrap n0).tmod 6 = (IntKind.u64.wrap n0) % 6 := Int.tmod_eq_emod_of_nonneg hr.1
  have h6 : (IntKind.u64.wrap n0).tmod 6 = 0 ∨ (IntKind.u64.wrap n0).tmod 6 = 1 ∨ (IntKind.u64.wrap n0).tmod 6 = 2 ∨ (IntKind.u64.wrap n0).tmod 6 = 3 ∨ (IntKind.u64.wrap n0).tmod 6 = 4 ∨ (IntKind.u64.wrap n0).tmod 6 = 5 := by omega
  rcases h6 with h | h | h | h | h | h
  · exact ObjB0 w n0 h p q
  · exact ObjB1 w n0 h p q
  · exact ObjB2 w n0 h p q
  · exact ObjB3 w n0 h p q
  · exact ObjB4 w n0 h p q
  · exact ObjB5 w n0 h p q
end Go.Proofs.YteefceainlfdfaaDoor
