
/- object.right: whether entries are a tree's. -/
import Derived.Test.YteefceainlfdfaaDoorObj2
import Derived.Test.YteefceainlfdfaaDoorCmd5
namespace Go.Proofs.YteefceainlfdfaaDoor
set_option linter.unusedSimpArgs false
set_option linter.unusedVariables false
set_option maxRecDepth 100000
open Go.ChangeShapes Go.WideShapes Go.ChangeAt Go.RowKit

theorem alloc_setRow (w : World) (z cs : Array Value) (t : TypeId) : (w.alloc (.cells z t)).setRow w.heap.size cs = w.alloc (.cells cs t) := by
  unfold World.setRow World.alloc
  congr 1
  apply Array.ext
  · simp
  · intro i h1 h2
    simp only [Array.getElem_modify, Array.getElem_push]
    by_cases h : i < w.heap.size
    · have hne : ¬ w.heap.size = i := by omega
      simp [hne, h]
    · have he : w.heap.size = i := by simp at h1; omega
      simp [he]
theorem entA_size (x : Ent) : (entA x).size = 34 := by unfold entA; simp [entV_len]
theorem entA_one (x : Ent) : (entA x).all (·.oneCell') = true := by unfold entA entV; simp [bvs, bv, sv, Value.oneCell']
/-- An entry is stored in the block that has just been made. -/
theorem wpList_store_ent {ops : Array Oper} {rest : List Oper} {op : Oper} {a : Act} {Q : Exit → Act → World → Prop} (hgd : op.guard = none) (x y : Operand) (ho : op.op = .store 44 x y)
    (w : World) (z : Array Value) (hx : a.eval x = .pointer (some ⟨w.heap.size, 0, none⟩)) (e : Ent) (hy : a.eval y = .agg (entA e)) (hz : z.size = 34)
    (h : wpList Tryd.prog ops Q rest (a.put op.dst undef) (w.alloc (.cells (entA e) 44))) : wpList Tryd.prog ops Q (op :: rest) a (w.alloc (.cells z 44)) := by
  refine wpList_plain hgd fun K hK => ?_
  have hs := run_storeVar_row (P := Tryd.prog) (w.alloc (.cells z 44)) w.heap.size 44 44 z (entA e) (heap_alloc_new _ _) (by rw [infoEnt, entA_size]) (by rw [hz, entA_size]) (entA_one e)
  rw [alloc_setRow] at hs
  have h2 := hK _ _ h
  unfold Oper.wp execOp
  simp only [ho, hx, hy, Instr.storeAt, Instr.sureAddr, Sem.run_bind, Sem.run_pure, Result.andThen_ok, hs]
  exact h2

/-- What is wrong at the i-th entry. -/
def badAt (l : List Ent) (i : Nat) : Bool :=
  match l[i]? with
  | none => false
  | some x => !pathL x.path || (decide (0 < i) && leS x.path ((l[i - 1]?.map (·.path)).getD [])) || (l.take i).any (clashWith x.path)
def treeL (l : List Ent) : Bool := decide (l.length ≤ 100) && !(List.range l.length).any (badAt l)
theorem range_any_succ (p : Nat → Bool) (j : Nat) : (List.range (j + 1)).any p = ((List.range j).any p || p j) := by
  rw [List.range_succ, List.any_append]; simp
theorem range_any_le (p : Nat → Bool) (j n : Nat) (h : j ≤ n) (hj : (List.range j).any p = true) : (List.range n).any p = true := by
  rw [List.any_eq_true] at hj ⊢
  obtain ⟨x, hx, hp⟩ := hj
  exact ⟨x, by rw [List.mem_range] at hx ⊢; omega, hp⟩
theorem badAt_path (l : List Ent) (i : Nat) (hi : i < l.length) (h : badAt l i = false) : pathL l[i].path = true := by
  unfold badAt at h
  rw [List.getElem?_eq_getElem hi] at h
  simp at h
  exact h.1.1
theorem taken_short (l : List Ent) (j : Nat) (hj : j ≤ l.length) (h : (List.range j).any (badAt l) = false) : ∀ x ∈ l.take j, x.path.length ≤ 100 := by
  intro x hx
  obtain ⟨i, hi, rfl⟩ := List.getElem_of_mem hx
  rw [List.length_take] at hi
  rw [List.getElem_take]
  refine pathL_len _ (badAt_path l i (by omega) ?_)
  rw [List.any_eq_false] at h
  have := h i (by rw [List.mem_range]; omega)
  simpa using this
theorem ent_take (l : List Ent) (j : Nat) (hj : j ≤ l.length) : (l.flatMap entV).take (j * 34) = (l.take j).flatMap entV := by
  induction l generalizing j with
  | nil => simp
  | cons x l ih =>
    cases j with
    | zero => simp
    | succ j =>
      simp only [List.flatMap_cons, List.take_succ_cons]
      rw [List.take_append, entV_len, List.take_of_length_le (by rw [entV_len]; omega), show (j + 1) * 34 - 34 = j * 34 from by omega, ih j (by simpa using hj)]
theorem leq_paths (a b : List UInt8) (w : World) : (binOp .leq 9 (.string (str a)) (.string (str b))).run Tryd.prog w = .ok (.bool (leS a b)) w := leq_str a b w

set_option maxHeartbeats 4000000 in
theorem oright_any (a : Option Addr) (c : Nat) (l : List Ent) (w : World) (hv : Vw w a l.length c 34 (l.flatMap entV)) :
    Calls Tryd.prog 46 #[.slice a l.length c] w fun e w' => e = .returned (.bool (treeL l)) ∧ Upd (fun _ => False) w w' := by
  have hcap := hv.cap
  have hlc := hv.le
  unfold maxLen at hcap
  have HV := Lib.hid hv
  clear hv
  by_cases h100 : l.length ≤ 100
  case neg =>
    have hI : (100 : Int) < (l.length : Int) := by omega
    have hT : Hid (treeL l = false) := by show _ = _; unfold treeL; rw [decide_eq_false h100]; rfl
    clear h100
    go_enter Tryd.func46, Tryd.ntmps46
    go_wp2_with fail
    go_ret
    exact ⟨by rw [hT.out]; rfl, Upd.refl _ _⟩
  have hI1 : decide ((100 : Int) < (l.length : Int)) = false := by rw [decide_eq_false_iff_not]; omega
  have hT : Hid (treeL l = !(List.range l.length).any (badAt l)) := by show _ = _; unfold treeL; rw [decide_eq_true h100]; rfl
  go_enter Tryd.func46, Tryd.ntmps46
  go_wp2_with fail
  clear hI1
  go_loopw [10] (fun i wr => ∃ j : Nat, j ≤ l.length ∧ i = .int .i64 (j : Int) ∧ Hid ((List.range j).any (badAt l) = false) ∧ Upd (fun _ => False) w wr) (fun i _ => l.length - (intOf i).toNat)
  case atStart => exact ⟨0, Nat.zero_le _, rfl, (by show _ = _; simp), Upd.refl _ _⟩
  case round =>
    obtain ⟨j, hj, rfl, hA, hU⟩ := hrel
    by_cases hlt : j < l.length
    · have hI : (j : Int) < (l.length : Int) := by omega
      have hv := HV.out.upd hU (fun _ _ h => h)
      obtain ⟨b, o, hb, hcell⟩ := ent_at hv (by omega)
      subst hb
      have hrg := hcell j hlt
      have hs := range_any_succ (badAt l) j
      rw [hA.out, Bool.false_or] at hs
      have hbad : badAt l j = (!pathL l[j].path || (decide (0 < j) && leS l[j].path ((l[j - 1]?.map (·.path)).getD [])) || (l.take j).any (clashWith l[j].path)) := by
        unfold badAt; rw [List.getElem?_eq_getElem hlt]
      have hpr : ∀ (h1 : 0 < j), (l[j - 1]?.map (·.path)).getD [] = (l[j - 1]'(by omega)).path := fun h1 => by
        rw [List.getElem?_eq_getElem (show j - 1 < l.length by omega)]; rfl
      have hcl := hcell
      have HCL := Lib.hid hcl
      have HSH := Lib.hid (taken_short l j hj hA.out)
      have HVJ : Hid (Vw wr (some ⟨b, o, none⟩) j c 34 ((l.take j).flatMap entV)) := by
        have := hv.pre j hj
        rw [ent_take l j hj] at this
        exact Lib.hid this
      have hall : badAt l j = true → Hid ((List.range l.length).any (badAt l) = true) := fun h => Lib.hid (range_any_le (badAt l) (j + 1) l.length (by omega) (by rw [hs, h]))
      have HS := Lib.hid hs
      have HALL := Lib.hid hall
      have HBAD := Lib.hid hbad
      have HPR := Lib.hid hpr
      have hxlen : pathL l[j].path = true → l[j].path.length ≤ 100 := pathL_len _
      have HXL := Lib.hid hxlen
      clear hcell hcl hv hs hall hbad hpr hxlen hA
      generalize l[j] = x at *
      go_upto_region 6 with first
        | refine wpList_load_ent rfl (.tmp 13) rfl b (o + j * 34) rfl x hrg ?_
        | refine wpList_store_ent rfl (.tmp 4) (.tmp 14) rfl wr _ rfl x rfl rfl ?_
      have hpx := ent_path (ent_row wr x)
      have hU1 := hU.trans (Upd.alloc (fun _ => False) wr (.cells (entA x) 44))
      have hyv := fun k hk => (Upd.alloc (fun _ => False) wr (.cells (entA x) 44)).cell (p := k) hk (fun h => h)
      have hBw : wr.heap.size < (wr.alloc (.cells (entA x) 44)).heap.size := by simp
      have hwy := (Upd.alloc (fun _ => False) wr (.cells (entA x) 44))
      have HWY := Lib.hid hwy
      have HU := Lib.hid hU1
      simp only [Act.put]
      generalize wr.alloc (.cells (entA x) 44) = y0 at *
      obtain ⟨B, hB⟩ : ∃ B, wr.heap.size = B := ⟨_, rfl⟩
      rw [hB] at hpx hBw ⊢
      have HRI : Hid (∀ w, Calls Tryd.prog 87 #[.string (str x.path)] w fun e w' => e = .returned (.bool (pathL x.path)) ∧ Upd (fun _ => False) w w') := Lib.hid (fun w => pRight_any x.path w)
      have hq : y0.drew.cell? ⟨B, 0, none⟩ = some (.string (str x.path)) := hpx
      have HQ := Lib.hid hq
      clear hU hU1 hyv hwy hpx hq
      cases hP : pathL x.path with
      | false =>
        have HR := HALL.out (by rw [HBAD.out, hP]; rfl)
        rw [hP] at HRI
        refine wp_region_plan_last [([0, 1], 2), ([3, 4, 5, 6, 7, 8, 9, 10, 11, 12, 13, 14, 15, 16, 17, 18, 19, 20, 21, 22, 23], 24)] [25] (fun w' => w'.cell? ⟨B, 0, none⟩ = some (.string (str x.path))) (by kernel_rfl) (by kernel_rfl) HQ.out ?_
        iterate 2
          first
          | (refine plan_skip rfl rfl ?_)
          | (refine plan_take (v := ?_) rfl rfl (fun w' hS => ?_) ?_
             rotate_left
             · skip
               go_simp; try with_reducible rfl)
          simp only [Act.put, List.getElem_toArray, List.getElem_cons_zero, List.getElem_cons_succ, List.setIfInBounds_toArray, List.set_cons_zero, List.set_cons_succ]
        refine plan_act rfl (fun KK hKK => ?_)
        go_wp2_with fail
        refine (HRI.out _).mono ?_
        rintro e w2 ⟨rfl, hU2⟩
        have hq2 := (hU2.cell (p := ⟨B, 0, none⟩) hBw (fun h => h)).trans HQ.out
        have hU3 := (HU.out.trans (Upd.drew _ _)).trans hU2
        have HU3 := Lib.hid hU3
        have HQ2 := Lib.hid hq2
        clear hU2 hU3 hq2
        go_wp2_with fail
        refine hKK.out _ _ (.inr HQ2.out) ?_
        iterate 21
          first
          | (refine plan_skip rfl rfl ?_)
          | (refine plan_take (v := ?_) rfl rfl (fun w' hS => ?_) ?_
             rotate_left
             · skip
               go_simp; try with_reducible rfl)
          simp only [Act.put, List.getElem_toArray, List.getElem_cons_zero, List.getElem_cons_succ, List.setIfInBounds_toArray, List.set_cons_zero, List.set_cons_succ]
        refine plan_act rfl (fun K2 hK2 => ?_)
        go_wp2_with fail
        refine hK2.out _ _ (.inr HQ2.out) ?_
        iterate 1
          first
          | (refine plan_lskip rfl rfl ?_)
          | (refine plan_last (v := ?_) rfl rfl (fun w' hS => ?_) ?_
             rotate_left
             · skip
               go_simp; try with_reducible rfl)
          simp only [Act.put, List.getElem_toArray, List.getElem_cons_zero, List.getElem_cons_succ, List.setIfInBounds_toArray, List.set_cons_zero, List.set_cons_succ]
        refine plan_end ?_
        go_wp2_with fail
        go_ret
        exact ⟨by rw [hT.out, HR.out]; rfl, HU3.out⟩
      | true =>
        rw [hP] at HRI
        have hBAD := HBAD.out
        rw [hP] at hBAD
        simp only [Bool.not_true, Bool.false_or] at hBAD
        have HB2 := Lib.hid hBAD
        have hxl := HXL.out hP
        have hcf : Hid (∀ w', Upd (fun _ => False) wr w' → w'.cell? ⟨B, 0, none⟩ = some (.string (str x.path)) → Calls Tryd.prog 92 #[.slice (some ⟨b, o, none⟩) j c, .func (.func 93) #[] #[.pointer (some ⟨B, 0, none⟩)]] w' fun e w'' => e = .returned (.bool ((l.take j).any (clashWith x.path))) ∧ Upd (fun _ => False) w' w'') := by
          refine Lib.hid (fun w' h1 h2 => ?_)
          have hlen : (l.take j).length = j := by rw [List.length_take]; omega
          have := cfE_any (some ⟨b, o, none⟩) c (l.take j) x.path B w' (by rw [hlen]; exact HVJ.out.upd h1 (fun _ _ h => h)) h2 (fun y hy => by have := HSH.out y hy; omega) (by omega)
          rw [hlen] at this
          exact this
        have hmf : ∀ (fn : Fn) (first cap : Array Value) (w : World), (Instr.makeFunc fn first cap).run Tryd.prog w = .ok (.func fn first cap) w := fun _ _ _ _ => rfl
        clear hBAD HBAD HXL hxl HVJ HSH
        have hjc : j ≤ c := by omega
        by_cases h0 : 0 < j
        · have hpv := ent_path (HCL.out (j - 1) (by omega))
          rw [← HPR.out h0] at hpv
          have hj1 : (j : Int) - 1 = ((j - 1 : Nat) : Int) := by omega
          have hj2 : j - 1 < l.length := by omega
          rw [decide_eq_true h0, Bool.true_and] at HB2
          generalize (l[j - 1]?.map (·.path)).getD [] = pr at *
          generalize j - 1 = m at hpv hj1 hj2
          have hwj : IntKind.i64.wrap (m : Int) = (m : Int) := IntWalk.i64_in _ (by omega)
          have hj3 : (m : Int) < (l.length : Int) := by omega
          have hq1 : y0.drew.cell? ⟨b, o + m * 34, none⟩ = some (.string (str pr)) := (HWY.out.cell (p := ⟨b, o + m * 34, none⟩) (World.block_lt_of_cell? wr _ hpv) (fun h => h)).trans hpv
          have HQ1 := Lib.hid hq1
          have hI0 : (0 : Int) < (j : Int) := by omega
          have HLQ : Hid ((Op.bytesLess x.path pr || x.path == pr) = leS x.path pr) := Lib.hid rfl
          clear hpv hq1
          generalize leS x.path pr = le at *
          cases le with
          | true =>
            have HR := HALL.out (by rw [HB2.out]; rfl)
            refine wp_region_plan_last [([0, 1], 2), ([3, 4, 5, 6, 7, 8, 9, 10, 11, 12, 13, 14, 15, 16, 17, 18, 19, 20, 21, 22, 23], 24)] [25] (fun w' => w'.cell? ⟨B, 0, none⟩ = some (.string (str x.path)) ∧ w'.cell? ⟨b, o + m * 34, none⟩ = some (.string (str pr))) (by kernel_rfl) (by kernel_rfl) ⟨HQ.out, HQ1.out⟩ ?_
            iterate 2
              first
              | (refine plan_skip rfl rfl ?_)
              | (refine plan_take (v := ?_) rfl rfl (fun w' hS => ?_) ?_
                 rotate_left
                 · skip
                   go_simp; try with_reducible rfl)
              simp only [Act.put, List.getElem_toArray, List.getElem_cons_zero, List.getElem_cons_succ, List.setIfInBounds_toArray, List.set_cons_zero, List.set_cons_succ]
            refine plan_act rfl (fun KK hKK => ?_)
            go_wp2_with fail
            refine (HRI.out _).mono ?_
            rintro e w2 ⟨rfl, hU2⟩
            have hq2 := (hU2.cell (p := ⟨B, 0, none⟩) hBw (fun h => h)).trans HQ.out
            have hq3 := (hU2.cell (p := ⟨b, o + m * 34, none⟩) (World.block_lt_of_cell? y0.drew _ HQ1.out) (fun h => h)).trans HQ1.out
            have hU3 := (HU.out.trans (Upd.drew _ _)).trans hU2
            have HU3 := Lib.hid hU3
            have HQ2 := Lib.hid (And.intro hq2 hq3)
            clear hU2 hU3 hq2 hq3
            go_wp2_with fail
            refine hKK.out _ _ (.inr HQ2.out) ?_
            iterate 21
              first
              | (refine plan_skip rfl rfl ?_)
              | (refine plan_take (v := ?_) rfl rfl (fun w' hS => ?_) ?_
                 rotate_left
                 · skip
                   go_simp; try with_reducible rfl)
              simp only [HLQ.out, Act.put, List.getElem_toArray, List.getElem_cons_zero, List.getElem_cons_succ, List.setIfInBounds_toArray, List.set_cons_zero, List.set_cons_succ]
            refine plan_act rfl (fun K2 hK2 => ?_)
            go_wp2_with fail
            refine hK2.out _ _ (.inr HQ2.out) ?_
            iterate 1
              first
              | (refine plan_lskip rfl rfl ?_)
              | (refine plan_last (v := ?_) rfl rfl (fun w' hS => ?_) ?_
                 rotate_left
                 · skip
                   go_simp; try with_reducible rfl)
              simp only [Act.put, List.getElem_toArray, List.getElem_cons_zero, List.getElem_cons_succ, List.setIfInBounds_toArray, List.set_cons_zero, List.set_cons_succ]
            refine plan_end ?_
            go_wp2_with fail
            go_ret
            exact ⟨by rw [hT.out, HR.out]; rfl, HU3.out⟩
          | false =>
            rw [Bool.false_or] at HB2
            generalize (l.take j).any (clashWith x.path) = cl at *
            refine wp_region_plan_last [([0, 1], 2), ([3, 4, 5, 6, 7, 8, 9, 10, 11, 12, 13, 14, 15, 16, 17, 18, 19, 20, 21, 22, 23], 24)] [25] (fun w' => w'.cell? ⟨B, 0, none⟩ = some (.string (str x.path)) ∧ w'.cell? ⟨b, o + m * 34, none⟩ = some (.string (str pr))) (by kernel_rfl) (by kernel_rfl) ⟨HQ.out, HQ1.out⟩ ?_
            iterate 2
              first
              | (refine plan_skip rfl rfl ?_)
              | (refine plan_take (v := ?_) rfl rfl (fun w' hS => ?_) ?_
                 rotate_left
                 · skip
                   go_simp; try with_reducible rfl)
              simp only [Act.put, List.getElem_toArray, List.getElem_cons_zero, List.getElem_cons_succ, List.setIfInBounds_toArray, List.set_cons_zero, List.set_cons_succ]
            refine plan_act rfl (fun KK hKK => ?_)
            go_wp2_with fail
            refine (HRI.out _).mono ?_
            rintro e w2 ⟨rfl, hU2⟩
            have hq2 := (hU2.cell (p := ⟨B, 0, none⟩) hBw (fun h => h)).trans HQ.out
            have hq3 := (hU2.cell (p := ⟨b, o + m * 34, none⟩) (World.block_lt_of_cell? y0.drew _ HQ1.out) (fun h => h)).trans HQ1.out
            have hU3 := (HU.out.trans (Upd.drew _ _)).trans hU2
            have hUr := (HWY.out.trans (Upd.drew _ _)).trans hU2
            have HU3 := Lib.hid hU3
            have HUR := Lib.hid hUr
            have HQ2 := Lib.hid (And.intro hq2 hq3)
            clear hU2 hU3 hq2 hq3 hUr
            go_wp2_with fail
            refine hKK.out _ _ (.inr HQ2.out) ?_
            iterate 21
              first
              | (refine plan_skip rfl rfl ?_)
              | (refine plan_take (v := ?_) rfl rfl (fun w' hS => ?_) ?_
                 rotate_left
                 · skip
                   go_simp; try with_reducible rfl)
              simp only [HLQ.out, Act.put, List.getElem_toArray, List.getElem_cons_zero, List.getElem_cons_succ, List.setIfInBounds_toArray, List.set_cons_zero, List.set_cons_succ]
            refine plan_act rfl (fun K2 hK2 => ?_)
            go_wp2_with fail
            refine (hcf.out _ HUR.out HQ2.out.1).mono ?_
            rintro e w3 ⟨rfl, hU4⟩
            have hq4 := (hU4.cell (p := ⟨B, 0, none⟩) (World.block_lt_of_cell? _ _ HQ2.out.1) (fun h => h)).trans HQ2.out.1
            have hq5 := (hU4.cell (p := ⟨b, o + m * 34, none⟩) (World.block_lt_of_cell? _ _ HQ2.out.2) (fun h => h)).trans HQ2.out.2
            have HU4 := Lib.hid (HU3.out.trans hU4)
            have HQ4 := Lib.hid (And.intro hq4 hq5)
            clear hU4 hq4 hq5
            go_wp2_with fail
            cases cl with
            | true =>
              have HR := HALL.out HB2.out
              refine hK2.out _ _ (.inr HQ4.out) ?_
              iterate 1
                first
                | (refine plan_lskip rfl rfl ?_)
                | (refine plan_last (v := ?_) rfl rfl (fun w' hS => ?_) ?_
                   rotate_left
                   · skip
                     go_simp; try with_reducible rfl)
                simp only [Act.put, List.getElem_toArray, List.getElem_cons_zero, List.getElem_cons_succ, List.setIfInBounds_toArray, List.set_cons_zero, List.set_cons_succ]
              refine plan_end ?_
              go_wp2_with fail
              go_ret
              exact ⟨by rw [hT.out, HR.out]; rfl, HU4.out⟩
            | false =>
              refine hK2.out _ _ (.inr HQ4.out) ?_
              iterate 1
                first
                | (refine plan_lskip rfl rfl ?_)
                | (refine plan_last (v := ?_) rfl rfl (fun w' hS => ?_) ?_
                   rotate_left
                   · skip
                     go_simp; try with_reducible rfl)
                simp only [Act.put, List.getElem_toArray, List.getElem_cons_zero, List.getElem_cons_succ, List.setIfInBounds_toArray, List.set_cons_zero, List.set_cons_succ]
              refine plan_end ?_
              go_wp2_with fail
              go_roundw
              case rel => exact ⟨j + 1, by omega, by first | rfl | go_num, (by show _ = _; rw [HS.out, HB2.out]), HU4.out⟩
              case measure => simp [intOf]; omega
        · obtain rfl : j = 0 := by omega
          have hBAD := HB2.out
          simp only [Nat.lt_irrefl, decide_false, Bool.false_and, Bool.false_or, List.take_zero, List.any_nil] at hBAD
          have hcfo := hcf.out
          simp only [List.take_zero, List.any_nil] at hcfo
          have hcf := Lib.hid hcfo
          have HB2 := Lib.hid hBAD
          clear hBAD hcfo
          refine wp_region_plan_last [([0, 1], 2), ([3, 4, 5, 6, 7, 8, 9, 10, 11, 12, 13, 14, 15, 16, 17, 18, 19, 20, 21, 22, 23], 24)] [25] (fun w' => w'.cell? ⟨B, 0, none⟩ = some (.string (str x.path))) (by kernel_rfl) (by kernel_rfl) HQ.out ?_
          iterate 2
            first
            | (refine plan_skip rfl rfl ?_)
            | (refine plan_take (v := ?_) rfl rfl (fun w' hS => ?_) ?_
               rotate_left
               · skip
                 go_simp; try with_reducible rfl)
            simp only [Act.put, List.getElem_toArray, List.getElem_cons_zero, List.getElem_cons_succ, List.setIfInBounds_toArray, List.set_cons_zero, List.set_cons_succ]
          refine plan_act rfl (fun KK hKK => ?_)
          go_wp2_with fail
          refine (HRI.out _).mono ?_
          rintro e w2 ⟨rfl, hU2⟩
          have hq2 := (hU2.cell (p := ⟨B, 0, none⟩) hBw (fun h => h)).trans HQ.out
          have hU3 := (HU.out.trans (Upd.drew _ _)).trans hU2
          have hUr := (HWY.out.trans (Upd.drew _ _)).trans hU2
          have HU3 := Lib.hid hU3
          have HUR := Lib.hid hUr
          have HQ2 := Lib.hid hq2
          clear hU2 hU3 hq2 hUr
          go_wp2_with fail
          refine hKK.out _ _ (.inr HQ2.out) ?_
          iterate 21
            first
            | (refine plan_skip rfl rfl ?_)
            | (refine plan_take (v := ?_) rfl rfl (fun w' hS => ?_) ?_
               rotate_left
               · skip
                 go_simp; try with_reducible rfl)
            simp only [Act.put, List.getElem_toArray, List.getElem_cons_zero, List.getElem_cons_succ, List.setIfInBounds_toArray, List.set_cons_zero, List.set_cons_succ]
          refine plan_act rfl (fun K2 hK2 => ?_)
          go_wp2_with fail
          refine (hcf.out _ HUR.out HQ2.out).mono ?_
          rintro e w3 ⟨rfl, hU4⟩
          have hq4 := (hU4.cell (p := ⟨B, 0, none⟩) (World.block_lt_of_cell? _ _ HQ2.out) (fun h => h)).trans HQ2.out
          have HU4 := Lib.hid (HU3.out.trans hU4)
          have HQ4 := Lib.hid hq4
          clear hU4 hq4
          go_wp2_with fail
          refine hK2.out _ _ (.inr HQ4.out) ?_
          iterate 1
            first
            | (refine plan_lskip rfl rfl ?_)
            | (refine plan_last (v := ?_) rfl rfl (fun w' hS => ?_) ?_
               rotate_left
               · skip
                 go_simp; try with_reducible rfl)
            simp only [Act.put, List.getElem_toArray, List.getElem_cons_zero, List.getElem_cons_succ, List.setIfInBounds_toArray, List.set_cons_zero, List.set_cons_succ]
          refine plan_end ?_
          go_wp2_with fail
          go_roundw
          case rel => exact ⟨0 + 1, by omega, by first | rfl | go_num, (by show _ = _; rw [HS.out, HB2.out]), HU4.out⟩
          case measure => simp [intOf]; omega
    · obtain rfl : j = l.length := by omega
      have hA2 := hA.out
      have HA := Lib.hid hA2
      clear hA2 hA
      go_wp2_with fail
      go_ret
      exact ⟨by rw [hT.out, HA.out]; rfl, hU⟩
end Go.Proofs.YteefceainlfdfaaDoor
