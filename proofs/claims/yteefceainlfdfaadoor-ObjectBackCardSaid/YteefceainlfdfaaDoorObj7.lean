
/- object.Tree. -/
import Derived.Test.YteefceainlfdfaaDoorObj6
namespace Go.Proofs.YteefceainlfdfaaDoor
set_option linter.unusedSimpArgs false
set_option linter.unusedVariables false
set_option maxRecDepth 100000
open Go.ChangeShapes Go.WideShapes Go.ChangeAt Go.RowKit

def encE (x : Ent) : List UInt8 := tx x.path ++ b1 x.exec ++ x.key
def encT (l : List Ent) : List UInt8 := [2] ++ le l.length 4 ++ l.flatMap encE
def treeE (l : List Ent) : Int := if treeL l = true then 0 else 5
def treeB (l : List Ent) : List UInt8 := if treeL l = true then encT l else []
theorem treeL_short (l : List Ent) (h : treeL l = true) : l.length ≤ 100 ∧ ∀ x ∈ l, x.path.length ≤ 100 := by
  unfold treeL at h
  rw [Bool.and_eq_true, decide_eq_true_eq] at h
  refine ⟨h.1, ?_⟩
  have h2 : (List.range l.length).any (badAt l) = false := by simpa using h.2
  have := taken_short l l.length (Nat.le_refl _) h2
  rwa [List.take_length] at this
theorem encE_len (x : Ent) (h : x.path.length ≤ 100) : (encE x).length ≤ 137 := by
  unfold encE
  simp only [List.length_append, tx_len, b1, List.length_cons, List.length_nil, x.hk]
  omega
theorem ent_cells {w : World} {b : Nat} {x : Ent} (h : w.heap[b]? = some (.cells (entA x) 44)) :
    w.cell? ⟨b, 0, none⟩ = some (.string (str x.path)) ∧ w.cell? ⟨b, 1, none⟩ = some (.bool x.exec) ∧ w.rangeAt b 2 (bvs x.key) := by
  refine ⟨by rw [cell_of_row _ _ _ _ _ _ h]; rfl, by rw [cell_of_row _ _ _ _ _ _ h]; rfl, fun j u hu => ?_⟩
  rw [cell_of_row _ _ _ _ _ _ h]
  simp only [entA, entV]
  rw [List.getElem?_toArray, show 2 + j = j + 1 + 1 from by omega, List.getElem?_cons_succ, List.getElem?_cons_succ]
  exact hu

set_option maxHeartbeats 4000000 in
theorem oTree_any (a : Option Addr) (c : Nat) (l : List Ent) (w : World) (hv : Vw w a l.length c 34 (l.flatMap entV)) :
    Calls Tryd.prog 18 #[.slice a l.length c] w (Packed w (treeB l) (treeE l)) := by
  have hcap := hv.cap
  have hlc := hv.le
  unfold maxLen at hcap
  have hor := oright_any a c l w hv
  have HV := Lib.hid hv
  clear hv
  cases hT : treeL l with
  | false =>
    rw [hT] at hor
    have h1 : Hid (treeB l = [] ∧ treeE l = 5) := Lib.hid ⟨by unfold treeB; rw [hT]; rfl, by unfold treeE; rw [hT]; rfl⟩
    clear hT
    go_enter Tryd.func18, Tryd.ntmps18
    go_wp2_with fail
    refine hor.mono ?_
    rintro e w1 ⟨rfl, hU⟩
    have HU := Lib.hid hU
    clear hU hor
    go_wp2_with fail
    go_ret2
    rw [h1.out.1, h1.out.2]
    exact ⟨none, 0, rfl, Vw.nl _ _, (fun g h => by cases h), HU.out⟩
  | true =>
  rw [hT] at hor
  obtain ⟨hl100, hps⟩ := treeL_short l hT
  have HPS := Lib.hid hps
  have HE2 : Hid (treeB l = encT l) := Lib.hid (by unfold treeB; rw [if_pos hT])
  have hR0 : Hid (treeE l = 0) := Lib.hid (by unfold treeE; rw [if_pos hT])
  have hcv : IntKind.u64.wrap (l.length : Int) = (l.length : Int) := by show _ % 18446744073709551616 = _; omega
  unfold encT at HE2
  clear hps hT
  go_enter Tryd.func18, Tryd.ntmps18
  go_wp2_with fail
  refine hor.mono ?_
  rintro e w1 ⟨rfl, hU⟩
  have HU01 := Lib.hid hU
  have HV1 := Lib.hid (HV.out.upd hU (fun _ _ h => h))
  clear hU hor HV
  obtain ⟨K, hK, hW⟩ := Wn.fresh w1 76
  have HK := Lib.hid hK
  have HW0 := Lib.hid hW
  clear hK hW
  go_upto_region 4 with fail
  have hW := HW0.out
  generalize w1.alloc (Obj.cells #[Value.slice none 0 0] 76) = x0 at *
  obtain ⟨bw, hbw0⟩ : ∃ bw, w1.heap.size = bw := ⟨_, rfl⟩
  rw [hbw0] at hW ⊢
  have HBW := Lib.hid hbw0
  clear HW0 hbw0
  go_wp2_with fail
  refine (wn_num hW (by simp) 2 1 1 (by omega) (by omega) rfl).mono ?_
  rintro e x1 ⟨rfl, hW1⟩
  clear hW 
  have hW := hW1
  clear hW1
  have hl1 : (([] : List UInt8) ++ le (Int.toNat 2) 1).length ≤ 1 := by rw [List.length_append]; simp only [le_length, tx_len, i4_length, b1, List.length_cons, List.length_nil]; omega
  generalize hL : ([] : List UInt8) ++ le (Int.toNat 2) 1 = l1 at hW hl1
  have Hl1 := Lib.hid hL
  clear hL
  go_wp2_with fail
  refine (wn_num hW (by omega) (l.length : Int) 4 4 (by omega) (by omega) rfl).mono ?_
  rintro e x1 ⟨rfl, hW1⟩
  clear hW 
  have hW := hW1
  clear hW1
  have hl2 : (l1 ++ le (l.length : Int).toNat 4).length ≤ 5 := by rw [List.length_append]; simp only [le_length, tx_len, i4_length, b1, List.length_cons, List.length_nil]; omega
  generalize hL : l1 ++ le (l.length : Int).toNat 4 = l2 at hW hl2
  have Hl2 := Lib.hid hL
  clear hL
  clear hcv
  go_wp2_with fail
  go_loopw [25] (fun i wr => ∃ j : Nat, j ≤ l.length ∧ i = .int .i64 (j : Int) ∧ Wn K 76 w1 wr bw (l2 ++ (l.take j).flatMap encE)) (fun i _ => l.length - (intOf i).toNat)
  case atStart => exact ⟨0, Nat.zero_le _, rfl, by simpa using hW⟩
  case round =>
    clear hW
    obtain ⟨j, hj, rfl, hW⟩ := hrel
    by_cases hlt : j < l.length
    · have hI : (j : Int) < (l.length : Int) := by omega
      have hv := HV1.out.upd (hW.old HK.out) (fun _ _ h => h)
      obtain ⟨b, o, hb, hcell⟩ := ent_at hv (by omega)
      clear hv
      subst hb
      have hrg := hcell j hlt
      have hsucc := flatMap_succ encE l j hlt
      have hxp := HPS.out _ (List.getElem_mem hlt)
      have hpre : (l2 ++ (l.take j).flatMap encE).length ≤ 20000 := by
        have := flatMap_len encE 137 (l.take j) (fun x hx => encE_len x (HPS.out x (List.mem_of_mem_take hx)))
        rw [List.length_take] at this
        rw [List.length_append]
        have h3 : min j l.length * 137 ≤ 100 * 137 := Nat.mul_le_mul_right _ (by omega)
        omega
      generalize l[j] = x at *
      have hent := hW.enter (.cells (entA x) 44)
      have hnew := heap_alloc_new wr (.cells (entA x) 44)
      have HSU := Lib.hid hsucc
      have HW0 := Lib.hid hW
      have HENT := Lib.hid hent
      have HNEW := Lib.hid hnew
      clear hcell hsucc hW hnew hent
      go_upto_region 9 with first
        | refine wpList_load_ent rfl (.tmp 27) rfl b (o + j * 34) rfl x hrg ?_
        | refine wpList_store_ent rfl (.tmp 6) (.tmp 28) rfl wr _ rfl x rfl rfl ?_
      have hnew := HNEW.out
      have hent := HENT.out
      have HLV := Lib.hid (fun w2 l' h => HW0.out.leave (o := .cells (entA x) 44) (w2 := w2) (l' := l') h)
      simp only [Act.put]
      obtain ⟨p0, hp0⟩ : ∃ p, l2 ++ (l.take j).flatMap encE = p := ⟨_, rfl⟩
      rw [hp0] at hent hpre
      have HPE := Lib.hid hp0
      clear hp0
      generalize hxb : wr.heap.size = xb at *
      generalize wr.alloc (.cells (entA x) 44) = y0 at *
      have HN := Lib.hid hnew
      clear hnew HNEW HENT hxb HW0 hrg
      have hW := hent
      clear hent
      have hxk := x.hk
      obtain ⟨q0, q1, q2⟩ := ent_cells (hW.row (Or.inr rfl) HN.out)
      clear q1 q2
      refine wp_region_plan_last [([0, 1, 2, 3, 4], 5)] [] (fun w' => w'.cell? ⟨xb, 0, none⟩ = some (.string (str x.path))) (by kernel_rfl) (by kernel_rfl) q0 ?_
      iterate 5
        first
        | (refine plan_skip rfl rfl ?_)
        | (refine plan_take (v := ?_) rfl rfl (fun w' hS => ?_) ?_
           rotate_left
           · skip
             go_simp; try with_reducible rfl)
        simp only [Act.put, List.getElem_toArray, List.getElem_cons_zero, List.getElem_cons_succ, List.setIfInBounds_toArray, List.set_cons_zero, List.set_cons_succ]
      refine plan_act rfl (fun KK hKK => ?_)
      go_wp2_with fail
      have hWd := hW.other (Upd.drew (fun _ => False) _)
      refine (wn_text hWd (by omega) x.path (by omega)).mono ?_
      rintro e x1 ⟨rfl, hW1⟩
      clear hW hWd q0
      have hW := hW1
      clear hW1
      have hp1 : (p0 ++ tx x.path).length ≤ 20104 := by rw [List.length_append]; simp only [le_length, tx_len, i4_length, b1, List.length_cons, List.length_nil]; omega
      generalize hL : p0 ++ tx x.path = p1 at hW hp1
      have Hp1 := Lib.hid hL
      clear hL
      go_wp2_with fail
      refine hKK.out _ _ (.inl rfl) ?_
      refine plan_end ?_
      obtain ⟨q0, q1, q2⟩ := ent_cells (hW.row (Or.inr rfl) HN.out)
      clear q0 q2
      go_wp2_with fail
      refine wp_region_plan_last [([0, 1, 2, 3, 4], 5)] [] (fun w' => w'.cell? ⟨xb, 1, none⟩ = some (.bool x.exec)) (by kernel_rfl) (by kernel_rfl) q1 ?_
      iterate 5
        first
        | (refine plan_skip rfl rfl ?_)
        | (refine plan_take (v := ?_) rfl rfl (fun w' hS => ?_) ?_
           rotate_left
           · skip
             go_simp; try with_reducible rfl)
        simp only [Act.put, List.getElem_toArray, List.getElem_cons_zero, List.getElem_cons_succ, List.setIfInBounds_toArray, List.set_cons_zero, List.set_cons_succ]
      refine plan_act rfl (fun KK hKK => ?_)
      go_wp2_with fail
      have hWd := hW.other (Upd.drew (fun _ => False) _)
      refine (wn_bool hWd (by omega) x.exec).mono ?_
      rintro e x1 ⟨rfl, hW1⟩
      clear hW hWd q1
      have hW := hW1
      clear hW1
      have hp2 : (p1 ++ b1 x.exec).length ≤ 20105 := by rw [List.length_append]; simp only [le_length, tx_len, i4_length, b1, List.length_cons, List.length_nil]; omega
      generalize hL : p1 ++ b1 x.exec = p2 at hW hp2
      have Hp2 := Lib.hid hL
      clear hL
      go_wp2_with fail
      refine hKK.out _ _ (.inl rfl) ?_
      refine plan_end ?_
      obtain ⟨q0, q1, q2⟩ := ent_cells (hW.row (Or.inr rfl) HN.out)
      clear q0 q1
      go_wp2_with (refine wpList_load_key rfl (.tmp 42) rfl xb 2 rfl x.key x.hk q2 ?_)
      refine (okey_any hW (by omega) x.key x.hk).mono ?_
      rintro e x1 ⟨rfl, hW1⟩
      clear hW q2
      have hW := hW1
      clear hW1
      have hp3 : (p2 ++ x.key).length ≤ 20137 := by rw [List.length_append]; simp only [le_length, tx_len, i4_length, b1, List.length_cons, List.length_nil, hxk]; omega
      generalize hL : p2 ++ x.key = p3 at hW hp3
      have Hp3 := Lib.hid hL
      clear hL
      have hW2 := HLV.out _ _ hW
      have heq : p3 = l2 ++ (l.take (j + 1)).flatMap encE := by
        rw [← HSU.out, ← Hp3.out, ← Hp2.out, ← Hp1.out, ← HPE.out]
        simp [encE]
      rw [heq] at hW2
      clear heq hW
      go_wp2_with fail
      go_roundw
      case rel => exact ⟨j + 1, by omega, by first | rfl | go_num, hW2⟩
      case measure => simp [intOf]; omega
    · obtain rfl : j = l.length := by omega
      rw [List.take_length] at hW
      have hl4 : (l2 ++ l.flatMap encE).length ≤ 20000 := by
        have := flatMap_len encE 137 l (fun x hx => encE_len x (HPS.out x hx))
        rw [List.length_append]
        have h3 : l.length * 137 ≤ 100 * 137 := Nat.mul_le_mul_right _ (by omega)
        omega
      generalize hL : l2 ++ l.flatMap encE = l4 at hW hl4
      have H4 := Lib.hid hL
      clear hL hlt
      have hU1 := hW.old HK.out
      go_wp2_with fail
      refine (wn_bytes hW (by omega)).mono ?_
      rintro e x1 ⟨a5, c5, rfl, hown, hfr, hUb⟩
      have hE := HE2.out
      have hq : ([2] : List UInt8) ++ le l.length 4 ++ l.flatMap encE = l4 := by
        rw [← H4.out, ← Hl2.out, ← Hl1.out]; rfl
      rw [hq] at hE
      have HF := Lib.hid (And.intro hU1 (And.intro hown (And.intro hfr (And.intro hUb hE))))
      clear hW hU1 hown hfr hUb hE
      go_wp2_with fail
      go_ret2
      obtain ⟨hU1, hown, hfr, hUb, hE⟩ := HF.out
      rw [hE, hR0.out]
      refine ⟨a5, c5, rfl, Vw.of_own hown, fun g hg => ⟨?_, (hown.lt g ((own_blk _ _ _).trans hg)).2⟩, HU01.out.trans (hU1.trans hUb)⟩
      have := hfr g hg
      have := hU1.size
      have := HU01.out.size
      omega
end Go.Proofs.YteefceainlfdfaaDoor
