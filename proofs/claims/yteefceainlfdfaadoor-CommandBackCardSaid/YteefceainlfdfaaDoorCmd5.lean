
/- A command's bytes: command.Pack. -/
import Derived.Test.YteefceainlfdfaaDoorCmd4
import Derived.Test.YteefceainlfdfaaDoorWn
namespace Go.Proofs.YteefceainlfdfaaDoor
set_option linter.unusedSimpArgs false
set_option linter.unusedVariables false
set_option maxRecDepth 100000
open Go.ChangeShapes Go.WideShapes Go.ChangeAt Go.RowKit

def heldC (v : Int) : Int := min (max v (-1)) 2147483646
def encCh (x : Chg) : List UInt8 := tx x.path ++ b1 x.del ++ b1 x.exec ++ tx x.text
def encCmd (c : Cmd) : List UInt8 :=
  [] ++ le c.kind.toNat 1 ++ tx c.msg ++ i4 c.ch.length ++ c.ch.flatMap encCh ++ i4 c.ps.length ++ c.ps.flatMap tx ++ i4 (heldC c.count) ++ i4 (heldC c.commit) ++ i4 (heldC c.dest) ++ tx c.name
def packL (c : Cmd) : List UInt8 := if rightL c = 0 then encCmd c else []
theorem cheld_any (v : Int) (w : World) : Calls Tryd.prog 57 #[.int .i64 v] w fun e w' => e = .returned (.int .i64 (heldC v)) ∧ w = w' := by
  go_enter Tryd.func57, Tryd.ntmps57
  go_wp2_with fail
  go_ret
  exact ⟨by first | rfl | (unfold heldC; apply ret_int; omega), rfl⟩
theorem ch_cells {w : World} {b : Nat} {T : TypeId} {x0 x1 x2 x3 : Value} {fr : Nat × Nat} (hr : w.heap[b]? = some (.cells #[x0, x1, x2, x3] T fr)) :
    w.cell? ⟨b, 0, none⟩ = some x0 ∧ w.cell? ⟨b, 1, none⟩ = some x1 ∧ w.cell? ⟨b, 2, none⟩ = some x2 ∧ w.cell? ⟨b, 3, none⟩ = some x3 := by
  refine ⟨?_, ?_, ?_, ?_⟩ <;> (rw [cell_of_row _ _ _ _ _ _ hr]; rfl)
structure Small (c : Cmd) : Prop where
  k1 : 1 ≤ c.kind
  k15 : c.kind ≤ 15
  msg : c.msg.length ≤ 1000
  ch : c.ch.length ≤ 100
  ps : c.ps.length ≤ 100
  each : ∀ x ∈ c.ch, x.path.length ≤ 100 ∧ x.text.length ≤ 20000
  path : ∀ x ∈ c.ps, x.length ≤ 100
theorem pathL_len (s : List UInt8) (h : pathL s = true) : s.length ≤ 100 := by
  unfold pathL at h
  simp only [Bool.and_eq_true, decide_eq_true_eq] at h
  exact h.1.1.2
theorem right_small (c : Cmd) (h : rightL c = 0) : Small c := by
  unfold rightL rightOf at h
  split at h
  · cases h
  rename_i hk
  split at h
  · cases h
  rename_i hlo
  split at h
  · cases h
  rename_i hpa
  have hl : longL c = false := by simpa using hlo
  have hp : pathsL c = true := by simpa using hpa
  unfold longL at hl
  unfold pathsL at hp
  simp only [Bool.or_eq_false_iff, decide_eq_false_iff_not] at hl
  obtain ⟨l1, l2, l3, l4⟩ := hl
  simp only [Bool.and_eq_true, Bool.not_eq_true', List.any_eq_false] at hp l4
  refine ⟨by omega, by omega, by omega, by omega, by omega, fun x hx => ⟨?_, ?_⟩, fun x hx => ?_⟩
  · have := hp.1 x hx
    exact pathL_len _ (by simpa [badCh] using this)
  · have := l4 x hx
    simp [longT] at this
    omega
  · have := hp.2 x hx
    exact pathL_len _ (by simpa [badPa] using this)
theorem encCh_len (x : Chg) (h : x.path.length ≤ 100 ∧ x.text.length ≤ 20000) : (encCh x).length ≤ 20110 := by
  unfold encCh
  simp only [List.length_append, tx_len, b1, List.length_cons, List.length_nil]
  omega

/-- What Pack answers. -/
def Packed (w : World) (l : List UInt8) (e0 : Int) (e : Ending) (w' : World) : Prop :=
  ∃ a c, e = .returned (.tuple #[.slice a l.length c, .int .i64 e0]) ∧ Vw w' a l.length c 1 (bvs l) ∧ (∀ g, blk a = some g → w.heap.size ≤ g ∧ g < w'.heap.size) ∧ Upd (fun _ => False) w w'

set_option maxHeartbeats 8000000 in
theorem cPack_any (c : Cmd) (a1 : Option Addr) (c1 : Nat) (a2 : Option Addr) (c2 : Nat) (w : World) (h : CmdIn w c a1 c1 a2 c2) (hnm : c.name.length ≤ 1000000) :
    Calls Tryd.prog 26 #[cmdV c a1 c1 a2 c2] w (Packed w (packL c) (rightL c)) := by
  have hU1 := Upd.alloc (fun _ => False) w (.cells (cmdV c a1 c1 a2 c2).cells 25)
  have hrow := heap_alloc_new w (.cells (cmdV c a1 c1 a2 c2).cells 25)
  have h1 := h.upd hU1
  clear h
  have hcr := cRight_any c a1 c1 a2 c2 _ h1
  unfold cmdV at hU1 hcr hrow ⊢
  unfold sv at hU1 hcr hrow ⊢
  dsimp only [Value.cells] at hU1 hcr hrow
  have HS := Lib.hid (right_small c)
  have HE : Hid (packL c = if rightL c = 0 then encCmd c else []) := rfl
  generalize hRR : rightL c = RR at *
  have HP := Lib.hid (And.intro hU1 (And.intro hrow h1))
  clear hU1 hrow h1 hRR
  go_enter Tryd.func26, Tryd.ntmps26
  go_wp2_with fail
  refine hcr.mono ?_
  rintro e w1 ⟨rfl, hU2⟩
  obtain ⟨hU1, hrow, h1⟩ := HP.out
  have h2 := h1.upd hU2
  have hrow1 := (hU2.block _ (lt_of_heap hrow) (fun h => h)).trans hrow
  have hU01 := hU1.trans hU2
  have hlt1 := lt_of_heap hrow1
  have HR1 := Lib.hid hrow1
  have HI := Lib.hid h2
  have HU01 := Lib.hid hU01
  clear hcr hU1 hrow h1 HP hU2 h2 hrow1 hU01
  by_cases h0 : RR = 0
  case neg =>
    have hne : (RR != 0) = true := by simpa using h0
    have hE := HE.out
    rw [if_neg h0] at hE
    have HE2 := Lib.hid hE
    clear hE h0 hlt1
    go_wp2_with fail
    go_ret2
    unfold Packed
    rw [HE2.out]
    exact ⟨none, 0, rfl, Vw.nl _ _, (fun g h => by cases h), HU01.out⟩
  case pos =>
  subst h0
  have hS := HS.out rfl
  have HSM := Lib.hid hS
  obtain ⟨k1, k15, hm, hch, hps, hea, hpa⟩ := hS
  have hE := HE.out
  rw [if_pos rfl] at hE
  unfold encCmd at hE
  have HE2 := Lib.hid hE
  clear hE HE HS hea hpa
  obtain ⟨z0, z1, z2, z3, z4, z5, z6, z7⟩ := cmd_cells HR1.out (Upd.refl _ w1)
  obtain ⟨K, hK, hW⟩ := Wn.fresh w1 74
  have HK := Lib.hid hK
  have HW0 := Lib.hid hW
  clear hK hW
  have HBK := Lib.hid (HK.out _ hlt1)
  go_upto_region 5 with (fail)
  have hW := HW0.out
  generalize w1.alloc (Obj.cells #[Value.slice none 0 0] 74) = x0 at *
  obtain ⟨bw, hbw0⟩ : ∃ bw, w1.heap.size = bw := ⟨_, rfl⟩
  rw [hbw0] at hW ⊢
  have HBW := Lib.hid hbw0
  clear HW0 hbw0
  clear z0 z1 z2 z3 z4 z5 z6 z7
  obtain ⟨z0, z1, z2, z3, z4, z5, z6, z7⟩ := cmd_cells (hW.row HBK.out HR1.out) (Upd.refl _ _)
  clear z1 z2 z3 z4 z5 z6 z7
  go_wp2_with fail
  refine (wn_num hW (by simp) c.kind 1 1 (by omega) (by omega) rfl).mono ?_
  rintro e x1 ⟨rfl, hW1⟩
  clear hW z0
  have hW := hW1
  clear hW1
  have hll1 : (([] : List UInt8) ++ le c.kind.toNat 1).length ≤ 1 := by rw [List.length_append]; simp only [le_length, tx_len, i4_length, List.length_nil]; omega
  generalize hL : ([] : List UInt8) ++ le c.kind.toNat 1 = l1 at hW hll1
  have Hl1 := Lib.hid hL
  clear hL
  obtain ⟨z0, z1, z2, z3, z4, z5, z6, z7⟩ := cmd_cells (hW.row HBK.out HR1.out) (Upd.refl _ _)
  clear z0 z2 z3 z4 z5 z6 z7
  go_wp2_with fail
  refine (wn_text hW (by omega) c.msg (by omega)).mono ?_
  rintro e x1 ⟨rfl, hW1⟩
  clear hW z1
  have hW := hW1
  clear hW1
  have hll2 : (l1 ++ tx c.msg).length ≤ 1005 := by rw [List.length_append]; simp only [le_length, tx_len, i4_length, List.length_nil]; omega
  generalize hL : l1 ++ tx c.msg = l2 at hW hll2
  have Hl2 := Lib.hid hL
  clear hL
  obtain ⟨z0, z1, z2, z3, z4, z5, z6, z7⟩ := cmd_cells (hW.row HBK.out HR1.out) (Upd.refl _ _)
  clear z0 z1 z3 z4 z5 z6 z7
  go_wp2_with fail
  refine (wn_int hW (by omega) (c.ch.length : Int)).mono ?_
  rintro e x1 ⟨rfl, hW1⟩
  clear hW z2
  have hW := hW1
  clear hW1
  have hll3 : (l2 ++ i4 (c.ch.length : Int)).length ≤ 1009 := by rw [List.length_append]; simp only [le_length, tx_len, i4_length, List.length_nil]; omega
  generalize hL : l2 ++ i4 (c.ch.length : Int) = l3 at hW hll3
  have Hl3 := Lib.hid hL
  clear hL
  obtain ⟨z0, z1, z2, z3, z4, z5, z6, z7⟩ := cmd_cells (hW.row HBK.out HR1.out) (Upd.refl _ _)
  clear z0 z1 z3 z4 z5 z6 z7
  have hcap := HI.out.ch.cap
  have hlc := HI.out.ch.le
  unfold maxLen at hcap
  go_wp2_with fail
  go_loopw [34] (fun i wr => ∃ j : Nat, j ≤ c.ch.length ∧ i = .int .i64 (j : Int) ∧ Wn K 74 w1 wr bw (l3 ++ (c.ch.take j).flatMap encCh)) (fun i _ => c.ch.length - (intOf i).toNat)
  case atStart => exact ⟨0, Nat.zero_le _, rfl, by simpa using hW⟩
  case round =>
    clear hW z2
    obtain ⟨j, hj, rfl, hW⟩ := hrel
    by_cases hlt : j < c.ch.length
    · have hI : (j : Int) < (c.ch.length : Int) := by omega
      have hv := HI.out.ch.upd (hW.old HK.out) (fun _ _ h => h)
      obtain ⟨b, o, hb, hcell⟩ := hv.at (by omega) (by decide)
      clear hv
      subst hb
      have q0 : wr.cell? ⟨b, o + j * 4, none⟩ = some (sv c.ch[j].path) := hcell (j * 4 + 0) _ (chV_get c.ch j 0 hlt (by decide))
      have q1 : wr.cell? ⟨b, o + j * 4 + 1, none⟩ = some (.bool c.ch[j].del) := hcell (j * 4 + 1) _ (chV_get c.ch j 1 hlt (by decide))
      have q2 : wr.cell? ⟨b, o + j * 4 + 2, none⟩ = some (.bool c.ch[j].exec) := hcell (j * 4 + 2) _ (chV_get c.ch j 2 hlt (by decide))
      have q3 : wr.cell? ⟨b, o + j * 4 + 3, none⟩ = some (sv c.ch[j].text) := hcell (j * 4 + 3) _ (chV_get c.ch j 3 hlt (by decide))
      have hsucc := flatMap_succ encCh c.ch j hlt
      obtain ⟨hx1, hx2⟩ := HSM.out.each _ (List.getElem_mem hlt)
      have hpre : (l3 ++ (c.ch.take j).flatMap encCh).length ≤ 3000000 := by
        have := flatMap_len encCh 20110 (c.ch.take j) (fun x hx => encCh_len x (HSM.out.each x (List.mem_of_mem_take hx)))
        rw [List.length_take] at this
        rw [List.length_append]
        have h3 : min j c.ch.length * 20110 ≤ 100 * 20110 := Nat.mul_le_mul_right _ (by omega)
        omega
      generalize c.ch[j] = x at *
      obtain ⟨xp, xd, xe, xt⟩ := x
      dsimp only at *
      have hent := hW.enter (.cells #[sv xp, .bool xd, .bool xe, sv xt] 30)
      have hnew := heap_alloc_new wr (.cells #[sv xp, .bool xd, .bool xe, sv xt] 30)
      unfold sv at q0 q3 hent hnew
      have HSU := Lib.hid hsucc
      have HW0 := Lib.hid hW
      have HP := Lib.hid hpre
      have HNEW := Lib.hid hnew
      clear hcell hsucc hW hpre hnew
      go_upto_region 11 with (fail)
      have hnew := HNEW.out
      have hlv : ∀ w2 l', Wn (fun k => K k ∨ k = wr.heap.size) 74 (wr.alloc (.cells #[Value.string (str xp), .bool xd, .bool xe, Value.string (str xt)] 30)) w2 bw l' → Wn K 74 w1 w2 bw l' := fun w2 l' h => HW0.out.leave h
      have HLV := Lib.hid hlv
      clear hlv
      have hl0 := HP.out
      obtain ⟨p0, hp0⟩ : ∃ p, l3 ++ (c.ch.take j).flatMap encCh = p := ⟨_, rfl⟩
      rw [hp0] at hent hl0
      have HPE := Lib.hid hp0
      clear hp0
      generalize hxb : wr.heap.size = xb at *
      generalize wr.alloc (.cells #[Value.string (str xp), .bool xd, .bool xe, Value.string (str xt)] 30) = y0 at *
      have HN := Lib.hid hnew
      clear hnew HNEW hxb HW0 HP q0 q1 q2 q3
      have hW := hent
      clear hent
      obtain ⟨y0', y1', y2', y3'⟩ := ch_cells (hW.row (Or.inr rfl) HN.out)
      clear y1' y2' y3'
      go_wp2_with fail
      refine (wn_text hW (by omega) xp (by omega)).mono ?_
      rintro e x1 ⟨rfl, hW1⟩
      clear hW y0'
      have hW := hW1
      clear hW1
      have hp1 : (p0 ++ tx xp).length ≤ 3020104 := by rw [List.length_append]; simp only [tx_len, b1, List.length_cons, List.length_nil]; omega
      generalize hL : p0 ++ tx xp = p1 at hW hp1
      have HQ1 := Lib.hid hL
      clear hL
      obtain ⟨y0', y1', y2', y3'⟩ := ch_cells (hW.row (Or.inr rfl) HN.out)
      clear y0' y2' y3'
      go_wp2_with fail
      refine (wn_bool hW (by omega) xd).mono ?_
      rintro e x1 ⟨rfl, hW1⟩
      clear hW y1'
      have hW := hW1
      clear hW1
      have hp2 : (p1 ++ b1 xd).length ≤ 3040208 := by rw [List.length_append]; simp only [tx_len, b1, List.length_cons, List.length_nil]; omega
      generalize hL : p1 ++ b1 xd = p2 at hW hp2
      have HQ2 := Lib.hid hL
      clear hL
      obtain ⟨y0', y1', y2', y3'⟩ := ch_cells (hW.row (Or.inr rfl) HN.out)
      clear y0' y1' y3'
      go_wp2_with fail
      refine (wn_bool hW (by omega) xe).mono ?_
      rintro e x1 ⟨rfl, hW1⟩
      clear hW y2'
      have hW := hW1
      clear hW1
      have hp3 : (p2 ++ b1 xe).length ≤ 3060312 := by rw [List.length_append]; simp only [tx_len, b1, List.length_cons, List.length_nil]; omega
      generalize hL : p2 ++ b1 xe = p3 at hW hp3
      have HQ3 := Lib.hid hL
      clear hL
      obtain ⟨y0', y1', y2', y3'⟩ := ch_cells (hW.row (Or.inr rfl) HN.out)
      clear y0' y1' y2'
      go_wp2_with fail
      refine (wn_text hW (by omega) xt (by omega)).mono ?_
      rintro e x1 ⟨rfl, hW1⟩
      clear hW y3'
      have hW := hW1
      clear hW1
      have hp4 : (p3 ++ tx xt).length ≤ 3080416 := by rw [List.length_append]; simp only [tx_len, b1, List.length_cons, List.length_nil]; omega
      generalize hL : p3 ++ tx xt = p4 at hW hp4
      have HQ4 := Lib.hid hL
      clear hL
      have hW2 := HLV.out _ _ hW
      have heq : p4 = l3 ++ (c.ch.take (j + 1)).flatMap encCh := by
        rw [← HSU.out, ← HQ4.out, ← HQ3.out, ← HQ2.out, ← HQ1.out, ← HPE.out]
        simp [encCh]
      rw [heq] at hW2
      clear heq hW
      go_wp2_with fail
      go_roundw
      case rel => exact ⟨j + 1, by omega, by first | rfl | go_num, hW2⟩
      case measure => simp [intOf]; omega
    · obtain rfl : j = c.ch.length := by omega
      rw [List.take_length] at hW
      have hl4 : (l3 ++ c.ch.flatMap encCh).length ≤ 2012009 := by
        have := flatMap_len encCh 20110 c.ch (fun x hx => encCh_len x (HSM.out.each x hx))
        rw [List.length_append]
        have h3 : c.ch.length * 20110 ≤ 100 * 20110 := Nat.mul_le_mul_right _ (by omega)
        omega
      generalize hL : l3 ++ c.ch.flatMap encCh = l4 at hW hl4
      have H4 := Lib.hid hL
      clear hL hlt
      obtain ⟨z0, z1, z2, z3, z4, z5, z6, z7⟩ := cmd_cells (hW.row HBK.out HR1.out) (Upd.refl _ _)
      clear z0 z1 z2 z4 z5 z6 z7
      go_wp2_with fail
      refine (wn_int hW (by omega) (c.ps.length : Int)).mono ?_
      rintro e x1 ⟨rfl, hW1⟩
      clear hW z3
      have hW := hW1
      clear hW1
      have hll5 : (l4 ++ i4 (c.ps.length : Int)).length ≤ 2012013 := by rw [List.length_append]; simp only [le_length, tx_len, i4_length, List.length_nil]; omega
      generalize hL : l4 ++ i4 (c.ps.length : Int) = l5 at hW hll5
      have Hl5 := Lib.hid hL
      clear hL
      obtain ⟨z0, z1, z2, z3, z4, z5, z6, z7⟩ := cmd_cells (hW.row HBK.out HR1.out) (Upd.refl _ _)
      clear z0 z1 z2 z4 z5 z6 z7
      have hcap := HI.out.ps.cap
      have hlc := HI.out.ps.le
      unfold maxLen at hcap
      go_wp2_with fail
      go_loopw [63] (fun i wr => ∃ j : Nat, j ≤ c.ps.length ∧ i = .int .i64 (j : Int) ∧ Wn K 74 w1 wr bw (l5 ++ (c.ps.take j).flatMap tx)) (fun i _ => c.ps.length - (intOf i).toNat)
      case atStart => exact ⟨0, Nat.zero_le _, rfl, by simpa using hW⟩
      case round =>
        clear hW z3
        obtain ⟨j, hj, rfl, hW⟩ := hrel
        by_cases hlt : j < c.ps.length
        · have hI : (j : Int) < (c.ps.length : Int) := by omega
          have hv := HI.out.ps.upd (hW.old HK.out) (fun _ _ h => h)
          obtain ⟨b, o, hb, hcell⟩ := hv.at (by omega) (by decide)
          clear hv
          subst hb
          have q := hcell j (sv c.ps[j]) (by simp [hlt])
          have hsucc := flatMap_succ tx c.ps j hlt
          have hx1 := HSM.out.path _ (List.getElem_mem hlt)
          have hpre : (l5 ++ (c.ps.take j).flatMap tx).length ≤ 3000000 := by
            have := flatMap_len tx 104 (c.ps.take j) (fun x hx => by rw [tx_len]; have := HSM.out.path x (List.mem_of_mem_take hx); omega)
            rw [List.length_take] at this
            rw [List.length_append]
            have h3 : min j c.ps.length * 104 ≤ 100 * 104 := Nat.mul_le_mul_right _ (by omega)
            omega
          generalize c.ps[j] = x at *
          unfold sv at q
          have HSU := Lib.hid hsucc
          clear hcell hsucc
          go_wp2_with fail
          refine (wn_text hW (by omega) x (by omega)).mono ?_
          rintro e x1 ⟨rfl, hW1⟩
          rw [List.append_assoc, HSU.out] at hW1
          clear hW q hpre
          go_wp2_with fail
          go_roundw
          case rel => exact ⟨j + 1, by omega, by first | rfl | go_num, hW1⟩
          case measure => simp [intOf]; omega
        · obtain rfl : j = c.ps.length := by omega
          rw [List.take_length] at hW
          have hl6 : (l5 ++ c.ps.flatMap tx).length ≤ 2022413 := by
            have := flatMap_len tx 104 c.ps (fun x hx => by rw [tx_len]; have := HSM.out.path x hx; omega)
            rw [List.length_append]
            have h3 : c.ps.length * 104 ≤ 100 * 104 := Nat.mul_le_mul_right _ (by omega)
            omega
          generalize hL : l5 ++ c.ps.flatMap tx = l6 at hW hl6
          have H6 := Lib.hid hL
          clear hL hlt
          obtain ⟨z0, z1, z2, z3, z4, z5, z6, z7⟩ := cmd_cells (hW.row HBK.out HR1.out) (Upd.refl _ _)
          clear z0 z1 z2 z3 z5 z6 z7
          go_wp2_with fail
          refine (cheld_any c.count _).mono ?_
          rintro e x0 ⟨rfl, rfl⟩
          go_wp2_with fail
          refine (wn_int hW (by omega) (heldC c.count)).mono ?_
          rintro e x1 ⟨rfl, hW1⟩
          clear hW z4
          have hW := hW1
          clear hW1
          have hll7 : (l6 ++ i4 (heldC c.count)).length ≤ 2022417 := by rw [List.length_append]; simp only [le_length, tx_len, i4_length, List.length_nil]; omega
          generalize hL : l6 ++ i4 (heldC c.count) = l7 at hW hll7
          have Hl7 := Lib.hid hL
          clear hL
          obtain ⟨z0, z1, z2, z3, z4, z5, z6, z7⟩ := cmd_cells (hW.row HBK.out HR1.out) (Upd.refl _ _)
          clear z0 z1 z2 z3 z4 z5 z6
          clear z7
          obtain ⟨z0, z1, z2, z3, z4, z5, z6, z7⟩ := cmd_cells (hW.row HBK.out HR1.out) (Upd.refl _ _)
          clear z0 z1 z2 z3 z4 z6 z7
          go_wp2_with fail
          refine (cheld_any c.commit _).mono ?_
          rintro e x0 ⟨rfl, rfl⟩
          go_wp2_with fail
          refine (wn_int hW (by omega) (heldC c.commit)).mono ?_
          rintro e x1 ⟨rfl, hW1⟩
          clear hW z5
          have hW := hW1
          clear hW1
          have hll8 : (l7 ++ i4 (heldC c.commit)).length ≤ 2022421 := by rw [List.length_append]; simp only [le_length, tx_len, i4_length, List.length_nil]; omega
          generalize hL : l7 ++ i4 (heldC c.commit) = l8 at hW hll8
          have Hl8 := Lib.hid hL
          clear hL
          obtain ⟨z0, z1, z2, z3, z4, z5, z6, z7⟩ := cmd_cells (hW.row HBK.out HR1.out) (Upd.refl _ _)
          clear z0 z1 z2 z3 z4 z5 z6
          clear z7
          obtain ⟨z0, z1, z2, z3, z4, z5, z6, z7⟩ := cmd_cells (hW.row HBK.out HR1.out) (Upd.refl _ _)
          clear z0 z1 z2 z3 z4 z5 z7
          go_wp2_with fail
          refine (cheld_any c.dest _).mono ?_
          rintro e x0 ⟨rfl, rfl⟩
          go_wp2_with fail
          refine (wn_int hW (by omega) (heldC c.dest)).mono ?_
          rintro e x1 ⟨rfl, hW1⟩
          clear hW z6
          have hW := hW1
          clear hW1
          have hll9 : (l8 ++ i4 (heldC c.dest)).length ≤ 2022425 := by rw [List.length_append]; simp only [le_length, tx_len, i4_length, List.length_nil]; omega
          generalize hL : l8 ++ i4 (heldC c.dest) = l9 at hW hll9
          have Hl9 := Lib.hid hL
          clear hL
          obtain ⟨z0, z1, z2, z3, z4, z5, z6, z7⟩ := cmd_cells (hW.row HBK.out HR1.out) (Upd.refl _ _)
          clear z0 z1 z2 z3 z4 z5 z6
          clear z7
          obtain ⟨z0, z1, z2, z3, z4, z5, z6, z7⟩ := cmd_cells (hW.row HBK.out HR1.out) (Upd.refl _ _)
          clear z0 z1 z2 z3 z4 z5 z6
          go_wp2_with fail
          refine (wn_text hW (by omega) c.name (by omega)).mono ?_
          rintro e x1 ⟨rfl, hW1⟩
          clear hW z7
          have hW := hW1
          clear hW1
          have hll10 : (l9 ++ tx c.name).length ≤ 3022429 := by rw [List.length_append]; simp only [le_length, tx_len, i4_length, List.length_nil]; omega
          generalize hL : l9 ++ tx c.name = l10 at hW hll10
          have Hl10 := Lib.hid hL
          clear hL
          obtain ⟨z0, z1, z2, z3, z4, z5, z6, z7⟩ := cmd_cells (hW.row HBK.out HR1.out) (Upd.refl _ _)
          clear z0 z1 z2 z3 z4 z5 z6
          clear z7
          have hU1 := hW.old HK.out
          go_wp2_with fail
          refine (wn_bytes hW (by omega)).mono ?_
          rintro e x1 ⟨a5, c5, rfl, hown, hfr, hUb⟩
          have hE := HE2.out
          rw [Hl1.out, Hl2.out, Hl3.out, H4.out, Hl5.out, H6.out, Hl7.out, Hl8.out, Hl9.out, Hl10.out] at hE
          have HF := Lib.hid (And.intro hU1 (And.intro hown (And.intro hfr (And.intro hUb hE))))
          clear hW hU1 hown hfr hUb hE
          go_wp2_with fail
          go_ret2
          obtain ⟨hU1, hown, hfr, hUb, hE⟩ := HF.out
          unfold Packed
          rw [hE]
          refine ⟨a5, c5, rfl, Vw.of_own hown, fun g hg => ⟨?_, (hown.lt g ((own_blk _ _ _).trans hg)).2⟩, HU01.out.trans (hU1.trans hUb)⟩
          have := hfr g hg
          have := hU1.size
          have := HU01.out.size
          omega
end Go.Proofs.YteefceainlfdfaaDoor
