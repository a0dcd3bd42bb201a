
/- Entries; object.right's literal; slices.ContainsFunc on entries. -/
import Derived.Test.YteefceainlfdfaaDoorObj1
import Derived.Test.YteefceainlfdfaaDoorCmd2
namespace Go.Proofs.YteefceainlfdfaaDoor
set_option linter.unusedSimpArgs false
set_option linter.unusedVariables false
set_option maxRecDepth 100000
open Go.ChangeShapes Go.WideShapes Go.ChangeAt Go.RowKit

/-- An entry. -/
structure Ent where
  path : List UInt8
  exec : Bool
  key : List UInt8
  hk : key.length = 32
def entV (x : Ent) : List Value := sv x.path :: .bool x.exec :: bvs x.key
def entA (x : Ent) : Array Value := (entV x).toArray
theorem entV_len (x : Ent) : (entV x).length = 34 := by simp [entV, bvs, x.hk]
theorem entV_get (l : List Ent) (i r : Nat) (hi : i < l.length) (hr : r < 34) : (l.flatMap entV)[i * 34 + r]? = (entV l[i])[r]? := by
  rw [flatMap_get entV 34 entV_len l i r hr, List.getElem?_eq_getElem hi]; rfl
theorem infoEnt : (Tryd.prog.info? 44).map (·.size) = some 34 := by kernel_rfl
theorem ent_load {w : World} {b o : Nat} {x : Ent} (h : w.rangeAt b o (entV x)) : (Instr.loadAt 44 (.pointer (some ⟨b, o, none⟩))).run Tryd.prog w = .ok (.agg (entA x)) w :=
  run_loadAt_mid w b o 44 (entV x) _ h Tryd.underlying44 rfl (by rw [infoEnt, entV_len])
theorem wpList_load_ent {ops : Array Oper} {rest : List Oper} {op : Oper} {a : Act} {w : World} {Q : Exit → Act → World → Prop} (hgd : op.guard = none) (x : Operand) (ho : op.op = .load 44 x)
    (b o : Nat) (hx : a.eval x = .pointer (some ⟨b, o, none⟩)) (e : Ent) (hr : w.rangeAt b o (entV e)) (h : wpList Tryd.prog ops Q rest (a.put op.dst (.agg (entA e))) w) : wpList Tryd.prog ops Q (op :: rest) a w :=
  wpList_load_mid hgd 44 x ho b o hx (entV e) _ hr Tryd.underlying44 rfl (by rw [infoEnt, entV_len]) h
/-- The entries of a view, one by one. -/
theorem ent_at {w : World} {a : Option Addr} {c : Nat} {l : List Ent} (hv : Vw w a l.length c 34 (l.flatMap entV)) (h0 : 0 < l.length) :
    ∃ b o, a = some ⟨b, o, none⟩ ∧ ∀ j (hj : j < l.length), w.rangeAt b (o + j * 34) (entV l[j]) := by
  obtain ⟨b, o, hb, hcell⟩ := hv.at h0 (by decide)
  refine ⟨b, o, hb, fun j hj r u hu => ?_⟩
  have hr : r < 34 := by rw [← entV_len l[j]]; exact (List.getElem?_eq_some_iff.1 hu).1
  rw [Nat.add_assoc]
  exact hcell (j * 34 + r) u (by rw [entV_get l j r hj hr]; exact hu)
theorem ent_path {w : World} {b o : Nat} {x : Ent} (h : w.rangeAt b o (entV x)) : w.cell? ⟨b, o, none⟩ = some (.string (str x.path)) := h 0 _ rfl
theorem ent_exec {w : World} {b o : Nat} {x : Ent} (h : w.rangeAt b o (entV x)) : w.cell? ⟨b, o + 1, none⟩ = some (.bool x.exec) := h 1 _ rfl
theorem ent_row (w : World) (x : Ent) : (w.alloc (.cells (entA x) 44)).rangeAt w.heap.size 0 (entV x) := by
  intro j u hu
  rw [cell_of_row _ _ _ _ _ _ (heap_alloc_new w _)]
  simpa [entA] using hu

set_option maxHeartbeats 1000000 in
theorem oright1_any (x : Ent) (q : List UInt8) (bb : Nat) (w : World) (hb : w.cell? ⟨bb, 0, none⟩ = some (.string (str q))) (hp : x.path.length ≤ 100000) (hq : q.length ≤ 100000) :
    Calls Tryd.prog 93 #[.agg (entA x), .pointer (some ⟨bb, 0, none⟩)] w fun e w' => e = .returned (.bool (clashL x.path q)) ∧ Upd (fun _ => False) w w' := by
  have hU1 := Upd.alloc (fun _ => False) w (.cells (entA x) 44)
  have hr := ent_path (ent_row w x)
  have hb2 := (hU1.cell (World.block_lt_of_cell? w _ hb) (fun h => h)).trans hb
  have hc := fun w => pClash_any x.path q w hp hq
  unfold sv at hc
  generalize entA x = X at *
  generalize clashL x.path q = r at *
  generalize x.path = p at *
  have HU := Lib.hid hU1
  clear hU1 hb
  go_enter Tryd.func93, Tryd.ntmps93
  go_upto_region 1 with (fail)
  generalize w.alloc (.cells X 44) = w1 at *
  go_wp2_with fail
  refine (hc _).mono ?_
  rintro e w2 ⟨rfl, rfl⟩
  go_wp2_with fail
  go_ret
  exact ⟨rfl, HU.out⟩

def clashWith (q : List UInt8) (x : Ent) : Bool := clashL x.path q
set_option maxHeartbeats 2000000 in
theorem ifE_any (a : Option Addr) (c : Nat) (l : List Ent) (q : List UInt8) (bb : Nat) (w : World) (hv : Vw w a l.length c 34 (l.flatMap entV)) (hb : w.cell? ⟨bb, 0, none⟩ = some (.string (str q)))
    (hp : ∀ x ∈ l, x.path.length ≤ 100000) (hq : q.length ≤ 100000) :
    Calls Tryd.prog 113 #[.slice a l.length c, .func (.func 93) #[] #[.pointer (some ⟨bb, 0, none⟩)]] w fun e w' => ∃ k : Int, e = .returned (.int .i64 k) ∧ decide (0 ≤ k) = l.any (clashWith q) ∧ Upd (fun _ => False) w w' := by
  have hcap := hv.cap
  have hlc := hv.le
  unfold maxLen at hcap
  have HV := Lib.hid hv
  have HB := Lib.hid hb
  have HP := Lib.hid hp
  clear hv hb hp
  go_enter Tryd.func113, Tryd.ntmps113
  go_wp2_with fail
  go_loopw [8] (fun i wr => ∃ j : Nat, j ≤ l.length ∧ i = .int .i64 (j : Int) ∧ Hid ((l.take j).any (clashWith q) = false) ∧ Upd (fun _ => False) w wr) (fun i _ => l.length - (intOf i).toNat)
  case atStart => exact ⟨0, Nat.zero_le _, rfl, (by show _ = _; simp), Upd.refl _ _⟩
  case round =>
    obtain ⟨j, hj, rfl, hA, hU⟩ := hrel
    by_cases hlt : j < l.length
    · have hI : (j : Int) < (l.length : Int) := by omega
      have hv := HV.out.upd hU (fun _ _ h => h)
      obtain ⟨b, o, hb, hcell⟩ := ent_at hv (by omega)
      clear hv
      subst hb
      have hrg := hcell j hlt
      have hld := ent_load hrg
      have hs := any_take_succ (clashWith q) l j hlt
      rw [hA.out, Bool.false_or] at hs
      have hall := any_of_take (clashWith q) l (j + 1)
      rw [hs] at hall
      have hcal := oright1_any l[j] q bb wr ((hU.cell (World.block_lt_of_cell? w _ HB.out) (fun h => h)).trans HB.out) (HP.out _ (List.getElem_mem hlt)) hq
      have hcw : clashWith q l[j] = clashL l[j].path q := rfl
      rw [hcw] at hs hall
      have HS := Lib.hid hs
      have HALL := Lib.hid hall
      have hcrd : w.cell? ⟨bb, 0, none⟩ = _ := HB.out
      clear hcrd hld hcw
      generalize clashL l[j].path q = r at *
      generalize l[j] = x at *
      clear hcell hs hall hA
      cases r with
      | true =>
        have HANY := Lib.hid (HALL.out rfl)
        clear HALL HS
        go_wp2_with (refine wpList_load_ent rfl (.tmp 14) rfl b (o + j * 34) rfl x hrg ?_)
        refine hcal.mono ?_
        rintro e w' ⟨rfl, hU2⟩
        have hU3 := hU.trans hU2
        clear hU hU2 hcal hrg
        go_wp2_with fail
        go_ret
        exact ⟨(j : Int), rfl, by rw [HANY.out]; exact decide_eq_true (by omega), hU3⟩
      | false =>
        go_wp2_with (refine wpList_load_ent rfl (.tmp 14) rfl b (o + j * 34) rfl x hrg ?_)
        refine hcal.mono ?_
        rintro e w' ⟨rfl, hU2⟩
        have hU3 := hU.trans hU2
        clear hU hU2 hcal hrg
        go_wp2_with fail
        go_roundw
        case rel => exact ⟨j + 1, by omega, by first | rfl | go_num, (by show _ = _; rw [HS.out]), hU3⟩
        case measure => simp [intOf]; omega
    · obtain rfl : j = l.length := by omega
      have h0 := hA.out
      rw [List.take_length] at h0
      have H0 := Lib.hid h0
      clear h0 hA
      go_wp2_with fail
      go_ret
      exact ⟨-1, rfl, by rw [H0.out]; decide, hU⟩
theorem cfE_any (a : Option Addr) (c : Nat) (l : List Ent) (q : List UInt8) (bb : Nat) (w : World) (hv : Vw w a l.length c 34 (l.flatMap entV)) (hb : w.cell? ⟨bb, 0, none⟩ = some (.string (str q)))
    (hp : ∀ x ∈ l, x.path.length ≤ 100000) (hq : q.length ≤ 100000) :
    Calls Tryd.prog 92 #[.slice a l.length c, .func (.func 93) #[] #[.pointer (some ⟨bb, 0, none⟩)]] w fun e w' => e = .returned (.bool (l.any (clashWith q))) ∧ Upd (fun _ => False) w w' := by
  have h := ifE_any a c l q bb w hv hb hp hq
  clear hv hb hp
  go_enter Tryd.func92, Tryd.ntmps92
  go_wp2_with fail
  refine h.mono ?_
  rintro e w' ⟨k, rfl, hk, hU⟩
  have HK := Lib.hid hk
  clear hk h
  go_wp2_with fail
  go_ret
  exact ⟨by rw [← HK.out]; rfl, hU⟩
end Go.Proofs.YteefceainlfdfaaDoor
