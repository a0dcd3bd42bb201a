
/- A law on a statement whose order of evaluation is open, where again and again one of two, or of three, operations that act may come first: a tree of plans. -/
import Derived.Test.YtccejkikphpnfaaGreatDoorQ27
namespace Go.Proofs.YtccejkikphpnfaaGreatDoor
set_option linter.unusedSimpArgs false
set_option linter.unusedVariables false
set_option maxRecDepth 100000
open Go.ChangeShapes Go.WideShapes Go.ChangeAt Go.RowKit
theorem iv_get (l : List Int) (j : Nat) (h : j < l.length) : (l.map iv)[j]? = some (.int .i64 l[j]) := by simp [iv, h]
theorem take_succ_getI (l : List Int) (j : Nat) (h : j < l.length) : l.take (j + 1) = l.take j ++ [l[j]] := List.take_succ_eq_append_getElem h
theorem eqlI_any (x y : Int) (w : World) : Calls Tryz.prog 68 #[.int .i64 x, .int .i64 y] w fun e w' => e = .returned (.bool (x == y)) ∧ w = w' := by
 go_enter Tryz.func68, Tryz.ntmps68
 go_wp2
 go_ret
 exact ⟨rfl, rfl⟩
set_option maxRecDepth 100000 in
set_option maxHeartbeats 1000000 in
theorem sameI_any (a a2 : Option Addr) (c c2 : Nat) (l k : List Int) (w : World) (hv : Vw w a l.length c 1 (l.map iv)) (hv2 : Vw w a2 k.length c2 1 (k.map iv)) :
  Calls Tryz.prog 67 #[.slice a l.length c, .slice a2 k.length c2, .func (.func 68) #[] #[]] w fun e w' => e = .returned (.bool (l == k)) ∧ Upd (fun _ => False) w w' := by
 have hcap := hv.cap
 have hlc := hv.le
 have hcap2 := hv2.cap
 have hlc2 := hv2.le
 unfold maxLen at hcap hcap2
 by_cases hlen : l.length = k.length
 ·have hb : ((l.length : Int) != (k.length : Int)) = false := by simp [hlen]
  have HL := Lib.hid hlen
  clear hlen
  go_enter Tryz.func67, Tryz.ntmps67
  go_wp2_with fail
  go_loopw [7] (fun i wr => ∃ j : Nat, j ≤ l.length ∧ i = .int .i64 (j : Int) ∧ Upd (fun _ => False) w wr ∧ Hid (l.take j = k.take j)) (fun i _ => l.length - (intOf i).toNat)
  case atStart => exact ⟨0, Nat.zero_le _, rfl, Upd.refl _ _, rfl⟩
  case round =>
   obtain ⟨j, hj, rfl, hU, hE⟩ := hrel
   have hvr := hv.upd hU (fun _ _ h => h)
   have hvr2 := hv2.upd hU (fun _ _ h => h)
   by_cases hlt : j < l.length
   ·have hlt2 : j < k.length := by have := HL.out; omega
    obtain ⟨b, off, rfl, hcell⟩ := hvr.at (by omega) (by decide)
    obtain ⟨b2, off2, rfl, hcell2⟩ := hvr2.at (by omega) (by decide)
    have hce : wr.cell? ⟨b, off + j, none⟩ = some (.int .i64 l[j]) := hcell j _ (iv_get l j hlt)
    have hce2 : wr.cell? ⟨b2, off2 + j, none⟩ = some (.int .i64 k[j]) := hcell2 j _ (iv_get k j hlt2)
    have hI : (j : Int) < (l.length : Int) := by omega
    have hI2 : (j : Int) < (k.length : Int) := by omega
    have hI0 : (0 : Int) ≤ (j : Int) := by omega
    by_cases hxy : l[j] = k[j]
    ·have hbe : (l[j] == k[j]) = true := by simpa using hxy
     have HX := Lib.hid hxy; clear hxy
     go_wp2_with fail
     go_quiet ((go_at_call 68; exact Calls.quiet_of_same ((eqlI_any _ _ _).mono fun e w' h => ⟨h.1, h.2.symm⟩)))
     go_wp2_with fail
     go_roundw
     case rel => exact ⟨j + 1, by omega, by go_num, hU.trans (Upd.drewN _ _ _), by show _ = _; rw [take_succ_getI l j hlt, take_succ_getI k j hlt2, hE.out, HX.out]⟩
     case measure => simp [intOf]; omega
    ·have hbe : (l[j] == k[j]) = false := by simpa using hxy
     have hne : (l == k) = false := by
      cases h : l == k
      ·rfl
      ·have e := eq_of_beq h
       exact absurd (by subst e; rfl) hxy
     have HNE := Lib.hid hne; clear hne hxy
     go_wp2_with fail
     go_quiet ((go_at_call 68; exact Calls.quiet_of_same ((eqlI_any _ _ _).mono fun e w' h => ⟨h.1, h.2.symm⟩)))
     go_wp2_with fail
     go_ret
     exact ⟨by rw [HNE.out]; rfl, hU.trans (Upd.drewN _ _ _)⟩
   ·have hI : ¬ (j : Int) < (l.length : Int) := by omega
    have heq : (l == k) = true := by
     have := hE.out
     rw [List.take_of_length_le (by omega), List.take_of_length_le (by have := HL.out; omega)] at this
     simpa using this
    have HE := Lib.hid heq; clear heq
    go_wp2_with fail
    go_ret
    exact ⟨by rw [HE.out]; rfl, hU⟩
 ·have hb : ((l.length : Int) != (k.length : Int)) = true := by simp; omega
  have hne : (l == k) = false := by
   cases h : l == k
   ·rfl
   ·exact absurd (by rw [eq_of_beq h]) hlen
  have HNE := Lib.hid hne; clear hne hlen
  go_enter Tryz.func67, Tryz.ntmps67
  go_wp2_with fail
  go_ret
  exact ⟨by rw [HNE.out]; rfl, Upd.refl _ _⟩
theorem plainI_any (a a2 : Option Addr) (c c2 : Nat) (l k : List Int) (w : World) (hv : Vw w a l.length c 1 (l.map iv)) (hv2 : Vw w a2 k.length c2 1 (k.map iv)) :
  Calls Tryz.prog 29 #[.slice a l.length c, .slice a2 k.length c2] w fun e w' => e = .returned (.bool (l == k)) ∧ Upd (fun _ => False) w w' := by
 go_enter Tryz.func29, Tryz.ntmps29
 go_wp2_with (go_at_call 67; refine (sameI_any a a2 c c2 l k w hv hv2).mono ?_; rintro e w1 ⟨rfl, hU⟩)
 go_ret
 exact ⟨rfl, hU⟩
set_option maxHeartbeats 4000000 in
theorem awake21_any (w : World) : Calls Tryz.prog 10 #[] w fun e w' => e = .returned (.bool true) ∧ Upd (fun _ => False) w w' := by
 have hpk := mPackRoot_any (-1) none 0 [] (-1) w ⟨by decide, by decide, by decide, by decide, by decide⟩ (Vw.nl _ _)
 unfold rootA at hpk
 dsimp only [List.length_nil] at hpk
 go_enter Tryz.func10, Tryz.ntmps10
 go_wp2_with fail
 refine hpk.mono ?_
 unfold Packed
 rintro e w1 ⟨a, c, rfl, hv, hf, hU⟩
 have hnew := mNew_any w1
 have HV := Lib.hid (And.intro hv hU)
 clear hpk hv hf hU
 go_wp2_with fail
 refine hnew.mono ?_
 rintro e w2 ⟨lb, rfl, hL, hU2, hlb⟩
 have hat := mAt_any hL (by decide) (by decide)
 have hadd := add_root ⟨[], [], [], 0, [], 0⟩ _ lb [] (-1) a c w2 hL ⟨⟨by decide, by decide, by decide, by decide, by decide⟩, by decide, by decide, by decide, by decide, by decide, by decide, by decide⟩ (HV.out.1.upd hU2 (fun _ _ h => h))
 have HU2 := Lib.hid (HV.out.2.trans hU2)
 have hlbw : w.heap.size ≤ lb := Nat.le_trans HV.out.2.size hlb
 try dsimp only at hat
 try dsimp only at hadd
 rw [show (0 : Int) - 1 = -1 from rfl] at hat hadd
 clear hnew hL hU2 hlb
 go_wp2_with fail
 refine hat.mono ?_
 rintro e w' ⟨rfl, rfl⟩
 clear hat
 go_wp2_with fail
 refine hadd.mono ?_
 rintro e w3 ⟨rfl, A', x, hx, hL, hU3⟩
 try dsimp only at hx
 have htop : (lgRoot ⟨[], [], [], 0, [], 0⟩ x [] (0 + 1)).top = 1 := rfl
 have hat := mAt_any hL (by rw [htop]; decide) (by rw [htop]; decide)
 have hrec := mRecords_any hL
 have hline := mLine_any _ _ lb [0] w3 hL ⟨rfl, by rw [htop]; decide, x, rfl, by show x.p < 0; rw [hx]; decide⟩ (by rw [htop]; decide) (by rw [htop]; decide) (by decide)
 have HU3 := Lib.hid (HU2.out.next hU3 (fun i hi e => by omega))
 rw [show (lgRoot ⟨[], [], [], 0, [], 0⟩ x [] (0 + 1)).top - 1 = 0 from rfl] at hat
 rw [show (lgRoot ⟨[], [], [], 0, [], 0⟩ x [] (0 + 1)).n = 1 from rfl] at hrec
 dsimp only [List.length_cons, List.length_nil, List.reverse_cons, List.reverse_nil, List.nil_append] at hline
 clear hadd hL hU3 hx htop
 go_wp2_with fail
 refine hat.mono ?_
 rintro e w' ⟨rfl, rfl⟩
 clear hat
 go_wp2_with fail
 refine hrec.mono ?_
 rintro e w' ⟨rfl, rfl⟩
 clear hrec
 go_wp2_with fail
 refine hline.mono ?_
 rintro e w4 ⟨a4, c4, rfl, hown, hfr, hU4⟩
 have hUl := Upd.alloc (fun _ => False) w4 (.cells #[.int .i64 0] 3)
 have hvl : Vw (w4.alloc (.cells #[.int .i64 0] 3)) (some ⟨w4.heap.size, 0, none⟩) ([0] : List Int).length 1 1 (([0] : List Int).map iv) := by
  refine ⟨by simp, Nat.le_refl _, by decide, (fun h => by cases h), fun y hy j u hu => ?_⟩
  cases hy
  have ha : (Addr.add ⟨w4.heap.size, 0, none⟩ j) = ⟨w4.heap.size, j, none⟩ := by unfold Addr.add; split <;> simp_all
  rw [ha, cell_of_row _ _ _ _ _ _ (heap_alloc_new _ _)]
  simpa [iv] using hu
 have hpl := plainI_any a4 (some ⟨w4.heap.size, 0, none⟩) c4 1 [0] [0] _ ((Vw.of_own hown).upd hUl (fun _ _ h => h)) hvl
 have hb : (([0] : List Int) == [0]) = true := rfl
 rw [hb] at hpl
 dsimp only [List.length_cons, List.length_nil] at hpl
 have HU4 := Lib.hid (HU3.out.trans (hU4.trans hUl))
 clear hline hown hfr hU4 hUl hvl hb
 go_wp2_with fail
 refine hpl.mono ?_
 rintro e w5 ⟨rfl, hU5⟩
 have HU5 := Lib.hid (HU4.out.trans hU5)
 clear hpl hU5
 go_wp2_with fail
 go_ret
 exact ⟨rfl, HU5.out⟩
theorem key_vw {w : World} {b o : Nat} {k : List UInt8} (hk : k.length = 32) (hr : w.rangeAt b o (bvs k)) : Vw w (some ⟨b, o, none⟩) 32 32 1 (bvs k) := by
 refine ⟨by rw [bvs_length, hk], Nat.le_refl _, by decide, (fun h => by cases h), fun x hx j u hu => ?_⟩
 cases hx
 have := hr j u hu
 unfold Addr.add
 split
 ·rename_i h; subst h; exact this
 ·exact this
theorem key_src {w : World} {b o : Nat} {k : List UInt8} (hk : k.length = 32) (hr : w.rangeAt b o (bvs k)) : Src Tryz.prog 1 33 (.slice (some ⟨b, o, none⟩) 32 32) 32 (bvs k) w :=
 (key_vw hk hr).src (P := Tryz.prog) (t := 33) Tryz.underlying33 (bvs_cells k)
/-- What an append of m cells behind a list leaves. -/
theorem app_next {B : Nat} {w w1 w2 : World} {a1 a2 : Option Addr} {L k : List UInt8} {m c2 : Nat} (hU : Upd (fun _ => False) w w1) (hB : B = w.heap.size) (hf : ∀ g, blk a1 = some g → B ≤ g) (hk : k.length = m)
  (hown2 : w2.ownsRow 0 5 1 (.slice a2 (L.length + m) c2) (L.length + m) (bvs L ++ bvs k)) (hg2 : w1.grownBy w2 (blk a1)) (hat2 : blk a2 = blk a1 ∨ blk a2 = some w1.heap.size) :
  w2.ownsRow 0 5 1 (.slice a2 (L ++ k).length c2) (L ++ k).length (bvs (L ++ k)) ∧ Upd (fun _ => False) w w2 ∧ (∀ g, blk a2 = some g → B ≤ g) := by
 have hz := hU.size
 refine ⟨?_, ?_, ?_⟩
 ·rw [List.length_append, hk, bvs_append]; exact hown2
 ·refine hU.next (Upd.grown (S := fun k => blk a1 = some k) hg2 (fun k hk => hk)) (fun i hi hs => ?_)
  have := hf i hs
  omega
 ·intro g hg'
  rcases hat2 with h | h
  ·exact hf g (h.symm.trans hg')
  ·rw [h] at hg'; cases hg'; omega
theorem lit_own (w : World) (x : UInt8) : (w.alloc (.cells #[.int .u8 (x.toNat : Int)] 5)).ownsRow 0 5 1 (.slice (some ⟨w.heap.size, 0, none⟩) 1 1) 1 [.int .u8 (x.toNat : Int)] :=
 World.ownsRow_lit (base := 0) (e := 5) (size := 1) w #[.int .u8 (x.toNat : Int)] 1 (Nat.zero_le _) (by decide) rfl
theorem r21PackMove_any (v : Int) (redo : Bool) (w : World) : Calls Tryz.prog 17 #[.int .i64 v, .bool redo] w (Made w (moveL v redo)) := by
 have hown : (w.alloc (.cells #[.int .u8 2] 5)).ownsRow 0 5 1 (.slice (some ⟨w.heap.size, 0, none⟩) 1 1) 1 (bvs [2]) := lit_own w 2
 have hUa := Upd.alloc (fun _ => False) w (.cells #[.int .u8 2] 5)
 have hint := refInt_any (some ⟨w.heap.size, 0, none⟩) 1 [2] v _ (Vw.of_own hown) (by decide)
 have HD : Hid (moveL v redo = [2] ++ i4 v ++ b1 redo) := Lib.hid rfl
 generalize moveL v redo = LL at *
 have HU := Lib.hid hUa
 clear hown hUa
 dsimp only [List.length_cons, List.length_nil] at hint
 go_enter Tryz.func17, Tryz.ntmps17
 go_wp2_with fail
 refine hint.mono ?_
 rintro e w1 ⟨a1, c1, rfl, hown, hU, hf, hnil⟩
 have hl : (([2] : List UInt8) ++ i4 v).length ≤ 5 := by rw [List.length_append, i4_length]; simp
 have hbo := refBool_any a1 c1 _ redo w1 (Vw.of_own hown) (by omega)
 rw [← HD.out] at hbo
 have HU1 := Lib.hid (HU.out.trans hU)
 generalize ([2] : List UInt8) ++ i4 v = l1 at *
 clear hint hown hU hf hnil hl
 go_wp2_with fail
 refine hbo.mono ?_
 rintro e w2 ⟨a2, c2, rfl, hown, hU, hf, hnil⟩
 have hz := HU1.out.size
 have HZ := Lib.hid (And.intro (Vw.of_own hown) (And.intro (fun g (hg : blk a2 = some g) => And.intro (Nat.le_trans hz (hf g hg)) (hown.lt g ((own_blk _ _ _).trans hg)).2) (HU1.out.trans hU)))
 clear hbo hown hU hf hnil hz
 go_wp2_with fail
 go_ret
 exact ⟨a2, c2, rfl, HZ.out⟩
inductive PU where
 | last (l : List Nat)
 | one (seg : List Nat) (e : Nat) (t : PU)
 | two (seg : List Nat) (e1 : Nat) (t1 : PU) (e2 : Nat) (t2 : PU)
 | three (seg : List Nat) (e1 : Nat) (t1 : PU) (e2 : Nat) (t2 : PU) (e3 : Nat) (t3 : PU)
section
variable {P : Program} {ops : Array Oper} {Q : Exit → Act → World → Prop} {md : Region.Mode} {S : World → Prop}
def triWp (P : Program) (ops : Array Oper) (Q : Exit → Act → World → Prop) (S : World → Prop) : PU → Act → World → Prop
 | .last l, a, w => takes P ops S l (fun A => Q .normal A w) a
 | .one sg e t, a, w => takes P ops S sg (fun A => ∃ o, ops[e]? = some o ∧ wpList P ops (Exit.then (fun a' w' => S w' ∧ triWp P ops Q S t a' w') (calmQ Q)) [o] A w) a
 | .two sg e1 t1 e2 t2, a, w => takes P ops S sg (fun A => (∃ o, ops[e1]? = some o ∧ wpList P ops (Exit.then (fun a' w' => S w' ∧ triWp P ops Q S t1 a' w') (calmQ Q)) [o] A w) ∧
   (∃ o, ops[e2]? = some o ∧ wpList P ops (Exit.then (fun a' w' => S w' ∧ triWp P ops Q S t2 a' w') (calmQ Q)) [o] A w)) a
 | .three sg e1 t1 e2 t2 e3 t3, a, w => takes P ops S sg (fun A => (∃ o, ops[e1]? = some o ∧ wpList P ops (Exit.then (fun a' w' => S w' ∧ triWp P ops Q S t1 a' w') (calmQ Q)) [o] A w) ∧ (∃ o, ops[e2]? = some o ∧ wpList P ops (Exit.then (fun a' w' => S w' ∧ triWp P ops Q S t2 a' w') (calmQ Q)) [o] A w) ∧ (∃ o, ops[e3]? = some o ∧ wpList P ops (Exit.then (fun a' w' => S w' ∧ triWp P ops Q S t3 a' w') (calmQ Q)) [o] A w)) a
def triOk (md : Region.Mode) (ops : Array Oper) : PU → Array Bool → Bool
 | .last l, listed => takesOk md ops l listed && (Region.ready md ops (marked l listed)).isEmpty
 | .one sg e t, listed => takesOk md ops sg listed && (Region.ready md ops (marked sg listed) == [e]) && triOk md ops t ((marked sg listed).setIfInBounds e true)
 | .two sg e1 t1 e2 t2, listed => takesOk md ops sg listed && (Region.ready md ops (marked sg listed) == [e1, e2]) && triOk md ops t1 ((marked sg listed).setIfInBounds e1 true) && triOk md ops t2 ((marked sg listed).setIfInBounds e2 true)
 | .three sg e1 t1 e2 t2 e3 t3, listed => takesOk md ops sg listed && (Region.ready md ops (marked sg listed) == [e1, e2, e3]) && triOk md ops t1 ((marked sg listed).setIfInBounds e1 true) && triOk md ops t2 ((marked sg listed).setIfInBounds e2 true) && triOk md ops t3 ((marked sg listed).setIfInBounds e3 true)
def triSize : PU → Nat
 | .last l => l.length
 | .one sg _ t => sg.length + 1 + triSize t
 | .two sg _ t1 _ _ => sg.length + 1 + triSize t1
 | .three sg _ t1 _ _ _ _ => sg.length + 1 + triSize t1
def triEven : PU → Bool
 | .last _ => true
 | .one _ _ t => triEven t
 | .two _ _ t1 _ t2 => (triSize t1 == triSize t2) && triEven t1 && triEven t2
 | .three _ _ t1 _ t2 _ t3 => (triSize t1 == triSize t2) && (triSize t1 == triSize t3) && triEven t1 && triEven t2 && triEven t3
theorem tri_sound (hs : Region.noSelect ops = true) : ∀ (t : PU) (listed : Array Bool) (a : Act) (w : World), listed.size = ops.size → Down md ops listed → triOk md ops t listed = true → triEven t = true →
   S w → triWp P ops Q S t a w → wpAnyX P md ops (calmQ Q) S ops.size (triSize t) listed a w := by
 have hex : ∀ listed : Array Bool, listed.size = ops.size → Down md ops listed → ops.size ∈ Region.ready md ops listed → ∀ k, k < ops.size → listed.getD k true = false → k = ops.size := by
  intro l _ _ hx
  obtain ⟨_, o, ho, _⟩ := mem_ready.1 hx
  have := (Array.getElem?_eq_some_iff.1 ho).1
  omega
 have hlt : ∀ {i : Nat} {o : Oper}, ops[i]? = some o → i ≠ ops.size := fun ho e => by
  have := (Array.getElem?_eq_some_iff.1 ho).1
  omega
 intro t
 induction t with
 | last l =>
  intro listed a w h1 h2 hok _ hS h
  simp only [triOk, Bool.and_eq_true, List.isEmpty_iff] at hok
  have := takes_sound (P := P) (Q := calmQ Q) (S := S) hs (fun _ _ _ h => h) hex 0 l listed a w (fun A => Q .normal A w) h1 h2 hok.1 hS (fun A _ _ hA => ⟨hok.2, hA⟩) h
  simpa [triSize] using this
 | one sg e t ih =>
  intro listed a w h1 h2 hok hev hS h
  simp only [triOk, Bool.and_eq_true, beq_iff_eq] at hok
  obtain ⟨⟨hok1, hok2⟩, hok3⟩ := hok
  rw [show triSize (.one sg e t) = sg.length + (triSize t + 1) from by simp [triSize]; omega]
  refine takes_sound (P := P) (Q := calmQ Q) (S := S) hs (fun _ _ _ h => h) hex (triSize t + 1) sg listed a w _ h1 h2 hok1 hS ?_ h
  intro A hz hd hN
  obtain ⟨o, ho, hA⟩ := hN
  refine ⟨fun h0 => (by rw [hok2] at h0; cases h0), fun i hi => ?_⟩
  have hmem := hi
  rw [hok2, List.mem_singleton] at hi
  subst hi
  refine wpOp_mono (fun a' w' h3 => ⟨.inr h3.1, ?_⟩) (wpOp_of_list ho hA)
  exact ih _ a' w' (by simpa using hz) (hd.next hmem) hok3 hev h3.1 h3.2
 | two sg e1 t1 e2 t2 ih1 ih2 =>
  intro listed a w h1 h2 hok hev hS h
  simp only [triOk, Bool.and_eq_true, beq_iff_eq] at hok
  simp only [triEven, Bool.and_eq_true, beq_iff_eq] at hev
  obtain ⟨⟨⟨hok1, hok2⟩, hok3⟩, hok4⟩ := hok
  rw [show triSize (.two sg e1 t1 e2 t2) = sg.length + (triSize t1 + 1) from by simp [triSize]; omega]
  refine takes_sound (P := P) (Q := calmQ Q) (S := S) hs (fun _ _ _ h => h) hex (triSize t1 + 1) sg listed a w _ h1 h2 hok1 hS ?_ h
  intro A hz hd hN
  obtain ⟨⟨o1, ho1, hA1⟩, o2, ho2, hA2⟩ := hN
  refine ⟨fun h0 => (by rw [hok2] at h0; cases h0), fun i hi => ?_⟩
  have hmem := hi
  rw [hok2] at hi
  simp only [List.mem_cons, List.not_mem_nil, or_false] at hi
  rcases hi with rfl | rfl
  ·refine wpOp_mono (fun a' w' h3 => ⟨.inr h3.1, ?_⟩) (wpOp_of_list ho1 hA1)
   exact ih1 _ a' w' (by simpa using hz) (hd.next hmem) hok3 hev.1.2 h3.1 h3.2
  ·refine wpOp_mono (fun a' w' h3 => ⟨.inr h3.1, ?_⟩) (wpOp_of_list ho2 hA2)
   rw [hev.1.1]
   exact ih2 _ a' w' (by simpa using hz) (hd.next hmem) hok4 hev.2 h3.1 h3.2
 | three sg e1 t1 e2 t2 e3 t3 ih1 ih2 ih3 =>
  intro listed a w h1 h2 hok hev hS h
  simp only [triOk, Bool.and_eq_true, beq_iff_eq] at hok
  simp only [triEven, Bool.and_eq_true, beq_iff_eq] at hev
  obtain ⟨⟨⟨⟨hok1, hok2⟩, hok3⟩, hok4⟩, hok5⟩ := hok
  obtain ⟨⟨⟨⟨hev1, hev2⟩, hev3⟩, hev4⟩, hev5⟩ := hev
  rw [show triSize (.three sg e1 t1 e2 t2 e3 t3) = sg.length + (triSize t1 + 1) from by simp [triSize]; omega]
  refine takes_sound (P := P) (Q := calmQ Q) (S := S) hs (fun _ _ _ h => h) hex (triSize t1 + 1) sg listed a w _ h1 h2 hok1 hS ?_ h
  intro A hz hd hN
  obtain ⟨⟨o1, ho1, hA1⟩, ⟨o2, ho2, hA2⟩, o3, ho3, hA3⟩ := hN
  refine ⟨fun h0 => (by rw [hok2] at h0; cases h0), fun i hi => ?_⟩
  have hmem := hi
  rw [hok2] at hi
  simp only [List.mem_cons, List.not_mem_nil, or_false] at hi
  rcases hi with rfl | rfl | rfl
  ·refine wpOp_mono (fun a' w' h3 => ⟨.inr h3.1, ?_⟩) (wpOp_of_list ho1 hA1)
   exact ih1 _ a' w' (by simpa using hz) (hd.next hmem) hok3 hev3 h3.1 h3.2
  ·refine wpOp_mono (fun a' w' h3 => ⟨.inr h3.1, ?_⟩) (wpOp_of_list ho2 hA2)
   rw [hev1]
   exact ih2 _ a' w' (by simpa using hz) (hd.next hmem) hok4 hev4 h3.1 h3.2
  ·refine wpOp_mono (fun a' w' h3 => ⟨.inr h3.1, ?_⟩) (wpOp_of_list ho3 hA3)
   rw [hev2]
   exact ih3 _ a' w' (by simpa using hz) (hd.next hmem) hok5 hev5 h3.1 h3.2
/-- THE LAW. -/
theorem wp_region_tri {id : Nat} {a : Act} {w : World} (t : PU) (S : World → Prop) (hm : P.follows .mixedOrders = true)
  (hok : (Region.noSelect ops && triOk .any ops t (Array.replicate ops.size false) && triSize t == ops.size && triEven t) = true) (hS : S w.drew)
  (h : triWp P ops Q S t a w.drew) : (Code.region id ops true).wp P Q a w := by
 simp only [Bool.and_eq_true, beq_iff_eq] at hok
 obtain ⟨⟨⟨h1, h3⟩, h4⟩, h5⟩ := hok
 have key := tri_sound (P := P) (S := S) h1 t (Array.replicate ops.size false) a _ (by simp) (down_none _) h3 h5 hS h
 rw [h4] at key
 exact Code.wp_mono calmQ_imp (wp_region_any hm (wpAny_of_X (S := S) (ex := ops.size) _ _ _ _ key))
/-! The moves -/
theorem tri_end {a : Act} {w : World} (h : Q .normal a w) : triWp P ops Q S (.last []) a w := h
theorem tri_act {e : Nat} {t : PU} {a : Act} {w : World} {o : Oper} (ho : ops[e]? = some o)
  (h : ∀ K : Act → World → Prop, Shut (∀ a' w', S w' → triWp P ops Q S t a' w' → K a' w') → wpList P ops (Exit.then K (calmQ Q)) [o] a w) : triWp P ops Q S (.one [] e t) a w :=
 ⟨o, ho, h _ (fun _ _ h1 h2 => ⟨h1, h2⟩)⟩
theorem tri_both {e1 e2 : Nat} {t1 t2 : PU} {a : Act} {w : World} (h1 : triWp P ops Q S (.one [] e1 t1) a w) (h2 : triWp P ops Q S (.one [] e2 t2) a w) : triWp P ops Q S (.two [] e1 t1 e2 t2) a w :=
 ⟨h1, h2⟩
theorem tri_take3 {i e1 e2 e3 : Nat} {r : List Nat} {t1 t2 t3 : PU} {a : Act} {w : World} {o : Oper} {v : Value} (ho : ops[i]? = some o) (hw : Region.wanted o (yielded ops a.tmps) = true)
  (hy : ∀ w', S w' → (execOp a.eval o).run P w' = .ok (.value v) w') (h : triWp P ops Q S (.three r e1 t1 e2 t2 e3 t3) (a.put o.dst v) w) : triWp P ops Q S (.three (i :: r) e1 t1 e2 t2 e3 t3) a w :=
 ⟨o, v, ho, .inl ⟨hw, hy⟩, h⟩
theorem tri_all {e1 e2 e3 : Nat} {t1 t2 t3 : PU} {a : Act} {w : World} (h1 : triWp P ops Q S (.one [] e1 t1) a w) (h2 : triWp P ops Q S (.one [] e2 t2) a w) (h3 : triWp P ops Q S (.one [] e3 t3) a w) : triWp P ops Q S (.three [] e1 t1 e2 t2 e3 t3) a w :=
 ⟨h1, h2, h3⟩
end
end Go.Proofs.YtccejkikphpnfaaGreatDoor
