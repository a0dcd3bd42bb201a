
/- Markers, and what was settled, appended one by one. -/
import Derived.Test.YtccejkikphpnfaaGreatDoorMet4
import Derived.Test.YtccejkikphpnfaaGreatDoorTl4
namespace Go.Proofs.YtccejkikphpnfaaGreatDoor
set_option linter.unusedSimpArgs false
set_option linter.unusedVariables false
set_option maxRecDepth 100000
open Go.ChangeShapes Go.WideShapes Go.ChangeAt Go.RowKit

/-- So many readings, till something is wrong. -/
def listS {X : Type} (f : RS → X × RS) : Nat → RS → List X × RS
  | 0, s => ([], s)
  | n + 1, s => if s.e ≠ 0 then ([], s) else ((f s).1 :: (listS f n (f s).2).1, (listS f n (f s).2).2)
theorem listS_stop {X : Type} (f : RS → X × RS) (n : Nat) (s : RS) (h : s.e ≠ 0) : listS f n s = ([], s) := by
  cases n with
  | zero => rfl
  | succ n => rw [listS, if_pos h]
theorem listS_go {X : Type} (f : RS → X × RS) (n : Nat) (s : RS) (h : s.e = 0) : listS f (n + 1) s = ((f s).1 :: (listS f n (f s).2).1, (listS f n (f s).2).2) := by
  rw [listS, if_neg (by simp [h])]
/-- A reading takes something, unless something is wrong; nothing grows. -/
structure Goes {X : Type} (f : RS → X × RS) : Prop where
  le : ∀ s, (f s).2.l.length ≤ s.l.length
  stuck : ∀ s, s.e ≠ 0 → (f s).2.e ≠ 0
structure Eats {X : Type} (f : RS → X × RS) : Prop extends Goes f where
  less : ∀ s, s.e = 0 → (f s).2.e = 0 → (f s).2.l.length < s.l.length
theorem listS_len {X : Type} {f : RS → X × RS} (h : Eats f) : ∀ (n : Nat) (s : RS), (listS f n s).1.length ≤ s.l.length + 1 ∧ (listS f n s).2.l.length ≤ s.l.length
  | 0, s => ⟨by simp [listS], Nat.le_refl _⟩
  | n + 1, s => by
    by_cases he : s.e = 0
    · rw [listS_go f n s he]
      have h2 := h.le s
      have ih := listS_len h n (f s).2
      by_cases h1 : (f s).2.e = 0
      · have := h.less s he h1
        refine ⟨?_, by dsimp only; omega⟩
        dsimp only
        rw [List.length_cons]; omega
      · rw [listS_stop f n _ h1]
        refine ⟨by simp, by dsimp only; omega⟩
    · rw [listS_stop f _ s he]
      exact ⟨by simp, Nat.le_refl _⟩
/-- A number, and so many readings. -/
def someS {X : Type} (f : RS → X × RS) (s : RS) : List X × RS := listS f (intV s).toNat (takeS 4 s).2
theorem someS_len {X : Type} {f : RS → X × RS} (h : Eats f) (s : RS) : (someS f s).1.length ≤ s.l.length + 1 ∧ (someS f s).2.l.length ≤ s.l.length := by
  have h1 := listS_len h (intV s).toNat (takeS 4 s).2
  have h2 := takeS_len 4 s
  exact ⟨by unfold someS; omega, by unfold someS; omega⟩

theorem enter_of {fid : Nat} {fn : Func} (hf : Tryz.prog.funcs[fid]? = some fn) (hn : (fn.name == "runtime.NumGoroutine") = false) (hb : fn.body.isNone = false) (args : Array Value) (w : World) : (callFunc fid args).run Tryz.prog w = .ok (.enter fid args) w := by
  have h1 : fn.name ≠ "runtime.NumGoroutine" := by simpa using hn
  have h2 : fn.body ≠ none := by intro e; rw [e] at hb; cases hb
  simp [callFunc, hf, h1, h2]
set_option maxHeartbeats 8000000 in
theorem some_gen {X : Type} {f : RS → X × RS} (hf : Eats f) (br BX : Nat) (F : Option Nat) (fid : Nat) (cap : Array Value) (hent : ∀ w, (callFunc fid cap).run Tryz.prog w = .ok (.enter fid cap) w) (s : RS) (wk : World) (hr : Rd wk br F s.l s.e) (hl : s.l.length ≤ 100000000) (hbx : BX < wk.heap.size)
    (I : World → List X → RS → World → Prop) (hinit : ∀ w0, Upd (fun k => k = br) wk w0 → Rd w0 br F (takeS 4 s).2.l (takeS 4 s).2.e → I w0 [] (takeS 4 s).2 w0)
    (hrd : ∀ w0 L s' w', I w0 L s' w' → Rd w' br F s'.l s'.e) (hupd : ∀ w0 L s' w', I w0 L s' w' → Upd (fun q => q = br ∨ q = BX) w0 w')
    (hstep : ∀ w0 L s' w', I w0 L s' w' → s'.e = 0 → s'.l.length ≤ 100000000 → L.length ≤ 100000000 → Calls Tryz.prog fid cap w' fun e w2 => e = .returned (.tuple #[]) ∧ I w0 (L ++ [(f s').1]) (f s').2 w2) :
    Calls Tryz.prog 130 #[.agg #[.pointer (some ⟨br, 0, none⟩)], .func (.func fid) #[] cap] wk fun e w' => e = .returned (.tuple #[]) ∧ ∃ w0, Upd (fun k => k = br) wk w0 ∧ I w0 (someS f s).1 (someS f s).2 w' := by
  have hU0 := Upd.alloc (fun _ => False) wk (.cells #[.pointer (some ⟨br, 0, none⟩)] 139)
  have hbox := heap_alloc_new wk (.cells #[.pointer (some ⟨br, 0, none⟩)] 139)
  have hbr : br < wk.heap.size := by
    obtain ⟨a, c, hh, _⟩ := hr.ex
    exact lt_of_heap hh
  have hlen := listS_len hf (intV s).toNat (takeS 4 s).2
  have htl := takeS_len 4 s
  have hss : someS f s = listS f (intV s).toNat (takeS 4 s).2 := rfl
  have hri := rint_any br F s _ (hr.upd hU0 (fun h => h) (fun _ _ h => h)) hl
  have hib := intV_bd s
  generalize someS f s = SS at *
  generalize intV s = n0 at *
  generalize (takeS 4 s).2 = s1 at *
  have HSS := Lib.hid hss
  have HI := Lib.hid (And.intro hinit (And.intro hrd (And.intro hupd hstep)))
  have HU0 := Lib.hid hU0
  have HL := Lib.hid (And.intro hlen (And.intro htl hl))
  have HBX := Lib.hid hbox
  clear hss hinit hrd hupd hstep hU0 hlen htl hl hbox hr
  go_enter Tryz.func130, Tryz.ntmps130
  go_upto_region 1 with (fail)
  generalize wk.alloc (.cells #[.pointer (some ⟨br, 0, none⟩)] 139) = y0 at *
  obtain ⟨B, hB⟩ : ∃ B, wk.heap.size = B := ⟨_, rfl⟩
  rw [hB] at HBX hbr hbx ⊢
  clear hB
  have q : y0.cell? ⟨B, 0, none⟩ = some (.pointer (some ⟨br, 0, none⟩)) := by rw [cell_of_row _ _ _ _ _ _ HBX.out]; rfl
  go_wp2_with fail
  refine hri.mono ?_
  unfold ReadN
  rintro e w1 ⟨rfl, hR, hU⟩
  have hb1 := (hU.block B (lt_of_heap HBX.out) (by omega)).trans HBX.out
  have hUw := (HU0.out.mono (T := fun k => k = br) (fun _ _ h => h.elim)).trans hU
  have HJ := Lib.hid (And.intro (HI.out.1 w1 hUw hR) hb1)
  have HUW := Lib.hid hUw
  have hBz := lt_of_heap hb1
  have HBZ := Lib.hid hBz
  clear hR hU hb1 hUw q hri hBz
  go_wp2_with fail
  go_loopw [4] (fun i wr => ∃ (v : Int) (L : List X) (sj : RS), i = .int .i64 v ∧ Hid (v ≤ n0 ∧ -1 ≤ v) ∧ Hid (listS f n0.toNat s1 = (L ++ (listS f v.toNat sj).1, (listS f v.toNat sj).2)) ∧ Hid (I w1 L sj wr ∧ sj.l.length ≤ s1.l.length)) (fun i _ => (intOf i).toNat)
  case atStart => exact ⟨n0, [], s1, rfl, Lib.hid ⟨Int.le_refl _, hib.1⟩, Lib.hid rfl, Lib.hid ⟨HJ.out.1, Nat.le_refl _⟩⟩
  case round =>
    obtain ⟨v, L, sj, rfl, HV, HT, HK⟩ := hrel
    have hB1 := ((HI.out.2.2.1 _ _ _ _ HK.out.1).block B HBZ.out (by omega)).trans HJ.out.2
    have q : wr.cell? ⟨B, 0, none⟩ = some (.pointer (some ⟨br, 0, none⟩)) := by rw [cell_of_row _ _ _ _ _ _ hB1]; rfl
    clear hB1
    by_cases h0 : 0 < v
    case neg =>
      have hI : decide (0 < v) = false := decide_eq_false h0
      have HF : Hid (I w1 SS.1 SS.2 wr) := Lib.hid (by
        have ht := HT.out
        rw [show v.toNat = 0 from by omega] at ht
        rw [HSS.out, ht]
        simpa [listS] using HK.out.1)
      clear q
      go_wp2_with fail
      go_end0
      exact ⟨rfl, w1, HUW.out, HF.out⟩
    have hI : decide (0 < v) = true := decide_eq_true h0
    have herr := err_any br F sj.l sj.e wr (HI.out.2.1 _ _ _ _ HK.out.1)
    by_cases he : sj.e = 0
    case neg =>
      have hE : (sj.e == 0) = false := by simp [he]
      have HF : Hid (I w1 SS.1 SS.2 wr) := Lib.hid (by
        have ht := HT.out
        rw [listS_stop f _ sj he] at ht
        rw [HSS.out, ht]
        simpa using HK.out.1)
      generalize sj.e = se at *
      clear he
      go_wp2_with fail
      refine herr.mono ?_
      rintro e w' ⟨rfl, rfl⟩
      clear herr q
      go_wp2_with fail
      go_end0
      exact ⟨rfl, w1, HUW.out, HF.out⟩
    have HE := Lib.hid he
    rw [he] at herr
    obtain ⟨m, hm⟩ : ∃ m : Nat, v = (m : Int) + 1 := ⟨(v - 1).toNat, by omega⟩
    have HT2 : Hid (listS f n0.toNat s1 = (L ++ [(f sj).1] ++ (listS f m (f sj).2).1, (listS f m (f sj).2).2)) := Lib.hid (by
      have ht := HT.out
      rw [show v.toNat = m + 1 from by omega, listS_go f m sj he] at ht
      rw [ht]; simp)
    have hLn : L.length ≤ 100000000 - 1 + 1 := by
      have h1 := HL.out.1.1
      have h2 := HL.out.2.1
      have h3 := HL.out.2.2
      rw [HT2.out] at h1
      simp only [List.length_append, List.length_singleton] at h1
      omega
    have hsl : sj.l.length ≤ 100000000 := by have := HK.out.2; have := HL.out.2.1; have := HL.out.2.2; omega
    have HCL := Lib.hid (HI.out.2.2.2 w1 L sj wr HK.out.1 he hsl (by omega))
    have HLE : Hid ((f sj).2.l.length ≤ s1.l.length) := Lib.hid (Nat.le_trans (hf.le sj) HK.out.2)
    have hdec : IntKind.i64.wrap (v - 1) = (m : Int) := by
      have := HV.out
      rw [hm, Int.add_sub_cancel]
      exact IntWalk.i64_in _ (by omega)
    have HV2 : Hid ((m : Int) ≤ n0 ∧ -1 ≤ (m : Int)) := Lib.hid (by have := HV.out; omega)
    have hmv : (m : Int) < v := by omega
    clear he hLn hsl HV HT hm
    go_wp2_with fail
    refine herr.mono ?_
    rintro e w' ⟨rfl, rfl⟩
    clear herr
    go_wp2_with fail
    refine HCL.out.mono ?_
    rintro e w2 ⟨rfl, hI2⟩
    have HJ2 := Lib.hid (And.intro hI2 HLE.out)
    clear hI2 HCL q
    go_wp2_with fail
    go_roundw
    case rel => exact ⟨(m : Int), L ++ [(f sj).1], (f sj).2, by first | rfl | go_num | (rw [hdec]), HV2, by rw [Int.toNat_natCast]; exact HT2, HJ2⟩
    case measure => simp [intOf]; omega
end Go.Proofs.YtccejkikphpnfaaGreatDoor

namespace Go.Proofs.YtccejkikphpnfaaGreatDoor
set_option linter.unusedSimpArgs false
set_option linter.unusedVariables false
set_option maxRecDepth 100000
open Go.ChangeShapes Go.WideShapes Go.ChangeAt Go.RowKit

/-- Since w0 the variable's block BX has got a slice of xs (at the row's place), of which each may own a block; the reader br (its box: R1) stands at s. -/
structure Ph {X : Type} (dec : X → List Value) (sz : Nat) (eT : TypeId) (ib : X → Option Nat) (inn : World → X → Prop) (T : TypeId) (row : Option Addr → Nat → Nat → Array Value) (br BX R1 : Nat) (F : Option Nat) (w0 : World)
    (s : RS) (xs : List X) (a : Option Addr) (c : Nat) (wk : World) : Prop where
  rd : Rd wk br F s.l s.e
  box : wk.heap[R1]? = some (.cells #[.pointer (some ⟨br, 0, none⟩)] 139)
  var : wk.heap[BX]? = some (.cells (row a xs.length c) T)
  own : wk.ownsRow 0 eT sz (.slice a xs.length c) xs.length (xs.flatMap dec)
  fr : ∀ g, blk a = some g → w0.heap.size ≤ g
  ind : ∀ x ∈ xs, inn wk x ∧ ∀ g, ib x = some g → w0.heap.size ≤ g ∧ g < wk.heap.size ∧ blk a ≠ some g
  upd : Upd (fun q => q = br ∨ q = BX) w0 wk
  n1 : br < w0.heap.size
  n2 : R1 < w0.heap.size
  n3 : BX < w0.heap.size
  n4 : R1 ≠ br
  n5 : BX ≠ br
  n6 : BX ≠ R1
  n7 : ∀ g, F = some g → g < w0.heap.size ∧ g ≠ BX
/-- What an element has in memory stays, where its block does. -/
def Stays {X : Type} (ib : X → Option Nat) (inn : World → X → Prop) : Prop := ∀ (S : Nat → Prop) (w w' : World) (x : X), inn w x → Upd S w w' → (∀ g, ib x = some g → ¬ S g) → inn w' x
section
variable {X : Type} {dec : X → List Value} {sz : Nat} {eT : TypeId} {ib : X → Option Nat} {inn : World → X → Prop} {T : TypeId} {row : Option Addr → Nat → Nat → Array Value} {br BX R1 : Nat} {F : Option Nat} {w0 : World}
  {s s' : RS} {xs : List X} {a : Option Addr} {c : Nat} {wk w' : World}
theorem Ph.read (hst : Stays ib inn) (h : Ph dec sz eT ib inn T row br BX R1 F w0 s xs a c wk) (hR : Rd w' br F s'.l s'.e) (hU : Upd (fun k => k = br) wk w') : Ph dec sz eT ib inn T row br BX R1 F w0 s' xs a c w' := by
  have h1 := h.n1; have h4 := h.n4; have h5 := h.n5
  refine ⟨hR, (hU.block R1 (lt_of_heap h.box) h4).trans h.box, (hU.block BX (lt_of_heap h.var) h5).trans h.var,
    ownsRow_upd h.own hU (fun q hq e => by rw [own_blk] at hq; have := h.fr q hq; omega), h.fr, fun x hx => ?_, h.upd.trans (hU.mono (fun _ _ e => .inl e)), h1, h.n2, h.n3, h4, h5, h.n6, h.n7⟩
  obtain ⟨i1, i2⟩ := h.ind x hx
  exact ⟨hst _ _ _ x i1 hU (fun g hg e => by have := (i2 g hg).1; omega), fun g hg => ⟨(i2 g hg).1, Nat.lt_of_lt_of_le (i2 g hg).2.1 hU.size, (i2 g hg).2.2⟩⟩
theorem Ph.same (hst : Stays ib inn) (h : Ph dec sz eT ib inn T row br BX R1 F w0 s xs a c wk) (hU : Upd (fun _ => False) wk w') : Ph dec sz eT ib inn T row br BX R1 F w0 s xs a c w' :=
  h.read hst (h.rd.upd hU (fun h => h) (fun _ _ h => h)) (hU.mono (fun _ _ h => h.elim))
theorem Ph.q0 (h : Ph dec sz eT ib inn T row br BX R1 F w0 s xs a c wk) : wk.cell? ⟨R1, 0, none⟩ = some (.pointer (some ⟨br, 0, none⟩)) := by rw [cell_of_row _ _ _ _ _ _ h.box]; rfl
theorem Ph.q1 (h : Ph dec sz eT ib inn T row br BX R1 F w0 s xs a c wk) (j : Nat) (hget : ∀ a n c, (row a n c)[j]? = some (.slice a n c)) : wk.cell? ⟨BX, j, none⟩ = some (.slice a xs.length c) := by rw [cell_of_row _ _ _ _ _ _ h.var]; exact hget _ _ _
theorem Ph.lt (h : Ph dec sz eT ib inn T row br BX R1 F w0 s xs a c wk) : BX < wk.heap.size := lt_of_heap h.var
theorem Ph.add (hst : Stays ib inn) (h : Ph dec sz eT ib inn T row br BX R1 F w0 s xs a c wk) (j : Nat) (hget : ∀ a n c, (row a n c)[j]? = some (.slice a n c)) (hset : ∀ a n c a' n' c', (row a n c).setIfInBounds j (.slice a' n' c') = row a' n' c')
    (x : X) (hix : inn wk x) (hbx : ∀ g, ib x = some g → w0.heap.size ≤ g ∧ g < wk.heap.size ∧ blk a ≠ some g) (o : Obj) {w8 : World} {a8 : Option Addr} {c8 : Nat} (hown : w8.ownsRow 0 eT sz (.slice a8 (xs.length + 1) c8) (xs.length + 1) (xs.flatMap dec ++ dec x))
    (hg : (wk.alloc o).grownBy w8 (blk a)) (hat : blk a8 = blk a ∨ blk a8 = some (wk.alloc o).heap.size) :
    Ph dec sz eT ib inn T row br BX R1 F w0 s (xs ++ [x]) a8 c8 (w8.setCell ⟨BX, j, none⟩ (.slice a8 (xs.length + 1) c8)) ∧ w8.cell? ⟨BX, j, none⟩ = some (.slice a xs.length c) ∧ w8.frozen? ⟨BX, j, none⟩ = false ∧ w8.cell? ⟨R1, 0, none⟩ = some (.pointer (some ⟨br, 0, none⟩)) := by
  have h1 := h.n1; have h2 := h.n2; have h3 := h.n3; have h4 := h.n4; have h5 := h.n5; have h6 := h.n6
  have hlt := h.lt
  have hUa := Upd.alloc (fun _ => False) wk o
  have hUg := Upd.grown (S := fun k => blk a = some k) hg (fun k hk => hk)
  have hz := hUa.size
  have hz0 := h.upd.size
  have hU8 : Upd (fun q => blk a = some q) wk w8 := (hUa.mono (fun _ _ e => e.elim)).next hUg (fun i hi e => e)
  have hkeep : ∀ q, q < w0.heap.size → w8.heap[q]? = wk.heap[q]? := fun q hq => hU8.block q (Nat.lt_of_lt_of_le hq hz0) (fun e => by have := h.fr q e; omega)
  have hvar8 := (hkeep BX h3).trans h.var
  have hrow8 := (hkeep R1 h2).trans h.box
  have hst8 := Upd.setCell (S := fun q => q = BX) w8 (p := ⟨BX, j, none⟩) rfl (.slice a8 (xs.length + 1) c8)
  have hf8 : ∀ g, blk a8 = some g → blk a = some g ∨ wk.heap.size ≤ g := fun g hg' => by
    rcases hat with e | e
    · exact .inl (e.symm.trans hg')
    · rw [e] at hg'; cases hg'; exact .inr hz
  have hfx : ∀ g, blk a8 = some g → w0.heap.size ≤ g := fun g hg' => by
    rcases hf8 g hg' with e | e
    · exact h.fr g e
    · omega
  have hUall : Upd (fun q => q = BX ∨ blk a = some q) wk (w8.setCell ⟨BX, j, none⟩ (.slice a8 (xs.length + 1) c8)) :=
    (hU8.mono (fun _ _ e => .inr e)).trans (hst8.mono (fun _ _ e => .inl e))
  have hll : (xs ++ [x]).length = xs.length + 1 := by simp
  have hind : ∀ y, inn wk y → (∀ g, ib y = some g → w0.heap.size ≤ g ∧ g < wk.heap.size ∧ blk a ≠ some g) → inn (w8.setCell ⟨BX, j, none⟩ (.slice a8 (xs.length + 1) c8)) y ∧ ∀ g, ib y = some g → w0.heap.size ≤ g ∧ g < (w8.setCell ⟨BX, j, none⟩ (.slice a8 (xs.length + 1) c8)).heap.size ∧ blk a8 ≠ some g := fun y i1 i2 =>
    ⟨hst _ _ _ y i1 hUall (fun g hg' e => by
      obtain ⟨j1, j2, j3⟩ := i2 g hg'
      rcases e with e | e
      · omega
      · exact j3 e), fun g hg' => by
      obtain ⟨j1, j2, j3⟩ := i2 g hg'
      refine ⟨j1, Nat.lt_of_lt_of_le j2 hUall.size, fun e => ?_⟩
      rcases hf8 g e with e2 | e2
      · exact j3 e2
      · omega⟩
  refine ⟨⟨?_, ?_, ?_, ?_, hfx, fun y hy => ?_, ?_, h1, h2, h3, h4, h5, h6, h.n7⟩, ?_, free_row hvar8, ?_⟩
  · refine h.rd.upd hUall (fun e => ?_) (fun g hg' e => ?_)
    · rcases e with e | e
      · omega
      · have := h.fr _ e; omega
    · have := h.n7 g hg'
      rcases e with e | e
      · omega
      · have := h.fr _ e; omega
  · exact (hst8.block R1 (lt_of_heap hrow8) (fun e => h6 e.symm)).trans hrow8
  · rw [setCell_heap j (.slice a8 (xs.length + 1) c8) hvar8, hll, hset]
  · have := ownsRow_setCell_ne hown (a := ⟨BX, j, none⟩) (by rw [own_blk]; intro e; have := hfx _ e; simp at this; omega) (.slice a8 (xs.length + 1) c8)
    rw [hll]
    simpa using this
  · rcases List.mem_append.1 hy with hy | hy
    · exact hind y (h.ind y hy).1 (h.ind y hy).2
    · simp at hy
      subst hy
      exact hind y hix hbx
  · refine h.upd.next hUall (fun i hi e => ?_)
    rcases e with e | e
    · exact .inr e
    · have := h.fr _ e; omega
  · rw [cell_of_row _ _ _ _ _ _ hvar8]; exact hget _ _ _
  · rw [cell_of_row _ _ _ _ _ _ hrow8]; rfl
end
end Go.Proofs.YtccejkikphpnfaaGreatDoor

namespace Go.Proofs.YtccejkikphpnfaaGreatDoor
set_option linter.unusedSimpArgs false
set_option linter.unusedVariables false
set_option maxRecDepth 100000
open Go.ChangeShapes Go.WideShapes Go.ChangeAt Go.RowKit

theorem take_goes (n : Nat) : Goes (takeS n) := ⟨takeS_len n, fun s h => by unfold takeS; rw [if_pos h]; exact h⟩
theorem take_eats (n : Nat) (hn : 0 < n) : Eats (takeS n) := { take_goes n with
  less := fun s h h2 => by
    unfold takeS at h2 ⊢
    rw [if_neg (by simp [h])] at h2 ⊢
    split
    · rename_i h3; rw [if_pos h3] at h2; exact absurd h2 (by decide)
    · simp; omega }
/-- One reading behind another. -/
theorem Goes.seq {X Y Z : Type} {f : RS → X × RS} {g : RS → Y × RS} {k : RS → Z × RS} (hf : Goes f) (hg : Goes g) (hk : ∀ s, (k s).2 = (g (f s).2).2) : Goes k :=
  ⟨fun s => by rw [hk]; exact Nat.le_trans (hg.le _) (hf.le _), fun s h => by rw [hk]; exact hg.stuck _ (hf.stuck _ h)⟩
theorem Eats.seq {X Y Z : Type} {f : RS → X × RS} {g : RS → Y × RS} {k : RS → Z × RS} (hf : Eats f) (hg : Goes g) (hk : ∀ s, (k s).2 = (g (f s).2).2) : Eats k :=
  { Goes.seq hf.toGoes hg hk with
    less := fun s h h2 => by
      rw [hk] at h2 ⊢
      have h3 : (f s).2.e = 0 := by
        by_cases e : (f s).2.e = 0
        · exact e
        · exact absurd h2 (hg.stuck _ e)
      exact Nat.lt_of_le_of_lt (hg.le _) (hf.less s h h3) }
theorem Goes.like {X Y : Type} {f : RS → X × RS} {k : RS → Y × RS} (hf : Goes f) (hk : ∀ s, (k s).2 = (f s).2) : Goes k := ⟨fun s => by rw [hk]; exact hf.le s, fun s h => by rw [hk]; exact hf.stuck s h⟩
theorem Eats.like {X Y : Type} {f : RS → X × RS} {k : RS → Y × RS} (hf : Eats f) (hk : ∀ s, (k s).2 = (f s).2) : Eats k := { hf.toGoes.like hk with less := fun s h h2 => by rw [hk] at h2 ⊢; exact hf.less s h h2 }
def intF (s : RS) : Int × RS := (intV s, (takeS 4 s).2)
theorem int_eats : Eats intF := (take_eats 4 (by decide)).like (fun _ => rfl)
theorem text_goes : Goes textS := ⟨fun s => by
    unfold textS
    split
    · exact takeS_len 4 s
    · split
      · simp
      · exact Nat.le_trans (takeS_len _ _) (takeS_len 4 s), fun s h => by
    unfold textS
    rw [if_pos (by exact (take_goes 4).stuck s h)]
    exact (take_goes 4).stuck s h⟩
theorem text_eats : Eats textS := { text_goes with
  less := fun s h h2 => by
    unfold textS at h2 ⊢
    by_cases h4 : (takeS 4 s).2.e ≠ 0
    · rw [if_pos h4] at h2; exact absurd h2 h4
    · rw [if_neg h4] at h2 ⊢
      split
      · rename_i h5; rw [if_pos h5] at h2; exact absurd h2 (by decide)
      · exact Nat.lt_of_le_of_lt (takeS_len _ _) ((take_eats 4 (by decide)).less s h (by simpa using h4)) }
theorem bool_goes : Goes boolS := ⟨fun s => by
    unfold boolS
    split
    · simp
    · exact takeS_len 1 s, fun s h => by
    have h1 := (take_goes 1).stuck s h
    unfold boolS
    rw [if_neg (by intro hx; exact h1 hx.1)]
    exact h1⟩
theorem list_goes {X : Type} {f : RS → X × RS} (hf : Goes f) : ∀ n, Goes (listS f n)
  | 0 => ⟨fun _ => Nat.le_refl _, fun _ h => h⟩
  | n + 1 => ⟨fun s => by
      by_cases h : s.e = 0
      · rw [listS_go f n s h]; exact Nat.le_trans ((list_goes hf n).le _) (hf.le s)
      · rw [listS_stop f _ s h]; exact Nat.le_refl _, fun s h => by rw [listS_stop f _ s h]; exact h⟩
theorem some_goes {X : Type} {f : RS → X × RS} (hf : Goes f) : Goes (someS f) :=
  ⟨fun s => Nat.le_trans ((list_goes hf _).le _) (takeS_len 4 s), fun s h => (list_goes hf _).stuck _ ((take_goes 4).stuck s h)⟩
theorem keyN_goes : ∀ n, Goes (keyN n)
  | 0 => ⟨fun _ => Nat.le_refl _, fun _ h => h⟩
  | n + 1 => (keyN_goes n).seq (take_goes 1) (fun _ => rfl)
theorem keyN_eats : ∀ n, Eats (keyN (n + 1))
  | 0 => (take_eats 1 (by decide)).like (fun _ => rfl)
  | n + 1 => (keyN_eats n).seq (take_goes 1) (fun _ => rfl)
def kyS (s : RS) : Ky × RS := (⟨(keyS s).1, keyS_len s⟩, (keyS s).2)
theorem key32_eats : Eats (keyN 32) := keyN_eats 31
theorem keyS_eq (s : RS) : keyS s = keyN 32 s := by unfold keyS; with_reducible rfl
theorem kyS_snd (s : RS) : (kyS s).2 = (keyS s).2 := by unfold kyS; with_reducible rfl
theorem ky_eats : Eats kyS := key32_eats.like (fun s => by rw [kyS_snd, keyS_eq])
def numsS (s : RS) : List Int × RS := someS intF s
def mkS (s : RS) : (Int × List Int) × RS := ((intV s, (numsS (takeS 4 s).2).1), (numsS (takeS 4 s).2).2)
theorem mk_eats : Eats mkS := int_eats.seq (some_goes int_eats.toGoes) (fun _ => rfl)
def nmS (s : RS) : Nm × RS := (⟨(textS s).1, intV (textS s).2⟩, (takeS 4 (textS s).2).2)
theorem nm_eats : Eats nmS := text_eats.seq int_eats.toGoes (fun _ => rfl)
def flS (s : RS) : Fl × RS := (⟨(textS s).1, (boolS (textS s).2).1, (textS (boolS (textS s).2).2).1⟩, (textS (boolS (textS s).2).2).2)
theorem fl_eats : Eats flS := (text_eats.seq bool_goes (k := fun s => boolS (textS s).2) (fun _ => rfl)).seq text_goes (fun _ => rfl)
def stS (s : RS) : (Int × List Fl) × RS := ((intV s, (someS flS (takeS 4 s).2).1), (someS flS (takeS 4 s).2).2)
theorem st_eats : Eats stS := int_eats.seq (some_goes fl_eats.toGoes) (fun _ => rfl)
def clS (s : RS) : Cl × RS := (⟨(textS s).1, intV (textS s).2, (textS (takeS 4 (textS s).2).2).1⟩, (textS (takeS 4 (textS s).2).2).2)
theorem cl_eats : Eats clS := (text_eats.seq int_eats.toGoes (k := fun s => intF (textS s).2) (fun _ => rfl)).seq text_goes (fun _ => rfl)
theorem listS_mem {X : Type} {f : RS → X × RS} (hf : Goes f) : ∀ (n : Nat) (s : RS) (x : X), x ∈ (listS f n s).1 → ∃ s', x = (f s').1 ∧ s'.l.length ≤ s.l.length
  | 0, s, x, h => by cases h
  | n + 1, s, x, h => by
    by_cases he : s.e = 0
    · rw [listS_go f n s he] at h
      rcases List.mem_cons.1 h with h | h
      · exact ⟨s, h, Nat.le_refl _⟩
      · obtain ⟨s', h1, h2⟩ := listS_mem hf n _ x h
        exact ⟨s', h1, Nat.le_trans h2 (hf.le s)⟩
    · rw [listS_stop f _ s he] at h; cases h
theorem someS_mem {X : Type} {f : RS → X × RS} (hf : Goes f) (s : RS) (x : X) (h : x ∈ (someS f s).1) : ∃ s', x = (f s').1 ∧ s'.l.length ≤ s.l.length := by
  obtain ⟨s', h1, h2⟩ := listS_mem hf _ _ x h
  exact ⟨s', h1, Nat.le_trans h2 (takeS_len 4 s)⟩
theorem takeS_fst (n : Nat) (s : RS) : (takeS n s).1.length ≤ s.l.length := by
  unfold takeS
  split
  · simp
  · split
    · simp
    · rw [List.length_take]; omega
theorem textS_fst (s : RS) : (textS s).1.length ≤ s.l.length := by
  unfold textS
  split
  · simp
  · split
    · simp
    · exact Nat.le_trans (takeS_fst _ _) (takeS_len 4 s)
theorem fl_long (s : RS) : ∀ x ∈ (someS flS s).1, x.path.length ≤ s.l.length ∧ x.text.length ≤ s.l.length := fun x h => by
  obtain ⟨s', rfl, h2⟩ := someS_mem fl_eats.toGoes s x h
  have h1 : (flS s').1.path.length ≤ s'.l.length := textS_fst s'
  have h3 : (flS s').1.text.length ≤ (boolS (textS s').2).2.l.length := textS_fst _
  have h4 := bool_goes.le (textS s').2
  have h5 := text_goes.le s'
  exact ⟨by omega, by omega⟩
theorem nm_long (s : RS) : ∀ x ∈ (someS nmS s).1, x.name.length ≤ s.l.length := fun x h => by
  obtain ⟨s', rfl, h2⟩ := someS_mem nm_eats.toGoes s x h
  have h1 : (nmS s').1.name.length ≤ s'.l.length := textS_fst s'
  omega
/-- A root, a wait: what they hold. -/
structure RC where
  p : Int
  ks : List Ky
  ms : List (Int × List Int)
  ns : List Nm
  k : Int
structure WC where
  re : Bool
  src : Int
  dst : Int
  ss : List (Int × List Fl)
  com : Int
  cs : List Cl
def rS1 (s : RS) : List Ky × RS := someS kyS (takeS 4 s).2
def rS2 (s : RS) : List (Int × List Int) × RS := someS mkS (rS1 s).2
def rS3 (s : RS) : List Nm × RS := someS nmS (rS2 s).2
def rootS (s : RS) : RC × RS := (⟨intV s, (rS1 s).1, (rS2 s).1, (rS3 s).1, intV (rS3 s).2⟩, (takeS 4 (rS3 s).2).2)
def wS0 (s : RS) : RS := (takeS 4 (takeS 4 (takeS 4 (boolS s).2).2).2).2
def wS1 (s : RS) : List (Int × List Fl) × RS := someS stS (wS0 s)
def wS2 (s : RS) : List Cl × RS := someS clS (wS1 s).2
def waitS (s : RS) : WC × RS := (⟨(boolS s).1, intV (boolS s).2, intV (takeS 4 (boolS s).2).2, (wS1 s).1, intV (takeS 4 (takeS 4 (boolS s).2).2).2, (wS2 s).1⟩, (wS2 s).2)
end Go.Proofs.YtccejkikphpnfaaGreatDoor

namespace Go.Proofs.YtccejkikphpnfaaGreatDoor
set_option linter.unusedSimpArgs false
set_option linter.unusedVariables false
set_option maxRecDepth 100000
open Go.ChangeShapes Go.WideShapes Go.ChangeAt Go.RowKit

theorem wpList_slice_gen {ops : Array Oper} {rest : List Oper} {op : Oper} {ac : Act} {w : World} {Q : Exit → Act → World → Prop} (hgd : op.guard = none) (sT eT : TypeId) (k : Nat) (x : Operand) (ho : op.op = .buildSlice sT 1 #[(0, x)])
    (hu : Tryz.prog.underlying sT = some (.slice eT)) (i0 : TypeInfo) (z : Value) (hi : Tryz.prog.info? eT = some i0) (hz0 : i0.zero = some z) (hz1 : i0.size = k) (hk0 : k ≠ 0) (hk1 : k ≤ 16777216) (v : Value) (X : Array Value) (ha : ac.eval x = v)
    (hf : Instr.fill (fun i => some (i * k, k)) ((Array.range (1 * k)).map (z.cells[· % z.cells.size]!)) [(0, v)] = some X) (h : wpList Tryz.prog ops Q rest (ac.put op.dst (.slice (some ⟨w.heap.size, 0, none⟩) 1 1)) (w.alloc (.cells X eT))) : wpList Tryz.prog ops Q (op :: rest) ac w :=
  wpList_plain hgd fun _ hK => by
    have hk2 : ¬ 16777216 < k := by omega
    rw [Nat.one_mul] at hf
    have hr : (Instr.buildSlice sT 1 #[(0, v)]).run Tryz.prog w = .ok (.slice (some ⟨w.heap.size, 0, none⟩) 1 1) (w.alloc (.cells X eT)) := by
      simp only [Instr.buildSlice, run_underlying hu, Sem.run_bind, Result.andThen_ok, sizeOf, typeInfo, zeroValue, hi, hz0, Sem.run_pure, run_program]
      simp [hz0, hz1, hi, hf, hk0, hk2, newRow, sizeOf, typeInfo, zeroValue]
    unfold Oper.wp execOp
    simp only [ho, List.map_toArray, List.map_cons, List.map_nil, ha, Sem.run_bind, hr, Result.andThen_ok, Sem.run_pure]
    exact hK _ _ h
theorem kyS_fst (s : RS) : (kyS s).1.b = (keyS s).1 := by unfold kyS; with_reducible rfl
theorem mrky_any (br : Nat) (F : Option Nat) (s : RS) (w : World) (hr : Rd w br F s.l s.e) (hF : ∀ g, F = some g → g < w.heap.size) (hl : s.l.length ≤ 100000000) :
    Calls Tryz.prog 132 #[.agg #[.pointer (some ⟨br, 0, none⟩)]] w fun e w' => e = .returned (.agg (kyA (kyS s).1)) ∧ Rd w' br F (kyS s).2.l (kyS s).2.e ∧ Upd (fun k => k = br) w w' := by
  have h := mrkey_any br F s w hr hF hl
  rw [← kyS_fst, ← kyS_snd] at h
  exact h
def ivV (x : Int) : List Value := [iv x]
theorem infoIntZ' : (Tryz.prog.info? 3).map (fun i => (i.zero, i.size, i.bytes)) = some (some (.int .i64 0), 1, 8) := by kernel_rfl
theorem infoNamedZ : (Tryz.prog.info? 92).map (fun i => (i.zero, i.size, i.bytes)) = some (some (.agg #[.string ⟨#[]⟩, .int .i64 0]), 2, 24) := by kernel_rfl
theorem infoFileZ : (Tryz.prog.info? 103).map (fun i => (i.zero, i.size, i.bytes)) = some (some (.agg #[.string ⟨#[]⟩, .bool false, .string ⟨#[]⟩]), 3, 40) := by kernel_rfl
theorem infoClashZ : (Tryz.prog.info? 100).map (fun i => (i.zero, i.size, i.bytes)) = some (some (.agg #[.string ⟨#[]⟩, .int .i64 0, .string ⟨#[]⟩]), 3, 40) := by kernel_rfl

set_option maxHeartbeats 8000000 in
theorem numbers1_any {br BX R1 : Nat} {F : Option Nat} {w0 : World} {s : RS} {xs : List Int} {a : Option Addr} {c : Nat} {wk : World} (h : Ph ivV 1 3 (fun _ => none) (fun _ _ => True) 49 (fun a n c => #[.slice a n c]) br BX R1 F w0 s xs a c wk) (hs : s.l.length ≤ 100000000) (hn : xs.length ≤ 100000000) :
    Calls Tryz.prog 159 #[.pointer (some ⟨BX, 0, none⟩), .pointer (some ⟨R1, 0, none⟩)] wk fun e w' => e = .returned (.tuple #[]) ∧ ∃ a' c', Ph ivV 1 3 (fun _ => none) (fun _ _ => True) 49 (fun a n c => #[.slice a n c]) br BX R1 F w0 (intF s).2 (xs ++ [(intF s).1]) a' c' w' := by
  have hst : Stays (X := Int) (fun _ => none) (fun _ _ => True) := fun _ _ _ _ _ _ _ => trivial
  have hget : ∀ (a : Option Addr) (n c : Nat), ((fun a n c => #[Value.slice a n c] : Option Addr → Nat → Nat → Array Value) a n c)[0]? = some (.slice a n c) := fun _ _ _ => rfl
  have hset : ∀ (a : Option Addr) (n c : Nat) (a' : Option Addr) (n' c' : Nat), ((fun a n c => #[Value.slice a n c] : Option Addr → Nat → Nat → Array Value) a n c).setIfInBounds 0 (.slice a' n' c') = (fun a n c => #[Value.slice a n c] : Option Addr → Nat → Nat → Array Value) a' n' c' := fun _ _ _ _ _ _ => rfl
  have HI := Lib.hid h
  have HG := Lib.hid (And.intro hget (And.intro hset hst))
  have HQ := Lib.hid (And.intro (h.q1 0 hget) h.q0)
  have hfs : Hid (intF s = intF s) := Lib.hid rfl
  have hle0 := takeS_len 4 s
  obtain ⟨t0, ht0⟩ : ∃ t, t = intV s := ⟨_, rfl⟩
  obtain ⟨s1, hs1⟩ : ∃ t, t = (takeS 4 s).2 := ⟨_, rfl⟩
  rw [← hs1] at hle0
  have HT0 := Lib.hid ht0
  have HE1 := Lib.hid hs1
  have HF : Hid (intF s = (t0, s1)) := Lib.hid (by subst ht0 hs1; rfl)
  clear h hget hset hst hfs ht0 hs1
  go_enter Tryz.func159, Tryz.ntmps159
  go_upto_region 0 with (fail)
  refine wp_region_plan_last [([0, 1, 2], 3), ([], 4), ([], 5), ([], 6)] [] (fun w' => w'.cell? ⟨BX, 0, none⟩ = some (.slice a xs.length c) ∧ w'.cell? ⟨R1, 0, none⟩ = some (.pointer (some ⟨br, 0, none⟩))) (by kernel_rfl) (by kernel_rfl) HQ.out ?_
  iterate 3
    refine plan_take (v := ?_) rfl rfl (fun w' hS => ?_) ?_
    rotate_left
    · skip
      go_simp; try with_reducible rfl
    simp only [Act.put, List.getElem_toArray, List.getElem_cons_zero, List.getElem_cons_succ, List.setIfInBounds_toArray, List.set_cons_zero, List.set_cons_succ]
  have HN0 := Lib.hid (HI.out.same HG.out.2.2 (Upd.drew _ _))
  clear HQ
  have hc0 := rint_any br F s _ HN0.out.rd (by omega)
  rw [← HE1.out, ← HT0.out] at hc0
  refine plan_act rfl (fun KK hKK => ?_)
  go_wp2_with fail
  refine hc0.mono ?_
  unfold ReadN
  rintro e u0 ⟨rfl, hR, hU⟩
  have HN1 := Lib.hid (HN0.out.read HG.out.2.2 hR hU)
  have HQ := Lib.hid (And.intro (HN1.out.q1 0 HG.out.1) HN1.out.q0)
  clear hR hU hc0 HN0
  go_wp2_with fail
  refine hKK.out _ _ (.inr HQ.out) ?_
  clear HQ
  try simp only [Act.put, List.getElem_toArray, List.getElem_cons_zero, List.getElem_cons_succ, List.setIfInBounds_toArray, List.set_cons_zero, List.set_cons_succ]
  refine plan_act rfl (fun KK hKK => ?_)
  obtain ⟨i0, hi, hz0, hz1, hz2⟩ := info_parts4 infoIntZ'
  refine wpList_slice_gen rfl 49 3 1 (.tmp 5) rfl Tryz.underlying49 i0 (.int .i64 0) hi hz0 hz1 (by decide) (by decide) (.int .i64 t0) #[.int .i64 t0] rfl (by kernel_rfl) ?_
  have hUb := Upd.alloc (fun _ => False) u0 (.cells #[.int .i64 t0] 3)
  have hsrc : Src Tryz.prog 1 49 (.slice (some ⟨u0.heap.size, 0, none⟩) 1 1) 1 (ivV t0) (u0.alloc (.cells #[.int .i64 t0] 3)) := row_src (X := #[.int .i64 t0]) Tryz.underlying49 rfl (by simp [Value.oneCell']) (heap_alloc_new u0 _)
  have hownx := ownsRow_upd HN1.out.own hUb (fun _ _ h => h)
  have HS7 := HN1.out.same HG.out.2.2 hUb
  have hq7 := And.intro (HS7.q1 0 HG.out.1) HS7.q0
  go_wp2_with fail
  refine hKK.out _ _ (.inr hq7) ?_
  refine plan_act rfl (fun KK hKK => ?_)
  try simp only [Act.put, List.getElem_toArray, List.getElem_cons_zero, List.getElem_cons_succ, List.setIfInBounds_toArray, List.set_cons_zero, List.set_cons_succ]
  refine wpList_app _ rfl (.tmp 2) (.tmp 6) 49 49 rfl 3 i0 (.int .i64 0) 1 8 Tryz.underlying49 hi hz0 hz1 hz2 rfl a xs.length c (xs.flatMap ivV) rfl hownx (.slice (some ⟨u0.heap.size, 0, none⟩) 1 1) 1 (ivV t0) rfl hsrc ?_ ?_ ?_
  · unfold maxLen; omega
  · omega
  clear hi hz0 hz1 hz2
  intro a8 c8 w8 hown8 hg8 hat8 hnil8
  obtain ⟨hcb, hq8, hf8, hq80⟩ := HN1.out.add HG.out.2.2 0 HG.out.1 HG.out.2.1 t0 trivial (fun g hg => by cases hg) _ hown8 hg8 hat8
  have HM8 := Lib.hid hcb
  clear hown8 hg8 hat8 hnil8 hcb hownx hsrc hUb hq7 HS7
  have HQ8 := Lib.hid (And.intro hq8 hq80)
  clear hq80
  go_wp2_with fail
  refine hKK.out _ _ (.inr HQ8.out) ?_
  try simp only [Act.put, List.getElem_toArray, List.getElem_cons_zero, List.getElem_cons_succ, List.setIfInBounds_toArray, List.set_cons_zero, List.set_cons_succ]
  refine plan_act rfl (fun KK hKK => ?_)
  go_wp2_with fail
  refine hKK.out _ _ (.inl rfl) ?_
  refine plan_end ?_
  go_wp2_with fail
  go_end0
  exact ⟨rfl, a8, c8, by rw [HF.out]; exact HM8.out⟩

set_option maxHeartbeats 8000000 in
theorem root1_gen {row : Option Addr → Nat → Nat → Array Value} {br BX R1 : Nat} {F : Option Nat} {w0 : World} {s : RS} {xs : List Ky} {a : Option Addr} {c : Nat} {wk : World} (h : Ph kyV 32 52 (fun _ => none) (fun _ _ => True) 26 row br BX R1 F w0 s xs a c wk) (hget : ∀ a n c, (row a n c)[1]? = some (.slice a n c)) (hset : ∀ a n c a' n' c', (row a n c).setIfInBounds 1 (.slice a' n' c') = row a' n' c') (hs : s.l.length ≤ 100000000) (hn : xs.length ≤ 100000000) :
    Calls Tryz.prog 131 #[.pointer (some ⟨BX, 0, none⟩), .pointer (some ⟨R1, 0, none⟩)] wk fun e w' => e = .returned (.tuple #[]) ∧ ∃ a' c', Ph kyV 32 52 (fun _ => none) (fun _ _ => True) 26 row br BX R1 F w0 (kyS s).2 (xs ++ [(kyS s).1]) a' c' w' := by
  have hst : Stays (X := Ky) (fun _ => none) (fun _ _ => True) := fun _ _ _ _ _ _ _ => trivial
  have HI := Lib.hid h
  have HG := Lib.hid (And.intro hget (And.intro hset hst))
  have HQ := Lib.hid (And.intro (h.q1 1 hget) h.q0)
  have hfs : Hid (kyS s = kyS s) := Lib.hid rfl
  have hle0 := ky_eats.le s
  obtain ⟨t0, ht0⟩ : ∃ t, t = (kyS s).1 := ⟨_, rfl⟩
  obtain ⟨s1, hs1⟩ : ∃ t, t = (kyS s).2 := ⟨_, rfl⟩
  rw [← hs1] at hle0
  have HT0 := Lib.hid ht0
  have HE1 := Lib.hid hs1
  have HF : Hid (kyS s = (t0, s1)) := Lib.hid (by subst ht0 hs1; generalize kyS s = q; rfl)
  clear h hget hset hst hfs ht0 hs1
  go_enter Tryz.func131, Tryz.ntmps131
  go_upto_region 0 with (fail)
  refine wp_region_plan_last [([0, 1, 2], 3), ([], 4), ([], 5), ([6], 7)] [] (fun w' => w'.cell? ⟨BX, 1, none⟩ = some (.slice a xs.length c) ∧ w'.cell? ⟨R1, 0, none⟩ = some (.pointer (some ⟨br, 0, none⟩))) (by kernel_rfl) (by kernel_rfl) HQ.out ?_
  iterate 3
    refine plan_take (v := ?_) rfl rfl (fun w' hS => ?_) ?_
    rotate_left
    · skip
      go_simp; try with_reducible rfl
    simp only [Act.put, List.getElem_toArray, List.getElem_cons_zero, List.getElem_cons_succ, List.setIfInBounds_toArray, List.set_cons_zero, List.set_cons_succ]
  have HN0 := Lib.hid (HI.out.same HG.out.2.2 (Upd.drew _ _))
  clear HQ
  have hc0 := mrky_any br F s _ HN0.out.rd (fun g hg => by have := HN0.out.n7 g hg; have := HN0.out.upd.size; omega) (by omega)
  rw [← HE1.out, ← HT0.out] at hc0
  refine plan_act rfl (fun KK hKK => ?_)
  go_wp2_with fail
  refine hc0.mono ?_
  rintro e u0 ⟨rfl, hR, hU⟩
  have HN1 := Lib.hid (HN0.out.read HG.out.2.2 hR hU)
  have HQ := Lib.hid (And.intro (HN1.out.q1 1 HG.out.1) HN1.out.q0)
  clear hR hU hc0 HN0
  go_wp2_with fail
  refine hKK.out _ _ (.inr HQ.out) ?_
  clear HQ
  try simp only [Act.put, List.getElem_toArray, List.getElem_cons_zero, List.getElem_cons_succ, List.setIfInBounds_toArray, List.set_cons_zero, List.set_cons_succ]
  refine plan_act rfl (fun KK hKK => ?_)
  obtain ⟨i0, hi, hz0, hz1, hz2⟩ := info_parts4 infoKeyZ
  refine wpList_slice_gen rfl 22 52 32 (.tmp 5) rfl Tryz.underlying22 i0 (.agg (kyA kyZ)) hi hz0 hz1 (by decide) (by decide) (.agg (kyA t0)) (kyA t0) rfl (ky_fill t0) ?_
  have hUb := Upd.alloc (fun _ => False) u0 (.cells (kyA t0) 52)
  have hsrc : Src Tryz.prog 32 22 (.slice (some ⟨u0.heap.size, 0, none⟩) 1 1) 1 (kyV t0) (u0.alloc (.cells (kyA t0) 52)) := row_src (X := (kyA t0)) Tryz.underlying22 (kyA_size t0) (key_one t0.b) (heap_alloc_new u0 _)
  have hownx := ownsRow_upd HN1.out.own hUb (fun _ _ h => h)
  have HS7 := HN1.out.same HG.out.2.2 hUb
  have hq7 := And.intro (HS7.q1 1 HG.out.1) HS7.q0
  go_wp2_with fail
  refine hKK.out _ _ (.inr hq7) ?_
  refine plan_act rfl (fun KK hKK => ?_)
  try simp only [Act.put, List.getElem_toArray, List.getElem_cons_zero, List.getElem_cons_succ, List.setIfInBounds_toArray, List.set_cons_zero, List.set_cons_succ]
  refine wpList_app _ rfl (.tmp 3) (.tmp 6) 22 22 rfl 52 i0 (.agg (kyA kyZ)) 32 32 Tryz.underlying22 hi hz0 hz1 hz2 (kyA_size kyZ) a xs.length c (xs.flatMap kyV) rfl hownx (.slice (some ⟨u0.heap.size, 0, none⟩) 1 1) 1 (kyV t0) rfl hsrc ?_ ?_ ?_
  · unfold maxLen; omega
  · omega
  clear hi hz0 hz1 hz2
  intro a8 c8 w8 hown8 hg8 hat8 hnil8
  obtain ⟨hcb, hq8, hf8, hq80⟩ := HN1.out.add HG.out.2.2 1 HG.out.1 HG.out.2.1 t0 trivial (fun g hg => by cases hg) _ hown8 hg8 hat8
  have HM8 := Lib.hid hcb
  clear hown8 hg8 hat8 hnil8 hcb hownx hsrc hUb hq7 HS7
  have HQ8 := Lib.hid (And.intro hq8 hq80)
  clear hq80
  go_wp2_with fail
  refine hKK.out _ _ (.inr HQ8.out) ?_
  try simp only [Act.put, List.getElem_toArray, List.getElem_cons_zero, List.getElem_cons_succ, List.setIfInBounds_toArray, List.set_cons_zero, List.set_cons_succ]
  iterate 1
    refine plan_take (v := ?_) rfl rfl (fun w' hS => ?_) ?_
    rotate_left
    · skip
      go_simp; try with_reducible rfl
    simp only [Act.put, List.getElem_toArray, List.getElem_cons_zero, List.getElem_cons_succ, List.setIfInBounds_toArray, List.set_cons_zero, List.set_cons_succ]
  refine plan_act rfl (fun KK hKK => ?_)
  go_wp2_with fail
  refine hKK.out _ _ (.inl rfl) ?_
  refine plan_end ?_
  go_wp2_with fail
  go_end0
  exact ⟨rfl, a8, c8, by rw [HF.out]; exact HM8.out⟩

set_option maxHeartbeats 8000000 in
theorem root3_gen {row : Option Addr → Nat → Nat → Array Value} {br BX R1 : Nat} {F : Option Nat} {w0 : World} {s : RS} {xs : List Nm} {a : Option Addr} {c : Nat} {wk : World} (h : Ph nmV 2 92 (fun _ => none) (fun _ _ => True) 26 row br BX R1 F w0 s xs a c wk) (hget : ∀ a n c, (row a n c)[3]? = some (.slice a n c)) (hset : ∀ a n c a' n' c', (row a n c).setIfInBounds 3 (.slice a' n' c') = row a' n' c') (hs : s.l.length ≤ 100000000) (hn : xs.length ≤ 100000000) :
    Calls Tryz.prog 135 #[.pointer (some ⟨BX, 0, none⟩), .pointer (some ⟨R1, 0, none⟩)] wk fun e w' => e = .returned (.tuple #[]) ∧ ∃ a' c', Ph nmV 2 92 (fun _ => none) (fun _ _ => True) 26 row br BX R1 F w0 (nmS s).2 (xs ++ [(nmS s).1]) a' c' w' := by
  have hst : Stays (X := Nm) (fun _ => none) (fun _ _ => True) := fun _ _ _ _ _ _ _ => trivial
  have HI := Lib.hid h
  have HG := Lib.hid (And.intro hget (And.intro hset hst))
  have HQ := Lib.hid (And.intro (h.q1 3 hget) h.q0)
  have hfs : Hid (nmS s = nmS s) := Lib.hid rfl
  have hle0 := text_goes.le s
  obtain ⟨t0, ht0⟩ : ∃ t, t = (textS s).1 := ⟨_, rfl⟩
  obtain ⟨s1, hs1⟩ : ∃ t, t = (textS s).2 := ⟨_, rfl⟩
  rw [← hs1] at hle0
  have HT0 := Lib.hid ht0
  have HE1 := Lib.hid hs1
  have hle1 := takeS_len 4 s1
  obtain ⟨t1, ht1⟩ : ∃ t, t = intV s1 := ⟨_, rfl⟩
  obtain ⟨s2, hs2⟩ : ∃ t, t = (takeS 4 s1).2 := ⟨_, rfl⟩
  rw [← hs2] at hle1
  have HT1 := Lib.hid ht1
  have HE2 := Lib.hid hs2
  have HF : Hid (nmS s = (⟨t0, t1⟩, s2)) := Lib.hid (by subst ht0 hs1; subst ht1 hs2; rfl)
  clear h hget hset hst hfs ht0 hs1 ht1 hs2
  go_enter Tryz.func135, Tryz.ntmps135
  go_upto_region 0 with (fail)
  refine wp_region_plan_last [([0, 1, 2, 3, 5, 6], 4), ([], 7), ([8], 9), ([], 10), ([11], 12)] [] (fun w' => w'.cell? ⟨BX, 3, none⟩ = some (.slice a xs.length c) ∧ w'.cell? ⟨R1, 0, none⟩ = some (.pointer (some ⟨br, 0, none⟩))) (by kernel_rfl) (by kernel_rfl) HQ.out ?_
  iterate 6
    refine plan_take (v := ?_) rfl rfl (fun w' hS => ?_) ?_
    rotate_left
    · skip
      go_simp; try with_reducible rfl
    simp only [Act.put, List.getElem_toArray, List.getElem_cons_zero, List.getElem_cons_succ, List.setIfInBounds_toArray, List.set_cons_zero, List.set_cons_succ]
  have HN0 := Lib.hid (HI.out.same HG.out.2.2 (Upd.drew _ _))
  clear HQ
  have hc0 := rtext_any br F s _ HN0.out.rd (by omega)
  rw [← HE1.out, ← HT0.out] at hc0
  refine plan_act rfl (fun KK hKK => ?_)
  go_wp2_with fail
  refine hc0.mono ?_
  unfold ReadN
  rintro e u0 ⟨rfl, hR, hU⟩
  have HN1 := Lib.hid (HN0.out.read HG.out.2.2 hR hU)
  have HQ := Lib.hid (And.intro (HN1.out.q1 3 HG.out.1) HN1.out.q0)
  clear hR hU hc0 HN0
  go_wp2_with fail
  refine hKK.out _ _ (.inr HQ.out) ?_
  clear HQ
  try simp only [Act.put, List.getElem_toArray, List.getElem_cons_zero, List.getElem_cons_succ, List.setIfInBounds_toArray, List.set_cons_zero, List.set_cons_succ]
  have hc1 := rint_any br F s1 _ HN1.out.rd (by omega)
  rw [← HE2.out, ← HT1.out] at hc1
  refine plan_act rfl (fun KK hKK => ?_)
  go_wp2_with fail
  refine hc1.mono ?_
  unfold ReadN
  rintro e u1 ⟨rfl, hR, hU⟩
  have HN2 := Lib.hid (HN1.out.read HG.out.2.2 hR hU)
  have HQ := Lib.hid (And.intro (HN2.out.q1 3 HG.out.1) HN2.out.q0)
  clear hR hU hc1 HN1
  go_wp2_with fail
  refine hKK.out _ _ (.inr HQ.out) ?_
  clear HQ
  try simp only [Act.put, List.getElem_toArray, List.getElem_cons_zero, List.getElem_cons_succ, List.setIfInBounds_toArray, List.set_cons_zero, List.set_cons_succ]
  iterate 1
    refine plan_take (v := ?_) rfl rfl (fun w' hS => ?_) ?_
    rotate_left
    · skip
      go_simp; try with_reducible rfl
    simp only [Act.put, List.getElem_toArray, List.getElem_cons_zero, List.getElem_cons_succ, List.setIfInBounds_toArray, List.set_cons_zero, List.set_cons_succ]
  refine plan_act rfl (fun KK hKK => ?_)
  obtain ⟨i0, hi, hz0, hz1, hz2⟩ := info_parts4 infoNamedZ
  refine wpList_slice_gen rfl 24 92 2 (.tmp 10) rfl Tryz.underlying24 i0 (.agg #[.string ⟨#[]⟩, .int .i64 0]) hi hz0 hz1 (by decide) (by decide) (.agg #[.string (str t0), .int .i64 t1]) #[.string (str t0), .int .i64 t1] rfl (by kernel_rfl) ?_
  have hUb := Upd.alloc (fun _ => False) u1 (.cells #[.string (str t0), .int .i64 t1] 92)
  have hsrc : Src Tryz.prog 2 24 (.slice (some ⟨u1.heap.size, 0, none⟩) 1 1) 1 (nmV ⟨t0, t1⟩) (u1.alloc (.cells #[.string (str t0), .int .i64 t1] 92)) := row_src (X := #[.string (str t0), .int .i64 t1]) Tryz.underlying24 rfl (by simp [Value.oneCell']) (heap_alloc_new u1 _)
  have hownx := ownsRow_upd HN2.out.own hUb (fun _ _ h => h)
  have HS7 := HN2.out.same HG.out.2.2 hUb
  have hq7 := And.intro (HS7.q1 3 HG.out.1) HS7.q0
  go_wp2_with fail
  refine hKK.out _ _ (.inr hq7) ?_
  refine plan_act rfl (fun KK hKK => ?_)
  try simp only [Act.put, List.getElem_toArray, List.getElem_cons_zero, List.getElem_cons_succ, List.setIfInBounds_toArray, List.set_cons_zero, List.set_cons_succ]
  refine wpList_app _ rfl (.tmp 3) (.tmp 11) 24 24 rfl 92 i0 (.agg #[.string ⟨#[]⟩, .int .i64 0]) 2 24 Tryz.underlying24 hi hz0 hz1 hz2 rfl a xs.length c (xs.flatMap nmV) rfl hownx (.slice (some ⟨u1.heap.size, 0, none⟩) 1 1) 1 (nmV ⟨t0, t1⟩) rfl hsrc ?_ ?_ ?_
  · unfold maxLen; omega
  · omega
  clear hi hz0 hz1 hz2
  intro a8 c8 w8 hown8 hg8 hat8 hnil8
  obtain ⟨hcb, hq8, hf8, hq80⟩ := HN2.out.add HG.out.2.2 3 HG.out.1 HG.out.2.1 ⟨t0, t1⟩ trivial (fun g hg => by cases hg) _ hown8 hg8 hat8
  have HM8 := Lib.hid hcb
  clear hown8 hg8 hat8 hnil8 hcb hownx hsrc hUb hq7 HS7
  have HQ8 := Lib.hid (And.intro hq8 hq80)
  clear hq80
  go_wp2_with fail
  refine hKK.out _ _ (.inr HQ8.out) ?_
  try simp only [Act.put, List.getElem_toArray, List.getElem_cons_zero, List.getElem_cons_succ, List.setIfInBounds_toArray, List.set_cons_zero, List.set_cons_succ]
  iterate 1
    refine plan_take (v := ?_) rfl rfl (fun w' hS => ?_) ?_
    rotate_left
    · skip
      go_simp; try with_reducible rfl
    simp only [Act.put, List.getElem_toArray, List.getElem_cons_zero, List.getElem_cons_succ, List.setIfInBounds_toArray, List.set_cons_zero, List.set_cons_succ]
  refine plan_act rfl (fun KK hKK => ?_)
  go_wp2_with fail
  refine hKK.out _ _ (.inl rfl) ?_
  refine plan_end ?_
  go_wp2_with fail
  go_end0
  exact ⟨rfl, a8, c8, by rw [HF.out]; exact HM8.out⟩

set_option maxHeartbeats 8000000 in
theorem settled1_gen {row : Option Addr → Nat → Nat → Array Value} {br BX R1 : Nat} {F : Option Nat} {w0 : World} {s : RS} {xs : List Fl} {a : Option Addr} {c : Nat} {wk : World} (h : Ph flV 3 103 (fun _ => none) (fun _ _ => True) 80 row br BX R1 F w0 s xs a c wk) (hget : ∀ a n c, (row a n c)[1]? = some (.slice a n c)) (hset : ∀ a n c a' n' c', (row a n c).setIfInBounds 1 (.slice a' n' c') = row a' n' c') (hs : s.l.length ≤ 100000000) (hn : xs.length ≤ 100000000) :
    Calls Tryz.prog 160 #[.pointer (some ⟨BX, 0, none⟩), .pointer (some ⟨R1, 0, none⟩)] wk fun e w' => e = .returned (.tuple #[]) ∧ ∃ a' c', Ph flV 3 103 (fun _ => none) (fun _ _ => True) 80 row br BX R1 F w0 (flS s).2 (xs ++ [(flS s).1]) a' c' w' := by
  have hst : Stays (X := Fl) (fun _ => none) (fun _ _ => True) := fun _ _ _ _ _ _ _ => trivial
  have HI := Lib.hid h
  have HG := Lib.hid (And.intro hget (And.intro hset hst))
  have HQ := Lib.hid (And.intro (h.q1 1 hget) h.q0)
  have hfs : Hid (flS s = flS s) := Lib.hid rfl
  have hle0 := text_goes.le s
  obtain ⟨t0, ht0⟩ : ∃ t, t = (textS s).1 := ⟨_, rfl⟩
  obtain ⟨s1, hs1⟩ : ∃ t, t = (textS s).2 := ⟨_, rfl⟩
  rw [← hs1] at hle0
  have HT0 := Lib.hid ht0
  have HE1 := Lib.hid hs1
  have hle1 := bool_goes.le s1
  obtain ⟨t1, ht1⟩ : ∃ t, t = (boolS s1).1 := ⟨_, rfl⟩
  obtain ⟨s2, hs2⟩ : ∃ t, t = (boolS s1).2 := ⟨_, rfl⟩
  rw [← hs2] at hle1
  have HT1 := Lib.hid ht1
  have HE2 := Lib.hid hs2
  have hle2 := text_goes.le s2
  obtain ⟨t2, ht2⟩ : ∃ t, t = (textS s2).1 := ⟨_, rfl⟩
  obtain ⟨s3, hs3⟩ : ∃ t, t = (textS s2).2 := ⟨_, rfl⟩
  rw [← hs3] at hle2
  have HT2 := Lib.hid ht2
  have HE3 := Lib.hid hs3
  have HF : Hid (flS s = (⟨t0, t1, t2⟩, s3)) := Lib.hid (by subst ht0 hs1; subst ht1 hs2; subst ht2 hs3; rfl)
  clear h hget hset hst hfs ht0 hs1 ht1 hs2 ht2 hs3
  go_enter Tryz.func160, Tryz.ntmps160
  go_upto_region 0 with (fail)
  refine wp_region_plan_last [([0, 1, 2, 3, 5, 6, 8, 9], 4), ([], 7), ([], 10), ([11], 12), ([], 13), ([14], 15)] [] (fun w' => w'.cell? ⟨BX, 1, none⟩ = some (.slice a xs.length c) ∧ w'.cell? ⟨R1, 0, none⟩ = some (.pointer (some ⟨br, 0, none⟩))) (by kernel_rfl) (by kernel_rfl) HQ.out ?_
  iterate 8
    refine plan_take (v := ?_) rfl rfl (fun w' hS => ?_) ?_
    rotate_left
    · skip
      go_simp; try with_reducible rfl
    simp only [Act.put, List.getElem_toArray, List.getElem_cons_zero, List.getElem_cons_succ, List.setIfInBounds_toArray, List.set_cons_zero, List.set_cons_succ]
  have HN0 := Lib.hid (HI.out.same HG.out.2.2 (Upd.drew _ _))
  clear HQ
  have hc0 := rtext_any br F s _ HN0.out.rd (by omega)
  rw [← HE1.out, ← HT0.out] at hc0
  refine plan_act rfl (fun KK hKK => ?_)
  go_wp2_with fail
  refine hc0.mono ?_
  unfold ReadN
  rintro e u0 ⟨rfl, hR, hU⟩
  have HN1 := Lib.hid (HN0.out.read HG.out.2.2 hR hU)
  have HQ := Lib.hid (And.intro (HN1.out.q1 1 HG.out.1) HN1.out.q0)
  clear hR hU hc0 HN0
  go_wp2_with fail
  refine hKK.out _ _ (.inr HQ.out) ?_
  clear HQ
  try simp only [Act.put, List.getElem_toArray, List.getElem_cons_zero, List.getElem_cons_succ, List.setIfInBounds_toArray, List.set_cons_zero, List.set_cons_succ]
  have hc1 := rbool_any br F s1 _ HN1.out.rd (by omega)
  rw [← HE2.out, ← HT1.out] at hc1
  refine plan_act rfl (fun KK hKK => ?_)
  go_wp2_with fail
  refine hc1.mono ?_
  unfold ReadN
  rintro e u1 ⟨rfl, hR, hU⟩
  have HN2 := Lib.hid (HN1.out.read HG.out.2.2 hR hU)
  have HQ := Lib.hid (And.intro (HN2.out.q1 1 HG.out.1) HN2.out.q0)
  clear hR hU hc1 HN1
  go_wp2_with fail
  refine hKK.out _ _ (.inr HQ.out) ?_
  clear HQ
  try simp only [Act.put, List.getElem_toArray, List.getElem_cons_zero, List.getElem_cons_succ, List.setIfInBounds_toArray, List.set_cons_zero, List.set_cons_succ]
  have hc2 := rtext_any br F s2 _ HN2.out.rd (by omega)
  rw [← HE3.out, ← HT2.out] at hc2
  refine plan_act rfl (fun KK hKK => ?_)
  go_wp2_with fail
  refine hc2.mono ?_
  unfold ReadN
  rintro e u2 ⟨rfl, hR, hU⟩
  have HN3 := Lib.hid (HN2.out.read HG.out.2.2 hR hU)
  have HQ := Lib.hid (And.intro (HN3.out.q1 1 HG.out.1) HN3.out.q0)
  clear hR hU hc2 HN2
  go_wp2_with fail
  refine hKK.out _ _ (.inr HQ.out) ?_
  clear HQ
  try simp only [Act.put, List.getElem_toArray, List.getElem_cons_zero, List.getElem_cons_succ, List.setIfInBounds_toArray, List.set_cons_zero, List.set_cons_succ]
  iterate 1
    refine plan_take (v := ?_) rfl rfl (fun w' hS => ?_) ?_
    rotate_left
    · skip
      go_simp; try with_reducible rfl
    simp only [Act.put, List.getElem_toArray, List.getElem_cons_zero, List.getElem_cons_succ, List.setIfInBounds_toArray, List.set_cons_zero, List.set_cons_succ]
  refine plan_act rfl (fun KK hKK => ?_)
  obtain ⟨i0, hi, hz0, hz1, hz2⟩ := info_parts4 infoFileZ
  refine wpList_slice_gen rfl 78 103 3 (.tmp 13) rfl Tryz.underlying78 i0 (.agg #[.string ⟨#[]⟩, .bool false, .string ⟨#[]⟩]) hi hz0 hz1 (by decide) (by decide) (.agg #[.string (str t0), .bool t1, .string (str t2)]) #[.string (str t0), .bool t1, .string (str t2)] rfl (by kernel_rfl) ?_
  have hUb := Upd.alloc (fun _ => False) u2 (.cells #[.string (str t0), .bool t1, .string (str t2)] 103)
  have hsrc : Src Tryz.prog 3 78 (.slice (some ⟨u2.heap.size, 0, none⟩) 1 1) 1 (flV ⟨t0, t1, t2⟩) (u2.alloc (.cells #[.string (str t0), .bool t1, .string (str t2)] 103)) := row_src (X := #[.string (str t0), .bool t1, .string (str t2)]) Tryz.underlying78 rfl (by simp [Value.oneCell']) (heap_alloc_new u2 _)
  have hownx := ownsRow_upd HN3.out.own hUb (fun _ _ h => h)
  have HS7 := HN3.out.same HG.out.2.2 hUb
  have hq7 := And.intro (HS7.q1 1 HG.out.1) HS7.q0
  go_wp2_with fail
  refine hKK.out _ _ (.inr hq7) ?_
  refine plan_act rfl (fun KK hKK => ?_)
  try simp only [Act.put, List.getElem_toArray, List.getElem_cons_zero, List.getElem_cons_succ, List.setIfInBounds_toArray, List.set_cons_zero, List.set_cons_succ]
  refine wpList_app _ rfl (.tmp 3) (.tmp 14) 78 78 rfl 103 i0 (.agg #[.string ⟨#[]⟩, .bool false, .string ⟨#[]⟩]) 3 40 Tryz.underlying78 hi hz0 hz1 hz2 rfl a xs.length c (xs.flatMap flV) rfl hownx (.slice (some ⟨u2.heap.size, 0, none⟩) 1 1) 1 (flV ⟨t0, t1, t2⟩) rfl hsrc ?_ ?_ ?_
  · unfold maxLen; omega
  · omega
  clear hi hz0 hz1 hz2
  intro a8 c8 w8 hown8 hg8 hat8 hnil8
  obtain ⟨hcb, hq8, hf8, hq80⟩ := HN3.out.add HG.out.2.2 1 HG.out.1 HG.out.2.1 ⟨t0, t1, t2⟩ trivial (fun g hg => by cases hg) _ hown8 hg8 hat8
  have HM8 := Lib.hid hcb
  clear hown8 hg8 hat8 hnil8 hcb hownx hsrc hUb hq7 HS7
  have HQ8 := Lib.hid (And.intro hq8 hq80)
  clear hq80
  go_wp2_with fail
  refine hKK.out _ _ (.inr HQ8.out) ?_
  try simp only [Act.put, List.getElem_toArray, List.getElem_cons_zero, List.getElem_cons_succ, List.setIfInBounds_toArray, List.set_cons_zero, List.set_cons_succ]
  iterate 1
    refine plan_take (v := ?_) rfl rfl (fun w' hS => ?_) ?_
    rotate_left
    · skip
      go_simp; try with_reducible rfl
    simp only [Act.put, List.getElem_toArray, List.getElem_cons_zero, List.getElem_cons_succ, List.setIfInBounds_toArray, List.set_cons_zero, List.set_cons_succ]
  refine plan_act rfl (fun KK hKK => ?_)
  go_wp2_with fail
  refine hKK.out _ _ (.inl rfl) ?_
  refine plan_end ?_
  go_wp2_with fail
  go_end0
  exact ⟨rfl, a8, c8, by rw [HF.out]; exact HM8.out⟩

set_option maxHeartbeats 8000000 in
theorem wait2_gen {row : Option Addr → Nat → Nat → Array Value} {br BX R1 : Nat} {F : Option Nat} {w0 : World} {s : RS} {xs : List Cl} {a : Option Addr} {c : Nat} {wk : World} (h : Ph clV 3 100 (fun _ => none) (fun _ _ => True) 30 row br BX R1 F w0 s xs a c wk) (hget : ∀ a n c, (row a n c)[6]? = some (.slice a n c)) (hset : ∀ a n c a' n' c', (row a n c).setIfInBounds 6 (.slice a' n' c') = row a' n' c') (hs : s.l.length ≤ 100000000) (hn : xs.length ≤ 100000000) :
    Calls Tryz.prog 144 #[.pointer (some ⟨BX, 0, none⟩), .pointer (some ⟨R1, 0, none⟩)] wk fun e w' => e = .returned (.tuple #[]) ∧ ∃ a' c', Ph clV 3 100 (fun _ => none) (fun _ _ => True) 30 row br BX R1 F w0 (clS s).2 (xs ++ [(clS s).1]) a' c' w' := by
  have hst : Stays (X := Cl) (fun _ => none) (fun _ _ => True) := fun _ _ _ _ _ _ _ => trivial
  have HI := Lib.hid h
  have HG := Lib.hid (And.intro hget (And.intro hset hst))
  have HQ := Lib.hid (And.intro (h.q1 6 hget) h.q0)
  have hfs : Hid (clS s = clS s) := Lib.hid rfl
  have hle0 := text_goes.le s
  obtain ⟨t0, ht0⟩ : ∃ t, t = (textS s).1 := ⟨_, rfl⟩
  obtain ⟨s1, hs1⟩ : ∃ t, t = (textS s).2 := ⟨_, rfl⟩
  rw [← hs1] at hle0
  have HT0 := Lib.hid ht0
  have HE1 := Lib.hid hs1
  have hle1 := takeS_len 4 s1
  obtain ⟨t1, ht1⟩ : ∃ t, t = intV s1 := ⟨_, rfl⟩
  obtain ⟨s2, hs2⟩ : ∃ t, t = (takeS 4 s1).2 := ⟨_, rfl⟩
  rw [← hs2] at hle1
  have HT1 := Lib.hid ht1
  have HE2 := Lib.hid hs2
  have hle2 := text_goes.le s2
  obtain ⟨t2, ht2⟩ : ∃ t, t = (textS s2).1 := ⟨_, rfl⟩
  obtain ⟨s3, hs3⟩ : ∃ t, t = (textS s2).2 := ⟨_, rfl⟩
  rw [← hs3] at hle2
  have HT2 := Lib.hid ht2
  have HE3 := Lib.hid hs3
  have HF : Hid (clS s = (⟨t0, t1, t2⟩, s3)) := Lib.hid (by subst ht0 hs1; subst ht1 hs2; subst ht2 hs3; rfl)
  clear h hget hset hst hfs ht0 hs1 ht1 hs2 ht2 hs3
  go_enter Tryz.func144, Tryz.ntmps144
  go_upto_region 0 with (fail)
  refine wp_region_plan_last [([0, 1, 2, 3, 5, 6, 8, 9], 4), ([], 7), ([], 10), ([11], 12), ([], 13), ([14], 15)] [] (fun w' => w'.cell? ⟨BX, 6, none⟩ = some (.slice a xs.length c) ∧ w'.cell? ⟨R1, 0, none⟩ = some (.pointer (some ⟨br, 0, none⟩))) (by kernel_rfl) (by kernel_rfl) HQ.out ?_
  iterate 8
    refine plan_take (v := ?_) rfl rfl (fun w' hS => ?_) ?_
    rotate_left
    · skip
      go_simp; try with_reducible rfl
    simp only [Act.put, List.getElem_toArray, List.getElem_cons_zero, List.getElem_cons_succ, List.setIfInBounds_toArray, List.set_cons_zero, List.set_cons_succ]
  have HN0 := Lib.hid (HI.out.same HG.out.2.2 (Upd.drew _ _))
  clear HQ
  have hc0 := rtext_any br F s _ HN0.out.rd (by omega)
  rw [← HE1.out, ← HT0.out] at hc0
  refine plan_act rfl (fun KK hKK => ?_)
  go_wp2_with fail
  refine hc0.mono ?_
  unfold ReadN
  rintro e u0 ⟨rfl, hR, hU⟩
  have HN1 := Lib.hid (HN0.out.read HG.out.2.2 hR hU)
  have HQ := Lib.hid (And.intro (HN1.out.q1 6 HG.out.1) HN1.out.q0)
  clear hR hU hc0 HN0
  go_wp2_with fail
  refine hKK.out _ _ (.inr HQ.out) ?_
  clear HQ
  try simp only [Act.put, List.getElem_toArray, List.getElem_cons_zero, List.getElem_cons_succ, List.setIfInBounds_toArray, List.set_cons_zero, List.set_cons_succ]
  have hc1 := rint_any br F s1 _ HN1.out.rd (by omega)
  rw [← HE2.out, ← HT1.out] at hc1
  refine plan_act rfl (fun KK hKK => ?_)
  go_wp2_with fail
  refine hc1.mono ?_
  unfold ReadN
  rintro e u1 ⟨rfl, hR, hU⟩
  have HN2 := Lib.hid (HN1.out.read HG.out.2.2 hR hU)
  have HQ := Lib.hid (And.intro (HN2.out.q1 6 HG.out.1) HN2.out.q0)
  clear hR hU hc1 HN1
  go_wp2_with fail
  refine hKK.out _ _ (.inr HQ.out) ?_
  clear HQ
  try simp only [Act.put, List.getElem_toArray, List.getElem_cons_zero, List.getElem_cons_succ, List.setIfInBounds_toArray, List.set_cons_zero, List.set_cons_succ]
  have hc2 := rtext_any br F s2 _ HN2.out.rd (by omega)
  rw [← HE3.out, ← HT2.out] at hc2
  refine plan_act rfl (fun KK hKK => ?_)
  go_wp2_with fail
  refine hc2.mono ?_
  unfold ReadN
  rintro e u2 ⟨rfl, hR, hU⟩
  have HN3 := Lib.hid (HN2.out.read HG.out.2.2 hR hU)
  have HQ := Lib.hid (And.intro (HN3.out.q1 6 HG.out.1) HN3.out.q0)
  clear hR hU hc2 HN2
  go_wp2_with fail
  refine hKK.out _ _ (.inr HQ.out) ?_
  clear HQ
  try simp only [Act.put, List.getElem_toArray, List.getElem_cons_zero, List.getElem_cons_succ, List.setIfInBounds_toArray, List.set_cons_zero, List.set_cons_succ]
  iterate 1
    refine plan_take (v := ?_) rfl rfl (fun w' hS => ?_) ?_
    rotate_left
    · skip
      go_simp; try with_reducible rfl
    simp only [Act.put, List.getElem_toArray, List.getElem_cons_zero, List.getElem_cons_succ, List.setIfInBounds_toArray, List.set_cons_zero, List.set_cons_succ]
  refine plan_act rfl (fun KK hKK => ?_)
  obtain ⟨i0, hi, hz0, hz1, hz2⟩ := info_parts4 infoClashZ
  refine wpList_slice_gen rfl 28 100 3 (.tmp 13) rfl Tryz.underlying28 i0 (.agg #[.string ⟨#[]⟩, .int .i64 0, .string ⟨#[]⟩]) hi hz0 hz1 (by decide) (by decide) (.agg #[.string (str t0), .int .i64 t1, .string (str t2)]) #[.string (str t0), .int .i64 t1, .string (str t2)] rfl (by kernel_rfl) ?_
  have hUb := Upd.alloc (fun _ => False) u2 (.cells #[.string (str t0), .int .i64 t1, .string (str t2)] 100)
  have hsrc : Src Tryz.prog 3 28 (.slice (some ⟨u2.heap.size, 0, none⟩) 1 1) 1 (clV ⟨t0, t1, t2⟩) (u2.alloc (.cells #[.string (str t0), .int .i64 t1, .string (str t2)] 100)) := row_src (X := #[.string (str t0), .int .i64 t1, .string (str t2)]) Tryz.underlying28 rfl (by simp [Value.oneCell']) (heap_alloc_new u2 _)
  have hownx := ownsRow_upd HN3.out.own hUb (fun _ _ h => h)
  have HS7 := HN3.out.same HG.out.2.2 hUb
  have hq7 := And.intro (HS7.q1 6 HG.out.1) HS7.q0
  go_wp2_with fail
  refine hKK.out _ _ (.inr hq7) ?_
  refine plan_act rfl (fun KK hKK => ?_)
  try simp only [Act.put, List.getElem_toArray, List.getElem_cons_zero, List.getElem_cons_succ, List.setIfInBounds_toArray, List.set_cons_zero, List.set_cons_succ]
  refine wpList_app _ rfl (.tmp 3) (.tmp 14) 28 28 rfl 100 i0 (.agg #[.string ⟨#[]⟩, .int .i64 0, .string ⟨#[]⟩]) 3 40 Tryz.underlying28 hi hz0 hz1 hz2 rfl a xs.length c (xs.flatMap clV) rfl hownx (.slice (some ⟨u2.heap.size, 0, none⟩) 1 1) 1 (clV ⟨t0, t1, t2⟩) rfl hsrc ?_ ?_ ?_
  · unfold maxLen; omega
  · omega
  clear hi hz0 hz1 hz2
  intro a8 c8 w8 hown8 hg8 hat8 hnil8
  obtain ⟨hcb, hq8, hf8, hq80⟩ := HN3.out.add HG.out.2.2 6 HG.out.1 HG.out.2.1 ⟨t0, t1, t2⟩ trivial (fun g hg => by cases hg) _ hown8 hg8 hat8
  have HM8 := Lib.hid hcb
  clear hown8 hg8 hat8 hnil8 hcb hownx hsrc hUb hq7 HS7
  have HQ8 := Lib.hid (And.intro hq8 hq80)
  clear hq80
  go_wp2_with fail
  refine hKK.out _ _ (.inr HQ8.out) ?_
  try simp only [Act.put, List.getElem_toArray, List.getElem_cons_zero, List.getElem_cons_succ, List.setIfInBounds_toArray, List.set_cons_zero, List.set_cons_succ]
  iterate 1
    refine plan_take (v := ?_) rfl rfl (fun w' hS => ?_) ?_
    rotate_left
    · skip
      go_simp; try with_reducible rfl
    simp only [Act.put, List.getElem_toArray, List.getElem_cons_zero, List.getElem_cons_succ, List.setIfInBounds_toArray, List.set_cons_zero, List.set_cons_succ]
  refine plan_act rfl (fun KK hKK => ?_)
  go_wp2_with fail
  refine hKK.out _ _ (.inl rfl) ?_
  refine plan_end ?_
  go_wp2_with fail
  go_end0
  exact ⟨rfl, a8, c8, by rw [HF.out]; exact HM8.out⟩
end Go.Proofs.YtccejkikphpnfaaGreatDoor

namespace Go.Proofs.YtccejkikphpnfaaGreatDoor
set_option linter.unusedSimpArgs false
set_option linter.unusedVariables false
set_option maxRecDepth 100000
open Go.ChangeShapes Go.WideShapes Go.ChangeAt Go.RowKit

theorem flat_ivV : ∀ (l : List Int), l.flatMap ivV = l.map iv
  | [] => rfl
  | x :: l => by rw [List.flatMap_cons, flat_ivV l, List.map_cons]; rfl
/-- What numbers leaves. -/
def GotInts (w : World) (br : Nat) (F : Option Nat) (s' : RS) (l : List Int) (e : Ending) (w' : World) : Prop :=
  ∃ a c, e = .returned (.slice a l.length c) ∧ Vw w' a l.length c 1 (l.map iv) ∧ (∀ g, blk a = some g → w.heap.size ≤ g ∧ g < w'.heap.size) ∧ Rd w' br F s'.l s'.e ∧ Upd (fun k => k = br) w w'
abbrev rowI : Option Addr → Nat → Nat → Array Value := fun a n c => #[.slice a n c]
theorem plain_stays {X : Type} : Stays (X := X) (fun _ => none) (fun _ _ => True) := fun _ _ _ _ _ _ _ => trivial
set_option maxHeartbeats 8000000 in
theorem mrnumbers_any (br : Nat) (F : Option Nat) (s : RS) (w : World) (hr : Rd w br F s.l s.e) (hF : ∀ g, F = some g → g < w.heap.size) (hl : s.l.length ≤ 100000000) :
    Calls Tryz.prog 134 #[.agg #[.pointer (some ⟨br, 0, none⟩)]] w (GotInts w br F (numsS s).2 (numsS s).1) := by
  have hbr : br < w.heap.size := by
    obtain ⟨a, c, hh, _⟩ := hr.ex
    exact lt_of_heap hh
  have hU0 : Upd (fun _ => False) w ((w.alloc (.cells #[.pointer (some ⟨br, 0, none⟩)] 139)).alloc (.cells #[.slice none 0 0] 49)) := (Upd.alloc _ _ _).trans (Upd.alloc _ _ _)
  have hb1 : ((w.alloc (.cells #[.pointer (some ⟨br, 0, none⟩)] 139)).alloc (.cells #[.slice none 0 0] 49)).heap[w.heap.size]? = some (.cells #[.pointer (some ⟨br, 0, none⟩)] 139) := by
    rw [Below.heap_alloc _ _ _ (by simp)]; exact heap_alloc_new _ _
  have hb2 : ((w.alloc (.cells #[.pointer (some ⟨br, 0, none⟩)] 139)).alloc (.cells #[.slice none 0 0] 49)).heap[w.heap.size + 1]? = some (.cells #[.slice none 0 0] 49) := by
    have := heap_alloc_new (w.alloc (.cells #[.pointer (some ⟨br, 0, none⟩)] 139)) (.cells #[.slice none 0 0] 49)
    simpa using this
  have HA := Lib.hid (And.intro hU0 (And.intro hb1 hb2))
  have HW := Lib.hid (And.intro hr (And.intro hF hl))
  have HS : Hid (numsS s = someS intF s) := Lib.hid rfl
  generalize numsS s = SS at *
  clear hU0 hb1 hb2 hr hF hl
  go_enter Tryz.func134, Tryz.ntmps134
  go_upto_region 2 with (fail)
  generalize (w.alloc (.cells #[.pointer (some ⟨br, 0, none⟩)] 139)).alloc (.cells #[.slice none 0 0] 49) = y0 at *
  obtain ⟨R1, hR1⟩ : ∃ B, B = w.heap.size := ⟨_, rfl⟩
  obtain ⟨BX, hBX⟩ : ∃ B, B = w.heap.size + 1 := ⟨_, rfl⟩
  rw [← hBX, ← hR1] at HA
  rw [← hBX, ← hR1]
  have HB := Lib.hid (And.intro hR1 (And.intro hBX hbr))
  clear hR1 hBX hbr
  have q : y0.cell? ⟨R1, 0, none⟩ = some (.pointer (some ⟨br, 0, none⟩)) := by rw [cell_of_row _ _ _ _ _ _ HA.out.2.1]; rfl
  have hsm := some_gen int_eats br BX F 159 #[.pointer (some ⟨BX, 0, none⟩), .pointer (some ⟨R1, 0, none⟩)] (enter_of Tryz.func159 (by kernel_rfl) (by kernel_rfl) _) s y0 (HW.out.1.upd HA.out.1 (fun h => h) (fun _ _ h => h)) HW.out.2.2 (lt_of_heap HA.out.2.2)
    (fun w0 L s' w' => ∃ a c, Ph ivV 1 3 (fun _ => none) (fun _ _ => True) 49 rowI br BX R1 F w0 s' L a c w')
    (fun w0 hu hR => ⟨none, 0, hR, (hu.block R1 (lt_of_heap HA.out.2.1) (by have := HB.out; omega)).trans HA.out.2.1, (hu.block BX (lt_of_heap HA.out.2.2) (by have := HB.out; omega)).trans HA.out.2.2, World.ownsRow_nil _ _ _ _, (fun g hg => by cases hg), (fun x hx => by cases hx), Upd.refl _ _,
      by have := HB.out; have := lt_of_heap HA.out.2.2; have := hu.size; omega, by have := HB.out; have := lt_of_heap HA.out.2.2; have := hu.size; omega, by have := lt_of_heap HA.out.2.2; have := hu.size; omega, by have := HB.out; omega, by have := HB.out; omega, by have := HB.out; omega,
      fun g hg => by have := HW.out.2.1 g hg; have := HB.out; have := lt_of_heap HA.out.2.2; have := hu.size; omega⟩)
    (fun w0 L s' w' ⟨a, c, h⟩ => h.rd) (fun w0 L s' w' ⟨a, c, h⟩ => h.upd)
    (fun w0 L s' w' ⟨a, c, h⟩ he hl hn => (numbers1_any h hl hn).mono (fun e w2 h2 => h2))
  rw [← HS.out] at hsm
  go_wp2_with fail
  refine hsm.mono ?_
  rintro e w1 ⟨rfl, w0, hUa, a, c, hP⟩
  have HP := Lib.hid hP
  have HUa := Lib.hid hUa
  clear hP hUa hsm q
  have q := HP.out.q1 0 (fun _ _ _ => rfl)
  go_wp2_with fail
  go_ret
  have hU01 := (HA.out.1.mono (T := fun k => k = br) (fun _ _ h => h.elim)).trans HUa.out
  refine ⟨a, c, rfl, ?_, fun g hg => ⟨Nat.le_trans hU01.size (HP.out.fr g hg), (HP.out.own.lt g ((own_blk _ _ _).trans hg)).2⟩, HP.out.rd, hU01.next HP.out.upd (fun i hi e => ?_)⟩
  · have := Vw.of_own HP.out.own
    rw [flat_ivV] at this
    exact this
  · have := HB.out
    rcases e with e | e
    · exact e
    · omega

/-- What settled leaves. -/
def GotSt (w : World) (br : Nat) (F : Option Nat) (s' : RS) (v : Int × List Fl) (e : Ending) (w' : World) : Prop :=
  ∃ x : St, e = .returned (.agg #[.int .i64 x.com, .slice x.a x.fs.length x.c]) ∧ (x.com, x.fs) = v ∧ StIn w' x ∧ (∀ g, blk x.a = some g → w.heap.size ≤ g ∧ g < w'.heap.size) ∧ Rd w' br F s'.l s'.e ∧ Upd (fun k => k = br) w w'
abbrev rowS (v : Int) : Option Addr → Nat → Nat → Array Value := fun a n c => #[.int .i64 v, .slice a n c]
theorem infoSettled : (Tryz.prog.info? 80).map (·.size) = some 2 := by kernel_rfl
set_option maxHeartbeats 8000000 in
theorem mrsettled_any (br : Nat) (F : Option Nat) (s : RS) (w : World) (hr : Rd w br F s.l s.e) (hF : ∀ g, F = some g → g < w.heap.size) (hl : s.l.length ≤ 100000000) :
    Calls Tryz.prog 143 #[.agg #[.pointer (some ⟨br, 0, none⟩)]] w (GotSt w br F (stS s).2 (stS s).1) := by
  have hbr : br < w.heap.size := by
    obtain ⟨a, c, hh, _⟩ := hr.ex
    exact lt_of_heap hh
  have hU0 : Upd (fun _ => False) w ((w.alloc (.cells #[.pointer (some ⟨br, 0, none⟩)] 139)).alloc (.cells #[.int .i64 0, .slice none 0 0] 80)) := (Upd.alloc _ _ _).trans (Upd.alloc _ _ _)
  have hb1 : ((w.alloc (.cells #[.pointer (some ⟨br, 0, none⟩)] 139)).alloc (.cells #[.int .i64 0, .slice none 0 0] 80)).heap[w.heap.size]? = some (.cells #[.pointer (some ⟨br, 0, none⟩)] 139) := by
    rw [Below.heap_alloc _ _ _ (by simp)]; exact heap_alloc_new _ _
  have hb2 : ((w.alloc (.cells #[.pointer (some ⟨br, 0, none⟩)] 139)).alloc (.cells #[.int .i64 0, .slice none 0 0] 80)).heap[w.heap.size + 1]? = some (.cells #[.int .i64 0, .slice none 0 0] 80) := by
    have := heap_alloc_new (w.alloc (.cells #[.pointer (some ⟨br, 0, none⟩)] 139)) (.cells #[.int .i64 0, .slice none 0 0] 80)
    simpa using this
  have HA := Lib.hid (And.intro hU0 (And.intro hb1 hb2))
  have HW := Lib.hid (And.intro hr (And.intro hF hl))
  have hri := rint_any br F s _ (hr.upd hU0 (fun h => h) (fun _ _ h => h)) hl
  have HS : Hid (stS s = ((intV s, (someS flS (takeS 4 s).2).1), (someS flS (takeS 4 s).2).2)) := Lib.hid rfl
  have htl := takeS_len 4 s
  generalize stS s = SS at *
  generalize intV s = v at *
  generalize (takeS 4 s).2 = s1 at *
  have HTL := Lib.hid htl
  clear hU0 hb1 hb2 hr hF hl htl
  go_enter Tryz.func143, Tryz.ntmps143
  go_upto_region 1 with (fail)
  generalize (w.alloc (.cells #[.pointer (some ⟨br, 0, none⟩)] 139)).alloc (.cells #[.int .i64 0, .slice none 0 0] 80) = y0 at *
  obtain ⟨R1, hR1⟩ : ∃ B, B = w.heap.size := ⟨_, rfl⟩
  obtain ⟨R2, hR2⟩ : ∃ B, B = w.heap.size + 1 := ⟨_, rfl⟩
  rw [← hR2, ← hR1] at HA
  rw [← hR2, ← hR1]
  have HB := Lib.hid (And.intro hR1 (And.intro hR2 hbr))
  clear hR1 hR2 hbr
  have q : y0.cell? ⟨R1, 0, none⟩ = some (.pointer (some ⟨br, 0, none⟩)) := by rw [cell_of_row _ _ _ _ _ _ HA.out.2.1]; rfl
  go_wp2_with fail
  refine hri.mono ?_
  unfold ReadN
  rintro e w1 ⟨rfl, hR, hU⟩
  have hc1 := (hU.block R1 (lt_of_heap HA.out.2.1) (by have := HB.out; omega)).trans HA.out.2.1
  have hc2 := (hU.block R2 (lt_of_heap HA.out.2.2) (by have := HB.out; omega)).trans HA.out.2.2
  have hUw := (HA.out.1.mono (T := fun k => k = br) (fun _ _ h => h.elim)).trans hU
  have HA1 := Lib.hid (And.intro hR (And.intro hc1 (And.intro hc2 hUw)))
  clear hR hc1 hc2 hUw hU hri q HA
  go_upto_region 2 with (fail)
  have hUx := Upd.alloc (fun _ => False) w1 (.cells #[.int .i64 v, .slice none 0 0] 80)
  have hbx := heap_alloc_new w1 (.cells #[.int .i64 v, .slice none 0 0] 80)
  have hx1 := (hUx.block R1 (lt_of_heap HA1.out.2.1) (fun h => h)).trans HA1.out.2.1
  have hx2 := (hUx.block R2 (lt_of_heap HA1.out.2.2.1) (fun h => h)).trans HA1.out.2.2.1
  have HX := Lib.hid (And.intro (HA1.out.1.upd hUx (fun h => h) (fun _ _ h => h)) (And.intro hx1 (And.intro hx2 (And.intro hbx (HA1.out.2.2.2.trans (hUx.mono (fun _ _ h => h.elim)))))))
  have hz := lt_of_heap HA1.out.2.2.1
  have HZ := Lib.hid hz
  clear hUx hbx hx1 hx2 hz HA1
  generalize w1.alloc (.cells #[.int .i64 v, .slice none 0 0] 80) = y1 at *
  generalize w1.heap.size = BX at *
  have q : y1.cell? ⟨R1, 0, none⟩ = some (.pointer (some ⟨br, 0, none⟩)) := by rw [cell_of_row _ _ _ _ _ _ HX.out.2.1]; rfl
  have hsm := some_gen fl_eats br BX F 160 #[.pointer (some ⟨BX, 0, none⟩), .pointer (some ⟨R1, 0, none⟩)] (enter_of Tryz.func160 (by kernel_rfl) (by kernel_rfl) _) s1 y1 HX.out.1 (Nat.le_trans HTL.out HW.out.2.2) (lt_of_heap HX.out.2.2.2.1)
    (fun w0 L s' w' => ∃ a c, Ph flV 3 103 (fun _ => none) (fun _ _ => True) 80 (rowS v) br BX R1 F w0 s' L a c w')
    (fun w0 hu hR => ⟨none, 0, hR, (hu.block R1 (lt_of_heap HX.out.2.1) (by have := HB.out; omega)).trans HX.out.2.1, (hu.block BX (lt_of_heap HX.out.2.2.2.1) (by have := HB.out; have := HZ.out; omega)).trans HX.out.2.2.2.1, World.ownsRow_nil _ _ _ _, (fun g hg => by cases hg), (fun x hx => by cases hx), Upd.refl _ _,
      by have := HB.out; have := HZ.out; have := lt_of_heap HX.out.2.2.2.1; have := hu.size; omega, by have := HB.out; have := HZ.out; have := lt_of_heap HX.out.2.2.2.1; have := hu.size; omega, by have := lt_of_heap HX.out.2.2.2.1; have := hu.size; omega, by have := HB.out; omega, by have := HB.out; have := HZ.out; omega, by have := HB.out; have := HZ.out; omega,
      fun g hg => by have := HW.out.2.1 g hg; have := HB.out; have := HZ.out; have := lt_of_heap HX.out.2.2.2.1; have := hu.size; omega⟩)
    (fun w0 L s' w' ⟨a, c, h⟩ => h.rd) (fun w0 L s' w' ⟨a, c, h⟩ => h.upd)
    (fun w0 L s' w' ⟨a, c, h⟩ he hl hn => (settled1_gen h (fun _ _ _ => rfl) (fun _ _ _ _ _ _ => rfl) hl hn).mono (fun e w2 h2 => h2))
  go_wp2_with fail
  refine hsm.mono ?_
  rintro e w3 ⟨rfl, w0, hUa, a, c, hP⟩
  have hlong := fl_long s1
  have hs1l : s1.l.length ≤ maxLen := by have := HTL.out; have := HW.out.2.2; unfold maxLen; omega
  have HLG := Lib.hid (And.intro hlong hs1l)
  clear hlong hs1l
  have hsl : SS = ((v, (someS flS s1).1), (someS flS s1).2) := HS.out
  have HSL := Lib.hid hsl
  generalize (someS flS s1).1 = fl at *
  generalize (someS flS s1).2 = s2 at *
  have hR2 := (hP.upd.block R2 (Nat.lt_of_lt_of_le (lt_of_heap HX.out.2.2.1) hUa.size) (fun e => by have := HB.out; have := HZ.out; omega)).trans ((hUa.block R2 (lt_of_heap HX.out.2.2.1) (fun e => by have := HB.out; omega)).trans HX.out.2.2.1)
  have HP := Lib.hid (And.intro hP hR2)
  have HUa := Lib.hid hUa
  clear hP hUa hsm q hsl HS hR2
  have hvar := HP.out.1.var
  have hres := HP.out.2
  go_wp2_with first
    | refine wpList_load_row rfl 80 (.tmp 3) rfl BX (rowS v a fl.length c) 80 (0, 0) _ rfl hvar Tryz.underlying80 rfl (by rw [infoSettled]; rfl) ?_
    | refine wpList_store_row rfl 80 (.tmp 2) (.tmp 11) rfl R2 (rowS v a fl.length c) _ 80 rfl rfl hres (by rw [infoSettled]; rfl) rfl (by simp [Value.oneCell']) ?_
  have hU6 := Upd.setRow (S := fun k => k = R2) w3 rfl (rowS v a fl.length c)
  have hU01 := HX.out.2.2.2.2.trans HUa.out
  have hz6 := hU6.size
  refine ret_row rfl R2 (rowS v a fl.length c) 80 (0, 0) _ rfl (setRow_heap _ _ _ _ _ _ hres) Tryz.underlying80 rfl (by rw [infoSettled]; rfl) rfl ⟨⟨v, fl, a, c⟩, rfl, by rw [HSL.out], ?_, ?_, ?_, ?_⟩
  · exact ⟨(Vw.of_own HP.out.1.own).upd hU6 (fun k hk e => by have := HP.out.1.fr k hk; have := HUa.out.size; have := lt_of_heap HX.out.2.2.1; omega), fun y hy => Nat.le_trans (HLG.out.1 y hy).1 HLG.out.2, fun y hy => Nat.le_trans (HLG.out.1 y hy).2 HLG.out.2⟩
  · intro g hg
    have h1 := HP.out.1.fr g hg
    have h2 := (HP.out.1.own.lt g ((own_blk _ _ _).trans hg)).2
    have := hU01.size
    exact ⟨by omega, by omega⟩
  · rw [HSL.out]
    exact HP.out.1.rd.upd hU6 (fun e => by have := HB.out; omega) (fun g hg e => by have := HW.out.2.1 g hg; have := HB.out; omega)
  · refine (hU01.next HP.out.1.upd (fun i hi e => ?_)).next hU6 (fun i hi e => ?_)
    · have := HB.out
      have := HZ.out
      rcases e with e | e
      · exact e
      · omega
    · have := HB.out; omega
end Go.Proofs.YtccejkikphpnfaaGreatDoor

namespace Go.Proofs.YtccejkikphpnfaaGreatDoor
set_option linter.unusedSimpArgs false
set_option linter.unusedVariables false
set_option maxRecDepth 100000
open Go.ChangeShapes Go.WideShapes Go.ChangeAt Go.RowKit

theorem infoMarkerZ : (Tryz.prog.info? 77).map (fun i => (i.zero, i.size, i.bytes)) = some (some (.agg #[.int .i64 0, .slice none 0 0]), 2, 32) := by kernel_rfl
theorem infoSettledZ : (Tryz.prog.info? 80).map (fun i => (i.zero, i.size, i.bytes)) = some (some (.agg #[.int .i64 0, .slice none 0 0]), 2, 32) := by kernel_rfl
def mkBl (m : Mk) : Option Nat := blk m.a
def stBl (m : St) : Option Nat := blk m.a
def mkC (m : Mk) : Int × List Int := (m.old, m.new)
def stC (m : St) : Int × List Fl := (m.com, m.fs)
theorem mk_stays : Stays mkBl MkIn := fun S w w' x h hU hS => Vw.upd h hU (fun k hk => hS k hk)
theorem st_stays : Stays stBl StIn := fun S w w' x h hU hS => ⟨h.v.upd hU (fun k hk => hS k hk), h.p, h.t⟩

set_option maxHeartbeats 8000000 in
theorem root2_gen {row : Option Addr → Nat → Nat → Array Value} {br BX R1 : Nat} {F : Option Nat} {w0 : World} {s : RS} {xs : List Mk} {a : Option Addr} {c : Nat} {wk : World} (h : Ph mkV 2 77 mkBl MkIn 26 row br BX R1 F w0 s xs a c wk) (hget : ∀ a n c, (row a n c)[2]? = some (.slice a n c)) (hset : ∀ a n c a' n' c', (row a n c).setIfInBounds 2 (.slice a' n' c') = row a' n' c') (hs : s.l.length ≤ 100000000) (hn : xs.length ≤ 100000000) :
    Calls Tryz.prog 133 #[.pointer (some ⟨BX, 0, none⟩), .pointer (some ⟨R1, 0, none⟩)] wk fun e w' => e = .returned (.tuple #[]) ∧ ∃ x a' c', mkC x = (mkS s).1 ∧ Ph mkV 2 77 mkBl MkIn 26 row br BX R1 F w0 (mkS s).2 (xs ++ [x]) a' c' w' := by
  have hst : Stays (X := Mk) mkBl MkIn := mk_stays
  have HI := Lib.hid h
  have HG := Lib.hid (And.intro hget (And.intro hset hst))
  have HQ := Lib.hid (And.intro (h.q1 2 hget) h.q0)
  have hfs : Hid (mkS s = mkS s) := Lib.hid rfl
  have hle0 := takeS_len 4 s
  obtain ⟨t0, ht0⟩ : ∃ t, t = intV s := ⟨_, rfl⟩
  obtain ⟨s1, hs1⟩ : ∃ t, t = (takeS 4 s).2 := ⟨_, rfl⟩
  rw [← hs1] at hle0
  have HT0 := Lib.hid ht0
  have HE1 := Lib.hid hs1
  have hle1 := (show (numsS s1).2.l.length ≤ s1.l.length from (some_goes int_eats.toGoes).le s1)
  obtain ⟨t1, ht1⟩ : ∃ t, t = (numsS s1).1 := ⟨_, rfl⟩
  obtain ⟨s2, hs2⟩ : ∃ t, t = (numsS s1).2 := ⟨_, rfl⟩
  rw [← hs2] at hle1
  have HT1 := Lib.hid ht1
  have HE2 := Lib.hid hs2
  have HF : Hid (mkS s = ((t0, t1), s2)) := Lib.hid (by subst ht0 hs1; subst ht1 hs2; rfl)
  clear h hget hset hst hfs ht0 hs1 ht1 hs2
  go_enter Tryz.func133, Tryz.ntmps133
  go_upto_region 0 with (fail)
  refine wp_region_plan_last [([0, 1, 2, 3, 5], 4), ([], 6), ([7], 8), ([], 9), ([10], 11)] [] (fun w' => w'.cell? ⟨BX, 2, none⟩ = some (.slice a xs.length c) ∧ w'.cell? ⟨R1, 0, none⟩ = some (.pointer (some ⟨br, 0, none⟩))) (by kernel_rfl) (by kernel_rfl) HQ.out ?_
  iterate 5
    refine plan_take (v := ?_) rfl rfl (fun w' hS => ?_) ?_
    rotate_left
    · skip
      go_simp; try with_reducible rfl
    simp only [Act.put, List.getElem_toArray, List.getElem_cons_zero, List.getElem_cons_succ, List.setIfInBounds_toArray, List.set_cons_zero, List.set_cons_succ]
  have HN0 := Lib.hid (HI.out.same HG.out.2.2 (Upd.drew _ _))
  clear HQ
  have hc0 := rint_any br F s _ HN0.out.rd (by omega)
  rw [← HE1.out, ← HT0.out] at hc0
  refine plan_act rfl (fun KK hKK => ?_)
  go_wp2_with fail
  refine hc0.mono ?_
  unfold ReadN
  rintro e u0 ⟨rfl, hR, hU⟩
  have HN1 := Lib.hid (HN0.out.read HG.out.2.2 hR hU)
  have HQ := Lib.hid (And.intro (HN1.out.q1 2 HG.out.1) HN1.out.q0)
  clear hR hU hc0 HN0
  go_wp2_with fail
  refine hKK.out _ _ (.inr HQ.out) ?_
  clear HQ
  try simp only [Act.put, List.getElem_toArray, List.getElem_cons_zero, List.getElem_cons_succ, List.setIfInBounds_toArray, List.set_cons_zero, List.set_cons_succ]
  have hc1 := mrnumbers_any br F s1 _ HN1.out.rd (fun g hg => by have := HN1.out.n7 g hg; have := HN1.out.upd.size; omega) (by omega)
  rw [← HE2.out, ← HT1.out] at hc1
  refine plan_act rfl (fun KK hKK => ?_)
  go_wp2_with fail
  refine hc1.mono ?_
  unfold GotInts
  rintro e u1 ⟨na, nc, rfl, hv, hfr, hR, hU⟩
  have HX := Lib.hid (And.intro hv hfr)
  have HB := Lib.hid (fun g (hg : blk a = some g) => (HN1.out.own.lt g ((own_blk _ _ _).trans hg)).2)
  have HZ := Lib.hid HN1.out.upd.size
  clear hv hfr
  have HN2 := Lib.hid (HN1.out.read HG.out.2.2 hR hU)
  have HQ := Lib.hid (And.intro (HN2.out.q1 2 HG.out.1) HN2.out.q0)
  clear hR hU hc1 HN1
  go_wp2_with fail
  refine hKK.out _ _ (.inr HQ.out) ?_
  clear HQ
  try simp only [Act.put, List.getElem_toArray, List.getElem_cons_zero, List.getElem_cons_succ, List.setIfInBounds_toArray, List.set_cons_zero, List.set_cons_succ]
  iterate 1
    refine plan_take (v := ?_) rfl rfl (fun w' hS => ?_) ?_
    rotate_left
    · skip
      go_simp; try with_reducible rfl
    simp only [Act.put, List.getElem_toArray, List.getElem_cons_zero, List.getElem_cons_succ, List.setIfInBounds_toArray, List.set_cons_zero, List.set_cons_succ]
  refine plan_act rfl (fun KK hKK => ?_)
  obtain ⟨i0, hi, hz0, hz1, hz2⟩ := info_parts4 infoMarkerZ
  refine wpList_slice_gen rfl 23 77 2 (.tmp 9) rfl Tryz.underlying23 i0 (.agg #[.int .i64 0, .slice none 0 0]) hi hz0 hz1 (by decide) (by decide) (.agg #[.int .i64 t0, .slice na t1.length nc]) #[.int .i64 t0, .slice na t1.length nc] rfl (by kernel_rfl) ?_
  have hUb := Upd.alloc (fun _ => False) u1 (.cells #[.int .i64 t0, .slice na t1.length nc] 77)
  have hsrc : Src Tryz.prog 2 23 (.slice (some ⟨u1.heap.size, 0, none⟩) 1 1) 1 (mkV ⟨t0, t1, na, nc⟩) (u1.alloc (.cells #[.int .i64 t0, .slice na t1.length nc] 77)) := row_src (X := #[.int .i64 t0, .slice na t1.length nc]) Tryz.underlying23 rfl (by simp [Value.oneCell']) (heap_alloc_new u1 _)
  have hownx := ownsRow_upd HN2.out.own hUb (fun _ _ h => h)
  have HS7 := HN2.out.same HG.out.2.2 hUb
  have hq7 := And.intro (HS7.q1 2 HG.out.1) HS7.q0
  go_wp2_with fail
  refine hKK.out _ _ (.inr hq7) ?_
  refine plan_act rfl (fun KK hKK => ?_)
  try simp only [Act.put, List.getElem_toArray, List.getElem_cons_zero, List.getElem_cons_succ, List.setIfInBounds_toArray, List.set_cons_zero, List.set_cons_succ]
  refine wpList_app _ rfl (.tmp 3) (.tmp 10) 23 23 rfl 77 i0 (.agg #[.int .i64 0, .slice none 0 0]) 2 32 Tryz.underlying23 hi hz0 hz1 hz2 rfl a xs.length c (xs.flatMap mkV) rfl hownx (.slice (some ⟨u1.heap.size, 0, none⟩) 1 1) 1 (mkV ⟨t0, t1, na, nc⟩) rfl hsrc ?_ ?_ ?_
  · unfold maxLen; omega
  · omega
  clear hi hz0 hz1 hz2
  intro a8 c8 w8 hown8 hg8 hat8 hnil8
  obtain ⟨hcb, hq8, hf8, hq80⟩ := HN2.out.add HG.out.2.2 2 HG.out.1 HG.out.2.1 ⟨t0, t1, na, nc⟩ HX.out.1 (fun g hg => by have h1 := HX.out.2 g hg; have h2 := HZ.out; have h3 := HB.out g; exact ⟨by omega, h1.2, fun e => by have := h3 e; omega⟩) _ hown8 hg8 hat8
  have HM8 := Lib.hid hcb
  clear hown8 hg8 hat8 hnil8 hcb hownx hsrc hUb hq7 HS7
  have HQ8 := Lib.hid (And.intro hq8 hq80)
  clear hq80
  go_wp2_with fail
  refine hKK.out _ _ (.inr HQ8.out) ?_
  try simp only [Act.put, List.getElem_toArray, List.getElem_cons_zero, List.getElem_cons_succ, List.setIfInBounds_toArray, List.set_cons_zero, List.set_cons_succ]
  iterate 1
    refine plan_take (v := ?_) rfl rfl (fun w' hS => ?_) ?_
    rotate_left
    · skip
      go_simp; try with_reducible rfl
    simp only [Act.put, List.getElem_toArray, List.getElem_cons_zero, List.getElem_cons_succ, List.setIfInBounds_toArray, List.set_cons_zero, List.set_cons_succ]
  refine plan_act rfl (fun KK hKK => ?_)
  go_wp2_with fail
  refine hKK.out _ _ (.inl rfl) ?_
  refine plan_end ?_
  go_wp2_with fail
  go_end0
  exact ⟨rfl, ⟨t0, t1, na, nc⟩, a8, c8, by rw [HF.out]; rfl, by rw [HF.out]; exact HM8.out⟩

set_option maxHeartbeats 8000000 in
theorem wait1_gen {row : Option Addr → Nat → Nat → Array Value} {br BX R1 : Nat} {F : Option Nat} {w0 : World} {s : RS} {xs : List St} {a : Option Addr} {c : Nat} {wk : World} (h : Ph stV 2 80 stBl StIn 30 row br BX R1 F w0 s xs a c wk) (hget : ∀ a n c, (row a n c)[4]? = some (.slice a n c)) (hset : ∀ a n c a' n' c', (row a n c).setIfInBounds 4 (.slice a' n' c') = row a' n' c') (hs : s.l.length ≤ 100000000) (hn : xs.length ≤ 100000000) :
    Calls Tryz.prog 142 #[.pointer (some ⟨BX, 0, none⟩), .pointer (some ⟨R1, 0, none⟩)] wk fun e w' => e = .returned (.tuple #[]) ∧ ∃ x a' c', stC x = (stS s).1 ∧ Ph stV 2 80 stBl StIn 30 row br BX R1 F w0 (stS s).2 (xs ++ [x]) a' c' w' := by
  have hst : Stays (X := St) stBl StIn := st_stays
  have HI := Lib.hid h
  have HG := Lib.hid (And.intro hget (And.intro hset hst))
  have HQ := Lib.hid (And.intro (h.q1 4 hget) h.q0)
  have hfs : Hid (stS s = stS s) := Lib.hid rfl
  have hle0 := st_eats.le s
  obtain ⟨t0, ht0⟩ : ∃ t, t = (stS s).1 := ⟨_, rfl⟩
  obtain ⟨s1, hs1⟩ : ∃ t, t = (stS s).2 := ⟨_, rfl⟩
  rw [← hs1] at hle0
  have HT0 := Lib.hid ht0
  have HE1 := Lib.hid hs1
  have HF : Hid (stS s = (t0, s1)) := Lib.hid (by subst ht0 hs1; generalize stS s = q; rfl)
  clear h hget hset hst hfs ht0 hs1
  go_enter Tryz.func142, Tryz.ntmps142
  go_upto_region 0 with (fail)
  refine wp_region_plan_last [([0, 1, 2], 3), ([], 4), ([], 5), ([6], 7)] [] (fun w' => w'.cell? ⟨BX, 4, none⟩ = some (.slice a xs.length c) ∧ w'.cell? ⟨R1, 0, none⟩ = some (.pointer (some ⟨br, 0, none⟩))) (by kernel_rfl) (by kernel_rfl) HQ.out ?_
  iterate 3
    refine plan_take (v := ?_) rfl rfl (fun w' hS => ?_) ?_
    rotate_left
    · skip
      go_simp; try with_reducible rfl
    simp only [Act.put, List.getElem_toArray, List.getElem_cons_zero, List.getElem_cons_succ, List.setIfInBounds_toArray, List.set_cons_zero, List.set_cons_succ]
  have HN0 := Lib.hid (HI.out.same HG.out.2.2 (Upd.drew _ _))
  clear HQ
  have hc0 := mrsettled_any br F s _ HN0.out.rd (fun g hg => by have := HN0.out.n7 g hg; have := HN0.out.upd.size; omega) (by omega)
  rw [← HE1.out, ← HT0.out] at hc0
  refine plan_act rfl (fun KK hKK => ?_)
  go_wp2_with fail
  refine hc0.mono ?_
  unfold GotSt
  rintro e u0 ⟨x, rfl, hx, hv, hfr, hR, hU⟩
  have HX := Lib.hid (And.intro hv hfr)
  have HB := Lib.hid (fun g (hg : blk a = some g) => (HN0.out.own.lt g ((own_blk _ _ _).trans hg)).2)
  have HZ := Lib.hid HN0.out.upd.size
  have HXC := Lib.hid hx
  clear hv hfr hx
  have HN1 := Lib.hid (HN0.out.read HG.out.2.2 hR hU)
  have HQ := Lib.hid (And.intro (HN1.out.q1 4 HG.out.1) HN1.out.q0)
  clear hR hU hc0 HN0
  go_wp2_with fail
  refine hKK.out _ _ (.inr HQ.out) ?_
  clear HQ
  try simp only [Act.put, List.getElem_toArray, List.getElem_cons_zero, List.getElem_cons_succ, List.setIfInBounds_toArray, List.set_cons_zero, List.set_cons_succ]
  refine plan_act rfl (fun KK hKK => ?_)
  obtain ⟨i0, hi, hz0, hz1, hz2⟩ := info_parts4 infoSettledZ
  refine wpList_slice_gen rfl 27 80 2 (.tmp 5) rfl Tryz.underlying27 i0 (.agg #[.int .i64 0, .slice none 0 0]) hi hz0 hz1 (by decide) (by decide) (.agg #[.int .i64 x.com, .slice x.a x.fs.length x.c]) #[.int .i64 x.com, .slice x.a x.fs.length x.c] rfl (by kernel_rfl) ?_
  have hUb := Upd.alloc (fun _ => False) u0 (.cells #[.int .i64 x.com, .slice x.a x.fs.length x.c] 80)
  have hsrc : Src Tryz.prog 2 27 (.slice (some ⟨u0.heap.size, 0, none⟩) 1 1) 1 (stV x) (u0.alloc (.cells #[.int .i64 x.com, .slice x.a x.fs.length x.c] 80)) := row_src (X := #[.int .i64 x.com, .slice x.a x.fs.length x.c]) Tryz.underlying27 rfl (by simp [Value.oneCell']) (heap_alloc_new u0 _)
  have hownx := ownsRow_upd HN1.out.own hUb (fun _ _ h => h)
  have HS7 := HN1.out.same HG.out.2.2 hUb
  have hq7 := And.intro (HS7.q1 4 HG.out.1) HS7.q0
  go_wp2_with fail
  refine hKK.out _ _ (.inr hq7) ?_
  refine plan_act rfl (fun KK hKK => ?_)
  try simp only [Act.put, List.getElem_toArray, List.getElem_cons_zero, List.getElem_cons_succ, List.setIfInBounds_toArray, List.set_cons_zero, List.set_cons_succ]
  refine wpList_app _ rfl (.tmp 3) (.tmp 6) 27 27 rfl 80 i0 (.agg #[.int .i64 0, .slice none 0 0]) 2 32 Tryz.underlying27 hi hz0 hz1 hz2 rfl a xs.length c (xs.flatMap stV) rfl hownx (.slice (some ⟨u0.heap.size, 0, none⟩) 1 1) 1 (stV x) rfl hsrc ?_ ?_ ?_
  · unfold maxLen; omega
  · omega
  clear hi hz0 hz1 hz2
  intro a8 c8 w8 hown8 hg8 hat8 hnil8
  obtain ⟨hcb, hq8, hf8, hq80⟩ := HN1.out.add HG.out.2.2 4 HG.out.1 HG.out.2.1 x HX.out.1 (fun g hg => by have h1 := HX.out.2 g hg; have h2 := HZ.out; have h3 := HB.out g; exact ⟨by omega, h1.2, fun e => by have := h3 e; omega⟩) _ hown8 hg8 hat8
  have HM8 := Lib.hid hcb
  clear hown8 hg8 hat8 hnil8 hcb hownx hsrc hUb hq7 HS7
  have HQ8 := Lib.hid (And.intro hq8 hq80)
  clear hq80
  go_wp2_with fail
  refine hKK.out _ _ (.inr HQ8.out) ?_
  try simp only [Act.put, List.getElem_toArray, List.getElem_cons_zero, List.getElem_cons_succ, List.setIfInBounds_toArray, List.set_cons_zero, List.set_cons_succ]
  iterate 1
    refine plan_take (v := ?_) rfl rfl (fun w' hS => ?_) ?_
    rotate_left
    · skip
      go_simp; try with_reducible rfl
    simp only [Act.put, List.getElem_toArray, List.getElem_cons_zero, List.getElem_cons_succ, List.setIfInBounds_toArray, List.set_cons_zero, List.set_cons_succ]
  refine plan_act rfl (fun KK hKK => ?_)
  go_wp2_with fail
  refine hKK.out _ _ (.inl rfl) ?_
  refine plan_end ?_
  go_wp2_with fail
  go_end0
  exact ⟨rfl, x, a8, c8, by rw [HF.out]; exact HXC.out, by rw [HF.out]; exact HM8.out⟩
end Go.Proofs.YtccejkikphpnfaaGreatDoor
