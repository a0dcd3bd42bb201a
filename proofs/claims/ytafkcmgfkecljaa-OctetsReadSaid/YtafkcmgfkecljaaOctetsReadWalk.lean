/- The walk of OctetsRead. -/
import Derived.Test.YtafkcmgfkecljaaItems
namespace Go.Proofs.Ytafkcmgfkecljaa
set_option linter.unusedSimpArgs false
set_option linter.unusedVariables false
open Go.ChangeShapes Go.WideShapes Go.ChangeAt Go.RowKit

def decInt (z : Int) : List Value := [.int .i64 z]
theorem open_intl {H : Type} {enc : TypeId × Value → H} {W : World} {base : Nat} {v : Value} {d : DataW H} {ps : List MemPlace} (hval : Value.okWide Try.prog W .any base 40 v)
    (h : DataW.Trod enc Try.prog W 0 (fun _ => true) true 40 v d ps) : ∃ (a : Option Addr) (c : Nat) (xs : List Int), v = .slice a xs.length c ∧ Vw W a xs.length c 1 (xs.flatMap decInt) ∧ (∀ b, blk a = some b → b < W.heap.size) := by
  obtain ⟨a, c, xs, h1, h2, _, h3⟩ := open_list decInt (fun _ => True) 40 3 1 Try.underlying40 (by kernel_rfl) (by decide) (fun _ => rfl) (by
    intro fuel cs y hl hy
    obtain ⟨b, e1, _⟩ := DataW.trod_int Try.underlying3 hy
    exact ⟨b, e1, trivial⟩) hval h
  exact ⟨a, c, xs, h1, h2, h3⟩
theorem read_any2 (a : Option Addr) (c : Nat) (l : List UInt8) (w : World) (hv : Vw w a l.length c 1 (bvs l)) (hl : l.length ≤ 100000000) :
    Calls Try.prog 24 #[.slice a l.length c] w fun e w' => ∃ br F, e = .returned (.pointer (some ⟨br, 0, none⟩)) ∧ Rd w' br F l 0 ∧ Upd (fun _ => False) w w' ∧ w.heap.size ≤ br ∧ (∀ g, F = some g → w.heap.size ≤ g ∧ g < br) := by
  go_enter Try.func24, Try.ntmps24
  go_wp2_with fail
  refine (clone_any a c l w hv hl).mono ?_
  rintro e w1 ⟨a', c', rfl, hown, hU, hfr, hnil⟩
  have hz := hU.size
  have hvw := Vw.of_own hown
  have hlt : ∀ g, blk a' = some g → w.heap.size ≤ g ∧ g < w1.heap.size := fun g hg => ⟨hfr g hg, (hown.lt g ((own_blk _ _ _).trans hg)).2⟩
  clear hfr
  have Hlt := Lib.hid hlt; clear hlt
  go_wp2_with fail
  go_ret
  refine ⟨w1.heap.size, blk a', rfl, ⟨⟨a', c', heap_alloc_new _ _, hvw.upd (Upd.alloc (fun _ => False) _ _) (fun _ _ h => h), .inr rfl⟩, ?_⟩, hU.trans (Upd.alloc _ _ _), hz, Hlt.out⟩
  intro e; exact absurd (Hlt.out _ e).2 (Nat.lt_irrefl _)
def okS (s : RS) : Prop := s.e ≠ 0 → s.l = []
theorem okS_take (n : Nat) (s : RS) (h : okS s) : okS (takeS n s).2 := by
  unfold takeS
  by_cases he : s.e ≠ 0
  · rw [if_pos he]; exact h
  · rw [if_neg he]
    by_cases hl : s.l.length < n
    · rw [if_pos hl]; intro _; rfl
    · rw [if_neg hl]; intro h'; exact absurd rfl h'
theorem okS_text (s : RS) (h : okS s) : okS (textS s).2 := by
  unfold textS
  split
  · exact okS_take 4 s h
  split
  · intro _; rfl
  · exact okS_take _ _ (okS_take 4 s h)
theorem okS_bool (s : RS) (h : okS s) : okS (boolS s).2 := by
  unfold boolS
  split
  · intro _; rfl
  · exact okS_take 1 s h
theorem okS_int (s : RS) (h : okS s) : okS (takeS 4 s).2 := okS_take 4 s h
/-- Both readers, at one place. -/
def Pair (br bf : Nat) (F G : Option Nat) (w : World) : Prop := ∃ s, Rd w br F s.l s.e ∧ Rf w bf G s ∧ okS s

set_option maxRecDepth 100000 in
set_option maxHeartbeats 1000000 in
theorem OctetsRead_walk (w : World) (la : Option Addr) (lc : Nat) (l : List UInt8) (hl : Vw w la l.length lc 1 (bvs l)) (hlb : ∀ b, blk la = some b → b < w.heap.size)
    (za : Option Addr) (zc : Nat) (zs : List Int) (hzv : Vw w za zs.length zc 1 (zs.flatMap decInt)) (hzb : ∀ b, blk za = some b → b < w.heap.size) :
    Calls Try.prog 7 #[.slice la l.length lc, .slice za zs.length zc] w fun e w' => e = .returned (.bool true) ∧ Below w.heap.size w w' := by
  have hcap := hl.cap
  have hlc := hl.le
  have hcapz := hzv.cap
  have hlcz := hzv.le
  unfold maxLen at hcap hcapz
  go_enter Try.func7, Try.ntmps7
  by_cases h2000 : 2000 < l.length
  · have hd : decide (2000 < (l.length : Int)) = true := by simp; omega
    go_wp2_with fail
    refine (awake01_any w).mono ?_
    rintro e w3 ⟨rfl, hU23⟩
    go_wp2_with fail
    go_ret
    exact ⟨rfl, hU23.clean⟩
  have hd : decide (2000 < (l.length : Int)) = false := by simp; omega
  go_wp2_with fail
  refine (ownB_any la lc l 71 w hl (by omega)).mono ?_
  rintro e w1 ⟨g, rfl, hown1, hU1, hg⟩
  have hv1 := Vw.of_own hown1
  have hvin := hv1.pre l.length (by omega)
  have hvin' : Vw w1 (some ⟨g, 0, none⟩) l.length (l.length + 3) 1 (bvs l) := by simpa [bvs] using hvin
  have hg1 : g < w1.heap.size := (hown1.lt g (by simp [own_blk, blk])).2
  have hz1 := hU1.size
  have hl1 := hl.upd hU1 (fun _ _ h => h)
  have HO := Lib.hid hown1
  clear hv1 hvin hown1
  go_wp2_with fail
  refine (read_any2 (some ⟨g, 0, none⟩) (l.length + 3) l w1 hvin' (by omega)).mono ?_
  rintro e w2 ⟨br, F, rfl, hR2, hU2, hbr, hF⟩
  have hl2 := hl1.upd hU2 (fun _ _ h => h)
  have hbr2 := hR2.lt
  have hz2 := hU2.size
  have HF := Lib.hid hF
  have hU02 := hU1.trans hU2
  clear hF hvin' hl1
  go_wp2_with fail
  have hUa := Upd.alloc (fun _ => False) w2 (.cells #[.slice la l.length lc, .int .i64 0, .int .i64 0] 46)
  have hRf3 : Rf (w2.alloc (.cells #[.slice la l.length lc, .int .i64 0, .int .i64 0] 46)) w2.heap.size (blk la) ⟨l, 0⟩ :=
    ⟨⟨la, lc, l, 0, 0, heap_alloc_new w2 _, hl2.upd hUa (fun _ _ h => h), rfl, Nat.zero_le _, by omega, by simp [absR]⟩, fun h => by have := hlb _ h; omega⟩
  have hz3 : w2.heap.size < (w2.alloc (.cells #[.slice la l.length lc, .int .i64 0, .int .i64 0] 46)).heap.size := by simp
  generalize hw3 : w2.alloc (.cells #[.slice la l.length lc, .int .i64 0, .int .i64 0] 46) = w3 at *
  have HW3 := Lib.hid hw3
  clear hw3
  refine (awake01_any w3).mono ?_
  rintro e w4 ⟨rfl, hU4⟩
  have hUc := hUa.trans hU4
  have hR4 := hR2.upd hUc (fun h => h) (fun _ _ h => h)
  have hRf4 := hRf3.upd hU4 (fun h => h) (fun _ _ h => h)
  have hU04 := hU02.trans hUc
  have hO4 := ownsRow_upd HO.out (hU2.trans hUc) (fun _ _ h => h)
  have hz4 := hU4.size
  have HO4 := Lib.hid hO4
  generalize hbf : w2.heap.size = bf at *
  have hl4 := hl.upd hU04 (fun _ _ h => h)
  have hzv4 := hzv.upd hU04 (fun _ _ h => h)
  have hbb : br ≠ bf := by omega
  clear hO4 hR2 hRf3 hU4 hUa hUc hU02 hU2 hU1 hl2 HO
  go_wp2_with fail
  go_loopw [8] (fun i wx => ∃ j : Nat, j ≤ zs.length ∧ j ≤ 40 ∧ i = .int .i64 (j : Int) ∧ Pair br bf F (blk la) wx ∧ Upd (fun i => i = br ∨ i = bf) w4 wx) (fun i _ => zs.length - (intOf i).toNat)
  case atStart => exact ⟨0, by omega, by omega, rfl, ⟨⟨l, 0⟩, hR4, hRf4, fun h => absurd rfl h⟩, Upd.refl _ _⟩
  case round =>
    obtain ⟨j, hj, hj40, rfl, ⟨s, hRx, hRf, hs⟩, hUx⟩ := hrel
    clear hR4 hRf4
    have hzx := hUx.size
    have hzv5 := hzv4.upd hUx (fun g hg h => by have := hzb g hg; omega)
    by_cases hlt : j < zs.length ∧ j < 40
    · obtain ⟨h1, h2⟩ := hlt
      obtain ⟨zb, zo, rfl, hcell⟩ := hzv5.at (by omega) (by decide)
      have hzc : wr.cell? ⟨zb, zo + j, none⟩ = some (.int .i64 zs[j]) := hcell j _ (by
        have := flatMap_get decInt 1 (fun _ => rfl) zs j 0 (by decide)
        simpa [decInt, h1] using this)
      have hI : (j : Int) < (zs.length : Int) := by omega
      have hI2 : (j : Int) < 40 := by omega
      have hzbb : zb < w.heap.size := hzb zb rfl
      generalize zs[j] = z at *
      clear hzv5 hcell hzv4 hl4
      by_cases k0 : z = 0
      · subst k0
        go_wp2_with fail
        refine (rint_any br F s wr hRx (hRf.len)).mono ?_
        rintro e w6 ⟨rfl, hR6, hU6⟩
        have hRf6 := hRf.upd hU6 (fun h => hbb h.symm) (fun g hg h => by have := hlb g hg; omega)
        have hU46 : Upd (fun i => i = br ∨ i = bf) w4 w6 := hUx.trans (hU6.mono (fun i _ h => .inl h))
        clear hRx hRf hU6
        go_wp2_with fail
        refine (rfint_any bf (blk la) s w6 hRf6).mono ?_
        rintro e wB ⟨rfl, hRfB, hU7⟩
        have hRB := hR6.upd hU7 (fun h => hbb h) (fun g hg h => by have := HF.out g hg; omega)
        have hUB : Upd (fun i => i = br ∨ i = bf) w4 wB := hU46.trans (hU7.mono (fun i _ h => .inr h))
        have hok := okS_int s hs
        generalize (takeS 4 s).2 = t at *
        generalize intV s = v at *
        have hvv : (v == v) = true := by simp
        clear hR6 hRf6 hU46 hU7 hs
        have hce := hRfB.err
        obtain ⟨tl, te⟩ := t
        dsimp only at hRB hce
        have hRD := hRB.upd (Upd.drew (fun _ => False) wB) (fun h => h) (fun _ _ h => h)
        have hRfD := hRfB.upd (Upd.drew (fun _ => False) wB) (fun h => h) (fun _ _ h => h)
        have hceD : wB.drew.cell? ⟨bf, 2, none⟩ = some (.int .i64 te) := hce
        go_wp2_with fail
        refine wp_region_plan [([0, 1, 2, 3, 5, 6, 7, 8], 4), ([9, 10, 11, 12, 14], 13), ([], 15)] [16, 17] (fun w' => w'.cell? ⟨bf, 2, none⟩ = some (.int .i64 te)) (by kernel_rfl) (by kernel_rfl) hce ?_
        iterate 8
          refine plan_take (v := ?_) rfl rfl (fun w' hS => ?_) ?_
          rotate_left
          · skip
            go_simp; try with_reducible rfl
          simp only [Act.put, List.getElem_toArray, List.getElem_cons_zero, List.getElem_cons_succ, List.setIfInBounds_toArray, List.set_cons_zero, List.set_cons_succ]
        refine plan_act rfl (fun K hK => ?_)
        go_wp2_with fail
        refine (err_any br F tl te wB.drew hRD).mono ?_
        rintro e w' ⟨rfl, rfl⟩
        go_wp2_with fail
        refine hK.out _ _ (.inr hceD) ?_
        iterate 5
          refine plan_take (v := ?_) rfl rfl (fun w' hS => ?_) ?_
          rotate_left
          · skip
            go_simp; try with_reducible rfl
          simp only [Act.put, List.getElem_toArray, List.getElem_cons_zero, List.getElem_cons_succ, List.setIfInBounds_toArray, List.set_cons_zero, List.set_cons_succ]
        refine plan_act rfl (fun K hK => ?_)
        go_wp2_with fail
        refine (left_any br F tl te wB.drew hRD).mono ?_
        rintro e w' ⟨rfl, rfl⟩
        go_wp2_with fail
        refine hK.out _ _ (.inr hceD) ?_
        refine plan_act rfl (fun K hK => ?_)
        go_wp2_with fail
        refine (rfleft_any bf (blk la) ⟨tl, te⟩ wB.drew hRfD hok).mono ?_
        rintro e w9 ⟨rfl, hU9⟩
        have hR9 := hRD.upd hU9 (fun h => h) (fun _ _ h => h)
        have hRf9 := hRfD.upd hU9 (fun h => h) (fun _ _ h => h)
        have hU49 : Upd (fun i => i = br ∨ i = bf) w4 w9 := (hUB.trans (Upd.drew _ _)).next hU9 (fun i hi h => h.elim)
        go_wp2_with fail
        refine hK.out _ _ (.inr hRf9.err) ?_
        iterate 2
          refine plan_last (v := ?_) rfl rfl (fun w' hS => ?_) ?_
          rotate_left
          · skip
            go_simp; try with_reducible rfl
          simp only [Act.put, List.getElem_toArray, List.getElem_cons_zero, List.getElem_cons_succ, List.setIfInBounds_toArray, List.set_cons_zero, List.set_cons_succ]
        refine plan_end ?_
        go_wp2_with fail
        go_roundw
        case rel => exact ⟨j + 1, by omega, by omega, by first | rfl | go_num, ⟨⟨tl, te⟩, hR9, hRf9, hok⟩, hU49⟩
        case measure => simp [intOf]; omega
      · by_cases k1 : z = -1
        · subst k1
          go_wp2_with fail
          refine (rtext_any br F s wr hRx (hRf.len)).mono ?_
          rintro e w6 ⟨rfl, hR6, hU6⟩
          have hRf6 := hRf.upd hU6 (fun h => hbb h.symm) (fun g hg h => by have := hlb g hg; omega)
          have hU46 : Upd (fun i => i = br ∨ i = bf) w4 w6 := hUx.trans (hU6.mono (fun i _ h => .inl h))
          clear hRx hRf hU6
          go_wp2_with fail
          refine (rftext_any bf (blk la) s w6 hRf6).mono ?_
          rintro e wB ⟨rfl, hRfB, hU7⟩
          have hRB := hR6.upd hU7 (fun h => hbb h) (fun g hg h => by have := HF.out g hg; omega)
          have hUB : Upd (fun i => i = br ∨ i = bf) w4 wB := hU46.trans (hU7.mono (fun i _ h => .inr h))
          have hok := okS_text s hs
          generalize (textS s).2 = t at *
          generalize str (textS s).1 = v at *
          clear hR6 hRf6 hU46 hU7 hs
          have hce := hRfB.err
          obtain ⟨tl, te⟩ := t
          dsimp only at hRB hce
          have hRD := hRB.upd (Upd.drew (fun _ => False) wB) (fun h => h) (fun _ _ h => h)
          have hRfD := hRfB.upd (Upd.drew (fun _ => False) wB) (fun h => h) (fun _ _ h => h)
          have hceD : wB.drew.cell? ⟨bf, 2, none⟩ = some (.int .i64 te) := hce
          go_wp2_with fail
          refine wp_region_plan [([0, 1, 2, 3, 5, 6, 7, 8], 4), ([9, 10, 11, 12, 14], 13), ([], 15)] [16, 17] (fun w' => w'.cell? ⟨bf, 2, none⟩ = some (.int .i64 te)) (by kernel_rfl) (by kernel_rfl) hce ?_
          iterate 8
            refine plan_take (v := ?_) rfl rfl (fun w' hS => ?_) ?_
            rotate_left
            · skip
              go_simp; try with_reducible rfl
            simp only [Act.put, List.getElem_toArray, List.getElem_cons_zero, List.getElem_cons_succ, List.setIfInBounds_toArray, List.set_cons_zero, List.set_cons_succ]
          refine plan_act rfl (fun K hK => ?_)
          go_wp2_with fail
          refine (err_any br F tl te wB.drew hRD).mono ?_
          rintro e w' ⟨rfl, rfl⟩
          go_wp2_with fail
          refine hK.out _ _ (.inr hceD) ?_
          iterate 5
            refine plan_take (v := ?_) rfl rfl (fun w' hS => ?_) ?_
            rotate_left
            · skip
              go_simp; try with_reducible rfl
            simp only [Act.put, List.getElem_toArray, List.getElem_cons_zero, List.getElem_cons_succ, List.setIfInBounds_toArray, List.set_cons_zero, List.set_cons_succ]
          refine plan_act rfl (fun K hK => ?_)
          go_wp2_with fail
          refine (left_any br F tl te wB.drew hRD).mono ?_
          rintro e w' ⟨rfl, rfl⟩
          go_wp2_with fail
          refine hK.out _ _ (.inr hceD) ?_
          refine plan_act rfl (fun K hK => ?_)
          go_wp2_with fail
          refine (rfleft_any bf (blk la) ⟨tl, te⟩ wB.drew hRfD hok).mono ?_
          rintro e w9 ⟨rfl, hU9⟩
          have hR9 := hRD.upd hU9 (fun h => h) (fun _ _ h => h)
          have hRf9 := hRfD.upd hU9 (fun h => h) (fun _ _ h => h)
          have hU49 : Upd (fun i => i = br ∨ i = bf) w4 w9 := (hUB.trans (Upd.drew _ _)).next hU9 (fun i hi h => h.elim)
          go_wp2_with fail
          refine hK.out _ _ (.inr hRf9.err) ?_
          iterate 2
            refine plan_last (v := ?_) rfl rfl (fun w' hS => ?_) ?_
            rotate_left
            · skip
              go_simp; try with_reducible rfl
            simp only [Act.put, List.getElem_toArray, List.getElem_cons_zero, List.getElem_cons_succ, List.setIfInBounds_toArray, List.set_cons_zero, List.set_cons_succ]
          refine plan_end ?_
          go_wp2_with fail
          go_roundw
          case rel => exact ⟨j + 1, by omega, by omega, by first | rfl | go_num, ⟨⟨tl, te⟩, hR9, hRf9, hok⟩, hU49⟩
          case measure => simp [intOf]; omega
        · by_cases k2 : z = -2
          · subst k2
            go_wp2_with fail
            refine (rbool_any br F s wr hRx (hRf.len)).mono ?_
            rintro e w6 ⟨rfl, hR6, hU6⟩
            have hRf6 := hRf.upd hU6 (fun h => hbb h.symm) (fun g hg h => by have := hlb g hg; omega)
            have hU46 : Upd (fun i => i = br ∨ i = bf) w4 w6 := hUx.trans (hU6.mono (fun i _ h => .inl h))
            clear hRx hRf hU6
            go_wp2_with fail
            refine (rfbool_any bf (blk la) s w6 hRf6).mono ?_
            rintro e wB ⟨rfl, hRfB, hU7⟩
            have hRB := hR6.upd hU7 (fun h => hbb h) (fun g hg h => by have := HF.out g hg; omega)
            have hUB : Upd (fun i => i = br ∨ i = bf) w4 wB := hU46.trans (hU7.mono (fun i _ h => .inr h))
            have hok := okS_bool s hs
            generalize (boolS s).2 = t at *
            generalize (boolS s).1 = v at *
            have hvv : (v == v) = true := by simp
            clear hR6 hRf6 hU46 hU7 hs
            have hce := hRfB.err
            obtain ⟨tl, te⟩ := t
            dsimp only at hRB hce
            have hRD := hRB.upd (Upd.drew (fun _ => False) wB) (fun h => h) (fun _ _ h => h)
            have hRfD := hRfB.upd (Upd.drew (fun _ => False) wB) (fun h => h) (fun _ _ h => h)
            have hceD : wB.drew.cell? ⟨bf, 2, none⟩ = some (.int .i64 te) := hce
            go_wp2_with fail
            refine wp_region_plan [([0, 1, 2, 3, 5, 6, 7, 8], 4), ([9, 10, 11, 12, 14], 13), ([], 15)] [16, 17] (fun w' => w'.cell? ⟨bf, 2, none⟩ = some (.int .i64 te)) (by kernel_rfl) (by kernel_rfl) hce ?_
            iterate 8
              refine plan_take (v := ?_) rfl rfl (fun w' hS => ?_) ?_
              rotate_left
              · skip
                go_simp; try with_reducible rfl
              simp only [Act.put, List.getElem_toArray, List.getElem_cons_zero, List.getElem_cons_succ, List.setIfInBounds_toArray, List.set_cons_zero, List.set_cons_succ]
            refine plan_act rfl (fun K hK => ?_)
            go_wp2_with fail
            refine (err_any br F tl te wB.drew hRD).mono ?_
            rintro e w' ⟨rfl, rfl⟩
            go_wp2_with fail
            refine hK.out _ _ (.inr hceD) ?_
            iterate 5
              refine plan_take (v := ?_) rfl rfl (fun w' hS => ?_) ?_
              rotate_left
              · skip
                go_simp; try with_reducible rfl
              simp only [Act.put, List.getElem_toArray, List.getElem_cons_zero, List.getElem_cons_succ, List.setIfInBounds_toArray, List.set_cons_zero, List.set_cons_succ]
            refine plan_act rfl (fun K hK => ?_)
            go_wp2_with fail
            refine (left_any br F tl te wB.drew hRD).mono ?_
            rintro e w' ⟨rfl, rfl⟩
            go_wp2_with fail
            refine hK.out _ _ (.inr hceD) ?_
            refine plan_act rfl (fun K hK => ?_)
            go_wp2_with fail
            refine (rfleft_any bf (blk la) ⟨tl, te⟩ wB.drew hRfD hok).mono ?_
            rintro e w9 ⟨rfl, hU9⟩
            have hR9 := hRD.upd hU9 (fun h => h) (fun _ _ h => h)
            have hRf9 := hRfD.upd hU9 (fun h => h) (fun _ _ h => h)
            have hU49 : Upd (fun i => i = br ∨ i = bf) w4 w9 := (hUB.trans (Upd.drew _ _)).next hU9 (fun i hi h => h.elim)
            go_wp2_with fail
            refine hK.out _ _ (.inr hRf9.err) ?_
            iterate 2
              refine plan_last (v := ?_) rfl rfl (fun w' hS => ?_) ?_
              rotate_left
              · skip
                go_simp; try with_reducible rfl
              simp only [Act.put, List.getElem_toArray, List.getElem_cons_zero, List.getElem_cons_succ, List.setIfInBounds_toArray, List.set_cons_zero, List.set_cons_succ]
            refine plan_end ?_
            go_wp2_with fail
            go_roundw
            case rel => exact ⟨j + 1, by omega, by omega, by first | rfl | go_num, ⟨⟨tl, te⟩, hR9, hRf9, hok⟩, hU49⟩
            case measure => simp [intOf]; omega
          · have q0 : (z == 0) = false := by simpa using k0
            have q1 : (z == -1) = false := by simpa using k1
            have q2 : (z == -2) = false := by simpa using k2
            have hRxD := hRx.upd (Upd.drew (fun _ => False) wr) (fun h => h) (fun _ _ h => h)
            have hRfD := hRf.upd (Upd.drew (fun _ => False) wr) (fun h => h) (fun _ _ h => h)
            go_wp2_with fail
            refine wp_region_plan [([0, 1, 2, 3, 4, 6, 7, 8, 9, 10], 5), ([], 11)] [12, 13] (fun w' => w'.cell? ⟨zb, zo + j, none⟩ = some (.int .i64 z)) (by kernel_rfl) (by kernel_rfl) hzc ?_
            iterate 10
              refine plan_take (v := ?_) rfl rfl (fun w' hS => ?_) ?_
              rotate_left
              · skip
                go_simp; try with_reducible rfl
              simp only [Act.put, List.getElem_toArray, List.getElem_cons_zero, List.getElem_cons_succ, List.setIfInBounds_toArray, List.set_cons_zero, List.set_cons_succ]
            refine plan_act rfl (fun K hK => ?_)
            go_wp2_with fail
            refine (rnum_any br F s z wr.drew hRxD hRf.len).mono ?_
            rintro e w6 ⟨rfl, hR6, hU6⟩
            have hRf6 := hRfD.upd hU6 (fun h => hbb h.symm) (fun g hg h => by have := hlb g hg; omega)
            have hzc6 : w6.cell? ⟨zb, zo + j, none⟩ = some (.int .i64 z) := by rw [hU6.cell (by show zb < wr.heap.size; omega) (by show ¬ zb = br; omega)]; exact hzc
            have hU46 : Upd (fun i => i = br ∨ i = bf) w4 w6 := (hUx.trans (Upd.drew _ _)).trans (hU6.mono (fun i _ h => .inl h))
            go_wp2_with fail
            refine hK.out _ _ (.inr hzc6) ?_
            refine plan_act rfl (fun K hK => ?_)
            go_wp2_with fail
            refine (rfnum_any bf (blk la) s z w6 hRf6).mono ?_
            rintro e wB ⟨rfl, hRfB, hU7⟩
            have hRB := hR6.upd hU7 (fun h => hbb h) (fun g hg h => by have := HF.out g hg; omega)
            have hzcB : wB.cell? ⟨zb, zo + j, none⟩ = some (.int .i64 z) := by rw [hU7.cell (by have := hU6.size; show zb < w6.heap.size; have : w.heap.size ≤ w6.heap.size := by { have h1 := hU46.size; omega }; omega) (by show ¬ zb = bf; omega)]; exact hzc6
            have hUB : Upd (fun i => i = br ∨ i = bf) w4 wB := hU46.trans (hU7.mono (fun i _ h => .inr h))
            have hok := okS_take (heldN z) s hs
            generalize (takeS (heldN z) s).2 = t at *
            generalize leN (takeS (heldN z) s).1 = v at *
            have hvv : ((v : Int) == (v : Int)) = true := by simp
            go_wp2_with fail
            refine hK.out _ _ (.inr hzcB) ?_
            iterate 2
              refine plan_last (v := ?_) rfl rfl (fun w' hS => ?_) ?_
              rotate_left
              · skip
                go_simp; try with_reducible rfl
              simp only [Act.put, List.getElem_toArray, List.getElem_cons_zero, List.getElem_cons_succ, List.setIfInBounds_toArray, List.set_cons_zero, List.set_cons_succ]
            refine plan_end ?_
            clear hR6 hRf6 hU46 hU7 hs hRxD hRfD hRx hRf hU6
            have hce := hRfB.err
            obtain ⟨tl, te⟩ := t
            dsimp only at hRB hce
            have hRD := hRB.upd (Upd.drew (fun _ => False) wB) (fun h => h) (fun _ _ h => h)
            have hRfD := hRfB.upd (Upd.drew (fun _ => False) wB) (fun h => h) (fun _ _ h => h)
            have hceD : wB.drew.cell? ⟨bf, 2, none⟩ = some (.int .i64 te) := hce
            go_wp2_with fail
            refine wp_region_plan [([0, 1, 2, 3, 5, 6, 7, 8], 4), ([9, 10, 11, 12, 14], 13), ([], 15)] [16, 17] (fun w' => w'.cell? ⟨bf, 2, none⟩ = some (.int .i64 te)) (by kernel_rfl) (by kernel_rfl) hce ?_
            iterate 8
              refine plan_take (v := ?_) rfl rfl (fun w' hS => ?_) ?_
              rotate_left
              · skip
                go_simp; try with_reducible rfl
              simp only [Act.put, List.getElem_toArray, List.getElem_cons_zero, List.getElem_cons_succ, List.setIfInBounds_toArray, List.set_cons_zero, List.set_cons_succ]
            refine plan_act rfl (fun K hK => ?_)
            go_wp2_with fail
            refine (err_any br F tl te wB.drew hRD).mono ?_
            rintro e w' ⟨rfl, rfl⟩
            go_wp2_with fail
            refine hK.out _ _ (.inr hceD) ?_
            iterate 5
              refine plan_take (v := ?_) rfl rfl (fun w' hS => ?_) ?_
              rotate_left
              · skip
                go_simp; try with_reducible rfl
              simp only [Act.put, List.getElem_toArray, List.getElem_cons_zero, List.getElem_cons_succ, List.setIfInBounds_toArray, List.set_cons_zero, List.set_cons_succ]
            refine plan_act rfl (fun K hK => ?_)
            go_wp2_with fail
            refine (left_any br F tl te wB.drew hRD).mono ?_
            rintro e w' ⟨rfl, rfl⟩
            go_wp2_with fail
            refine hK.out _ _ (.inr hceD) ?_
            refine plan_act rfl (fun K hK => ?_)
            go_wp2_with fail
            refine (rfleft_any bf (blk la) ⟨tl, te⟩ wB.drew hRfD hok).mono ?_
            rintro e w9 ⟨rfl, hU9⟩
            have hR9 := hRD.upd hU9 (fun h => h) (fun _ _ h => h)
            have hRf9 := hRfD.upd hU9 (fun h => h) (fun _ _ h => h)
            have hU49 : Upd (fun i => i = br ∨ i = bf) w4 w9 := (hUB.trans (Upd.drew _ _)).next hU9 (fun i hi h => h.elim)
            go_wp2_with fail
            refine hK.out _ _ (.inr hRf9.err) ?_
            iterate 2
              refine plan_last (v := ?_) rfl rfl (fun w' hS => ?_) ?_
              rotate_left
              · skip
                go_simp; try with_reducible rfl
              simp only [Act.put, List.getElem_toArray, List.getElem_cons_zero, List.getElem_cons_succ, List.setIfInBounds_toArray, List.set_cons_zero, List.set_cons_succ]
            refine plan_end ?_
            go_wp2_with fail
            go_roundw
            case rel => exact ⟨j + 1, by omega, by omega, by first | rfl | go_num, ⟨⟨tl, te⟩, hR9, hRf9, hok⟩, hU49⟩
            case measure => simp [intOf]; omega
    · have hside : (¬ (j : Int) < (zs.length : Int)) ∨ ((j : Int) < (zs.length : Int) ∧ ¬ (j : Int) < 40) := by omega
      have hO5 := ownsRow_upd HO4.out hUx (fun k hk h => by
        simp [own_blk, blk] at hk; omega)
      have hl5 := hl4.upd hUx (fun g hg h => by have := hlb g hg; omega)
      have hU05 : Upd (fun i => w.heap.size ≤ i) w wr := (hU04.mono (fun i _ h => h.elim)).next hUx (fun i hi h => by omega)
      clear hzv5 hlt hzv4 hl4
      rcases hside with hI | ⟨hI, hI2⟩
      all_goals
        go_wp2_with fail
        refine (keptB_any g la lc l 71 wr (by omega) hO5 hl5).mono ?_
        rintro e w6 ⟨rfl, hU6⟩
        go_wp2_with fail
        go_ret
        exact ⟨rfl, (hU05.next hU6 (fun i hi h => h.elim)).fresh.clean⟩
end Go.Proofs.Ytafkcmgfkecljaa
