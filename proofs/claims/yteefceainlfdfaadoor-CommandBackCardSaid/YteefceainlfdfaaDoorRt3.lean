
/- The reference's Take of commands. -/
import Derived.Test.YteefceainlfdfaaDoorRt2
import Derived.Test.YteefceainlfdfaaDoorRc4
import Derived.Deep.CutBlock
import Derived.Deep.DeepCutAuto
namespace Go.Proofs.YteefceainlfdfaaDoor
set_option linter.unusedSimpArgs false
set_option linter.unusedVariables false
set_option maxRecDepth 100000
open Go.ChangeShapes Go.WideShapes Go.ChangeAt Go.RowKit

theorem rf_new0 (w : World) (a : Option Addr) (c : Nat) (l : List UInt8) (hv : Vw w a l.length c 1 (bvs l)) (hl : l.length ≤ 100000) (hb : ∀ b, blk a = some b → b < w.heap.size) :
    Rf (w.alloc (.cells #[.slice a l.length c, .int .i64 0, .int .i64 0] 101)) w.heap.size (blk a) ⟨l, 0⟩ := by
  refine ⟨⟨a, c, l, 0, 0, heap_alloc_new _ _, hv.upd (Upd.alloc (fun _ => False) _ _) (fun _ _ h => h), rfl, by omega, by omega, ?_⟩, fun h => ?_⟩
  · unfold absR; rw [if_pos rfl, List.drop_zero]
  · have := hb _ h; omega
theorem int_odd (s : RS) (h : intV s < 0 ∨ 1000 < intV s) : (takeS 4 s).2.e = 0 := by
  unfold intV at h
  split at h
  · rename_i h1
    unfold takeS
    rw [if_neg (by simp [h1.1]), if_neg (by omega)]
  · omega
theorem textS_len2 (s : RS) : (textS s).2.l.length ≤ s.l.length ∧ (textS s).1.length ≤ s.l.length := by
  have h4 := takeS_len 4 s
  unfold textS
  split
  · exact ⟨h4, Nat.zero_le _⟩
  split
  · exact ⟨by simp, by simp⟩
  · refine ⟨Nat.le_trans (takeS_len _ _) h4, ?_⟩
    have h5 : ∀ (n : Nat) (s : RS), (takeS n s).1.length ≤ s.l.length := fun n s => by
      unfold takeS
      split
      · simp
      split
      · simp
      · simp; omega
    exact Nat.le_trans (h5 _ _) h4
theorem boolS_len2 (s : RS) : (boolS s).2.l.length ≤ s.l.length := by
  unfold boolS
  split
  · simp
  · exact takeS_len 1 s
theorem chgsS_len : ∀ (n : Nat) (s : RS), (chgsS n s).2.l.length ≤ s.l.length
  | 0, s => Nat.le_refl _
  | n + 1, s => by
    rw [chgsS]
    split
    · exact Nat.le_refl _
    · have h1 := (textS_len2 s).1
      have h2 := boolS_len2 (textS s).2
      have h3 := boolS_len2 (boolS (textS s).2).2
      have h4 := (textS_len2 (boolS (boolS (textS s).2).2).2).1
      have h5 := chgsS_len n (chgS s).2
      have h6 : (chgS s).2 = (textS (boolS (boolS (textS s).2).2).2).2 := rfl
      rw [← h6] at h4
      exact Nat.le_trans h5 (by omega)
theorem txtsS_len : ∀ (n : Nat) (s : RS), (txtsS n s).2.l.length ≤ s.l.length
  | 0, s => Nat.le_refl _
  | n + 1, s => by
    rw [txtsS]
    split
    · exact Nat.le_refl _
    · exact Nat.le_trans (txtsS_len n (textS s).2) (textS_len2 s).1
theorem tk_lens (l : List UInt8) : (tkK l).2.l.length ≤ l.length ∧ (tkM l).2.l.length ≤ l.length ∧ (tkN l).2.l.length ≤ l.length ∧ (tkCh l).2.l.length ≤ l.length ∧ (tkP l).2.l.length ≤ l.length ∧ (tkPs l).2.l.length ≤ l.length ∧
    (tk7 l).2.l.length ≤ l.length ∧ (tk8 l).2.l.length ≤ l.length ∧ (tk9 l).2.l.length ≤ l.length ∧ (tkNm l).2.l.length ≤ l.length ∧ (tkNm l).1.length ≤ l.length := by
  have k1 : (tkK l).2.l.length ≤ l.length := takeS_len 1 ⟨l, 0⟩
  have k2 : (tkM l).2.l.length ≤ (tkK l).2.l.length := (textS_len2 _).1
  have k3 : (tkN l).2.l.length ≤ (tkM l).2.l.length := takeS_len 4 _
  have k4 : (tkCh l).2.l.length ≤ (tkN l).2.l.length := chgsS_len _ _
  have k5 : (tkP l).2.l.length ≤ (tkCh l).2.l.length := takeS_len 4 _
  have k6 : (tkPs l).2.l.length ≤ (tkP l).2.l.length := txtsS_len _ _
  have k7 : (tk7 l).2.l.length ≤ (tkPs l).2.l.length := takeS_len 4 _
  have k8 : (tk8 l).2.l.length ≤ (tk7 l).2.l.length := takeS_len 4 _
  have k9 : (tk9 l).2.l.length ≤ (tk8 l).2.l.length := takeS_len 4 _
  have k10 : (tkNm l).2.l.length ≤ (tk9 l).2.l.length ∧ (tkNm l).1.length ≤ (tk9 l).2.l.length := textS_len2 _
  omega
/-- In the middle of the reference's Take. -/
structure RMid (w : World) (br BC B2 : Nat) (F : Option Nat) (s : RS) (c : Cmd) (a1 : Option Addr) (c1 : Nat) (a2 : Option Addr) (c2 : Nat) (wk : World) : Prop where
  rd : Rf wk br F s
  cb : CB wk BC c a1 c1 a2 c2
  res : wk.heap[B2]? = some (.cells (cmdA cmdZ none 0 none 0) 25)
  upd : Upd (fun _ => False) w wk
  n1 : br < BC
  n2 : B2 < br
  n3 : w.heap.size ≤ B2
  n4 : ∀ g, F = some g → g < B2
section
variable {w : World} {br BC B2 : Nat} {F : Option Nat} {s s' : RS} {c c' : Cmd} {a1 a2 a3 a4 : Option Addr} {c1 c2 c3 c4 : Nat} {wk w' : World}
theorem RMid.read (h : RMid w br BC B2 F s c a1 c1 a2 c2 wk) (hR : Rf w' br F s') (hU : Upd (fun k => k = br) wk w') : RMid w br BC B2 F s' c a1 c1 a2 c2 w' := by
  have h1 := h.n1; have h2 := h.n2; have h3 := h.n3
  exact ⟨hR, h.cb.keep hU (fun k e => by omega), (hU.block B2 (lt_of_heap h.res) (by omega)).trans h.res, h.upd.next hU (fun i hi e => by omega), h1, h2, h3, h.n4⟩
theorem RMid.wr (h : RMid w br BC B2 F s c a1 c1 a2 c2 wk) (hc : CB w' BC c' a3 c3 a4 c4) (hU : Upd (fun k => BC ≤ k) wk w') : RMid w br BC B2 F s c' a3 c3 a4 c4 w' := by
  have h1 := h.n1; have h2 := h.n2; have h3 := h.n3
  exact ⟨h.rd.upd hU (by omega) (fun g hg e => by have := h.n4 g hg; omega), hc, (hU.block B2 (lt_of_heap h.res) (by omega)).trans h.res, h.upd.next hU (fun i hi e => by omega), h1, h2, h3, h.n4⟩
theorem RMid.same (h : RMid w br BC B2 F s c a1 c1 a2 c2 wk) (hU : Upd (fun _ => False) wk w') : RMid w br BC B2 F s c a1 c1 a2 c2 w' :=
  ⟨h.rd.upd hU (fun h => h) (fun _ _ h => h), h.cb.keep hU (fun k e => e.elim), (hU.block B2 (lt_of_heap h.res) (fun h => h)).trans h.res, h.upd.trans hU, h.n1, h.n2, h.n3, h.n4⟩
/-- It ends well. -/
theorem RMid.good (h : RMid w br BC B2 F s c a1 c1 a2 c2 wk) {l : List UInt8} (hE : takeE l = 0) (hC : takeC l = c) :
    TookCmd w (takeC l) (takeE l) (.returned (.tuple #[cmdV c a1 c1 a2 c2, .int .i64 0])) (wk.setRow B2 (cmdA c a1 c1 a2 c2)) := by
  have h1 := h.n1; have h2 := h.n2; have h3 := h.n3
  have hU := Upd.setRow (S := fun k => k = B2) wk rfl (cmdA c a1 c1 a2 c2)
  rw [hE, hC]
  exact ⟨a1, c1, a2, c2, rfl, (h.cb.keep hU (fun k e => by omega)).inn, h.upd.next hU (fun i hi e => by omega), (fun g e => by have := h.cb.f1 g e; omega), (fun g e => by have := h.cb.f2 g e; omega)⟩
/-- It ends with an error. -/
theorem RMid.fin (h : RMid w br BC B2 F s c a1 c1 a2 c2 wk) {l : List UInt8} {e0 : Int} (hE : takeE l = e0) (hC : takeC l = cmdZ) :
    TookCmd w (takeC l) (takeE l) (.returned (.tuple #[cmdV cmdZ none 0 none 0, .int .i64 e0])) (wk.setRow B2 (cmdA cmdZ none 0 none 0)) := by
  have h3 := h.n3
  rw [hE, hC]
  exact ⟨none, 0, none, 0, rfl, ⟨Vw.nl _ _, Vw.nl _ _⟩, h.upd.next (Upd.setRow (S := fun k => k = B2) _ rfl _) (fun i hi e => by omega), (fun g e => by cases e), (fun g e => by cases e)⟩
theorem RMid.drew (h : RMid w br BC B2 F s c a1 c1 a2 c2 wk) : RMid w br BC B2 F s c a1 c1 a2 c2 wk.drew := h.same (Upd.drew _ _)
end

set_option maxHeartbeats 16000000 in
theorem r25Take_any (a : Option Addr) (c : Nat) (l : List UInt8) (w : World) (hv : Vw w a l.length c 1 (bvs l)) (hl : l.length ≤ 100000) (hb : ∀ b, blk a = some b → b < w.heap.size) :
    Calls Tryd.prog 29 #[.slice a l.length c] w (TookCmd w (takeC l) (takeE l)) := by
  obtain ⟨B2, hB2⟩ : ∃ B, B = w.heap.size := ⟨_, rfl⟩
  obtain ⟨F, hF⟩ : ∃ F, F = blk a := ⟨_, rfl⟩
  have hUz := Upd.alloc (fun _ => False) w (.cells (cmdA cmdZ none 0 none 0) 25)
  have hrz := heap_alloc_new w (.cells (cmdA cmdZ none 0 none 0) 25)
  have hzz : (w.alloc (.cells (cmdA cmdZ none 0 none 0) 25)).heap.size = w.heap.size + 1 := by simp
  have hRn := rf_new0 (w.alloc (.cells (cmdA cmdZ none 0 none 0) 25)) a c l (hv.upd hUz (fun _ _ h => h)) hl (fun b h => by have := hb b h; omega)
  have hUn := Upd.alloc (fun _ => False) (w.alloc (.cells (cmdA cmdZ none 0 none 0) 25)) (.cells #[.slice a l.length c, .int .i64 0, .int .i64 0] 101)
  have hrz2 := (hUn.block _ (lt_of_heap hrz) (fun h => h)).trans hrz
  rw [hzz] at hRn
  rw [← hF, ← hB2] at hRn
  rw [← hB2] at hrz2
  have HV := Lib.hid hv
  have HB : Hid (B2 = w.heap.size ∧ (∀ g, F = some g → g < B2)) := Lib.hid ⟨hB2, fun g h => by rw [hB2]; exact hb g (hF ▸ h)⟩
  have HI := Lib.hid (And.intro hRn (And.intro hrz2 (hUz.trans hUn)))
  clear hv hUz hrz hRn hUn hrz2 hb hzz hF
  unfold cmdA sv cmdZ at HI
  dsimp only [List.length_nil] at HI
  rw [show str [] = (⟨#[]⟩ : ByteArray) from rfl] at HI
  go_enter Tryd.func29, Tryd.ntmps29
  go_upto_region 2 with (fail)
  rw [← hB2]
  generalize (w.alloc (.cells #[.int .i64 0, .string ⟨#[]⟩, .slice none 0 0, .slice none 0 0, .int .i64 0, .int .i64 0, .int .i64 0, .string ⟨#[]⟩] 25)).alloc (.cells #[.slice a l.length c, .int .i64 0, .int .i64 0] 101) = y1 at *
  obtain ⟨br, hbr⟩ : ∃ b, b = B2 + 1 := ⟨_, rfl⟩
  rw [← hbr] at HI ⊢
  have HBR := Lib.hid hbr
  clear hB2 hbr
  go_wp2_with fail
  refine (rfnum_any br F ⟨l, 0⟩ 1 y1 HI.out.1).mono ?_
  unfold RfRead
  rintro e w2 ⟨rfl, hR, hU⟩
  rw [show heldN 1 = 1 from rfl] at hR ⊢
  have hk1 : (takeS 1 ⟨l, 0⟩).1.length ≤ 1 := by
    unfold takeS
    split
    · simp
    split
    · simp
    · simp; omega
  have hk2 := leN_lt (takeS 1 ⟨l, 0⟩).1
  have hk3 : 256 ^ (takeS 1 ⟨l, 0⟩).1.length ≤ 256 ^ 1 := Nat.pow_le_pow_right (by decide) hk1
  have hk4 : leN (takeS 1 ⟨l, 0⟩).1 < 256 := by omega
  have hcv : IntKind.i64.wrap ((leN (takeS 1 ⟨l, 0⟩).1 : Nat) : Int) = ((leN (takeS 1 ⟨l, 0⟩).1 : Nat) : Int) := IntWalk.i64_in _ (by omega)
  have HI2 := Lib.hid (And.intro hR (And.intro ((hU.block B2 (lt_of_heap HI.out.2.1) (by have := HBR.out; omega)).trans HI.out.2.1) (HI.out.2.2.next hU (fun i hi e => by have := HBR.out; have := HB.out.1; omega))))
  have hKS : takeS 1 ⟨l, 0⟩ = tkK l := rfl
  rw [hKS] at HI2 hcv ⊢
  clear hR hU hk1 hk2 hk3 hk4 hKS HI
  go_wp2_with fail
  refine (rftext_any br F (tkK l).2 w2 HI2.out.1).mono ?_
  unfold RfRead
  rintro e w3 ⟨rfl, hR, hU⟩
  have hMS : textS (tkK l).2 = tkM l := rfl
  rw [hMS] at hR ⊢
  have hcm : cmdA ⟨(leN (tkK l).1 : Nat), (tkM l).1, [], [], 0, 0, 0, []⟩ none 0 none 0 = #[.int .i64 (leN (tkK l).1 : Nat), .string (str (tkM l).1), .slice none 0 0, .slice none 0 0, .int .i64 0, .int .i64 0, .int .i64 0, .string ⟨#[]⟩] := rfl
  have hUc := Upd.alloc (fun _ => False) w3 (.cells (cmdA ⟨(leN (tkK l).1 : Nat), (tkM l).1, [], [], 0, 0, 0, []⟩ none 0 none 0) 25)
  have hres3 := (hU.block B2 (lt_of_heap HI2.out.2.1) (by have := HBR.out; omega)).trans HI2.out.2.1
  have hM : RMid w br w3.heap.size B2 F (tkM l).2 ⟨(leN (tkK l).1 : Nat), (tkM l).1, [], [], 0, 0, 0, []⟩ none 0 none 0 (w3.alloc (.cells (cmdA ⟨(leN (tkK l).1 : Nat), (tkM l).1, [], [], 0, 0, 0, []⟩ none 0 none 0) 25)) := by
    have hbl := lt_of_heap hres3
    have hbr3 : br < w3.heap.size := by
      obtain ⟨⟨a9, c9, l9, p9, e9, hh, _⟩, _⟩ := hR
      exact lt_of_heap hh
    refine ⟨hR.upd hUc (fun h => h) (fun _ _ h => h), ⟨heap_alloc_new _ _, World.ownsRow_nil _ _ _ _, World.ownsRow_nil _ _ _ _, (fun g h => by cases h), (fun g h => by cases h), (fun g h => by cases h)⟩, (hUc.block B2 hbl (fun h => h)).trans hres3,
      (HI2.out.2.2.next hU (fun i hi e => by have := HBR.out; have := HB.out.1; omega)).trans hUc, hbr3, by have := HBR.out; omega, by have := HB.out.1; omega, HB.out.2⟩
  rw [hcm] at hM
  have HM := Lib.hid hM
  clear hR hU hMS hcm hUc hres3 hM HI2
  go_upto_region 3 with (fail)
  generalize w3.alloc (.cells #[.int .i64 (leN (tkK l).1 : Nat), .string (str (tkM l).1), .slice none 0 0, .slice none 0 0, .int .i64 0, .int .i64 0, .int .i64 0, .string ⟨#[]⟩] 25) = y2 at *
  obtain ⟨BC, hBC⟩ : ∃ b, b = w3.heap.size := ⟨_, rfl⟩
  rw [← hBC] at HM ⊢
  clear hBC
  obtain ⟨kk, hkk⟩ : ∃ x : Int, x = (leN (tkK l).1 : Nat) := ⟨_, rfl⟩
  have HKK := Lib.hid hkk
  rw [← hkk] at HM ⊢
  clear hkk hcv
  go_wp2_with fail
  refine (rfint_any br F (tkM l).2 y2 HM.out.rd).mono ?_
  unfold RfRead
  rintro e v3 ⟨rfl, hR, hU⟩
  have HM3 := Lib.hid (HM.out.read hR hU)
  have HOD : Hid ((intV (tkM l).2 < 0 ∨ 1000 < intV (tkM l).2) → (takeS 4 (tkM l).2).2.e = 0) := Lib.hid (int_odd _)
  have hd0 : takeE l = if oddS (tkN l).1 (tkN l).2 then 5 else if oddS (tkP l).1 (tkP l).2 then 5 else endC (tkNm l).2.e (rightL (tkC l)) (packL (tkC l)) l := rfl
  have hch : tkCh l = chgsS (tkN l).1.toNat (tkN l).2 := rfl
  rw [show (takeS 4 (tkM l).2).2 = (tkN l).2 from rfl] at HM3
  rw [show intV (tkM l).2 = (tkN l).1 from rfl, show (takeS 4 (tkM l).2).2 = (tkN l).2 from rfl] at HOD
  rw [show intV (tkM l).2 = (tkN l).1 from rfl]
  have HO5 : Hid (oddS (tkN l).1 (tkN l).2 = true → takeE l = 5) := Lib.hid (fun h => by rw [hd0, if_pos h])
  have HO0 : Hid (oddS (tkN l).1 (tkN l).2 = false → takeE l = _) := Lib.hid (fun h => by rw [hd0, if_neg (by simp [h])])
  have HCH := Lib.hid hch
  clear hR hU HM hd0 hch
  generalize (tkN l).1 = n at *
  generalize (tkN l).2 = s3 at *
  by_cases ho : n < 0 ∨ 1000 < n
  · have hz : s3.e = 0 := HOD.out ho
    have hq := HM3.out.rd.err
    rw [hz] at hq
    have HRR : Hid (takeE l = 5 ∧ takeC l = cmdZ) := Lib.hid (by
      have h1 : takeE l = 5 := HO5.out (by unfold oddS; rw [hz]; simpa using ho)
      exact ⟨h1, by unfold takeC; rw [h1, if_pos (by decide)]⟩)
    clear hz HOD HO5
    rcases ho with ho | ho
    · have ho2 : decide (0 < n) = false := by rw [decide_eq_false_iff_not]; omega
      go_wp2_with fail
      go_loopw [8] (fun i wr => i = .int .i64 0 ∧ wr = v3) (fun _ _ => 0)
      case atStart => exact ⟨rfl, rfl⟩
      case round =>
        obtain ⟨rfl, rfl⟩ := hrel
        go_wp2_with (refine wpList_store_row rfl 25 (.tmp 2) (.tmp 67) rfl B2 (cmdA cmdZ none 0 none 0) _ 25 rfl rfl HM3.out.res (infoCmd2 _ _ _ _ _) rfl (cmdA_one _ _ _ _ _) ?_)
        refine ret_cmd rfl B2 cmdZ none 0 none 0 5 rfl (setRow_heap _ _ _ _ _ _ HM3.out.res) rfl rfl ?_
        exact HM3.out.fin HRR.out.1 HRR.out.2
    · have ho1 : decide (n < 0) = false := by rw [decide_eq_false_iff_not]; omega
      have ho2 : decide (0 < n) = true := by rw [decide_eq_true_eq]; omega
      go_wp2_with fail
      go_loopw [8] (fun i wr => i = .int .i64 0 ∧ wr = v3) (fun _ _ => 0)
      case atStart => exact ⟨rfl, rfl⟩
      case round =>
        obtain ⟨rfl, rfl⟩ := hrel
        go_wp2_with (refine wpList_store_row rfl 25 (.tmp 2) (.tmp 67) rfl B2 (cmdA cmdZ none 0 none 0) _ 25 rfl rfl HM3.out.res (infoCmd2 _ _ _ _ _) rfl (cmdA_one _ _ _ _ _) ?_)
        refine ret_cmd rfl B2 cmdZ none 0 none 0 5 rfl (setRow_heap _ _ _ _ _ _ HM3.out.res) rfl rfl ?_
        exact HM3.out.fin HRR.out.1 HRR.out.2
  have hn1 : decide (n < 0) = false := by rw [decide_eq_false_iff_not]; omega
  have hn2 : decide (1000 < n) = false := by rw [decide_eq_false_iff_not]; omega
  have HE1 := Lib.hid (HO0.out (by unfold oddS; rw [hn1, hn2]; simp))
  obtain ⟨n0, rfl⟩ := Int.eq_ofNat_of_zero_le (show 0 ≤ n by omega)
  have hn0 : n0 ≤ 1000 := by omega
  rw [Int.toNat_natCast] at HCH
  clear HOD HO5 HO0 ho
  go_upto_block 0 with (fail)
  go_cut [] (fun wx => ∃ ar cr, Hid (RMid w br BC B2 F (tkCh l).2 ⟨kk, (tkM l).1, (tkCh l).1, [], 0, 0, 0, []⟩ ar cr none 0 wx))
  case first =>
    go_wp2_with fail
    go_loopw [8] (fun i wr => ∃ (j : Nat) (L : List Chg) (ar : Option Addr) (cr : Nat) (sj : RS), Hid (chgsS n0 s3 = (L ++ (chgsS (n0 - j) sj).1, (chgsS (n0 - j) sj).2)) ∧ j ≤ n0 ∧ Hid (L.length = j) ∧ i = .int .i64 (j : Int) ∧
        Hid (RMid w br BC B2 F sj ⟨kk, (tkM l).1, L, [], 0, 0, 0, []⟩ ar cr none 0 wr)) (fun i _ => n0 - (intOf i).toNat)
    case atStart => exact ⟨0, [], none, 0, s3, Lib.hid rfl, Nat.zero_le _, Lib.hid rfl, rfl, HM3⟩
    case round =>
      clear HM3
      obtain ⟨j, L, ar, cr, sj, HT, hj, hLj, rfl, HI⟩ := hrel
      have hq := HI.out.rd.err
      by_cases hlt : j < n0
      case neg =>
        obtain rfl : j = n0 := by omega
        have hI : decide ((j : Int) < (j : Int)) = false := by rw [decide_eq_false_iff_not]; omega
        have HTT : Hid (tkCh l = (L, sj)) := Lib.hid (by rw [HCH.out, HT.out, Nat.sub_self]; simp [chgsS])
        clear HT hlt
        go_wp2_with fail
        go_meet
        case rel => exact ⟨ar, cr, by rw [HTT.out]; exact HI⟩
      case pos =>
        have hI : (j : Int) < (n0 : Int) := by omega
        by_cases he : sj.e = 0
        case neg =>
          have hbe : (sj.e == 0) = false := by simpa using he
          have HTT : Hid (tkCh l = (L, sj)) := Lib.hid (by rw [HCH.out, HT.out, chgsS_stop _ _ he]; simp)
          clear HT hlt he
          go_wp2_with fail
          go_meet
          case rel => exact ⟨ar, cr, by rw [HTT.out]; exact HI⟩
        case pos =>
          rw [he] at hq
          have hs1 : chgsS (n0 - j) sj = ((chgS sj).1 :: (chgsS (n0 - (j + 1)) (chgS sj).2).1, (chgsS (n0 - (j + 1)) (chgS sj).2).2) := by
            rw [show n0 - j = (n0 - (j + 1)) + 1 from by omega, chgsS, if_neg (by simpa using he)]
          have HS1 := Lib.hid hs1
          have HQ := Lib.hid HI.out.cb.cells.2.2.1
          clear hs1 he
          go_upto_region 8 with (fail)
          clear hq
          refine wp_region_plan_last [([0, 1, 2, 4, 6, 8], 3), ([], 5), ([], 7), ([], 9), ([10], 11), ([], 12), ([13], 14)] [] (fun w' => w'.cell? ⟨BC, 2, none⟩ = some (.slice ar L.length cr)) (by kernel_rfl) (by kernel_rfl) HQ.out ?_
          iterate 6
            refine plan_take (v := ?_) rfl rfl (fun w' hS => ?_) ?_
            rotate_left
            · skip
              go_simp; try with_reducible rfl
            simp only [Act.put, List.getElem_toArray, List.getElem_cons_zero, List.getElem_cons_succ, List.setIfInBounds_toArray, List.set_cons_zero, List.set_cons_succ]
          clear HQ
          refine plan_act rfl (fun K3 hK3 => ?_)
          go_wp2_with fail
          refine (rftext_any br F sj _ HI.out.drew.rd).mono ?_
          unfold RfRead
          rintro e u4 ⟨rfl, hR, hU⟩
          have HN4 := Lib.hid (HI.out.drew.read hR hU)
          have HQ := Lib.hid HN4.out.cb.cells.2.2.1
          clear hR hU
          go_wp2_with fail
          refine hK3.out _ _ (.inr HQ.out) ?_
          clear HQ
          refine plan_act rfl (fun K5 hK5 => ?_)
          go_wp2_with fail
          refine (rfbool_any br F (textS sj).2 _ HN4.out.rd).mono ?_
          unfold RfRead
          rintro e u5 ⟨rfl, hR, hU⟩
          have HN5 := Lib.hid (HN4.out.read hR hU)
          have HQ := Lib.hid HN5.out.cb.cells.2.2.1
          clear hR hU
          go_wp2_with fail
          refine hK5.out _ _ (.inr HQ.out) ?_
          clear HQ
          refine plan_act rfl (fun K7 hK7 => ?_)
          go_wp2_with fail
          refine (rfbool_any br F (boolS (textS sj).2).2 _ HN5.out.rd).mono ?_
          unfold RfRead
          rintro e u6 ⟨rfl, hR, hU⟩
          have HN6 := Lib.hid (HN5.out.read hR hU)
          have HQ := Lib.hid HN6.out.cb.cells.2.2.1
          clear hR hU
          go_wp2_with fail
          refine hK7.out _ _ (.inr HQ.out) ?_
          clear HQ
          refine plan_act rfl (fun K9 hK9 => ?_)
          go_wp2_with fail
          refine (rftext_any br F (boolS (boolS (textS sj).2).2).2 _ HN6.out.rd).mono ?_
          unfold RfRead
          rintro e u7 ⟨rfl, hR, hU⟩
          have HN7 := Lib.hid (HN6.out.read hR hU)
          clear hR hU
          obtain ⟨x, s2, hx0, hx1, hx2, hx3, hx4, hx5⟩ := chgS_at sj
          rw [hx5] at HN7
          rw [hx1, hx2, hx3, hx4]
          rw [hx0] at HS1
          dsimp only at HS1
          clear hx0 hx1 hx2 hx3 hx4 hx5 HN4 HN5 HN6
          have HQ := Lib.hid HN7.out.cb.cells.2.2.1
          go_wp2_with fail
          refine hK9.out _ _ (.inr HQ.out) ?_
          clear HQ
          try simp only [Act.put, List.getElem_toArray, List.getElem_cons_zero, List.getElem_cons_succ, List.setIfInBounds_toArray, List.set_cons_zero, List.set_cons_succ]
          refine plan_take (v := .agg (chA x)) rfl rfl (fun w' hS => exec_build_ch (.tmp 48) (.tmp 50) (.tmp 52) (.tmp 54) rfl x rfl rfl rfl rfl) ?_
          try simp only [Act.put, List.getElem_toArray, List.getElem_cons_zero, List.getElem_cons_succ, List.setIfInBounds_toArray, List.set_cons_zero, List.set_cons_succ]
          refine plan_act rfl (fun K11 hK11 => ?_)
          refine wpList_slice_ch rfl (.tmp 55) rfl x rfl ?_
          have hUb := Upd.alloc (fun _ => False) u7 (.cells (chA x) 30)
          have hsrc : Src Tryd.prog 4 22 (.slice (some ⟨u7.heap.size, 0, none⟩) 1 1) 1 (chV x) (u7.alloc (.cells (chA x) 30)) := one_row Tryd.underlying22 (chA_size x) (chA_one x) (heap_alloc_new u7 (.cells (chA x) 30))
          have hownx := ownsRow_upd HN7.out.cb.ch hUb (fun _ _ h => h)
          have hq7 := (HN7.out.same hUb).cb.cells.2.2.1
          go_wp2_with fail
          refine hK11.out _ _ (.inr hq7) ?_
          refine plan_act rfl (fun K12 hK12 => ?_)
          obtain ⟨i0, hi, hz0, hz1, hz2⟩ := info_parts2 infoChZ
          try simp only [Act.put, List.getElem_toArray, List.getElem_cons_zero, List.getElem_cons_succ, List.setIfInBounds_toArray, List.set_cons_zero, List.set_cons_succ]
          have hLj' := hLj.out
          refine wpList_app _ rfl (.tmp 46) (.tmp 56) 22 22 rfl 30 i0 (.agg (chA chZ)) 4 40 Tryd.underlying22 hi hz0 hz1 hz2 (chA_size chZ) ar L.length cr (L.flatMap chV) rfl hownx (.slice (some ⟨u7.heap.size, 0, none⟩) 1 1) 1 (chV x) rfl hsrc ?_ ?_ ?_
          · unfold maxLen; omega
          · omega
          clear hi hz0 hz1 hz2
          intro a8 c8 w8 hown8 hg8 hat8 hnil8
          obtain ⟨hcb, hUp, hq8, hf8⟩ := HN7.out.cb.addCh x hown8 hg8 hat8
          have hln : (L ++ [x]).length = L.length + 1 := by simp
          have HM8 := Lib.hid (HN7.out.wr hcb hUp)
          dsimp only at HM8 hq8
          clear hown8 hg8 hat8 hnil8 hcb hUp hownx hsrc hUb hq7
          rw [hLj'] at HM8
          go_wp2_with fail
          refine hK12.out _ _ (.inr hq8) ?_
          try simp only [Act.put, List.getElem_toArray, List.getElem_cons_zero, List.getElem_cons_succ, List.setIfInBounds_toArray, List.set_cons_zero, List.set_cons_succ]
          iterate 1
            refine plan_take (v := ?_) rfl rfl (fun w' hS => ?_) ?_
            rotate_left
            · skip
              go_simp; try with_reducible rfl
            simp only [Act.put, List.getElem_toArray, List.getElem_cons_zero, List.getElem_cons_succ, List.setIfInBounds_toArray, List.set_cons_zero, List.set_cons_succ]
          refine plan_act rfl (fun K14 hK14 => ?_)
          go_wp2_with fail
          refine hK14.out _ _ (.inl rfl) ?_
          refine plan_end ?_
          clear hq8 hf8
          have HT8 : Hid (chgsS n0 s3 = ((L ++ [x]) ++ (chgsS (n0 - (j + 1)) s2).1, (chgsS (n0 - (j + 1)) s2).2)) := Lib.hid (by rw [HT.out, HS1.out]; simp)
          have hLm8 : (L ++ [x]).length = j + 1 := by rw [hln, hLj']
          clear HT HS1 HI HN7
          go_wp2_with fail
          go_roundw
          case rel => exact ⟨j + 1, L ++ [x], a8, c8, s2, HT8, by omega, Lib.hid hLm8, by first | rfl | go_num, HM8⟩
          case measure => simp [intOf]; omega
  case rest =>
    obtain ⟨ar, cr, HM4⟩ := hcut
    clear HM3 HCH hn1 hn2 hn0
    go_wp2_with fail
    refine (rfint_any br F (tkCh l).2 wc HM4.out.rd).mono ?_
    unfold RfRead
    rintro e v4 ⟨rfl, hR, hU⟩
    have HM5 := Lib.hid (HM4.out.read hR hU)
    have HOD : Hid ((intV (tkCh l).2 < 0 ∨ 1000 < intV (tkCh l).2) → (takeS 4 (tkCh l).2).2.e = 0) := Lib.hid (int_odd _)
    have hch : tkPs l = txtsS (tkP l).1.toNat (tkP l).2 := rfl
    rw [show (takeS 4 (tkCh l).2).2 = (tkP l).2 from rfl] at HM5
    rw [show intV (tkCh l).2 = (tkP l).1 from rfl, show (takeS 4 (tkCh l).2).2 = (tkP l).2 from rfl] at HOD
    rw [show intV (tkCh l).2 = (tkP l).1 from rfl]
    have HO5 : Hid (oddS (tkP l).1 (tkP l).2 = true → takeE l = 5) := Lib.hid (fun h => by rw [HE1.out, if_pos h])
    have HO0 : Hid (oddS (tkP l).1 (tkP l).2 = false → takeE l = _) := Lib.hid (fun h => by rw [HE1.out, if_neg (by simp [h])])
    have HCH := Lib.hid hch
    clear hR hU HM4 hch HE1
    generalize (tkP l).1 = n at *
    generalize (tkP l).2 = s5 at *
    by_cases ho : n < 0 ∨ 1000 < n
    · have hz : s5.e = 0 := HOD.out ho
      have hq := HM5.out.rd.err
      rw [hz] at hq
      have HRR : Hid (takeE l = 5 ∧ takeC l = cmdZ) := Lib.hid (by
        have h1 : takeE l = 5 := HO5.out (by unfold oddS; rw [hz]; simpa using ho)
        exact ⟨h1, by unfold takeC; rw [h1, if_pos (by decide)]⟩)
      clear hz HOD HO5
      rcases ho with ho | ho
      · have ho2 : decide (0 < n) = false := by rw [decide_eq_false_iff_not]; omega
        go_wp2_with fail
        go_loopw [9] (fun i wr => i = .int .i64 0 ∧ wr = v4) (fun _ _ => 0)
        case atStart => exact ⟨rfl, rfl⟩
        case round =>
          obtain ⟨rfl, rfl⟩ := hrel
          go_wp2_with (refine wpList_store_row rfl 25 (.tmp 2) (.tmp 107) rfl B2 (cmdA cmdZ none 0 none 0) _ 25 rfl rfl HM5.out.res (infoCmd2 _ _ _ _ _) rfl (cmdA_one _ _ _ _ _) ?_)
          refine ret_cmd rfl B2 cmdZ none 0 none 0 5 rfl (setRow_heap _ _ _ _ _ _ HM5.out.res) rfl rfl ?_
          exact HM5.out.fin HRR.out.1 HRR.out.2
      · have ho1 : decide (n < 0) = false := by rw [decide_eq_false_iff_not]; omega
        have ho2 : decide (0 < n) = true := by rw [decide_eq_true_eq]; omega
        go_wp2_with fail
        go_loopw [9] (fun i wr => i = .int .i64 0 ∧ wr = v4) (fun _ _ => 0)
        case atStart => exact ⟨rfl, rfl⟩
        case round =>
          obtain ⟨rfl, rfl⟩ := hrel
          go_wp2_with (refine wpList_store_row rfl 25 (.tmp 2) (.tmp 107) rfl B2 (cmdA cmdZ none 0 none 0) _ 25 rfl rfl HM5.out.res (infoCmd2 _ _ _ _ _) rfl (cmdA_one _ _ _ _ _) ?_)
          refine ret_cmd rfl B2 cmdZ none 0 none 0 5 rfl (setRow_heap _ _ _ _ _ _ HM5.out.res) rfl rfl ?_
          exact HM5.out.fin HRR.out.1 HRR.out.2
    have hn1 : decide (n < 0) = false := by rw [decide_eq_false_iff_not]; omega
    have hn2 : decide (1000 < n) = false := by rw [decide_eq_false_iff_not]; omega
    have HE2 := Lib.hid (HO0.out (by unfold oddS; rw [hn1, hn2]; simp))
    obtain ⟨m0, rfl⟩ := Int.eq_ofNat_of_zero_le (show 0 ≤ n by omega)
    have hn0 : m0 ≤ 1000 := by omega
    rw [Int.toNat_natCast] at HCH
    clear HOD HO5 HO0 ho
    go_upto_block 2 with (fail)
    go_cut [] (fun wx => ∃ ar2 cr2, Hid (RMid w br BC B2 F (tkPs l).2 ⟨kk, (tkM l).1, (tkCh l).1, (tkPs l).1, 0, 0, 0, []⟩ ar cr ar2 cr2 wx))
    case first =>
      go_wp2_with fail
      go_loopw [9] (fun i wr => ∃ (j : Nat) (L : List (List UInt8)) (ar2 : Option Addr) (cr2 : Nat) (sj : RS), Hid (txtsS m0 s5 = (L ++ (txtsS (m0 - j) sj).1, (txtsS (m0 - j) sj).2)) ∧ j ≤ m0 ∧ Hid (L.length = j) ∧ i = .int .i64 (j : Int) ∧
          Hid (RMid w br BC B2 F sj ⟨kk, (tkM l).1, (tkCh l).1, L, 0, 0, 0, []⟩ ar cr ar2 cr2 wr)) (fun i _ => m0 - (intOf i).toNat)
      case atStart => exact ⟨0, [], none, 0, s5, Lib.hid rfl, Nat.zero_le _, Lib.hid rfl, rfl, HM5⟩
      case round =>
        clear HM5
        obtain ⟨j, L, ar2, cr2, sj, HT, hj, hLj, rfl, HI⟩ := hrel
        have hq := HI.out.rd.err
        by_cases hlt : j < m0
        case neg =>
          obtain rfl : j = m0 := by omega
          have hI : decide ((j : Int) < (j : Int)) = false := by rw [decide_eq_false_iff_not]; omega
          have HTT : Hid (tkPs l = (L, sj)) := Lib.hid (by rw [HCH.out, HT.out, Nat.sub_self]; simp [txtsS])
          clear HT hlt
          go_wp2_with fail
          go_meet
          case rel => exact ⟨ar2, cr2, by rw [HTT.out]; exact HI⟩
        case pos =>
          have hI : (j : Int) < (m0 : Int) := by omega
          by_cases he : sj.e = 0
          case neg =>
            have hbe : (sj.e == 0) = false := by simpa using he
            have HTT : Hid (tkPs l = (L, sj)) := Lib.hid (by rw [HCH.out, HT.out, txtsS_stop _ _ he]; simp)
            clear HT hlt he
            go_wp2_with fail
            go_meet
            case rel => exact ⟨ar2, cr2, by rw [HTT.out]; exact HI⟩
          case pos =>
            rw [he] at hq
            have hs1 : txtsS (m0 - j) sj = ((textS sj).1 :: (txtsS (m0 - (j + 1)) (textS sj).2).1, (txtsS (m0 - (j + 1)) (textS sj).2).2) := by
              rw [show m0 - j = (m0 - (j + 1)) + 1 from by omega, txtsS, if_neg (by simpa using he)]
            have HS1 := Lib.hid hs1
            have HQ := Lib.hid HI.out.cb.cells.2.2.2.1
            clear hs1 he
            go_upto_region 16 with (fail)
            clear hq
            refine wp_region_plan_last [([0, 1, 2], 3), ([], 4), ([], 5), ([6], 7)] [] (fun w' => w'.cell? ⟨BC, 3, none⟩ = some (.slice ar2 L.length cr2)) (by kernel_rfl) (by kernel_rfl) HQ.out ?_
            iterate 3
              refine plan_take (v := ?_) rfl rfl (fun w' hS => ?_) ?_
              rotate_left
              · skip
                go_simp; try with_reducible rfl
              simp only [Act.put, List.getElem_toArray, List.getElem_cons_zero, List.getElem_cons_succ, List.setIfInBounds_toArray, List.set_cons_zero, List.set_cons_succ]
            clear HQ
            refine plan_act rfl (fun K9 hK9 => ?_)
            go_wp2_with fail
            refine (rftext_any br F sj _ HI.out.drew.rd).mono ?_
            unfold RfRead
            rintro e u7 ⟨rfl, hR, hU⟩
            have HN7 := Lib.hid (HI.out.drew.read hR hU)
            clear hR hU
            obtain ⟨x, hx⟩ : ∃ x, x = (textS sj).1 := ⟨_, rfl⟩
            obtain ⟨s2, hs2⟩ : ∃ x, x = (textS sj).2 := ⟨_, rfl⟩
            rw [← hs2] at HN7
            rw [← hx]
            rw [← hx, ← hs2] at HS1
            clear hx hs2
            have HQ := Lib.hid HN7.out.cb.cells.2.2.2.1
            go_wp2_with fail
            refine hK9.out _ _ (.inr HQ.out) ?_
            clear HQ
            try simp only [Act.put, List.getElem_toArray, List.getElem_cons_zero, List.getElem_cons_succ, List.setIfInBounds_toArray, List.set_cons_zero, List.set_cons_succ]
            refine plan_act rfl (fun K11 hK11 => ?_)
            refine wpList_slice_str rfl (.tmp 95) rfl x rfl ?_
            have hUb := Upd.alloc (fun _ => False) u7 (.cells #[.string (str x)] 9)
            have hsrc : Src Tryd.prog 1 23 (.slice (some ⟨u7.heap.size, 0, none⟩) 1 1) 1 [sv x] (u7.alloc (.cells #[.string (str x)] 9)) := one_row (X := #[.string (str x)]) Tryd.underlying23 rfl (by simp [Value.oneCell']) (heap_alloc_new u7 (.cells #[.string (str x)] 9))
            have hownx := ownsRow_upd HN7.out.cb.ps hUb (fun _ _ h => h)
            have hq7 := (HN7.out.same hUb).cb.cells.2.2.2.1
            go_wp2_with fail
            refine hK11.out _ _ (.inr hq7) ?_
            refine plan_act rfl (fun K12 hK12 => ?_)
            obtain ⟨i0, hi, hz0, hz1, hz2⟩ := info_parts2 infoStrZ
            try simp only [Act.put, List.getElem_toArray, List.getElem_cons_zero, List.getElem_cons_succ, List.setIfInBounds_toArray, List.set_cons_zero, List.set_cons_succ]
            have hLj' := hLj.out
            refine wpList_app _ rfl (.tmp 93) (.tmp 96) 23 23 rfl 9 i0 (.string (str [])) 1 16 Tryd.underlying23 hi hz0 hz1 hz2 rfl ar2 L.length cr2 (L.map sv) rfl hownx (.slice (some ⟨u7.heap.size, 0, none⟩) 1 1) 1 [sv x] rfl hsrc ?_ ?_ ?_
            · unfold maxLen; omega
            · omega
            clear hi hz0 hz1 hz2
            intro a8 c8 w8 hown8 hg8 hat8 hnil8
            obtain ⟨hcb, hUp, hq8, hf8⟩ := HN7.out.cb.addPs x hown8 hg8 hat8
            have hln : (L ++ [x]).length = L.length + 1 := by simp
            have HM8 := Lib.hid (HN7.out.wr hcb hUp)
            dsimp only at HM8 hq8
            clear hown8 hg8 hat8 hnil8 hcb hUp hownx hsrc hUb hq7
            rw [hLj'] at HM8
            go_wp2_with fail
            refine hK12.out _ _ (.inr hq8) ?_
            try simp only [Act.put, List.getElem_toArray, List.getElem_cons_zero, List.getElem_cons_succ, List.setIfInBounds_toArray, List.set_cons_zero, List.set_cons_succ]
            iterate 1
              refine plan_take (v := ?_) rfl rfl (fun w' hS => ?_) ?_
              rotate_left
              · skip
                go_simp; try with_reducible rfl
              simp only [Act.put, List.getElem_toArray, List.getElem_cons_zero, List.getElem_cons_succ, List.setIfInBounds_toArray, List.set_cons_zero, List.set_cons_succ]
            refine plan_act rfl (fun K14 hK14 => ?_)
            go_wp2_with fail
            refine hK14.out _ _ (.inl rfl) ?_
            refine plan_end ?_
            clear hq8 hf8
            have HT8 : Hid (txtsS m0 s5 = ((L ++ [x]) ++ (txtsS (m0 - (j + 1)) s2).1, (txtsS (m0 - (j + 1)) s2).2)) := Lib.hid (by rw [HT.out, HS1.out]; simp)
            have hLm8 : (L ++ [x]).length = j + 1 := by rw [hln, hLj']
            clear HT HS1 HI HN7
            go_wp2_with fail
            go_roundw
            case rel => exact ⟨j + 1, L ++ [x], a8, c8, s2, HT8, by omega, Lib.hid hLm8, by first | rfl | go_num, HM8⟩
            case measure => simp [intOf]; omega
    case rest =>
      obtain ⟨ar2, cr2, HM6⟩ := hcut
      clear HM5 HCH hn1 hn2 hn0
      have hlens := tk_lens l
      have hnl : (tkNm l).1.length ≤ 1000000 := by omega
      go_wp2_with fail
      refine (rfint_any br F (tkPs l).2 wc HM6.out.rd).mono ?_
      unfold RfRead
      rintro e x7 ⟨rfl, hR, hU⟩
      have HM7 := Lib.hid (HM6.out.read hR hU)
      rw [show intV (tkPs l).2 = (tk7 l).1 from rfl]
      rw [show (takeS 4 (tkPs l).2).2 = (tk7 l).2 from rfl] at HM7
      clear hR hU HM6
      go_wp2_with fail
      refine (rfint_any br F (tk7 l).2 x7 HM7.out.rd).mono ?_
      unfold RfRead
      rintro e x8 ⟨rfl, hR, hU⟩
      have HM8 := Lib.hid (HM7.out.read hR hU)
      rw [show intV (tk7 l).2 = (tk8 l).1 from rfl]
      rw [show (takeS 4 (tk7 l).2).2 = (tk8 l).2 from rfl] at HM8
      clear hR hU HM7
      go_wp2_with fail
      refine (rfint_any br F (tk8 l).2 x8 HM8.out.rd).mono ?_
      unfold RfRead
      rintro e x9 ⟨rfl, hR, hU⟩
      have HM9 := Lib.hid (HM8.out.read hR hU)
      rw [show intV (tk8 l).2 = (tk9 l).1 from rfl]
      rw [show (takeS 4 (tk8 l).2).2 = (tk9 l).2 from rfl] at HM9
      clear hR hU HM8
      obtain ⟨cb1, u1⟩ := HM9.out.cb.set 4 (.int .i64 (tk7 l).1) ⟨kk, (tkM l).1, (tkCh l).1, (tkPs l).1, (tk7 l).1, 0, 0, []⟩ rfl rfl rfl
      obtain ⟨cb2, u2⟩ := cb1.set 5 (.int .i64 (tk8 l).1) ⟨kk, (tkM l).1, (tkCh l).1, (tkPs l).1, (tk7 l).1, (tk8 l).1, 0, []⟩ rfl rfl rfl
      obtain ⟨cb3, u3⟩ := cb2.set 6 (.int .i64 (tk9 l).1) ⟨kk, (tkM l).1, (tkCh l).1, (tkPs l).1, (tk7 l).1, (tk8 l).1, (tk9 l).1, []⟩ rfl rfl rfl
      have HM10 := Lib.hid (HM9.out.wr cb3 (u1.trans (u2.trans u3)))
      have s1 := HM9.out.cb.cells.2.2.2.2.1
      have s2 := cb1.cells.2.2.2.2.2.1
      have s3 := cb2.cells.2.2.2.2.2.2.1
      have t1 := HM9.out.cb.thaw 4
      have t2 := cb1.thaw 5
      have t3 := cb2.thaw 6
      clear cb1 cb2 cb3 u1 u2 u3 HM9
      go_upto_region 20 with (fail)
      clear s1 s2 s3 t1 t2 t3
      generalize ((x9.setCell ⟨BC, 4, none⟩ (.int .i64 (tk7 l).1)).setCell ⟨BC, 5, none⟩ (.int .i64 (tk8 l).1)).setCell ⟨BC, 6, none⟩ (.int .i64 (tk9 l).1) = x10 at *
      go_wp2_with fail
      refine (rftext_any br F (tk9 l).2 x10 HM10.out.rd).mono ?_
      unfold RfRead
      rintro e x11 ⟨rfl, hR, hU⟩
      have HM11 := Lib.hid (HM10.out.read hR hU)
      rw [show textS (tk9 l).2 = tkNm l from rfl] at HM11 ⊢
      clear hR hU HM10
      have hC : (⟨kk, (tkM l).1, (tkCh l).1, (tkPs l).1, (tk7 l).1, (tk8 l).1, (tk9 l).1, (tkNm l).1⟩ : Cmd) = tkC l := by rw [HKK.out]; rfl
      obtain ⟨cb1, u1⟩ := HM11.out.cb.set 7 (.string (str (tkNm l).1)) ⟨kk, (tkM l).1, (tkCh l).1, (tkPs l).1, (tk7 l).1, (tk8 l).1, (tk9 l).1, (tkNm l).1⟩ rfl rfl rfl
      have HM12 := Lib.hid (HM11.out.wr cb1 u1)
      have s1 := HM11.out.cb.cells.2.2.2.2.2.2.2
      have t1 := HM11.out.cb.thaw 7
      unfold sv at s1
      clear cb1 u1 HM11
      go_upto_region 21 with (fail)
      clear s1 t1
      generalize x11.setCell ⟨BC, 7, none⟩ (.string (str (tkNm l).1)) = x12 at *
      have hq := HM12.out.rd.err
      have HEE : Hid (takeE l = endC (tkNm l).2.e (rightL (tkC l)) (packL (tkC l)) l) := HE2
      rw [hC] at HM12
      have HC := Lib.hid hC
      clear HE2 hC
      by_cases he : (tkNm l).2.e = 0
      case neg =>
        have hbn : ((tkNm l).2.e != 0) = true := by simpa using he
        have HRR : Hid (takeE l = (tkNm l).2.e ∧ takeC l = cmdZ) := Lib.hid (by
          have h1 : takeE l = (tkNm l).2.e := by rw [HEE.out]; unfold endC; rw [if_pos he]
          exact ⟨h1, by unfold takeC; rw [h1, if_pos he]⟩)
        have HQ := Lib.hid hq
        clear he
        generalize (tkNm l).2.e = se at *
        go_upto_region 22 with (fail)
        clear hq
        refine wp_region_plan_last [([0, 1, 2, 3, 4], 5)] [6] (fun w' => w'.cell? ⟨br, 2, none⟩ = some (.int .i64 se)) (by kernel_rfl) (by kernel_rfl) HQ.out ?_
        iterate 5
          refine plan_take (v := ?_) rfl rfl (fun w' hS => ?_) ?_
          rotate_left
          · skip
            go_simp; try with_reducible rfl
          simp only [Act.put, List.getElem_toArray, List.getElem_cons_zero, List.getElem_cons_succ, List.setIfInBounds_toArray, List.set_cons_zero, List.set_cons_succ]
        refine plan_act rfl (fun K5 hK5 => ?_)
        refine wpList_store_row rfl 25 (.tmp 2) (.tmp 125) rfl B2 (cmdA cmdZ none 0 none 0) _ 25 rfl rfl HM12.out.drew.res (infoCmd2 _ _ _ _ _) rfl (cmdA_one _ _ _ _ _) ?_
        have hrc : (x12.drew.setRow B2 (cmdA cmdZ none 0 none 0)).cell? ⟨br, 2, none⟩ = some (.int .i64 se) :=
          ((Upd.setRow (S := fun k => k = B2) x12.drew rfl _).cell (p := ⟨br, 2, none⟩) (World.block_lt_of_cell? _ _ HQ.out) (by have := HM12.out.n2; show ¬ br = B2; omega)).trans HQ.out
        go_wp2_with fail
        refine hK5.out _ _ (.inr hrc) ?_
        iterate 1
          refine plan_last (v := ?_) rfl rfl (fun w' hS => ?_) ?_
          rotate_left
          · skip
            go_simp; try with_reducible rfl
          simp only [Act.put, List.getElem_toArray, List.getElem_cons_zero, List.getElem_cons_succ, List.setIfInBounds_toArray, List.set_cons_zero, List.set_cons_succ]
        refine plan_end ?_
        go_wp2_with fail
        refine ret_cmd rfl B2 cmdZ none 0 none 0 se rfl (setRow_heap _ _ _ _ _ _ HM12.out.drew.res) rfl rfl ?_
        exact HM12.out.drew.fin HRR.out.1 HRR.out.2
      case pos =>
        rw [he] at hq
        have hE1 : takeE l = if rightL (tkC l) ≠ 0 then 5 else if packL (tkC l) ≠ l then 5 else 0 := by
          have h0 := HEE.out
          unfold endC at h0
          rw [if_neg (by simpa using he)] at h0
          exact h0
        have HE3 := Lib.hid hE1
        have hpk := r25Pack_any (tkC l) ar cr ar2 cr2 x12 HM12.out.cb.inn hnl
        unfold cmdV sv at hpk
        obtain ⟨z0, z1, z2, z3, z4, z5, z6, z7⟩ := HM12.out.cb.cells
        unfold sv at z1 z7
        clear hE1 he HEE
        go_wp2_with fail
        refine hpk.mono ?_
        unfold Packed
        rintro e x13 ⟨a9, d9, rfl, hv9, hf9, hU9⟩
        have HM13 := Lib.hid (HM12.out.same hU9)
        have hsb := sBytes_any a9 a d9 c (packL (tkC l)) l x13 hv9 (HV.out.upd HM13.out.upd (fun _ _ h => h))
        have hkl : (packL (tkC l) == l) = decide (packL (tkC l) = l) := by rw [Bool.eq_iff_iff]; simp
        rw [hkl] at hsb
        have HSB := Lib.hid hsb
        clear hpk hv9 hf9 hU9 hsb hkl z0 z1 z2 z3 z4 z5 z6 z7 hq HM12
        by_cases h5 : rightL (tkC l) = 0
        case neg =>
          have hx1 := HE3.out
          rw [if_pos h5] at hx1
          have HRR : Hid (takeE l = 5 ∧ takeC l = cmdZ) := Lib.hid ⟨hx1, by unfold takeC; rw [hx1, if_pos (by decide)]⟩
          have hb5 : (rightL (tkC l) != 0) = true := by simpa using h5
          clear hx1 h5 HSB HE3
          generalize rightL (tkC l) = rr at *
          go_wp2_with (refine wpList_store_row rfl 25 (.tmp 2) (.tmp 143) rfl B2 (cmdA cmdZ none 0 none 0) _ 25 rfl rfl HM13.out.res (infoCmd2 _ _ _ _ _) rfl (cmdA_one _ _ _ _ _) ?_)
          refine ret_cmd rfl B2 cmdZ none 0 none 0 5 rfl (setRow_heap _ _ _ _ _ _ HM13.out.res) rfl rfl ?_
          exact HM13.out.fin HRR.out.1 HRR.out.2

        case pos =>
          have hx1 := HE3.out
          rw [if_neg (by simpa using h5)] at hx1
          rw [h5]
          by_cases h6 : packL (tkC l) = l
          case neg =>
            rw [if_pos h6] at hx1
            have hsb := HSB.out
            rw [decide_eq_false h6] at hsb
            have HRR : Hid (takeE l = 5 ∧ takeC l = cmdZ) := Lib.hid ⟨hx1, by unfold takeC; rw [hx1, if_pos (by decide)]⟩
            clear hx1 h5 h6 HSB HE3
            go_wp2_with fail
            refine hsb.mono ?_
            rintro e x14 ⟨rfl, rfl⟩
            clear hsb
            go_wp2_with (refine wpList_store_row rfl 25 (.tmp 2) (.tmp 143) rfl B2 (cmdA cmdZ none 0 none 0) _ 25 rfl rfl HM13.out.res (infoCmd2 _ _ _ _ _) rfl (cmdA_one _ _ _ _ _) ?_)
            refine ret_cmd rfl B2 cmdZ none 0 none 0 5 rfl (setRow_heap _ _ _ _ _ _ HM13.out.res) rfl rfl ?_
            exact HM13.out.fin HRR.out.1 HRR.out.2

          case pos =>
            rw [if_neg (by simpa using h6)] at hx1
            have hsb := HSB.out
            rw [decide_eq_true h6] at hsb
            have HRR : Hid (takeE l = 0 ∧ takeC l = tkC l) := Lib.hid ⟨hx1, by unfold takeC; rw [hx1, if_neg (by decide)]⟩
            obtain ⟨z0, z1, z2, z3, z4, z5, z6, z7⟩ := HM13.out.cb.cells
            unfold sv at z1 z7
            clear hx1 h5 h6 HSB HE3
            go_wp2_with fail
            refine hsb.mono ?_
            rintro e x14 ⟨rfl, rfl⟩
            clear hsb
            go_wp2_with (refine wpList_store_row rfl 25 (.tmp 2) (.tmp 144) rfl B2 (cmdA (tkC l) ar cr ar2 cr2) _ 25 rfl rfl HM13.out.res (infoCmd2 _ _ _ _ _) rfl (cmdA_one _ _ _ _ _) ?_)
            refine ret_cmd rfl B2 (tkC l) ar cr ar2 cr2 0 rfl (setRow_heap _ _ _ _ _ _ HM13.out.res) rfl rfl ?_
            exact HM13.out.good HRR.out.1 HRR.out.2
end Go.Proofs.YteefceainlfdfaaDoor
