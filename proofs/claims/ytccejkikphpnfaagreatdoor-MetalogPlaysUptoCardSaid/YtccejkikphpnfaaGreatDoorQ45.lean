
/- The document's log: Add on any bytes. -/
import Derived.Test.YtccejkikphpnfaaGreatDoorQ43
import Derived.Test.YtccejkikphpnfaaGreatDoorQ44
namespace Go.Proofs.YtccejkikphpnfaaGreatDoor
set_option linter.unusedSimpArgs false
set_option linter.unusedVariables false
set_option maxRecDepth 100000
open Go.ChangeShapes Go.WideShapes Go.ChangeAt Go.RowKit
/-- The lists of first commits, and of commits, are sums over the roots. -/
structure MSJ (m : MS) : Prop where
 cs : m.cs = m.rr.flatMap (·.ks)
 fs : ∀ i, i < m.rr.length → m.fs[i]? = some (((m.rr.take i).flatMap (·.ks)).length : Int)
theorem MSJ.like {m m' : MS} (h : MSJ m) (h1 : m'.rr = m.rr) (h2 : m'.fs = m.fs) (h3 : m'.cs = m.cs) : MSJ m' := ⟨by rw [h3, h1]; exact h.cs, by rw [h1, h2]; exact h.fs⟩
theorem MSJ.root {m : MS} (h : MSJ m) (hi : MSI m) (r : RC) : MSJ (m.root r).2 := by
 unfold MS.root
 split
 ·exact h
 ·split
  ·exact h
  ·refine ⟨?_, fun i hlt => ?_⟩
   ·show m.cs ++ r.ks = (m.rr ++ [r]).flatMap (·.ks)
    rw [List.flatMap_append, ← h.cs]
    simp
   ·have hlt : i < (m.rr ++ [r]).length := hlt
    rw [List.length_append, List.length_singleton] at hlt
    show (m.fs ++ [(m.cs.length : Int)])[i]? = some ((((m.rr ++ [r]).take i).flatMap (·.ks)).length : Int)
    rcases Nat.lt_or_ge i m.rr.length with h1 | h1
    ·rw [List.getElem?_append_left (by rw [hi.fs]; exact h1), h.fs i h1, List.take_append_of_le_length (by omega)]
    ·have e : i = m.rr.length := by omega
     subst e
     rw [List.getElem?_append_right (by rw [hi.fs]; exact Nat.le_refl _), hi.fs, Nat.sub_self, List.take_append_of_le_length (Nat.le_refl _), List.take_length, ← h.cs]
     rfl
theorem MSJ.step {m : MS} (h : MSJ m) (hi : MSI m) (l : List UInt8) : MSJ (m.step l).2 := by
 unfold MS.step
 split
 ·split
  ·exact h.root hi _
  ·exact h
 ·split
  ·split
   ·unfold MS.move
    split
    ·exact h
    ·split <;> split <;> first | exact h | exact h.like rfl rfl rfl
   ·exact h
  ·split
   ·split
    ·exact h.like rfl rfl rfl
    ·exact h
   ·split
    ·split
     ·unfold MS.drop
      split
      ·exact h.like rfl rfl rfl
      ·exact h
     ·exact h
    ·exact h
theorem MS.step_n (m : MS) (l : List UInt8) : (m.step l).2.n = if (m.step l).1 = 0 then m.n + 1 else m.n := by
 unfold MS.step MS.root MS.move MS.drop MS.wait
 repeat' split
 all_goals first | rfl | (simp_all)
def RAdded (w : World) (rb lb : Nat) (A : RA) (s : Int × MS) (e : Ending) (w' : World) : Prop :=
 e = .returned (.int .i64 s.1) ∧ ∃ g' A', Twin s.2 g' ∧ g'.n = s.2.n ∧ RefX w' rb lb g' A' ∧ Upd (fun q => q = rb ∨ blk A.ra = some q) w w' ∧ ∀ q, blk A'.ra = some q → blk A.ra = some q ∨ w.heap.size ≤ q
theorem Twin.like {m m' : MS} {g g' : RX} (h : Twin m g) (h1 : m'.rr = m.rr) (h2 : m'.top = m.top) (h3 : m'.ds = m.ds) (h4 : m'.on = m.on) (h5 : m'.wc = m.wc) (k1 : g'.rr = g.rr) (k2 : g'.at_ = g.at_) (k3 : g'.ds = g.ds) (k4 : g'.pd = g.pd) : Twin m' g' :=
 ⟨by rw [h1, k1]; exact h.rr, by rw [h2, k2]; exact h.top, by rw [h3, k3]; exact h.ds, by rw [h4, k4]; exact h.on, by rw [h5, k4]; exact h.wc⟩
set_option maxHeartbeats 16000000 in
theorem rAdd_gen (m : MS) (g : RX) (A : RA) (rb lb : Nat) (a : Option Addr) (c : Nat) (l : List UInt8) (w : World) (h : RefX w rb lb g A) (ht : Twin m g) (hgn : g.n = m.n) (hi : MSI m) (hj : MSJ m) (hn0 : 0 ≤ m.n) (hn : m.n ≤ 100000)
  (hv : Vw w a l.length c 1 (bvs l)) (hl : l.length ≤ 70000000) (hb0 : l ≠ [] → ∀ b, blk a = some b → b < w.heap.size) :
  Calls Tryz.prog 35 #[.pointer (some ⟨rb, 0, none⟩), .slice a l.length c] w (RAdded w rb lb A (m.step l)) := by
 have hstn := m.step_n l
 cases l with
 | nil =>
  have hst : m.step [] = (5, m) := rfl
  rw [hst]
  have HG := Lib.hid (And.intro h (And.intro ht hgn))
  clear h ht hstn hst hi hj hv hb0 hgn hn0 hn hl
  go_enter Tryz.func35, Tryz.ntmps35
  go_wp2_with fail
  go_ret
  exact ⟨rfl, g, A, HG.out.2.1, HG.out.2.2, HG.out.1, Upd.refl _ _, fun q hq => .inl hq⟩
 | cons b0 l' =>
 have h1 : 1 ≤ (b0 :: l').length := by simp
 have hb := hb0 (by simp)
 clear hb0
 have hk : kindL (b0 :: l') = b0.toNat := (kind_cons b0 l').1
 have hst : m.step (b0 :: l') = if b0.toNat = 1 then (if okRoot (b0 :: l') = true then m.root (rootS (s1L (b0 :: l'))).1 else (5, m))
   else if b0.toNat = 2 then (if okMove (b0 :: l') = true then m.move (mvV (b0 :: l')) (mvR (b0 :: l')) else (5, m))
   else if b0.toNat = 3 then (if okWait (b0 :: l') = true then m.wait (waitS (s1L (b0 :: l'))).1 else (5, m))
   else if b0.toNat = 4 then (if okDrop (b0 :: l') = true then m.drop else (5, m)) else (5, m) := by
  unfold MS.step
  rw [hk]
 obtain ⟨bb, o, hba, hcell⟩ := hv.at (by omega) (by decide)
 have hq := hcell 0 (bv b0) (by simp [bvs])
 rw [Nat.add_zero] at hq
 unfold bv at hq
 have hdr : okDrop (b0 :: l') = (([4] : List UInt8) == (b0 :: l')) := rfl
 have hr1 := rAddRoot_any m g A rb lb a c (b0 :: l') w h ht hi hj.cs hv h1 hl hb
 have hr2 := rAddMove_any m g A rb lb a c (b0 :: l') w h ht hi hn hv h1 hl hb
 have hr3 := rAddWait_any m g A rb lb a c (b0 :: l') w h ht hv h1 hl hb
 have q3 := h.c3
 generalize hlL : b0 :: l' = L at *
 obtain ⟨S, hS⟩ : ∃ S, S = m.step L := ⟨_, rfl⟩
 rw [← hS] at hst hstn ⊢
 obtain ⟨E, M⟩ := S
 have hbt := b0.toNat_lt
 have hgn2 := hgn
 have HG := Lib.hid (And.intro h (And.intro ht (And.intro hgn hlL)))
 have HST := Lib.hid (And.intro hst (And.intro hstn hdr))
 have HNB := Lib.hid (And.intro hn0 hn)
 subst hba
 clear h ht hgn hst hstn hcell hi hj hv hb hk hlL hS hdr hn0 hn hgn2
 have HK4 : Hid (b0.toNat = 4 → b0 = 4) := Lib.hid (fun h => by rw [← UInt8.toNat_inj, h]; rfl)
 generalize b0.toNat = k at *
 obtain ⟨E1, hE1⟩ : ∃ E, E = (if okRoot L = true then (m.root (rootS (s1L L)).1).1 else 5) := ⟨_, rfl⟩
 obtain ⟨M1, hM1⟩ : ∃ E, E = (if okRoot L = true then (m.root (rootS (s1L L)).1).2 else m) := ⟨_, rfl⟩
 obtain ⟨E2, hE2⟩ : ∃ E, E = (if okMove L = true then (m.move (mvV L) (mvR L)).1 else 5) := ⟨_, rfl⟩
 obtain ⟨M2, hM2⟩ : ∃ E, E = (if okMove L = true then (m.move (mvV L) (mvR L)).2 else m) := ⟨_, rfl⟩
 obtain ⟨E3, hE3⟩ : ∃ E, E = (if okWait L = true then (0 : Int) else 5) := ⟨_, rfl⟩
 obtain ⟨M3, hM3⟩ : ∃ E, E = (if okWait L = true then (m.wait (waitS (s1L L)).1).2 else m) := ⟨_, rfl⟩
 rw [← hE1, ← hM1] at hr1
 rw [← hE2, ← hM2] at hr2
 rw [← hE3, ← hM3] at hr3
 have HE1 : Hid (k = 1 → E = E1 ∧ M = M1) := Lib.hid (fun hk => by
  have := HST.out.1
  rw [if_pos hk] at this
  rw [hE1, hM1]
  by_cases ho : okRoot L = true
  ·rw [if_pos ho] at this; rw [if_pos ho, if_pos ho, ← this]; exact ⟨rfl, rfl⟩
  ·rw [if_neg ho] at this; rw [if_neg ho, if_neg ho]; exact ⟨congrArg Prod.fst this, congrArg Prod.snd this⟩)
 have HE2 : Hid (k = 2 → E = E2 ∧ M = M2) := Lib.hid (fun hk => by
  have := HST.out.1
  rw [if_neg (by omega), if_pos hk] at this
  rw [hE2, hM2]
  by_cases ho : okMove L = true
  ·rw [if_pos ho] at this; rw [if_pos ho, if_pos ho, ← this]; exact ⟨rfl, rfl⟩
  ·rw [if_neg ho] at this; rw [if_neg ho, if_neg ho]; exact ⟨congrArg Prod.fst this, congrArg Prod.snd this⟩)
 have HE3 : Hid (k = 3 → E = E3 ∧ M = M3) := Lib.hid (fun hk => by
  have := HST.out.1
  rw [if_neg (by omega), if_neg (by omega), if_pos hk] at this
  rw [hE3, hM3]
  by_cases ho : okWait L = true
  ·rw [if_pos ho] at this; rw [if_pos ho, if_pos ho]; exact ⟨congrArg Prod.fst this, congrArg Prod.snd this⟩
  ·rw [if_neg ho] at this; rw [if_neg ho, if_neg ho]; exact ⟨congrArg Prod.fst this, congrArg Prod.snd this⟩)
 clear hE1 hM1 hE2 hM2 hE3 hM3
 by_cases hk1 : k = 1
 case pos =>
  obtain ⟨rfl, rfl⟩ := HE1.out hk1
  subst hk1
  clear HE1 HE2 HE3 hr2 hr3
  go_enter Tryz.func35, Tryz.ntmps35
  go_wp2_with fail
  refine hr1.mono ?_
  unfold RAdd
  rintro e w1 ⟨rfl, g1, A1, ht1, hn1, hx1, hU1, hf1⟩
  have HX := Lib.hid (And.intro ht1 (And.intro hn1 (And.intro hx1 (And.intro hU1 hf1))))
  have q10 := hx1.c10
  have f10 := hx1.free 10
  rw [hn1, HG.out.2.2.1] at q10
  clear ht1 hn1 hx1 hU1 hf1
  by_cases hz : E = 0
  case neg =>
   have hbe : (E == 0) = false := by simp [hz]
   have HN : Hid (M.n = m.n) := Lib.hid (by have h := HST.out.2.1; rw [if_neg hz] at h; exact h)
   clear hz
   go_wp2_with fail
   go_ret
   exact ⟨rfl, g1, A1, HX.out.1, by rw [HX.out.2.1, HG.out.2.2.1]; exact HN.out.symm, HX.out.2.2.1, HX.out.2.2.2.1, HX.out.2.2.2.2⟩
  case pos =>
   subst hz
   have HN : Hid (M.n = m.n + 1) := Lib.hid (by have h := HST.out.2.1; rw [if_pos rfl] at h; exact h)
   have hwn : IntKind.i64.wrap (m.n + 1) = m.n + 1 := IntWalk.i64_in _ (by have := HNB.out; omega)
   have hput := HX.out.2.2.1.putI (g' := ⟨g1.rr, g1.at_, g1.ds, g1.pd, m.n + 1⟩) 10 (.int .i64 (m.n + 1)) (by simp [refA]) rfl rfl rfl
   have HP := Lib.hid hput
   clear hput
   go_wp2_with fail
   go_ret
   exact ⟨rfl, ⟨g1.rr, g1.at_, g1.ds, g1.pd, m.n + 1⟩, A1, HX.out.1.like rfl rfl rfl rfl rfl rfl rfl rfl rfl, HN.out.symm, HP.out.1, HX.out.2.2.2.1.trans (HP.out.2.mono (fun _ _ h => .inl h)), HX.out.2.2.2.2⟩
 case neg =>
 have hb1 : ((k : Int) == 1) = false := by simp; omega
 by_cases hk2 : k = 2
 case pos =>
  obtain ⟨rfl, rfl⟩ := HE2.out hk2
  subst hk2
  clear HE1 HE2 HE3 hr1 hr3
  go_enter Tryz.func35, Tryz.ntmps35
  go_wp2_with fail
  refine hr2.mono ?_
  unfold RAdd
  rintro e w1 ⟨rfl, g1, A1, ht1, hn1, hx1, hU1, hf1⟩
  have HX := Lib.hid (And.intro ht1 (And.intro hn1 (And.intro hx1 (And.intro hU1 hf1))))
  have q10 := hx1.c10
  have f10 := hx1.free 10
  rw [hn1, HG.out.2.2.1] at q10
  clear ht1 hn1 hx1 hU1 hf1
  by_cases hz : E = 0
  case neg =>
   have hbe : (E == 0) = false := by simp [hz]
   have HN : Hid (M.n = m.n) := Lib.hid (by have h := HST.out.2.1; rw [if_neg hz] at h; exact h)
   clear hz
   go_wp2_with fail
   go_ret
   exact ⟨rfl, g1, A1, HX.out.1, by rw [HX.out.2.1, HG.out.2.2.1]; exact HN.out.symm, HX.out.2.2.1, HX.out.2.2.2.1, HX.out.2.2.2.2⟩
  case pos =>
   subst hz
   have HN : Hid (M.n = m.n + 1) := Lib.hid (by have h := HST.out.2.1; rw [if_pos rfl] at h; exact h)
   have hwn : IntKind.i64.wrap (m.n + 1) = m.n + 1 := IntWalk.i64_in _ (by have := HNB.out; omega)
   have hput := HX.out.2.2.1.putI (g' := ⟨g1.rr, g1.at_, g1.ds, g1.pd, m.n + 1⟩) 10 (.int .i64 (m.n + 1)) (by simp [refA]) rfl rfl rfl
   have HP := Lib.hid hput
   clear hput
   go_wp2_with fail
   go_ret
   exact ⟨rfl, ⟨g1.rr, g1.at_, g1.ds, g1.pd, m.n + 1⟩, A1, HX.out.1.like rfl rfl rfl rfl rfl rfl rfl rfl rfl, HN.out.symm, HP.out.1, HX.out.2.2.2.1.trans (HP.out.2.mono (fun _ _ h => .inl h)), HX.out.2.2.2.2⟩
 case neg =>
 have hb2 : ((k : Int) == 2) = false := by simp; omega
 by_cases hk3 : k = 3
 case pos =>
  obtain ⟨rfl, rfl⟩ := HE3.out hk3
  subst hk3
  clear HE1 HE2 HE3 hr1 hr2
  go_enter Tryz.func35, Tryz.ntmps35
  go_wp2_with fail
  refine hr3.mono ?_
  unfold RAdd
  rintro e w1 ⟨rfl, g1, A1, ht1, hn1, hx1, hU1, hf1⟩
  have HX := Lib.hid (And.intro ht1 (And.intro hn1 (And.intro hx1 (And.intro hU1 hf1))))
  have q10 := hx1.c10
  have f10 := hx1.free 10
  rw [hn1, HG.out.2.2.1] at q10
  clear ht1 hn1 hx1 hU1 hf1
  by_cases hz : E = 0
  case neg =>
   have hbe : (E == 0) = false := by simp [hz]
   have HN : Hid (M.n = m.n) := Lib.hid (by have h := HST.out.2.1; rw [if_neg hz] at h; exact h)
   clear hz
   go_wp2_with fail
   go_ret
   exact ⟨rfl, g1, A1, HX.out.1, by rw [HX.out.2.1, HG.out.2.2.1]; exact HN.out.symm, HX.out.2.2.1, HX.out.2.2.2.1, HX.out.2.2.2.2⟩
  case pos =>
   subst hz
   have HN : Hid (M.n = m.n + 1) := Lib.hid (by have h := HST.out.2.1; rw [if_pos rfl] at h; exact h)
   have hwn : IntKind.i64.wrap (m.n + 1) = m.n + 1 := IntWalk.i64_in _ (by have := HNB.out; omega)
   have hput := HX.out.2.2.1.putI (g' := ⟨g1.rr, g1.at_, g1.ds, g1.pd, m.n + 1⟩) 10 (.int .i64 (m.n + 1)) (by simp [refA]) rfl rfl rfl
   have HP := Lib.hid hput
   clear hput
   go_wp2_with fail
   go_ret
   exact ⟨rfl, ⟨g1.rr, g1.at_, g1.ds, g1.pd, m.n + 1⟩, A1, HX.out.1.like rfl rfl rfl rfl rfl rfl rfl rfl rfl, HN.out.symm, HP.out.1, HX.out.2.2.2.1.trans (HP.out.2.mono (fun _ _ h => .inl h)), HX.out.2.2.2.2⟩
 case neg =>
 have hb3 : ((k : Int) == 3) = false := by simp; omega
 clear HE1 HE2 HE3 hr1 hr2 hr3
 by_cases hk4 : k = 4
 case neg =>
  have hb4 : ((k : Int) == 4) = false := by simp; omega
  have HF : Hid (E = 5 ∧ M = m) := Lib.hid (by
   have := HST.out.1
   rw [if_neg hk1, if_neg hk2, if_neg hk3, if_neg hk4] at this
   exact ⟨congrArg Prod.fst this, congrArg Prod.snd this⟩)
  obtain ⟨rfl, rfl⟩ := HF.out
  clear hk1 hk2 hk3 hk4
  go_enter Tryz.func35, Tryz.ntmps35
  go_wp2_with fail
  go_ret
  exact ⟨rfl, g, A, HG.out.2.1, HG.out.2.2.1, HG.out.1, Upd.refl _ _, fun q hq => .inl hq⟩
 case pos =>
 subst hk4
 have HS4 : Hid ((E, M) = if okDrop L = true then m.drop else (5, m)) := Lib.hid (by
  have := HST.out.1
  rw [if_neg (by decide), if_neg (by decide), if_neg (by decide), if_pos rfl] at this
  exact this)
 have NO : Hid ((E, M) = (5, m) → RAdded w rb lb A (E, M) (.returned (.int .i64 5)) w) := Lib.hid (fun h => by
  rw [h]
  exact ⟨rfl, g, A, HG.out.2.1, HG.out.2.2.1, HG.out.1, Upd.refl _ _, fun q hq => .inl hq⟩)
 by_cases hl1 : L.length = 1
 case neg =>
  have hbl : ((L.length : Int) == 1) = false := by simp; omega
  have HF : Hid ((E, M) = (5, m)) := Lib.hid (by
   rw [HS4.out, HST.out.2.2, if_neg]
   intro hx
   have := congrArg List.length (eq_of_beq hx)
   simp at this
   omega)
  clear hk1 hk2 hk3 hl1
  go_enter Tryz.func35, Tryz.ntmps35
  go_wp2_with fail
  go_ret
  exact NO.out HF.out
 case pos =>
 have hdp : Hid (okDrop L = true) := Lib.hid (by
  rw [HST.out.2.2, ← HG.out.2.2.2]
  have h5 := HG.out.2.2.2
  have h6 : l' = [] := by
   have := congrArg List.length h5
   rw [hl1, List.length_cons] at this
   exact List.eq_nil_of_length_eq_zero (by omega)
  subst h6
  have h7 : b0 = 4 := HK4.out rfl
  rw [h7]
  rfl)
 by_cases hon : g.pd.on = true
 case neg =>
  have hof : g.pd.on = false := by simpa using hon
  have HF : Hid ((E, M) = (5, m)) := Lib.hid (by
   rw [HS4.out, if_pos hdp.out]
   unfold MS.drop
   rw [HG.out.2.1.on, if_neg hon])
  rw [hof] at q3
  rw [hl1] at h1 hl ⊢
  clear hk1 hk2 hk3 hl1 hon hof
  go_enter Tryz.func35, Tryz.ntmps35
  go_wp2_with fail
  go_ret
  exact NO.out HF.out
 case pos =>
 have HF : Hid (E = 0 ∧ M = ⟨m.rr, m.fs, m.cs, m.top, m.ds, false, wc0, m.n + 1⟩) := Lib.hid (by
  have := HS4.out
  rw [if_pos hdp.out] at this
  unfold MS.drop at this
  rw [HG.out.2.1.on, if_pos hon] at this
  exact ⟨congrArg Prod.fst this, congrArg Prod.snd this⟩)
 obtain ⟨rfl, rfl⟩ := HF.out
 rw [hon] at q3
 rw [hl1] at h1 hl ⊢
 have hput := HG.out.1.putP wt0 (wt0_in _) (wt0_bl _)
 rw [← pendA_wt0] at hput
 have HP := Lib.hid hput
 have hth := HG.out.1.there
 have q10 := HP.out.1.c10
 have f10 := HP.out.1.free 10
 dsimp only at q10
 rw [HG.out.2.2.1] at q10
 have hput2 := HP.out.1.putI (g' := ⟨g.rr, g.at_, g.ds, wt0, m.n + 1⟩) 10 (.int .i64 (m.n + 1)) (by simp [refA]) rfl rfl rfl
 have HP2 := Lib.hid hput2
 have hwn : IntKind.i64.wrap (m.n + 1) = m.n + 1 := IntWalk.i64_in _ (by have := HNB.out; omega)
 clear hk1 hk2 hk3 hl1 hon hput hput2 NO
 go_enter Tryz.func35, Tryz.ntmps35
 go_upto_region 10 with (fail)
 go_upto_region 11 with (refine wpList_store_mid rfl 30 (.tmp 54) (.tmp 52) rfl rb 3 pendA rfl rfl hth (by rw [infoPd7]; rfl) (by simp [pendA, Value.oneCell']) ?_)
 go_wp2_with fail
 go_ret
 refine ⟨rfl, ⟨g.rr, g.at_, g.ds, wt0, m.n + 1⟩, A, ?_, rfl, HP2.out.1, (HP.out.2.trans HP2.out.2).mono (fun _ _ h => .inl h), fun q hq => .inl hq⟩
 have ht := HG.out.2.1
 exact ⟨ht.rr, ht.top, ht.ds, rfl, rfl⟩
end Go.Proofs.YtccejkikphpnfaaGreatDoor
