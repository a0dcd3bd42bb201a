
/- reader.some, with each of Take's two literals. -/
import Derived.Test.YteefceainlfdfaaDoorRt4
namespace Go.Proofs.YteefceainlfdfaaDoor
set_option linter.unusedSimpArgs false
set_option linter.unusedVariables false
set_option maxRecDepth 100000
open Go.ChangeShapes Go.WideShapes Go.ChangeAt Go.RowKit

def valF1 (BC B4 : Nat) : Value := .func (.func 64) #[] #[.pointer (some ⟨BC, 0, none⟩), .pointer (some ⟨B4, 0, none⟩)]
def valF2 (BC B4 : Nat) : Value := .func (.func 66) #[] #[.pointer (some ⟨BC, 0, none⟩), .pointer (some ⟨B4, 0, none⟩)]
theorem textS_len1 (s : RS) : (textS s).2.l.length ≤ s.l.length := (textS_len2 s).1
theorem chgS_len (s : RS) : (chgS s).2.l.length ≤ s.l.length := by
  have h1 := (textS_len2 s).1
  have h2 := boolS_len2 (textS s).2
  have h3 := boolS_len2 (boolS (textS s).2).2
  have h4 := (textS_len2 (boolS (boolS (textS s).2).2).2).1
  exact Nat.le_trans h4 (by omega)
theorem int_zero (s : RS) (h : (takeS 4 s).2.e ≠ 0) : intV s = 0 := by
  unfold intV
  split
  · rename_i h1
    unfold takeS at h
    rw [if_neg (by simp [h1.1]), if_neg (by omega)] at h
    exact absurd rfl h
  · rfl
theorem some_odd {w : World} {br BR B4 BC B2 : Nat} {F : Option Nat} {s : RS} {c : Cmd} {a1 a2 : Option Addr} {c1 c2 : Nat} {wk : World} (v : Value) (h : TMid w br BR B4 BC B2 F s true c a1 c1 a2 c2 wk) :
    Calls Tryd.prog 63 #[.pointer (some ⟨BR, 0, none⟩), v] wk fun e w' => e = .returned (.tuple #[]) ∧ wk = w' := by
  have q1 := h.q1
  clear h
  go_enter Tryd.func63, Tryd.ntmps63
  go_wp2_with fail
  exact ret_none rfl rfl ⟨rfl, rfl⟩

set_option maxHeartbeats 8000000 in
theorem some1_any {w : World} {br BR B4 BC B2 : Nat} {F : Option Nat} {s : RS} {c : Cmd} {a2 : Option Addr} {c2 : Nat} {wk : World} (h : TMid w br BR B4 BC B2 F s false c none 0 a2 c2 wk) (hs : s.l.length ≤ 100000000) (hn : c.ch = []) (n : Int) (s1 : RS) (hnn : intV s = n) (hss : (takeS 4 s).2 = s1) :
    Calls Tryd.prog 63 #[.pointer (some ⟨BR, 0, none⟩), .func (.func 64) #[] #[.pointer (some ⟨BC, 0, none⟩), .pointer (some ⟨B4, 0, none⟩)]] wk fun e w' => e = .returned (.tuple #[]) ∧
      ((oddS n s1 = true ∧ TMid w br BR B4 BC B2 F s1 true c none 0 a2 c2 w') ∨
       (oddS n s1 = false ∧ ∃ a3 c3, TMid w br BR B4 BC B2 F (chgsS n.toNat s1).2 false ⟨c.kind, c.msg, (chgsS n.toNat s1).1, c.ps, c.count, c.commit, c.dest, c.name⟩ a3 c3 a2 c2 w')) := by
  have HI := Lib.hid h
  have q0 := h.q0
  have q1 := h.q1
  have hlen := takeS_len 4 s
  have HOD : Hid ((n < 0 ∨ 1000 < n) → s1.e = 0) := Lib.hid (by rw [← hnn, ← hss]; exact int_odd s)
  have HZ : Hid (s1.e ≠ 0 → n = 0) := Lib.hid (by rw [← hnn, ← hss]; exact int_zero s)
  rw [hss] at hlen
  clear h
  go_enter Tryd.func63, Tryd.ntmps63
  go_wp2_with fail
  refine (rint_any br F s wk HI.out.rd hs).mono ?_
  unfold ReadN
  rintro e w1 ⟨rfl, hR, hU⟩
  rw [hss] at hR
  rw [hnn]
  have HM := Lib.hid (HI.out.read (s' := s1) hR hU)
  clear hR hU q0 q1 hnn hss
  have q0 := HM.out.q0
  have q1 := HM.out.q1
  have herr := err_any br F s1.l s1.e w1 HM.out.rd
  by_cases ho : n < 0 ∨ 1000 < n
  · have hz : s1.e = 0 := HOD.out ho
    have HO : Hid (oddS n s1 = true) := Lib.hid (by unfold oddS; rw [hz]; simpa using ho)
    rw [hz] at herr
    have hfz := free_row (j := 1) HM.out.row
    have HMO := Lib.hid (HM.out.setOdd true)
    clear hz HOD
    rcases ho with ho | ho
    · go_wp2_with fail
      refine herr.mono ?_
      rintro e w' ⟨rfl, rfl⟩
      clear herr
      go_wp2_with fail
      exact ret_none rfl rfl ⟨rfl, .inl ⟨HO.out, HMO.out⟩⟩
    · have ho1 : decide (n < 0) = false := by rw [decide_eq_false_iff_not]; omega
      go_wp2_with fail
      refine herr.mono ?_
      rintro e w' ⟨rfl, rfl⟩
      clear herr
      go_wp2_with fail
      exact ret_none rfl rfl ⟨rfl, .inl ⟨HO.out, HMO.out⟩⟩
  · have hn1 : decide (n < 0) = false := by rw [decide_eq_false_iff_not]; omega
    have hn2 : decide (1000 < n) = false := by rw [decide_eq_false_iff_not]; omega
    have HO : Hid (oddS n s1 = false) := Lib.hid (by unfold oddS; rw [hn1, hn2]; simp)
    obtain ⟨n0, rfl⟩ := Int.eq_ofNat_of_zero_le (show 0 ≤ n by omega)
    have hn0 : n0 ≤ 1000 := by omega
    have hcc : c = ⟨c.kind, c.msg, [], c.ps, c.count, c.commit, c.dest, c.name⟩ := by rw [← hn]
    rw [hcc] at HM
    have HN0 := Lib.hid (Int.toNat_natCast n0)
    clear hcc hn HOD ho
    have herr0 := herr
    by_cases he : s1.e = 0
    case neg =>
      have hz0 : n0 = 0 := by have := HZ.out he; omega
      subst hz0
      have hbe : (s1.e == 0) = false := by simpa using he
      clear he
      go_wp2_with fail
      refine herr.mono ?_
      rintro e w' ⟨rfl, rfl⟩
      go_wp2_with fail
      go_loopw [4] (fun i wr => i = .int .i64 0 ∧ wr = w1) (fun _ _ => 0)
      case atStart => exact ⟨rfl, rfl⟩
      case round =>
        obtain ⟨rfl, rfl⟩ := hrel
        go_wp2_with fail
        go_end0
        exact ⟨rfl, .inr ⟨HO.out, none, 0, HM.out⟩⟩
    case pos =>
    rw [he] at herr
    clear herr0
    go_wp2_with fail
    refine herr.mono ?_
    rintro e w' ⟨rfl, rfl⟩
    clear herr q0 q1 he
    go_wp2_with fail
    go_loopw [4] (fun i wr => ∃ (m : Nat) (L : List Chg) (ar : Option Addr) (cr : Nat) (sj : RS), Hid (chgsS n0 s1 = (L ++ (chgsS m sj).1, (chgsS m sj).2)) ∧ L.length + m = n0 ∧ i = .int .i64 (m : Int) ∧ sj.l.length ≤ 100000000 ∧
        Hid (TMid w br BR B4 BC B2 F sj false ⟨c.kind, c.msg, L, c.ps, c.count, c.commit, c.dest, c.name⟩ ar cr a2 c2 wr)) (fun i _ => (intOf i).toNat)
    case atStart => exact ⟨n0, [], none, 0, s1, Lib.hid rfl, by simp, rfl, by omega, HM⟩
    case round =>
      clear HM
      obtain ⟨m, L, ar, cr, sj, HT, hLm, rfl, hsl, HI⟩ := hrel
      have q0 := HI.out.q0
      have herr := err_any br F sj.l sj.e wr HI.out.rd
      cases m with
      | zero =>
        have hI : ¬ (0 : Int) < ((0 : Nat) : Int) := by omega
        have HX : Hid (chgsS n0 s1 = (L, sj)) := Lib.hid (by rw [HT.out]; simp [chgsS])
        clear HT
        go_wp2_with fail
        go_end0
        exact ⟨rfl, .inr ⟨HO.out, ar, cr, by (try rw [HN0.out]); rw [HX.out]; exact HI.out⟩⟩
      | succ m =>
        have hm0 : (0 : Int) < ((m + 1 : Nat) : Int) := by omega
        have hmw : IntKind.i64.wrap (((m + 1 : Nat) : Int) - 1) = (m : Int) := by rw [show (((m + 1 : Nat) : Int) - 1) = (m : Int) by omega]; exact IntWalk.i64_in _ (by omega)
        by_cases he : sj.e = 0
        case neg =>
          have hbe : (sj.e == 0) = false := by simpa using he
          have HX : Hid (chgsS n0 s1 = (L, sj)) := Lib.hid (by rw [HT.out, chgsS_stop _ _ he]; simp)
          clear HT he
          go_wp2_with fail
          refine herr.mono ?_
          rintro e w' ⟨rfl, rfl⟩
          clear herr
          go_wp2_with fail
          go_end0
          exact ⟨rfl, .inr ⟨HO.out, ar, cr, by (try rw [HN0.out]); rw [HX.out]; exact HI.out⟩⟩
        case pos =>
          rw [he] at herr
          have hs1 : chgsS (m + 1) sj = ((chgS sj).1 :: (chgsS m (chgS sj).2).1, (chgsS m (chgS sj).2).2) := by rw [chgsS, if_neg (by simpa using he)]
          have HS1 := Lib.hid hs1
          have hl1 : (chgS sj).2.l.length ≤ 100000000 := Nat.le_trans (chgS_len sj) hsl
          have hone := cTake1_any HI.out hsl (by show L.length ≤ _; omega)
          clear hs1 he
          go_wp2_with fail
          refine herr.mono ?_
          rintro e w' ⟨rfl, rfl⟩
          clear herr
          go_wp2_with fail
          refine hone.mono ?_
          rintro e w2 ⟨rfl, a3, c3, hM⟩
          have HM2 := Lib.hid hM
          have HT2 : Hid (chgsS n0 s1 = ((L ++ [(chgS sj).1]) ++ (chgsS m (chgS sj).2).1, (chgsS m (chgS sj).2).2)) := Lib.hid (by rw [HT.out, HS1.out]; simp)
          have hLm2 : (L ++ [(chgS sj).1]).length + m = n0 := by rw [List.length_append, List.length_singleton]; omega
          clear hM hone HT HS1 HI q0 hLm
          generalize L ++ [(chgS sj).1] = L2 at *
          generalize (chgS sj).2 = s2 at *
          go_wp2_with fail
          go_roundw
          case rel => exact ⟨m, L2, a3, c3, s2, HT2, hLm2, by first | rfl | go_num, hl1, HM2⟩
          case measure => first | (simp [intOf]; done) | (simp [intOf]; omega)

set_option maxHeartbeats 8000000 in
theorem some2_any {w : World} {br BR B4 BC B2 : Nat} {F : Option Nat} {s : RS} {c : Cmd} {a1 : Option Addr} {c1 : Nat} {wk : World} (h : TMid w br BR B4 BC B2 F s false c a1 c1 none 0 wk) (hs : s.l.length ≤ 100000000) (hn : c.ps = []) (n : Int) (s1 : RS) (hnn : intV s = n) (hss : (takeS 4 s).2 = s1) :
    Calls Tryd.prog 63 #[.pointer (some ⟨BR, 0, none⟩), .func (.func 66) #[] #[.pointer (some ⟨BC, 0, none⟩), .pointer (some ⟨B4, 0, none⟩)]] wk fun e w' => e = .returned (.tuple #[]) ∧
      ((oddS n s1 = true ∧ TMid w br BR B4 BC B2 F s1 true c a1 c1 none 0 w') ∨
       (oddS n s1 = false ∧ ∃ a3 c3, TMid w br BR B4 BC B2 F (txtsS n.toNat s1).2 false ⟨c.kind, c.msg, c.ch, (txtsS n.toNat s1).1, c.count, c.commit, c.dest, c.name⟩ a1 c1 a3 c3 w')) := by
  have HI := Lib.hid h
  have q0 := h.q0
  have q1 := h.q1
  have hlen := takeS_len 4 s
  have HOD : Hid ((n < 0 ∨ 1000 < n) → s1.e = 0) := Lib.hid (by rw [← hnn, ← hss]; exact int_odd s)
  have HZ : Hid (s1.e ≠ 0 → n = 0) := Lib.hid (by rw [← hnn, ← hss]; exact int_zero s)
  rw [hss] at hlen
  clear h
  go_enter Tryd.func63, Tryd.ntmps63
  go_wp2_with fail
  refine (rint_any br F s wk HI.out.rd hs).mono ?_
  unfold ReadN
  rintro e w1 ⟨rfl, hR, hU⟩
  rw [hss] at hR
  rw [hnn]
  have HM := Lib.hid (HI.out.read (s' := s1) hR hU)
  clear hR hU q0 q1 hnn hss
  have q0 := HM.out.q0
  have q1 := HM.out.q1
  have herr := err_any br F s1.l s1.e w1 HM.out.rd
  by_cases ho : n < 0 ∨ 1000 < n
  · have hz : s1.e = 0 := HOD.out ho
    have HO : Hid (oddS n s1 = true) := Lib.hid (by unfold oddS; rw [hz]; simpa using ho)
    rw [hz] at herr
    have hfz := free_row (j := 1) HM.out.row
    have HMO := Lib.hid (HM.out.setOdd true)
    clear hz HOD
    rcases ho with ho | ho
    · go_wp2_with fail
      refine herr.mono ?_
      rintro e w' ⟨rfl, rfl⟩
      clear herr
      go_wp2_with fail
      exact ret_none rfl rfl ⟨rfl, .inl ⟨HO.out, HMO.out⟩⟩
    · have ho1 : decide (n < 0) = false := by rw [decide_eq_false_iff_not]; omega
      go_wp2_with fail
      refine herr.mono ?_
      rintro e w' ⟨rfl, rfl⟩
      clear herr
      go_wp2_with fail
      exact ret_none rfl rfl ⟨rfl, .inl ⟨HO.out, HMO.out⟩⟩
  · have hn1 : decide (n < 0) = false := by rw [decide_eq_false_iff_not]; omega
    have hn2 : decide (1000 < n) = false := by rw [decide_eq_false_iff_not]; omega
    have HO : Hid (oddS n s1 = false) := Lib.hid (by unfold oddS; rw [hn1, hn2]; simp)
    obtain ⟨n0, rfl⟩ := Int.eq_ofNat_of_zero_le (show 0 ≤ n by omega)
    have hn0 : n0 ≤ 1000 := by omega
    have hcc : c = ⟨c.kind, c.msg, c.ch, [], c.count, c.commit, c.dest, c.name⟩ := by rw [← hn]
    rw [hcc] at HM
    have HN0 := Lib.hid (Int.toNat_natCast n0)
    clear hcc hn HOD ho
    have herr0 := herr
    by_cases he : s1.e = 0
    case neg =>
      have hz0 : n0 = 0 := by have := HZ.out he; omega
      subst hz0
      have hbe : (s1.e == 0) = false := by simpa using he
      clear he
      go_wp2_with fail
      refine herr.mono ?_
      rintro e w' ⟨rfl, rfl⟩
      go_wp2_with fail
      go_loopw [4] (fun i wr => i = .int .i64 0 ∧ wr = w1) (fun _ _ => 0)
      case atStart => exact ⟨rfl, rfl⟩
      case round =>
        obtain ⟨rfl, rfl⟩ := hrel
        go_wp2_with fail
        go_end0
        exact ⟨rfl, .inr ⟨HO.out, none, 0, HM.out⟩⟩
    case pos =>
    rw [he] at herr
    clear herr0
    go_wp2_with fail
    refine herr.mono ?_
    rintro e w' ⟨rfl, rfl⟩
    clear herr q0 q1 he
    go_wp2_with fail
    go_loopw [4] (fun i wr => ∃ (m : Nat) (L : List (List UInt8)) (ar : Option Addr) (cr : Nat) (sj : RS), Hid (txtsS n0 s1 = (L ++ (txtsS m sj).1, (txtsS m sj).2)) ∧ L.length + m = n0 ∧ i = .int .i64 (m : Int) ∧ sj.l.length ≤ 100000000 ∧
        Hid (TMid w br BR B4 BC B2 F sj false ⟨c.kind, c.msg, c.ch, L, c.count, c.commit, c.dest, c.name⟩ a1 c1 ar cr wr)) (fun i _ => (intOf i).toNat)
    case atStart => exact ⟨n0, [], none, 0, s1, Lib.hid rfl, by simp, rfl, by omega, HM⟩
    case round =>
      clear HM
      obtain ⟨m, L, ar, cr, sj, HT, hLm, rfl, hsl, HI⟩ := hrel
      have q0 := HI.out.q0
      have herr := err_any br F sj.l sj.e wr HI.out.rd
      cases m with
      | zero =>
        have hI : ¬ (0 : Int) < ((0 : Nat) : Int) := by omega
        have HX : Hid (txtsS n0 s1 = (L, sj)) := Lib.hid (by rw [HT.out]; simp [txtsS])
        clear HT
        go_wp2_with fail
        go_end0
        exact ⟨rfl, .inr ⟨HO.out, ar, cr, by (try rw [HN0.out]); rw [HX.out]; exact HI.out⟩⟩
      | succ m =>
        have hm0 : (0 : Int) < ((m + 1 : Nat) : Int) := by omega
        have hmw : IntKind.i64.wrap (((m + 1 : Nat) : Int) - 1) = (m : Int) := by rw [show (((m + 1 : Nat) : Int) - 1) = (m : Int) by omega]; exact IntWalk.i64_in _ (by omega)
        by_cases he : sj.e = 0
        case neg =>
          have hbe : (sj.e == 0) = false := by simpa using he
          have HX : Hid (txtsS n0 s1 = (L, sj)) := Lib.hid (by rw [HT.out, txtsS_stop _ _ he]; simp)
          clear HT he
          go_wp2_with fail
          refine herr.mono ?_
          rintro e w' ⟨rfl, rfl⟩
          clear herr
          go_wp2_with fail
          go_end0
          exact ⟨rfl, .inr ⟨HO.out, ar, cr, by (try rw [HN0.out]); rw [HX.out]; exact HI.out⟩⟩
        case pos =>
          rw [he] at herr
          have hs1 : txtsS (m + 1) sj = ((textS sj).1 :: (txtsS m (textS sj).2).1, (txtsS m (textS sj).2).2) := by rw [txtsS, if_neg (by simpa using he)]
          have HS1 := Lib.hid hs1
          have hl1 : (textS sj).2.l.length ≤ 100000000 := Nat.le_trans (textS_len1 sj) hsl
          have hone := cTake2_any HI.out hsl (by show L.length ≤ _; omega)
          clear hs1 he
          go_wp2_with fail
          refine herr.mono ?_
          rintro e w' ⟨rfl, rfl⟩
          clear herr
          go_wp2_with fail
          refine hone.mono ?_
          rintro e w2 ⟨rfl, a3, c3, hM⟩
          have HM2 := Lib.hid hM
          have HT2 : Hid (txtsS n0 s1 = ((L ++ [(textS sj).1]) ++ (txtsS m (textS sj).2).1, (txtsS m (textS sj).2).2)) := Lib.hid (by rw [HT.out, HS1.out]; simp)
          have hLm2 : (L ++ [(textS sj).1]).length + m = n0 := by rw [List.length_append, List.length_singleton]; omega
          clear hM hone HT HS1 HI q0 hLm
          generalize L ++ [(textS sj).1] = L2 at *
          generalize (textS sj).2 = s2 at *
          go_wp2_with fail
          go_roundw
          case rel => exact ⟨m, L2, a3, c3, s2, HT2, hLm2, by first | rfl | go_num, hl1, HM2⟩
          case measure => first | (simp [intOf]; done) | (simp [intOf]; omega)
end Go.Proofs.YteefceainlfdfaaDoor
