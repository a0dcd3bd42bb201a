
/- The walks of octets: copies, and the reader. -/
import Derived.Test.YtccejkikphpnfaaGreatDoorOct2
import Derived.Test.YtccejkikphpnfaaGreatDoorNum
namespace Go.Proofs.YtccejkikphpnfaaGreatDoor
set_option linter.unusedSimpArgs false
set_option linter.unusedVariables false
open Go.ChangeShapes Go.WideShapes Go.ChangeAt Go.RowKit

/-- A new slice of bytes, the call's own; nothing that was there has changed. -/
def MadeB (w : World) (l : List UInt8) (nil : Bool) (e : Ending) (w' : World) : Prop :=
  ∃ a c, e = .returned (.slice a l.length c) ∧ w'.ownsRow 0 5 1 (.slice a l.length c) l.length (bvs l) ∧ Upd (fun _ => False) w w' ∧ (∀ g, blk a = some g → w.heap.size ≤ g) ∧ (a = none ↔ nil = true)

theorem clone_any (a : Option Addr) (c : Nat) (l : List UInt8) (w : World) (hv : Vw w a l.length c 1 (bvs l)) (hl : l.length ≤ 100000000) :
    Calls Tryz.prog 84 #[.slice a l.length c] w (MadeB w l a.isNone) := by
  obtain ⟨i0, hi, hz0, hz1, hz2⟩ := info_parts infoU8
  cases a with
  | none =>
    have hc := hv.nil rfl
    have hn : l.length = 0 := by have := hv.le; omega
    have hl0 : l = [] := List.eq_nil_of_length_eq_zero hn
    subst hl0 hc
    go_enter Tryz.func84, Tryz.ntmps84
    go_wp2_with fail
    go_ret
    exact ⟨none, 0, rfl, World.ownsRow_nil _ _ _ _, Upd.refl _ _, (fun g h => by cases h), (by simp)⟩
  | some x =>
    have hsrc := hv.src (P := Tryz.prog) (t := 33) Tryz.underlying33 (bvs_cells l)
    go_enter Tryz.func84, Tryz.ntmps84
    go_wp2_with (at_builtin; refine wpList_app _ rfl (.tmp 5) (.tmp 6) 33 33 rfl 5 i0 (.int .u8 0) 1 1 Tryz.underlying33 hi hz0 hz1 hz2 rfl (some ⟨w.heap.size, 0, none⟩) 0 0 [] rfl (World.ownsRow_made w #[] 0 (Nat.zero_le _) (Nat.zero_le _) (by simp)) (.slice (some x) l.length c) l.length (bvs l) rfl ?_ ?_ ?_ ?_)
    · exact (hv.upd (Upd.alloc (fun _ => False) w _) (fun _ _ h => h)).src (P := Tryz.prog) (t := 33) Tryz.underlying33 (bvs_cells l)
    · unfold maxLen; omega
    · omega
    intro a2 c2 w2 hown hg hat hnil
    go_wp2_with fail
    go_ret
    simp only [Nat.zero_add, List.nil_append] at *
    refine ⟨a2, c2, rfl, hown, ?_, ?_, ?_⟩
    · exact (Upd.alloc (fun _ => False) w (.cells #[] 5)).next (Upd.grown (S := fun k => k = w.heap.size) hg (fun k hk => by simpa [blk] using hk.symm)) (fun i hi h => by omega)
    · intro g hg'
      rcases hat with h | h
      · rw [h] at hg'; simp [blk] at hg'; omega
      · rw [h] at hg'; simp at hg'; omega
    · simp [hnil]

theorem bytes_nil (w : World) : Calls Tryz.prog 48 #[.pointer none] w fun e w' => e = .returned (.slice none 0 0) ∧ w = w' := by
  go_enter Tryz.func48, Tryz.ntmps48
  go_wp2
  go_ret
  exact ⟨rfl, rfl⟩
theorem bytes_any (bw : Nat) (T : TypeId) (a : Option Addr) (c : Nat) (l : List UInt8) (w : World) (hw : Wr w bw T a c l) (hl : l.length ≤ 100000000) :
    Calls Tryz.prog 48 #[.pointer (some ⟨bw, 0, none⟩)] w (MadeB w l a.isNone) := by
  have hc : w.cell? ⟨bw, 0, none⟩ = some (.slice a l.length c) := by rw [cell_of_row _ _ _ _ _ _ hw.here]; rfl
  go_enter Tryz.func48, Tryz.ntmps48
  go_wp2_with fail
  refine (clone_any a c l w (Vw.of_own hw.own) hl).mono ?_
  rintro e w' ⟨a', c', rfl, hrest⟩
  go_wp2_with fail
  go_ret
  exact ⟨a', c', rfl, hrest⟩

/-- A reader: the block br holds the slice of what is left, and what is wrong; the bytes lie in block F. -/
structure Rd (w : World) (br : Nat) (F : Option Nat) (l : List UInt8) (e : Int) : Prop where
  ex : ∃ a c, w.heap[br]? = some (.cells #[.slice a l.length c, .int .i64 e] 169 (0, 0)) ∧ Vw w a l.length c 1 (bvs l) ∧ (blk a = none ∨ blk a = F)
  ne : F ≠ some br
/-- What a reader is, in the mind. -/
structure RS where
  l : List UInt8
  e : Int
def takeS (n : Nat) (s : RS) : List UInt8 × RS := if s.e ≠ 0 then ([], s) else if s.l.length < n then ([], ⟨[], 4⟩) else (s.l.take n, ⟨s.l.drop n, 0⟩)

theorem read_any (a : Option Addr) (c : Nat) (l : List UInt8) (w : World) (hv : Vw w a l.length c 1 (bvs l)) (hl : l.length ≤ 100000000) :
    Calls Tryz.prog 93 #[.slice a l.length c] w fun e w' => ∃ br F, e = .returned (.pointer (some ⟨br, 0, none⟩)) ∧ Rd w' br F l 0 ∧ Upd (fun _ => False) w w' ∧ w.heap.size ≤ br ∧ (∀ g, F = some g → w.heap.size ≤ g) := by
  go_enter Tryz.func93, Tryz.ntmps93
  go_wp2_with fail
  refine (clone_any a c l w hv hl).mono ?_
  rintro e w1 ⟨a', c', rfl, hown, hU, hfr, hnil⟩
  have hz := hU.size
  have hvw := Vw.of_own hown
  have hlt : ∀ g, blk a' = some g → g < w1.heap.size := fun g hg => (hown.lt g ((own_blk _ _ _).trans hg)).2
  have Hfr := Lib.hid hfr; clear hfr
  go_wp2_with fail
  go_ret
  refine ⟨w1.heap.size, blk a', rfl, ⟨⟨a', c', heap_alloc_new _ _, hvw.upd (Upd.alloc (fun _ => False) _ _) (fun _ _ h => h), .inr rfl⟩, ?_⟩, hU.trans (Upd.alloc _ _ _), hz, Hfr.out⟩
  intro e; exact absurd (hlt _ e) (Nat.lt_irrefl _)

theorem wrong_any (br : Nat) (F : Option Nat) (l : List UInt8) (e0 e : Int) (w : World) (hr : Rd w br F l e0) :
    Calls Tryz.prog 141 #[.pointer (some ⟨br, 0, none⟩), .int .i64 e] w fun x w' => x = .returned (.tuple #[]) ∧ Rd w' br F [] e ∧ Upd (fun k => k = br) w w' := by
  obtain ⟨⟨a, c, hh, hv, hb⟩, hne⟩ := hr
  have hc0 : w.cell? ⟨br, 0, none⟩ = some (.slice a l.length c) := by rw [cell_of_row _ _ _ _ _ _ hh]; rfl
  have hc1 : w.cell? ⟨br, 1, none⟩ = some (.int .i64 e0) := by rw [cell_of_row _ _ _ _ _ _ hh]; rfl
  have hf0 : w.frozen? ⟨br, 0, none⟩ = false := by simp [World.frozen?, hh]
  have hf1 : w.frozen? ⟨br, 1, none⟩ = false := by simp [World.frozen?, hh]
  go_enter Tryz.func141, Tryz.ntmps141
  go_wp2_with fail
  go_end0
  refine ⟨rfl, ⟨⟨none, 0, ?_, Vw.nl _ _, .inl rfl⟩, hne⟩, (Upd.setCell (S := fun k => k = br) w rfl _).trans (Upd.setCell (S := fun k => k = br) _ rfl _)⟩
  rw [setCell_heap 1 _ (setCell_heap 0 _ hh)]; rfl
/-- What take leaves: the bytes that are taken (they lie in the reader's block), and the reader behind them. -/
def Took (w : World) (br : Nat) (F : Option Nat) (n : Nat) (s : RS) (e : Ending) (w' : World) : Prop :=
  ∃ a c, e = .returned (.slice a (takeS n s).1.length c) ∧ Vw w' a (takeS n s).1.length c 1 (bvs (takeS n s).1) ∧ (blk a = none ∨ blk a = F) ∧ (a = none ∨ s.e = 0 ∧ n ≤ s.l.length) ∧ Rd w' br F (takeS n s).2.l (takeS n s).2.e ∧ Upd (fun k => k = br) w w'
theorem take_nil (n : Int) (w : World) : Calls Tryz.prog 129 #[.pointer none, .int .i64 n] w fun e w' => e = .returned (.slice none 0 0) ∧ w = w' := by
  go_enter Tryz.func129, Tryz.ntmps129
  go_wp2
  go_ret
  exact ⟨rfl, rfl⟩
theorem take_any (br : Nat) (F : Option Nat) (s : RS) (n : Nat) (w : World) (hr : Rd w br F s.l s.e) (hl : s.l.length ≤ 100000000) :
    Calls Tryz.prog 129 #[.pointer (some ⟨br, 0, none⟩), .int .i64 n] w (Took w br F n s) := by
  obtain ⟨l, e0⟩ := s
  have hr0 := hr
  obtain ⟨⟨a, c, hh, hv, hb⟩, hne⟩ := hr
  simp only at hh hv hb hl
  have hc0 : w.cell? ⟨br, 0, none⟩ = some (.slice a l.length c) := by rw [cell_of_row _ _ _ _ _ _ hh]; rfl
  have hc1 : w.cell? ⟨br, 1, none⟩ = some (.int .i64 e0) := by rw [cell_of_row _ _ _ _ _ _ hh]; rfl
  have hf0 : w.frozen? ⟨br, 0, none⟩ = false := by simp [World.frozen?, hh]
  by_cases he : e0 = 0
  · subst he
    by_cases hn : l.length < n
    · go_enter Tryz.func129, Tryz.ntmps129
      go_wp2_with (go_at_call 141; refine (wrong_any br F l 0 4 w hr0).mono ?_; rintro e w' ⟨rfl, hR, hU⟩)
      go_ret
      have e1 : takeS n ⟨l, 0⟩ = ([], ⟨[], 4⟩) := by simp [takeS, hn]
      unfold Took
      rw [e1]
      exact ⟨none, 0, rfl, Vw.nl _ _, .inl rfl, .inl rfl, hR, hU⟩
    · have hle : n ≤ l.length := by omega
      have hcap := hv.cap
      have hlc := hv.le
      unfold maxLen at hcap
      have e1 : takeS n ⟨l, 0⟩ = (l.take n, ⟨l.drop n, 0⟩) := by simp [takeS, hn]
      have v1 := hv.pre n hle
      have v2 := hv.post n hle
      have l1 : (l.take n).length = n := by simp; omega
      have l2 : (l.drop n).length = l.length - n := by simp
      have fin : ∀ a2, a2 = (if c = n then a else a.map (·.add (n * 1))) → Took w br F n ⟨l, 0⟩ (.returned (.slice a n c)) (w.setCell ⟨br, 0, none⟩ (.slice a2 (l.length - n) (c - n))) := by
        intro a2 ha2
        rw [← ha2] at v2
        have hnb : ∀ k, blk a = some k → k ≠ br := by
          intro k hk e
          rcases hb with h | h
          · rw [h] at hk; cases hk
          · exact hne (by rw [← h, hk, e])
        have hb2 : blk a2 = blk a := by
          rw [ha2]; split
          · rfl
          · cases a with
            | none => rfl
            | some x => simp only [blk, Option.map_some, Addr.add]; split <;> rfl
        unfold Took
        rw [e1]
        simp only [l1]
        refine ⟨a, c, rfl, ?_, hb, .inr ⟨trivial, hle⟩, ⟨⟨a2, c - n, ?_, ?_, ?_⟩, hne⟩, Upd.setCell (S := fun k => k = br) w rfl _⟩
        · have := v1.upd (Upd.setCell (S := fun k => k = br) w (p := ⟨br, 0, none⟩) rfl (.slice a2 (l.length - n) (c - n))) (fun k hk => hnb k hk)
          simpa [bvs, List.map_take] using this
        · rw [setCell_heap 0 _ hh, l2]; rfl
        · have := v2.upd (Upd.setCell (S := fun k => k = br) w (p := ⟨br, 0, none⟩) rfl (.slice a2 (l.length - n) (c - n))) (fun k hk => hnb k (hb2 ▸ hk))
          rw [l2]
          simpa [bvs, List.map_drop] using this
        · rw [hb2]; exact hb
      clear v1 v2 e1 l1 l2
      have HF := Lib.hid fin; clear fin
      by_cases hcn : c = n
      · subst hcn
        go_enter Tryz.func129, Tryz.ntmps129
        go_wp2_with fail
        go_ret
        have := HF.out a (by simp)
        have hz : l.length - c = 0 := by omega
        rw [Nat.sub_self, hz] at this
        exact this
      · go_enter Tryz.func129, Tryz.ntmps129
        go_wp2_with fail
        go_ret
        exact HF.out _ (by rw [if_neg hcn]; simp)
  · have hb1 : (e0 != 0) = true := by simpa using he
    go_enter Tryz.func129, Tryz.ntmps129
    go_wp2_with fail
    go_ret
    have e1 : takeS n ⟨l, e0⟩ = ([], ⟨l, e0⟩) := by simp [takeS, he]
    unfold Took
    rw [e1]
    exact ⟨none, 0, rfl, Vw.nl _ _, .inl rfl, .inl rfl, hr0, Upd.refl _ _⟩

theorem leN_le (x k : Nat) : leN (le x k) = x % 256 ^ k := by
  induction k generalizing x with
  | zero => simp [le, leN, Nat.mod_one]
  | succ k ih =>
    rw [le, leN, ih, UInt8.toNat_ofNat', show 256 ^ (k + 1) = 256 * 256 ^ k from by rw [Nat.pow_succ, Nat.mul_comm], Nat.mod_mul]

theorem err_nil (w : World) : Calls Tryz.prog 140 #[.pointer none] w fun e w' => e = .returned (.int .i64 2) ∧ w = w' := by
  go_enter Tryz.func140, Tryz.ntmps140
  go_wp2
  go_ret
  exact ⟨rfl, rfl⟩
theorem err_any (br : Nat) (F : Option Nat) (l : List UInt8) (e : Int) (w : World) (hr : Rd w br F l e) : Calls Tryz.prog 140 #[.pointer (some ⟨br, 0, none⟩)] w fun x w' => x = .returned (.int .i64 e) ∧ w = w' := by
  obtain ⟨⟨a, c, hh, hv, hb⟩, hne⟩ := hr
  have hc1 : w.cell? ⟨br, 1, none⟩ = some (.int .i64 e) := by rw [cell_of_row _ _ _ _ _ _ hh]; rfl
  go_enter Tryz.func140, Tryz.ntmps140
  go_wp2
  go_ret
  exact ⟨rfl, rfl⟩
theorem rnum_nil (n : Int) (w : World) : Calls Tryz.prog 94 #[.pointer none, .int .i64 n] w fun e w' => e = .returned (.int .u64 0) ∧ w = w' := by
  go_enter Tryz.func94, Tryz.ntmps94
  go_wp2_with (first | (go_at_call 83; refine (held_any _ _).mono ?_; rintro e w' ⟨rfl, rfl⟩) | (go_at_call 129; refine (take_nil _ _).mono ?_; rintro e w' ⟨rfl, rfl⟩))
  refine wp_loop_once ?_
  go_wp2_with fail
  go_ret
  exact ⟨rfl, rfl⟩
def heldN (n : Int) : Nat := (min (max n 1) 8).toNat
/-- What a number's reading leaves. -/
def ReadN (w : World) (br : Nat) (F : Option Nat) (s' : RS) (v : Value) (e : Ending) (w' : World) : Prop :=
  e = .returned v ∧ Rd w' br F s'.l s'.e ∧ Upd (fun k => k = br) w w'
theorem rnum_any (br : Nat) (F : Option Nat) (s : RS) (n : Int) (w : World) (hr : Rd w br F s.l s.e) (hl : s.l.length ≤ 100000000) :
    Calls Tryz.prog 94 #[.pointer (some ⟨br, 0, none⟩), .int .i64 n] w (ReadN w br F (takeS (heldN n) s).2 (.int .u64 (leN (takeS (heldN n) s).1))) := by
  have hN : min (max n 1) 8 = (heldN n : Int) := by unfold heldN; omega
  have h8 : heldN n ≤ 8 := by unfold heldN; omega
  generalize heldN n = k at *
  have HN := Lib.hid hN; clear hN
  go_enter Tryz.func94, Tryz.ntmps94
  go_wp2_with fail
  refine (held_any _ _).mono ?_
  rintro e w' ⟨rfl, rfl⟩
  rw [HN.out]
  go_wp2_with fail
  refine (take_any br F s k w hr hl).mono ?_
  rintro e w1 ⟨a, c, rfl, hv, hb, hz, hR, hU⟩
  have hlen : (takeS k s).1.length ≤ 8 := by
    unfold takeS; split
    · simp
    · split <;> simp; omega
  generalize (takeS k s).1 = t at *
  generalize (takeS k s).2 = s' at *
  go_wp2_with fail
  go_loop [5, 13] (fun v i => ∃ j : Nat, j ≤ t.length ∧ i = .int .i64 j ∧ v = .int .u64 (leN (t.take j))) (fun _ i => t.length - (intOf i).toNat)
  case atStart => exact ⟨0, Nat.zero_le _, rfl, rfl⟩
  case round =>
    obtain ⟨j, hj, rfl, rfl⟩ := hrel
    by_cases hlt : j < t.length
    · obtain ⟨b, off, rfl, hcell⟩ := hv.at (by omega) (by decide)
      have hce := hcell j _ (bvs_get t j hlt)
      go_wp2_with fail
      go_round
      case rel => exact ⟨j + 1, by omega, by go_num, or_step_u64 t j (by omega) hlt⟩
      case measure => simp [intOf]; omega
    · go_wp2_with fail
      go_ret
      have e : List.take j t = t := List.take_of_length_le (by omega)
      refine ⟨?_, hR, hU⟩
      simp only [e]
      rfl

/-- The number that Int reads. -/
def intV (s : RS) : Int := if s.e = 0 ∧ 4 ≤ s.l.length then (leN (s.l.take 4) : Int) - 1 else 0
theorem rint_nil (w : World) : Calls Tryz.prog 98 #[.pointer none] w fun e w' => e = .returned (.int .i64 0) ∧ w = w' := by
  go_enter Tryz.func98, Tryz.ntmps98
  go_wp2_with (go_at_call 129; refine (take_nil _ _).mono ?_; rintro e w' ⟨rfl, rfl⟩)
  go_ret
  exact ⟨rfl, rfl⟩
theorem rint_any (br : Nat) (F : Option Nat) (s : RS) (w : World) (hr : Rd w br F s.l s.e) (hl : s.l.length ≤ 100000000) :
    Calls Tryz.prog 98 #[.pointer (some ⟨br, 0, none⟩)] w (ReadN w br F (takeS 4 s).2 (.int .i64 (intV s))) := by
  go_enter Tryz.func98, Tryz.ntmps98
  go_wp2_with fail
  refine (take_any br F s 4 w hr hl).mono ?_
  rintro e w1 ⟨a, c, rfl, hv, hb, hz, hR, hU⟩
  by_cases hok : s.e = 0 ∧ 4 ≤ s.l.length
  · have e1 : takeS 4 s = (s.l.take 4, ⟨s.l.drop 4, 0⟩) := by simp [takeS, hok.1]; omega
    have e2 : intV s = (leN (takeS 4 s).1 : Int) - 1 := by rw [e1]; exact if_pos hok
    have hlen : (takeS 4 s).1.length = 4 := by rw [e1]; simp; omega
    have hlt4 := leN_lt (takeS 4 s).1
    rw [hlen] at hlt4
    generalize (takeS 4 s).1 = t at *
    generalize (takeS 4 s).2 = s' at *
    obtain ⟨b, off, rfl, hcell⟩ := hv.at (by omega) (by decide)
    have hlen' : t.length ≤ 4 := by omega
    have E2 := Lib.hid e2
    clear hlen e1 e2 hok
    go_wp2_with fail
    go_loop [4, 13] (fun v i => ∃ j : Nat, j ≤ t.length ∧ i = .int .i64 j ∧ v = .int .i64 (leN (t.take j))) (fun _ i => t.length - (intOf i).toNat)
    case atStart => exact ⟨0, Nat.zero_le _, rfl, rfl⟩
    case round =>
      obtain ⟨j, hj, rfl, rfl⟩ := hrel
      by_cases hlt : j < t.length
      · have hce := hcell j _ (bvs_get t j hlt)
        have hby := t[j].toNat_lt
        go_wp2_with fail
        go_round
        case rel => exact ⟨j + 1, by omega, by go_num, or_step_i64 t j (by omega) hlt⟩
        case measure => simp [intOf]; omega
      · obtain rfl : j = t.length := by omega
        rw [List.take_length]
        have hlt4' : (leN t : Int) ≤ 4294967296 := by omega
        go_wp2_with fail
        go_ret
        unfold ReadN
        rw [E2.out]
        exact ⟨rfl, hR, hU⟩
  · have e2 : intV s = 0 := if_neg hok
    have ha : a = none := by
      rcases hz with h | h
      · exact h
      · exact absurd h hok
    subst ha
    have E2 := Lib.hid e2
    clear hok e2
    go_wp2_with fail
    go_ret
    unfold ReadN
    rw [E2.out]
    exact ⟨rfl, hR, hU⟩
end Go.Proofs.YtccejkikphpnfaaGreatDoor
