
/- The walks of the helpers (rickhelp): copies with spare room, and whether they are as they were; lists of bytes held against each other. -/
import Derived.Test.YtccejkikphpnfaaGreatDoorOct6
namespace Go.Proofs.YtccejkikphpnfaaGreatDoor
set_option linter.unusedSimpArgs false
set_option linter.unusedVariables false
open Go.ChangeShapes Go.WideShapes Go.ChangeAt Go.RowKit

/-- One more cell of a row of the call's own. -/
theorem ownsRow_more {w : World} {e : TypeId} {g n c : Nat} {xs : List Value} (h : w.ownsRow 0 e 1 (.slice (some ⟨g, 0, none⟩) n c) n xs) (hn : n < c) (u : Value) :
    (w.setCell ⟨g, n, none⟩ u).ownsRow 0 e 1 (.slice (some ⟨g, 0, none⟩) (n + 1) c) (n + 1) (xs ++ [u]) := by
  rcases h.2 with ⟨hv, _⟩ | ⟨g', cap, cur, hv, hbg, hg, hnc, hcm, hcs, htake⟩
  · cases hv
  · simp only [Value.slice.injEq, Option.some.injEq, Addr.mk.injEq, and_true, true_and] at hv
    obtain ⟨rfl, rfl⟩ := hv
    simp only [Nat.mul_one] at *
    refine ⟨by rw [List.length_append, h.1]; simp, .inr ⟨g, c, cur.setIfInBounds n u, rfl, hbg, setCell_heap n u hg, hn, hcm, by simpa using hcs, ?_⟩⟩
    rw [← htake, Nat.mul_one]
    have hl : n < cur.toList.length := by rw [Array.length_toList]; omega
    rw [Array.toList_setIfInBounds]
    rw [List.take_succ_eq_append_getElem (by simpa using hl), List.take_set_of_le (Nat.le_refl n)]
    simp
theorem ownsRow_cell {w : World} {e : TypeId} {g n c : Nat} {xs : List Value} (h : w.ownsRow 0 e 1 (.slice (some ⟨g, 0, none⟩) n c) n xs) (j : Nat) (hj : j < c) : ∃ v, w.cell? ⟨g, j, none⟩ = some v ∧ w.frozen? ⟨g, j, none⟩ = false := by
  rcases h.2 with ⟨hv, _⟩ | ⟨g', cap, cur, hv, hbg, hg, hnc, hcm, hcs, htake⟩
  · cases hv
  · simp only [Value.slice.injEq, Option.some.injEq, Addr.mk.injEq, and_true, true_and] at hv
    obtain ⟨rfl, rfl⟩ := hv
    rw [cell_of_row _ _ _ _ _ _ hg]
    exact ⟨cur[j]'(by omega), by simp, by simp [World.frozen?, hg]⟩

/-- A copy with three more behind it. -/
def OwnedB (w : World) (l : List UInt8) (f : UInt8) (e : Ending) (w' : World) : Prop :=
  ∃ g, e = .returned (.slice (some ⟨g, 0, none⟩) l.length (l.length + 3)) ∧ w'.ownsRow 0 5 1 (.slice (some ⟨g, 0, none⟩) (l.length + 3) (l.length + 3)) (l.length + 3) (bvs (l ++ [f, f, f])) ∧ Upd (fun _ => False) w w' ∧ w.heap.size ≤ g
set_option maxRecDepth 100000 in
set_option maxHeartbeats 1000000 in
theorem ownB_any (a : Option Addr) (c : Nat) (l : List UInt8) (f : UInt8) (w : World) (hv : Vw w a l.length c 1 (bvs l)) (hl : l.length ≤ 100000000) :
    Calls Tryz.prog 34 #[.slice a l.length c, .int .u8 (f.toNat : Int)] w (OwnedB w l f) := by
  obtain ⟨i0, hi, hz0, hz1, hz2⟩ := info_parts infoU8
  have hs3 : IntKind.i64.wrap ((l.length : Int) + 3) = (l.length : Int) + 3 := IntWalk.i64_in _ (by omega)
  go_enter Tryz.func34, Tryz.ntmps34
  go_wp2_with (at_make; refine wpList_make_own w rfl (.const (.int .i64 0)) (.tmp 10) 33 rfl 0 5 i0 (.int .u8 0) 1 Tryz.underlying33 hi hz0 hz1 .i64 .i64 ((l.length : Int) + 3) (l.length + 3) rfl rfl (by omega) ?_ ?_ (Nat.zero_le _) ?_)
  · rw [hz2]; omega
  · unfold maxLen; omega
  intro w1 hown1 hg1
  have hU1 : Upd (fun _ => False) w w1 := Upd.grown hg1 (fun k hk => by cases hk)
  have hv1 := hv.upd hU1 (fun _ _ h => h)
  have hsrc := hv1.src (P := Tryz.prog) (t := 33) Tryz.underlying33 (bvs_cells l)
  clear hg1 hv
  go_wp2_with (at_builtin; refine wpList_fits _ rfl (.tmp 12) (.tmp 13) 33 33 rfl 5 i0 1 Tryz.underlying33 hi hz1 (some ⟨w.heap.size, 0, none⟩) 0 (l.length + 3) [] rfl hown1 (.slice a l.length c) l.length (bvs l) rfl hsrc ?_ ?_)
  · omega
  intro w2 hown2 hg2
  try simp only [Nat.zero_add, List.nil_append] at hown2
  have hU2 : Upd (fun _ => False) w w2 := hU1.next (Upd.grown (S := fun k => k = w.heap.size) hg2 (fun k hk => by simpa [blk] using hk.symm)) (fun i hi h => by omega)
  generalize hg : w.heap.size = g at *
  have HG := Lib.hid hg
  clear hg hown1 hU1 hg2 hsrc hv1
  have hq : (l.length : Int) + 3 = ((l.length + 3 : Nat) : Int) := by omega
  have HQ := Lib.hid hq; clear hq
  go_wp2_with fail
  go_loopw [7] (fun i wr => ∃ j : Nat, j ≤ 3 ∧ i = .int .i64 ((l.length + j : Nat) : Int) ∧ wr.ownsRow 0 5 1 (.slice (some ⟨g, 0, none⟩) (l.length + j) (l.length + 3)) (l.length + j) (bvs (l ++ List.replicate j f)) ∧ Upd (fun _ => False) w wr) (fun i _ => (l.length + 3) - (intOf i).toNat)
  case atStart => exact ⟨0, by omega, rfl, by simpa using hown2, hU2⟩
  case round =>
    obtain ⟨j, hj, rfl, hown, hU⟩ := hrel
    clear hown2 hU2
    by_cases hlt : j < 3
    · obtain ⟨v, hce, hfr⟩ := ownsRow_cell hown (l.length + j) (by omega)
      have hown' := ownsRow_more hown (by omega) (.int .u8 (f.toNat : Int))
      have hU' : Upd (fun _ => False) w (wr.setCell ⟨g, l.length + j, none⟩ (.int .u8 (f.toNat : Int))) := hU.next (Upd.setCell (S := fun k => k = g) wr rfl _) (fun i hi h => by have := HG.out; omega)
      have hI : ((l.length + j : Nat) : Int) < ((l.length : Nat) : Int) + 3 := by omega
      have hI2 : ((l.length + j : Nat) : Int).toNat = l.length + j := by omega
      have H1 := Lib.hid hown'
      have H2 := Lib.hid hU'
      clear hown' hU'
      go_wp2_with fail
      go_roundw
      case rel =>
        refine ⟨j + 1, by omega, by go_num, ?_, H2.out⟩
        have := H1.out
        simpa [bvs, bv, List.replicate_succ', ← List.append_assoc, Nat.add_assoc] using this
      case measure => simp [intOf]; omega
    · obtain rfl : j = 3 := by omega
      go_wp2_with fail
      go_ret
      exact ⟨g, rfl, by simpa using hown, hU, by have := HG.out; omega⟩

/-! Lists of bytes held against each other -/
theorem eqlB_any (x y : UInt8) (w : World) : Calls Tryz.prog 114 #[.int .u8 (x.toNat : Int), .int .u8 (y.toNat : Int)] w fun e w' => e = .returned (.bool (x == y)) ∧ w = w' := by
  have h : ((x.toNat : Int) == (y.toNat : Int)) = (x == y) := by
    rw [Bool.eq_iff_iff]; simp [← UInt8.toNat_inj]; omega
  have H := Lib.hid h; clear h
  go_enter Tryz.func114, Tryz.ntmps114
  go_wp2
  go_ret
  exact ⟨by rw [← H.out]; rfl, rfl⟩
set_option maxRecDepth 100000 in
set_option maxHeartbeats 1000000 in
theorem sameB_any (a a2 : Option Addr) (c c2 : Nat) (l k : List UInt8) (w : World) (hv : Vw w a l.length c 1 (bvs l)) (hv2 : Vw w a2 k.length c2 1 (bvs k)) :
    Calls Tryz.prog 113 #[.slice a l.length c, .slice a2 k.length c2, .func (.func 114) #[] #[]] w fun e w' => e = .returned (.bool (l == k)) ∧ Upd (fun _ => False) w w' := by
  have hcap := hv.cap
  have hlc := hv.le
  have hcap2 := hv2.cap
  have hlc2 := hv2.le
  unfold maxLen at hcap hcap2
  by_cases hlen : l.length = k.length
  · have hb : ((l.length : Int) != (k.length : Int)) = false := by simp [hlen]
    have HL := Lib.hid hlen
    clear hlen
    go_enter Tryz.func113, Tryz.ntmps113
    go_wp2_with fail
    go_loopw [7] (fun i wr => ∃ j : Nat, j ≤ l.length ∧ i = .int .i64 (j : Int) ∧ Upd (fun _ => False) w wr ∧ Hid (l.take j = k.take j)) (fun i _ => l.length - (intOf i).toNat)
    case atStart => exact ⟨0, Nat.zero_le _, rfl, Upd.refl _ _, rfl⟩
    case round =>
      obtain ⟨j, hj, rfl, hU, hE⟩ := hrel
      have hvr := hv.upd hU (fun _ _ h => h)
      have hvr2 := hv2.upd hU (fun _ _ h => h)
      by_cases hlt : j < l.length
      · have hlt2 : j < k.length := by have := HL.out; omega
        obtain ⟨b, off, rfl, hcell⟩ := hvr.at (by omega) (by decide)
        obtain ⟨b2, off2, rfl, hcell2⟩ := hvr2.at (by omega) (by decide)
        have hce := hcell j _ (bvs_get l j hlt)
        have hce2 := hcell2 j _ (bvs_get k j hlt2)
        have hI : (j : Int) < (l.length : Int) := by omega
        have hI2 : (j : Int) < (k.length : Int) := by omega
        have hI0 : (0 : Int) ≤ (j : Int) := by omega
        by_cases hxy : l[j] = k[j]
        · have hbe : (l[j] == k[j]) = true := by simpa using hxy
          have HX := Lib.hid hxy; clear hxy
          go_wp2_with fail
          go_quiet ((go_at_call 114; exact Calls.quiet_of_same ((eqlB_any _ _ _).mono fun e w' h => ⟨h.1, h.2.symm⟩)))
          go_wp2_with fail
          go_roundw
          case rel => exact ⟨j + 1, by omega, by go_num, hU.trans (Upd.drewN _ _ _), by show _ = _; rw [take_succ_get l j hlt, take_succ_get k j hlt2, hE.out, HX.out]⟩
          case measure => simp [intOf]; omega
        · have hbe : (l[j] == k[j]) = false := by simpa using hxy
          have hne : (l == k) = false := by
            cases h : l == k
            · rfl
            · have e := eq_of_beq h
              exact absurd (by subst e; rfl) hxy
          have HNE := Lib.hid hne; clear hne hxy
          go_wp2_with fail
          go_quiet ((go_at_call 114; exact Calls.quiet_of_same ((eqlB_any _ _ _).mono fun e w' h => ⟨h.1, h.2.symm⟩)))
          go_wp2_with fail
          go_ret
          exact ⟨by rw [HNE.out]; rfl, hU.trans (Upd.drewN _ _ _)⟩
      · have hI : ¬ (j : Int) < (l.length : Int) := by omega
        have heq : (l == k) = true := by
          have := hE.out
          rw [List.take_of_length_le (by omega), List.take_of_length_le (by have := HL.out; omega)] at this
          simpa using this
        have HE := Lib.hid heq; clear heq
        go_wp2_with fail
        go_ret
        exact ⟨by rw [HE.out]; rfl, hU⟩
  · have hb : ((l.length : Int) != (k.length : Int)) = true := by simp; omega
    have hne : (l == k) = false := by
      cases h : l == k
      · rfl
      · exact absurd (by rw [eq_of_beq h]) hlen
    have HNE := Lib.hid hne; clear hne hlen
    go_enter Tryz.func113, Tryz.ntmps113
    go_wp2_with fail
    go_ret
    exact ⟨by rw [HNE.out]; rfl, Upd.refl _ _⟩
theorem plainB_any (a a2 : Option Addr) (c c2 : Nat) (l k : List UInt8) (w : World) (hv : Vw w a l.length c 1 (bvs l)) (hv2 : Vw w a2 k.length c2 1 (bvs k)) :
    Calls Tryz.prog 72 #[.slice a l.length c, .slice a2 k.length c2] w fun e w' => e = .returned (.bool (l == k)) ∧ Upd (fun _ => False) w w' := by
  go_enter Tryz.func72, Tryz.ntmps72
  go_wp2_with (go_at_call 113; refine (sameB_any a a2 c c2 l k w hv hv2).mono ?_; rintro e w1 ⟨rfl, hU⟩)
  go_ret
  exact ⟨rfl, hU⟩
/-- The copy, and the room behind it, are as they were. -/
theorem keptB_any (g : Nat) (a2 : Option Addr) (c2 : Nat) (l : List UInt8) (f : UInt8) (w : World) (hl : l.length ≤ 100000000)
    (hown : w.ownsRow 0 5 1 (.slice (some ⟨g, 0, none⟩) (l.length + 3) (l.length + 3)) (l.length + 3) (bvs (l ++ [f, f, f]))) (hv2 : Vw w a2 l.length c2 1 (bvs l)) :
    Calls Tryz.prog 36 #[.slice (some ⟨g, 0, none⟩) l.length (l.length + 3), .slice a2 l.length c2, .int .u8 (f.toNat : Int)] w fun e w' => e = .returned (.bool true) ∧ Upd (fun _ => False) w w' := by
  have hv := Vw.of_own hown
  have hp := hv.pre l.length (by omega)
  have hp' : Vw w (some ⟨g, 0, none⟩) l.length (l.length + 3) 1 (bvs l) := by simpa [bvs] using hp
  have hs3 : IntKind.i64.wrap ((l.length : Int) + 3) = (l.length : Int) + 3 := IntWalk.i64_in _ (by omega)
  have hcells : ∀ j, l.length ≤ j → j < l.length + 3 → w.cell? ⟨g, j, none⟩ = some (.int .u8 (f.toNat : Int)) := by
    intro j h1 h2
    have := hv.cell _ rfl j (.int .u8 (f.toNat : Int)) (by
      simp only [bvs, List.map_append]
      rw [List.getElem?_append_right (by simpa using h1)]
      obtain ⟨i, rfl⟩ : ∃ i, j = l.length + i := ⟨j - l.length, by omega⟩
      match i, h2 with
      | 0, _ => simp [bv]
      | 1, _ => simp [bv]
      | 2, _ => simp [bv]
      | i + 3, h => exact absurd h (by omega))
    unfold Addr.add at this
    split at this
    · rename_i h; subst h; exact this
    · simpa using this
  have HC := Lib.hid hcells
  clear hcells hp hv hown
  have hq : (l.length : Int) + 3 = ((l.length + 3 : Nat) : Int) := by omega
  have HQ := Lib.hid hq; clear hq
  go_enter Tryz.func36, Tryz.ntmps36
  go_wp2_with fail
  refine (plainB_any (some ⟨g, 0, none⟩) a2 (l.length + 3) c2 l l w hp' hv2).mono ?_
  rintro e w1 ⟨rfl, hU⟩
  have hr : (l == l) = true := by simp
  go_wp2_with fail
  go_loop [8] (fun i => ∃ j : Nat, j ≤ 3 ∧ i = .int .i64 ((l.length + j : Nat) : Int)) (fun i => (l.length + 3) - (intOf i).toNat)
  case atStart => exact ⟨0, by omega, rfl⟩
  case round =>
    obtain ⟨j, hj, rfl⟩ := hrel
    by_cases hlt : j < 3
    · have hc := HC.out (l.length + j) (by omega) (by omega)
      have hc1 : w1.cell? ⟨g, l.length + j, none⟩ = some (.int .u8 (f.toNat : Int)) := by
        rw [hU.cell (World.block_lt_of_cell? w _ hc) (fun h => h)]; exact hc
      have hI : ((l.length + j : Nat) : Int) < ((l.length : Nat) : Int) + 3 := by omega
      have hI2 : ((l.length + j : Nat) : Int).toNat = l.length + j := by omega
      clear hc hp' hv2
      go_wp2_with fail
      go_round
      case rel => exact ⟨j + 1, by omega, by go_num⟩
      case measure => simp [intOf]; omega
    · obtain rfl : j = 3 := by omega
      go_wp2_with fail
      go_ret
      exact ⟨rfl, hU⟩
/-- 'same.Bytes'. -/
theorem sBytes_any (a a2 : Option Addr) (c c2 : Nat) (l k : List UInt8) (w : World) (hv : Vw w a l.length c 1 (bvs l)) (hv2 : Vw w a2 k.length c2 1 (bvs k)) :
    Calls Tryz.prog 15 #[.slice a l.length c, .slice a2 k.length c2] w fun e w' => e = .returned (.bool (l == k)) ∧ w = w' := by
  have h1 := hv.conv
  have h2 := hv2.conv
  go_enter Tryz.func15, Tryz.ntmps15
  go_wp2_with fail
  go_ret
  exact ⟨rfl, rfl⟩
end Go.Proofs.YtccejkikphpnfaaGreatDoor
