
/- The log's other answers: copies of its lists; numbers of first commits. -/
import Derived.Test.YtccejkikphpnfaaGreatDoorMet16
namespace Go.Proofs.YtccejkikphpnfaaGreatDoor
set_option linter.unusedSimpArgs false
set_option linter.unusedVariables false
set_option maxRecDepth 100000
open Go.ChangeShapes Go.WideShapes Go.ChangeAt Go.RowKit

@[go_sem] theorem eql_nil_ints (w : World) (a : Option Addr) (n c : Nat) : (binOp .eql 49 (.slice a n c) (.slice none 0 0)).run Tryz.prog w = .ok (.bool a.isNone) w :=
  Go.run_eql_slice_nil w 49 3 a n c Tryz.underlying49
@[go_sem] theorem eql_nil_keys (w : World) (a : Option Addr) (n c : Nat) : (binOp .eql 22 (.slice a n c) (.slice none 0 0)).run Tryz.prog w = .ok (.bool a.isNone) w :=
  Go.run_eql_slice_nil w 22 52 a n c Tryz.underlying22
theorem cloneI_any (a : Option Addr) (c : Nat) (l : List Int) (w : World) (hv : Vw w a l.length c 1 (l.map iv)) (hl : l.length ≤ 100000) :
    Calls Tryz.prog 65 #[.slice a l.length c] w fun e w' => ∃ a' c', e = .returned (.slice a' l.length c') ∧ Upd (fun _ => False) w w' := by
  obtain ⟨i0, hi, hz0, hz1, hz2⟩ := info_parts4 infoIntZ
  have h1 : ∀ u ∈ l.map iv, u.oneCell' = true := fun u hu => by
    rw [List.mem_map] at hu
    obtain ⟨x, _, rfl⟩ := hu
    rfl
  cases a with
  | none =>
    have hc := hv.nil rfl
    have hn : l.length = 0 := by have := hv.le; omega
    have hl0 : l = [] := List.eq_nil_of_length_eq_zero hn
    subst hl0 hc
    go_enter Tryz.func65, Tryz.ntmps65
    go_wp2_with fail
    go_ret
    exact ⟨none, 0, rfl, Upd.refl _ _⟩
  | some x =>
    go_enter Tryz.func65, Tryz.ntmps65
    go_wp2_with (at_builtin; refine wpList_app _ rfl (.tmp 5) (.tmp 6) 49 49 rfl 3 i0 (.int .i64 0) 1 8 Tryz.underlying49 hi hz0 hz1 hz2 rfl (some ⟨w.heap.size, 0, none⟩) 0 0 [] rfl (World.ownsRow_made w #[] 0 (Nat.zero_le _) (Nat.zero_le _) (by simp)) (.slice (some x) l.length c) l.length (l.map iv) rfl ?_ ?_ ?_ ?_)
    · exact (hv.upd (Upd.alloc (fun _ => False) w _) (fun _ _ h => h)).src (P := Tryz.prog) (t := 49) Tryz.underlying49 h1
    · unfold maxLen; omega
    · omega
    intro a2 c2 w2 hown hg hat hnil
    go_wp2_with fail
    go_ret
    simp only [Nat.zero_add, List.nil_append] at *
    exact ⟨a2, c2, rfl, (Upd.alloc (fun _ => False) w (.cells #[] 3)).next (Upd.grown (S := fun k => k = w.heap.size) hg (fun k hk => by simpa [blk] using hk.symm)) (fun i hi h => by omega)⟩
theorem cloneK_any (a : Option Addr) (c : Nat) (l : List Ky) (w : World) (hv : Vw w a l.length c 32 (l.flatMap kyV)) (hl : l.length ≤ 100000) :
    Calls Tryz.prog 66 #[.slice a l.length c] w fun e w' => ∃ a' c', e = .returned (.slice a' l.length c') ∧ Upd (fun _ => False) w w' := by
  obtain ⟨i0, hi, hz0, hz1, hz2⟩ := info_parts4 infoKeyZ
  cases a with
  | none =>
    have hc := hv.nil rfl
    have hn : l.length = 0 := by have := hv.le; omega
    have hl0 : l = [] := List.eq_nil_of_length_eq_zero hn
    subst hl0 hc
    go_enter Tryz.func66, Tryz.ntmps66
    go_wp2_with fail
    go_ret
    exact ⟨none, 0, rfl, Upd.refl _ _⟩
  | some x =>
    go_enter Tryz.func66, Tryz.ntmps66
    go_wp2_with (at_builtin; refine wpList_app _ rfl (.tmp 5) (.tmp 6) 22 22 rfl 52 i0 (.agg (kyA kyZ)) 32 32 Tryz.underlying22 hi hz0 hz1 hz2 (kyA_size kyZ) (some ⟨w.heap.size, 0, none⟩) 0 0 [] rfl (World.ownsRow_made w #[] 0 (Nat.zero_le _) (Nat.zero_le _) (by simp)) (.slice (some x) l.length c) l.length (l.flatMap kyV) rfl ?_ ?_ ?_ ?_)
    · exact (hv.upd (Upd.alloc (fun _ => False) w _) (fun _ _ h => h)).src (P := Tryz.prog) (t := 22) Tryz.underlying22 (kysV_one l)
    · unfold maxLen; omega
    · omega
    intro a2 c2 w2 hown hg hat hnil
    go_wp2_with fail
    go_ret
    simp only [Nat.zero_add, List.nil_append] at *
    exact ⟨a2, c2, rfl, (Upd.alloc (fun _ => False) w (.cells #[] 52)).next (Upd.grown (S := fun k => k = w.heap.size) hg (fun k hk => by simpa [blk] using hk.symm)) (fun i hi h => by omega)⟩
section
variable {w : World} {lb : Nat} {g : Lg} {A : LA}
theorem mRedos_any (h : LogW w lb g A) (hl : g.ds.length ≤ 100000) : Calls Tryz.prog 27 #[.pointer (some ⟨lb, 0, none⟩)] w fun e w' => ∃ a' c', e = .returned (.slice a' g.ds.length c') ∧ Upd (fun _ => False) w w' := by
  have q := h.c4
  have hcl := cloneI_any A.da A.dc g.ds w h.ds hl
  clear h
  go_enter Tryz.func27, Tryz.ntmps27
  go_wp2_with fail
  refine hcl.mono ?_
  rintro e w1 ⟨a', c', rfl, hU⟩
  clear hcl q
  go_wp2_with fail
  go_ret
  exact ⟨a', c', rfl, hU⟩
theorem mCommits_any (h : LogW w lb g A) (hl : g.cs.length ≤ 100000) : Calls Tryz.prog 28 #[.pointer (some ⟨lb, 0, none⟩)] w fun e w' => ∃ a' c', e = .returned (.slice a' g.cs.length c') ∧ Upd (fun _ => False) w w' := by
  have q := h.c2
  have hcl := cloneK_any A.ka A.kc g.cs w h.cs hl
  clear h
  go_enter Tryz.func28, Tryz.ntmps28
  go_wp2_with fail
  refine hcl.mono ?_
  rintro e w1 ⟨a', c', rfl, hU⟩
  clear hcl q
  go_wp2_with fail
  go_ret
  exact ⟨a', c', rfl, hU⟩
theorem mFirst_any (h : LogW w lb g A) (i : Nat) (v : Int) (hi : g.fs[i]? = some v) : Calls Tryz.prog 30 #[.pointer (some ⟨lb, 0, none⟩), .int .i64 (i : Int)] w fun e w' => e = .returned (.int .i64 v) ∧ w = w' := by
  obtain ⟨ra, rc, fa, fc, ka, kc, da, dc⟩ := A
  obtain ⟨rr, fs, cs, top, ds, n⟩ := g
  dsimp only at *
  have hlen := (List.getElem?_eq_some_iff.1 hi).1
  obtain ⟨b, o, hb, hcell⟩ := h.fs.at (by show 0 < fs.length; omega) (by decide)
  dsimp only at hb
  subst hb
  have hq : w.cell? ⟨b, o + i, none⟩ = some (.int .i64 v) := hcell i _ (by simp [hi, iv])
  have hcap := h.fs.cap
  have hlr := h.fs.le
  unfold maxLen at hcap
  dsimp only at hcap hlr
  have q := h.c1
  dsimp only at q
  have hI0 : decide ((i : Int) < 0) = false := by rw [decide_eq_false_iff_not]; omega
  have hI1 : decide ((fs.length : Int) ≤ (i : Int)) = false := by rw [decide_eq_false_iff_not]; omega
  have hI2 : (i : Int) < (fs.length : Int) := by omega
  clear h hcell hi
  go_enter Tryz.func30, Tryz.ntmps30
  go_wp2_with fail
  go_ret
  exact ⟨rfl, rfl⟩
end
end Go.Proofs.YtccejkikphpnfaaGreatDoor
