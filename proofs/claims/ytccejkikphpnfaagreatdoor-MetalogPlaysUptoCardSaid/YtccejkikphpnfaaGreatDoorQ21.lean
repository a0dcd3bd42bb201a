
/- copies of settled commits, of clashes, of files. -/
import Derived.Test.YtccejkikphpnfaaGreatDoorQ20
namespace Go.Proofs.YtccejkikphpnfaaGreatDoor
set_option linter.unusedSimpArgs false
set_option linter.unusedVariables false
set_option maxRecDepth 100000
open Go.ChangeShapes Go.WideShapes Go.ChangeAt Go.RowKit
theorem alloc_size (w : World) (o : Obj) : (w.alloc o).heap.size = w.heap.size + 1 := by simp
theorem own_base {w : World} {base : Nat} {e : TypeId} {size n c : Nat} {a : Option Addr} {xs : List Value} (h : w.ownsRow 0 e size (.slice a n c) n xs) (hb : ∀ k, blk a = some k → base ≤ k) : w.ownsRow base e size (.slice a n c) n xs := by
 refine ⟨h.1, ?_⟩
 rcases h.2 with h' | ⟨g, cap, cur, h', _, hr⟩
 ·exact .inl h'
 ·refine .inr ⟨g, cap, cur, h', ?_, hr⟩
  simp only [Value.slice.injEq] at h'
  obtain ⟨rfl, _⟩ := h'
  exact hb g rfl
@[go_sem] theorem eql_nil_settledsT (w : World) (a : Option Addr) (n c : Nat) : (binOp .eql 27 (.slice a n c) (.slice none 0 0)).run Tryz.prog w = .ok (.bool a.isNone) w :=
 Go.run_eql_slice_nil w 27 80 a n c Tryz.underlying27
theorem one_Se (l : List St) : ∀ u ∈ l.flatMap stV, u.oneCell' = true := fun u hu => by
 rw [List.mem_flatMap] at hu
 obtain ⟨x, _, hx⟩ := hu
 unfold stV at hx
 skip
 simp only [List.mem_cons, List.not_mem_nil, or_false] at hx
 rcases hx with rfl | rfl <;> rfl
def ClonedSe (w : World) (l : List St) (e : Ending) (w' : World) : Prop :=
 ∃ a' c', e = .returned (.slice a' l.length c') ∧ w'.ownsRow w.heap.size 80 2 (.slice a' l.length c') l.length (l.flatMap stV) ∧ Upd (fun _ => False) w w'
theorem cloneSe_any (a : Option Addr) (c : Nat) (l : List St) (w : World) (hv : Vw w a l.length c 2 (l.flatMap stV)) (hl : l.length ≤ 1000000000) :
  Calls Tryz.prog 61 #[.slice a l.length c] w (ClonedSe w l) := by
 obtain ⟨i0, hi, hz0, hz1, hz2⟩ := info_parts4 infoSettledZ
 cases a with
 | none =>
  have hc := hv.nil rfl
  have hn : l.length = 0 := by have := hv.le; omega
  have hl0 : l = [] := List.eq_nil_of_length_eq_zero hn
  subst hl0 hc
  go_enter Tryz.func61, Tryz.ntmps61
  go_wp2_with fail
  go_ret
  exact ⟨none, 0, rfl, World.ownsRow_nil _ _ _ _, Upd.refl _ _⟩
 | some x =>
  go_enter Tryz.func61, Tryz.ntmps61
  go_wp2_with (at_builtin; refine wpList_app _ rfl (.tmp 5) (.tmp 6) 27 27 rfl 80 i0 (.agg #[.int .i64 0, .slice none 0 0]) 2 32 Tryz.underlying27 hi hz0 hz1 hz2 rfl (some ⟨w.heap.size, 0, none⟩) 0 0 [] rfl (World.ownsRow_made w #[] 0 (Nat.zero_le _) (Nat.zero_le _) (by simp)) (.slice (some x) l.length c) l.length (l.flatMap stV) rfl ?_ ?_ ?_ ?_)
  ·exact (hv.upd (Upd.alloc (fun _ => False) w _) (fun _ _ h => h)).src (P := Tryz.prog) (t := 27) Tryz.underlying27 (one_Se l)
  ·unfold maxLen; omega
  ·omega
  intro a2 c2 w2 hown hg hat hnil
  go_wp2_with fail
  go_ret
  simp only [Nat.zero_add, List.nil_append] at *
  refine ⟨a2, c2, rfl, own_base hown (fun k hk => ?_), (Upd.alloc (fun _ => False) w (.cells #[] 80)).next (Upd.grown (S := fun k => k = w.heap.size) hg (fun k hk => by simpa [blk] using hk.symm)) (fun i hi h => by omega)⟩
  rcases hat with e | e
  ·rw [e] at hk
   exact Nat.le_of_eq (Option.some.inj (show some w.heap.size = some k from hk))
  ·rw [e] at hk
   simp only [Option.some.injEq, alloc_size] at hk
   omega
@[go_sem] theorem eql_nil_clashesT (w : World) (a : Option Addr) (n c : Nat) : (binOp .eql 28 (.slice a n c) (.slice none 0 0)).run Tryz.prog w = .ok (.bool a.isNone) w :=
 Go.run_eql_slice_nil w 28 100 a n c Tryz.underlying28
theorem one_Cl (l : List Cl) : ∀ u ∈ l.flatMap clV, u.oneCell' = true := fun u hu => by
 rw [List.mem_flatMap] at hu
 obtain ⟨x, _, hx⟩ := hu
 unfold clV at hx
 unfold sv at hx
 simp only [List.mem_cons, List.not_mem_nil, or_false] at hx
 rcases hx with rfl | rfl | rfl <;> rfl
def ClonedCl (w : World) (l : List Cl) (e : Ending) (w' : World) : Prop :=
 ∃ a' c', e = .returned (.slice a' l.length c') ∧ w'.ownsRow w.heap.size 100 3 (.slice a' l.length c') l.length (l.flatMap clV) ∧ Upd (fun _ => False) w w'
theorem cloneCl_any (a : Option Addr) (c : Nat) (l : List Cl) (w : World) (hv : Vw w a l.length c 3 (l.flatMap clV)) (hl : l.length ≤ 1000000000) :
  Calls Tryz.prog 62 #[.slice a l.length c] w (ClonedCl w l) := by
 obtain ⟨i0, hi, hz0, hz1, hz2⟩ := info_parts4 infoClashZ
 cases a with
 | none =>
  have hc := hv.nil rfl
  have hn : l.length = 0 := by have := hv.le; omega
  have hl0 : l = [] := List.eq_nil_of_length_eq_zero hn
  subst hl0 hc
  go_enter Tryz.func62, Tryz.ntmps62
  go_wp2_with fail
  go_ret
  exact ⟨none, 0, rfl, World.ownsRow_nil _ _ _ _, Upd.refl _ _⟩
 | some x =>
  go_enter Tryz.func62, Tryz.ntmps62
  go_wp2_with (at_builtin; refine wpList_app _ rfl (.tmp 5) (.tmp 6) 28 28 rfl 100 i0 (.agg #[.string ⟨#[]⟩, .int .i64 0, .string ⟨#[]⟩]) 3 40 Tryz.underlying28 hi hz0 hz1 hz2 rfl (some ⟨w.heap.size, 0, none⟩) 0 0 [] rfl (World.ownsRow_made w #[] 0 (Nat.zero_le _) (Nat.zero_le _) (by simp)) (.slice (some x) l.length c) l.length (l.flatMap clV) rfl ?_ ?_ ?_ ?_)
  ·exact (hv.upd (Upd.alloc (fun _ => False) w _) (fun _ _ h => h)).src (P := Tryz.prog) (t := 28) Tryz.underlying28 (one_Cl l)
  ·unfold maxLen; omega
  ·omega
  intro a2 c2 w2 hown hg hat hnil
  go_wp2_with fail
  go_ret
  simp only [Nat.zero_add, List.nil_append] at *
  refine ⟨a2, c2, rfl, own_base hown (fun k hk => ?_), (Upd.alloc (fun _ => False) w (.cells #[] 100)).next (Upd.grown (S := fun k => k = w.heap.size) hg (fun k hk => by simpa [blk] using hk.symm)) (fun i hi h => by omega)⟩
  rcases hat with e | e
  ·rw [e] at hk
   exact Nat.le_of_eq (Option.some.inj (show some w.heap.size = some k from hk))
  ·rw [e] at hk
   simp only [Option.some.injEq, alloc_size] at hk
   omega
@[go_sem] theorem eql_nil_filesT (w : World) (a : Option Addr) (n c : Nat) : (binOp .eql 78 (.slice a n c) (.slice none 0 0)).run Tryz.prog w = .ok (.bool a.isNone) w :=
 Go.run_eql_slice_nil w 78 103 a n c Tryz.underlying78
theorem one_Fi (l : List Fl) : ∀ u ∈ l.flatMap flV, u.oneCell' = true := fun u hu => by
 rw [List.mem_flatMap] at hu
 obtain ⟨x, _, hx⟩ := hu
 unfold flV at hx
 unfold sv at hx
 simp only [List.mem_cons, List.not_mem_nil, or_false] at hx
 rcases hx with rfl | rfl | rfl <;> rfl
def ClonedFi (w : World) (l : List Fl) (e : Ending) (w' : World) : Prop :=
 ∃ a' c', e = .returned (.slice a' l.length c') ∧ w'.ownsRow w.heap.size 103 3 (.slice a' l.length c') l.length (l.flatMap flV) ∧ Upd (fun _ => False) w w'
theorem cloneFi_any (a : Option Addr) (c : Nat) (l : List Fl) (w : World) (hv : Vw w a l.length c 3 (l.flatMap flV)) (hl : l.length ≤ 1000000000) :
  Calls Tryz.prog 63 #[.slice a l.length c] w (ClonedFi w l) := by
 obtain ⟨i0, hi, hz0, hz1, hz2⟩ := info_parts4 infoFileZ
 cases a with
 | none =>
  have hc := hv.nil rfl
  have hn : l.length = 0 := by have := hv.le; omega
  have hl0 : l = [] := List.eq_nil_of_length_eq_zero hn
  subst hl0 hc
  go_enter Tryz.func63, Tryz.ntmps63
  go_wp2_with fail
  go_ret
  exact ⟨none, 0, rfl, World.ownsRow_nil _ _ _ _, Upd.refl _ _⟩
 | some x =>
  go_enter Tryz.func63, Tryz.ntmps63
  go_wp2_with (at_builtin; refine wpList_app _ rfl (.tmp 5) (.tmp 6) 78 78 rfl 103 i0 (.agg #[.string ⟨#[]⟩, .bool false, .string ⟨#[]⟩]) 3 40 Tryz.underlying78 hi hz0 hz1 hz2 rfl (some ⟨w.heap.size, 0, none⟩) 0 0 [] rfl (World.ownsRow_made w #[] 0 (Nat.zero_le _) (Nat.zero_le _) (by simp)) (.slice (some x) l.length c) l.length (l.flatMap flV) rfl ?_ ?_ ?_ ?_)
  ·exact (hv.upd (Upd.alloc (fun _ => False) w _) (fun _ _ h => h)).src (P := Tryz.prog) (t := 78) Tryz.underlying78 (one_Fi l)
  ·unfold maxLen; omega
  ·omega
  intro a2 c2 w2 hown hg hat hnil
  go_wp2_with fail
  go_ret
  simp only [Nat.zero_add, List.nil_append] at *
  refine ⟨a2, c2, rfl, own_base hown (fun k hk => ?_), (Upd.alloc (fun _ => False) w (.cells #[] 103)).next (Upd.grown (S := fun k => k = w.heap.size) hg (fun k hk => by simpa [blk] using hk.symm)) (fun i hi h => by omega)⟩
  rcases hat with e | e
  ·rw [e] at hk
   exact Nat.le_of_eq (Option.some.inj (show some w.heap.size = some k from hk))
  ·rw [e] at hk
   simp only [Option.some.injEq, alloc_size] at hk
   omega
end Go.Proofs.YtccejkikphpnfaaGreatDoor
