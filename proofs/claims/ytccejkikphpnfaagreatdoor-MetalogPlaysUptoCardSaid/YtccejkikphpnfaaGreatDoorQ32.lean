
/- The log's Line in general. -/
import Derived.Test.YtccejkikphpnfaaGreatDoorQ31
namespace Go.Proofs.YtccejkikphpnfaaGreatDoor
set_option linter.unusedSimpArgs false
set_option linter.unusedVariables false
set_option maxRecDepth 100000
open Go.ChangeShapes Go.WideShapes Go.ChangeAt Go.RowKit
def wc0 : WC := wtC wt0
structure MS where
 rr : List RC
 fs : List Int
 cs : List Ky
 top : Int
 ds : List Int
 on : Bool
 wc : WC
 n : Int
def Lx.ms (g : Lx) : MS := ⟨g.rr.map rtC, g.fs, g.cs, g.top, g.ds, g.pd.on, wtC g.pd, g.n⟩
def MS.root (m : MS) (r : RC) : Int × MS := if r.p ≠ m.top - 1 then (5, m) else if 2000 ≤ m.rr.length ∨ 2000 < m.cs.length + r.ks.length then (6, m) else (0, ⟨m.rr ++ [r], m.fs ++ [(m.cs.length : Int)], m.cs ++ r.ks, (m.rr.length : Int) + 1, [], false, wc0, m.n + 1⟩)
def MS.move (m : MS) (t : Int) (redo : Bool) : Int × MS :=
 if m.on = true then (5, m) else if redo = true then (if m.ds.getLast? = some t then (0, ⟨m.rr, m.fs, m.cs, t + 1, m.ds.dropLast, m.on, m.wc, m.n + 1⟩) else (5, m))
 else (if m.top ≠ 0 ∧ m.rr[(m.top - 1).toNat]?.map (·.p) = some t then (0, ⟨m.rr, m.fs, m.cs, t + 1, m.ds ++ [m.top - 1], m.on, m.wc, m.n + 1⟩) else (5, m))
def MS.drop (m : MS) : Int × MS := if m.on = true then (0, ⟨m.rr, m.fs, m.cs, m.top, m.ds, false, wc0, m.n + 1⟩) else (5, m)
def MS.wait (m : MS) (c : WC) : Int × MS := (0, ⟨m.rr, m.fs, m.cs, m.top, m.ds, true, c, m.n + 1⟩)
def MS.step (m : MS) (l : List UInt8) : Int × MS :=
 if kindL l = 1 then (if okRoot l = true then m.root (rootS (s1L l)).1 else (5, m))
 else if kindL l = 2 then (if okMove l = true then m.move (mvV l) (mvR l) else (5, m))
 else if kindL l = 3 then (if okWait l = true then m.wait (waitS (s1L l)).1 else (5, m))
 else if kindL l = 4 then (if okDrop l = true then m.drop else (5, m)) else (5, m)
/-- What the log in the mind keeps. -/
structure MSI (m : MS) : Prop where
 rr : m.rr.length ≤ 2000
 fs : m.fs.length = m.rr.length
 cs : m.cs.length ≤ 2000
 t0 : 0 ≤ m.top
 t1 : m.top ≤ m.rr.length
 prev : ∀ (i : Nat) (r : RC), m.rr[i]? = some r → -1 ≤ r.p ∧ r.p < (i : Int)
 redo : ∀ d ∈ m.ds, -1 ≤ d ∧ d < (m.rr.length : Int)
 dl : (m.ds.length : Int) ≤ m.n
 w : m.wc = wc0 ∨ waitBC m.wc = true
 ok : ∀ r ∈ m.rr, rootBC r = true
theorem MSI.root {m : MS} (h : MSI m) (r : RC) (hr : rootBC r = true) : MSI (m.root r).2 := by
 have hr0 := hr
 simp only [rootBC, Bool.and_eq_true, decide_eq_true_eq] at hr
 obtain ⟨⟨h1, h2⟩, h3, _⟩ := hr
 unfold MS.root
 split
 ·exact h
 ·split
  ·exact h
  ·rename_i hp hx
   have hdl := h.dl
   have t1 := h.t1
   refine ⟨?_, ?_, ?_, ?_, ?_, fun i x hi => ?_, fun d hd => (by cases hd), ?_, .inl rfl, fun x hx => ?_⟩
   ·simp only [List.length_append, List.length_singleton]; omega
   ·simp only [List.length_append, List.length_singleton, h.fs]
   ·simp only [List.length_append]; omega
   ·show (0 : Int) ≤ (m.rr.length : Int) + 1; omega
   ·show (m.rr.length : Int) + 1 ≤ ((m.rr ++ [r]).length : Int); simp only [List.length_append, List.length_singleton]; omega
   ·rcases Nat.lt_or_ge i m.rr.length with hlt | hge
    ·rw [List.getElem?_append_left hlt] at hi
     exact h.prev i x hi
    ·rw [List.getElem?_append_right hge] at hi
     rcases Nat.eq_or_lt_of_le hge with e | e
     ·rw [← e, Nat.sub_self] at hi
      simp only [List.getElem?_cons_zero, Option.some.injEq] at hi
      subst hi
      omega
     ·rw [List.getElem?_eq_none (by simp only [List.length_singleton]; omega)] at hi
      cases hi
   ·show ((0 : Nat) : Int) ≤ m.n + 1; omega
   ·rcases List.mem_append.1 hx with hx | hx
    ·exact h.ok x hx
    ·rw [List.mem_singleton] at hx; subst hx; exact hr0
theorem MSI.move {m : MS} (h : MSI m) (t : Int) (redo : Bool) : MSI (m.move t redo).2 := by
 have hdl := h.dl
 unfold MS.move
 split
 ·exact h
 ·split
  ·split
   ·rename_i hl
    have hm := List.mem_of_getLast? hl
    have hb := h.redo t hm
    refine ⟨h.rr, h.fs, h.cs, by show 0 ≤ t + 1; omega, by show t + 1 ≤ (m.rr.length : Int); omega, h.prev, fun d hd => h.redo d (List.dropLast_subset _ hd), ?_, h.w, h.ok⟩
    show (m.ds.dropLast.length : Int) ≤ m.n + 1
    simp only [List.length_dropLast]
    omega
   ·exact h
  ·split
   ·rename_i hl
    obtain ⟨ht, hx⟩ := hl
    have t0 := h.t0
    have t1 := h.t1
    cases hy : m.rr[(m.top - 1).toNat]? with
    | none => rw [hy] at hx; cases hx
    | some r =>
     rw [hy] at hx
     simp only [Option.map_some, Option.some.injEq] at hx
     have hp := h.prev _ _ hy
     refine ⟨h.rr, h.fs, h.cs, by show 0 ≤ t + 1; omega, by show t + 1 ≤ (m.rr.length : Int); omega, h.prev, fun d hd => ?_, ?_, h.w, h.ok⟩
     ·rcases List.mem_append.1 hd with hd | hd
      ·exact h.redo d hd
      ·rw [List.mem_singleton] at hd
       show -1 ≤ d ∧ d < (m.rr.length : Int)
       omega
     ·show ((m.ds ++ [m.top - 1]).length : Int) ≤ m.n + 1
      simp only [List.length_append, List.length_singleton]
      omega
   ·exact h
theorem MSI.drop {m : MS} (h : MSI m) : MSI m.drop.2 := by
 have hdl := h.dl
 unfold MS.drop
 split
 ·exact ⟨h.rr, h.fs, h.cs, h.t0, h.t1, h.prev, h.redo, by show (m.ds.length : Int) ≤ m.n + 1; omega, .inl rfl, h.ok⟩
 ·exact h
theorem MSI.wait {m : MS} (h : MSI m) (c : WC) (hc : waitBC c = true) : MSI (m.wait c).2 := by
 have hdl := h.dl
 exact ⟨h.rr, h.fs, h.cs, h.t0, h.t1, h.prev, h.redo, by show (m.ds.length : Int) ≤ m.n + 1; omega, .inr hc, h.ok⟩
theorem okRoot_may {l : List UInt8} (h : okRoot l = true) : rootBC (rootS (s1L l)).1 = true := by
 unfold okRoot at h
 exact (Bool.and_eq_true _ _ ▸ h).1
theorem okWait_may {l : List UInt8} (h : okWait l = true) : waitBC (waitS (s1L l)).1 = true := by
 unfold okWait at h
 exact (Bool.and_eq_true _ _ ▸ h).1
theorem MSI.step {m : MS} (h : MSI m) (l : List UInt8) : MSI (m.step l).2 := by
 unfold MS.step
 split
 ·split
  ·rename_i hok; exact h.root _ (okRoot_may hok)
  ·exact h
 ·split
  ·split
   ·exact h.move _ _
   ·exact h
  ·split
   ·split
    ·rename_i hok; exact h.wait _ (okWait_may hok)
    ·exact h
   ·split
    ·split
     ·exact h.drop
     ·exact h
    ·exact h
/-! The block in memory does as the log in the mind does. -/
def stG (E : Int) (G : Lx) : Lx := if E = 0 then G.cnt else G
theorem root_ms {g : Lx} {x : Rt} {r : RC} (h : rtC x = r) : (addE g x, (stG (addE g x) (addG g x)).ms) = g.ms.root r := by
 subst h
 have hl : g.ms.rr.length = g.rr.length := List.length_map _
 unfold MS.root stG
 by_cases h1 : x.p ≠ g.top - 1
 ·have e : addE g x = 5 := by unfold addE; rw [if_pos h1]
  have eG : addG g x = g := by unfold addG; rw [e, if_neg (by decide)]
  rw [if_pos (show (rtC x).p ≠ g.ms.top - 1 from h1), e, eG, if_neg (by decide)]
 ·rw [if_neg (show ¬ (rtC x).p ≠ g.ms.top - 1 from h1), hl]
  by_cases h2 : 2000 ≤ g.rr.length ∨ 2000 < g.cs.length + x.ks.length
  ·have e : addE g x = 6 := by unfold addE; rw [if_neg h1, if_pos h2]
   have eG : addG g x = g := by unfold addG; rw [e, if_neg (by decide)]
   rw [if_pos (show 2000 ≤ g.rr.length ∨ 2000 < g.ms.cs.length + (rtC x).ks.length from h2), e, eG, if_neg (by decide)]
  ·have e : addE g x = 0 := by unfold addE; rw [if_neg h1, if_neg h2]
   have eG : addG g x = ⟨g.rr ++ [x], g.fs ++ [(g.cs.length : Int)], g.cs ++ x.ks, (g.rr.length : Int) + 1, [], wt0, g.n⟩ := by unfold addG; rw [if_pos e]
   rw [if_neg (show ¬ (2000 ≤ g.rr.length ∨ 2000 < g.ms.cs.length + (rtC x).ks.length) from h2), e, eG, if_pos rfl]
   unfold Lx.ms Lx.cnt
   simp only [List.map_append, List.map_cons, List.map_nil]
   rfl
theorem move_ms {g : Lx} {t : Int} {redo : Bool} : (moveE g t redo, (stG (moveE g t redo) (moveG g t redo)).ms) = g.ms.move t redo := by
 have hp : (g.rr.map rtC)[(g.top - 1).toNat]?.map (·.p) = g.rr[(g.top - 1).toNat]?.map (·.p) := by
  rw [List.getElem?_map, Option.map_map]; rfl
 unfold MS.move stG moveG moveE
 show _ = if g.pd.on = true then _ else if redo = true then (if g.ds.getLast? = some t then _ else _) else (if g.top ≠ 0 ∧ (g.rr.map rtC)[(g.top - 1).toNat]?.map (·.p) = some t then _ else _)
 rw [hp]
 split
 ·rw [if_neg (by decide), if_neg (by decide)]
 ·split
  ·split
   ·rw [if_pos rfl, if_pos rfl]; rfl
   ·rw [if_neg (by decide), if_neg (by decide)]
  ·split
   ·rw [if_pos rfl, if_pos rfl]; rfl
   ·rw [if_neg (by decide), if_neg (by decide)]
theorem drop_ms {g : Lx} : (dropE g, (stG (dropE g) (dropG g)).ms) = g.ms.drop := by
 unfold MS.drop stG dropG dropE
 show _ = if g.pd.on = true then _ else _
 split
 ·rw [if_pos rfl]; rfl
 ·rw [if_neg (by decide)]
theorem wait_ms {g : Lx} {y : Wt} {c : WC} (hon : y.on = true) (hc : wtC y = c) : ((0 : Int), (stG 0 (g.pend y)).ms) = g.ms.wait c := by
 subst hc
 unfold MS.wait stG Lx.pend Lx.cnt Lx.ms
 rw [if_pos rfl]
 simp only [hon]
/-- Add on any bytes: what it leaves. -/
def Added [Inhabited RbT] (w : World) (lb : Nat) (s : Int × MS) (e : Ending) (w' : World) : Prop := e = .returned (.int .i64 s.1) ∧ ∃ g A, g.ms = s.2 ∧ LogX w' lb g A ∧ Upd (fun q => q = lb) w w'
theorem Added.of [Inhabited RbT] {w w' : World} {lb : Nat} {E : Int} {G : Lx} {s : Int × MS} {e : Ending} (h : AddP w lb E G e w') (hs : (E, (stG E G).ms) = s) : Added w lb s e w' := by
 subst hs
 obtain ⟨rfl, A', hL, hU⟩ := h
 exact ⟨rfl, _, A', rfl, hL, hU⟩
theorem mAdd_gen [Inhabited RbT] (g : Lx) (A : LA) (lb : Nat) (a : Option Addr) (c : Nat) (l : List UInt8) (w : World) (h : LogX w lb g A) (hi : MSI g.ms) (hn : g.n ≤ 100000) (hv : Vw w a l.length c 1 (bvs l)) (hl : l.length ≤ 70000000) :
  Calls Tryz.prog 21 #[.pointer (some ⟨lb, 0, none⟩), .slice a l.length c] w (Added w lb (g.ms.step l)) := by
 have hlr : g.ms.rr.length = g.rr.length := List.length_map _
 have i1 := hi.rr
 have i2 := hi.fs
 have i3 : g.cs.length ≤ 2000 := hi.cs
 have i4 : 0 ≤ g.top := hi.t0
 have i5 : g.top ≤ g.ms.rr.length := hi.t1
 have i6 : (g.ds.length : Int) ≤ g.n := hi.dl
 have i7 : g.fs.length = g.ms.rr.length := hi.fs
 rw [hlr] at i1 i5 i7
 have hB : LxB g := ⟨i1, by omega, i3, i4, by omega⟩
 have hno := fun hr => addX_no g A lb a c l.length w h hr
 have hfive : ∀ e w', AddP w lb 5 g e w' → Added w lb (5, g.ms) e w' := fun e w' hh => Added.of hh (by unfold stG; rw [if_neg (by decide)])
 unfold MS.step
 split
 ·rename_i hk
  have hr := read_rootX lb a c l w hv hl hk
  split
  ·rename_i hok
   have hks : (rootS (s1L l)).1.ks.length ≤ 100000 := by
    have hm := okRoot_may hok
    simp only [rootBC, Bool.and_eq_true, decide_eq_true_eq] at hm
    omega
   exact (addX_1 g A lb a c l.length w _ h (by omega) hn hB hks (hr.mono (fun e w' hh => by unfold ReadRt at hh; rw [if_pos hok] at hh; exact hh))).mono (fun e w' ⟨x, hx, hh⟩ => Added.of hh (root_ms hx))
  ·rename_i hok
   exact (hno (hr.mono (fun e w' hh => by unfold ReadRt at hh; rw [if_neg hok] at hh; exact hh))).mono hfive
 ·rename_i hk1
  split
  ·rename_i hk
   have hr := read_moveX lb a c l w hv hl hk
   split
   ·rename_i hok
    have hb := intV_bd (s1L l)
    exact (addX_2 g A lb a c l.length w _ _ h (by omega) hn i4 (by omega) i5 hb.1 hb.2 (by omega) (hr.mono (fun e w' hh => by unfold ReadMv at hh; rw [if_pos hok] at hh; exact hh))).mono (fun e w' hh => Added.of hh move_ms)
   ·rename_i hok
    exact (hno (hr.mono (fun e w' hh => by unfold ReadMv at hh; rw [if_neg hok] at hh; exact hh))).mono hfive
  ·rename_i hk2
   split
   ·rename_i hk
    have hr := read_waitX lb a c l w hv hl hk
    split
    ·rename_i hok
     exact (addX_3 g A lb a c l.length w _ h (by omega) hn (hr.mono (fun e w' hh => by unfold ReadWt at hh; rw [if_pos hok] at hh; exact hh))).mono (fun e w' ⟨y, hon, hy, hh⟩ => Added.of hh (wait_ms hon hy))
    ·rename_i hok
     exact (hno (hr.mono (fun e w' hh => by unfold ReadWt at hh; rw [if_neg hok] at hh; exact hh))).mono hfive
   ·rename_i hk3
    split
    ·rename_i hk
     have hr := read_dropX lb a c l w hv hl hk
     split
     ·rename_i hok
      exact (addX_4 g A lb a c l.length w h (by omega) hn (hr.mono (fun e w' hh => by unfold ReadDp at hh; rw [if_pos hok] at hh; exact hh))).mono (fun e w' hh => Added.of hh drop_ms)
     ·rename_i hok
      exact (hno (hr.mono (fun e w' hh => by unfold ReadDp at hh; rw [if_neg hok] at hh; exact hh))).mono hfive
    ·rename_i hk4
     exact (hno (read_noneX lb a c l w hv hl ⟨hk1, hk2, hk3, hk4⟩)).mono hfive
/-- In the middle of reading a move. -/
structure MM (w : World) (br BR L2 lb : Nat) (F : Option Nat) (l : List UInt8) (o1 o2 : Option Nat) (v1 : Int) (v2 : Bool) (wk : World) : Prop where
 rd : Rd wk br F l 0
 row : wk.heap[BR]? = some (.cells #[.pointer (some ⟨br, 0, none⟩)] 139)
 l2 : wk.heap[L2]? = some (.cells #[.pointer (some ⟨lb, 0, none⟩)] 42)
 b1 : ∀ b, o1 = some b → wk.heap[b]? = some (.cells #[.int .i64 v1] 3) ∧ BR < b
 b2 : ∀ b, o2 = some b → wk.heap[b]? = some (.cells #[.bool v2] 4) ∧ BR < b
 ne : ∀ x y, o1 = some x → o2 = some y → x ≠ y
 upd : Upd (fun _ => False) w wk
 n1 : br < BR
 n2 : L2 < br
 n3 : ∀ g, F = some g → L2 < g ∧ g < BR
 n4 : w.heap.size ≤ L2
section
variable {w : World} {br BR L2 lb : Nat} {F : Option Nat} {l l' : List UInt8} {o1 o2 : Option Nat} {v1 : Int} {v2 : Bool} {wk w' : World}
variable {d1 d2 : Nat}
theorem MM.c1 (h : MM w br BR L2 lb F l (some d1) o2 v1 v2 wk) : wk.cell? ⟨d1, 0, none⟩ = some (.int .i64 v1) := by rw [cell_of_row _ _ _ _ _ _ (h.b1 d1 rfl).1]; rfl
theorem MM.c2 (h : MM w br BR L2 lb F l o1 (some d2) v1 v2 wk) : wk.cell? ⟨d2, 0, none⟩ = some (.bool v2) := by rw [cell_of_row _ _ _ _ _ _ (h.b2 d2 rfl).1]; rfl
end
@[go_sem] theorem eql_nil_ints (w : World) (a : Option Addr) (n c : Nat) : (binOp .eql 49 (.slice a n c) (.slice none 0 0)).run Tryz.prog w = .ok (.bool a.isNone) w :=
 Go.run_eql_slice_nil w 49 3 a n c Tryz.underlying49
@[go_sem] theorem eql_nil_keys (w : World) (a : Option Addr) (n c : Nat) : (binOp .eql 22 (.slice a n c) (.slice none 0 0)).run Tryz.prog w = .ok (.bool a.isNone) w :=
 Go.run_eql_slice_nil w 22 52 a n c Tryz.underlying22
theorem one_I (l : List Int) : ∀ u ∈ l.map iv, u.oneCell' = true := fun u hu => by
 rw [List.mem_map] at hu
 obtain ⟨x, _, rfl⟩ := hu
 rfl
def ClonedI (w : World) (l : List Int) (e : Ending) (w' : World) : Prop :=
 ∃ a' c', e = .returned (.slice a' l.length c') ∧ w'.ownsRow w.heap.size 3 1 (.slice a' l.length c') l.length (l.map iv) ∧ Upd (fun _ => False) w w'
theorem cloneIC_any (a : Option Addr) (c : Nat) (l : List Int) (w : World) (hv : Vw w a l.length c 1 (l.map iv)) (hl : l.length ≤ 1000000000) :
  Calls Tryz.prog 65 #[.slice a l.length c] w (ClonedI w l) := by
 obtain ⟨i0, hi, hz0, hz1, hz2⟩ := info_parts4 infoIntZ
 cases a with
 | none =>
  have hc := hv.nil rfl
  have hn : l.length = 0 := by have := hv.le; omega
  have hl0 : l = [] := List.eq_nil_of_length_eq_zero hn
  subst hl0 hc
  go_enter Tryz.func65, Tryz.ntmps65
  go_wp2_with fail
  go_ret
  exact ⟨none, 0, rfl, World.ownsRow_nil _ _ _ _, Upd.refl _ _⟩
 | some x =>
  go_enter Tryz.func65, Tryz.ntmps65
  go_wp2_with (at_builtin; refine wpList_app _ rfl (.tmp 5) (.tmp 6) 49 49 rfl 3 i0 (.int .i64 0) 1 8 Tryz.underlying49 hi hz0 hz1 hz2 rfl (some ⟨w.heap.size, 0, none⟩) 0 0 [] rfl (World.ownsRow_made w #[] 0 (Nat.zero_le _) (Nat.zero_le _) (by simp)) (.slice (some x) l.length c) l.length (l.map iv) rfl ?_ ?_ ?_ ?_)
  ·exact (hv.upd (Upd.alloc (fun _ => False) w _) (fun _ _ h => h)).src (P := Tryz.prog) (t := 49) Tryz.underlying49 (one_I l)
  ·unfold maxLen; omega
  ·omega
  intro a2 c2 w2 hown hg hat hnil
  go_wp2_with fail
  go_ret
  simp only [Nat.zero_add, List.nil_append] at *
  refine ⟨a2, c2, rfl, own_base hown (fun k hk => ?_), (Upd.alloc (fun _ => False) w (.cells #[] 3)).next (Upd.grown (S := fun k => k = w.heap.size) hg (fun k hk => by simpa [blk] using hk.symm)) (fun i hi h => by omega)⟩
  rcases hat with e | e
  ·rw [e] at hk
   exact Nat.le_of_eq (Option.some.inj (show some w.heap.size = some k from hk))
  ·rw [e] at hk
   simp only [Option.some.injEq, alloc_size] at hk
   omega
def ClonedK (w : World) (l : List Ky) (e : Ending) (w' : World) : Prop :=
 ∃ a' c', e = .returned (.slice a' l.length c') ∧ w'.ownsRow w.heap.size 52 32 (.slice a' l.length c') l.length (l.flatMap kyV) ∧ Upd (fun _ => False) w w'
theorem cloneKC_any (a : Option Addr) (c : Nat) (l : List Ky) (w : World) (hv : Vw w a l.length c 32 (l.flatMap kyV)) (hl : l.length ≤ 1000000000) :
  Calls Tryz.prog 66 #[.slice a l.length c] w (ClonedK w l) := by
 obtain ⟨i0, hi, hz0, hz1, hz2⟩ := info_parts4 infoKeyZ
 cases a with
 | none =>
  have hc := hv.nil rfl
  have hn : l.length = 0 := by have := hv.le; omega
  have hl0 : l = [] := List.eq_nil_of_length_eq_zero hn
  subst hl0 hc
  go_enter Tryz.func66, Tryz.ntmps66
  go_wp2_with fail
  go_ret
  exact ⟨none, 0, rfl, World.ownsRow_nil _ _ _ _, Upd.refl _ _⟩
 | some x =>
  go_enter Tryz.func66, Tryz.ntmps66
  go_wp2_with (at_builtin; refine wpList_app _ rfl (.tmp 5) (.tmp 6) 22 22 rfl 52 i0 (.agg (kyA kyZ)) 32 32 Tryz.underlying22 hi hz0 hz1 hz2 (kyA_size kyZ) (some ⟨w.heap.size, 0, none⟩) 0 0 [] rfl (World.ownsRow_made w #[] 0 (Nat.zero_le _) (Nat.zero_le _) (by simp)) (.slice (some x) l.length c) l.length (l.flatMap kyV) rfl ?_ ?_ ?_ ?_)
  ·exact (hv.upd (Upd.alloc (fun _ => False) w _) (fun _ _ h => h)).src (P := Tryz.prog) (t := 22) Tryz.underlying22 (kysV_one l)
  ·unfold maxLen; omega
  ·omega
  intro a2 c2 w2 hown hg hat hnil
  go_wp2_with fail
  go_ret
  simp only [Nat.zero_add, List.nil_append] at *
  refine ⟨a2, c2, rfl, own_base hown (fun k hk => ?_), (Upd.alloc (fun _ => False) w (.cells #[] 52)).next (Upd.grown (S := fun k => k = w.heap.size) hg (fun k hk => by simpa [blk] using hk.symm)) (fun i hi h => by omega)⟩
  rcases hat with e | e
  ·rw [e] at hk
   exact Nat.le_of_eq (Option.some.inj (show some w.heap.size = some k from hk))
  ·rw [e] at hk
   simp only [Option.some.injEq, alloc_size] at hk
   omega
@[go_sem] theorem eql_nil_markersT (w : World) (a : Option Addr) (n c : Nat) : (binOp .eql 23 (.slice a n c) (.slice none 0 0)).run Tryz.prog w = .ok (.bool a.isNone) w :=
 Go.run_eql_slice_nil w 23 77 a n c Tryz.underlying23
theorem one_M (l : List Mk) : ∀ u ∈ l.flatMap mkV, u.oneCell' = true := fun u hu => by
 rw [List.mem_flatMap] at hu
 obtain ⟨x, _, hx⟩ := hu
 unfold mkV at hx
 skip
 simp only [List.mem_cons, List.not_mem_nil, or_false] at hx
 rcases hx with rfl | rfl <;> rfl
def ClonedM (w : World) (l : List Mk) (e : Ending) (w' : World) : Prop :=
 ∃ a' c', e = .returned (.slice a' l.length c') ∧ w'.ownsRow w.heap.size 77 2 (.slice a' l.length c') l.length (l.flatMap mkV) ∧ Upd (fun _ => False) w w'
theorem cloneM_any (a : Option Addr) (c : Nat) (l : List Mk) (w : World) (hv : Vw w a l.length c 2 (l.flatMap mkV)) (hl : l.length ≤ 1000000000) :
  Calls Tryz.prog 115 #[.slice a l.length c] w (ClonedM w l) := by
 obtain ⟨i0, hi, hz0, hz1, hz2⟩ := info_parts4 infoMarkerZ
 cases a with
 | none =>
  have hc := hv.nil rfl
  have hn : l.length = 0 := by have := hv.le; omega
  have hl0 : l = [] := List.eq_nil_of_length_eq_zero hn
  subst hl0 hc
  go_enter Tryz.func115, Tryz.ntmps115
  go_wp2_with fail
  go_ret
  exact ⟨none, 0, rfl, World.ownsRow_nil _ _ _ _, Upd.refl _ _⟩
 | some x =>
  go_enter Tryz.func115, Tryz.ntmps115
  go_wp2_with (at_builtin; refine wpList_app _ rfl (.tmp 5) (.tmp 6) 23 23 rfl 77 i0 (.agg #[.int .i64 0, .slice none 0 0]) 2 32 Tryz.underlying23 hi hz0 hz1 hz2 rfl (some ⟨w.heap.size, 0, none⟩) 0 0 [] rfl (World.ownsRow_made w #[] 0 (Nat.zero_le _) (Nat.zero_le _) (by simp)) (.slice (some x) l.length c) l.length (l.flatMap mkV) rfl ?_ ?_ ?_ ?_)
  ·exact (hv.upd (Upd.alloc (fun _ => False) w _) (fun _ _ h => h)).src (P := Tryz.prog) (t := 23) Tryz.underlying23 (one_M l)
  ·unfold maxLen; omega
  ·omega
  intro a2 c2 w2 hown hg hat hnil
  go_wp2_with fail
  go_ret
  simp only [Nat.zero_add, List.nil_append] at *
  refine ⟨a2, c2, rfl, own_base hown (fun k hk => ?_), (Upd.alloc (fun _ => False) w (.cells #[] 77)).next (Upd.grown (S := fun k => k = w.heap.size) hg (fun k hk => by simpa [blk] using hk.symm)) (fun i hi h => by omega)⟩
  rcases hat with e | e
  ·rw [e] at hk
   exact Nat.le_of_eq (Option.some.inj (show some w.heap.size = some k from hk))
  ·rw [e] at hk
   simp only [Option.some.injEq, alloc_size] at hk
   omega
@[go_sem] theorem eql_nil_namedsT (w : World) (a : Option Addr) (n c : Nat) : (binOp .eql 24 (.slice a n c) (.slice none 0 0)).run Tryz.prog w = .ok (.bool a.isNone) w :=
 Go.run_eql_slice_nil w 24 92 a n c Tryz.underlying24
theorem one_N (l : List Nm) : ∀ u ∈ l.flatMap nmV, u.oneCell' = true := fun u hu => by
 rw [List.mem_flatMap] at hu
 obtain ⟨x, _, hx⟩ := hu
 unfold nmV at hx
 unfold sv at hx
 simp only [List.mem_cons, List.not_mem_nil, or_false] at hx
 rcases hx with rfl | rfl <;> rfl
def ClonedN (w : World) (l : List Nm) (e : Ending) (w' : World) : Prop :=
 ∃ a' c', e = .returned (.slice a' l.length c') ∧ w'.ownsRow w.heap.size 92 2 (.slice a' l.length c') l.length (l.flatMap nmV) ∧ Upd (fun _ => False) w w'
theorem cloneN_any (a : Option Addr) (c : Nat) (l : List Nm) (w : World) (hv : Vw w a l.length c 2 (l.flatMap nmV)) (hl : l.length ≤ 1000000000) :
  Calls Tryz.prog 116 #[.slice a l.length c] w (ClonedN w l) := by
 obtain ⟨i0, hi, hz0, hz1, hz2⟩ := info_parts4 infoNamedZ
 cases a with
 | none =>
  have hc := hv.nil rfl
  have hn : l.length = 0 := by have := hv.le; omega
  have hl0 : l = [] := List.eq_nil_of_length_eq_zero hn
  subst hl0 hc
  go_enter Tryz.func116, Tryz.ntmps116
  go_wp2_with fail
  go_ret
  exact ⟨none, 0, rfl, World.ownsRow_nil _ _ _ _, Upd.refl _ _⟩
 | some x =>
  go_enter Tryz.func116, Tryz.ntmps116
  go_wp2_with (at_builtin; refine wpList_app _ rfl (.tmp 5) (.tmp 6) 24 24 rfl 92 i0 (.agg #[.string ⟨#[]⟩, .int .i64 0]) 2 24 Tryz.underlying24 hi hz0 hz1 hz2 rfl (some ⟨w.heap.size, 0, none⟩) 0 0 [] rfl (World.ownsRow_made w #[] 0 (Nat.zero_le _) (Nat.zero_le _) (by simp)) (.slice (some x) l.length c) l.length (l.flatMap nmV) rfl ?_ ?_ ?_ ?_)
  ·exact (hv.upd (Upd.alloc (fun _ => False) w _) (fun _ _ h => h)).src (P := Tryz.prog) (t := 24) Tryz.underlying24 (one_N l)
  ·unfold maxLen; omega
  ·omega
  intro a2 c2 w2 hown hg hat hnil
  go_wp2_with fail
  go_ret
  simp only [Nat.zero_add, List.nil_append] at *
  refine ⟨a2, c2, rfl, own_base hown (fun k hk => ?_), (Upd.alloc (fun _ => False) w (.cells #[] 92)).next (Upd.grown (S := fun k => k = w.heap.size) hg (fun k hk => by simpa [blk] using hk.symm)) (fun i hi h => by omega)⟩
  rcases hat with e | e
  ·rw [e] at hk
   exact Nat.le_of_eq (Option.some.inj (show some w.heap.size = some k from hk))
  ·rw [e] at hk
   simp only [Option.some.injEq, alloc_size] at hk
   omega
def firstV (fs : List Int) (i : Int) : Int := if 0 ≤ i ∧ i < (fs.length : Int) then fs.getD i.toNat 0 else 0
section
variable {w : World} {lb : Nat} {g : Lx} {A : LA}
theorem mRedosX [Inhabited RbT] (h : LogX w lb g A) (hl : g.ds.length ≤ 1000000) : Calls Tryz.prog 27 #[.pointer (some ⟨lb, 0, none⟩)] w (ClonedI w g.ds) := by
 have q := h.c4
 have hcl := cloneIC_any A.da A.dc g.ds w h.ds (by omega)
 clear h
 go_enter Tryz.func27, Tryz.ntmps27
 go_wp2_with fail
 refine Calls.mono hcl ?_
 unfold ClonedI
 rintro e w1 ⟨a', c', rfl, hR⟩
 have HR := Lib.hid hR
 clear hcl hR q
 go_wp2_with fail
 go_ret
 exact ⟨a', c', rfl, HR.out⟩
theorem mCommitsX [Inhabited RbT] (h : LogX w lb g A) (hl : g.cs.length ≤ 1000000) : Calls Tryz.prog 28 #[.pointer (some ⟨lb, 0, none⟩)] w (ClonedK w g.cs) := by
 have q := h.c2
 have hcl := cloneKC_any A.ka A.kc g.cs w h.cs (by omega)
 clear h
 go_enter Tryz.func28, Tryz.ntmps28
 go_wp2_with fail
 refine Calls.mono hcl ?_
 unfold ClonedK
 rintro e w1 ⟨a', c', rfl, hR⟩
 have HR := Lib.hid hR
 clear hcl hR q
 go_wp2_with fail
 go_ret
 exact ⟨a', c', rfl, HR.out⟩
theorem mFirstX [Inhabited RbT] (h : LogX w lb g A) (i : Int) (hl : g.fs.length ≤ 1000000) : Calls Tryz.prog 30 #[.pointer (some ⟨lb, 0, none⟩), .int .i64 i] w fun e w' => e = .returned (.int .i64 (firstV g.fs i)) ∧ Upd (fun _ => False) w w' := by
 have q := h.c1
 have hv := h.fs
 have HV : Hid (firstV g.fs i = if 0 ≤ i ∧ i < (g.fs.length : Int) then g.fs.getD i.toNat 0 else 0) := Lib.hid rfl
 clear h
 generalize firstV g.fs i = R at *
 generalize g.fs = l at *
 by_cases h0 : i < 0
 ·have e := HV.out
  rw [if_neg (by omega)] at e
  subst e
  clear hv HV
  go_enter Tryz.func30, Tryz.ntmps30
  go_wp2_with fail
  go_ret
  exact ⟨rfl, Upd.refl _ _⟩
 ·by_cases h1 : i < (l.length : Int)
  ·obtain ⟨j, rfl⟩ : ∃ j : Nat, i = (j : Int) := ⟨i.toNat, by omega⟩
   have hj : j < l.length := by omega
   obtain ⟨b, o, hb, hcell⟩ := hv.at (by omega) (by decide)
   have hc : w.cell? ⟨b, o + j, none⟩ = some (.int .i64 l[j]) := hcell j _ (iv_get l j hj)
   have e := HV.out
   rw [if_pos (by omega), Int.toNat_natCast, List.getD_eq_getElem?_getD, List.getElem?_eq_getElem hj, Option.getD_some] at e
   have HE := Lib.hid e
   have hI0 : (0 : Int) ≤ (j : Int) := by omega
   have hn : ¬ (j : Int) < 0 := by omega
   rw [hb] at q
   clear e HV hv hcell hb
   generalize l[j] = x at *
   go_enter Tryz.func30, Tryz.ntmps30
   go_wp2_with fail
   go_ret
   exact ⟨by rw [HE.out]; rfl, Upd.refl _ _⟩
  ·have e := HV.out
   rw [if_neg (by omega)] at e
   subst e
   clear hv HV
   go_enter Tryz.func30, Tryz.ntmps30
   go_wp2_with fail
   go_ret
   exact ⟨rfl, Upd.refl _ _⟩
end
/-- From the number i back, each one's elder: these. -/
def ChainI (ps : List Int) : Int → List Int → Prop
 | i, [] => i < 0
 | i, j :: L => j = i ∧ 0 ≤ i ∧ ∃ p, ps[i.toNat]? = some p ∧ ChainI ps p L
/-- There is such a line, where each one's elder is an elder one. -/
theorem chain_ex (ps : List Int) (h : ∀ (i : Nat) (p : Int), ps[i]? = some p → -1 ≤ p ∧ p < (i : Int)) : ∀ (n : Nat) (i : Int), -1 ≤ i → i < (ps.length : Int) → i < (n : Int) → ∃ L, ChainI ps i L ∧ (L.length : Int) ≤ i + 1
 | 0, i, h0, h1, h2 => ⟨[], (by show i < 0; omega), (by show ((0 : Nat) : Int) ≤ i + 1; omega)⟩
 | n + 1, i, h0, h1, h2 => by
  by_cases hi : i < 0
  ·exact ⟨[], hi, (by show ((0 : Nat) : Int) ≤ i + 1; omega)⟩
  ·have hlt : i.toNat < ps.length := by omega
   have hp := h i.toNat _ (List.getElem?_eq_getElem hlt)
   obtain ⟨L, hL, hl⟩ := chain_ex ps h n ps[i.toNat] hp.1 (by omega) (by omega)
   exact ⟨i :: L, ⟨rfl, by omega, _, List.getElem?_eq_getElem hlt, hL⟩, by rw [List.length_cons]; omega⟩
/-- What a line is when it is told: the numbers, the first one first. -/
def Lined (w : World) (L : List Int) (e : Ending) (w' : World) : Prop := ∃ a c, e = .returned (.slice a L.length c) ∧ w'.ownsRow 0 3 1 (.slice a L.length c) L.length (L.reverse.map iv) ∧ (∀ q, blk a = some q → w.heap.size ≤ q) ∧ Upd (fun _ => False) w w'
set_option maxHeartbeats 4000000 in
theorem mLineX [Inhabited RbT] (g : Lx) (A : LA) (lb : Nat) (L : List Int) (w : World) (h : LogX w lb g A) (hch : ChainI (g.rr.map (·.p)) (g.top - 1) L) (ht0 : 0 ≤ g.top) (ht1 : g.top ≤ 2000) (hL : L.length ≤ 100000) :
  Calls Tryz.prog 26 #[.pointer (some ⟨lb, 0, none⟩)] w (Lined w L) := by
 have hat := mAtX h ht0 (by omega)
 have HL := Lib.hid h
 have HCH := Lib.hid hch
 have hcap := h.rr.cap
 have hlr := h.rr.le
 unfold maxLen at hcap
 clear h hch
 generalize hgt : g.top = top at *
 go_enter Tryz.func26, Tryz.ntmps26
 go_wp2_with fail
 refine hat.mono ?_
 rintro e w' ⟨rfl, rfl⟩
 clear hat
 go_wp2_with fail
 go_loopw [3, 4] (fun o i wr => ∃ (D R : List Int) (a' : Option Addr) (c' : Nat) (v : Int), Hid (D ++ R = L ∧ ChainI (g.rr.map (·.p)) v R) ∧ o = .slice a' D.length c' ∧ i = .int .i64 v ∧ Hid (wr.ownsRow 0 3 1 (.slice a' D.length c') D.length (D.map iv) ∧ (∀ q, blk a' = some q → w.heap.size ≤ q) ∧ Upd (fun _ => False) w wr)) (fun o _ _ => L.length - (match o with | .slice _ n _ => n | _ => 0))
 case atStart => exact ⟨[], L, none, 0, top - 1, Lib.hid ⟨rfl, HCH.out⟩, rfl, rfl, Lib.hid ⟨World.ownsRow_nil _ _ _ _, (fun q e => by cases e), Upd.refl _ _⟩⟩
 case round =>
  clear HCH
  obtain ⟨D, R, a', c', v, HC, rfl, rfl, HI⟩ := hrel
  cases R with
  | nil =>
   have hv : v < 0 := HC.out.2
   have hI : decide ((0 : Int) ≤ v) = false := by rw [decide_eq_false_iff_not]; omega
   have hDL : D = L := by have := HC.out.1; rwa [List.append_nil] at this
   subst hDL
   have hrev := rev_any a' c' D wr HI.out.1 hL
   have HF := Lib.hid HI.out.2
   clear HC HI
   go_wp2_with fail
   refine hrev.mono ?_
   rintro e w2 ⟨rfl, hown, hU⟩
   have HZ := Lib.hid (And.intro hown (HF.out.2.next hU (fun i hi e => by have := HF.out.1 i e; omega)))
   clear hrev hown hU
   go_wp2_with fail
   go_ret
   exact ⟨a', c', rfl, HZ.out.1, HF.out.1, HZ.out.2⟩
  | cons j R =>
   obtain ⟨hDR, hjv, h0, p, hp, hch⟩ := HC.out
   subst hjv
   obtain ⟨x, hx, hxp⟩ : ∃ x, g.rr[j.toNat]? = some x ∧ x.p = p := by
    rw [List.getElem?_map] at hp
    cases hq : g.rr[j.toNat]? with
    | none => rw [hq] at hp; cases hp
    | some x => rw [hq] at hp; exact ⟨x, rfl, Option.some.inj hp⟩
   subst hxp
   have hlen := (List.getElem?_eq_some_iff.1 hx).1
   have hDl : D.length ≤ 100000 := by have := congrArg List.length hDR; rw [List.length_append] at this; omega
   have hI2 : j < (g.rr.length : Int) := by omega
   have hLw := HL.out.other HI.out.2.2
   obtain ⟨b, o, hb, hcell⟩ := hLw.rr.at (by show 0 < g.rr.length; omega) (by decide)
   have q0 := hLw.c0
   have hq := hcell (j.toNat * 5 + 0) _ (rt_get g.rr j.toNat x hx)
   rw [Nat.add_zero] at hq
   have HX := Lib.hid (And.intro hDR (And.intro hx hch))
   have hmeas : D.length < L.length := by rw [← hDR, List.length_append, List.length_cons]; omega
   obtain ⟨i0, hi, hz0, hz1, hz2⟩ := info_parts4 infoIntZ
   have HIX := Lib.hid (And.intro hi (And.intro hz0 (And.intro hz1 hz2)))
   clear hi hz0 hz1 hz2 hDR hx hch HC hp
   have hUa := Upd.alloc (fun _ => False) wr (.cells #[.int .i64 j] 3)
   have hown1 := ownsRow_upd HI.out.1 hUa (fun _ _ h => h)
   have hsrc := int_src wr j
   have HB := Lib.hid hb
   clear q0 hq hcell hLw hb
   go_upto_region 6 with (fail)
   go_wp2_with (at_builtin; refine wpList_app _ rfl (.tmp 19) (.tmp 21) 49 49 rfl 3 i0 (.int .i64 0) 1 8 Tryz.underlying49 HIX.out.1 HIX.out.2.1 HIX.out.2.2.1 HIX.out.2.2.2 rfl a' D.length c' (D.map iv) rfl hown1 (.slice (some ⟨wr.heap.size, 0, none⟩) 1 1) 1 [iv j] rfl hsrc ?_ ?_ ?_)
   ·unfold maxLen; omega
   ·omega
   intro a8 c8 w8 hown8 hg8 hat8 hnil8
   have hU8 : Upd (fun _ => False) w w8 := (HI.out.2.2.trans hUa).next (Upd.grown (S := fun k => blk a' = some k) hg8 (fun k hk => hk)) (fun i hi e => by have := HI.out.2.1 i e; omega)
   have hz8 := hUa.size
   have hzw := HI.out.2.2.size
   have hf8 : ∀ q, blk a8 = some q → w.heap.size ≤ q := fun q hq => by
    rcases hat8 with e | e
    ·exact HI.out.2.1 q (e.symm.trans hq)
    ·rw [e] at hq; cases hq; omega
   have hLw8 := HL.out.other hU8
   obtain ⟨b2, o2, hb2, hcell2⟩ := hLw8.rr.at (by show 0 < g.rr.length; omega) (by decide)
   have q0 := hLw8.c0
   rw [hb2] at q0
   have hq := hcell2 (j.toNat * 5 + 0) _ (rt_get g.rr j.toNat x HX.out.2.1)
   rw [Nat.add_zero] at hq
   have HN := Lib.hid (And.intro hown8 (And.intro hf8 hU8))
   clear hown8 hg8 hat8 hnil8 hU8 hz8 hzw hf8 hLw8 hcell2 hUa hown1 hsrc hb2
   go_wp2_with fail
   go_roundw
   case rel => exact ⟨D ++ [j], R, a8, c8, x.p, Lib.hid ⟨by rw [← HX.out.1]; simp, HX.out.2.2⟩, by simp, rfl, Lib.hid ⟨by have := HN.out.1; simpa [iv] using this, HN.out.2⟩⟩
   case measure => simp; omega
end Go.Proofs.YtccejkikphpnfaaGreatDoor
