
/- 'append' onto a slice that is full (as slices.Clip leaves it): what was there stays; the result is a view. -/
import Derived.Test.YtccejkikphpnfaaGreatDoorApp
import Derived.Test.YtccejkikphpnfaaGreatDoorHelp
namespace Go.Proofs.YtccejkikphpnfaaGreatDoor
set_option linter.unusedSimpArgs false
set_option linter.unusedVariables false
open Go.ChangeShapes Go.WideShapes Go.ChangeAt Go.RowKit
section
variable {P : Program} (w : World)
theorem run_appV (t tx ty e : TypeId) (i : TypeInfo) (z : Value) (size bytes : Nat) (ht : P.underlying t = some (.slice e)) (hi : P.info? e = some i) (hz : i.zero = some z)
    (hsize : i.size = size) (hby : i.bytes = bytes) (hzs : z.cells.size = size)
    (a : Option Addr) (n : Nat) (xs : List Value) (hv : Vw w a n n size xs) (x : Value) (m : Nat) (news : List Value) (hs : Src P size tx x m news w)
    (h63 : n + m ≤ maxLen) (hbytes : (n + m) * bytes ≤ 140737488355328) :
    ∃ a' c' w', (Builtin.append_ #[t, tx] ty #[.slice a n n, x]).run P w = .ok (.slice a' (n + m) c') w' ∧ Vw w' a' (n + m) c' size (xs ++ news) ∧ Upd (fun _ => False) w w' ∧ (∀ g, blk a' = some g → blk a = some g ∨ w.heap.size ≤ g) := by
  subst hsize
  subst hby
  have hsmall : ((n + m : Nat) : Int) ≤ 9223372036854775807 := by simp only [maxLen] at h63; omega
  have hlen : (xs ++ news).length = (n + m) * i.size := by rw [List.length_append, hv.len, hs.newsLen, Nat.add_mul]
  by_cases hm : m = 0
  · subst hm
    have hn : news = [] := List.eq_nil_of_length_eq_zero (by simpa using hs.newsLen)
    subst hn
    refine ⟨a, n, w, ?_, by rw [List.append_nil]; exact hv, Upd.refl _ _, fun g e => .inl e⟩
    cases a with
    | none => rcases hs.kind with ⟨e', hk⟩ | hk <;> simp [Builtin.append_, run_underlying ht, run_underlying hk, sizeOf, typeInfo, hi, hs.len, hs.cells]
    | some b => rcases hs.kind with ⟨e', hk⟩ | hk <;> simp [Builtin.append_, run_underlying ht, run_underlying hk, sizeOf, typeInfo, hi, hs.len, hs.cells, storeCells]
  · have hold : (Builtin.firstCells i.size n (.slice a n n)).run P w.drew = .ok xs.toArray w.drew := by
      cases a with
      | none =>
        have hn : n = 0 := hv.nil rfl
        subst hn
        have hx : xs = [] := List.eq_nil_of_length_eq_zero (by simpa using hv.len)
        subst hx
        exact run_firstCells_none w.drew i.size 0 0 0
      | some b => exact run_firstCells_some w.drew i.size n b n n xs hv.len (fun j u hu => hv.cell b rfl j u hu)
    have hge := grownCap_ge w (n + m) n e
    have hcm : grownCap w (n + m) n e ≤ maxLen := grownCap_le_maxLen w (n + m) n e h63
    have hown : (w.drew.alloc (.cells ((xs ++ news).toArray ++ Builtin.zeroCells z.cells (grownCap w (n + m) n e - (n + m))) e)).ownsRow 0 e i.size
        (.slice (some ⟨w.heap.size, 0, none⟩) (n + m) (grownCap w (n + m) n e)) (n + m) (xs ++ news) := by
      refine ⟨hlen, .inr ⟨w.heap.size, _, _, rfl, Nat.zero_le _, heap_alloc_new w.drew _, hge, hcm, ?_, ?_⟩⟩
      · simp only [Array.size_append, List.size_toArray, size_zeroCells, hzs, hlen, ← Nat.add_mul]
        congr 1
        omega
      · simp only [Array.toList_append]
        rw [← hlen]
        exact List.take_left
    exact ⟨_, _, _, run_append_grow_src w t tx ty e i z ht hi hz a n n xs hold x m news hs (by omega) hsmall (growslice_fits (by omega) hbytes), Vw.of_own hown, (Upd.drew _ w).trans (Upd.alloc _ _ _), fun g e => .inr (by cases e; exact Nat.le_refl _)⟩
theorem wpList_appV {ops : Array Oper} {rest : List Oper} {o : Oper} {ac : Act} {Q : Exit → Act → World → Prop} (hgd : o.guard = none) (s xo : Operand) (t tx : TypeId)
    (ho : o.op = .call { callee := .builtin .append, args := #[s, xo], argTypes := #[t, tx] })
    (e : TypeId) (i : TypeInfo) (z : Value) (size bytes : Nat) (ht : P.underlying t = some (.slice e)) (hi : P.info? e = some i) (hz : i.zero = some z)
    (hsize : i.size = size) (hby : i.bytes = bytes) (hzs : z.cells.size = size)
    (a : Option Addr) (n : Nat) (xs : List Value) (hev : ac.eval s = .slice a n n) (hv : Vw w a n n size xs) (x : Value) (m : Nat) (news : List Value) (hx : ac.eval xo = x) (hs : Src P size tx x m news w)
    (h63 : n + m ≤ maxLen) (hbytes : (n + m) * bytes ≤ 140737488355328)
    (h : ∀ a' c' w', Vw w' a' (n + m) c' size (xs ++ news) → Upd (fun _ => False) w w' → (∀ g, blk a' = some g → blk a = some g ∨ w.heap.size ≤ g) → wpList P ops Q rest (ac.put o.dst (.slice a' (n + m) c')) w') : wpList P ops Q (o :: rest) ac w := by
  obtain ⟨a', c', w', hr, h2, h3, h4⟩ := run_appV (P := P) w t tx o.type e i z size bytes ht hi hz hsize hby hzs a n xs hv x m news hs h63 hbytes
  refine wpList_plain hgd fun K hK => ?_
  unfold Oper.wp execOp
  simp only [ho, resolve, invoke, builtin, Sem.run_bind, Sem.run_pure, Result.andThen_ok, List.map_toArray, List.map_cons, List.map_nil, hev, hx, hr]
  exact hK _ _ (h a' c' w' h2 h3 h4)
end
/-- A view clipped. -/
theorem Vw.clip {w : World} {a : Option Addr} {n c size : Nat} {xs : List Value} (h : Vw w a n c size xs) (ha : a = none → n = 0) : Vw w a n n size xs :=
  ⟨h.len, Nat.le_refl _, Nat.le_trans h.le h.cap, ha, h.cell⟩
theorem Vw.clip2 {w : World} {a : Option Addr} {n c size : Nat} {xs : List Value} (h : Vw w a n c size xs) : Vw w a n n size xs :=
  h.clip (fun e => by have := h.nil e; have := h.le; omega)
end Go.Proofs.YtccejkikphpnfaaGreatDoor
