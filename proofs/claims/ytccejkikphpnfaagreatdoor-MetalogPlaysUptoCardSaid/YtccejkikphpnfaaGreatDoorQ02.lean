
/- Numbers in bytes, the lowest first: plain arithmetic. No condition on any program. -/
import Derived.Test.YtccejkikphpnfaaGreatDoorQ01
import Derived.Deep.AppendSrc
import Derived.Lib.LazyBuf
namespace Go.Proofs.YtccejkikphpnfaaGreatDoor
set_option linter.unusedSimpArgs false
set_option linter.unusedVariables false
set_option maxRecDepth 100000
open Go.ChangeShapes Go.WideShapes Go.ChangeAt Go.RowKit
section
variable {P : Program} (w : World)
theorem run_room_src (t tx ty e : TypeId) (i : TypeInfo) (ht : P.underlying t = some (.slice e)) (hi : P.info? e = some i)
  (g n c : Nat) (cur : Array Value) (hg : w.heap[g]? = some (.cells cur e (0, 0))) (x : Value) (m : Nat) (news : List Value) (hs : Src P i.size tx x m news w)
  (hroom : n + m ≤ c) (hfit : n * i.size + news.length ≤ cur.size) :
  (Builtin.append_ #[t, tx] ty #[.slice (some ⟨g, 0, none⟩) n c, x]).run P w =
   .ok (.slice (some ⟨g, 0, none⟩) (n + m) c) (w.setRow g (cur.toList.take (n * i.size) ++ news ++ cur.toList.drop (n * i.size + news.length)).toArray) := by
 have hst := run_storeCells_at P g (n * i.size) e news 0 cur w hg (by simpa using hfit) hs.one
 simp only [Nat.add_zero] at hst
 rcases hs.kind with ⟨e', hk⟩ | hk <;> simp [Builtin.append_, run_underlying ht, run_underlying hk, sizeOf, typeInfo, hi, hs.len, hroom, hs.cells, Addr.add_lit, hst]
/-- 'append' onto a slice of the call's own. -/
theorem run_app (t tx ty e : TypeId) (i : TypeInfo) (z : Value) (size bytes : Nat) (ht : P.underlying t = some (.slice e)) (hi : P.info? e = some i) (hz : i.zero = some z)
  (hsize : i.size = size) (hby : i.bytes = bytes) (hzs : z.cells.size = size)
  (a : Option Addr) (n c : Nat) (xs : List Value) (hown : w.ownsRow 0 e size (.slice a n c) n xs) (x : Value) (m : Nat) (news : List Value) (hs : Src P size tx x m news w)
  (h63 : n + m ≤ maxLen) (hbytes : (n + m) * bytes ≤ 140737488355328) :
  ∃ a' c' w', (Builtin.append_ #[t, tx] ty #[.slice a n c, x]).run P w = .ok (.slice a' (n + m) c') w' ∧ w'.ownsRow 0 e size (.slice a' (n + m) c') (n + m) (xs ++ news) ∧
   w.grownBy w' (blk a) ∧ (blk a' = blk a ∨ blk a' = some w.heap.size) ∧ (a' = none ↔ a = none ∧ m = 0) := by
 subst hsize
 subst hby
 have hsmall : ((n + m : Nat) : Int) ≤ 9223372036854775807 := by simp only [maxLen] at h63; omega
 have hlen : (xs ++ news).length = (n + m) * i.size := by rw [List.length_append, hown.1, hs.newsLen, Nat.add_mul]
 have grown : ∀ (old : Nat) (row : Option Nat), old < n + m →
   (w.drew.alloc (.cells ((xs ++ news).toArray ++ Builtin.zeroCells z.cells (grownCap w (n + m) old e - (n + m))) e)).ownsRow 0 e i.size
    (.slice (some ⟨w.heap.size, 0, none⟩) (n + m) (grownCap w (n + m) old e)) (n + m) (xs ++ news) ∧
   w.grownBy (w.drew.alloc (.cells ((xs ++ news).toArray ++ Builtin.zeroCells z.cells (grownCap w (n + m) old e - (n + m))) e)) row := by
  intro old row ho
  have hge := grownCap_ge w (n + m) old e
  have hcm : grownCap w (n + m) old e ≤ maxLen := grownCap_le_maxLen w (n + m) old e h63
  refine ⟨⟨hlen, .inr ⟨w.heap.size, _, _, rfl, Nat.zero_le _, heap_alloc_new w.drew _, hge, hcm, ?_, ?_⟩⟩, ⟨rfl, rfl, rfl, by simp, fun k hk _ => Below.heap_alloc w.drew _ k hk⟩⟩
  ·simp only [Array.size_append, List.size_toArray, size_zeroCells, hzs, hlen, ← Nat.add_mul]
   congr 1
   omega
  ·simp only [Array.toList_append]
   rw [← hlen]
   exact List.take_left
 by_cases hroom : n + m ≤ c
 ·rcases hown.2 with ⟨hv, rfl⟩ | ⟨g, cap, cur, hv, hbg, hg, hnc, hcm, hcs, htake⟩
  ·simp only [Value.slice.injEq] at hv
   obtain ⟨rfl, _, rfl⟩ := hv
   obtain rfl : m = 0 := by omega
   have hx : xs = [] := List.eq_nil_of_length_eq_zero (by simpa using hown.1)
   have hn : news = [] := List.eq_nil_of_length_eq_zero (by simpa using hs.newsLen)
   subst hx hn
   refine ⟨none, 0, w, ?_, World.ownsRow_nil w 0 e i.size, ⟨rfl, rfl, rfl, Nat.le_refl _, fun _ _ _ => rfl⟩, .inl rfl, by simp⟩
   rcases hs.kind with ⟨e', hk⟩ | hk <;> simp [Builtin.append_, run_underlying ht, run_underlying hk, sizeOf, typeInfo, hi, hs.len, hs.cells]
  ·simp only [Value.slice.injEq] at hv
   obtain ⟨rfl, _, rfl⟩ := hv
   have hfit : n * i.size + news.length ≤ cur.size := by rw [hs.newsLen, hcs, ← Nat.add_mul]; exact Nat.mul_le_mul_right _ hroom
   refine ⟨_, _, _, run_room_src w t tx ty e i ht hi g n c cur hg x m news hs hroom hfit, ⟨hlen, .inr ⟨g, c, _, rfl, hbg, setRow_heap w g cur _ e _ hg, hroom, hcm, ?_, ?_⟩⟩,
    ⟨rfl, rfl, rfl, by simp, fun k _ hk => setRow_other w g k _ (fun e => hk (by simp [blk, e]))⟩, .inl rfl, by simp⟩
   ·simp only [List.size_toArray, List.length_append, List.length_take, List.length_drop, Array.length_toList]
    omega
   ·rw [htake, ← hlen]
    exact List.take_left
 ·have hold : (Builtin.firstCells i.size n (.slice a n c)).run P w.drew = .ok xs.toArray w.drew := by
   rcases hown.2 with ⟨hv, rfl⟩ | ⟨g, cap, cur, hv, hbg, hg, hnc, hcm, hcs, htake⟩
   ·simp only [Value.slice.injEq] at hv
    obtain ⟨rfl, _, rfl⟩ := hv
    have hx : xs = [] := List.eq_nil_of_length_eq_zero (by simpa using hown.1)
    subst hx
    exact run_firstCells_none w.drew i.size 0 0 0
   ·simp only [Value.slice.injEq] at hv
    obtain ⟨rfl, _, rfl⟩ := hv
    exact run_firstCells_some w.drew i.size n _ n c xs hown.1 (fun j u hu => (hown.cells (g := g) rfl j u hu))
  have hgr := grown c (blk a) (by omega)
  exact ⟨_, _, _, run_append_grow_src w t tx ty e i z ht hi hz a n c xs hold x m news hs (by omega) hsmall (growslice_fits (by omega) hbytes), hgr.1, hgr.2, .inr rfl, (by
   constructor
   ·intro h; cases h
   ·rintro ⟨rfl, rfl⟩
    rcases hown.2 with ⟨hv, rfl⟩ | ⟨g, cap, cur, hv, _⟩
    ·omega
    ·cases hv)⟩
/-- The same at a list of operations. -/
theorem wpList_app {ops : Array Oper} {rest : List Oper} {o : Oper} {ac : Act} {Q : Exit → Act → World → Prop} (hgd : o.guard = none) (s xo : Operand) (t tx : TypeId)
  (ho : o.op = .call { callee := .builtin .append, args := #[s, xo], argTypes := #[t, tx] })
  (e : TypeId) (i : TypeInfo) (z : Value) (size bytes : Nat) (ht : P.underlying t = some (.slice e)) (hi : P.info? e = some i) (hz : i.zero = some z)
  (hsize : i.size = size) (hby : i.bytes = bytes) (hzs : z.cells.size = size)
  (a : Option Addr) (n c : Nat) (xs : List Value) (hev : ac.eval s = .slice a n c) (hown : w.ownsRow 0 e size (.slice a n c) n xs) (x : Value) (m : Nat) (news : List Value) (hx : ac.eval xo = x) (hs : Src P size tx x m news w)
  (h63 : n + m ≤ maxLen) (hbytes : (n + m) * bytes ≤ 140737488355328)
  (h : ∀ a' c' w', w'.ownsRow 0 e size (.slice a' (n + m) c') (n + m) (xs ++ news) → w.grownBy w' (blk a) → (blk a' = blk a ∨ blk a' = some w.heap.size) → (a' = none ↔ a = none ∧ m = 0) →
   wpList P ops Q rest (ac.put o.dst (.slice a' (n + m) c')) w') : wpList P ops Q (o :: rest) ac w := by
 obtain ⟨a', c', w', hr, h2, h3, h4, h5⟩ := run_app (P := P) w t tx o.type e i z size bytes ht hi hz hsize hby hzs a n c xs hown x m news hs h63 hbytes
 refine wpList_plain hgd fun K hK => ?_
 unfold Oper.wp execOp
 simp only [ho, resolve, invoke, builtin, Sem.run_bind, Sem.run_pure, Result.andThen_ok, List.map_toArray, List.map_cons, List.map_nil, hev, hx, hr]
 exact hK _ _ (h a' c' w' h2 h3 h4 h5)
/-- 'append' where there is room: in place. -/
theorem wpList_fits {ops : Array Oper} {rest : List Oper} {o : Oper} {ac : Act} {Q : Exit → Act → World → Prop} (hgd : o.guard = none) (s xo : Operand) (t tx : TypeId)
  (ho : o.op = .call { callee := .builtin .append, args := #[s, xo], argTypes := #[t, tx] })
  (e : TypeId) (i : TypeInfo) (size : Nat) (ht : P.underlying t = some (.slice e)) (hi : P.info? e = some i) (hsize : i.size = size)
  (a : Option Addr) (n c : Nat) (xs : List Value) (hev : ac.eval s = .slice a n c) (hown : w.ownsRow 0 e size (.slice a n c) n xs) (x : Value) (m : Nat) (news : List Value) (hx : ac.eval xo = x) (hs : Src P size tx x m news w)
  (hroom : n + m ≤ c)
  (h : ∀ w', w'.ownsRow 0 e size (.slice a (n + m) c) (n + m) (xs ++ news) → w.grownBy w' (blk a) → wpList P ops Q rest (ac.put o.dst (.slice a (n + m) c)) w') : wpList P ops Q (o :: rest) ac w := by
 subst hsize
 have hlen : (xs ++ news).length = (n + m) * i.size := by rw [List.length_append, hown.1, hs.newsLen, Nat.add_mul]
 have key : ∃ w', (Builtin.append_ #[t, tx] o.type #[.slice a n c, x]).run P w = .ok (.slice a (n + m) c) w' ∧ w'.ownsRow 0 e i.size (.slice a (n + m) c) (n + m) (xs ++ news) ∧ w.grownBy w' (blk a) := by
  rcases hown.2 with ⟨hv, rfl⟩ | ⟨g, cap, cur, hv, hbg, hg, hnc, hcm, hcs, htake⟩
  ·simp only [Value.slice.injEq] at hv
   obtain ⟨rfl, _, rfl⟩ := hv
   obtain rfl : m = 0 := by omega
   have hx : xs = [] := List.eq_nil_of_length_eq_zero (by simpa using hown.1)
   have hn : news = [] := List.eq_nil_of_length_eq_zero (by simpa using hs.newsLen)
   subst hx hn
   refine ⟨w, ?_, World.ownsRow_nil w 0 e i.size, ⟨rfl, rfl, rfl, Nat.le_refl _, fun _ _ _ => rfl⟩⟩
   rcases hs.kind with ⟨e', hk⟩ | hk <;> simp [Builtin.append_, run_underlying ht, run_underlying hk, sizeOf, typeInfo, hi, hs.len, hs.cells]
  ·simp only [Value.slice.injEq] at hv
   obtain ⟨rfl, _, rfl⟩ := hv
   have hfit : n * i.size + news.length ≤ cur.size := by rw [hs.newsLen, hcs, ← Nat.add_mul]; exact Nat.mul_le_mul_right _ hroom
   refine ⟨_, run_room_src w t tx o.type e i ht hi g n c cur hg x m news hs hroom hfit, ⟨hlen, .inr ⟨g, c, _, rfl, hbg, setRow_heap w g cur _ e _ hg, hroom, hcm, ?_, ?_⟩⟩,
    ⟨rfl, rfl, rfl, by simp, fun k _ hk => setRow_other w g k _ (fun e => hk (by simp [blk, e]))⟩⟩
   ·simp only [List.size_toArray, List.length_append, List.length_take, List.length_drop, Array.length_toList]
    omega
   ·rw [htake, ← hlen]
    exact List.take_left
 obtain ⟨w', hr, h2, h3⟩ := key
 refine wpList_plain hgd fun K hK => ?_
 unfold Oper.wp execOp
 simp only [ho, resolve, invoke, builtin, Sem.run_bind, Sem.run_pure, Result.andThen_ok, List.map_toArray, List.map_cons, List.map_nil, hev, hx, hr]
 exact hK _ _ (h w' h2 h3)
end
/-! Views: a slice whose elements read as a list; nobody writes them. -/
/-- The slice (a, n, c) of elements of 'size' cells reads as xs. -/
structure Vw (w : World) (a : Option Addr) (n c : Nat) (size : Nat) (xs : List Value) : Prop where
 len : xs.length = n * size
 le : n ≤ c
 cap : c ≤ maxLen
 nil : a = none → c = 0
 cell : ∀ x, a = some x → ∀ j u, xs[j]? = some u → w.cell? (x.add j) = some u
theorem Vw.nl (w : World) (size : Nat) : Vw w none 0 0 size [] := ⟨by simp, Nat.le_refl _, Nat.zero_le _, (fun _ => rfl), (fun _ h => by cases h)⟩
theorem Vw.of_own {w : World} {e : TypeId} {size n c : Nat} {a : Option Addr} {xs : List Value} (h : w.ownsRow 0 e size (.slice a n c) n xs) : Vw w a n c size xs := by
 rcases h.2 with ⟨hv, rfl⟩ | ⟨g, cap, cur, hv, hbg, hg, hnc, hcm, hcs, htake⟩
 ·simp only [Value.slice.injEq] at hv
  obtain ⟨rfl, _, rfl⟩ := hv
  have hx : xs = [] := List.eq_nil_of_length_eq_zero (by simpa using h.1)
  subst hx
  exact Vw.nl w size
 ·have hh := h
  simp only [Value.slice.injEq] at hv
  obtain ⟨rfl, _, rfl⟩ := hv
  exact ⟨h.1, hnc, hcm, (fun h => by cases h), (fun x hx => by cases hx; exact hh.cells (g := g) rfl)⟩
theorem Vw.upd {S : Nat → Prop} {w w' : World} {a : Option Addr} {n c size : Nat} {xs : List Value} (h : Vw w a n c size xs) (hU : Upd S w w') (hS : ∀ k, blk a = some k → ¬ S k) : Vw w' a n c size xs :=
 ⟨h.len, h.le, h.cap, h.nil, fun x hx j u hu => by
  have hc := h.cell x hx j u hu
  have hlt : (x.add j).block < w.heap.size := World.block_lt_of_cell? w _ hc
  have hb : (x.add j).block = x.block := by unfold Addr.add; split <;> rfl
  rw [hU.cell hlt (by rw [hb]; exact hS _ (by rw [hx]; rfl))]
  exact hc⟩
theorem Vw.below {B : Nat} {w w' : World} {a : Option Addr} {n c size : Nat} {xs : List Value} (h : Vw w a n c size xs) (hU : Below B w w') (hS : ∀ k, blk a = some k → k < B) : Vw w' a n c size xs :=
 h.upd (Upd.of_below hU) (fun k hk => by have := hS k hk; omega)
/-- What it yields to 'append'. -/
theorem Vw.src {P : Program} {w : World} {a : Option Addr} {n c size : Nat} {xs : List Value} (h : Vw w a n c size xs) {t e' : TypeId} (hk : P.underlying t = some (.slice e')) (h1 : ∀ u ∈ xs, u.oneCell' = true) : Src P size t (.slice a n c) n xs w := by
 cases a with
 | none =>
  have hc := h.nil rfl
  have hn : n = 0 := by have := h.le; omega
  subst hn
  have hx : xs = [] := List.eq_nil_of_length_eq_zero (by simpa using h.len)
  subst hx
  exact Src.ofNil w hk c
 | some x => exact Src.ofSlice w hk x n c xs h.len (h.cell x rfl) h1
/-- A part of it: x[i:k]. -/
theorem Vw.part {w : World} {a : Option Addr} {n c size : Nat} {xs : List Value} (h : Vw w a n c size xs) (i k m : Nat) (hik : i ≤ k) (hk : k ≤ n) (hm : m ≤ c) (hkm : k ≤ m) :
  Vw w (if m = i then a else a.map (·.add (i * size))) (k - i) (m - i) size ((xs.drop (i * size)).take ((k - i) * size)) := by
 have hl : (k - i) * size = k * size - i * size := Nat.sub_mul _ _ _
 have hkn : k * size ≤ n * size := Nat.mul_le_mul_right _ hk
 have hlen := h.len
 have hca := h.cap
 refine ⟨?_, by omega, by omega, fun ha => ?_, fun x hx j u hu => ?_⟩
 ·rw [List.length_take, List.length_drop, hlen]; omega
 ·split at ha
  ·omega
  ·cases a with
   | none => have := h.nil rfl; omega
   | some y => simp at ha
 ·by_cases hmi : m = i
  ·subst hmi
   have h0 : k - m = 0 := by omega
   rw [h0, Nat.zero_mul, List.take_zero] at hu
   simp at hu
  ·rw [if_neg hmi] at hx
   cases a with
   | none => simp at hx
   | some y =>
    simp only [Option.map_some, Option.some.injEq] at hx
    subst hx
    rw [List.getElem?_take] at hu
    split at hu
    ·rw [List.getElem?_drop] at hu
     have hc := h.cell y rfl _ u hu
     have hadd : ((y.add (i * size)).add j) = y.add (i * size + j) := by
      have hsp := World.cell?_spot hc
      obtain ⟨b, off, spot⟩ := y
      unfold Addr.add at *
      by_cases h1 : i * size = 0 <;> by_cases h2 : j = 0 <;> simp_all [Nat.add_assoc]
     rw [hadd]
     exact hc
    ·cases hu
/-- x[:k] -/
theorem Vw.pre {w : World} {a : Option Addr} {n c size : Nat} {xs : List Value} (h : Vw w a n c size xs) (k : Nat) (hk : k ≤ n) : Vw w a k c size (xs.take (k * size)) := by
 have hle := h.le
 have hkn : k * size ≤ n * size := Nat.mul_le_mul_right _ hk
 have hlen := h.len
 refine ⟨?_, by omega, h.cap, h.nil, fun x hx j u hu => ?_⟩
 ·rw [List.length_take]; omega
 ·rw [List.getElem?_take] at hu
  split at hu
  ·exact h.cell x hx j u hu
  ·cases hu
/-- x[k:] -/
theorem Vw.post {w : World} {a : Option Addr} {n c size : Nat} {xs : List Value} (h : Vw w a n c size xs) (k : Nat) (hk : k ≤ n) :
  Vw w (if c = k then a else a.map (·.add (k * size))) (n - k) (c - k) size (xs.drop (k * size)) := by
 have hp := h.part k n c hk (Nat.le_refl _) (Nat.le_refl _) h.le
 have e : (xs.drop (k * size)).take ((n - k) * size) = xs.drop (k * size) := by
  apply List.take_of_length_le
  rw [List.length_drop, h.len, Nat.sub_mul]
  exact Nat.le_refl _
 rw [e] at hp
 exact hp
/-- A view that is not empty leads somewhere. -/
theorem Vw.at {w : World} {a : Option Addr} {n c size : Nat} {xs : List Value} (h : Vw w a n c size xs) (h0 : 0 < n) (hs : 0 < size) :
  ∃ b off, a = some ⟨b, off, none⟩ ∧ ∀ j u, xs[j]? = some u → w.cell? ⟨b, off + j, none⟩ = some u := by
 cases a with
 | none => have := h.nil rfl; have := h.le; omega
 | some x =>
  have hl : 0 < xs.length := by rw [h.len]; exact Nat.mul_pos h0 hs
  have h0 := h.cell x rfl 0 xs[0] (by simp)
  have hsp := World.cell?_spot h0
  obtain ⟨b, off, spot⟩ := x
  have hspot : spot = none := by simpa [Addr.add] using hsp
  subst hspot
  refine ⟨b, off, rfl, fun j u hu => ?_⟩
  have := h.cell _ rfl j u hu
  unfold Addr.add at this
  split at this
  ·rename_i hj; subst hj; simpa using this
  ·simpa using this
theorem bvs_get (l : List UInt8) (j : Nat) (h : j < l.length) : (bvs l)[j]? = some (.int .u8 (l[j].toNat : Int)) := by simp [bvs, bv, h]
/-- A text of bytes. -/
def str (l : List UInt8) : ByteArray := ⟨l.toArray⟩
theorem str_toList (l : List UInt8) : (str l).data.toList = l := rfl
@[go_sem] theorem str_toList2 (l : List UInt8) : (str l).toList = l := ByteArray.toList_mk l
theorem str_size (l : List UInt8) : (str l).size = l.length := by simp [str, ByteArray.size]
theorem str_data (s : ByteArray) : str s.data.toList = s := by cases s; rfl
theorem push_all (l : List UInt8) : ∀ (s : ByteArray), ((l.map fun b => (b.toNat : Int)).foldl (fun r n => r.push (UInt8.ofNat n.toNat)) s) = ⟨s.data ++ l.toArray⟩ := by
 induction l with
 | nil => intro s; cases s; simp
 | cons x l ih =>
  intro s
  rw [List.map_cons, List.foldl_cons, ih]
  cases s
  simp [ByteArray.push]
/-- 'string(b)'. -/
theorem Vw.conv {w : World} {a : Option Addr} {c : Nat} {l : List UInt8} (h : Vw w a l.length c 1 (bvs l)) : (convert 33 9 (.slice a l.length c)).run Tryz.prog w = .ok (.string (str l)) w := by
 rw [run_convert_bytes_string w 33 9 5 a l.length c Tryz.underlying33 Tryz.underlying5 Tryz.underlying9]
 cases a with
 | none =>
  have hc := h.nil rfl
  have hl : l = [] := List.eq_nil_of_length_eq_zero (by have := h.le; omega)
  subst hl
  rfl
 | some x =>
  have hf := run_firstCells_some (P := Tryz.prog) w 1 l.length x l.length c (bvs l) h.len (h.cell x rfl)
  simp only [Builtin.firstCells, Nat.mul_one] at hf
  rw [run_bytesToString w x l.length c (l.map fun b => (b.toNat : Int)) (by rw [hf]; simp [bvs, bv])]
  rw [push_all]
  simp [str, ByteArray.empty, ByteArray.emptyWithCapacity]
  rfl
/-- 's == nil', 's != nil' of bytes. -/
@[go_sem] theorem eql_nil_bytes (w : World) (a : Option Addr) (n c : Nat) : (binOp .eql 33 (.slice a n c) (.slice none 0 0)).run Tryz.prog w = .ok (.bool a.isNone) w :=
 Go.run_eql_slice_nil w 33 5 a n c Tryz.underlying33
@[go_sem] theorem neq_nil_bytes (w : World) (a : Option Addr) (n c : Nat) : (binOp .neq 33 (.slice a n c) (.slice none 0 0)).run Tryz.prog w = .ok (.bool (!a.isNone)) w :=
 Go.run_neq_slice_nil w 33 5 a n c Tryz.underlying33
theorem le_mod (x k : Nat) : le (x % 256 ^ k) k = le x k := by
 induction k generalizing x with
 | zero => rfl
 | succ k ih =>
  simp only [le]
  have e1 : x % 256 ^ (k + 1) / 256 = x / 256 % 256 ^ k := by
   rw [Nat.pow_succ, Nat.mul_comm, Nat.mod_mul_right_div_self]
  have e2 : UInt8.ofNat (x % 256 ^ (k + 1)) = UInt8.ofNat x := by
   apply UInt8.toNat_inj.1
   simp only [UInt8.toNat_ofNat']
   rw [Nat.pow_succ, Nat.mul_comm, Nat.mod_mul_right_mod]
  rw [e1, ih, e2]
/-- What Int writes. -/
def i4 (v : Int) : List UInt8 := le ((v + 1) % 4294967296).toNat 4
theorem i4_length (v : Int) : (i4 v).length = 4 := le_length _ _
theorem i4_eq (v y : Int) (hy : y % 4294967296 = (v + 1) % 4294967296) (h0 : 0 ≤ y) : le y.toNat 4 = i4 v := by
 unfold i4
 rw [← hy, ← le_mod y.toNat 4]
 congr 1
 show _ % 4294967296 = _
 omega
theorem wrap_u64 (v : Int) : 0 ≤ IntKind.u64.wrap v ∧ IntKind.u64.wrap v < 2 ^ 64 ∧ IntKind.u64.wrap v % 4294967296 = v % 4294967296 := by
 have e : IntKind.u64.wrap v = v % 18446744073709551616 := by simp [IntKind.wrap, IntKind.bits, IntKind.signed]
 rw [e]; omega
theorem num_int (bw : Nat) (T : TypeId) (a : Option Addr) (c : Nat) (l : List UInt8) (x n : Int) (k : Nat) (w : World) (hw : Wr w bw T a c l) (h0 : 0 ≤ x) (hx : x < 2 ^ 64) (hn : min (max n 1) 8 = k) (hl : l.length ≤ 100000000) :
  Calls Tryz.prog 44 #[.pointer (some ⟨bw, 0, none⟩), .int .u64 x, .int .i64 n] w (Wrote w bw T a (l ++ le x.toNat k)) := by
 obtain ⟨y, rfl⟩ := Int.eq_ofNat_of_zero_le h0
 have := num_any bw T a c l y n w hw (by omega) hl
 rw [hn] at this
 simpa using this
theorem wint_any (bw : Nat) (T : TypeId) (a : Option Addr) (c : Nat) (l : List UInt8) (v : Int) (w : World) (hw : Wr w bw T a c l) (hl : l.length ≤ 100000000) :
  Calls Tryz.prog 45 #[.pointer (some ⟨bw, 0, none⟩), .int .i64 v] w (Wrote w bw T a (l ++ i4 v)) := by
 go_enter Tryz.func45, Tryz.ntmps45
 go_wp2_with fail
 refine (num_int bw T a c l _ _ 4 w hw (wrap_u64 _).1 (wrap_u64 _).2.1 rfl hl).mono ?_
 rintro e w' ⟨rfl, a', c', hW, hU, hS⟩
 go_wp2_with fail
 go_end0
 have hv := wrap_u64 v
 have hv2 := wrap_u64 (IntKind.u64.wrap v + 1)
 exact ⟨rfl, a', c', by rw [← i4_eq v _ (by omega) hv2.1]; exact hW, hU, hS⟩
/-- What Bool writes. -/
def b1 (b : Bool) : List UInt8 := [if b then 1 else 0]
theorem wbool_any (bw : Nat) (T : TypeId) (a : Option Addr) (c : Nat) (l : List UInt8) (b : Bool) (w : World) (hw : Wr w bw T a c l) (hl : l.length ≤ 100000000) :
  Calls Tryz.prog 53 #[.pointer (some ⟨bw, 0, none⟩), .bool b] w (Wrote w bw T a (l ++ b1 b)) := by
 cases b
 ·go_enter Tryz.func53, Tryz.ntmps53
  go_wp2_with (go_at_call 44; refine (num_int bw T a c l 0 1 1 w hw (by omega) (by omega) rfl hl).mono ?_; rintro e w' ⟨rfl, a', c', hW, hU, hS⟩)
  go_end0
  exact ⟨rfl, a', c', hW, hU, hS⟩
 ·go_enter Tryz.func53, Tryz.ntmps53
  go_wp2_with (go_at_call 44; refine (num_int bw T a c l 1 1 1 w hw (by omega) (by omega) rfl hl).mono ?_; rintro e w' ⟨rfl, a', c', hW, hU, hS⟩)
  go_end0
  exact ⟨rfl, a', c', hW, hU, hS⟩
/-- What Text writes. -/
def t4 (s : ByteArray) : List UInt8 := i4 s.size ++ s.data.toList
theorem size_toList (s : ByteArray) : s.data.toList.length = s.size := by rw [Array.length_toList]; rfl
theorem wtext_any (bw : Nat) (T : TypeId) (a : Option Addr) (c : Nat) (l : List UInt8) (s : ByteArray) (w : World) (hw : Wr w bw T a c l) (hl : l.length ≤ 100000000) (hs : s.size ≤ 100000000) :
  Calls Tryz.prog 47 #[.pointer (some ⟨bw, 0, none⟩), .string s] w (Wrote w bw T a (l ++ t4 s)) := by
 obtain ⟨i0, hi, hz0, hz1, hz2⟩ := info_parts infoU8
 go_enter Tryz.func47, Tryz.ntmps47
 go_wp2_with (go_at_call 45; refine (wint_any bw T a c l _ w hw hl).mono ?_; rintro e w1 ⟨rfl, a1, c1, hW, hU, hS⟩; fail)
 refine (wint_any bw T a c l _ w hw hl).mono ?_
 rintro e w1 ⟨rfl, a1, c1, hW, hU, hS⟩
 generalize hk : l ++ i4 s.size = l1 at hW
 have hlen : l1.length ≤ 100000004 := by rw [← hk]; simp [i4_length]; omega
 have hc : w1.cell? ⟨bw, 0, none⟩ = some (.slice a1 l1.length c1) := by rw [cell_of_row _ _ _ _ _ _ hW.here]; rfl
 have Hk := Lib.hid hk; clear hk
 go_wp2_with (at_builtin; refine wpList_app _ rfl (.tmp 14) (.tmp 15) 33 9 rfl 5 i0 (.int .u8 0) 1 1 Tryz.underlying33 hi hz0 hz1 hz2 rfl a1 l1.length c1 (bvs l1) rfl hW.own (.string s) s.size (bvs s.data.toList) rfl (Src.ofString w1 Tryz.underlying9 s) ?_ ?_ ?_)
 ·unfold maxLen; omega
 ·omega
 intro a2 c2 w2 hown hg hat hnil
 have hne : blk a2 ≠ some bw := by
  rcases hat with h | h
  ·rw [h]; exact hW.ne
  ·rw [h]; intro e; cases e; exact absurd (lt_of_heap hW.here) (Nat.lt_irrefl _)
 have hh2 := (hg.block bw (lt_of_heap hW.here) (fun e => hW.ne e.symm)).trans hW.here
 have hc2 : w2.cell? ⟨bw, 0, none⟩ = some (.slice a1 l1.length c1) := by rw [cell_of_row _ _ _ _ _ _ hh2]; rfl
 have hf2 : w2.frozen? ⟨bw, 0, none⟩ = false := by simp [World.frozen?, hh2]
 go_wp2_with fail
 go_end0
 refine ⟨rfl, a2, c2, ⟨?_, ?_, hne⟩, ?_, ?_⟩
 ·rw [setCell_heap 0 _ hh2]
  simp only [t4]
  rw [← List.append_assoc, Hk.out]
  simp [size_toList]
 ·have := ownsRow_setCell_ne hown (a := ⟨bw, 0, none⟩) (by rw [own_blk]; exact hne) (.slice a2 (l1.length + s.size) c2)
  simp only [t4]
  rw [← List.append_assoc, Hk.out]
  simpa [bvs, size_toList] using this
 ·refine (hU.next (Upd.grown (S := fun k => blk a1 = some k) hg (fun k hk => hk)) (fun i hi hs => ?_)).next (Upd.setCell (S := fun k => k = bw) w2 rfl _) (fun i _ hs => .inl hs)
  rcases hS i hs with h | h
  ·exact .inr h
  ·omega
 ·intro g hg'
  have := hU.size
  rcases hat with h | h
  ·exact hS g (h.symm.trans hg')
  ·right; rw [h] at hg'; cases hg'; exact this
/-- The number that bytes are, the lowest first. -/
def leN : List UInt8 → Nat
 | [] => 0
 | b :: l => b.toNat + 256 * leN l
theorem leN_snoc (l : List UInt8) (b : UInt8) : leN (l ++ [b]) = leN l + b.toNat * 256 ^ l.length := by
 induction l with
 | nil => simp [leN]
 | cons x l ih =>
  rw [List.cons_append, leN, ih, leN, List.length_cons, Nat.pow_succ, Nat.mul_add, Nat.add_assoc]
  congr 1
  rw [Nat.mul_comm (256 ^ l.length) 256, ← Nat.mul_assoc b.toNat, Nat.mul_comm b.toNat 256, Nat.mul_assoc]
theorem leN_lt (l : List UInt8) : leN l < 256 ^ l.length := by
 induction l with
 | nil => simp [leN]
 | cons x l ih =>
  have := x.toNat_lt
  rw [leN, List.length_cons, Nat.pow_succ]
  have : 256 * leN l + 256 ≤ 256 * 256 ^ l.length := by rw [← Nat.mul_succ]; exact Nat.mul_le_mul_left _ ih
  rw [Nat.mul_comm (256 ^ l.length)]
  omega
theorem leN_take_lt (l : List UInt8) (j : Nat) (h : j ≤ l.length) : leN (l.take j) < 2 ^ (8 * j) := by
 have := leN_lt (l.take j)
 rw [List.length_take, Nat.min_eq_left h] at this
 rw [Nat.pow_mul]; exact this
theorem take_succ_get (l : List UInt8) (j : Nat) (h : j < l.length) : l.take (j + 1) = l.take j ++ [l[j]] := by
 rw [List.take_succ_eq_append_getElem h]
theorem leN_take_succ (l : List UInt8) (j : Nat) (h : j < l.length) : leN (l.take (j + 1)) = leN (l.take j) + l[j].toNat * 2 ^ (8 * j) := by
 rw [take_succ_get l j h, leN_snoc, List.length_take, Nat.min_eq_left (Nat.le_of_lt h), Nat.pow_mul]
theorem or_high (a b i : Nat) (h : a < 2 ^ i) : a ||| (b * 2 ^ i) = a + b * 2 ^ i := by
 rw [Nat.or_comm, Nat.mul_comm, ← Nat.two_pow_add_eq_or_of_lt h, Nat.add_comm]
theorem pow_le_64 (j : Nat) (hj : j ≤ 7) (a b : Nat) (ha : a < 2 ^ (8 * j)) (hb : b < 256) : a + b * 2 ^ (8 * j) < 2 ^ 64 := by
 have h1 : a + b * 2 ^ (8 * j) < 256 * 2 ^ (8 * j) := by
  have : b * 2 ^ (8 * j) ≤ 255 * 2 ^ (8 * j) := Nat.mul_le_mul_right _ (by omega)
  omega
 have h2 : 256 * 2 ^ (8 * j) = 2 ^ (8 * j + 8) := by rw [Nat.pow_add, Nat.mul_comm]
 have h3 : 2 ^ (8 * j + 8) ≤ 2 ^ 64 := Nat.pow_le_pow_right (by decide) (by omega)
 omega
theorem or_step_u64 (l : List UInt8) (j : Nat) (hj : j ≤ 7) (h : j < l.length) :
  Value.int IntKind.u64 (bits BinOp.or IntKind.u64 (↑(leN (l.take j))) (IntKind.u64.wrap (IntKind.u64.wrap (↑l[j].toNat : Int) * 2 ^ (8 * j)))) = Value.int IntKind.u64 ↑(leN (l.take (j + 1))) := by
 have ha := leN_take_lt l j (Nat.le_of_lt h)
 have hb := l[j].toNat_lt
 have hs := pow_le_64 j hj _ _ ha hb
 rw [leN_take_succ l j h]
 generalize leN (l.take j) = a at *
 generalize l[j].toNat = b at *
 have e1 : IntKind.u64.wrap (b : Int) = b := by simp [IntKind.wrap, IntKind.bits, IntKind.signed]; omega
 have e2 : ((b : Int) * 2 ^ (8 * j)) = ((b * 2 ^ (8 * j) : Nat) : Int) := by push_cast; rfl
 have e3 : IntKind.u64.wrap ((b * 2 ^ (8 * j) : Nat) : Int) = ((b * 2 ^ (8 * j) : Nat) : Int) := by
  generalize b * 2 ^ (8 * j) = m at *
  simp only [IntKind.wrap, IntKind.bits, IntKind.signed]
  simp
  omega
 rw [e1, e2, e3, u64_or_nat a _ (by omega) (by omega), or_high a b _ ha]
theorem i64_or_nat' (a b : Nat) (ha : a < 2 ^ 63) (hb : b < 2 ^ 63) : bits .or .i64 (a : Int) (b : Int) = ((a ||| b : Nat) : Int) := by
 have hx : a ||| b < 2 ^ 63 := Nat.or_lt_two_pow ha hb
 show IntKind.i64.wrap ((BitVec.ofInt 64 (a : Int) ||| BitVec.ofInt 64 (b : Int)).toNat : Int) = _
 rw [BitVec.toNat_or, BitVec.ofInt_natCast, BitVec.ofInt_natCast, BitVec.toNat_ofNat, BitVec.toNat_ofNat, Nat.mod_eq_of_lt (by omega), Nat.mod_eq_of_lt (by omega)]
 generalize a ||| b = m at *
 simp only [IntKind.wrap, IntKind.bits, IntKind.signed]
 simp
 omega
theorem or_step_i64 (l : List UInt8) (j : Nat) (hj : j ≤ 3) (h : j < l.length) :
  Value.int IntKind.i64 (bits BinOp.or IntKind.i64 (↑(leN (l.take j))) (wrap64 ((↑l[j].toNat : Int) * 2 ^ (8 * j)))) = Value.int IntKind.i64 ↑(leN (l.take (j + 1))) := by
 have ha := leN_take_lt l j (Nat.le_of_lt h)
 have hb := l[j].toNat_lt
 have h1 : leN (l.take j) + l[j].toNat * 2 ^ (8 * j) < 2 ^ 32 := by
  have : l[j].toNat * 2 ^ (8 * j) ≤ 255 * 2 ^ (8 * j) := Nat.mul_le_mul_right _ (by omega)
  have h2 : 256 * 2 ^ (8 * j) = 2 ^ (8 * j + 8) := by rw [Nat.pow_add, Nat.mul_comm]
  have h3 : 2 ^ (8 * j + 8) ≤ 2 ^ 32 := Nat.pow_le_pow_right (by decide) (by omega)
  omega
 rw [leN_take_succ l j h]
 generalize leN (l.take j) = a at *
 generalize l[j].toNat = b at *
 have e2 : ((b : Int) * 2 ^ (8 * j)) = ((b * 2 ^ (8 * j) : Nat) : Int) := by push_cast; rfl
 have e3 : wrap64 ((b * 2 ^ (8 * j) : Nat) : Int) = ((b * 2 ^ (8 * j) : Nat) : Int) := by
  generalize b * 2 ^ (8 * j) = m at *
  exact IntWalk.wrap64_in _ ⟨by omega, by omega⟩
 rw [e2, e3, i64_or_nat' a _ (by omega) (by omega), or_high a b _ ha]
end Go.Proofs.YtccejkikphpnfaaGreatDoor
