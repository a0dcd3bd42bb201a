
/- Laws on 'append' onto a slice that the call owns, whatever is appended (a slice, nothing, a string): where the result lies, what it holds. Conditions: the sizes that Go's own rule bears. -/
import Derived.Test.YtccejkikphpnfaaGreatDoorReg
import Derived.Deep.AppendSrc
import Derived.Lib.LazyBuf
namespace Go.Proofs.YtccejkikphpnfaaGreatDoor
set_option linter.unusedSimpArgs false
open Go.ChangeShapes Go.WideShapes Go.ChangeAt Go.RowKit
section
variable {P : Program} (w : World)
theorem run_room_src (t tx ty e : TypeId) (i : TypeInfo) (ht : P.underlying t = some (.slice e)) (hi : P.info? e = some i)
    (g n c : Nat) (cur : Array Value) (hg : w.heap[g]? = some (.cells cur e (0, 0))) (x : Value) (m : Nat) (news : List Value) (hs : Src P i.size tx x m news w)
    (hroom : n + m ≤ c) (hfit : n * i.size + news.length ≤ cur.size) :
    (Builtin.append_ #[t, tx] ty #[.slice (some ⟨g, 0, none⟩) n c, x]).run P w =
      .ok (.slice (some ⟨g, 0, none⟩) (n + m) c) (w.setRow g (cur.toList.take (n * i.size) ++ news ++ cur.toList.drop (n * i.size + news.length)).toArray) := by
  have hst := run_storeCells_at P g (n * i.size) e news 0 cur w hg (by simpa using hfit) hs.one
  simp only [Nat.add_zero] at hst
  rcases hs.kind with ⟨e', hk⟩ | hk <;> simp [Builtin.append_, run_underlying ht, run_underlying hk, sizeOf, typeInfo, hi, hs.len, hroom, hs.cells, Addr.add_lit, hst]

/-- 'append' onto a slice of the call's own. -/
theorem run_app (t tx ty e : TypeId) (i : TypeInfo) (z : Value) (size bytes : Nat) (ht : P.underlying t = some (.slice e)) (hi : P.info? e = some i) (hz : i.zero = some z)
    (hsize : i.size = size) (hby : i.bytes = bytes) (hzs : z.cells.size = size)
    (a : Option Addr) (n c : Nat) (xs : List Value) (hown : w.ownsRow 0 e size (.slice a n c) n xs) (x : Value) (m : Nat) (news : List Value) (hs : Src P size tx x m news w)
    (h63 : n + m ≤ maxLen) (hbytes : (n + m) * bytes ≤ 140737488355328) :
    ∃ a' c' w', (Builtin.append_ #[t, tx] ty #[.slice a n c, x]).run P w = .ok (.slice a' (n + m) c') w' ∧ w'.ownsRow 0 e size (.slice a' (n + m) c') (n + m) (xs ++ news) ∧
      w.grownBy w' (blk a) ∧ (blk a' = blk a ∨ blk a' = some w.heap.size) ∧ (a' = none ↔ a = none ∧ m = 0) := by
  subst hsize
  subst hby
  have hsmall : ((n + m : Nat) : Int) ≤ 9223372036854775807 := by simp only [maxLen] at h63; omega
  have hlen : (xs ++ news).length = (n + m) * i.size := by rw [List.length_append, hown.1, hs.newsLen, Nat.add_mul]
  have grown : ∀ (old : Nat) (row : Option Nat), old < n + m →
      (w.drew.alloc (.cells ((xs ++ news).toArray ++ Builtin.zeroCells z.cells (grownCap w (n + m) old e - (n + m))) e)).ownsRow 0 e i.size
        (.slice (some ⟨w.heap.size, 0, none⟩) (n + m) (grownCap w (n + m) old e)) (n + m) (xs ++ news) ∧
      w.grownBy (w.drew.alloc (.cells ((xs ++ news).toArray ++ Builtin.zeroCells z.cells (grownCap w (n + m) old e - (n + m))) e)) row := by
    intro old row ho
    have hge := grownCap_ge w (n + m) old e
    have hcm : grownCap w (n + m) old e ≤ maxLen := grownCap_le_maxLen w (n + m) old e h63
    refine ⟨⟨hlen, .inr ⟨w.heap.size, _, _, rfl, Nat.zero_le _, heap_alloc_new w.drew _, hge, hcm, ?_, ?_⟩⟩, ⟨rfl, rfl, rfl, by simp, fun k hk _ => Below.heap_alloc w.drew _ k hk⟩⟩
    · simp only [Array.size_append, List.size_toArray, size_zeroCells, hzs, hlen, ← Nat.add_mul]
      congr 1
      omega
    · simp only [Array.toList_append]
      rw [← hlen]
      exact List.take_left
  by_cases hroom : n + m ≤ c
  · rcases hown.2 with ⟨hv, rfl⟩ | ⟨g, cap, cur, hv, hbg, hg, hnc, hcm, hcs, htake⟩
    · simp only [Value.slice.injEq] at hv
      obtain ⟨rfl, _, rfl⟩ := hv
      obtain rfl : m = 0 := by omega
      have hx : xs = [] := List.eq_nil_of_length_eq_zero (by simpa using hown.1)
      have hn : news = [] := List.eq_nil_of_length_eq_zero (by simpa using hs.newsLen)
      subst hx hn
      refine ⟨none, 0, w, ?_, World.ownsRow_nil w 0 e i.size, ⟨rfl, rfl, rfl, Nat.le_refl _, fun _ _ _ => rfl⟩, .inl rfl, by simp⟩
      rcases hs.kind with ⟨e', hk⟩ | hk <;> simp [Builtin.append_, run_underlying ht, run_underlying hk, sizeOf, typeInfo, hi, hs.len, hs.cells]
    · simp only [Value.slice.injEq] at hv
      obtain ⟨rfl, _, rfl⟩ := hv
      have hfit : n * i.size + news.length ≤ cur.size := by rw [hs.newsLen, hcs, ← Nat.add_mul]; exact Nat.mul_le_mul_right _ hroom
      refine ⟨_, _, _, run_room_src w t tx ty e i ht hi g n c cur hg x m news hs hroom hfit, ⟨hlen, .inr ⟨g, c, _, rfl, hbg, setRow_heap w g cur _ e _ hg, hroom, hcm, ?_, ?_⟩⟩,
        ⟨rfl, rfl, rfl, by simp, fun k _ hk => setRow_other w g k _ (fun e => hk (by simp [blk, e]))⟩, .inl rfl, by simp⟩
      · simp only [List.size_toArray, List.length_append, List.length_take, List.length_drop, Array.length_toList]
        omega
      · rw [htake, ← hlen]
        exact List.take_left
  · have hold : (Builtin.firstCells i.size n (.slice a n c)).run P w.drew = .ok xs.toArray w.drew := by
      rcases hown.2 with ⟨hv, rfl⟩ | ⟨g, cap, cur, hv, hbg, hg, hnc, hcm, hcs, htake⟩
      · simp only [Value.slice.injEq] at hv
        obtain ⟨rfl, _, rfl⟩ := hv
        have hx : xs = [] := List.eq_nil_of_length_eq_zero (by simpa using hown.1)
        subst hx
        exact run_firstCells_none w.drew i.size 0 0 0
      · simp only [Value.slice.injEq] at hv
        obtain ⟨rfl, _, rfl⟩ := hv
        exact run_firstCells_some w.drew i.size n _ n c xs hown.1 (fun j u hu => (hown.cells (g := g) rfl j u hu))
    have hgr := grown c (blk a) (by omega)
    exact ⟨_, _, _, run_append_grow_src w t tx ty e i z ht hi hz a n c xs hold x m news hs (by omega) hsmall (growslice_fits (by omega) hbytes), hgr.1, hgr.2, .inr rfl, (by
      constructor
      · intro h; cases h
      · rintro ⟨rfl, rfl⟩
        rcases hown.2 with ⟨hv, rfl⟩ | ⟨g, cap, cur, hv, _⟩
        · omega
        · cases hv)⟩

/-- The same at a list of operations. -/
theorem wpList_app {ops : Array Oper} {rest : List Oper} {o : Oper} {ac : Act} {Q : Exit → Act → World → Prop} (hgd : o.guard = none) (s xo : Operand) (t tx : TypeId)
    (ho : o.op = .call { callee := .builtin .append, args := #[s, xo], argTypes := #[t, tx] })
    (e : TypeId) (i : TypeInfo) (z : Value) (size bytes : Nat) (ht : P.underlying t = some (.slice e)) (hi : P.info? e = some i) (hz : i.zero = some z)
    (hsize : i.size = size) (hby : i.bytes = bytes) (hzs : z.cells.size = size)
    (a : Option Addr) (n c : Nat) (xs : List Value) (hev : ac.eval s = .slice a n c) (hown : w.ownsRow 0 e size (.slice a n c) n xs) (x : Value) (m : Nat) (news : List Value) (hx : ac.eval xo = x) (hs : Src P size tx x m news w)
    (h63 : n + m ≤ maxLen) (hbytes : (n + m) * bytes ≤ 140737488355328)
    (h : ∀ a' c' w', w'.ownsRow 0 e size (.slice a' (n + m) c') (n + m) (xs ++ news) → w.grownBy w' (blk a) → (blk a' = blk a ∨ blk a' = some w.heap.size) → (a' = none ↔ a = none ∧ m = 0) →
      wpList P ops Q rest (ac.put o.dst (.slice a' (n + m) c')) w') : wpList P ops Q (o :: rest) ac w := by
  obtain ⟨a', c', w', hr, h2, h3, h4, h5⟩ := run_app (P := P) w t tx o.type e i z size bytes ht hi hz hsize hby hzs a n c xs hown x m news hs h63 hbytes
  refine wpList_plain hgd fun K hK => ?_
  unfold Oper.wp execOp
  simp only [ho, resolve, invoke, builtin, Sem.run_bind, Sem.run_pure, Result.andThen_ok, List.map_toArray, List.map_cons, List.map_nil, hev, hx, hr]
  exact hK _ _ (h a' c' w' h2 h3 h4 h5)
/-- 'append' where there is room: in place. -/
theorem wpList_fits {ops : Array Oper} {rest : List Oper} {o : Oper} {ac : Act} {Q : Exit → Act → World → Prop} (hgd : o.guard = none) (s xo : Operand) (t tx : TypeId)
    (ho : o.op = .call { callee := .builtin .append, args := #[s, xo], argTypes := #[t, tx] })
    (e : TypeId) (i : TypeInfo) (size : Nat) (ht : P.underlying t = some (.slice e)) (hi : P.info? e = some i) (hsize : i.size = size)
    (a : Option Addr) (n c : Nat) (xs : List Value) (hev : ac.eval s = .slice a n c) (hown : w.ownsRow 0 e size (.slice a n c) n xs) (x : Value) (m : Nat) (news : List Value) (hx : ac.eval xo = x) (hs : Src P size tx x m news w)
    (hroom : n + m ≤ c)
    (h : ∀ w', w'.ownsRow 0 e size (.slice a (n + m) c) (n + m) (xs ++ news) → w.grownBy w' (blk a) → wpList P ops Q rest (ac.put o.dst (.slice a (n + m) c)) w') : wpList P ops Q (o :: rest) ac w := by
  subst hsize
  have hlen : (xs ++ news).length = (n + m) * i.size := by rw [List.length_append, hown.1, hs.newsLen, Nat.add_mul]
  have key : ∃ w', (Builtin.append_ #[t, tx] o.type #[.slice a n c, x]).run P w = .ok (.slice a (n + m) c) w' ∧ w'.ownsRow 0 e i.size (.slice a (n + m) c) (n + m) (xs ++ news) ∧ w.grownBy w' (blk a) := by
    rcases hown.2 with ⟨hv, rfl⟩ | ⟨g, cap, cur, hv, hbg, hg, hnc, hcm, hcs, htake⟩
    · simp only [Value.slice.injEq] at hv
      obtain ⟨rfl, _, rfl⟩ := hv
      obtain rfl : m = 0 := by omega
      have hx : xs = [] := List.eq_nil_of_length_eq_zero (by simpa using hown.1)
      have hn : news = [] := List.eq_nil_of_length_eq_zero (by simpa using hs.newsLen)
      subst hx hn
      refine ⟨w, ?_, World.ownsRow_nil w 0 e i.size, ⟨rfl, rfl, rfl, Nat.le_refl _, fun _ _ _ => rfl⟩⟩
      rcases hs.kind with ⟨e', hk⟩ | hk <;> simp [Builtin.append_, run_underlying ht, run_underlying hk, sizeOf, typeInfo, hi, hs.len, hs.cells]
    · simp only [Value.slice.injEq] at hv
      obtain ⟨rfl, _, rfl⟩ := hv
      have hfit : n * i.size + news.length ≤ cur.size := by rw [hs.newsLen, hcs, ← Nat.add_mul]; exact Nat.mul_le_mul_right _ hroom
      refine ⟨_, run_room_src w t tx o.type e i ht hi g n c cur hg x m news hs hroom hfit, ⟨hlen, .inr ⟨g, c, _, rfl, hbg, setRow_heap w g cur _ e _ hg, hroom, hcm, ?_, ?_⟩⟩,
        ⟨rfl, rfl, rfl, by simp, fun k _ hk => setRow_other w g k _ (fun e => hk (by simp [blk, e]))⟩⟩
      · simp only [List.size_toArray, List.length_append, List.length_take, List.length_drop, Array.length_toList]
        omega
      · rw [htake, ← hlen]
        exact List.take_left
  obtain ⟨w', hr, h2, h3⟩ := key
  refine wpList_plain hgd fun K hK => ?_
  unfold Oper.wp execOp
  simp only [ho, resolve, invoke, builtin, Sem.run_bind, Sem.run_pure, Result.andThen_ok, List.map_toArray, List.map_cons, List.map_nil, hev, hx, hr]
  exact hK _ _ (h w' h2 h3)
end

/-! Views: a slice whose elements read as a list; nobody writes them. -/
/-- The slice (a, n, c) of elements of 'size' cells reads as xs. -/
structure Vw (w : World) (a : Option Addr) (n c : Nat) (size : Nat) (xs : List Value) : Prop where
  len : xs.length = n * size
  le : n ≤ c
  cap : c ≤ maxLen
  nil : a = none → c = 0
  cell : ∀ x, a = some x → ∀ j u, xs[j]? = some u → w.cell? (x.add j) = some u
theorem Vw.nl (w : World) (size : Nat) : Vw w none 0 0 size [] := ⟨by simp, Nat.le_refl _, Nat.zero_le _, (fun _ => rfl), (fun _ h => by cases h)⟩
theorem Vw.empty (w : World) (x : Addr) (c size : Nat) (hc : c ≤ maxLen) : Vw w (some x) 0 c size [] := ⟨by simp, Nat.zero_le _, hc, (fun h => by cases h), (fun _ _ j u h => by simp at h)⟩
theorem Vw.of_own {w : World} {e : TypeId} {size n c : Nat} {a : Option Addr} {xs : List Value} (h : w.ownsRow 0 e size (.slice a n c) n xs) : Vw w a n c size xs := by
  rcases h.2 with ⟨hv, rfl⟩ | ⟨g, cap, cur, hv, hbg, hg, hnc, hcm, hcs, htake⟩
  · simp only [Value.slice.injEq] at hv
    obtain ⟨rfl, _, rfl⟩ := hv
    have hx : xs = [] := List.eq_nil_of_length_eq_zero (by simpa using h.1)
    subst hx
    exact Vw.nl w size
  · have hh := h
    simp only [Value.slice.injEq] at hv
    obtain ⟨rfl, _, rfl⟩ := hv
    exact ⟨h.1, hnc, hcm, (fun h => by cases h), (fun x hx => by cases hx; exact hh.cells (g := g) rfl)⟩
theorem Vw.upd {S : Nat → Prop} {w w' : World} {a : Option Addr} {n c size : Nat} {xs : List Value} (h : Vw w a n c size xs) (hU : Upd S w w') (hS : ∀ k, blk a = some k → ¬ S k) : Vw w' a n c size xs :=
  ⟨h.len, h.le, h.cap, h.nil, fun x hx j u hu => by
    have hc := h.cell x hx j u hu
    have hlt : (x.add j).block < w.heap.size := World.block_lt_of_cell? w _ hc
    have hb : (x.add j).block = x.block := by unfold Addr.add; split <;> rfl
    rw [hU.cell hlt (by rw [hb]; exact hS _ (by rw [hx]; rfl))]
    exact hc⟩
theorem Vw.below {B : Nat} {w w' : World} {a : Option Addr} {n c size : Nat} {xs : List Value} (h : Vw w a n c size xs) (hU : Below B w w') (hS : ∀ k, blk a = some k → k < B) : Vw w' a n c size xs :=
  h.upd (Upd.of_below hU) (fun k hk => by have := hS k hk; omega)
/-- What it yields to 'append'. -/
theorem Vw.src {P : Program} {w : World} {a : Option Addr} {n c size : Nat} {xs : List Value} (h : Vw w a n c size xs) {t e' : TypeId} (hk : P.underlying t = some (.slice e')) (h1 : ∀ u ∈ xs, u.oneCell' = true) : Src P size t (.slice a n c) n xs w := by
  cases a with
  | none =>
    have hc := h.nil rfl
    have hn : n = 0 := by have := h.le; omega
    subst hn
    have hx : xs = [] := List.eq_nil_of_length_eq_zero (by simpa using h.len)
    subst hx
    exact Src.ofNil w hk c
  | some x => exact Src.ofSlice w hk x n c xs h.len (h.cell x rfl) h1
/-- A part of it: x[i:k]. -/
theorem Vw.part {w : World} {a : Option Addr} {n c size : Nat} {xs : List Value} (h : Vw w a n c size xs) (i k m : Nat) (hik : i ≤ k) (hk : k ≤ n) (hm : m ≤ c) (hkm : k ≤ m) :
    Vw w (if m = i then a else a.map (·.add (i * size))) (k - i) (m - i) size ((xs.drop (i * size)).take ((k - i) * size)) := by
  have hl : (k - i) * size = k * size - i * size := Nat.sub_mul _ _ _
  have hkn : k * size ≤ n * size := Nat.mul_le_mul_right _ hk
  have hlen := h.len
  have hca := h.cap
  refine ⟨?_, by omega, by omega, fun ha => ?_, fun x hx j u hu => ?_⟩
  · rw [List.length_take, List.length_drop, hlen]; omega
  · split at ha
    · omega
    · cases a with
      | none => have := h.nil rfl; omega
      | some y => simp at ha
  · by_cases hmi : m = i
    · subst hmi
      have h0 : k - m = 0 := by omega
      rw [h0, Nat.zero_mul, List.take_zero] at hu
      simp at hu
    · rw [if_neg hmi] at hx
      cases a with
      | none => simp at hx
      | some y =>
        simp only [Option.map_some, Option.some.injEq] at hx
        subst hx
        rw [List.getElem?_take] at hu
        split at hu
        · rw [List.getElem?_drop] at hu
          have hc := h.cell y rfl _ u hu
          have hadd : ((y.add (i * size)).add j) = y.add (i * size + j) := by
            have hsp := World.cell?_spot hc
            obtain ⟨b, off, spot⟩ := y
            unfold Addr.add at *
            by_cases h1 : i * size = 0 <;> by_cases h2 : j = 0 <;> simp_all [Nat.add_assoc]
          rw [hadd]
          exact hc
        · cases hu
/-- x[:k] -/
theorem Vw.pre {w : World} {a : Option Addr} {n c size : Nat} {xs : List Value} (h : Vw w a n c size xs) (k : Nat) (hk : k ≤ n) : Vw w a k c size (xs.take (k * size)) := by
  have hle := h.le
  have hkn : k * size ≤ n * size := Nat.mul_le_mul_right _ hk
  have hlen := h.len
  refine ⟨?_, by omega, h.cap, h.nil, fun x hx j u hu => ?_⟩
  · rw [List.length_take]; omega
  · rw [List.getElem?_take] at hu
    split at hu
    · exact h.cell x hx j u hu
    · cases hu
/-- x[k:] -/
theorem Vw.post {w : World} {a : Option Addr} {n c size : Nat} {xs : List Value} (h : Vw w a n c size xs) (k : Nat) (hk : k ≤ n) :
    Vw w (if c = k then a else a.map (·.add (k * size))) (n - k) (c - k) size (xs.drop (k * size)) := by
  have hp := h.part k n c hk (Nat.le_refl _) (Nat.le_refl _) h.le
  have e : (xs.drop (k * size)).take ((n - k) * size) = xs.drop (k * size) := by
    apply List.take_of_length_le
    rw [List.length_drop, h.len, Nat.sub_mul]
    exact Nat.le_refl _
  rw [e] at hp
  exact hp
/-- A view that is not empty leads somewhere. -/
theorem Vw.at {w : World} {a : Option Addr} {n c size : Nat} {xs : List Value} (h : Vw w a n c size xs) (h0 : 0 < n) (hs : 0 < size) :
    ∃ b off, a = some ⟨b, off, none⟩ ∧ ∀ j u, xs[j]? = some u → w.cell? ⟨b, off + j, none⟩ = some u := by
  cases a with
  | none => have := h.nil rfl; have := h.le; omega
  | some x =>
    have hl : 0 < xs.length := by rw [h.len]; exact Nat.mul_pos h0 hs
    have h0 := h.cell x rfl 0 xs[0] (by simp)
    have hsp := World.cell?_spot h0
    obtain ⟨b, off, spot⟩ := x
    have hspot : spot = none := by simpa [Addr.add] using hsp
    subst hspot
    refine ⟨b, off, rfl, fun j u hu => ?_⟩
    have := h.cell _ rfl j u hu
    unfold Addr.add at this
    split at this
    · rename_i hj; subst hj; simpa using this
    · simpa using this
theorem bvs_get (l : List UInt8) (j : Nat) (h : j < l.length) : (bvs l)[j]? = some (.int .u8 (l[j].toNat : Int)) := by simp [bvs, bv, h]
/-- A text of bytes. -/
def str (l : List UInt8) : ByteArray := ⟨l.toArray⟩
theorem str_toList (l : List UInt8) : (str l).data.toList = l := rfl
@[go_sem] theorem str_toList2 (l : List UInt8) : (str l).toList = l := ByteArray.toList_mk l
theorem str_size (l : List UInt8) : (str l).size = l.length := by simp [str, ByteArray.size]
theorem str_data (s : ByteArray) : str s.data.toList = s := by cases s; rfl
theorem push_all (l : List UInt8) : ∀ (s : ByteArray), ((l.map fun b => (b.toNat : Int)).foldl (fun r n => r.push (UInt8.ofNat n.toNat)) s) = ⟨s.data ++ l.toArray⟩ := by
  induction l with
  | nil => intro s; cases s; simp
  | cons x l ih =>
    intro s
    rw [List.map_cons, List.foldl_cons, ih]
    cases s
    simp [ByteArray.push]
/-- 'string(b)'. -/
theorem Vw.conv {w : World} {a : Option Addr} {c : Nat} {l : List UInt8} (h : Vw w a l.length c 1 (bvs l)) : (convert 33 9 (.slice a l.length c)).run Tryz.prog w = .ok (.string (str l)) w := by
  rw [run_convert_bytes_string w 33 9 5 a l.length c Tryz.underlying33 Tryz.underlying5 Tryz.underlying9]
  cases a with
  | none =>
    have hc := h.nil rfl
    have hl : l = [] := List.eq_nil_of_length_eq_zero (by have := h.le; omega)
    subst hl
    rfl
  | some x =>
    have hf := run_firstCells_some (P := Tryz.prog) w 1 l.length x l.length c (bvs l) h.len (h.cell x rfl)
    simp only [Builtin.firstCells, Nat.mul_one] at hf
    rw [run_bytesToString w x l.length c (l.map fun b => (b.toNat : Int)) (by rw [hf]; simp [bvs, bv])]
    rw [push_all]
    simp [str, ByteArray.empty, ByteArray.emptyWithCapacity]
    rfl

/-- 's == nil', 's != nil' of bytes. -/
@[go_sem] theorem eql_nil_bytes (w : World) (a : Option Addr) (n c : Nat) : (binOp .eql 33 (.slice a n c) (.slice none 0 0)).run Tryz.prog w = .ok (.bool a.isNone) w :=
  Go.run_eql_slice_nil w 33 5 a n c Tryz.underlying33
@[go_sem] theorem neq_nil_bytes (w : World) (a : Option Addr) (n c : Nat) : (binOp .neq 33 (.slice a n c) (.slice none 0 0)).run Tryz.prog w = .ok (.bool (!a.isNone)) w :=
  Go.run_neq_slice_nil w 33 5 a n c Tryz.underlying33
end Go.Proofs.YtccejkikphpnfaaGreatDoor
