
/- A writer in memory of the call's own: what its methods leave, with the blocks that are kept. -/
import Derived.Test.YtccejkikphpnfaaGreatDoorPath1
import Derived.Test.YtccejkikphpnfaaGreatDoorAwake01
namespace Go.Proofs.YtccejkikphpnfaaGreatDoor
set_option linter.unusedSimpArgs false
set_option linter.unusedVariables false
set_option maxRecDepth 100000
open Go.ChangeShapes Go.WideShapes Go.ChangeAt Go.RowKit

/-- The writer at block bw has written l; since w1 the blocks K have not changed. -/
structure Wn (K : Nat → Prop) (T : TypeId) (w1 wr : World) (bw : Nat) (l : List UInt8) : Prop where
  own : ∃ a c, Wr wr bw T a c l ∧ ∀ g, blk a = some g → ¬ K g
  nb : ¬ K bw
  bd : ∀ k, K k → k < w1.heap.size
  upd : Upd (fun k => ¬ K k) w1 wr
theorem Wn.step {K : Nat → Prop} {T : TypeId} {w1 wr w' : World} {bw : Nat} {l l' : List UInt8} {a : Option Addr} {c : Nat} {e : Ending} (h : Wn K T w1 wr bw l) (hW : Wr wr bw T a c l) (hg : ∀ g, blk a = some g → ¬ K g)
    (hr : Wrote wr bw T a l' e w') : e = .returned (.tuple #[]) ∧ Wn K T w1 w' bw l' := by
  obtain ⟨rfl, a', c', hW', hU, hS⟩ := hr
  have hz := h.upd.size
  refine ⟨rfl, ⟨a', c', hW', fun g hg' => ?_⟩, h.nb, h.bd, h.upd.trans (hU.mono (fun i hi hs => ?_))⟩
  · rcases hS g hg' with h1 | h1
    · exact hg g h1
    · intro hk
      have := h.bd g hk
      omega
  · rcases hs with h1 | h1
    · rw [h1]; exact h.nb
    · exact hg i h1
theorem Wn.other {K : Nat → Prop} {T : TypeId} {w1 wr w' : World} {bw : Nat} {l : List UInt8} (h : Wn K T w1 wr bw l) (hU : Upd (fun _ => False) wr w') : Wn K T w1 w' bw l := by
  obtain ⟨a, c, hW, hg⟩ := h.own
  exact ⟨⟨a, c, hW.upd hU (fun h => h) (fun _ _ h => h), hg⟩, h.nb, h.bd, h.upd.trans (hU.mono (fun _ _ h => h.elim))⟩
theorem Wn.new (w1 : World) (T : TypeId) : Wn (fun k => k < w1.heap.size) T w1 (w1.alloc (.cells #[.slice none 0 0] T)) w1.heap.size [] :=
  ⟨⟨none, 0, Wr.new w1 T, fun g h => by cases h⟩, Nat.lt_irrefl _, fun _ h => h, Upd.alloc _ _ _⟩
theorem Wn.clean {T : TypeId} {w1 wr : World} {bw : Nat} {l : List UInt8} (h : Wn (fun k => k < w1.heap.size) T w1 wr bw l) : Upd (fun _ => False) w1 wr :=
  h.upd.mono (fun i hi hs => hs hi)
theorem Wn.lt {K : Nat → Prop} {T : TypeId} {w1 wr : World} {bw : Nat} {l : List UInt8} (h : Wn K T w1 wr bw l) : bw < wr.heap.size := by
  obtain ⟨a, c, hW, hg⟩ := h.own
  exact hW.lt
/-- One block more is kept. -/
theorem Wn.enter {K : Nat → Prop} {T : TypeId} {w1 wr : World} {bw : Nat} {l : List UInt8} (h : Wn K T w1 wr bw l) (o : Obj) : Wn (fun k => K k ∨ k = wr.heap.size) T (wr.alloc o) (wr.alloc o) bw l := by
  obtain ⟨a, c, hW, hg⟩ := h.own
  have hU := Upd.alloc (fun _ => False) wr o
  have hlt := hW.lt
  have hz := h.upd.size
  refine ⟨⟨a, c, hW.upd hU (fun h => h) (fun _ _ h => h), fun g hg' hk => ?_⟩, fun hk => ?_, fun k hk => ?_, Upd.refl _ _⟩
  · rcases hk with hk | hk
    · exact hg g hg' hk
    · have := hW.ltb g hg'
      omega
  · rcases hk with hk | hk
    · exact h.nb hk
    · omega
  · rcases hk with hk | hk
    · have := h.bd k hk
      simp; omega
    · simp; omega
theorem Wn.leave {K : Nat → Prop} {T : TypeId} {w1 wr w2 : World} {bw : Nat} {l l' : List UInt8} {o : Obj} (h : Wn K T w1 wr bw l) (h2 : Wn (fun k => K k ∨ k = wr.heap.size) T (wr.alloc o) w2 bw l') : Wn K T w1 w2 bw l' := by
  obtain ⟨a, c, hW, hg⟩ := h2.own
  have hz := h.upd.size
  refine ⟨⟨a, c, hW, fun g hg' hk => hg g hg' (.inl hk)⟩, h.nb, h.bd, ?_⟩
  refine h.upd.trans ((Upd.alloc _ wr o).trans (h2.upd.mono (fun i hi hs hk => hs (.inl hk))))
/-- A row that is kept. -/
theorem Wn.row {K : Nat → Prop} {T : TypeId} {w1 wr : World} {bw : Nat} {l : List UInt8} {b : Nat} {o : Obj} (h : Wn K T w1 wr bw l) (hk : K b) (hr : w1.heap[b]? = some o) : wr.heap[b]? = some o :=
  (h.upd.block b (h.bd b hk) (fun x => x hk)).trans hr
theorem Wn.old {K : Nat → Prop} {T : TypeId} {w1 wr : World} {bw : Nat} {l : List UInt8} (h : Wn K T w1 wr bw l) (hK : ∀ k, k < w1.heap.size → K k) : Upd (fun _ => False) w1 wr :=
  h.upd.mono (fun i hi hs => hs (hK i hi))
theorem Wn.fresh (w1 : World) (T : TypeId) : ∃ K, (∀ k, k < w1.heap.size → K k) ∧ Wn K T w1 (w1.alloc (.cells #[.slice none 0 0] T)) w1.heap.size [] :=
  ⟨fun k => k < w1.heap.size, fun _ h => h, Wn.new w1 T⟩
theorem wn_num {K : Nat → Prop} {T : TypeId} {w1 wr : World} {bw : Nat} {l : List UInt8} (h : Wn K T w1 wr bw l) (hl : l.length ≤ 100000000) (x n : Int) (k : Nat) (h0 : 0 ≤ x) (hx : x < 2 ^ 64) (hn : min (max n 1) 8 = k) :
    Calls Tryz.prog 44 #[.pointer (some ⟨bw, 0, none⟩), .int .u64 x, .int .i64 n] wr fun e w' => e = .returned (.tuple #[]) ∧ Wn K T w1 w' bw (l ++ le x.toNat k) := by
  obtain ⟨a, c, hW, hg⟩ := h.own
  exact (num_int bw T a c l x n k wr hW h0 hx hn hl).mono (fun e w' hr => h.step hW hg hr)
theorem wn_int {K : Nat → Prop} {T : TypeId} {w1 wr : World} {bw : Nat} {l : List UInt8} (h : Wn K T w1 wr bw l) (hl : l.length ≤ 100000000) (v : Int) :
    Calls Tryz.prog 45 #[.pointer (some ⟨bw, 0, none⟩), .int .i64 v] wr fun e w' => e = .returned (.tuple #[]) ∧ Wn K T w1 w' bw (l ++ i4 v) := by
  obtain ⟨a, c, hW, hg⟩ := h.own
  exact (wint_any bw T a c l v wr hW hl).mono (fun e w' hr => h.step hW hg hr)
theorem wn_bool {K : Nat → Prop} {T : TypeId} {w1 wr : World} {bw : Nat} {l : List UInt8} (h : Wn K T w1 wr bw l) (hl : l.length ≤ 100000000) (b : Bool) :
    Calls Tryz.prog 53 #[.pointer (some ⟨bw, 0, none⟩), .bool b] wr fun e w' => e = .returned (.tuple #[]) ∧ Wn K T w1 w' bw (l ++ b1 b) := by
  obtain ⟨a, c, hW, hg⟩ := h.own
  exact (wbool_any bw T a c l b wr hW hl).mono (fun e w' hr => h.step hW hg hr)
/-- What Text writes of a list of bytes. -/
def tx (l : List UInt8) : List UInt8 := i4 l.length ++ l
theorem tx_len (l : List UInt8) : (tx l).length = l.length + 4 := by unfold tx; rw [List.length_append, i4_length]; omega
theorem t4_str (l : List UInt8) : t4 (str l) = tx l := by unfold t4 tx; rw [str_size, str_toList]
theorem wn_text {K : Nat → Prop} {T : TypeId} {w1 wr : World} {bw : Nat} {l : List UInt8} (h : Wn K T w1 wr bw l) (hl : l.length ≤ 100000000) (s : List UInt8) (hs : s.length ≤ 100000000) :
    Calls Tryz.prog 47 #[.pointer (some ⟨bw, 0, none⟩), .string (str s)] wr fun e w' => e = .returned (.tuple #[]) ∧ Wn K T w1 w' bw (l ++ tx s) := by
  obtain ⟨a, c, hW, hg⟩ := h.own
  have := wtext_any bw T a c l (str s) wr hW hl (by rw [str_size]; exact hs)
  rw [t4_str] at this
  exact this.mono (fun e w' hr => h.step hW hg hr)
theorem wn_bytes {K : Nat → Prop} {T : TypeId} {w1 wr : World} {bw : Nat} {l : List UInt8} (h : Wn K T w1 wr bw l) (hl : l.length ≤ 100000000) :
    Calls Tryz.prog 48 #[.pointer (some ⟨bw, 0, none⟩)] wr fun e w' => ∃ a c, e = .returned (.slice a l.length c) ∧ w'.ownsRow 0 5 1 (.slice a l.length c) l.length (bvs l) ∧ (∀ g, blk a = some g → wr.heap.size ≤ g) ∧ Upd (fun _ => False) wr w' := by
  obtain ⟨a, c, hW, hg⟩ := h.own
  refine (bytes_any bw T a c l wr hW hl).mono (fun e w' hr => ?_)
  obtain ⟨a5, c5, rfl, hown5, hU45, hf5, hnil5⟩ := hr
  exact ⟨a5, c5, rfl, hown5, hf5, hU45⟩
theorem flatMap_len {X : Type} (f : X → List UInt8) (n : Nat) : ∀ (l : List X), (∀ x ∈ l, (f x).length ≤ n) → (l.flatMap f).length ≤ l.length * n
  | [], _ => by simp
  | x :: l, h => by
    rw [List.flatMap_cons, List.length_append, List.length_cons, Nat.succ_mul]
    have := h x (by simp)
    have := flatMap_len f n l (fun y hy => h y (by simp [hy]))
    omega
theorem flatMap_succ {X Y : Type} (f : X → List Y) (l : List X) (k : Nat) (h : k < l.length) : (l.take k).flatMap f ++ f l[k] = (l.take (k + 1)).flatMap f := by
  rw [List.take_succ_eq_append_getElem h, List.flatMap_append]; simp
end Go.Proofs.YtccejkikphpnfaaGreatDoor
