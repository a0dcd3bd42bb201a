
/- SHA-256, the words: turning a word, as the program and as the reference do. -/
import Derived.Test.YtccejkikphpnfaaGreatDoorQ04
import Derived.Deep.MidRow
namespace Go.Proofs.YtccejkikphpnfaaGreatDoor
set_option linter.unusedSimpArgs false
set_option linter.unusedVariables false
set_option maxRecDepth 100000
open Go.ChangeShapes Go.WideShapes Go.ChangeAt Go.RowKit
def badB (x : UInt8) : Bool := decide (x.toNat < 33) || decide (126 < x.toNat)
/-- A text as a value. -/
def sv (l : List UInt8) : Value := .string (str l)
def badP (l : List UInt8) : Bool := l == [] || (l == [46] || l == [46, 46])
theorem any_take_succ {X : Type} (p : X → Bool) (l : List X) (j : Nat) (h : j < l.length) : (l.take (j + 1)).any p = ((l.take j).any p || p l[j]) := by
 rw [List.take_succ_eq_append_getElem h, List.any_append]; simp
theorem any_of_take {X : Type} (p : X → Bool) (l : List X) (j : Nat) (h : (l.take j).any p = true) : l.any p = true := by
 rw [List.any_eq_true] at h ⊢
 obtain ⟨x, hx, hp⟩ := h
 exact ⟨x, List.mem_of_mem_take hx, hp⟩
theorem pRight1_any (x : UInt8) (w : World) : Calls Tryz.prog 153 #[.int .u8 (x.toNat : Int)] w fun e w' => e = .returned (.bool (badB x)) ∧ w = w' := by
 have hx := x.toNat_lt
 by_cases h1 : x.toNat < 33
 ·have hb : badB x = true := by simp [badB, h1]
  have HB := Lib.hid hb
  have hi : (x.toNat : Int) < 33 := by omega
  clear hb
  go_enter Tryz.func153, Tryz.ntmps153
  go_wp2_with fail
  go_ret
  exact ⟨by rw [HB.out]; rfl, rfl⟩
 ·have hi : decide ((x.toNat : Int) < 33) = false := by rw [decide_eq_false_iff_not]; omega
  have hb : badB x = decide (126 < x.toNat) := by simp [badB, h1]
  have HB := Lib.hid hb
  clear hb
  by_cases h2 : 126 < x.toNat
  ·have hi2 : (126 : Int) < (x.toNat : Int) := by omega
   go_enter Tryz.func153, Tryz.ntmps153
   go_wp2_with fail
   go_ret
   exact ⟨by rw [HB.out, decide_eq_true h2]; rfl, rfl⟩
  ·have hi2 : decide ((126 : Int) < (x.toNat : Int)) = false := by rw [decide_eq_false_iff_not]; omega
   go_enter Tryz.func153, Tryz.ntmps153
   go_wp2_with fail
   go_ret
   exact ⟨by rw [HB.out, decide_eq_false h2]; rfl, rfl⟩
theorem pRight2_any (x : List UInt8) (w : World) : Calls Tryz.prog 156 #[sv x] w fun e w' => e = .returned (.bool (badP x)) ∧ w = w' := by
 unfold sv
 have e0 : (x == ([] : List UInt8)) = decide (x = []) := by cases x <;> rfl
 by_cases h1 : x = []
 ·subst h1
  go_enter Tryz.func156, Tryz.ntmps156
  go_wp2_with fail
  go_ret
  exact ⟨rfl, rfl⟩
 ·by_cases h2 : x = [46]
  ·subst h2
   go_enter Tryz.func156, Tryz.ntmps156
   go_wp2_with fail
   go_ret
   exact ⟨rfl, rfl⟩
  ·by_cases h3 : x = [46, 46]
   ·subst h3
    go_enter Tryz.func156, Tryz.ntmps156
    go_wp2_with fail
    go_ret
    exact ⟨rfl, rfl⟩
   ·have b1 : (x == ([] : List UInt8)) = false := by simpa using h1
    have b2 : (x == ([46] : List UInt8)) = false := by simpa using h2
    have b3 : (x == ([46, 46] : List UInt8)) = false := by simpa using h3
    have hb : badP x = false := by unfold badP; rw [b1, b2, b3]; rfl
    have HB := Lib.hid hb
    clear hb e0 h1 h2 h3
    go_enter Tryz.func156, Tryz.ntmps156
    go_wp2_with fail
    go_ret
    exact ⟨by rw [HB.out]; rfl, rfl⟩
set_option maxHeartbeats 1000000 in
theorem ifB_pRight1 (a : Option Addr) (c : Nat) (l : List UInt8) (w : World) (hv : Vw w a l.length c 1 (l.map bv)) :
  Calls Tryz.prog 163 #[.slice a l.length c, .func (.func 153) #[] #[]] w fun e w' => ∃ k : Int, e = .returned (.int .i64 k) ∧ decide (0 ≤ k) = l.any badB ∧ w = w' := by
 have hcap := hv.cap
 have hlc := hv.le
 unfold maxLen at hcap
 have HV := Lib.hid hv
 clear hv
 go_enter Tryz.func163, Tryz.ntmps163
 go_wp2_with fail
 go_loop [8] (fun i => ∃ j : Nat, j ≤ l.length ∧ i = .int .i64 (j : Int) ∧ Hid ((l.take j).any badB = false)) (fun i => l.length - (intOf i).toNat)
 case atStart => exact ⟨0, Nat.zero_le _, rfl, (by show _ = _; simp)⟩
 case round =>
  obtain ⟨j, hj, rfl, hA⟩ := hrel
  by_cases hlt : j < l.length
  ·have hI : (j : Int) < (l.length : Int) := by omega
   obtain ⟨b, o, hb, hcell⟩ := HV.out.at (by omega) (by decide)
   subst hb
   have q := hcell j (bv l[j]) (by simp [hlt])
   have hs := any_take_succ badB l j hlt
   rw [hA.out, Bool.false_or] at hs
   have hall := any_of_take badB l (j + 1)
   rw [hs] at hall
   generalize l[j] = x at *
   unfold bv at q
   have HS := Lib.hid hs
   have HALL := Lib.hid hall
   clear hcell hs hall hA
   cases hp : badB x with
   | true =>
    have hany := HALL.out hp
    have HANY := Lib.hid hany
    have HP := Lib.hid hp
    clear hany hp
    go_wp2_with fail
    refine (pRight1_any x w).mono ?_
    rintro e w' ⟨rfl, rfl⟩
    rw [HP.out]
    go_wp2_with fail
    go_ret
    exact ⟨(j : Int), rfl, by rw [HANY.out]; exact decide_eq_true (by omega), rfl⟩
   | false =>
    have HP := Lib.hid hp
    clear hp
    go_wp2_with fail
    refine (pRight1_any x w).mono ?_
    rintro e w' ⟨rfl, rfl⟩
    rw [HP.out]
    go_wp2_with fail
    go_round
    case rel => exact ⟨j + 1, by omega, by first | rfl | go_num, (by show _ = _; rw [HS.out, HP.out])⟩
    case measure => simp [intOf]; omega
  ·obtain rfl : j = l.length := by omega
   have h0 := hA.out
   rw [List.take_length] at h0
   have H0 := Lib.hid h0
   clear h0 hA
   go_wp2_with fail
   go_ret
   exact ⟨-1, rfl, by rw [H0.out]; decide, rfl⟩
theorem cfB_pRight1 (a : Option Addr) (c : Nat) (l : List UInt8) (w : World) (hv : Vw w a l.length c 1 (l.map bv)) :
  Calls Tryz.prog 152 #[.slice a l.length c, .func (.func 153) #[] #[]] w fun e w' => e = .returned (.bool (l.any badB)) ∧ w = w' := by
 have h := ifB_pRight1 a c l w hv
 clear hv
 go_enter Tryz.func152, Tryz.ntmps152
 go_wp2_with fail
 refine h.mono ?_
 rintro e w' ⟨k, rfl, hk, rfl⟩
 have HK := Lib.hid hk
 clear hk h
 go_wp2_with fail
 go_ret
 exact ⟨by rw [← HK.out]; rfl, rfl⟩
set_option maxHeartbeats 1000000 in
theorem ifS_pRight2 (a : Option Addr) (c : Nat) (l : List (List UInt8)) (w : World) (hv : Vw w a l.length c 1 (l.map sv)) :
  Calls Tryz.prog 164 #[.slice a l.length c, .func (.func 156) #[] #[]] w fun e w' => ∃ k : Int, e = .returned (.int .i64 k) ∧ decide (0 ≤ k) = l.any badP ∧ w = w' := by
 have hcap := hv.cap
 have hlc := hv.le
 unfold maxLen at hcap
 have HV := Lib.hid hv
 clear hv
 go_enter Tryz.func164, Tryz.ntmps164
 go_wp2_with fail
 go_loop [8] (fun i => ∃ j : Nat, j ≤ l.length ∧ i = .int .i64 (j : Int) ∧ Hid ((l.take j).any badP = false)) (fun i => l.length - (intOf i).toNat)
 case atStart => exact ⟨0, Nat.zero_le _, rfl, (by show _ = _; simp)⟩
 case round =>
  obtain ⟨j, hj, rfl, hA⟩ := hrel
  by_cases hlt : j < l.length
  ·have hI : (j : Int) < (l.length : Int) := by omega
   obtain ⟨b, o, hb, hcell⟩ := HV.out.at (by omega) (by decide)
   subst hb
   have q := hcell j (sv l[j]) (by simp [hlt])
   have hs := any_take_succ badP l j hlt
   rw [hA.out, Bool.false_or] at hs
   have hall := any_of_take badP l (j + 1)
   rw [hs] at hall
   generalize l[j] = x at *
   unfold sv at q
   have HS := Lib.hid hs
   have HALL := Lib.hid hall
   clear hcell hs hall hA
   cases hp : badP x with
   | true =>
    have hany := HALL.out hp
    have HANY := Lib.hid hany
    have HP := Lib.hid hp
    clear hany hp
    go_wp2_with fail
    refine (pRight2_any x w).mono ?_
    rintro e w' ⟨rfl, rfl⟩
    rw [HP.out]
    go_wp2_with fail
    go_ret
    exact ⟨(j : Int), rfl, by rw [HANY.out]; exact decide_eq_true (by omega), rfl⟩
   | false =>
    have HP := Lib.hid hp
    clear hp
    go_wp2_with fail
    refine (pRight2_any x w).mono ?_
    rintro e w' ⟨rfl, rfl⟩
    rw [HP.out]
    go_wp2_with fail
    go_round
    case rel => exact ⟨j + 1, by omega, by first | rfl | go_num, (by show _ = _; rw [HS.out, HP.out])⟩
    case measure => simp [intOf]; omega
  ·obtain rfl : j = l.length := by omega
   have h0 := hA.out
   rw [List.take_length] at h0
   have H0 := Lib.hid h0
   clear h0 hA
   go_wp2_with fail
   go_ret
   exact ⟨-1, rfl, by rw [H0.out]; decide, rfl⟩
theorem cfS_pRight2 (a : Option Addr) (c : Nat) (l : List (List UInt8)) (w : World) (hv : Vw w a l.length c 1 (l.map sv)) :
  Calls Tryz.prog 154 #[.slice a l.length c, .func (.func 156) #[] #[]] w fun e w' => e = .returned (.bool (l.any badP)) ∧ w = w' := by
 have h := ifS_pRight2 a c l w hv
 clear hv
 go_enter Tryz.func154, Tryz.ntmps154
 go_wp2_with fail
 refine h.mono ?_
 rintro e w' ⟨k, rfl, hk, rfl⟩
 have HK := Lib.hid hk
 clear hk h
 go_wp2_with fail
 go_ret
 exact ⟨by rw [← HK.out]; rfl, rfl⟩
theorem Wr.upd {S : Nat → Prop} {w w' : World} {bw : Nat} {T : TypeId} {a : Option Addr} {c : Nat} {l : List UInt8} (h : Wr w bw T a c l) (hU : Upd S w w') (h1 : ¬ S bw) (h2 : ∀ k, blk a = some k → ¬ S k) : Wr w' bw T a c l :=
 ⟨(hU.block bw (lt_of_heap h.here) h1).trans h.here, ownsRow_upd h.own hU (fun k hk => h2 k ((own_blk _ _ _).symm.trans hk)), h.ne⟩
theorem Rd.upd {S : Nat → Prop} {w w' : World} {br : Nat} {F : Option Nat} {l : List UInt8} {e : Int} (h : Rd w br F l e) (hU : Upd S w w') (h1 : ¬ S br) (h2 : ∀ k, F = some k → ¬ S k) : Rd w' br F l e := by
 obtain ⟨⟨a, c, hh, hv, hb⟩, hne⟩ := h
 refine ⟨⟨a, c, (hU.block br (lt_of_heap hh) h1).trans hh, hv.upd hU (fun k hk => ?_), hb⟩, hne⟩
 rcases hb with hb | hb
 ·rw [hb] at hk; cases hk
 ·exact h2 k (hb ▸ hk)
theorem Rd.lt {w : World} {br : Nat} {F : Option Nat} {l : List UInt8} {e : Int} (h : Rd w br F l e) : br < w.heap.size := by
 obtain ⟨⟨a, c, hh, hv, hb⟩, hne⟩ := h
 exact lt_of_heap hh
theorem Wr.lt {w : World} {bw : Nat} {T : TypeId} {a : Option Addr} {c : Nat} {l : List UInt8} (h : Wr w bw T a c l) : bw < w.heap.size := lt_of_heap h.here
theorem Wr.ltb {w : World} {bw : Nat} {T : TypeId} {a : Option Addr} {c : Nat} {l : List UInt8} (h : Wr w bw T a c l) (k : Nat) (hk : blk a = some k) : k < w.heap.size := (h.own.lt k ((own_blk _ _ _).trans hk)).2
/-- A new writer. -/
theorem Wr.new (w : World) (T : TypeId) : Wr (w.alloc (.cells #[.slice none 0 0] T)) w.heap.size T none 0 [] :=
 ⟨heap_alloc_new w _, World.ownsRow_nil _ _ _ _, by simp [blk]⟩
/-- The writer at block bw has written l; since w1 the blocks K have not changed. -/
structure Wn (K : Nat → Prop) (T : TypeId) (w1 wr : World) (bw : Nat) (l : List UInt8) : Prop where
 own : ∃ a c, Wr wr bw T a c l ∧ ∀ g, blk a = some g → ¬ K g
 nb : ¬ K bw
 bd : ∀ k, K k → k < w1.heap.size
 upd : Upd (fun k => ¬ K k) w1 wr
theorem Wn.step {K : Nat → Prop} {T : TypeId} {w1 wr w' : World} {bw : Nat} {l l' : List UInt8} {a : Option Addr} {c : Nat} {e : Ending} (h : Wn K T w1 wr bw l) (hW : Wr wr bw T a c l) (hg : ∀ g, blk a = some g → ¬ K g)
  (hr : Wrote wr bw T a l' e w') : e = .returned (.tuple #[]) ∧ Wn K T w1 w' bw l' := by
 obtain ⟨rfl, a', c', hW', hU, hS⟩ := hr
 have hz := h.upd.size
 refine ⟨rfl, ⟨a', c', hW', fun g hg' => ?_⟩, h.nb, h.bd, h.upd.trans (hU.mono (fun i hi hs => ?_))⟩
 ·rcases hS g hg' with h1 | h1
  ·exact hg g h1
  ·intro hk
   have := h.bd g hk
   omega
 ·rcases hs with h1 | h1
  ·rw [h1]; exact h.nb
  ·exact hg i h1
theorem Wn.other {K : Nat → Prop} {T : TypeId} {w1 wr w' : World} {bw : Nat} {l : List UInt8} (h : Wn K T w1 wr bw l) (hU : Upd (fun _ => False) wr w') : Wn K T w1 w' bw l := by
 obtain ⟨a, c, hW, hg⟩ := h.own
 exact ⟨⟨a, c, hW.upd hU (fun h => h) (fun _ _ h => h), hg⟩, h.nb, h.bd, h.upd.trans (hU.mono (fun _ _ h => h.elim))⟩
theorem Wn.new (w1 : World) (T : TypeId) : Wn (fun k => k < w1.heap.size) T w1 (w1.alloc (.cells #[.slice none 0 0] T)) w1.heap.size [] :=
 ⟨⟨none, 0, Wr.new w1 T, fun g h => by cases h⟩, Nat.lt_irrefl _, fun _ h => h, Upd.alloc _ _ _⟩
theorem Wn.lt {K : Nat → Prop} {T : TypeId} {w1 wr : World} {bw : Nat} {l : List UInt8} (h : Wn K T w1 wr bw l) : bw < wr.heap.size := by
 obtain ⟨a, c, hW, hg⟩ := h.own
 exact hW.lt
/-- One block more is kept. -/
theorem Wn.enter {K : Nat → Prop} {T : TypeId} {w1 wr : World} {bw : Nat} {l : List UInt8} (h : Wn K T w1 wr bw l) (o : Obj) : Wn (fun k => K k ∨ k = wr.heap.size) T (wr.alloc o) (wr.alloc o) bw l := by
 obtain ⟨a, c, hW, hg⟩ := h.own
 have hU := Upd.alloc (fun _ => False) wr o
 have hlt := hW.lt
 have hz := h.upd.size
 refine ⟨⟨a, c, hW.upd hU (fun h => h) (fun _ _ h => h), fun g hg' hk => ?_⟩, fun hk => ?_, fun k hk => ?_, Upd.refl _ _⟩
 ·rcases hk with hk | hk
  ·exact hg g hg' hk
  ·have := hW.ltb g hg'
   omega
 ·rcases hk with hk | hk
  ·exact h.nb hk
  ·omega
 ·rcases hk with hk | hk
  ·have := h.bd k hk
   simp; omega
  ·simp; omega
theorem Wn.leave {K : Nat → Prop} {T : TypeId} {w1 wr w2 : World} {bw : Nat} {l l' : List UInt8} {o : Obj} (h : Wn K T w1 wr bw l) (h2 : Wn (fun k => K k ∨ k = wr.heap.size) T (wr.alloc o) w2 bw l') : Wn K T w1 w2 bw l' := by
 obtain ⟨a, c, hW, hg⟩ := h2.own
 have hz := h.upd.size
 refine ⟨⟨a, c, hW, fun g hg' hk => hg g hg' (.inl hk)⟩, h.nb, h.bd, ?_⟩
 refine h.upd.trans ((Upd.alloc _ wr o).trans (h2.upd.mono (fun i hi hs hk => hs (.inl hk))))
/-- A row that is kept. -/
theorem Wn.row {K : Nat → Prop} {T : TypeId} {w1 wr : World} {bw : Nat} {l : List UInt8} {b : Nat} {o : Obj} (h : Wn K T w1 wr bw l) (hk : K b) (hr : w1.heap[b]? = some o) : wr.heap[b]? = some o :=
 (h.upd.block b (h.bd b hk) (fun x => x hk)).trans hr
theorem Wn.old {K : Nat → Prop} {T : TypeId} {w1 wr : World} {bw : Nat} {l : List UInt8} (h : Wn K T w1 wr bw l) (hK : ∀ k, k < w1.heap.size → K k) : Upd (fun _ => False) w1 wr :=
 h.upd.mono (fun i hi hs => hs (hK i hi))
theorem Wn.fresh (w1 : World) (T : TypeId) : ∃ K, (∀ k, k < w1.heap.size → K k) ∧ Wn K T w1 (w1.alloc (.cells #[.slice none 0 0] T)) w1.heap.size [] :=
 ⟨fun k => k < w1.heap.size, fun _ h => h, Wn.new w1 T⟩
theorem wn_num {K : Nat → Prop} {T : TypeId} {w1 wr : World} {bw : Nat} {l : List UInt8} (h : Wn K T w1 wr bw l) (hl : l.length ≤ 100000000) (x n : Int) (k : Nat) (h0 : 0 ≤ x) (hx : x < 2 ^ 64) (hn : min (max n 1) 8 = k) :
  Calls Tryz.prog 44 #[.pointer (some ⟨bw, 0, none⟩), .int .u64 x, .int .i64 n] wr fun e w' => e = .returned (.tuple #[]) ∧ Wn K T w1 w' bw (l ++ le x.toNat k) := by
 obtain ⟨a, c, hW, hg⟩ := h.own
 exact (num_int bw T a c l x n k wr hW h0 hx hn hl).mono (fun e w' hr => h.step hW hg hr)
theorem wn_int {K : Nat → Prop} {T : TypeId} {w1 wr : World} {bw : Nat} {l : List UInt8} (h : Wn K T w1 wr bw l) (hl : l.length ≤ 100000000) (v : Int) :
  Calls Tryz.prog 45 #[.pointer (some ⟨bw, 0, none⟩), .int .i64 v] wr fun e w' => e = .returned (.tuple #[]) ∧ Wn K T w1 w' bw (l ++ i4 v) := by
 obtain ⟨a, c, hW, hg⟩ := h.own
 exact (wint_any bw T a c l v wr hW hl).mono (fun e w' hr => h.step hW hg hr)
theorem wn_bool {K : Nat → Prop} {T : TypeId} {w1 wr : World} {bw : Nat} {l : List UInt8} (h : Wn K T w1 wr bw l) (hl : l.length ≤ 100000000) (b : Bool) :
  Calls Tryz.prog 53 #[.pointer (some ⟨bw, 0, none⟩), .bool b] wr fun e w' => e = .returned (.tuple #[]) ∧ Wn K T w1 w' bw (l ++ b1 b) := by
 obtain ⟨a, c, hW, hg⟩ := h.own
 exact (wbool_any bw T a c l b wr hW hl).mono (fun e w' hr => h.step hW hg hr)
/-- What Text writes of a list of bytes. -/
def tx (l : List UInt8) : List UInt8 := i4 l.length ++ l
theorem tx_len (l : List UInt8) : (tx l).length = l.length + 4 := by unfold tx; rw [List.length_append, i4_length]; omega
theorem t4_str (l : List UInt8) : t4 (str l) = tx l := by unfold t4 tx; rw [str_size, str_toList]
theorem wn_text {K : Nat → Prop} {T : TypeId} {w1 wr : World} {bw : Nat} {l : List UInt8} (h : Wn K T w1 wr bw l) (hl : l.length ≤ 100000000) (s : List UInt8) (hs : s.length ≤ 100000000) :
  Calls Tryz.prog 47 #[.pointer (some ⟨bw, 0, none⟩), .string (str s)] wr fun e w' => e = .returned (.tuple #[]) ∧ Wn K T w1 w' bw (l ++ tx s) := by
 obtain ⟨a, c, hW, hg⟩ := h.own
 have := wtext_any bw T a c l (str s) wr hW hl (by rw [str_size]; exact hs)
 rw [t4_str] at this
 exact this.mono (fun e w' hr => h.step hW hg hr)
theorem wn_bytes {K : Nat → Prop} {T : TypeId} {w1 wr : World} {bw : Nat} {l : List UInt8} (h : Wn K T w1 wr bw l) (hl : l.length ≤ 100000000) :
  Calls Tryz.prog 48 #[.pointer (some ⟨bw, 0, none⟩)] wr fun e w' => ∃ a c, e = .returned (.slice a l.length c) ∧ w'.ownsRow 0 5 1 (.slice a l.length c) l.length (bvs l) ∧ (∀ g, blk a = some g → wr.heap.size ≤ g) ∧ Upd (fun _ => False) wr w' := by
 obtain ⟨a, c, hW, hg⟩ := h.own
 refine (bytes_any bw T a c l wr hW hl).mono (fun e w' hr => ?_)
 obtain ⟨a5, c5, rfl, hown5, hU45, hf5, hnil5⟩ := hr
 exact ⟨a5, c5, rfl, hown5, hf5, hU45⟩
theorem flatMap_len {X : Type} (f : X → List UInt8) (n : Nat) : ∀ (l : List X), (∀ x ∈ l, (f x).length ≤ n) → (l.flatMap f).length ≤ l.length * n
 | [], _ => by simp
 | x :: l, h => by
  rw [List.flatMap_cons, List.length_append, List.length_cons, Nat.succ_mul]
  have := h x (by simp)
  have := flatMap_len f n l (fun y hy => h y (by simp [hy]))
  omega
theorem flatMap_succ {X Y : Type} (f : X → List Y) (l : List X) (k : Nat) (h : k < l.length) : (l.take k).flatMap f ++ f l[k] = (l.take (k + 1)).flatMap f := by
 rw [List.take_succ_eq_append_getElem h, List.flatMap_append]; simp
/-- A root's cells. -/
def rootA (p : Int) (a : Option Addr) (n c : Nat) (k : Int) : Array Value := #[.int .i64 p, .slice a n c, .slice none 0 0, .slice none 0 0, .int .i64 k]
/-- It may be. -/
structure RootIn (p : Int) (n : Nat) (k : Int) : Prop where
 p0 : -1 ≤ p
 p1 : p < 2000
 n1 : n ≤ 2000
 k0 : -1 ≤ k
 k1 : k < 2000
theorem within_ok (v lo hi : Int) (w : World) (h : lo ≤ v) (h2 : v ≤ hi) : Calls Tryz.prog 79 #[.int .i64 v, .int .i64 lo, .int .i64 hi] w fun e w' => e = .returned (.bool true) ∧ w = w' := by
 go_enter Tryz.func79, Tryz.ntmps79
 go_wp2
 go_ret
 exact ⟨rfl, rfl⟩
theorem number_ok (v : Int) (w : World) (h : -1 ≤ v) (h2 : v < 2000) : Calls Tryz.prog 82 #[.int .i64 v] w fun e w' => e = .returned (.bool true) ∧ w = w' := by
 go_enter Tryz.func82, Tryz.ntmps82
 go_wp2_with fail
 refine (within_ok v (-1) 1999 w h (by omega)).mono ?_
 rintro e w' ⟨rfl, rfl⟩
 go_wp2_with fail
 go_ret
 exact ⟨rfl, rfl⟩
theorem ifM_nil (w : World) (f : Value) : Calls Tryz.prog 149 #[.slice none 0 0, f] w fun e w' => e = .returned (.int .i64 (-1)) ∧ w = w' := by
 go_enter Tryz.func149, Tryz.ntmps149
 go_wp2_with fail
 go_loopw [8] (fun i wr => i = .int .i64 0 ∧ w = wr) (fun _ _ => 0)
 case atStart => exact ⟨rfl, rfl⟩
 case round =>
  obtain ⟨rfl, rfl⟩ := hrel
  go_wp2_with fail
  go_ret
  exact ⟨rfl, rfl⟩
theorem cfM_nil (w : World) (f : Value) : Calls Tryz.prog 119 #[.slice none 0 0, f] w fun e w' => e = .returned (.bool false) ∧ w = w' := by
 go_enter Tryz.func119, Tryz.ntmps119
 go_wp2_with fail
 refine (ifM_nil w _).mono ?_
 rintro e w' ⟨rfl, rfl⟩
 go_wp2_with fail
 go_ret
 exact ⟨rfl, rfl⟩
theorem markers_nil (w : World) : Calls Tryz.prog 80 #[.slice none 0 0] w fun e w' => e = .returned (.bool true) ∧ w = w' := by
 go_enter Tryz.func80, Tryz.ntmps80
 go_wp2_with fail
 refine (cfM_nil w _).mono ?_
 rintro e w' ⟨rfl, rfl⟩
 go_wp2_with fail
 go_ret
 exact ⟨rfl, rfl⟩
theorem marks_nil (w : World) : Calls Tryz.prog 81 #[.slice none 0 0] w fun e w' => e = .returned (.bool true) ∧ w = w' := by
 go_enter Tryz.func81, Tryz.ntmps81
 go_wp2_with fail
 go_loopw [7] (fun i wr => i = .int .i64 0 ∧ w = wr) (fun _ _ => 0)
 case atStart => exact ⟨rfl, rfl⟩
 case round =>
  obtain ⟨rfl, rfl⟩ := hrel
  go_wp2_with fail
  go_ret
  exact ⟨rfl, rfl⟩
theorem mroot_ok (p : Int) (a : Option Addr) (n c : Nat) (k : Int) (w : World) (h : RootIn p n k) :
  Calls Tryz.prog 43 #[.agg (rootA p a n c k)] w fun e w' => e = .returned (.bool true) ∧ Upd (fun _ => False) w w' := by
 obtain ⟨h1, h2, h3, h4, h5⟩ := h
 have hU := Upd.alloc (fun _ => False) w (.cells (rootA p a n c k) 26)
 unfold rootA at hU ⊢
 have HU := Lib.hid hU
 clear hU
 have hI : decide ((n : Int) ≤ 2000) = true := by rw [decide_eq_true_iff]; omega
 go_enter Tryz.func43, Tryz.ntmps43
 go_wp2_with fail
 refine (within_ok p (-1) 1999 _ h1 (by omega)).mono ?_
 rintro e w' ⟨rfl, rfl⟩
 go_wp2_with fail
 refine (markers_nil _).mono ?_
 rintro e w' ⟨rfl, rfl⟩
 go_wp2_with fail
 refine (marks_nil _).mono ?_
 rintro e w' ⟨rfl, rfl⟩
 go_wp2_with fail
 refine (number_ok k _ h4 h5).mono ?_
 rintro e w' ⟨rfl, rfl⟩
 go_wp2_with fail
 go_ret
 exact ⟨rfl, HU.out⟩
def uv (x : Int) : Value := .int .u32 x
/-! A turn. -/
/-! Whole arrays, by value. -/
theorem wpList_load_row {P : Program} {ops : Array Oper} {rest : List Oper} {op : Oper} {a : Act} {w : World} {Q : Exit → Act → World → Prop} (hgd : op.guard = none) (ty : TypeId) (x : Operand) (ho : op.op = .load ty x)
  (b : Nat) (cs : Array Value) (t : TypeId) (fr : Nat × Nat) (d : TypeDesc) (hx : a.eval x = .pointer (some ⟨b, 0, none⟩)) (hg : w.heap[b]? = some (.cells cs t fr))
  (hu : P.underlying ty = some d) (hd : d.isRow = true) (hi : (P.info? ty).map (·.size) = some cs.size)
  (h : wpList P ops Q rest (a.put op.dst (.agg cs)) w) : wpList P ops Q (op :: rest) a w := by
 refine wpList_load_mid hgd ty x ho b 0 hx cs.toList d (fun j v hv => ?_) hu hd (by simpa using hi) (by simpa using h)
 rw [Nat.zero_add, cell_of_row _ _ j _ _ _ hg]
 simpa using hv
theorem wp_store_row {P : Program} {op : Oper} {a : Act} {w : World} {K : Act → World → Prop} {Q : Exit → Act → World → Prop} (ty : TypeId) (x y : Operand) (ho : op.op = .store ty x y)
  (b : Nat) (cells old : Array Value) (t : TypeId) (hx : a.eval x = .pointer (some ⟨b, 0, none⟩)) (hy : a.eval y = .agg cells)
  (hg : w.heap[b]? = some (.cells old t (0, 0))) (hi : (P.info? ty).map (·.size) = some cells.size) (hz : old.size = cells.size) (h1 : cells.all (·.oneCell') = true)
  (h : K (a.put op.dst undef) (w.setRow b cells)) : op.wp P a w K Q := by
 unfold Oper.wp execOp
 simp only [ho, hx, hy, Instr.storeAt, Instr.sureAddr, Sem.run_bind, Sem.run_pure, Result.andThen_ok, run_storeVar_row w b t ty old cells hg hi hz h1]
 exact h
theorem wpList_store_row {P : Program} {ops : Array Oper} {rest : List Oper} {op : Oper} {a : Act} {w : World} {Q : Exit → Act → World → Prop} (hgd : op.guard = none) (ty : TypeId) (x y : Operand) (ho : op.op = .store ty x y)
  (b : Nat) (cells old : Array Value) (t : TypeId) (hx : a.eval x = .pointer (some ⟨b, 0, none⟩)) (hy : a.eval y = .agg cells)
  (hg : w.heap[b]? = some (.cells old t (0, 0))) (hi : (P.info? ty).map (·.size) = some cells.size) (hz : old.size = cells.size) (h1 : cells.all (·.oneCell') = true)
  (h : wpList P ops Q rest (a.put op.dst undef) (w.setRow b cells)) : wpList P ops Q (op :: rest) a w :=
 wpList_plain hgd fun _ hK => wp_store_row ty x y ho b cells old t hx hy hg hi hz h1 (hK _ _ h)
theorem ret_row {P : Program} {fn : Func} {R : Ending → World → Prop} {a : Act} {w : World} {p : Tmp} {ty : TypeId} (h : fn.results = #[.cell p ty]) (b : Nat) (cs : Array Value) (t : TypeId) (fr : Nat × Nat) (d : TypeDesc)
  (hp : a.tmps.getD p undef = .pointer (some ⟨b, 0, none⟩)) (hg : w.heap[b]? = some (.cells cs t fr)) (hu : P.underlying ty = some d) (hd : d.isRow = true) (hi : (P.info? ty).map (·.size) = some cs.size)
  (hdf : a.defers = []) (hR : R (.returned (.agg cs)) w) : bodyPost P fn R .ret a w := by
 refine bodyPost_ret ?_ hdf hR
 have := run_loadVar_row (P := P) w b t ty cs fr d hg hu (by cases d <;> simp_all) hi
 simp only [results, h]
 rw [Array.getD_eq_getD_getElem?] at hp
 simp [Sem.run_bind, Result.andThen, hp, asAddr, this]
theorem Upd.setRow {S : Nat → Prop} (w : World) {b : Nat} (hb : S b) (cs : Array Value) : Upd S w (w.setRow b cs) :=
 ⟨rfl, rfl, rfl, by simp, fun k hk hs => setRow_other w b k cs (fun e => hs (e ▸ hb))⟩
/-- A block that holds an array of words. -/
def Arr (w : World) (b : Nat) (T : TypeId) (ws : List Int) : Prop := w.heap[b]? = some (.cells (ws.map uv).toArray T (0, 0))
theorem Arr.cell {w : World} {b : Nat} {T : TypeId} {ws : List Int} (h : Arr w b T ws) (i : Nat) (hi : i < ws.length) : w.cell? ⟨b, i, none⟩ = some (.int .u32 (ws.getD i 0)) := by
 rw [cell_of_row _ _ _ _ _ _ h]
 simp [List.getElem?_eq_getElem hi, uv]
theorem Arr.lt {w : World} {b : Nat} {T : TypeId} {ws : List Int} (h : Arr w b T ws) : b < w.heap.size := lt_of_heap h
theorem Arr.upd {S : Nat → Prop} {w w' : World} {b : Nat} {T : TypeId} {ws : List Int} (h : Arr w b T ws) (hU : Upd S w w') (hS : ¬ S b) : Arr w' b T ws := (hU.block b h.lt hS).trans h
theorem Arr.row {w : World} {b : Nat} {T : TypeId} {ws : List Int} (h : Arr w b T ws) (vs : List Int) : Arr (w.setRow b (vs.map uv).toArray) b T vs := setRow_heap w b _ _ _ _ h
theorem Arr.drew {w : World} {b : Nat} {T : TypeId} {ws : List Int} (h : Arr w b T ws) : Arr w.drew b T ws := h
theorem Arr.alloc {w : World} {b : Nat} {T : TypeId} {ws : List Int} (h : Arr w b T ws) (o : Obj) : Arr (w.alloc o) b T ws := (Below.heap_alloc w o b h.lt).trans h
theorem Arr.new (w : World) (T : TypeId) (ws : List Int) : Arr (w.alloc (.cells (ws.map uv).toArray T)) w.heap.size T ws := heap_alloc_new w _
end Go.Proofs.YtccejkikphpnfaaGreatDoor
