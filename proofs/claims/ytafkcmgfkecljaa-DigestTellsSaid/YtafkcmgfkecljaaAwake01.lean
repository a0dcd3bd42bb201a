/- 'awake' of the statements of layer 1: it answers true, and changes nothing that was there. -/
import Derived.Test.YtafkcmgfkecljaaHelp
namespace Go.Proofs.Ytafkcmgfkecljaa
set_option linter.unusedSimpArgs false
set_option linter.unusedVariables false
open Go.ChangeShapes Go.WideShapes Go.ChangeAt Go.RowKit

theorem Upd.fresh {w w' : World} (h : Upd (fun k => w.heap.size ≤ k) w w') : Upd (fun _ => False) w w' := h.mono (fun i hi hs => by omega)
theorem Upd.clean {w w' : World} (h : Upd (fun _ => False) w w') : Below w.heap.size w w' := h.below (Nat.le_refl _) (fun _ _ h => h)
theorem Wr.upd {S : Nat → Prop} {w w' : World} {bw : Nat} {T : TypeId} {a : Option Addr} {c : Nat} {l : List UInt8} (h : Wr w bw T a c l) (hU : Upd S w w') (h1 : ¬ S bw) (h2 : ∀ k, blk a = some k → ¬ S k) : Wr w' bw T a c l :=
  ⟨(hU.block bw (lt_of_heap h.here) h1).trans h.here, ownsRow_upd h.own hU (fun k hk => h2 k ((own_blk _ _ _).symm.trans hk)), h.ne⟩
theorem Rd.upd {S : Nat → Prop} {w w' : World} {br : Nat} {F : Option Nat} {l : List UInt8} {e : Int} (h : Rd w br F l e) (hU : Upd S w w') (h1 : ¬ S br) (h2 : ∀ k, F = some k → ¬ S k) : Rd w' br F l e := by
  obtain ⟨⟨a, c, hh, hv, hb⟩, hne⟩ := h
  refine ⟨⟨a, c, (hU.block br (lt_of_heap hh) h1).trans hh, hv.upd hU (fun k hk => ?_), hb⟩, hne⟩
  rcases hb with hb | hb
  · rw [hb] at hk; cases hk
  · exact h2 k (hb ▸ hk)
theorem Rd.lt {w : World} {br : Nat} {F : Option Nat} {l : List UInt8} {e : Int} (h : Rd w br F l e) : br < w.heap.size := by
  obtain ⟨⟨a, c, hh, hv, hb⟩, hne⟩ := h
  exact lt_of_heap hh
theorem Wr.lt {w : World} {bw : Nat} {T : TypeId} {a : Option Addr} {c : Nat} {l : List UInt8} (h : Wr w bw T a c l) : bw < w.heap.size := lt_of_heap h.here
theorem Wr.ltb {w : World} {bw : Nat} {T : TypeId} {a : Option Addr} {c : Nat} {l : List UInt8} (h : Wr w bw T a c l) (k : Nat) (hk : blk a = some k) : k < w.heap.size := (h.own.lt k ((own_blk _ _ _).trans hk)).2
/-- A new writer. -/
theorem Wr.new (w : World) (T : TypeId) : Wr (w.alloc (.cells #[.slice none 0 0] T)) w.heap.size T none 0 [] :=
  ⟨heap_alloc_new w _, World.ownsRow_nil _ _ _ _, by simp [blk]⟩
/-- A literal of bytes, laid in a new block. -/
theorem Vw.lit (w : World) (l : List UInt8) (t : TypeId) (hl : l.length ≤ 100) : Vw (w.alloc (.cells (bvs l).toArray t)) (some ⟨w.heap.size, 0, none⟩) l.length l.length 1 (bvs l) :=
  ⟨by simp [bvs], Nat.le_refl _, by unfold maxLen; omega, (fun h => by cases h), (fun x hx j u hu => by cases hx; exact World.news_of_block (cs := (bvs l).toArray) (heap_alloc_new w _) j u hu)⟩

theorem awake01_any (w : World) : Calls Try.prog 14 #[] w fun e w' => e = .returned (.bool true) ∧ Upd (fun _ => False) w w' := by
  have hW0 := Wr.new w 26
  have hU0 := Upd.alloc (fun k => w.heap.size ≤ k) w (.cells #[.slice none 0 0] 26)
  have hz0 : (w.alloc (.cells #[.slice none 0 0] 26)).heap.size = w.heap.size + 1 := by simp
  go_enter Try.func14, Try.ntmps14
  go_wp2_with fail
  refine (wint_any w.heap.size 26 none 0 [] (-1) _ hW0 (by simp)).mono ?_
  rintro e w1 ⟨rfl, a1, c1, hW1, hU1, hS1⟩
  have hU01 := hU0.next hU1 (fun i hi h => by rcases h with h | h; omega; cases h)
  go_wp2_with fail
  refine (num_int w.heap.size 26 a1 c1 _ 258 2 2 w1 hW1 (by decide) (by decide) rfl (by decide)).mono ?_
  rintro e w2 ⟨rfl, a2, c2, hW2, hU2, hS2⟩
  have hb2 := hW2.lt
  have hz2 := hU2.size
  have hz1 := hU1.size
  have hU02 := hU01.next hU2 (fun i hi h => by
    rcases h with h | h
    · omega
    · rcases hS1 i h with h | h
      · cases h
      · omega)
  have hbs2 : ∀ k, blk a2 = some k → w.heap.size ≤ k ∧ k < w2.heap.size := fun k hk => ⟨by
    rcases hS2 k hk with h | h
    · rcases hS1 k h with h | h
      · cases h
      · omega
    · omega, hW2.ltb k hk⟩
  clear hS1 hS2 hU1 hU2 hW1 hW0 hU0 hU01
  go_wp2_with fail
  have hv3 : Vw (w2.alloc (.cells #[.int .u8 1, .int .u8 0, .int .u8 0, .int .u8 0] 5)) (some ⟨w2.heap.size, 0, none⟩) 4 4 1 (bvs [1, 0, 0, 0]) := Vw.lit w2 [1, 0, 0, 0] 5 (by decide)
  have hU23 := Upd.alloc (fun _ => False) w2 (.cells #[.int .u8 1, .int .u8 0, .int .u8 0, .int .u8 0] 5)
  refine (read_any (some ⟨w2.heap.size, 0, none⟩) 4 [1, 0, 0, 0] _ hv3 (by decide)).mono ?_
  rintro e w4 ⟨br, F, rfl, hR4, hU34, hbr, hF⟩
  have hU24 := hU23.trans hU34
  have hz4 := hU24.size
  simp only [World.size_alloc] at hbr hF
  have hW4 := hW2.upd hU24 (fun h => h) (fun _ _ h => h)
  have hU04 := hU02.next hU24 (fun i hi h => h.elim)
  have hbr' : w2.heap.size < br := by omega
  have HF := Lib.hid hF
  clear hF hU23 hU34 hU24 hv3 hW2 hU02 hbr
  go_wp2_with fail
  refine (bytes_any w.heap.size 26 a2 c2 _ w4 hW4 (by decide)).mono ?_
  rintro e w5 ⟨a5, c5, rfl, hown5, hU45, hf5, hnil5⟩
  have hv5 := Vw.of_own hown5
  have hR5 := hR4.upd hU45 (fun h => h) (fun _ _ h => h)
  have hU05 := hU04.next hU45 (fun i hi h => h.elim)
  have hl5 : ([] ++ i4 (-1) ++ le (258 : Int).toNat 2) = [0, 0, 0, 0, 2, 1] := by decide
  rw [hl5] at hv5
  simp only [hl5]
  have hlt5 : ∀ k, blk a5 = some k → k < w5.heap.size := fun k hk => (hown5.lt k ((own_blk _ _ _).trans hk)).2
  clear hnil5 hown5 hW4 hU04 hU45 hR4 hf5 hbs2
  go_wp2_with fail
  have hv6 : Vw (w5.alloc (.cells #[.int .u8 0, .int .u8 0, .int .u8 0, .int .u8 0, .int .u8 2, .int .u8 1] 5)) (some ⟨w5.heap.size, 0, none⟩) 6 6 1 (bvs [0, 0, 0, 0, 2, 1]) := Vw.lit w5 [0, 0, 0, 0, 2, 1] 5 (by decide)
  have hUa := Upd.alloc (fun _ => False) w5 (.cells #[.int .u8 0, .int .u8 0, .int .u8 0, .int .u8 0, .int .u8 2, .int .u8 1] 5)
  have hv5' := hv5.upd hUa (fun _ _ h => h)
  have hR6 := hR5.upd hUa (fun h => h) (fun _ _ h => h)
  have hU06 := hU05.next hUa (fun i hi h => h.elim)
  refine (sBytes_any a5 (some ⟨w5.heap.size, 0, none⟩) c5 6 [0, 0, 0, 0, 2, 1] [0, 0, 0, 0, 2, 1] _ hv5' hv6).mono ?_
  generalize hw6 : w5.alloc (.cells #[.int .u8 0, .int .u8 0, .int .u8 0, .int .u8 0, .int .u8 2, .int .u8 1] 5) = w6 at *
  clear hw6 hv5' hv6 hUa hR5 hU05 hv5
  rintro e w' ⟨rfl, rfl⟩
  rw [show ([0, 0, 0, 0, 2, 1] == ([0, 0, 0, 0, 2, 1] : List UInt8)) = true from by decide]
  go_wp2_with fail
  refine (rint_any br F ⟨[1, 0, 0, 0], 0⟩ w6 hR6 (by decide)).mono ?_
  rw [show takeS 4 ⟨[1, 0, 0, 0], 0⟩ = ([1, 0, 0, 0], ⟨[], 0⟩) from rfl, show intV ⟨[1, 0, 0, 0], 0⟩ = 0 from rfl]
  rintro e w7 ⟨rfl, hR7, hU67⟩
  have hU07 := hU06.next hU67 (fun i hi h => by omega)
  clear hU67 hU06 hR6
  go_wp2_with fail
  refine (left_any br F [] 0 w7 hR7).mono ?_
  rintro e w' ⟨rfl, rfl⟩
  go_wp2_with fail
  go_ret
  exact ⟨rfl, hU07.fresh⟩
end Go.Proofs.Ytafkcmgfkecljaa
