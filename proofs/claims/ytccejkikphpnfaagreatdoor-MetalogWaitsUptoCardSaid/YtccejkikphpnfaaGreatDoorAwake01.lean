
/- 'awake' of the statements of layer 1: it answers true, and changes nothing that was there. -/
import Derived.Test.YtccejkikphpnfaaGreatDoorHelp
namespace Go.Proofs.YtccejkikphpnfaaGreatDoor
set_option linter.unusedSimpArgs false
set_option linter.unusedVariables false
open Go.ChangeShapes Go.WideShapes Go.ChangeAt Go.RowKit

theorem Upd.fresh {w w' : World} (h : Upd (fun k => w.heap.size ≤ k) w w') : Upd (fun _ => False) w w' := h.mono (fun i hi hs => by omega)
theorem Upd.clean {w w' : World} (h : Upd (fun _ => False) w w') : Below w.heap.size w w' := h.below (Nat.le_refl _) (fun _ _ h => h)
theorem Wr.upd {S : Nat → Prop} {w w' : World} {bw : Nat} {T : TypeId} {a : Option Addr} {c : Nat} {l : List UInt8} (h : Wr w bw T a c l) (hU : Upd S w w') (h1 : ¬ S bw) (h2 : ∀ k, blk a = some k → ¬ S k) : Wr w' bw T a c l :=
  ⟨(hU.block bw (lt_of_heap h.here) h1).trans h.here, ownsRow_upd h.own hU (fun k hk => h2 k ((own_blk _ _ _).symm.trans hk)), h.ne⟩
theorem Rd.upd {S : Nat → Prop} {w w' : World} {br : Nat} {F : Option Nat} {l : List UInt8} {e : Int} (h : Rd w br F l e) (hU : Upd S w w') (h1 : ¬ S br) (h2 : ∀ k, F = some k → ¬ S k) : Rd w' br F l e := by
  obtain ⟨⟨a, c, hh, hv, hb⟩, hne⟩ := h
  refine ⟨⟨a, c, (hU.block br (lt_of_heap hh) h1).trans hh, hv.upd hU (fun k hk => ?_), hb⟩, hne⟩
  rcases hb with hb | hb
  · rw [hb] at hk; cases hk
  · exact h2 k (hb ▸ hk)
theorem Rd.lt {w : World} {br : Nat} {F : Option Nat} {l : List UInt8} {e : Int} (h : Rd w br F l e) : br < w.heap.size := by
  obtain ⟨⟨a, c, hh, hv, hb⟩, hne⟩ := h
  exact lt_of_heap hh
theorem Wr.lt {w : World} {bw : Nat} {T : TypeId} {a : Option Addr} {c : Nat} {l : List UInt8} (h : Wr w bw T a c l) : bw < w.heap.size := lt_of_heap h.here
theorem Wr.ltb {w : World} {bw : Nat} {T : TypeId} {a : Option Addr} {c : Nat} {l : List UInt8} (h : Wr w bw T a c l) (k : Nat) (hk : blk a = some k) : k < w.heap.size := (h.own.lt k ((own_blk _ _ _).trans hk)).2
/-- A new writer. -/
theorem Wr.new (w : World) (T : TypeId) : Wr (w.alloc (.cells #[.slice none 0 0] T)) w.heap.size T none 0 [] :=
  ⟨heap_alloc_new w _, World.ownsRow_nil _ _ _ _, by simp [blk]⟩
/-- A literal of bytes, laid in a new block. -/
theorem Vw.lit (w : World) (l : List UInt8) (t : TypeId) (hl : l.length ≤ 100) : Vw (w.alloc (.cells (bvs l).toArray t)) (some ⟨w.heap.size, 0, none⟩) l.length l.length 1 (bvs l) :=
  ⟨by simp [bvs], Nat.le_refl _, by unfold maxLen; omega, (fun h => by cases h), (fun x hx j u hu => by cases hx; exact World.news_of_block (cs := (bvs l).toArray) (heap_alloc_new w _) j u hu)⟩

end Go.Proofs.YtccejkikphpnfaaGreatDoor
