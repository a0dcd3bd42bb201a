
/- slices.Reverse on numbers. -/
import Derived.Test.YtccejkikphpnfaaGreatDoorMet9
import Derived.RegionTactic
import Derived.ChangeAlike
namespace Go.Proofs.YtccejkikphpnfaaGreatDoor
set_option linter.unusedSimpArgs false
set_option linter.unusedVariables false
set_option maxRecDepth 100000
open Go.ChangeShapes Go.WideShapes Go.ChangeAt Go.RowKit

theorem ownsRow_set {w : World} {e : TypeId} {g n c : Nat} {xs : List Value} (h : w.ownsRow 0 e 1 (.slice (some ⟨g, 0, none⟩) n c) n xs) (j : Nat) (hj : j < n) (u : Value) :
    (w.setCell ⟨g, j, none⟩ u).ownsRow 0 e 1 (.slice (some ⟨g, 0, none⟩) n c) n (xs.set j u) := by
  rcases h.2 with ⟨hv, _⟩ | ⟨g', cap, cur, hv, hbg, hg, hnc, hcm, hcs, htake⟩
  · cases hv
  · simp only [Value.slice.injEq, Option.some.injEq, Addr.mk.injEq, and_true, true_and] at hv
    obtain ⟨rfl, rfl⟩ := hv
    simp only [Nat.mul_one] at *
    refine ⟨by rw [List.length_set, h.1, Nat.mul_one], .inr ⟨g, c, cur.setIfInBounds j u, rfl, hbg, setCell_heap j u hg, hnc, hcm, by simpa using hcs, ?_⟩⟩
    rw [← htake, Nat.mul_one, Array.toList_setIfInBounds, List.take_set]
theorem ownsRow_at {w : World} {e : TypeId} {g n c : Nat} {xs : List Value} (h : w.ownsRow 0 e 1 (.slice (some ⟨g, 0, none⟩) n c) n xs) (j : Nat) (u : Value) (hu : xs[j]? = some u) : w.cell? ⟨g, j, none⟩ = some u := by
  have hv := Vw.of_own h
  have := hv.cell ⟨g, 0, none⟩ rfl j u hu
  have ha : (Addr.add ⟨g, 0, none⟩ j) = ⟨g, j, none⟩ := by unfold Addr.add; split <;> simp_all
  rwa [ha] at this
theorem ownsRow_free {w : World} {e : TypeId} {g n c : Nat} {xs : List Value} (h : w.ownsRow 0 e 1 (.slice (some ⟨g, 0, none⟩) n c) n xs) (j : Nat) (hj : j < n) : w.frozen? ⟨g, j, none⟩ = false := by
  rcases h.2 with ⟨hv, _⟩ | ⟨g', cap, cur, hv, hbg, hg, hnc, hcm, hcs, htake⟩
  · cases hv
  · simp only [Value.slice.injEq, Option.some.injEq, Addr.mk.injEq, and_true, true_and] at hv
    obtain ⟨rfl, rfl⟩ := hv
    simp [World.frozen?, hg]
structure RevAt (xs : List Int) (t : Nat) (ys : List Int) : Prop where
  len : ys.length = xs.length
  val : ∀ k, k < xs.length → ys[k]? = if k < t ∨ xs.length ≤ k + t then xs[xs.length - 1 - k]? else xs[k]?
theorem RevAt.step {xs ys : List Int} {t : Nat} (h : RevAt xs t ys) (ht : t < xs.length - 1 - t) (x y : Int) (hx : xs[t]? = some x) (hy : xs[xs.length - 1 - t]? = some y) : RevAt xs (t + 1) ((ys.set t y).set (xs.length - 1 - t) x) := by
  refine ⟨by simp [h.len], fun k hk => ?_⟩
  have hl := h.len
  rw [List.getElem?_set, List.getElem?_set, List.length_set]
  by_cases h1 : xs.length - 1 - t = k
  · rw [if_pos h1, if_pos (by omega), if_pos (by omega), ← h1, show xs.length - 1 - (xs.length - 1 - t) = t from by omega, hx]
  · rw [if_neg h1]
    by_cases h2 : t = k
    · rw [if_pos h2, if_pos (by omega), if_pos (by omega), ← h2, hy]
    · rw [if_neg h2, h.val k hk]
      by_cases h3 : k < t ∨ xs.length ≤ k + t
      · rw [if_pos h3, if_pos (by omega)]
      · rw [if_neg h3, if_neg (by omega)]
theorem RevAt.fin {xs ys : List Int} {t : Nat} (h : RevAt xs t ys) (ht : xs.length ≤ 2 * t + 1) : ys = xs.reverse := by
  apply List.ext_getElem?
  intro k
  have hl := h.len
  by_cases hk : k < xs.length
  · rw [h.val k hk, List.getElem?_reverse hk]
    split
    · rfl
    · rename_i h3
      have : xs.length - 1 - k = k := by omega
      rw [this]
  · rw [List.getElem?_eq_none (by omega), List.getElem?_eq_none (by simp; omega)]

set_option maxHeartbeats 4000000 in
theorem rev_any (a : Option Addr) (c : Nat) (xs : List Int) (w : World) (h : w.ownsRow 0 3 1 (.slice a xs.length c) xs.length (xs.map iv)) (hl : xs.length ≤ 100000) :
    Calls Tryz.prog 64 #[.slice a xs.length c] w fun e w' => e = .returned (.tuple #[]) ∧ w'.ownsRow 0 3 1 (.slice a xs.length c) xs.length (xs.reverse.map iv) ∧ Upd (fun q => blk a = some q) w w' := by
  have hw : IntKind.i64.wrap ((xs.length : Int) - 1) = (xs.length : Int) - 1 := IntWalk.i64_in _ (by omega)
  have hlv := (Vw.of_own h).le
  have hcv := (Vw.of_own h).cap
  unfold maxLen at hcv
  have HO := Lib.hid h
  clear h
  go_enter Tryz.func64, Tryz.ntmps64
  go_wp2_with fail
  go_loopw [2, 3] (fun i j wr => ∃ (t : Nat) (ys : List Int), t ≤ xs.length ∧ i = .int .i64 (t : Int) ∧ j = .int .i64 ((xs.length : Int) - 1 - (t : Int)) ∧ Hid (RevAt xs t ys ∧ wr.ownsRow 0 3 1 (.slice a xs.length c) xs.length (ys.map iv) ∧ Upd (fun q => blk a = some q) w wr)) (fun i _ _ => xs.length - (intOf i).toNat)
  case atStart => exact ⟨0, xs, Nat.zero_le _, rfl, by simp, Lib.hid ⟨⟨rfl, fun k hk => by simp; omega⟩, HO.out, Upd.refl _ _⟩⟩
  case round =>
    clear HO
    obtain ⟨t, ys, ht, rfl, rfl, HI⟩ := hrel
    by_cases hlt : t < xs.length - 1 - t
    · have hI : (t : Int) < (xs.length : Int) - 1 - (t : Int) := by omega
      have hI0 : (0 : Int) ≤ (t : Int) := by omega
      have hI1 : (t : Int) < (xs.length : Int) := by omega
      have hI2 : (0 : Int) ≤ (xs.length : Int) - 1 - (t : Int) := by omega
      have hI3 : (xs.length : Int) - 1 - (t : Int) < (xs.length : Int) := by omega
      have hj : ((xs.length : Int) - 1 - (t : Int)).toNat = xs.length - 1 - t := by omega
      obtain ⟨g, rfl⟩ : ∃ g, a = some ⟨g, 0, none⟩ := by
        rcases HI.out.2.1.2 with ⟨hv, _⟩ | ⟨g, cap, cur, hv, _⟩
        · simp only [Value.slice.injEq] at hv; omega
        · simp only [Value.slice.injEq] at hv; exact ⟨g, hv.1⟩
      have hq := And.intro (RevAt.val HI.out.1 t (by omega)) (RevAt.val HI.out.1 (xs.length - 1 - t) (by omega))
      rw [if_neg (by omega), if_neg (by omega)] at hq
      obtain ⟨x, hx⟩ : ∃ x, xs[t]? = some x := ⟨_, List.getElem?_eq_getElem (by omega)⟩
      obtain ⟨y, hy⟩ : ∃ y, xs[xs.length - 1 - t]? = some y := ⟨_, List.getElem?_eq_getElem (by omega)⟩
      have hc1 : wr.cell? ⟨g, t, none⟩ = some (.int .i64 x) := ownsRow_at HI.out.2.1 t _ (by simp [hq.1, hx, iv])
      have hc2 : wr.cell? ⟨g, xs.length - 1 - t, none⟩ = some (.int .i64 y) := ownsRow_at HI.out.2.1 (xs.length - 1 - t) _ (by simp [hq.2, hy, iv])
      have hf1 := ownsRow_free HI.out.2.1 t (by omega)
      have hf2 := ownsRow_free HI.out.2.1 (xs.length - 1 - t) (by omega)
      obtain ⟨j, hjj⟩ : ∃ j, xs.length - 1 - t = j := ⟨_, rfl⟩
      have hjI : (xs.length : Int) - 1 - (t : Int) = (j : Int) := by omega
      have hne : t ≠ j := by omega
      have hlast := HI.out.2.1
      have hstep := HI.out.1.step hlt x y hx hy
      have ho2 := ownsRow_set (ownsRow_set HI.out.2.1 t (by omega) (.int .i64 y)) (xs.length - 1 - t) (by omega) (.int .i64 x)
      have hU2 : Upd (fun q => blk (some (⟨g, 0, none⟩ : Addr)) = some q) w ((wr.setCell ⟨g, t, none⟩ (.int .i64 y)).setCell ⟨g, xs.length - 1 - t, none⟩ (.int .i64 x)) :=
        (HI.out.2.2.trans (Upd.setCell (S := fun q => blk (some (⟨g, 0, none⟩ : Addr)) = some q) wr (by rfl) _)).trans (Upd.setCell (S := fun q => blk (some (⟨g, 0, none⟩ : Addr)) = some q) _ (by rfl) _)
      rw [hjj] at hc2 hf2 ho2 hU2 hstep
      rw [hjI]
      rw [hjI] at hI hI2 hI3
      have hd1 : IntKind.i64.wrap ((t : Int) + 1) = (t : Int) + 1 := IntWalk.i64_in _ (by omega)
      have hd2 : IntKind.i64.wrap ((j : Int) - 1) = (j : Int) - 1 := IntWalk.i64_in _ (by omega)
      have HX := Lib.hid (And.intro hstep (And.intro ho2 (And.intro hU2 (And.intro hjj hjI))))
      clear hstep ho2 hU2 hjj hjI hlast hq hx hy hj HI hlt
      have hap : (⟨g, t, none⟩ : Addr) ≠ ⟨g, j, none⟩ := fun e => by cases e; exact hne rfl
      go_upto_region 3 with (fail)
      go_region
      go_wp2_with fail
      go_roundw
      case rel => exact ⟨t + 1, _, by omega, by first | rfl | go_num, by rw [← HX.out.2.2.2.2]; congr 1; omega, Lib.hid ⟨HX.out.1, by have := ownsRow_upd HX.out.2.1 (Upd.drew (fun _ => False) _) (fun _ _ h => h); simpa [iv, List.map_set] using this, HX.out.2.2.1.trans (Upd.drew _ _)⟩⟩
      case measure => simp [intOf]; omega
    · have hI : ¬ (t : Int) < (xs.length : Int) - 1 - (t : Int) := by omega
      have hfin := HI.out.1.fin (by omega)
      have hr := HI.out.2.1
      rw [hfin] at hr
      have HF := Lib.hid (And.intro hr HI.out.2.2)
      clear hfin hr HI hlt
      go_wp2_with fail
      go_end0
      refine ⟨rfl, ?_, HF.out.2⟩
      have := HF.out.1
      rw [List.map_reverse] at this
      exact this
end Go.Proofs.YtccejkikphpnfaaGreatDoor
