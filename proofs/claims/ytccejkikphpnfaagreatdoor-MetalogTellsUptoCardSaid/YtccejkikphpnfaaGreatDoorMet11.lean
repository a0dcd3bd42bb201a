
/- The log's line; lists of numbers held against each other. -/
import Derived.Test.YtccejkikphpnfaaGreatDoorMet10
namespace Go.Proofs.YtccejkikphpnfaaGreatDoor
set_option linter.unusedSimpArgs false
set_option linter.unusedVariables false
set_option maxRecDepth 100000
open Go.ChangeShapes Go.WideShapes Go.ChangeAt Go.RowKit

/-- From the root i back, each one's elder: these. -/
def Chain (rr : List RRow) : Int → List Int → Prop
  | i, [] => i < 0
  | i, j :: L => j = i ∧ 0 ≤ i ∧ ∃ x, rr[i.toNat]? = some x ∧ Chain rr x.p L
theorem Chain.small {rr : List RRow} {i : Int} {L : List Int} (h : Chain rr i L) (hb : -1 ≤ i) : -1 ≤ i ∧ i < rr.length := by
  cases L with
  | nil => have : i < 0 := h; omega
  | cons j L =>
    obtain ⟨h1, h2, x, hx, _⟩ := h
    have := (List.getElem?_eq_some_iff.1 hx).1
    omega
theorem rr_get (rr : List RRow) (i : Nat) (x : RRow) (hx : rr[i]? = some x) : (rr.flatMap rrV)[i * 5 + 0]? = some (.int .i64 x.p) := by
  rw [flatMap_get rrV 5 rrV_len rr i 0 (by decide), hx]; rfl

set_option maxHeartbeats 4000000 in
theorem mLine_any (g : Lg) (A : LA) (lb : Nat) (L : List Int) (w : World) (h : LogW w lb g A) (hch : Chain g.rr (g.top - 1) L) (ht0 : 0 ≤ g.top) (ht1 : g.top ≤ 2000) (hL : L.length ≤ 100000) :
    Calls Tryz.prog 26 #[.pointer (some ⟨lb, 0, none⟩)] w fun e w' => ∃ a c, e = .returned (.slice a L.length c) ∧ w'.ownsRow 0 3 1 (.slice a L.length c) L.length (L.reverse.map iv) ∧ (∀ q, blk a = some q → w.heap.size ≤ q) ∧ Upd (fun _ => False) w w' := by
  have hat := mAt_any h ht0 (by omega)
  obtain ⟨ra, rc, fa, fc, ka, kc, da, dc⟩ := A
  obtain ⟨rr, fs, cs, top, ds, n⟩ := g
  dsimp only at *
  have HL := Lib.hid h
  have HCH := Lib.hid hch
  have hcap := h.rr.cap
  have hlr := h.rr.le
  unfold maxLen at hcap
  dsimp only at hcap hlr
  clear h hch
  go_enter Tryz.func26, Tryz.ntmps26
  go_wp2_with fail
  refine hat.mono ?_
  rintro e w' ⟨rfl, rfl⟩
  clear hat
  go_wp2_with fail
  go_loopw [3, 4] (fun o i wr => ∃ (D R : List Int) (a' : Option Addr) (c' : Nat) (v : Int), Hid (D ++ R = L ∧ Chain rr v R) ∧ o = .slice a' D.length c' ∧ i = .int .i64 v ∧ Hid (wr.ownsRow 0 3 1 (.slice a' D.length c') D.length (D.map iv) ∧ (∀ q, blk a' = some q → w.heap.size ≤ q) ∧ Upd (fun _ => False) w wr)) (fun o _ _ => L.length - (match o with | .slice _ n _ => n | _ => 0))
  case atStart => exact ⟨[], L, none, 0, top - 1, Lib.hid ⟨rfl, HCH.out⟩, rfl, rfl, Lib.hid ⟨World.ownsRow_nil _ _ _ _, (fun q e => by cases e), Upd.refl _ _⟩⟩
  case round =>
    clear HCH
    obtain ⟨D, R, a', c', v, HC, rfl, rfl, HI⟩ := hrel
    cases R with
    | nil =>
      have hv : v < 0 := HC.out.2
      have hI : decide ((0 : Int) ≤ v) = false := by rw [decide_eq_false_iff_not]; omega
      have hDL : D = L := by have := HC.out.1; rwa [List.append_nil] at this
      subst hDL
      have hrev := rev_any a' c' D wr HI.out.1 hL
      have HF := Lib.hid HI.out.2
      clear HC HI
      go_wp2_with fail
      refine hrev.mono ?_
      rintro e w2 ⟨rfl, hown, hU⟩
      have HZ := Lib.hid (And.intro hown (HF.out.2.next hU (fun i hi e => by have := HF.out.1 i e; omega)))
      clear hrev hown hU
      go_wp2_with fail
      go_ret
      exact ⟨a', c', rfl, HZ.out.1, HF.out.1, HZ.out.2⟩
    | cons j R =>
      obtain ⟨hDR, hjv, h0, x, hx, hch⟩ := HC.out
      subst hjv
      have hlen := (List.getElem?_eq_some_iff.1 hx).1
      have hDl : D.length ≤ 100000 := by have := congrArg List.length hDR; rw [List.length_append] at this; omega
      have hI2 : j < (rr.length : Int) := by omega
      have hLw := HL.out.other HI.out.2.2
      obtain ⟨b, o, hb, hcell⟩ := hLw.rr.at (by show 0 < rr.length; omega) (by decide)
      dsimp only at hb
      subst hb
      have q0 := hLw.c0
      dsimp only at q0
      have hq := hcell (j.toNat * 5 + 0) _ (rr_get rr j.toNat x hx)
      rw [Nat.add_zero] at hq
      have HX := Lib.hid (And.intro hDR (And.intro hx hch))
      have hmeas : D.length < L.length := by rw [← hDR, List.length_append, List.length_cons]; omega
      obtain ⟨i0, hi, hz0, hz1, hz2⟩ := info_parts4 infoIntZ
      have HIX := Lib.hid (And.intro hi (And.intro hz0 (And.intro hz1 hz2)))
      clear hi hz0 hz1 hz2 hDR hx hch HC
      have hUa := Upd.alloc (fun _ => False) wr (.cells #[.int .i64 j] 3)
      have hown1 := ownsRow_upd HI.out.1 hUa (fun _ _ h => h)
      have hsrc := int_src wr j
      clear q0 hq hcell hLw
      go_upto_region 6 with (fail)
      go_wp2_with (at_builtin; refine wpList_app _ rfl (.tmp 19) (.tmp 21) 49 49 rfl 3 i0 (.int .i64 0) 1 8 Tryz.underlying49 HIX.out.1 HIX.out.2.1 HIX.out.2.2.1 HIX.out.2.2.2 rfl a' D.length c' (D.map iv) rfl hown1 (.slice (some ⟨wr.heap.size, 0, none⟩) 1 1) 1 [iv j] rfl hsrc ?_ ?_ ?_)
      · unfold maxLen; omega
      · omega
      intro a8 c8 w8 hown8 hg8 hat8 hnil8
      have hU8 : Upd (fun _ => False) w w8 := (HI.out.2.2.trans hUa).next (Upd.grown (S := fun k => blk a' = some k) hg8 (fun k hk => hk)) (fun i hi e => by have := HI.out.2.1 i e; omega)
      have hz8 := hUa.size
      have hzw := HI.out.2.2.size
      have hf8 : ∀ q, blk a8 = some q → w.heap.size ≤ q := fun q hq => by
        rcases hat8 with e | e
        · exact HI.out.2.1 q (e.symm.trans hq)
        · rw [e] at hq; cases hq; omega
      have hLw8 := HL.out.other hU8
      obtain ⟨b2, o2, hb2, hcell2⟩ := hLw8.rr.at (by show 0 < rr.length; omega) (by decide)
      dsimp only at hb2
      cases hb2
      have q0 := hLw8.c0
      dsimp only at q0
      have hq := hcell2 (j.toNat * 5 + 0) _ (rr_get rr j.toNat x HX.out.2.1)
      rw [Nat.add_zero] at hq
      have HN := Lib.hid (And.intro hown8 (And.intro hf8 hU8))
      clear hown8 hg8 hat8 hnil8 hU8 hz8 hzw hf8 hLw8 hcell2 hUa hown1 hsrc
      go_wp2_with fail
      go_roundw
      case rel => exact ⟨D ++ [j], R, a8, c8, x.p, Lib.hid ⟨by rw [← HX.out.1]; simp, HX.out.2.2⟩, by simp, rfl, Lib.hid ⟨by have := HN.out.1; simpa [iv] using this, HN.out.2⟩⟩
      case measure => simp; omega
end Go.Proofs.YtccejkikphpnfaaGreatDoor
