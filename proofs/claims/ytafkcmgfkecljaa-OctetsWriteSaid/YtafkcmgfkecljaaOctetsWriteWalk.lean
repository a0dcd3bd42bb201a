/- The walk of OctetsWrite. -/
import Derived.Test.YtafkcmgfkecljaaItems
namespace Go.Proofs.Ytafkcmgfkecljaa
set_option linter.unusedSimpArgs false
set_option linter.unusedVariables false
open Go.ChangeShapes Go.WideShapes Go.ChangeAt Go.RowKit

/-- Both texts under way: the writer's and the reference's. -/
def Both (w : World) (L : List UInt8) (bs : Value) (wr : World) : Prop :=
  ∃ a c a2 c2, bs = .slice a2 L.length c2 ∧ Wr wr w.heap.size 26 a c L ∧ (∀ g, blk a = some g → w.heap.size ≤ g) ∧ Vw wr a2 L.length c2 1 (bvs L) ∧ (∀ g, blk a2 = some g → blk a ≠ some g ∧ w.heap.size < g ∧ g < wr.heap.size)
theorem Both.step {w wr w1 w2 w3 : World} {a a' a3 : Option Addr} {c' c3 : Nat} {L' : List UInt8} (hU1 : Upd (fun _ => False) wr w1) (hlt : w.heap.size < wr.heap.size) (hla : ∀ g, blk a = some g → g < wr.heap.size) (hG : ∀ g, blk a = some g → w.heap.size ≤ g)
    (hW2 : Wr w2 w.heap.size 26 a' c' L') (hU2 : Upd (WrS w.heap.size a) w1 w2) (hS2 : Slid w1 a a') (h3 : w3.ownsRow 0 5 1 (.slice a3 L'.length c3) L'.length (bvs L')) (hU3 : Upd (fun _ => False) w2 w3) (hf3 : ∀ g, blk a3 = some g → w2.heap.size ≤ g) :
    Both w L' (.slice a3 L'.length c3) w3 ∧ Upd (fun k => w.heap.size ≤ k) wr w3 := by
  have z1 := hU1.size
  have z2 := hU2.size
  have z3 := hU3.size
  refine ⟨⟨a', c', a3, c3, rfl, hW2.upd hU3 (fun h => h) (fun _ _ h => h), fun g hg => ?_, Vw.of_own h3, fun g hg => ⟨fun h => ?_, ?_, ?_⟩⟩, ?_⟩
  · rcases hS2 g hg with h | h
    · exact hG g h
    · omega
  · have := hW2.ltb g h
    have := hf3 g hg
    omega
  · have := hf3 g hg
    omega
  · exact (h3.lt g ((own_blk _ _ _).trans hg)).2
  · refine (hU1.mono (fun i _ h => h.elim)).trans ((hU2.mono (fun i hi h => ?_)).trans (hU3.mono (fun i _ h => h.elim)))
    rcases h with h | h
    · omega
    · exact hG i h

set_option maxRecDepth 100000 in
set_option maxHeartbeats 1000000 in
theorem OctetsWrite_walk (w : World) (la : Option Addr) (lc : Nat) (l : List It) (hl : Vw w la l.length lc 5 (l.flatMap decIt)) (hlg : ∀ x ∈ l, goodIt x) (hlb : ∀ b, blk la = some b → b < w.heap.size) :
    Calls Try.prog 10 #[.slice la l.length lc] w fun e w' => e = .returned (.bool true) ∧ Below w.heap.size w w' := by
  have hW0 := Wr.new w 26
  have hU0 := Upd.alloc (fun k => w.heap.size ≤ k) w (.cells #[.slice none 0 0] 26)
  have hz0 : (w.alloc (.cells #[.slice none 0 0] 26)).heap.size = w.heap.size + 1 := by simp
  obtain ⟨i0, hi, hz0', hz1', hz2'⟩ := info_parts infoU8
  have hcap := hl.cap
  have hlc := hl.le
  unfold maxLen at hcap
  have HLG := Lib.hid hlg
  clear hlg
  go_enter Try.func10, Try.ntmps10
  go_wp2_with fail
  generalize hw0 : w.alloc (.cells #[.slice none 0 0] 26) = w0 at *
  clear hw0
  go_loopw [4, 5] (fun bs i wr => ∃ k : Nat, k ≤ l.length ∧ k ≤ 40 ∧ i = .int .i64 (k : Int) ∧ Hid (∀ x ∈ l.take k, x.s.size ≤ 300) ∧ Both w (encIts (l.take k)) bs wr ∧ Upd (fun k => w.heap.size ≤ k) w wr) (fun _ i _ => l.length - (intOf i).toNat)
  case atStart => exact ⟨0, by omega, by omega, rfl, Lib.hid (by simp), ⟨none, 0, none, 0, rfl, by simpa [encIts] using hW0, (fun g h => by cases h), by simpa [encIts, bvs] using Vw.nl _ 1, (fun g h => by cases h)⟩, hU0⟩
  case round =>
    obtain ⟨k, hk, hk40, rfl, HS, ⟨a, c, a2, c2, rfl, hW, hG, hB, hG2⟩, hU⟩ := hrel
    have HG := Lib.hid hG
    have HG2 := Lib.hid hG2
    have hz := hU.size
    clear hW0 hU0 hG hG2
    have hv := hl.upd hU (fun k hk => by have := hlb k hk; omega)
    by_cases hlt : k < l.length ∧ k < 40
    · obtain ⟨h1, h2⟩ := hlt
      obtain ⟨b, off, rfl, hcell⟩ := hv.at (by omega) (by decide)
      have hc0 : wr.cell? ⟨b, off + k * 5, none⟩ = some (.int .i64 l[k].k) := hcell (k * 5 + 0) _ (decIt_get l k 0 h1 (by decide))
      have hc1 : wr.cell? ⟨b, off + k * 5 + 1, none⟩ = some (.int .u64 l[k].v) := hcell (k * 5 + 1) _ (decIt_get l k 1 h1 (by decide))
      have hc2 : wr.cell? ⟨b, off + k * 5 + 2, none⟩ = some (.int .i64 l[k].n) := hcell (k * 5 + 2) _ (decIt_get l k 2 h1 (by decide))
      have hc3 : wr.cell? ⟨b, off + k * 5 + 3, none⟩ = some (.string l[k].s) := hcell (k * 5 + 3) _ (decIt_get l k 3 h1 (by decide))
      have hc4 : wr.cell? ⟨b, off + k * 5 + 4, none⟩ = some (.bool l[k].b) := hcell (k * 5 + 4) _ (decIt_get l k 4 h1 (by decide))
      have hI : (k : Int) < (l.length : Int) := by omega
      have hI2 : (k : Int) < 40 := by omega
      have hL := encIts_succ l k h1
      obtain ⟨hg1, hg2⟩ := HLG.out l[k] (List.getElem_mem _)
      have hlen := encIts_length (l.take k) HS.out
      rw [List.length_take] at hlen
      have HS' : l[k].s.size ≤ 300 → Hid (∀ x ∈ l.take (k + 1), x.s.size ≤ 300) := fun h => Lib.hid (fun x hx => by
        rw [List.take_succ_eq_append_getElem h1] at hx
        rcases List.mem_append.1 hx with hx | hx
        · exact HS.out x hx
        · simp at hx; subst hx; exact h)
      generalize l[k] = x at *
      obtain ⟨xk, xv, xn, xs, xb⟩ := x
      dsimp only at *
      have hlen' : (encIts (l.take k)).length ≤ 100000000 := by omega
      have HL := Lib.hid hL
      have HH := Lib.hid HS'
      have hUa := Upd.alloc (fun _ => False) wr (.cells #[.int .i64 xk, .int .u64 xv, .int .i64 xn, .string xs, .bool xb] 60)
      have hrow := heap_alloc_new wr (.cells #[.int .i64 xk, .int .u64 xv, .int .i64 xn, .string xs, .bool xb] 60)
      generalize hw1 : wr.alloc (.cells #[.int .i64 xk, .int .u64 xv, .int .i64 xn, .string xs, .bool xb] 60) = w1 at *
      have HW1 := Lib.hid hw1
      have hW1 := hW.upd hUa (fun h => h) (fun _ _ h => h)
      have hB1 := hB.upd hUa (fun _ _ h => h)
      clear hL hcell hv HS' hw1
      by_cases h300 : 300 < xs.size
      · have hd300 : decide (300 < (xs.size : Int)) = true := by simp; omega
        go_wp2_with fail
        rw [HW1.out]
        refine (awake01_any w1).mono ?_
        rintro e w3 ⟨rfl, hU23⟩
        go_wp2_with fail
        go_ret
        exact ⟨rfl, (hU.next ((hUa.trans hU23)) (fun i hi h => h.elim)).fresh.clean⟩
      · have hd300 : decide (300 < (xs.size : Int)) = false := by simp; omega
        have hlW := hW.ltb
        have HLW := Lib.hid hlW
        have hltW := hW.lt
        clear hlW
        have hnx : ¬ WrS w.heap.size a wr.heap.size := fun h => by
          rcases h with h | h
          · omega
          · have := HLW.out _ h; omega
        have hnb : ∀ g, blk a2 = some g → ¬ WrS w.heap.size a g := fun g hg h => by
          have := HG2.out g hg
          rcases h with h | h
          · omega
          · exact this.1 h
        by_cases k1 : xk = 1
        · subst k1
          go_wp2_with fail
          rw [HW1.out]
          refine (wint_any w.heap.size 26 a c _ xn w1 hW1 hlen').mono ?_
          rintro e w2 ⟨rfl, a', c', hW2, hU2, hS2⟩
          have hr2 := (hU2.block _ (lt_of_heap hrow) hnx).trans hrow
          have hy2 : w2.cell? ⟨wr.heap.size, 2, none⟩ = some (.int .i64 xn) := by rw [cell_of_row _ _ _ _ _ _ hr2]; rfl
          have hB2 := hB1.upd hU2 hnb
          go_wp2_with fail
          refine (refInt_any a2 c2 _ xn w2 hB2 hlen').mono ?_
          rintro e w3 ⟨a3, c3, rfl, hown3, hU3, hf3, hnil3⟩
          have he : encIts (l.take k) ++ i4 xn = encIts (l.take (k + 1)) := by
            rw [← HL.out]; simp [encIt]
          rw [he] at hW2 hown3
          rw [he]
          have HB := Both.step hUa hltW HLW.out HG.out hW2 hU2 hS2 hown3 hU3 hf3
          clear hW2 hU2 hS2 hown3 hU3 hf3 hnil3 hB2 he hr2 hy2
          go_wp2_with fail
          go_roundw
          case rel => exact ⟨k + 1, by omega, by omega, by first | rfl | go_num, HH.out (by omega), HB.1, hU.trans HB.2⟩
          case measure => simp [intOf]; omega
        · by_cases k2 : xk = 2
          · subst k2
            go_wp2_with fail
            rw [HW1.out]
            refine (wtext_any w.heap.size 26 a c _ xs w1 hW1 hlen' (by omega)).mono ?_
            rintro e w2 ⟨rfl, a', c', hW2, hU2, hS2⟩
            have hr2 := (hU2.block _ (lt_of_heap hrow) hnx).trans hrow
            have hy3 : w2.cell? ⟨wr.heap.size, 3, none⟩ = some (.string xs) := by rw [cell_of_row _ _ _ _ _ _ hr2]; rfl
            have hB2 := hB1.upd hU2 hnb
            go_wp2_with fail
            refine (refText_any a2 c2 _ xs w2 hB2 hlen' (by omega)).mono ?_
            rintro e w3 ⟨a3, c3, rfl, hown3, hU3, hf3, hnil3⟩
            have he : encIts (l.take k) ++ t4 xs = encIts (l.take (k + 1)) := by
              rw [← HL.out]; simp [encIt]
            rw [he] at hW2 hown3
            rw [he]
            have HB := Both.step hUa hltW HLW.out HG.out hW2 hU2 hS2 hown3 hU3 hf3
            clear hW2 hU2 hS2 hown3 hU3 hf3 hnil3 hB2 he hr2 hy3
            go_wp2_with fail
            go_roundw
            case rel => exact ⟨k + 1, by omega, by omega, by first | rfl | go_num, HH.out (by omega), HB.1, hU.trans HB.2⟩
            case measure => simp [intOf]; omega
          · by_cases k3 : xk = 3
            · subst k3
              go_wp2_with fail
              rw [HW1.out]
              refine (wbool_any w.heap.size 26 a c _ xb w1 hW1 hlen').mono ?_
              rintro e w2 ⟨rfl, a', c', hW2, hU2, hS2⟩
              have hr2 := (hU2.block _ (lt_of_heap hrow) hnx).trans hrow
              have hy4 : w2.cell? ⟨wr.heap.size, 4, none⟩ = some (.bool xb) := by rw [cell_of_row _ _ _ _ _ _ hr2]; rfl
              have hB2 := hB1.upd hU2 hnb
              go_wp2_with fail
              refine (refBool_any a2 c2 _ xb w2 hB2 hlen').mono ?_
              rintro e w3 ⟨a3, c3, rfl, hown3, hU3, hf3, hnil3⟩
              have he : encIts (l.take k) ++ b1 xb = encIts (l.take (k + 1)) := by
                rw [← HL.out]; simp [encIt]
              rw [he] at hW2 hown3
              rw [he]
              have HB := Both.step hUa hltW HLW.out HG.out hW2 hU2 hS2 hown3 hU3 hf3
              clear hW2 hU2 hS2 hown3 hU3 hf3 hnil3 hB2 he hr2 hy4
              go_wp2_with fail
              go_roundw
              case rel => exact ⟨k + 1, by omega, by omega, by first | rfl | go_num, HH.out (by omega), HB.1, hU.trans HB.2⟩
              case measure => simp [intOf]; omega
            · have q1 : (xk == 1) = false := by simpa using k1
              have q2 : (xk == 2) = false := by simpa using k2
              have q3 : (xk == 3) = false := by simpa using k3
              go_wp2_with fail
              rw [HW1.out]
              refine (num_any w.heap.size 26 a c _ xv xn w1 hW1 hg1 hlen').mono ?_
              rintro e w2 ⟨rfl, a', c', hW2, hU2, hS2⟩
              change Wr w2 w.heap.size 26 a' c' (encIts (l.take k) ++ le xv (heldN xn)) at hW2
              have hr2 := (hU2.block _ (lt_of_heap hrow) hnx).trans hrow
              have hy1 : w2.cell? ⟨wr.heap.size, 1, none⟩ = some (.int .u64 xv) := by rw [cell_of_row _ _ _ _ _ _ hr2]; rfl
              have hy2 : w2.cell? ⟨wr.heap.size, 2, none⟩ = some (.int .i64 xn) := by rw [cell_of_row _ _ _ _ _ _ hr2]; rfl
              have hB2 := hB1.upd hU2 hnb
              go_wp2_with fail
              refine (refNum_any a2 c2 _ xv xn w2 hB2 hg1 hlen').mono ?_
              rintro e w3 ⟨a3, c3, rfl, hown3, hU3, hf3, hnil3⟩
              have he : encIts (l.take k) ++ le xv (heldN xn) = encIts (l.take (k + 1)) := by
                rw [← HL.out]; simp [encIt, k1, k2, k3]
              rw [he] at hW2 hown3
              rw [he]
              have HB := Both.step hUa hltW HLW.out HG.out hW2 hU2 hS2 hown3 hU3 hf3
              clear hW2 hU2 hS2 hown3 hU3 hf3 hnil3 hB2 he hr2 hy1 hy2
              go_wp2_with fail
              go_roundw
              case rel => exact ⟨k + 1, by omega, by omega, by first | rfl | go_num, HH.out (by omega), HB.1, hU.trans HB.2⟩
              case measure => simp [intOf]; omega
    · have hkm : k = min l.length 40 := by omega
      have hside : (¬ (k : Int) < (l.length : Int)) ∨ ((k : Int) < (l.length : Int) ∧ ¬ (k : Int) < 40) := by omega
      have hlen := encIts_length (l.take k) HS.out
      rw [List.length_take] at hlen
      have hlenB : (encIts (l.take k)).length ≤ 100000000 := by omega
      have HKM := Lib.hid hkm
      have hltW := hW.lt
      clear hlt hv hkm hlen
      rcases hside with hI | ⟨hI, hI2⟩
      all_goals
        go_wp2_with fail
        generalize hbb : encIts (l.take k) = bb at *
        have HBB := Lib.hid hbb
        clear hbb
        refine (bytes_any w.heap.size 26 a c bb wr hW hlenB).mono ?_
        rintro e w1 ⟨a1, c1, rfl, hown1, hU1, hf1, hnil1⟩
        have hv1 := Vw.of_own hown1
        have hW1 := hW.upd hU1 (fun h => h) (fun _ _ h => h)
        have hB1 := hB.upd hU1 (fun _ _ h => h)
        have hU01 := hU.next hU1 (fun i hi h => h.elim)
        have hz1 := hU1.size
        clear hown1 hU1 hf1 hnil1 hW hB hU
        go_wp2_with fail
        refine (read_any a1 c1 bb w1 hv1 hlenB).mono ?_
        rintro e w2 ⟨br, F, rfl, hR2, hU2, hbr, hF⟩
        have HF := Lib.hid hF
        have hW2 := hW1.upd hU2 (fun h => h) (fun _ _ h => h)
        have hB2 := hB1.upd hU2 (fun _ _ h => h)
        have hU02 := hU01.next hU2 (fun i hi h => h.elim)
        have hz2 := hU2.size
        clear hv1 hF hU2 hW1 hB1 hU01
        go_wp2_with fail
        refine (awake01_any w2).mono ?_
        rintro e w3 ⟨rfl, hU3⟩
        have hR3 := hR2.upd hU3 (fun h => h) (fun _ _ h => h)
        have hW3 := hW2.upd hU3 (fun h => h) (fun _ _ h => h)
        have hB3 := hB2.upd hU3 (fun _ _ h => h)
        have hU03 := hU02.next hU3 (fun i hi h => h.elim)
        have hz3 := hU3.size
        clear hR2 hU3 hW2 hB2 hU02
        go_wp2_with fail
        refine (bytes_any w.heap.size 26 a c bb w3 hW3 hlenB).mono ?_
        rintro e w4 ⟨a4, c4, rfl, hown4, hU4, hf4, hnil4⟩
        have hv4 := Vw.of_own hown4
        have hR4 := hR3.upd hU4 (fun h => h) (fun _ _ h => h)
        have hB4 := hB3.upd hU4 (fun _ _ h => h)
        have hU04 := hU03.next hU4 (fun i hi h => h.elim)
        have hz4 := hU4.size
        clear hown4 hU4 hf4 hnil4 hW3 hB3 hU03 hR3
        go_wp2_with fail
        refine (sBytes_any a4 a2 c4 c2 bb bb w4 hv4 hB4).mono ?_
        rintro e w' ⟨rfl, rfl⟩
        rw [show (bb == bb) = true from by simp]
        have hl4 := hl.upd hU04 (fun k hk => by have := hlb k hk; omega)
        clear hv4 hB4
        go_wp2_with fail
        go_loopw [8] (fun i wx => ∃ j : Nat, j ≤ k ∧ i = .int .i64 (j : Int) ∧ Rd wx br F (encIts ((l.take k).drop j)) 0 ∧ Upd (fun i => i = br) w4 wx) (fun i _ => k - (intOf i).toNat)
        case atStart => exact ⟨0, by omega, rfl, by rw [List.drop_zero, HBB.out]; exact hR4, Upd.refl _ _⟩
        case round =>
          obtain ⟨j, hj, rfl, hRx, hUx⟩ := hrel
          clear hR4
          have hz5 := hUx.size
          have hbrx := hRx.lt
          by_cases hjk : j < k
          · have hjl : j < l.length := by have := HKM.out; omega
            have hj40 : j < 40 := by have := HKM.out; omega
            have hlx := hl4.upd hUx (fun g hg e => by have := hlb g hg; omega)
            obtain ⟨pl, ol, rfl, hcell⟩ := hlx.at (by omega) (by decide)
            have hc0 : wr.cell? ⟨pl, ol + j * 5, none⟩ = some (.int .i64 l[j].k) := hcell (j * 5 + 0) _ (decIt_get l j 0 hjl (by decide))
            have hc1 : wr.cell? ⟨pl, ol + j * 5 + 1, none⟩ = some (.int .u64 l[j].v) := hcell (j * 5 + 1) _ (decIt_get l j 1 hjl (by decide))
            have hc2 : wr.cell? ⟨pl, ol + j * 5 + 2, none⟩ = some (.int .i64 l[j].n) := hcell (j * 5 + 2) _ (decIt_get l j 2 hjl (by decide))
            have hc3 : wr.cell? ⟨pl, ol + j * 5 + 3, none⟩ = some (.string l[j].s) := hcell (j * 5 + 3) _ (decIt_get l j 3 hjl (by decide))
            have hc4 : wr.cell? ⟨pl, ol + j * 5 + 4, none⟩ = some (.bool l[j].b) := hcell (j * 5 + 4) _ (decIt_get l j 4 hjl (by decide))
            have hs3 := HS.out l[j] (by rw [List.mem_take_iff_getElem]; exact ⟨j, by omega, rfl⟩)
            obtain ⟨hg1, hg2⟩ := HLG.out l[j] (List.getElem_mem _)
            have hE : encIts ((l.take k).drop j) = encIt l[j] ++ encIts ((l.take k).drop (j + 1)) := by
              have := encIts_drop (l.take k) j (by rw [List.length_take]; omega)
              simpa using this
            have hEl : (encIts ((l.take k).drop j)).length ≤ 100000000 := by
              have := encIts_length ((l.take k).drop j) (fun x hx => HS.out x (List.mem_of_mem_drop hx))
              rw [List.length_drop, List.length_take] at this
              omega
            rw [hE] at hRx hEl
            generalize l[j] = x at *
            generalize hr0 : encIts ((l.take k).drop (j + 1)) = r at *
            have HR := Lib.hid hr0
            clear hr0
            obtain ⟨xk, xv, xn, xs, xb⟩ := x
            dsimp only at *
            have hUa := Upd.alloc (fun _ => False) wr (.cells #[.int .i64 xk, .int .u64 xv, .int .i64 xn, .string xs, .bool xb] 60)
            have hrow := heap_alloc_new wr (.cells #[.int .i64 xk, .int .u64 xv, .int .i64 xn, .string xs, .bool xb] 60)
            generalize hw5 : wr.alloc (.cells #[.int .i64 xk, .int .u64 xv, .int .i64 xn, .string xs, .bool xb] 60) = w5 at *
            have HW5 := Lib.hid hw5
            have hR5 := hRx.upd hUa (fun h => h) (fun _ _ h => h)
            have hU5 : Upd (fun i => i = br) w4 w5 := hUx.next hUa (fun i hi h => h.elim)
            have hI3 : (j : Int) < (l.length : Int) := by omega
            have hI4 : (j : Int) < 40 := by omega
            clear hlx hcell hE hw5 hRx hl4
            have hz6 := hUa.size
            have hbr5 := hR5.lt
            have hnx : ¬ wr.heap.size = br := by omega
            by_cases k1 : xk = 1
            · subst k1
              have he : encIt ⟨1, xv, xn, xs, xb⟩ = i4 xn := by simp [encIt]
              rw [he] at hR5 hEl
              go_wp2_with fail
              rw [HW5.out]
              refine (rint_any br F ⟨i4 xn ++ r, 0⟩ w5 hR5 hEl).mono ?_
              rw [takeS_i4]
              rintro e w6 ⟨rfl, hR6, hU6⟩
              have hr6 := (hU6.block _ (lt_of_heap hrow) hnx).trans hrow
              have hy2 : w6.cell? ⟨wr.heap.size, 2, none⟩ = some (.int .i64 xn) := by rw [cell_of_row _ _ _ _ _ _ hr6]; rfl
              have hU46 := hU5.trans hU6
              have hcase : decide (xn < -1) = true ∨ (decide (xn < -1) = false ∧ decide (4294967294 < xn) = true) ∨ (decide (xn < -1) = false ∧ decide (4294967294 < xn) = false ∧ intV ⟨i4 xn ++ r, 0⟩ = xn) := by
                by_cases h : xn < -1
                · exact .inl (by simpa using h)
                · by_cases h' : 4294967294 < xn
                  · exact .inr (.inl ⟨by simpa using h, by simpa using h'⟩)
                  · exact .inr (.inr ⟨by simpa using h, by simpa using h', intV_i4 _ _ (by omega) (by omega)⟩)
              clear hU6 hr6 he
              rcases hcase with q1 | ⟨q1, q2⟩ | ⟨q1, q2, q3⟩
              · go_wp2_with fail
                go_roundw
                case rel => exact ⟨j + 1, by omega, by first | rfl | go_num, by rw [HR.out]; exact hR6, hU46⟩
                case measure => simp [intOf]; omega
              · go_wp2_with fail
                go_roundw
                case rel => exact ⟨j + 1, by omega, by first | rfl | go_num, by rw [HR.out]; exact hR6, hU46⟩
                case measure => simp [intOf]; omega
              · rw [q3]
                go_wp2_with fail
                go_roundw
                case rel => exact ⟨j + 1, by omega, by first | rfl | go_num, by rw [HR.out]; exact hR6, hU46⟩
                case measure => simp [intOf]; omega
            · by_cases k2 : xk = 2
              · subst k2
                have he : encIt ⟨2, xv, xn, xs, xb⟩ = t4 xs := by simp [encIt]
                rw [he] at hR5 hEl
                have hy3 : w5.cell? ⟨wr.heap.size, 3, none⟩ = some (.string xs) := by rw [cell_of_row _ _ _ _ _ _ hrow]; rfl
                have hR5' := hR5.upd (Upd.drew (fun _ => False) w5) (fun h => h) (fun _ _ h => h)
                go_wp2_with fail
                rw [HW5.out]
                refine wp_region_plan [([0, 2, 3], 1)] [4, 5] (fun w' => w'.cell? ⟨wr.heap.size, 3, none⟩ = some (.string xs)) (by kernel_rfl) (by kernel_rfl) hy3 ?_
                iterate 3
                  refine plan_take (v := ?_) rfl rfl (fun w' hS => ?_) ?_
                  rotate_left
                  · skip
                    go_simp; try with_reducible rfl
                  simp only [Act.put, List.getElem_toArray, List.getElem_cons_zero, List.getElem_cons_succ, List.setIfInBounds_toArray, List.set_cons_zero, List.set_cons_succ]
                refine plan_act rfl (fun K hK => ?_)
                go_wp2_with fail
                refine (rtext_any br F ⟨t4 xs ++ r, 0⟩ w5.drew hR5' hEl).mono ?_
                rw [textS_t4 xs r (by omega), str_data]
                rintro e w6 ⟨rfl, hR6, hU6⟩
                have hr6 := (hU6.block _ (lt_of_heap hrow) hnx).trans hrow
                have hy6 : w6.cell? ⟨wr.heap.size, 3, none⟩ = some (.string xs) := by rw [cell_of_row _ _ _ _ _ _ hr6]; rfl
                have hU46 : Upd (fun i => i = br) w4 w6 := (hU5.trans (Upd.drew _ _)).trans hU6
                go_wp2_with fail
                refine hK.out _ _ (.inr hy6) ?_
                iterate 2
                  refine plan_last (v := ?_) rfl rfl (fun w' hS => ?_) ?_
                  rotate_left
                  · skip
                    go_simp; try with_reducible rfl
                  simp only [Act.put, List.getElem_toArray, List.getElem_cons_zero, List.getElem_cons_succ, List.setIfInBounds_toArray, List.set_cons_zero, List.set_cons_succ]
                refine plan_end ?_
                go_wp2_with fail
                go_roundw
                case rel => exact ⟨j + 1, by omega, by first | rfl | go_num, by rw [HR.out]; exact hR6, hU46⟩
                case measure => simp [intOf]; omega
              · by_cases k3 : xk = 3
                · subst k3
                  have he : encIt ⟨3, xv, xn, xs, xb⟩ = b1 xb := by simp [encIt]
                  rw [he] at hR5 hEl
                  have hy4 : w5.cell? ⟨wr.heap.size, 4, none⟩ = some (.bool xb) := by rw [cell_of_row _ _ _ _ _ _ hrow]; rfl
                  have hR5' := hR5.upd (Upd.drew (fun _ => False) w5) (fun h => h) (fun _ _ h => h)
                  go_wp2_with fail
                  rw [HW5.out]
                  refine wp_region_plan [([0, 2, 3], 1)] [4, 5] (fun w' => w'.cell? ⟨wr.heap.size, 4, none⟩ = some (.bool xb)) (by kernel_rfl) (by kernel_rfl) hy4 ?_
                  iterate 3
                    refine plan_take (v := ?_) rfl rfl (fun w' hS => ?_) ?_
                    rotate_left
                    · skip
                      go_simp; try with_reducible rfl
                    simp only [Act.put, List.getElem_toArray, List.getElem_cons_zero, List.getElem_cons_succ, List.setIfInBounds_toArray, List.set_cons_zero, List.set_cons_succ]
                  refine plan_act rfl (fun K hK => ?_)
                  go_wp2_with fail
                  refine (rbool_any br F ⟨b1 xb ++ r, 0⟩ w5.drew hR5' hEl).mono ?_
                  rw [boolS_b1]
                  rintro e w6 ⟨rfl, hR6, hU6⟩
                  have hr6 := (hU6.block _ (lt_of_heap hrow) hnx).trans hrow
                  have hy6 : w6.cell? ⟨wr.heap.size, 4, none⟩ = some (.bool xb) := by rw [cell_of_row _ _ _ _ _ _ hr6]; rfl
                  have hbb : (xb == xb) = true := by simp
                  have hU46 : Upd (fun i => i = br) w4 w6 := (hU5.trans (Upd.drew _ _)).trans hU6
                  go_wp2_with fail
                  refine hK.out _ _ (.inr hy6) ?_
                  iterate 2
                    refine plan_last (v := ?_) rfl rfl (fun w' hS => ?_) ?_
                    rotate_left
                    · skip
                      go_simp; try with_reducible rfl
                    simp only [Act.put, List.getElem_toArray, List.getElem_cons_zero, List.getElem_cons_succ, List.setIfInBounds_toArray, List.set_cons_zero, List.set_cons_succ]
                  refine plan_end ?_
                  go_wp2_with fail
                  go_roundw
                  case rel => exact ⟨j + 1, by omega, by first | rfl | go_num, by rw [HR.out]; exact hR6, hU46⟩
                  case measure => simp [intOf]; omega
                · skip
                  have he : encIt ⟨xk, xv, xn, xs, xb⟩ = le xv (heldN xn) := by simp [encIt, k1, k2, k3]
                  rw [he] at hR5 hEl
                  have hy1 : w5.cell? ⟨wr.heap.size, 1, none⟩ = some (.int .u64 xv) := by rw [cell_of_row _ _ _ _ _ _ hrow]; rfl
                  have hy2 : w5.cell? ⟨wr.heap.size, 2, none⟩ = some (.int .i64 xn) := by rw [cell_of_row _ _ _ _ _ _ hrow]; rfl
                  have hR5' := hR5.upd (Upd.drew (fun _ => False) w5) (fun h => h) (fun _ _ h => h)
                  have q1 : (xk == 1) = false := by simpa using k1
                  have q2 : (xk == 2) = false := by simpa using k2
                  have q3 : (xk == 3) = false := by simpa using k3
                  go_wp2_with fail
                  rw [HW5.out]
                  refine wp_region_plan [([0, 1, 2, 4, 5, 6, 7, 8, 9, 10, 11, 12, 13], 3)] [14, 15] (fun w' => w'.cell? ⟨wr.heap.size, 1, none⟩ = some (.int .u64 xv) ∧ w'.cell? ⟨wr.heap.size, 2, none⟩ = some (.int .i64 xn)) (by kernel_rfl) (by kernel_rfl) ⟨hy1, hy2⟩ ?_
                  iterate 13
                    refine plan_take (v := ?_) rfl rfl (fun w' hS => ?_) ?_
                    rotate_left
                    · obtain ⟨hS1, hS2⟩ := hS
                      go_simp; try with_reducible rfl
                    simp only [Act.put, List.getElem_toArray, List.getElem_cons_zero, List.getElem_cons_succ, List.setIfInBounds_toArray, List.set_cons_zero, List.set_cons_succ]
                  rw [num_shift xv xn hg1]
                  generalize hpv : xv % 256 ^ heldN xn = pv
                  have HPV := Lib.hid hpv
                  clear hpv
                  refine plan_act rfl (fun K hK => ?_)
                  go_wp2_with fail
                  refine (rnum_any br F ⟨le xv (heldN xn) ++ r, 0⟩ xn w5.drew hR5' hEl).mono ?_
                  rw [takeS_app' _ _ _ (le_length _ _), leN_le, HPV.out]
                  rintro e w6 ⟨rfl, hR6, hU6⟩
                  have hr6 := (hU6.block _ (lt_of_heap hrow) hnx).trans hrow
                  have hy6 : w6.cell? ⟨wr.heap.size, 1, none⟩ = some (.int .u64 xv) := by rw [cell_of_row _ _ _ _ _ _ hr6]; rfl
                  have hy7 : w6.cell? ⟨wr.heap.size, 2, none⟩ = some (.int .i64 xn) := by rw [cell_of_row _ _ _ _ _ _ hr6]; rfl
                  have hpp : ((pv : Int) == (pv : Int)) = true := by simp
                  have hU46 : Upd (fun i => i = br) w4 w6 := (hU5.trans (Upd.drew _ _)).trans hU6
                  go_wp2_with fail
                  refine hK.out _ _ (.inr ⟨hy6, hy7⟩) ?_
                  iterate 2
                    refine plan_last (v := ?_) rfl rfl (fun w' hS => ?_) ?_
                    rotate_left
                    · skip
                      go_simp; try with_reducible rfl
                    simp only [Act.put, List.getElem_toArray, List.getElem_cons_zero, List.getElem_cons_succ, List.setIfInBounds_toArray, List.set_cons_zero, List.set_cons_succ]
                  refine plan_end ?_
                  go_wp2_with fail
                  go_roundw
                  case rel => exact ⟨j + 1, by omega, by first | rfl | go_num, by rw [HR.out]; exact hR6, hU46⟩
                  case measure => simp [intOf]; omega
          · obtain rfl : j = k := by omega
            have hdr : encIts ((l.take j).drop j) = [] := by
              rw [List.drop_of_length_le (by rw [List.length_take]; omega)]; rfl
            rw [hdr] at hRx
            have hside2 : ¬ (j : Int) < (j : Int) := by omega
            have hU0 := hU04.next hUx (fun i hi h => by omega)
            clear hl4 hdr
            go_wp2_with fail
            refine (err_any br F [] 0 wr hRx).mono ?_
            rintro e w' ⟨rfl, rfl⟩
            go_wp2_with fail
            refine (left_any br F [] 0 wr hRx).mono ?_
            rintro e w' ⟨rfl, rfl⟩
            go_wp2_with fail
            refine (rbool_any br F ⟨[], 0⟩ wr hRx (by simp)).mono ?_
            rw [show boolS ⟨[], 0⟩ = (false, ⟨[], 4⟩) from rfl]
            rintro e w6 ⟨rfl, hR6, hU6⟩
            have hU06 := hU0.next hU6 (fun i hi h => by omega)
            go_wp2_with fail
            refine (err_any br F [] 4 w6 hR6).mono ?_
            rintro e w' ⟨rfl, rfl⟩
            go_wp2_with fail
            go_ret
            exact ⟨rfl, hU06.fresh.clean⟩
end Go.Proofs.Ytafkcmgfkecljaa
