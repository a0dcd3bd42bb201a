/- The walk of OctetsBools. -/
import Derived.Test.YtafkcmgfkecljaaOpen
import Derived.Test.YtafkcmgfkecljaaAwake01
namespace Go.Proofs.Ytafkcmgfkecljaa
set_option linter.unusedSimpArgs false
set_option linter.unusedVariables false
open Go.ChangeShapes Go.WideShapes Go.ChangeAt Go.RowKit

def decBool (b : Bool) : List Value := [.bool b]
theorem open_bools {H : Type} {enc : TypeId × Value → H} {W : World} {base : Nat} {v : Value} {d : DataW H} {ps : List MemPlace} (hval : Value.okWide Try.prog W .any base 55 v)
    (h : DataW.Trod enc Try.prog W 0 (fun _ => true) true 55 v d ps) : ∃ (a : Option Addr) (c : Nat) (xs : List Bool), v = .slice a xs.length c ∧ Vw W a xs.length c 1 (xs.flatMap decBool) ∧ (∀ b, blk a = some b → b < W.heap.size) := by
  obtain ⟨a, c, xs, h1, h2, _, h3⟩ := open_list decBool (fun _ => True) 55 4 1 Try.underlying55 (by kernel_rfl) (by decide) (fun _ => rfl) (by
    intro fuel cs y hl hy
    obtain ⟨b, e1, _⟩ := DataW.trod_bool Try.underlying4 hy
    exact ⟨b, e1, trivial⟩) hval h
  exact ⟨a, c, xs, h1, h2, h3⟩
theorem Upd.old {S : Nat → Prop} {w w' : World} (h : Upd S w w') : Upd (fun k => S k ∧ k < w.heap.size) w w' := h.mono (fun i hi hs => ⟨hs, hi⟩)
theorem Rd.bd {w : World} {br : Nat} {F : Option Nat} {l : List UInt8} {e : Int} (h : Rd w br F l e) (hl : l ≠ []) : ∃ F', Rd w br F' l e ∧ ∀ g, F' = some g → F = some g ∧ g < w.heap.size := by
  obtain ⟨⟨a, c, hh, hv, hb⟩, hne⟩ := h
  refine ⟨blk a, ⟨⟨a, c, hh, hv, .inr rfl⟩, ?_⟩, fun g hg => ?_⟩
  · rcases hb with hb | hb
    · rw [hb]; simp
    · rw [hb]; exact hne
  · cases a with
    | none => cases hg
    | some x =>
      cases hg
      refine ⟨by rcases hb with hb | hb; cases hb; exact hb.symm, ?_⟩
      cases l with
      | nil => exact absurd rfl hl
      | cons y r =>
        have := hv.cell x rfl 0 _ rfl
        rcases Nat.lt_or_ge x.block w.heap.size with h | h
        · exact h
        · have hz : w.heap[(x.add 0).block]? = none := Array.getElem?_eq_none h
          simp [World.cell?, hz] at this
/-- The bytes of truths. -/
def bl (l : List Bool) : List UInt8 := l.map fun b => if b then 1 else 0
theorem bl_length (l : List Bool) : (bl l).length = l.length := by simp [bl]
theorem bl_succ (l : List Bool) (k : Nat) (h : k < l.length) : bl (l.take k) ++ b1 l[k] = bl (l.take (k + 1)) := by
  unfold bl b1; rw [List.take_succ_eq_append_getElem h, List.map_append]; rfl
theorem bl_drop (l : List Bool) (k : Nat) (h : k < l.length) : bl (l.drop k) = b1 l[k] ++ bl (l.drop (k + 1)) := by
  unfold bl b1; rw [List.drop_eq_getElem_cons h, List.map_cons]; rfl
theorem bl_get (l : List Bool) (j : Nat) (h : j < l.length) : (bvs (bl l))[j]? = some (.int .u8 (if l[j] then 1 else 0)) := by
  simp only [bvs, bl, List.getElem?_map, List.getElem?_eq_getElem h, Option.map_some]
  cases l[j] <;> rfl
theorem boolS_bit (b : Bool) (r : List UInt8) : boolS ⟨b1 b ++ r, 0⟩ = (b, ⟨r, 0⟩) := by
  cases b <;> simp [boolS, takeS, b1, leN]
theorem boolS_one (c : UInt8) : boolS ⟨[c], 0⟩ = if 1 < c.toNat then (false, ⟨[], 5⟩) else (c == 1, ⟨[], 0⟩) := by
  have h : takeS 1 ⟨[c], 0⟩ = ([c], ⟨[], 0⟩) := by simp [takeS]
  unfold boolS
  rw [h]
  by_cases hc : 1 < c.toNat
  · simp [leN, hc]
  · have : (c.toNat == 1) = (c == 1) := by
      rw [Bool.eq_iff_iff]; simp [← UInt8.toNat_inj]
    simp [leN, hc, this]

set_option maxHeartbeats 1000000 in
theorem OctetsBools_walk (w : World) (la : Option Addr) (lc : Nat) (l : List Bool) (hl : Vw w la l.length lc 1 (l.flatMap decBool)) (hlb : ∀ b, blk la = some b → b < w.heap.size)
    (y : Int) (wy : (Lit.int .u8 y).wf = true) :
    Calls Try.prog 9 #[.slice la l.length lc, .int .u8 y] w fun e w' => e = .returned (.bool true) ∧ Below w.heap.size w w' := by
  have hW0 := Wr.new w 26
  have hU0 := Upd.alloc (fun k => w.heap.size ≤ k) w (.cells #[.slice none 0 0] 26)
  have hz0 : (w.alloc (.cells #[.slice none 0 0] 26)).heap.size = w.heap.size + 1 := by simp
  obtain ⟨u, rfl⟩ : ∃ u : UInt8, y = (u.toNat : Int) := by
    have hb := bounds_u8 wy
    exact ⟨UInt8.ofNat y.toNat, by rw [UInt8.toNat_ofNat']; omega⟩
  clear wy
  obtain ⟨i0, hi, hz0', hz1', hz2'⟩ := info_parts infoU8
  have hcap := hl.cap
  have hlc := hl.le
  unfold maxLen at hcap
  go_enter Try.func9, Try.ntmps9
  go_wp2_with fail
  generalize hw0 : w.alloc (.cells #[.slice none 0 0] 26) = w0 at *
  clear hw0
  go_loopw [6] (fun i wr => ∃ k : Nat, k ≤ l.length ∧ k ≤ 40 ∧ i = .int .i64 (k : Int) ∧ (∃ a c, Wr wr w.heap.size 26 a c (bl (l.take k)) ∧ Hid (∀ g, blk a = some g → w.heap.size ≤ g)) ∧ Upd (fun k => w.heap.size ≤ k) w wr) (fun i _ => l.length - (intOf i).toNat)
  case atStart => exact ⟨0, by omega, by omega, rfl, ⟨none, 0, by simpa [bl] using hW0, fun g h => by cases h⟩, hU0⟩
  case round =>
    obtain ⟨k, hk, hk40, rfl, ⟨a, c, hW, hG⟩, hU⟩ := hrel
    clear hW0 hU0
    have hv := hl.upd hU (fun k hk => by have := hlb k hk; omega)
    by_cases hlt : k < l.length ∧ k < 40
    · obtain ⟨h1, h2⟩ := hlt
      obtain ⟨b, off, rfl, hcell⟩ := hv.at (by omega) (by decide)
      have hce := hcell k (.bool l[k]) (by
        have := flatMap_get decBool 1 (fun _ => rfl) l k 0 (by decide)
        simpa [decBool, h1] using this)
      have hI : (k : Int) < (l.length : Int) := by omega
      have hI2 : (k : Int) < 40 := by omega
      have hL := bl_succ l k h1
      have HL := Lib.hid hL
      have hlen : (bl (l.take k)).length ≤ 40 := by rw [bl_length]; simp; omega
      clear hv hcell hL
      go_wp2_with fail
      refine (wbool_any w.heap.size 26 a c _ l[k] wr hW (by omega)).mono ?_
      rintro e w1 ⟨rfl, a1, c1, hW1, hU1, hS1⟩
      have hU' := hU.next hU1 (fun i hi h => by
        rcases h with h | h
        · omega
        · exact hG.out i h)
      have hG' : ∀ g, blk a1 = some g → w.heap.size ≤ g := fun g hg => by
        have := hU.size
        rcases hS1 g hg with h | h
        · exact hG.out g h
        · omega
      rw [HL.out] at hW1
      have HG := Lib.hid hG'
      clear hG' hS1 hU1 hU hG hW
      go_wp2_with fail
      go_roundw
      case rel => exact ⟨k + 1, by omega, by omega, by go_num, ⟨a1, c1, hW1, HG⟩, hU'⟩
      case measure => simp [intOf]; omega
    · have hkm : k = min l.length 40 := by omega
      have hTK : bl (l.take k) = bl (l.take 40) := by
        congr 1
        rw [hkm]
        by_cases h : l.length ≤ 40
        · rw [Nat.min_eq_left h, List.take_of_length_le (Nat.le_refl _), List.take_of_length_le h]
        · rw [Nat.min_eq_right (by omega)]
      have hBL : (bl (l.take 40)).length = k := by rw [bl_length, List.length_take, hkm, Nat.min_comm]
      rw [hTK] at hW
      have hmin : min (l.length : Int) 40 = (k : Int) := by omega
      have HMIN := Lib.hid hmin
      have HK := Lib.hid hkm
      have HBL := Lib.hid hBL
      have hside : (¬ (k : Int) < (l.length : Int) ∧ Hid (((k : Int) != (l.length : Int)) = false)) ∨ ((k : Int) < (l.length : Int) ∧ ¬ (k : Int) < 40 ∧ Hid (((k : Int) != 40) = false)) := by
        by_cases h : (k : Int) < (l.length : Int)
        · exact .inr ⟨h, by omega, Lib.hid (by have : (k : Int) = 40 := by omega
                                               simp [this])⟩
        · exact .inl ⟨h, Lib.hid (by have : (k : Int) = l.length := by omega
                                     simp [this])⟩
      clear hTK hv hlt hmin hkm hBL
      rcases hside with ⟨hI, HE⟩ | ⟨hI, hI2, HE⟩
      all_goals
        go_wp2_with fail
        refine (bytes_any w.heap.size 26 a c _ wr hW (by have := HBL.out; omega)).mono ?_
        rintro e w1 ⟨a1, c1, rfl, hown1, hU1, hf1, hnil1⟩
        have hU01 := hU.next hU1 (fun i hi h => h.elim)
        have hv1 := Vw.of_own hown1
        have hz1 := hU01.size
        have hlt1 : ∀ g, blk a1 = some g → g < w1.heap.size := fun g hg => (hown1.lt g ((own_blk _ _ _).trans hg)).2
        rw [HBL.out] at hv1
        rw [HBL.out]
        clear hU1 hf1 hnil1 hown1 hU hG hW
        generalize hbb : bl (l.take 40) = bb at *
        have HBB := Lib.hid hbb; clear hbb
        have hk40' : bb.length = k := HBL.out
        have hsrc := hv1.src (P := Try.prog) (t := 24) Try.underlying24 (bvs_cells bb)
        have HB := Lib.hid hk40'; clear hk40'
        go_wp2_with (at_builtin; refine wpList_app _ rfl (.const (.slice none 0 0)) (.tmp 29) 24 24 rfl 5 i0 (.int .u8 0) 1 1 Try.underlying24 hi hz0' hz1' hz2' rfl none 0 0 [] rfl (World.ownsRow_nil _ _ _ _) (.slice a1 k c1) k (bvs bb) rfl hsrc ?_ ?_ ?_)
        · unfold maxLen; omega
        · omega
        intro a2 c2 w2 hown2 hg2 hat2 hnil2
        try simp only [Nat.zero_add, List.nil_append] at hown2
        have hU2 : Upd (fun _ => False) w1 w2 := Upd.grown hg2 (fun k hk => by cases hk)
        have hf2 : ∀ g, blk a2 = some g → w1.heap.size ≤ g := by
          intro g hg'
          rcases hat2 with h | h
          · rw [h] at hg'; cases hg'
          · rw [h] at hg'; cases hg'; exact Nat.le_refl _
        have hU02 := hU01.next hU2 (fun i hi h => h.elim)
        have hv2 := hv1.upd hU2 (fun _ _ h => h)
        have hz2 := hU2.size
        have hUb : Upd (fun i => w1.heap.size ≤ i) w2 (w2.alloc (.cells #[.int .u8 (u.toNat : Int)] 5)) := Upd.alloc _ _ _
        have hown2' := hown2.alloc (Obj.cells #[.int .u8 (u.toNat : Int)] 5)
        have hsr : Src Try.prog 1 24 (.slice (some ⟨w2.heap.size, 0, none⟩) 1 1) 1 [.int .u8 (u.toNat : Int)] (w2.alloc (Obj.cells #[.int .u8 (u.toNat : Int)] 5)) :=
          Src.ofSlice _ Try.underlying24 _ 1 1 _ rfl (World.news_of_block (heap_alloc_new w2 _)) (fun u hu => by simp at hu; subst hu; rfl)
        have HF2 := Lib.hid hf2
        clear hf2 hat2 hnil2 hg2 hsrc hown2
        go_wp2_with (at_builtin; refine wpList_app _ rfl (.tmp 30) (.tmp 32) 24 24 rfl 5 i0 (.int .u8 0) 1 1 Try.underlying24 hi hz0' hz1' hz2' rfl a2 k c2 (bvs bb) rfl hown2' (.slice (some ⟨w2.heap.size, 0, none⟩) 1 1) 1 [.int .u8 (u.toNat : Int)] rfl hsr ?_ ?_ ?_)
        · unfold maxLen; omega
        · omega
        intro a3 c3 w3 hown3 hg3 hat3 hnil3
        have hU3 : Upd (fun i => w1.heap.size ≤ i) w2 w3 := hUb.next (Upd.grown (S := fun k => blk a2 = some k) hg3 (fun k hk => hk)) (fun i hi h => HF2.out i h)
        have hU13 : Upd (fun _ => False) w1 w3 := hU2.next hU3 (fun i hi h => by omega)
        have hU03 := hU01.next hU13 (fun i hi h => h.elim)
        have hz3 := hU13.size
        have hv3 := hv1.upd hU13 (fun _ _ h => h)
        have hr3 : Vw w3 a3 (bb ++ [u]).length c3 1 (bvs (bb ++ [u])) := by
          have := Vw.of_own hown3
          rw [List.length_append, show bb.length = k from HB.out]
          simpa [bvs, bv] using this
        have hlr : (bb ++ [u]).length = k + 1 := by rw [List.length_append, show bb.length = k from HB.out]; rfl
        have HLR := Lib.hid hlr
        clear hU2 hU3 hUb hU02 hown3 hown2' hsr hat3 hnil3 hg3 hv2 HF2 hlr hU01 hv1
        go_wp2_with fail
        rw [← HLR.out]
        refine (read_any a3 c3 (bb ++ [u]) w3 hr3 (by rw [HLR.out]; omega)).mono ?_
        rintro e w4 ⟨br, F0, rfl, hR4, hU4, hbr, hF0⟩
        rw [HLR.out]
        obtain ⟨F, hR4, hFF⟩ := hR4.bd (by simp)
        have hF : ∀ g, F = some g → w3.heap.size ≤ g := fun g hg => hF0 g (hFF g hg).1
        have HFS := Lib.hid (fun g hg => (hFF g hg).2)
        have hU04 := hU03.next hU4 (fun i hi h => h.elim)
        have hv4 := hv3.upd hU4 (fun _ _ h => h)
        have hz4 := hU4.size
        have HF := Lib.hid hF
        clear hU4 hU03 hv3 hr3 hF hU13 hF0 hFF
        go_wp2_with fail
        refine (awake01_any w4).mono ?_
        rintro e w5 ⟨rfl, hU5⟩
        have hR5 := hR4.upd hU5 (fun h => h) (fun _ _ h => h)
        have hv5 := hv4.upd hU5 (fun _ _ h => h)
        have hU05 := hU04.next hU5 (fun i hi h => h.elim)
        have hz5 := hU5.size
        have hl5 := hl.upd hU05 (fun k hk => by have := hlb k hk; omega)
        clear hU5 hU04 hR4 hv4
        have hmin := HE.out
        go_wp2_with fail
        clear hmin
        have hR0 : Rd w5 br F (bb.drop 0 ++ [u]) 0 := by simpa using hR5
        go_loopw [9] (fun i wx => ∃ j : Nat, j ≤ k ∧ i = .int .i64 (j : Int) ∧ Rd wx br F (bb.drop j ++ [u]) 0 ∧ Upd (fun i => i = br) w5 wx) (fun i _ => k - (intOf i).toNat)
        case atStart => exact ⟨0, by omega, rfl, hR0, Upd.refl _ _⟩
        case round =>
          obtain ⟨j, hj, rfl, hRx, hUx⟩ := hrel
          clear hR0 hR5
          have hz6 := hUx.size
          have hbrx := hRx.lt
          by_cases hjk : j < k
          · have hjl : j < l.length := by omega
            have hvx := hv5.upd hUx (fun g hg e => by have := hlt1 g hg; omega)
            have hlx := hl5.upd hUx (fun g hg e => by have := hlb g hg; omega)
            have hjb : j < bb.length := by rw [show bb.length = k from HB.out]; exact hjk
            obtain ⟨pb, ob, rfl, hcb⟩ := hvx.at (by omega) (by decide)
            obtain ⟨pl, ol, rfl, hcl⟩ := hlx.at (by omega) (by decide)
            have hl40 : (l.take 40)[j]'(by rw [List.length_take]; omega) = l[j] := by simp
            have hbj : bb.drop j = b1 l[j] ++ bb.drop (j + 1) := by
              rw [← HBB.out]
              have := bl_drop (l.take 40) j (by rw [List.length_take]; omega)
              rw [hl40] at this
              simpa [bl, List.map_drop] using this
            have hcej : wr.cell? ⟨pb, ob + j, none⟩ = some (.int .u8 (if l[j] then 1 else 0)) := by
              refine hcb j _ ?_
              rw [← HBB.out]
              have := bl_get (l.take 40) j (by rw [List.length_take]; omega)
              rw [hl40] at this
              exact this
            have hclj : wr.cell? ⟨pl, ol + j, none⟩ = some (.bool l[j]) := hcl j _ (by
              have := flatMap_get decBool 1 (fun _ => rfl) l j 0 (by decide)
              simpa [decBool, hjl] using this)
            generalize l[j] = bit at *
            obtain ⟨x, hx, hx1⟩ : ∃ x : Int, (if bit then 1 else 0) = x ∧ ¬ 1 < x := ⟨_, rfl, by split <;> omega⟩
            rw [hx] at hcej
            have hxd : decide (1 < x) = false := by simpa using hx1
            rw [hbj, List.append_assoc] at hRx
            have hI : (j : Int) < (k : Int) := by omega
            have hI2 : (j : Int) < (l.length : Int) := by omega
            have hI3 : (j : Int) < 40 := by omega
            have hlen : (RS.mk (b1 bit ++ (bb.drop (j + 1) ++ [u])) 0).l.length ≤ 100000000 := by
              simp [b1]; rw [show bb.length = k from HB.out]; omega
            have hpb : pb < w1.heap.size := hlt1 pb rfl
            have hpl : pl < w.heap.size := hlb pl rfl
            clear hvx hlx hcb hcl hl40 hbj hx hl5 hv5
            go_wp2_with fail
            refine wp_region_plan [([0, 1, 2, 3, 4, 5, 6, 8, 9, 10, 11], 7)] [12, 13] (fun w' => w'.cell? ⟨pb, ob + j, none⟩ = some (.int .u8 x) ∧ w'.cell? ⟨pl, ol + j, none⟩ = some (.bool bit)) (by kernel_rfl) (by kernel_rfl) ⟨hcej, hclj⟩ ?_
            iterate 11
              refine plan_take (v := ?_) rfl rfl (fun w' hS => ?_) ?_
              rotate_left
              · obtain ⟨hS1, hS2⟩ := hS
                go_simp; try with_reducible rfl
              simp only [Act.put, List.getElem_toArray, List.getElem_cons_zero, List.getElem_cons_succ, List.setIfInBounds_toArray, List.set_cons_zero, List.set_cons_succ]
            refine plan_act rfl (fun K hK => ?_)
            go_wp2_with fail
            refine (rbool_any br F ⟨b1 bit ++ (bb.drop (j + 1) ++ [u]), 0⟩ wr.drew (hRx.upd (Upd.drew (fun _ => False) wr) (fun h => h) (fun _ _ h => h)) hlen).mono ?_
            rw [boolS_bit]
            rintro e w7 ⟨rfl, hR7, hU7⟩
            have hc7 : w7.cell? ⟨pb, ob + j, none⟩ = some (.int .u8 x) := by
              rw [hU7.cell (by show pb < wr.heap.size; omega) (by show ¬ pb = br; omega)]; exact hcej
            have hc7' : w7.cell? ⟨pl, ol + j, none⟩ = some (.bool bit) := by
              rw [hU7.cell (by show pl < wr.heap.size; omega) (by show ¬ pl = br; omega)]; exact hclj
            have hU7' : Upd (fun i => i = br) w5 w7 := (hUx.trans (Upd.drew _ _)).trans hU7
            have hbb : (bit != bit) = false := by simp
            go_wp2_with fail
            refine hK.out _ _ (.inr ⟨hc7, hc7'⟩) ?_
            iterate 2
              refine plan_last (v := ?_) rfl rfl (fun w' hS => ?_) ?_
              rotate_left
              · obtain ⟨hS1, hS2⟩ := hS
                go_simp; try with_reducible rfl
              simp only [Act.put, List.getElem_toArray, List.getElem_cons_zero, List.getElem_cons_succ, List.setIfInBounds_toArray, List.set_cons_zero, List.set_cons_succ]
            refine plan_end ?_
            go_wp2_with fail
            go_roundw
            case rel => exact ⟨j + 1, by omega, by first | rfl | go_num, hR7, hU7'⟩
            case measure => simp [intOf]; omega
          · obtain rfl : j = k := by omega
            have hdr : bb.drop j = [] := List.drop_of_length_le (by rw [show bb.length = j from HB.out]; exact Nat.le_refl _)
            rw [hdr, List.nil_append] at hRx
            clear hl5 hv5 hdr
            go_wp2_with fail
            refine (rbool_any br F ⟨[u], 0⟩ wr hRx (by simp)).mono ?_
            rw [boolS_one]
            obtain ⟨q, L, E, hS, hq1, hq2, hq3⟩ : ∃ q L E, (if 1 < u.toNat then (false, RS.mk [] 5) else (u == 1, RS.mk [] 0)) = (q, RS.mk L E) ∧ (q == ((u.toNat : Int) == 1)) = true ∧ ((E == 0) == decide ((u.toNat : Int) ≤ 1)) = true ∧ (decide ((u.toNat : Int) ≤ 1) = false → E = 5) := by
              by_cases hu : 1 < u.toNat
              · rw [if_pos hu]
                refine ⟨false, [], 5, rfl, ?_, ?_, fun _ => rfl⟩
                · have : ((u.toNat : Int) == 1) = false := by simp; omega
                  rw [this]; rfl
                · have : decide ((u.toNat : Int) ≤ 1) = false := by simp; omega
                  rw [this]; rfl
              · rw [if_neg hu]
                refine ⟨u == 1, [], 0, rfl, ?_, ?_, ?_⟩
                · have : (u == 1) = ((u.toNat : Int) == 1) := by
                    rw [Bool.eq_iff_iff]; simp [← UInt8.toNat_inj]; omega
                  rw [this]; simp
                · have : decide ((u.toNat : Int) ≤ 1) = true := by simp; omega
                  rw [this]; rfl
                · intro h; simp at h; omega
            rw [hS]
            rintro e w7 ⟨rfl, hR7, hU7⟩
            have hU7' : Upd (fun i => i = br) w5 w7 := hUx.trans hU7
            have hU07 := hU05.next hU7' (fun i hi h => by have := hz4; have := hz3; have := hz1; omega)
            have hz7 := hU7'.size
            clear hU7 hUx hS hRx hU05
            go_wp2_with fail
            have hv8 : Vw (w7.alloc (.cells #[.int .u8 0, .int .u8 0, .int .u8 0, .int .u8 0, .int .u8 5] 5)) (some ⟨w7.heap.size, 0, none⟩) 5 5 1 (bvs [0, 0, 0, 0, 5]) := Vw.lit w7 [0, 0, 0, 0, 5] 5 (by decide)
            have hU78 := Upd.alloc (fun _ => False) w7 (.cells #[.int .u8 0, .int .u8 0, .int .u8 0, .int .u8 0, .int .u8 5] 5)
            refine (read_any (some ⟨w7.heap.size, 0, none⟩) 5 [0, 0, 0, 0, 5] _ hv8 (by decide)).mono ?_
            rintro e w9 ⟨bt, G, rfl, hT9, hU9, hbt, hG9⟩
            simp only [World.size_alloc] at hbt hG9
            have hU79 := hU78.trans hU9
            have hR9 := hR7.upd hU79 (fun h => h) (fun _ _ h => h)
            have hU09 := hU07.next hU79 (fun i hi h => h.elim)
            have hbr7 := hR7.lt
            have HG9 := Lib.hid hG9
            clear hU78 hU9 hv8 hR7 hU07 hG9 hU79
            go_wp2_with fail
            refine (rtext_any bt G ⟨[0, 0, 0, 0, 5], 0⟩ w9 hT9 (by decide)).mono ?_
            rw [show textS ⟨[0, 0, 0, 0, 5], 0⟩ = ([], ⟨[], 5⟩) from rfl]
            rintro e w10 ⟨rfl, hT10, hU10⟩
            have hR10 := hR9.upd hU10 (fun h => by omega) (fun g hg e => by have := HFS.out g hg; omega)
            have hU010 := hU09.next hU10 (fun i hi h => by omega)
            clear hU10 hU09 hT9 hR9
            have hU0' := hU010.fresh
            clear hU010
            go_wp2_with fail
            refine (err_any br F L E w10 hR10).mono ?_
            rintro e w' ⟨rfl, rfl⟩
            cases hd : decide ((u.toNat : Int) ≤ 1)
            · have hE5 := hq3 hd
              subst hE5
              rw [hd] at hq2
              go_wp2_with fail
              refine (err_any br F L 5 w10 hR10).mono ?_
              rintro e w' ⟨rfl, rfl⟩
              go_wp2_with fail
              refine (err_any bt G [] 5 w10 hT10).mono ?_
              rintro e w' ⟨rfl, rfl⟩
              go_wp2_with fail
              refine (left_any bt G [] 5 w10 hT10).mono ?_
              rintro e w' ⟨rfl, rfl⟩
              go_wp2_with fail
              go_ret
              exact ⟨rfl, hU0'.clean⟩
            · rw [hd] at hq2
              go_wp2_with fail
              refine (err_any bt G [] 5 w10 hT10).mono ?_
              rintro e w' ⟨rfl, rfl⟩
              go_wp2_with fail
              refine (left_any bt G [] 5 w10 hT10).mono ?_
              rintro e w' ⟨rfl, rfl⟩
              go_wp2_with fail
              go_ret
              exact ⟨rfl, hU0'.clean⟩
end Go.Proofs.Ytafkcmgfkecljaa
