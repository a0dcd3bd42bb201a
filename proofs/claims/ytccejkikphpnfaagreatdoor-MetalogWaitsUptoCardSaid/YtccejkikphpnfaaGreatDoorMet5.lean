
/- metalog's reader.root. -/
import Derived.Test.YtccejkikphpnfaaGreatDoorMet4
namespace Go.Proofs.YtccejkikphpnfaaGreatDoor
set_option linter.unusedSimpArgs false
set_option linter.unusedVariables false
set_option maxRecDepth 100000
open Go.ChangeShapes Go.WideShapes Go.ChangeAt Go.RowKit

set_option maxHeartbeats 8000000 in
theorem some_keys {w : World} {br R1 R2 BX : Nat} {F : Option Nat} {r : List UInt8} {p : Int} {ks : List Ky} {k : Int} {wk : World} (h : RMid w br R1 R2 BX F (i4 ks.length ++ (kysB ks ++ r)) p [] k none 0 wk) (hl : (i4 ks.length ++ (kysB ks ++ r)).length ≤ 100000000) (hn : ks.length ≤ 2000) :
    Calls Tryz.prog 130 #[.agg #[.pointer (some ⟨br, 0, none⟩)], .func (.func 131) #[] #[.pointer (some ⟨BX, 0, none⟩), .pointer (some ⟨R1, 0, none⟩)]] wk fun e w' => e = .returned (.tuple #[]) ∧ ∃ a' c', RMid w br R1 R2 BX F r p ks k a' c' w' := by
  have hU0 := Upd.alloc (fun _ => False) wk (.cells #[.pointer (some ⟨br, 0, none⟩)] 139)
  have hbox := heap_alloc_new wk (.cells #[.pointer (some ⟨br, 0, none⟩)] 139)
  have hRM := h.same hU0
  have hBX := h.lt
  have hbr : br < wk.heap.size := by have := h.n1; have := h.upd.size; omega
  have hR1 : R1 < wk.heap.size := lt_of_heap h.row
  have hlr : (kysB ks ++ r).length ≤ 100000000 := by rw [List.length_append] at hl; omega
  have HI := Lib.hid (And.intro hRM hbox)
  clear h hU0 hRM hbox
  go_enter Tryz.func130, Tryz.ntmps130
  go_upto_region 1 with (fail)
  generalize wk.alloc (.cells #[.pointer (some ⟨br, 0, none⟩)] 139) = y0 at *
  obtain ⟨B, hB⟩ : ∃ B, wk.heap.size = B := ⟨_, rfl⟩
  rw [hB] at HI hBX hbr hR1 ⊢
  clear hB
  have q : y0.cell? ⟨B, 0, none⟩ = some (.pointer (some ⟨br, 0, none⟩)) := by rw [cell_of_row _ _ _ _ _ _ HI.out.2]; rfl
  go_wp2_with fail
  refine (rint_i4 br F (ks.length : Int) (kysB ks ++ r) _ HI.out.1.rd hl (by omega) (by omega)).mono ?_
  rintro e w1 ⟨rfl, hR, hU⟩
  have hb1 := (hU.block B (lt_of_heap HI.out.2) (by omega)).trans HI.out.2
  have HI1 := Lib.hid (And.intro (HI.out.1.read hR hU) hb1)
  clear hR hU hb1 q HI
  go_wp2_with fail
  go_loopw [4] (fun i wr => ∃ (L M : List Ky) (a' : Option Addr) (c' : Nat), Hid (ks = L ++ M) ∧ i = .int .i64 (M.length : Int) ∧ Hid (RMid w br R1 R2 BX F (kysB M ++ r) p L k a' c' wr ∧ wr.heap[B]? = some (.cells #[.pointer (some ⟨br, 0, none⟩)] 139) ∧ (∀ g, blk a' = some g → B < g))) (fun i _ => (intOf i).toNat)
  case atStart => exact ⟨[], ks, none, 0, Lib.hid rfl, rfl, Lib.hid ⟨HI1.out.1, HI1.out.2, fun g e => by cases e⟩⟩
  case round =>
    clear HI1
    obtain ⟨L, M, a', c', HS, rfl, HI⟩ := hrel
    have hrdl : (kysB M ++ r).length ≤ 100000000 := by
      have e : kysB ks = kysB L ++ kysB M := by rw [HS.out]; exact List.flatMap_append
      rw [e] at hlr
      simp only [List.length_append] at hlr ⊢
      omega
    have hML : L.length ≤ 2000 := by have := HS.out; rw [this, List.length_append] at hn; omega
    have q : wr.cell? ⟨B, 0, none⟩ = some (.pointer (some ⟨br, 0, none⟩)) := by rw [cell_of_row _ _ _ _ _ _ HI.out.2.1]; rfl
    cases M with
    | nil =>
      have hfin : RMid w br R1 R2 BX F r p ks k a' c' wr := by
        have := HI.out.1
        rw [HS.out, List.append_nil]
        exact this
      have HF := Lib.hid hfin
      clear hfin HI hrdl q
      go_wp2_with fail
      go_end0
      exact ⟨rfl, a', c', HF.out⟩
    | cons x M =>
      have hI : (0 : Int) < ((x :: M).length : Int) := by simp only [List.length_cons]; omega
      have hdec : IntKind.i64.wrap (((x :: M).length : Int) - 1) = (M.length : Int) := by
        have e : ((x :: M).length : Int) - 1 = (M.length : Int) := by simp only [List.length_cons]; omega
        have hMn : M.length ≤ 2000 := by have := HS.out; rw [this, List.length_append, List.length_cons] at hn; omega
        rw [e]
        exact IntWalk.i64_in _ (by omega)
      have herr := err_any br F (kysB (x :: M) ++ r) 0 wr HI.out.1.rd
      have hk : kysB (x :: M) ++ r = x.b ++ (kysB M ++ r) := by
        have e : kysB (x :: M) = x.b ++ kysB M := List.flatMap_cons
        rw [e, List.append_assoc]
      have hcl := root1_any x (by have := HI.out.1; rw [hk] at this; exact this) (by rw [hk] at hrdl; exact hrdl) (by omega)
      have HCL := Lib.hid hcl
      have HK := Lib.hid hk
      clear hcl hk hrdl
      have hmeas : (M.length : Int) + 1 = ((x :: M).length : Int) := by simp
      generalize ((x :: M).length : Int) = nn at *
      go_wp2_with fail
      refine herr.mono ?_
      rintro e w' ⟨rfl, rfl⟩
      clear herr
      go_wp2_with fail
      refine HCL.out.mono ?_
      rintro e w2 ⟨rfl, a2, c2, hM, hU, hsl⟩
      have hwB : B < wr.heap.size := lt_of_heap HI.out.2.1
      have hb2 := (hU.block B hwB (fun e => by
        rcases e with e | e | e
        · omega
        · omega
        · have := HI.out.2.2 B e; omega)).trans HI.out.2.1
      have HJ := Lib.hid (And.intro hM (And.intro hb2 (fun g (hg : blk a2 = some g) => (hsl g hg).elim (fun e => HI.out.2.2 g e) (fun e => Nat.lt_of_lt_of_le hwB e))))
      clear hM hU hsl hb2 hwB HCL q
      go_wp2_with fail
      go_roundw
      case rel => exact ⟨L ++ [x], M, a2, c2, Lib.hid (by rw [HS.out]; simp), by first | rfl | go_num | (rw [hdec]), HJ.out |> Lib.hid⟩
      case measure => simp [intOf]; omega

/-- A root's bytes behind the first. -/
def rootR (p : Int) (ks : List Ky) (k : Int) : List UInt8 := i4 p ++ (i4 ks.length ++ (kysB ks ++ (i4 0 ++ (i4 0 ++ i4 k))))
theorem rootL_eq (p : Int) (ks : List Ky) (k : Int) : rootL p ks k = [1] ++ rootR p ks k := by
  unfold rootL rootR; simp only [List.append_assoc]
theorem rootR_len (p : Int) (ks : List Ky) (k : Int) (h : ks.length ≤ 2000) : (rootR p ks k).length ≤ 64020 := by
  unfold rootR; simp only [List.length_append, i4_length, kysB_len]; omega
theorem infoRoot : (Tryz.prog.info? 26).map (·.size) = some 5 := by kernel_rfl
theorem rootA_one (p : Int) (a : Option Addr) (n c : Nat) (k : Int) : (rootA p a n c k).all (·.oneCell') = true := by simp [rootA, Value.oneCell']

set_option maxHeartbeats 8000000 in
theorem mrroot_any (p : Int) (ks : List Ky) (k : Int) (h : RootIn p ks.length k) (br : Nat) (F : Option Nat) (w : World) (hr : Rd w br F (rootR p ks k) 0) (hF : ∀ g, F = some g → g < w.heap.size) :
    Calls Tryz.prog 95 #[.agg #[.pointer (some ⟨br, 0, none⟩)]] w fun e w' => ∃ a c, e = .returned (.agg (rootA p a ks.length c k)) ∧ w'.ownsRow 0 52 32 (.slice a ks.length c) ks.length (ks.flatMap kyV) ∧ (∀ g, blk a = some g → w.heap.size ≤ g) ∧ Upd (fun k => k = br) w w' := by
  have hlen := rootR_len p ks k h.n1
  have hbr : br < w.heap.size := by
    obtain ⟨a, c, hh, _⟩ := hr.ex
    exact lt_of_heap hh
  obtain ⟨h1, h2, h3, h4, h5⟩ := h
  unfold rootR at hr hlen
  have HW := Lib.hid (And.intro hr (And.intro hbr hF))
  have hlr : Hid ((i4 ks.length ++ (kysB ks ++ (i4 0 ++ (i4 0 ++ i4 k)))).length ≤ 100000000 ∧ (i4 0 ++ (i4 0 ++ i4 k)).length ≤ 100000000 ∧ (i4 0 ++ i4 k).length ≤ 100000000 ∧ (i4 k ++ []).length ≤ 100000000) := Lib.hid (by
    simp only [List.length_append, i4_length, List.length_nil] at hlen ⊢; omega)
  have hl0 : (i4 p ++ (i4 ks.length ++ (kysB ks ++ (i4 0 ++ (i4 0 ++ i4 k))))).length ≤ 100000000 := by omega
  clear hr hbr hF hlen
  have hU0 : Upd (fun _ => False) w ((w.alloc (.cells #[.pointer (some ⟨br, 0, none⟩)] 139)).alloc (.cells (rootA 0 none 0 0 0) 26)) := (Upd.alloc _ _ _).trans (Upd.alloc _ _ _)
  have hb1 : ((w.alloc (.cells #[.pointer (some ⟨br, 0, none⟩)] 139)).alloc (.cells (rootA 0 none 0 0 0) 26)).heap[w.heap.size]? = some (.cells #[.pointer (some ⟨br, 0, none⟩)] 139) := by
    rw [Below.heap_alloc _ _ _ (by simp)]; exact heap_alloc_new _ _
  have hb2 : ((w.alloc (.cells #[.pointer (some ⟨br, 0, none⟩)] 139)).alloc (.cells (rootA 0 none 0 0 0) 26)).heap[w.heap.size + 1]? = some (.cells (rootA 0 none 0 0 0) 26) := by
    have := heap_alloc_new (w.alloc (.cells #[.pointer (some ⟨br, 0, none⟩)] 139)) (.cells (rootA 0 none 0 0 0) 26)
    simpa using this
  unfold rootA at hU0 hb1 hb2
  have HA := Lib.hid (And.intro hU0 (And.intro hb1 hb2))
  clear hU0 hb1 hb2
  go_enter Tryz.func95, Tryz.ntmps95
  go_upto_region 1 with (fail)
  generalize (w.alloc (.cells #[.pointer (some ⟨br, 0, none⟩)] 139)).alloc (.cells #[.int .i64 0, .slice none 0 0, .slice none 0 0, .slice none 0 0, .int .i64 0] 26) = y0 at *
  obtain ⟨R1, hR1⟩ : ∃ B, B = w.heap.size := ⟨_, rfl⟩
  obtain ⟨R2, hR2⟩ : ∃ B, B = w.heap.size + 1 := ⟨_, rfl⟩
  rw [← hR2, ← hR1] at HA
  rw [← hR2, ← hR1]
  have HB := Lib.hid (And.intro hR1 hR2)
  clear hR1 hR2
  have q : y0.cell? ⟨R1, 0, none⟩ = some (.pointer (some ⟨br, 0, none⟩)) := by rw [cell_of_row _ _ _ _ _ _ HA.out.2.1]; rfl
  go_wp2_with fail
  refine (rint_i4 br F p _ _ (HW.out.1.upd HA.out.1 (fun h => h) (fun _ _ h => h)) hl0 h1 (by omega)).mono ?_
  rintro e w1 ⟨rfl, hR, hU⟩
  have hb1 := (hU.block R1 (lt_of_heap HA.out.2.1) (by have := HB.out.1; have := HW.out.2.1; omega)).trans HA.out.2.1
  have hb2 := (hU.block R2 (lt_of_heap HA.out.2.2) (by have := HB.out.2; have := HW.out.2.1; omega)).trans HA.out.2.2
  have hUw := (HA.out.1.mono (fun _ _ h => h.elim)).trans hU
  have HA1 := Lib.hid (And.intro hR (And.intro hb1 (And.intro hb2 hUw)))
  have hz1 := lt_of_heap hb2
  have HZ1 := Lib.hid hz1
  clear hR hb1 hb2 hUw hz1 hU HA q
  go_upto_region 2 with (fail)
  have hUx := Upd.alloc (fun _ => False) w1 (.cells (rootA p none 0 0 0) 26)
  have hbx := heap_alloc_new w1 (.cells (rootA p none 0 0 0) 26)
  have HM : Hid (RMid w br R1 R2 w1.heap.size F (i4 ks.length ++ (kysB ks ++ (i4 0 ++ (i4 0 ++ i4 k)))) p [] 0 none 0 (w1.alloc (.cells #[.int .i64 p, .slice none 0 0, .slice none 0 0, .slice none 0 0, .int .i64 0] 26))) :=
    Lib.hid ⟨HA1.out.1.upd hUx (fun h => h) (fun _ _ h => h), (hUx.block R1 (lt_of_heap HA1.out.2.1) (fun h => h)).trans HA1.out.2.1, (hUx.block R2 (lt_of_heap HA1.out.2.2.1) (fun h => h)).trans HA1.out.2.2.1, hbx, World.ownsRow_nil _ _ _ _, (fun g e => by cases e),
      HA1.out.2.2.2.trans (hUx.mono (fun _ _ h => h.elim)), HW.out.2.1, by have := HB.out.1; omega, by have := HB.out.1; have := HB.out.2; omega, HZ1.out, HW.out.2.2⟩
  clear hUx hbx HA1 HZ1
  generalize w1.alloc (.cells #[.int .i64 p, .slice none 0 0, .slice none 0 0, .slice none 0 0, .int .i64 0] 26) = y1 at *
  generalize w1.heap.size = BX at *
  have q := HM.out.q0
  have hsk := some_keys HM.out hlr.out.1 h3
  clear HB
  go_wp2_with fail
  refine hsk.mono ?_
  rintro e y2 ⟨rfl, a, c, hM⟩
  have HM2 := Lib.hid hM
  clear hM hsk q HM
  have q := HM2.out.q0
  go_wp2_with fail
  refine (some_zero br F _ _ _ HM2.out.rd hlr.out.2.1).mono ?_
  rintro e y3 ⟨rfl, hR, hU⟩
  have HM3 := Lib.hid (HM2.out.read hR hU)
  clear hR hU q HM2
  have q := HM3.out.q0
  go_wp2_with fail
  refine (some_zero br F _ _ _ HM3.out.rd hlr.out.2.2.1).mono ?_
  rintro e y4 ⟨rfl, hR, hU⟩
  have hR' : Rd y4 br F (i4 k ++ []) 0 := by rw [List.append_nil]; exact hR
  have HM4 := Lib.hid (HM3.out.read hR' hU)
  clear hR hU q HM3 hR'
  have q := HM4.out.q0
  go_wp2_with fail
  refine (rint_i4 br F k [] _ HM4.out.rd hlr.out.2.2.2 h4 (by omega)).mono ?_
  rintro e y5 ⟨rfl, hR, hU⟩
  have HM5 := Lib.hid (HM4.out.read hR hU)
  clear hR hU q HM4
  have hc4 : y5.cell? ⟨BX, 4, none⟩ = some (.int .i64 0) := by rw [cell_of_row _ _ _ _ _ _ HM5.out.var]; rfl
  have hf4 : y5.frozen? ⟨BX, 4, none⟩ = false := free_row HM5.out.var
  go_upto_region 6 with (fail)
  have HM6 := Lib.hid (HM5.out.setK k)
  clear hc4 hf4 HM5
  generalize y5.setCell ⟨BX, 4, none⟩ (.int .i64 k) = y6 at *
  have hvar := HM6.out.var
  have hres := HM6.out.res
  go_wp2_with first
    | refine wpList_load_row rfl 26 (.tmp 3) rfl BX (rootA p a ks.length c k) 26 (0, 0) _ rfl hvar Tryz.underlying26 rfl (by rw [infoRoot]; rfl) ?_
    | refine wpList_store_row rfl 26 (.tmp 2) (.tmp 21) rfl R2 (rootA p a ks.length c k) _ 26 rfl rfl hres (by rw [infoRoot]; rfl) rfl (rootA_one _ _ _ _ _) ?_
  have hU6 := Upd.setRow (S := fun k => k = R2) y6 rfl (rootA p a ks.length c k)
  have hn2 := HM6.out.n2
  have hn3 := HM6.out.n3
  have hn4 := HM6.out.n4
  refine ret_row rfl R2 (rootA p a ks.length c k) 26 (0, 0) _ rfl (setRow_heap _ _ _ _ _ _ hres) Tryz.underlying26 rfl (by rw [infoRoot]; rfl) rfl ⟨a, c, rfl, ?_, ?_, ?_⟩
  · exact ownsRow_upd HM6.out.own hU6 (fun q hq e => by rw [own_blk] at hq; have := HM6.out.fr q hq; omega)
  · intro g hg
    have := HM6.out.fr g hg
    omega
  · exact HM6.out.upd.next hU6 (fun i hi e => by omega)
end Go.Proofs.YtccejkikphpnfaaGreatDoor
