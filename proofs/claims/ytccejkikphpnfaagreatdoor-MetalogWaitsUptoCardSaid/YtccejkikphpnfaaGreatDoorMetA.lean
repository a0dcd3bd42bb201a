
/- A law on drawn regions: at first either of two operations may act; behind the last one nothing is asked. slices.Equal on bytes; slices.Clip. -/
import Derived.Test.YtccejkikphpnfaaGreatDoorAppV
import Derived.Test.YtccejkikphpnfaaGreatDoorFork
namespace Go.Proofs.YtccejkikphpnfaaGreatDoor
set_option linter.unusedSimpArgs false
set_option linter.unusedVariables false
set_option maxRecDepth 100000
open Go.ChangeShapes Go.WideShapes Go.ChangeAt Go.RowKit
section
variable {P : Program} {ops : Array Oper} {Q : Exit → Act → World → Prop}
theorem wp_region_fork_last {id : Nat} {a : Act} {w : World} (seg : List Nat) (e1 e2 : Nat) (p1 p2 : Plan) (S : World → Prop) (hm : P.follows .mixedOrders = true)
    (hok : (Region.noSelect ops && lastOk .any ops && forkOk .any ops seg e1 e2 p1 p2 [] (Array.replicate ops.size false) && forkSize seg p1 [] == ops.size && planSize p1.1 p1.2 == planSize p2.1 p2.2 && e1 != e2) = true) (hS : S w.drew)
    (h : forkWp P ops Q S (ops.size - 1) seg e1 e2 p1 p2 [] a w.drew) : (Code.region id ops true).wp P Q a w := by
  simp only [Bool.and_eq_true, beq_iff_eq, bne_iff_ne] at hok
  obtain ⟨⟨⟨⟨⟨h1, h2⟩, h3⟩, h4⟩, h5⟩, h6⟩ := hok
  have hex : ∀ listed : Array Bool, listed.size = ops.size → Down .any ops listed → ops.size - 1 ∈ Region.ready .any ops listed → ∀ k, k < ops.size → listed.getD k true = false → k = ops.size - 1 := fun l hz hd hx => last_all h2 hd hz hx
  have key : wpAnyX P .any ops (calmQ Q) S (ops.size - 1) (forkSize seg p1 []) (Array.replicate ops.size false) a w.drew := by
    simp only [forkOk, Bool.and_eq_true, beq_iff_eq] at h3
    obtain ⟨⟨⟨hok1, hok2⟩, hok3⟩, hok4⟩ := h3
    rw [show forkSize seg p1 [] = seg.length + (planSize p1.1 p1.2 + 1) from by simp [forkSize]; omega]
    refine takes_sound (P := P) (Q := calmQ Q) (S := S) h1 (fun _ _ _ h => h) hex (planSize p1.1 p1.2 + 1) seg _ a _ _ (by simp) (down_none _) hok1 hS ?_ h
    intro A hz hd hN
    obtain ⟨⟨o1, ho1, hA1⟩, o2, ho2, hA2⟩ := hN
    have hm1 : e1 ∈ Region.ready .any ops (marked seg (Array.replicate ops.size false)) := by rw [hok2]; simp
    have hm2 : e2 ∈ Region.ready .any ops (marked seg (Array.replicate ops.size false)) := by rw [hok2]; simp
    have hn1 : e1 ≠ ops.size - 1 := fun e => by
      have := hex _ hz hd (e ▸ hm1) e2 (Array.getElem?_eq_some_iff.1 ho2).1 (mem_ready.1 hm2).1
      omega
    have hn2 : e2 ≠ ops.size - 1 := fun e => by
      have := hex _ hz hd (e ▸ hm2) e1 (Array.getElem?_eq_some_iff.1 ho1).1 (mem_ready.1 hm1).1
      omega
    refine ⟨fun h0 => (by rw [hok2] at h0; cases h0), fun i hi => ?_⟩
    have hmem := hi
    rw [hok2] at hi
    simp only [List.mem_cons, List.not_mem_nil, or_false] at hi
    rcases hi with rfl | rfl
    · refine wpOp_mono (fun a' w' h3 => ⟨h3.1, ?_⟩) (wpOp_of_list ho1 hA1)
      exact plan_sound h1 hex p1.1 p1.2 _ a' w' (by simpa using hz) (hd.next hmem) hok3 (.inl (h3.1.resolve_left hn1)) h3.2
    · refine wpOp_mono (fun a' w' h3 => ⟨h3.1, ?_⟩) (wpOp_of_list ho2 hA2)
      rw [h5]
      exact plan_sound h1 hex p2.1 p2.2 _ a' w' (by simpa using hz) (hd.next hmem) hok4 (.inl (h3.1.resolve_left hn2)) h3.2
  rw [h4] at key
  exact Code.wp_mono calmQ_imp (wp_region_any hm (wpAny_of_X (S := S) (ex := ops.size - 1) _ _ _ _ key))
end
set_option maxHeartbeats 1000000 in
theorem slEqB_any (a a2 : Option Addr) (c c2 : Nat) (l k : List UInt8) (w : World) (hv : Vw w a l.length c 1 (bvs l)) (hv2 : Vw w a2 k.length c2 1 (bvs k)) :
    Calls Tryz.prog 105 #[.slice a l.length c, .slice a2 k.length c2] w fun e w' => e = .returned (.bool (l == k)) ∧ Upd (fun _ => False) w w' := by
  have hcap := hv.cap
  have hlc := hv.le
  have hcap2 := hv2.cap
  have hlc2 := hv2.le
  unfold maxLen at hcap hcap2
  by_cases hlen : l.length = k.length
  · have hb : ((l.length : Int) != (k.length : Int)) = false := by simp [hlen]
    have HL := Lib.hid hlen
    clear hlen
    go_enter Tryz.func105, Tryz.ntmps105
    go_wp2_with fail
    go_loopw [13] (fun i wr => ∃ j : Nat, j ≤ l.length ∧ i = .int .i64 (j : Int) ∧ Upd (fun _ => False) w wr ∧ Hid (l.take j = k.take j)) (fun i _ => l.length - (intOf i).toNat)
    case atStart => exact ⟨0, Nat.zero_le _, rfl, Upd.refl _ _, rfl⟩
    case round =>
      obtain ⟨j, hj, rfl, hU, hE⟩ := hrel
      have hvr := hv.upd hU (fun _ _ h => h)
      have hvr2 := hv2.upd hU (fun _ _ h => h)
      by_cases hlt : j < l.length
      · have hlt2 : j < k.length := by have := HL.out; omega
        obtain ⟨b, off, rfl, hcell⟩ := hvr.at (by omega) (by decide)
        obtain ⟨b2, off2, rfl, hcell2⟩ := hvr2.at (by omega) (by decide)
        have hce : wr.cell? ⟨b, off + j, none⟩ = some (.int .u8 (l[j].toNat : Int)) := hcell j _ (bvs_get l j hlt)
        have hce2 : wr.cell? ⟨b2, off2 + j, none⟩ = some (.int .u8 (k[j].toNat : Int)) := hcell2 j _ (bvs_get k j hlt2)
        have hI : (j : Int) < (l.length : Int) := by omega
        have hI2 : (j : Int) < (k.length : Int) := by omega
        have hbe : ((l[j].toNat : Int) != (k[j].toNat : Int)) = !(l[j] == k[j]) := by
          rw [Bool.eq_iff_iff]; simp [← UInt8.toNat_inj]; omega
        have hne : (l[j] == k[j]) = false → Hid ((l == k) = false) := fun hxy => Lib.hid (by
          cases h : l == k
          · rfl
          · have e := eq_of_beq h
            subst e
            simp at hxy)
        have heq : (l[j] == k[j]) = true → Hid (l.take (j + 1) = k.take (j + 1)) := fun hxy => Lib.hid (by
          rw [take_succ_get l j hlt, take_succ_get k j hlt2, hE.out, eq_of_beq hxy])
        have HNE := Lib.hid hne
        have HEQ := Lib.hid heq
        have HQ := Lib.hid (And.intro hce hce2)
        have HU := Lib.hid hU
        clear hcell hcell2 hvr hvr2 hv hv2 hne heq hE hU hce hce2
        generalize (l[j] == k[j]) = bb at *
        have HBE := Lib.hid hbe
        clear hbe
        go_upto_region 6 with (fail)
        refine wp_region_plan_last [] [0, 1, 2, 3, 4, 5, 6, 7, 8] (fun w' => w'.cell? ⟨b, off + j, none⟩ = some (.int .u8 (l[j].toNat : Int)) ∧ w'.cell? ⟨b2, off2 + j, none⟩ = some (.int .u8 (k[j].toNat : Int))) (by kernel_rfl) (by kernel_rfl) HQ.out ?_
        iterate 9
          refine plan_last (v := ?_) rfl rfl (fun w' hS => ?_) ?_
          rotate_left
          · skip
            go_simp; try with_reducible rfl
          simp only [HBE.out, Act.put, List.getElem_toArray, List.getElem_cons_zero, List.getElem_cons_succ, List.setIfInBounds_toArray, List.set_cons_zero, List.set_cons_succ]
        refine plan_end ?_
        cases bb with
        | false =>
          have HN := HNE.out rfl
          go_wp2_with fail
          go_ret
          exact ⟨by rw [HN.out]; rfl, HU.out.trans (Upd.drew _ _)⟩
        | true =>
          have HN := HEQ.out rfl
          go_wp2_with fail
          go_roundw
          case rel => exact ⟨j + 1, by omega, by first | rfl | go_num, HU.out.trans (Upd.drew _ _), HN⟩
          case measure => simp [intOf]; omega
      · have hI : ¬ (j : Int) < (l.length : Int) := by omega
        have heq : (l == k) = true := by
          have := hE.out
          rw [List.take_of_length_le (by omega), List.take_of_length_le (by have := HL.out; omega)] at this
          simpa using this
        have HE := Lib.hid heq; clear heq
        go_wp2_with fail
        go_ret
        exact ⟨by rw [HE.out]; rfl, hU⟩
  · have hb : ((l.length : Int) != (k.length : Int)) = true := by simp; omega
    have hne : (l == k) = false := by
      cases h : l == k
      · rfl
      · exact absurd (by rw [eq_of_beq h]) hlen
    have HNE := Lib.hid hne; clear hne hlen
    go_enter Tryz.func105, Tryz.ntmps105
    go_wp2_with fail
    go_ret
    exact ⟨by rw [HNE.out]; rfl, Upd.refl _ _⟩
theorem clipI_any (a : Option Addr) (n c size : Nat) (xs : List Value) (w : World) (hv : Vw w a n c size xs) : Calls Tryz.prog 137 #[.slice a n c] w fun e w' => e = .returned (.slice a n n) ∧ w = w' := by
  have h1 := hv.le
  have h2 := hv.cap
  unfold maxLen at h2
  cases a with
  | none =>
    obtain rfl : c = 0 := hv.nil rfl
    obtain rfl : n = 0 := by omega
    go_enter Tryz.func137, Tryz.ntmps137
    go_wp2
    go_ret
    exact ⟨rfl, rfl⟩
  | some b =>
    go_enter Tryz.func137, Tryz.ntmps137
    go_wp2
    go_ret
    exact ⟨rfl, rfl⟩
theorem clipK_any (a : Option Addr) (n c size : Nat) (xs : List Value) (w : World) (hv : Vw w a n c size xs) : Calls Tryz.prog 138 #[.slice a n c] w fun e w' => e = .returned (.slice a n n) ∧ w = w' := by
  have h1 := hv.le
  have h2 := hv.cap
  unfold maxLen at h2
  cases a with
  | none =>
    obtain rfl : c = 0 := hv.nil rfl
    obtain rfl : n = 0 := by omega
    go_enter Tryz.func138, Tryz.ntmps138
    go_wp2
    go_ret
    exact ⟨rfl, rfl⟩
  | some b =>
    go_enter Tryz.func138, Tryz.ntmps138
    go_wp2
    go_ret
    exact ⟨rfl, rfl⟩
theorem clipR_any (a : Option Addr) (n c size : Nat) (xs : List Value) (w : World) (hv : Vw w a n c size xs) : Calls Tryz.prog 139 #[.slice a n c] w fun e w' => e = .returned (.slice a n n) ∧ w = w' := by
  have h1 := hv.le
  have h2 := hv.cap
  unfold maxLen at h2
  cases a with
  | none =>
    obtain rfl : c = 0 := hv.nil rfl
    obtain rfl : n = 0 := by omega
    go_enter Tryz.func139, Tryz.ntmps139
    go_wp2
    go_ret
    exact ⟨rfl, rfl⟩
  | some b =>
    go_enter Tryz.func139, Tryz.ntmps139
    go_wp2
    go_ret
    exact ⟨rfl, rfl⟩
end Go.Proofs.YtccejkikphpnfaaGreatDoor
