
/- TakeBlob of both. -/
import Derived.Test.YteefceainlfdfaaDoorObj14
namespace Go.Proofs.YteefceainlfdfaaDoor
set_option linter.unusedSimpArgs false
set_option linter.unusedVariables false
set_option maxRecDepth 100000
open Go.ChangeShapes Go.WideShapes Go.ChangeAt Go.RowKit

def tblobL (l : List UInt8) : List UInt8 × Int := if kindL l ≠ 1 then ([], 5) else if 20001 < l.length then ([], 6) else (l.tail, 0)
theorem kind_ne (l : List UInt8) (h : kindL l ≠ 0) : 1 ≤ l.length := by
  cases l with
  | nil => exact absurd rfl h
  | cons x t => simp
set_option maxHeartbeats 1000000 in
theorem oTakeBlob_any (a : Option Addr) (c : Nat) (l : List UInt8) (w : World) (hv : Vw w a l.length c 1 (bvs l)) :
    Calls Tryd.prog 33 #[.slice a l.length c] w fun e w' => e = .returned (.tuple #[.string (str (tblobL l).1), .int .i64 (tblobL l).2]) ∧ w = w' := by
  have hcap := hv.cap
  have hlc := hv.le
  unfold maxLen at hcap
  have hk := oKind_any a c l w hv
  have hkne := kind_ne l
  have hd : tblobL l = if kindL l ≠ 1 then ([], 5) else if 20001 < l.length then ([], 6) else (l.tail, 0) := rfl
  generalize kindL l = k at *
  by_cases h1 : k = 1
  · have hp := hv.post 1 (hkne (by omega))
    rw [Nat.one_mul, show (bvs l).drop 1 = bvs (l.drop 1) from by simp [bvs]] at hp
    have hlen : (l.drop 1).length = l.length - 1 := by simp
    rw [← hlen] at hp
    have hcv := hp.conv
    rw [hlen, List.drop_one] at hcv
    have hn1 := hkne (by omega)
    subst h1
    clear hkne hp
    obtain ⟨b, o, hb, _⟩ := hv.at (by omega) (by decide)
    subst hb
    clear hv
    by_cases h2 : 20001 < l.length
    · have hI : (20001 : Int) < (l.length : Int) := by omega
      have hI3 : (20000 : Int) < (l.length : Int) - 1 := by omega
      rw [if_neg (by simp), if_pos h2] at hd
      have HD := Lib.hid hd
      clear hd
      go_enter Tryd.func33, Tryd.ntmps33
      go_wp2_with fail
      refine hk.mono ?_
      rintro e w' ⟨rfl, rfl⟩
      go_wp2_with fail
      go_ret2
      exact ⟨by rw [HD.out]; rfl, rfl⟩
    · have hI : decide ((20001 : Int) < (l.length : Int)) = false := by rw [decide_eq_false_iff_not]; omega
      have hI3 : decide ((20000 : Int) < (l.length : Int) - 1) = false := by rw [decide_eq_false_iff_not]; omega
      rw [if_neg (by simp), if_neg h2] at hd
      have HD := Lib.hid hd
      clear hd
      by_cases hc1 : c = 1
      · subst hc1
        have hl1 : l.length = 1 := by omega
        rw [if_pos rfl, hl1, Nat.sub_self] at hcv
        rw [hl1] at hk ⊢
        clear hI hI3 hn1 hlc hlen h2 hl1
        go_enter Tryd.func33, Tryd.ntmps33
        go_wp2_with fail
        refine hk.mono ?_
        rintro e w' ⟨rfl, rfl⟩
        go_wp2_with fail
        go_ret2
        exact ⟨by rw [HD.out]; rfl, rfl⟩
      · rw [if_neg hc1, Option.map_some, Addr.add_mid] at hcv
        go_enter Tryd.func33, Tryd.ntmps33
        go_wp2_with fail
        refine hk.mono ?_
        rintro e w' ⟨rfl, rfl⟩
        go_wp2_with fail
        go_ret2
        exact ⟨by rw [HD.out]; rfl, rfl⟩
  · have hkb : (k != 1) = true := by simpa using h1
    rw [if_pos h1] at hd
    have HD := Lib.hid hd
    clear hd
    go_enter Tryd.func33, Tryd.ntmps33
    go_wp2_with fail
    refine hk.mono ?_
    rintro e w' ⟨rfl, rfl⟩
    go_wp2_with fail
    go_ret2
    exact ⟨by rw [HD.out]; rfl, rfl⟩

set_option maxHeartbeats 1000000 in
theorem r15TakeBlob_any (a : Option Addr) (c : Nat) (l : List UInt8) (w : World) (hv : Vw w a l.length c 1 (bvs l)) :
    Calls Tryd.prog 34 #[.slice a l.length c] w fun e w' => e = .returned (.tuple #[.string (str (tblobL l).1), .int .i64 (tblobL l).2]) ∧ w = w' := by
  have hcap := hv.cap
  have hlc := hv.le
  unfold maxLen at hcap
  have hk := r15Kind_any a c l w hv
  have hkne := kind_ne l
  have hd : tblobL l = if kindL l ≠ 1 then ([], 5) else if 20001 < l.length then ([], 6) else (l.tail, 0) := rfl
  generalize kindL l = k at *
  by_cases h1 : k = 1
  · have hp := hv.post 1 (hkne (by omega))
    rw [Nat.one_mul, show (bvs l).drop 1 = bvs (l.drop 1) from by simp [bvs]] at hp
    have hlen : (l.drop 1).length = l.length - 1 := by simp
    rw [← hlen] at hp
    have hcv := hp.conv
    rw [hlen, List.drop_one] at hcv
    have hn1 := hkne (by omega)
    subst h1
    clear hkne hp
    obtain ⟨b, o, hb, _⟩ := hv.at (by omega) (by decide)
    subst hb
    clear hv
    by_cases h2 : 20001 < l.length
    · have hI : (20001 : Int) < (l.length : Int) := by omega
      have hI3 : (20000 : Int) < (l.length : Int) - 1 := by omega
      rw [if_neg (by simp), if_pos h2] at hd
      have HD := Lib.hid hd
      clear hd
      go_enter Tryd.func34, Tryd.ntmps34
      go_wp2_with fail
      refine hk.mono ?_
      rintro e w' ⟨rfl, rfl⟩
      go_wp2_with fail
      go_ret2
      exact ⟨by rw [HD.out]; rfl, rfl⟩
    · have hI : decide ((20001 : Int) < (l.length : Int)) = false := by rw [decide_eq_false_iff_not]; omega
      have hI3 : decide ((20000 : Int) < (l.length : Int) - 1) = false := by rw [decide_eq_false_iff_not]; omega
      rw [if_neg (by simp), if_neg h2] at hd
      have HD := Lib.hid hd
      clear hd
      by_cases hc1 : c = 1
      · subst hc1
        have hl1 : l.length = 1 := by omega
        rw [if_pos rfl, hl1, Nat.sub_self] at hcv
        rw [hl1] at hk ⊢
        clear hI hI3 hn1 hlc hlen h2 hl1
        go_enter Tryd.func34, Tryd.ntmps34
        go_wp2_with fail
        refine hk.mono ?_
        rintro e w' ⟨rfl, rfl⟩
        go_wp2_with fail
        go_ret2
        exact ⟨by rw [HD.out]; rfl, rfl⟩
      · rw [if_neg hc1, Option.map_some, Addr.add_mid] at hcv
        go_enter Tryd.func34, Tryd.ntmps34
        go_wp2_with fail
        refine hk.mono ?_
        rintro e w' ⟨rfl, rfl⟩
        go_wp2_with fail
        go_ret2
        exact ⟨by rw [HD.out]; rfl, rfl⟩
  · have hkb : (k != 1) = true := by simpa using h1
    rw [if_pos h1] at hd
    have HD := Lib.hid hd
    clear hd
    go_enter Tryd.func34, Tryd.ntmps34
    go_wp2_with fail
    refine hk.mono ?_
    rintro e w' ⟨rfl, rfl⟩
    go_wp2_with fail
    go_ret2
    exact ⟨by rw [HD.out]; rfl, rfl⟩

set_option maxHeartbeats 1000000 in
theorem slEq_any (a a2 : Option Addr) (c c2 : Nat) (l k : List UInt8) (w : World) (hv : Vw w a l.length c 1 (bvs l)) (hv2 : Vw w a2 k.length c2 1 (bvs k)) :
    Calls Tryd.prog 69 #[.slice a l.length c, .slice a2 k.length c2] w fun e w' => e = .returned (.bool (l == k)) ∧ Upd (fun _ => False) w w' := by
  have hcap := hv.cap
  have hlc := hv.le
  have hcap2 := hv2.cap
  have hlc2 := hv2.le
  unfold maxLen at hcap hcap2
  by_cases hlen : l.length = k.length
  · have hb : ((l.length : Int) != (k.length : Int)) = false := by simp [hlen]
    have HL := Lib.hid hlen
    clear hlen
    go_enter Tryd.func69, Tryd.ntmps69
    go_wp2_with fail
    go_loopw [13] (fun i wr => ∃ j : Nat, j ≤ l.length ∧ i = .int .i64 (j : Int) ∧ Upd (fun _ => False) w wr ∧ Hid (l.take j = k.take j)) (fun i _ => l.length - (intOf i).toNat)
    case atStart => exact ⟨0, Nat.zero_le _, rfl, Upd.refl _ _, rfl⟩
    case round =>
      obtain ⟨j, hj, rfl, hU, hE⟩ := hrel
      have hvr := hv.upd hU (fun _ _ h => h)
      have hvr2 := hv2.upd hU (fun _ _ h => h)
      by_cases hlt : j < l.length
      · have hlt2 : j < k.length := by have := HL.out; omega
        obtain ⟨b, off, rfl, hcell⟩ := hvr.at (by omega) (by decide)
        obtain ⟨b2, off2, rfl, hcell2⟩ := hvr2.at (by omega) (by decide)
        have hce : wr.cell? ⟨b, off + j, none⟩ = some (.int .u8 (l[j].toNat : Int)) := hcell j _ (bvs_get l j hlt)
        have hce2 : wr.cell? ⟨b2, off2 + j, none⟩ = some (.int .u8 (k[j].toNat : Int)) := hcell2 j _ (bvs_get k j hlt2)
        have hI : (j : Int) < (l.length : Int) := by omega
        have hI2 : (j : Int) < (k.length : Int) := by omega
        have hbe : ((l[j].toNat : Int) != (k[j].toNat : Int)) = !(l[j] == k[j]) := by
          rw [Bool.eq_iff_iff]; simp [← UInt8.toNat_inj]; omega
        have hne : (l[j] == k[j]) = false → Hid ((l == k) = false) := fun hxy => Lib.hid (by
          cases h : l == k
          · rfl
          · have e := eq_of_beq h
            subst e
            simp at hxy)
        have heq : (l[j] == k[j]) = true → Hid (l.take (j + 1) = k.take (j + 1)) := fun hxy => Lib.hid (by
          rw [take_succ_get l j hlt, take_succ_get k j hlt2, hE.out, eq_of_beq hxy])
        have HNE := Lib.hid hne
        have HEQ := Lib.hid heq
        have HQ := Lib.hid (And.intro hce hce2)
        have HU := Lib.hid hU
        clear hcell hcell2 hvr hvr2 hv hv2 hne heq hE hU hce hce2
        generalize (l[j] == k[j]) = bb at *
        have HBE := Lib.hid hbe
        clear hbe
        go_upto_region 6 with (fail)
        refine wp_region_plan_last [] [0, 1, 2, 3, 4, 5, 6, 7, 8] (fun w' => w'.cell? ⟨b, off + j, none⟩ = some (.int .u8 (l[j].toNat : Int)) ∧ w'.cell? ⟨b2, off2 + j, none⟩ = some (.int .u8 (k[j].toNat : Int))) (by kernel_rfl) (by kernel_rfl) HQ.out ?_
        iterate 9
          refine plan_last (v := ?_) rfl rfl (fun w' hS => ?_) ?_
          rotate_left
          · skip
            go_simp; try with_reducible rfl
          simp only [HBE.out, Act.put, List.getElem_toArray, List.getElem_cons_zero, List.getElem_cons_succ, List.setIfInBounds_toArray, List.set_cons_zero, List.set_cons_succ]
        refine plan_end ?_
        cases bb with
        | false =>
          have HN := HNE.out rfl
          go_wp2_with fail
          go_ret
          exact ⟨by rw [HN.out]; rfl, HU.out.trans (Upd.drew _ _)⟩
        | true =>
          have HN := HEQ.out rfl
          go_wp2_with fail
          go_roundw
          case rel => exact ⟨j + 1, by omega, by first | rfl | go_num, HU.out.trans (Upd.drew _ _), HN⟩
          case measure => simp [intOf]; omega
      · have hI : ¬ (j : Int) < (l.length : Int) := by omega
        have heq : (l == k) = true := by
          have := hE.out
          rw [List.take_of_length_le (by omega), List.take_of_length_le (by have := HL.out; omega)] at this
          simpa using this
        have HE := Lib.hid heq; clear heq
        go_wp2_with fail
        go_ret
        exact ⟨by rw [HE.out]; rfl, hU⟩
  · have hb : ((l.length : Int) != (k.length : Int)) = true := by simp; omega
    have hne : (l == k) = false := by
      cases h : l == k
      · rfl
      · exact absurd (by rw [eq_of_beq h]) hlen
    have HNE := Lib.hid hne; clear hne hlen
    go_enter Tryd.func69, Tryd.ntmps69
    go_wp2_with fail
    go_ret
    exact ⟨by rw [HNE.out]; rfl, Upd.refl _ _⟩
end Go.Proofs.YteefceainlfdfaaDoor
