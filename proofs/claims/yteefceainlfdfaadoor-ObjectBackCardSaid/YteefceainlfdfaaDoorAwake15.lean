
/- awake of layer 15. -/
import Derived.Test.YteefceainlfdfaaDoorObj10
import Derived.Test.YteefceainlfdfaaDoorObj14
namespace Go.Proofs.YteefceainlfdfaaDoor
set_option linter.unusedSimpArgs false
set_option linter.unusedVariables false
set_option maxRecDepth 100000
open Go.ChangeShapes Go.WideShapes Go.ChangeAt Go.RowKit

def awCom : Com := ⟨true, key0, key0, [], 0, rfl, rfl, by decide, by decide⟩
theorem awCom_lit : comA awCom = #[.bool true, .int .u8 0, .int .u8 0, .int .u8 0, .int .u8 0, .int .u8 0, .int .u8 0, .int .u8 0, .int .u8 0, .int .u8 0, .int .u8 0, .int .u8 0, .int .u8 0, .int .u8 0, .int .u8 0, .int .u8 0, .int .u8 0, .int .u8 0, .int .u8 0, .int .u8 0, .int .u8 0, .int .u8 0, .int .u8 0, .int .u8 0, .int .u8 0, .int .u8 0, .int .u8 0, .int .u8 0, .int .u8 0, .int .u8 0, .int .u8 0, .int .u8 0, .int .u8 0, .int .u8 0, .int .u8 0, .int .u8 0, .int .u8 0, .int .u8 0, .int .u8 0, .int .u8 0, .int .u8 0, .int .u8 0, .int .u8 0, .int .u8 0, .int .u8 0, .int .u8 0, .int .u8 0, .int .u8 0, .int .u8 0, .int .u8 0, .int .u8 0, .int .u8 0, .int .u8 0, .int .u8 0, .int .u8 0, .int .u8 0, .int .u8 0, .int .u8 0, .int .u8 0, .int .u8 0, .int .u8 0, .int .u8 0, .int .u8 0, .int .u8 0, .int .u8 0, .string ⟨#[]⟩, .int .u64 0] := rfl
theorem awCom_E : comE awCom = 0 := by decide +kernel
theorem awCom_len : (comB awCom).length = 78 := by decide +kernel
theorem awCom_kind : kindL (comB awCom) = 3 := by decide +kernel
theorem two_vw (w : World) : Vw (w.alloc (.cells #[.int .u8 1, .int .u8 97] 5)) (some ⟨w.heap.size, 0, none⟩) [(1 : UInt8), 97].length 2 1 (bvs [1, 97]) := by
  refine ⟨rfl, Nat.le_refl _, by decide, (fun h => by cases h), fun x hx j u hu => ?_⟩
  cases hx
  have ha : (Addr.add ⟨w.heap.size, 0, none⟩ j) = ⟨w.heap.size, j, none⟩ := by unfold Addr.add; split <;> simp_all
  have he : (#[.int .u8 1, .int .u8 97] : Array Value) = (bvs [1, 97]).toArray := rfl
  rw [ha, cell_of_row _ _ _ _ _ _ (heap_alloc_new w _), he, List.getElem?_toArray]
  exact hu

set_option maxHeartbeats 2000000 in
theorem awake15_any (w : World) : Calls Tryd.prog 14 #[] w fun e w' => e = .returned (.bool true) ∧ Upd (fun _ => False) w w' := by
  have hb : ∀ w, Calls Tryd.prog 16 #[.string ⟨#[97]⟩] w (Packed w [1, 97] 0) := fun w => oBlob_any [97] w
  have hc := fun w => oCommit_any awCom w
  rw [awCom_E] at hc
  simp only [awCom_lit] at hc
  have hL := awCom_len
  have hk := awCom_kind
  generalize comB awCom = L at *
  unfold Packed at hc hb
  rw [hL] at hc
  have hE : ([(1 : UInt8), 97] == [1, 97]) = true := by decide
  have HB := Lib.hid hb
  have HC := Lib.hid hc
  have HL := Lib.hid (And.intro hL (And.intro hk hE))
  clear hb hc hL hk hE
  go_enter Tryd.func14, Tryd.ntmps14
  go_wp2_with fail
  refine (HB.out _).mono ?_
  rintro e w1 ⟨a1, c1, rfl, hv1, hf1, hU1⟩
  have H1 := Lib.hid (And.intro hv1 hU1)
  clear hv1 hf1 hU1
  go_wp2_with fail
  refine (HC.out _).mono ?_
  rintro e w2 ⟨a2, c2, rfl, hv2, hf2, hU2⟩
  have hU02 := H1.out.2.trans hU2
  have hva := H1.out.1.upd hU2 (fun _ _ h => h)
  have hUn := Upd.alloc (fun _ => False) w2 (.cells #[.int .u8 1, .int .u8 97] 5)
  have hsb := sBytes_any a1 (some ⟨w2.heap.size, 0, none⟩) c1 2 [1, 97] [1, 97] _ (hva.upd hUn (fun _ _ h => h)) (two_vw w2)
  rw [HL.out.2.2] at hsb
  have hvL : Vw (w2.alloc (.cells #[.int .u8 1, .int .u8 97] 5)) a2 L.length c2 1 (bvs L) := by rw [HL.out.1]; exact hv2.upd hUn (fun _ _ h => h)
  have hkd := oKind_any a2 c2 L _ hvL
  rw [HL.out.1, HL.out.2.1] at hkd
  have H2 := Lib.hid (And.intro hsb (And.intro hkd (hU02.trans hUn)))
  clear hsb hkd hU02 hUn hva hvL hv2 hf2 hU2 H1
  go_wp2_with fail
  refine H2.out.1.mono ?_
  rintro e w3 ⟨rfl, rfl⟩
  go_wp2_with fail
  refine H2.out.2.1.mono ?_
  rintro e w3 ⟨rfl, rfl⟩
  go_wp2_with fail
  go_ret
  exact ⟨rfl, H2.out.2.2⟩
end Go.Proofs.YteefceainlfdfaaDoor
