
/- A text cut at slashes: plainly; and what strings.Count, strings.Index answer of a slash. -/
import Derived.Test.YtccejkikphpnfaaGreatDoorPath1
import Derived.Lib.Bytealg
namespace Go.Proofs.YtccejkikphpnfaaGreatDoor
set_option linter.unusedSimpArgs false
set_option linter.unusedVariables false
set_option maxRecDepth 100000
open Go.ChangeShapes Go.WideShapes Go.ChangeAt Go.RowKit

/-- What stands between slashes. -/
def partsL : List UInt8 → List (List UInt8)
  | [] => [[]]
  | b :: s => if b == 47 then [] :: partsL s else match partsL s with
    | [] => [[b]]
    | p :: ps => (b :: p) :: ps
theorem partsL_ne (s : List UInt8) : partsL s ≠ [] := by
  cases s with
  | nil => simp [partsL]
  | cons b s =>
    unfold partsL
    split
    · simp
    · split <;> simp
theorem parts_hit : ∀ (R : List UInt8) (m : Nat), Lib.indexByte R 47 = (m : Int) → partsL R = R.take m :: partsL (R.drop (m + 1)) ∧ (R.drop (m + 1)).count 47 + 1 = R.count 47 ∧ m < R.length
  | [], m, h => by simp [Lib.indexByte] at h
  | b :: R, m, h => by
    unfold Lib.indexByte at h
    by_cases hb : (b == 47) = true
    · rw [if_pos hb] at h
      have hm : m = 0 := by omega
      subst hm
      have e := eq_of_beq hb
      subst e
      refine ⟨?_, ?_, by simp⟩
      · simp [partsL]
      · simp
    · rw [if_neg hb] at h
      have hb' : (b == 47) = false := by simpa using hb
      have hne : b ≠ 47 := by simpa using hb'
      split at h
      · omega
      · have hge := Lib.indexByte_ge R 47
        obtain ⟨k, hk⟩ : ∃ k : Nat, Lib.indexByte R 47 = (k : Int) := ⟨(Lib.indexByte R 47).toNat, by
          rename_i hn
          have : Lib.indexByte R 47 ≠ -1 := by simpa using hn
          omega⟩
        obtain ⟨h1, h2, h3⟩ := parts_hit R k hk
        have hm : m = k + 1 := by omega
        subst hm
        refine ⟨?_, ?_, by simpa using h3⟩
        · rw [partsL, if_neg hb, h1]; simp
        · rw [List.drop_succ_cons, List.count_cons]
          simp [hne, h2]
theorem parts_miss : ∀ (R : List UInt8), R.count 47 = 0 → partsL R = [R]
  | [], _ => rfl
  | b :: R, h => by
    rw [List.count_cons] at h
    have hb : (b == 47) = false := by
      cases e : b == 47
      · rfl
      · simp [e] at h
    have hb' : ¬ (b == 47) = true := by simp [hb]
    rw [partsL, if_neg hb', parts_miss R (by omega)]
theorem index_of_count : ∀ (R : List UInt8), 0 < R.count 47 → 0 ≤ Lib.indexByte R 47
  | [], h => by simp at h
  | b :: R, h => by
    unfold Lib.indexByte
    split
    · decide
    · rename_i hb
      have hc : 0 < R.count 47 := by
        rw [List.count_cons] at h
        simp [hb] at h
        simpa using h
      have := index_of_count R hc
      split
      · rename_i e
        have := eq_of_beq e
        omega
      · omega
theorem parts_len : ∀ (R : List UInt8), (partsL R).length = R.count 47 + 1
  | [] => rfl
  | b :: R => by
    have ih := parts_len R
    rw [List.count_cons, partsL]
    by_cases hb : (b == 47) = true
    · rw [if_pos hb]; simp [hb, ih]
    · rw [if_neg hb]
      have hb' : (b == 47) = false := by simpa using hb
      rw [hb']
      split
      · rename_i e; rw [e] at ih; simp at ih
      · rename_i p ps e; rw [e] at ih; simpa using ih

theorem sCount_any (s : List UInt8) (w : World) : Calls Tryz.prog 168 #[sv s, .string ⟨#[47]⟩] w fun e w' => e = .returned (.int .i64 (s.count 47 : Int)) ∧ w' = w := by
  unfold sv
  have hrun : (Extern.BytealgCount.count #[.string (str s), .int .u8 47]).run Tryz.prog w = .ok (.int .i64 (s.count 47 : Int)) w := Lib.run_countString (str s) 47 w
  have h47 : ((⟨#[47]⟩ : ByteArray)[0]'(by decide)).toNat = 47 := rfl
  go_enter Tryz.func168, Tryz.ntmps168
  go_wp2_with fail
  rw [run_callFunc_extern Tryz.func172 (by kernel_rfl) (by kernel_rfl) (by kernel_rfl) (e := Extern.BytealgCount.count) (by kernel_rfl), hrun]
  simp only [Result.andThen]
  rw [Oper.upon_value]
  go_wp2_with fail
  go_ret
  exact ⟨rfl, rfl⟩
theorem slIndexByte_any (s : List UInt8) (w : World) : Calls Tryz.prog 175 #[sv s, .int .u8 47] w fun e w' => e = .returned (.int .i64 (Lib.indexByte s 47)) ∧ w' = w := by
  unfold sv
  have hrun : (Extern.BytealgIndexByte.indexByte #[.string (str s), .int .u8 47]).run Tryz.prog w = .ok (.int .i64 (Lib.indexByte s 47)) w := Lib.run_indexByteString (str s) 47 w
  go_enter Tryz.func175, Tryz.ntmps175
  go_wp2_with fail
  rw [run_callFunc_extern Tryz.func179 (by kernel_rfl) (by kernel_rfl) (by kernel_rfl) (e := Extern.BytealgIndexByte.indexByte) (by kernel_rfl), hrun]
  simp only [Result.andThen]
  rw [Oper.upon_value]
  go_wp2_with fail
  go_ret
  exact ⟨rfl, rfl⟩
theorem slIndex_any (s : List UInt8) (w : World) : Calls Tryz.prog 173 #[sv s, .string ⟨#[47]⟩] w fun e w' => e = .returned (.int .i64 (Lib.indexByte s 47)) ∧ w' = w := by
  have h := slIndexByte_any s w
  unfold sv at h ⊢
  have h47 : ((⟨#[47]⟩ : ByteArray)[0]'(by decide)).toNat = 47 := rfl
  by_cases hs : s = [47]
  · subst hs
    clear h
    go_enter Tryz.func173, Tryz.ntmps173
    go_wp2_with fail
    go_ret
    exact ⟨rfl, rfl⟩
  · have hb : ([47] == s) = false := by
      cases e : ([47] == s)
      · rfl
      · exact absurd (eq_of_beq e).symm hs
    clear hs
    go_enter Tryz.func173, Tryz.ntmps173
    go_wp2_with fail
    refine h.mono ?_
    rintro e w' ⟨rfl, rfl⟩
    go_wp2_with fail
    go_ret
    exact ⟨rfl, rfl⟩
theorem sIndex_any (s : List UInt8) (w : World) : Calls Tryz.prog 169 #[sv s, .string ⟨#[47]⟩] w fun e w' => e = .returned (.int .i64 (Lib.indexByte s 47)) ∧ w' = w := by
  have h := slIndex_any s w
  unfold sv at h ⊢
  go_enter Tryz.func169, Tryz.ntmps169
  go_wp2_with fail
  refine h.mono ?_
  rintro e w' ⟨rfl, rfl⟩
  go_wp2_with fail
  go_ret
  exact ⟨rfl, rfl⟩
end Go.Proofs.YtccejkikphpnfaaGreatDoor
