
/- The reference's Parts. -/
import Derived.Test.YtccejkikphpnfaaGreatDoorPath4
namespace Go.Proofs.YtccejkikphpnfaaGreatDoor
set_option linter.unusedSimpArgs false
set_option linter.unusedVariables false
set_option maxRecDepth 100000
open Go.ChangeShapes Go.WideShapes Go.ChangeAt Go.RowKit

def glue (cur : List UInt8) : List (List UInt8) → List (List UInt8)
  | [] => [cur]
  | p :: ps => (cur ++ p) :: ps
theorem glue_nil (s : List UInt8) : glue [] (partsL s) = partsL s := by
  have := partsL_ne s
  cases h : partsL s with
  | nil => exact absurd h this
  | cons p ps => rfl
theorem glue_hit (cur t : List UInt8) : glue cur (partsL (47 :: t)) = cur :: glue [] (partsL t) := by
  rw [glue_nil, partsL, if_pos (by decide)]
  simp [glue]
theorem glue_miss (cur t : List UInt8) (b : UInt8) (h : b ≠ 47) : glue cur (partsL (b :: t)) = glue (cur ++ [b]) (partsL t) := by
  rw [partsL, if_neg (by simpa using h)]
  cases e : partsL t with
  | nil => exact absurd e (partsL_ne t)
  | cons p ps => simp [glue]
theorem str_mid (l : List UInt8) (f i : Nat) (h1 : f ≤ i) (h2 : i ≤ l.length) (w : World) : (Instr.slice 9 (.string (str l)) (some (.int .i64 (f : Int))) (some (.int .i64 (i : Int))) none).run Tryz.prog w = .ok (.string (str ((l.drop f).take (i - f)))) w := by
  rw [run_slice_string _ _ _ _ _ _ _ Tryz.underlying9 (by omega) (by omega) (by rw [str_size]; omega)]
  congr 2
  apply ByteArray.ext
  simp [str, ByteArray.data_extract, List.drop_take]
theorem str_at (l : List UInt8) (j : Nat) (h : j < l.length) (w : World) : (Instr.index 9 (.string (str l)) (.int .i64 (j : Int))).run Tryz.prog w = .ok (.int .u8 (l[j].toNat : Int)) w := by
  rw [run_index_string _ _ _ _ _ Tryz.underlying9]
  rw [dif_pos ⟨by omega, by rw [str_size]; omega⟩]
  simp [str]
  rfl
theorem info_parts2 {i : Option TypeInfo} {z : Value} {s b : Nat} (h : i.map (fun i => (i.zero, i.size, i.bytes)) = some (some z, s, b)) : ∃ i0, i = some i0 ∧ i0.zero = some z ∧ i0.size = s ∧ i0.bytes = b := by
  cases i with
  | none => cases h
  | some i0 => simp at h; exact ⟨i0, rfl, h.1, h.2.1, h.2.2⟩

set_option maxHeartbeats 4000000 in
theorem r11Parts_any (s : List UInt8) (w : World) (hs : s.length ≤ 1000000) : Calls Tryz.prog 157 #[sv s] w (Split w s) := by
  obtain ⟨i0, hi, hz0, hz1, hz2⟩ := info_parts infoStr
  have HIU := Lib.hid (And.intro hi (And.intro hz0 (And.intro hz1 hz2)))
  clear hi hz0 hz1 hz2
  obtain ⟨B, hB⟩ : ∃ B, w.heap.size = B := ⟨_, rfl⟩
  have HB := Lib.hid hB
  clear hB
  have hsz := str_size s
  unfold sv
  go_enter Tryz.func157, Tryz.ntmps157
  go_wp2_with fail
  go_loopw [3, 4, 5] (fun v f i wr => ∃ (n m : Nat) (D : List (List UInt8)) (ar : Option Addr) (cr : Nat), n ≤ m ∧ m ≤ s.length ∧ D.length ≤ m ∧ v = .slice ar D.length cr ∧ f = .int .i64 (n : Int) ∧ i = .int .i64 (m : Int) ∧ Hid (partsL s = D ++ glue ((s.drop n).take (m - n)) (partsL (s.drop m))) ∧ wr.ownsRow 0 9 1 (.slice ar D.length cr) D.length (D.map sv) ∧ Hid (∀ g, blk ar = some g → B ≤ g) ∧ Upd (fun i => B ≤ i) w wr) (fun _ _ i _ => s.length - (intOf i).toNat)
  case atStart => exact ⟨0, 0, [], none, 0, Nat.le_refl _, Nat.zero_le _, Nat.zero_le _, rfl, rfl, rfl, (by show _ = _; simp [glue_nil]), World.ownsRow_nil _ _ _ _, Lib.hid (fun g h => by cases h), Upd.refl _ _⟩
  case round =>
    obtain ⟨n, m, D, ar, cr, hnm, hm, hDm, rfl, rfl, rfl, hP, hO, HG, hU⟩ := hrel
    have hzB := hU.size
    have hOa := hO.alloc
    by_cases hlt : m < s.length
    · have hI : (m : Int) < (s.length : Int) := by omega
      have hix := fun w => str_at s m hlt w
      have hd := List.drop_eq_getElem_cons hlt
      have hP' := hP.out
      rw [hd] at hP'
      have htk : (s.drop n).take (m + 1 - n) = (s.drop n).take (m - n) ++ [s[m]] := by
        rw [show m + 1 - n = (m - n) + 1 from by omega, List.take_succ_eq_append_getElem (by simp; omega)]
        congr 1
        simp [show n + (m - n) = m from by omega]
      have hmid := fun w => str_mid s n m hnm hm w
      generalize s[m] = b at *
      have hbl := b.toNat_lt
      by_cases h47 : b = 47
      · subst h47
        rw [glue_hit] at hP'
        have hnew : Hid (partsL s = (D ++ [(s.drop n).take (m - n)]) ++ glue ((s.drop (m + 1)).take (m + 1 - (m + 1))) (partsL (s.drop (m + 1)))) := by
          show _ = _
          rw [hP']; simp
        generalize (s.drop n).take (m - n) = x at *
        have hown := hO.alloc (Obj.cells #[sv x] 9)
        have hrow : (wr.alloc (Obj.cells #[sv x] 9)).heap[wr.heap.size]? = _ := heap_alloc_new wr _
        have hsr : Src Tryz.prog 1 186 (.slice (some ⟨wr.heap.size, 0, none⟩) 1 1) 1 [sv x] (wr.alloc (Obj.cells #[sv x] 9)) :=
          Src.ofSlice _ Tryz.underlying186 _ 1 1 _ rfl (World.news_of_block hrow) (fun u hu => by simp at hu; subst hu; rfl)
        have hUa := hU.trans (Upd.alloc (fun i => B ≤ i) wr (Obj.cells #[sv x] 9))
        have HS := Lib.hid hUa
        rw [show sv x = Value.string (str x) from rfl] at hown hsr
        clear hOa hd hP' htk hP hrow hUa
        go_wp2_with (at_builtin; refine wpList_app _ rfl (.tmp 16) (.tmp 21) 186 186 rfl 9 i0 (.string ByteArray.empty) 1 16 Tryz.underlying186 HIU.out.1 HIU.out.2.1 HIU.out.2.2.1 HIU.out.2.2.2 rfl ar D.length cr (D.map sv) rfl hown (.slice (some ⟨wr.heap.size, 0, none⟩) 1 1) 1 _ rfl hsr ?_ ?_ ?_)
        · unfold maxLen; omega
        · omega
        intro a6 c6 w6 hown6 hg6 hat6 hnil6
        have hU6 : Upd (fun i => B ≤ i) w w6 := HS.out.trans (Upd.grown hg6 (fun k hk => HG.out k hk))
        have hG6 : Hid (∀ g, blk a6 = some g → B ≤ g) := Lib.hid (fun g hg => by
          rcases hat6 with h | h
          · exact HG.out g (h ▸ hg)
          · rw [h] at hg; cases hg; have := HB.out; simp; omega)
        have hO6 : w6.ownsRow 0 9 1 (.slice a6 (D ++ [x]).length c6) (D ++ [x]).length ((D ++ [x]).map sv) := by
          simpa [sv] using hown6
        have HO6 := Lib.hid hO6
        have HU6 := Lib.hid hU6
        clear hown6 hg6 hat6 hnil6 hO hown hsr hO6 hU6
        go_wp2_with fail
        go_roundw
        case rel => exact ⟨m + 1, m + 1, D ++ [x], a6, c6, Nat.le_refl _, by omega, by simp; omega, by simp, by first | rfl | go_num, by first | rfl | go_num, hnew, HO6.out, hG6, HU6.out⟩
        case measure => simp [intOf]; omega
      · have hb47 : ((b.toNat : Int) == 47) = false := by
          rw [beq_eq_false_iff_ne]; intro h; exact h47 (UInt8.toNat_inj.1 (by show b.toNat = 47; omega))
        rw [glue_miss _ _ _ h47, ← htk] at hP'
        have hnew : Hid (partsL s = D ++ glue ((s.drop n).take (m + 1 - n)) (partsL (s.drop (m + 1)))) := hP'
        clear hOa hd hP' htk hP h47 hmid
        go_wp2_with fail
        go_roundw
        case rel => exact ⟨n, m + 1, D, ar, cr, by omega, by omega, by omega, rfl, rfl, by first | rfl | go_num, hnew, hO, HG, hU⟩
        case measure => simp [intOf]; omega
    · obtain rfl : m = s.length := by omega
      have hdr := fun w => str_drop s n (by omega) w
      have hP' := hP.out
      rw [List.drop_length] at hP'
      have e1 : (s.drop n).take (s.length - n) = s.drop n := List.take_of_length_le (by simp)
      have hnew : partsL s = D ++ [s.drop n] := by rw [hP', e1]; simp [partsL, glue]
      generalize s.drop n = x at *
      have hown := hO.alloc (Obj.cells #[sv x] 9)
      have hrow : (wr.alloc (Obj.cells #[sv x] 9)).heap[wr.heap.size]? = _ := heap_alloc_new wr _
      have hsr : Src Tryz.prog 1 186 (.slice (some ⟨wr.heap.size, 0, none⟩) 1 1) 1 [sv x] (wr.alloc (Obj.cells #[sv x] 9)) :=
        Src.ofSlice _ Tryz.underlying186 _ 1 1 _ rfl (World.news_of_block hrow) (fun u hu => by simp at hu; subst hu; rfl)
      have hUa := hU.trans (Upd.alloc (fun i => B ≤ i) wr (Obj.cells #[sv x] 9))
      have HS := Lib.hid hUa
      have HN := Lib.hid hnew
      rw [show sv x = Value.string (str x) from rfl] at hown hsr
      clear hOa hP' hP hrow hUa e1 hnew
      go_wp2_with (at_builtin; refine wpList_app _ rfl (.tmp 25) (.tmp 29) 186 186 rfl 9 i0 (.string ByteArray.empty) 1 16 Tryz.underlying186 HIU.out.1 HIU.out.2.1 HIU.out.2.2.1 HIU.out.2.2.2 rfl ar D.length cr (D.map sv) rfl hown (.slice (some ⟨wr.heap.size, 0, none⟩) 1 1) 1 _ rfl hsr ?_ ?_ ?_)
      · unfold maxLen; omega
      · omega
      intro a6 c6 w6 hown6 hg6 hat6 hnil6
      have hU6 : Upd (fun i => B ≤ i) w w6 := HS.out.trans (Upd.grown hg6 (fun k hk => HG.out k hk))
      have hO6 : w6.ownsRow 0 9 1 (.slice a6 (D ++ [x]).length c6) (D ++ [x]).length ((D ++ [x]).map sv) := by
        simpa [sv] using hown6
      have hg' : ∃ g, a6 = some ⟨g, 0, none⟩ ∧ B ≤ g := by
        rcases hO6.2 with ⟨_, h0⟩ | ⟨g, cap, cur, hv, hbg, hg, _⟩
        · simp at h0
        · simp only [Value.slice.injEq] at hv
          refine ⟨g, hv.1, ?_⟩
          rcases hat6 with h | h
          · exact HG.out g (by rw [← h, hv.1]; rfl)
          · rw [hv.1] at h
            simp [blk] at h
            have := HB.out
            omega
      obtain ⟨g, rfl, hgB⟩ := hg'
      have HO6 := Lib.hid hO6
      have HU6 := Lib.hid hU6
      clear hown6 hg6 hat6 hnil6 hO hown hsr hO6 hU6
      go_wp2_with fail
      go_ret
      have hN := HN.out
      refine ⟨g, c6, ?_, ?_, HU6.out.mono (fun i hi h => by have := HB.out; omega), by have := HB.out; omega⟩
      · rw [hN]; simp
      · rw [hN]; exact Vw.of_own HO6.out
end Go.Proofs.YtccejkikphpnfaaGreatDoor
