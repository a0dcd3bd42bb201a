
/- path.Clash, and the reference's. -/
import Derived.Test.YtccejkikphpnfaaGreatDoorQ10
namespace Go.Proofs.YtccejkikphpnfaaGreatDoor
set_option linter.unusedSimpArgs false
set_option linter.unusedVariables false
set_option maxRecDepth 100000
open Go.ChangeShapes Go.WideShapes Go.ChangeAt Go.RowKit
section
open Go.Maps
/-- From here on, with this behind: does one of the set stand on the way? -/
def wiR (S : List (List UInt8)) : List UInt8 → List (List UInt8) → Bool
 | _, [] => false
 | q, s :: r => S.contains q || wiR S (q ++ 47 :: s) r
def waySet (S : List (List UInt8)) (p : List UInt8) : Bool := match partsL p with
 | [] => false
 | s :: r => wiR S s r
def sumP (l : List (List UInt8)) : Nat := (l.map fun s => s.length + 1).sum
theorem sumP_cons (x : List UInt8) (l : List (List UInt8)) : sumP (x :: l) = x.length + 1 + sumP l := by simp [sumP]
theorem partsL_sum (p : List UInt8) : sumP (partsL p) = p.length + 1 := by
 induction p with
 | nil => rfl
 | cons b s ih =>
  unfold partsL
  split
  ·rw [sumP_cons, ih]; simp; omega
  ·have hne := partsL_ne s
   cases h : partsL s with
   | nil => exact absurd h hne
   | cons x xs =>
    rw [h, sumP_cons] at ih
    dsimp only
    rw [sumP_cons]
    simp only [List.length_cons]
    omega
theorem str_app (a b : List UInt8) : str a ++ str b = str (a ++ b) := by
 apply ByteArray.ext
 simp [str]
set_option maxHeartbeats 4000000 in
theorem twithin_any (b : Nat) (S : List (List UInt8)) (p : List UInt8) (w : World) (hS : SetM w b S) (hq : ∀ q ∈ S, q.length ≤ maxLen) (hp : p.length ≤ 1000000) :
  Calls Tryz.prog 125 #[.map (some b), sv p] w fun e w' => e = .returned (.bool (waySet S p)) ∧ Upd (fun _ => False) w w' := by
 have hsp := split_any p w hp
 have hsum := partsL_sum p
 have hD : waySet S p = match partsL p with
  | [] => false
  | s :: r => wiR S s r := rfl
 generalize waySet S p = R at *
 have hne := partsL_ne p
 unfold Split at hsp
 have HS := Lib.hid hS
 have hblt := hS.lt
 unfold sv at hsp ⊢
 clear hS
 go_enter Tryz.func125, Tryz.ntmps125
 go_wp2_with fail
 refine hsp.mono ?_
 rintro e w1 ⟨g, c, rfl, hv, hU, hg⟩
 generalize partsL p = ps at *
 obtain ⟨s0, rest, rfl⟩ : ∃ s0 rest, ps = s0 :: rest := by
  cases ps with
  | nil => exact absurd rfl hne
  | cons x xs => exact ⟨x, xs, rfl⟩
 dsimp only at hD
 have HV := Lib.hid (And.intro hv hU)
 have HD := Lib.hid hD
 have hcap := hv.cap
 have hlc := hv.le
 unfold maxLen at hcap
 clear hsp hv hU hD hne
 go_wp2_with fail
 go_loopw [5, 11] (fun q i wr => ∃ (j : Nat) (at' : List UInt8), j ≤ (s0 :: rest).length ∧ i = .int .i64 (j : Int) ∧ q = .string (str at') ∧ Hid (Upd (fun _ => False) w1 wr) ∧
   Hid ((j = 0 ∧ at' = []) ∨ (1 ≤ j ∧ R = wiR S at' (rest.drop (j - 1)) ∧ at'.length + sumP (rest.drop (j - 1)) ≤ p.length))) (fun _ i _ => (s0 :: rest).length - (intOf i).toNat)
 case atStart => exact ⟨0, [], Nat.zero_le _, rfl, rfl, Lib.hid (Upd.refl _ _), Lib.hid (.inl ⟨rfl, rfl⟩)⟩
 case round =>
  obtain ⟨j, at', hj, rfl, rfl, HU, HI⟩ := hrel
  by_cases hlt : j < (s0 :: rest).length
  ·have hI : (j : Int) < ((s0 :: rest).length : Int) := by omega
   have hcell : wr.cell? ⟨g, j, none⟩ = some (.string (str (s0 :: rest)[j])) := by
    have := (HV.out.1.upd HU.out (fun _ _ h => h)).cell ⟨g, 0, none⟩ rfl j (sv (s0 :: rest)[j]) (by rw [List.getElem?_map, List.getElem?_eq_getElem hlt]; rfl)
    have ha : (Addr.add ⟨g, 0, none⟩ j) = ⟨g, j, none⟩ := by unfold Addr.add; split <;> simp_all
    rw [ha] at this
    exact this
   have hcapj : (j : Int) < (c : Int) := by omega
   rcases HI.out with ⟨rfl, rfl⟩ | ⟨h1, hR, hsz⟩
   ·have hsz2 : ¬ 9223372036854775807 < (str ([] : List UInt8)).size + (str s0).size := by
     rw [str_size, str_size]; rw [sumP_cons] at hsum; simp; omega
    have hadd := str_app [] s0
    rw [List.nil_append] at hadd
    have e0 : (s0 :: rest)[0] = s0 := rfl
    rw [e0] at hcell
    have hsm : s0.length + sumP rest ≤ p.length := by rw [sumP_cons] at hsum; omega
    rw [show str [] = (⟨#[]⟩ : ByteArray) from rfl] at hadd hsz2
    go_wp2_with fail
    refine ⟨⟨1, s0, by simp, rfl, by rw [show str [] = (⟨#[]⟩ : ByteArray) from rfl, hadd], HU, Lib.hid (.inr ⟨Nat.le_refl _, HD.out, by simpa using hsm⟩)⟩, ?_⟩
    simp [intOf]
   ·have hj1 : j - 1 < rest.length := by simp only [List.length_cons] at hlt; omega
    have ex : (s0 :: rest)[j] = rest[j - 1] := by
     rw [List.getElem_cons]
     rw [dif_neg (by omega)]
    rw [ex] at hcell
    have hdr : rest.drop (j - 1) = rest[j - 1] :: rest.drop j := by
     rw [List.drop_eq_getElem_cons hj1, show j - 1 + 1 = j from by omega]
    rw [hdr] at hR hsz
    rw [sumP_cons] at hsz
    generalize rest[j - 1] = x at *
    have hal : at'.length ≤ 1000000 := by omega
    have hI1 : (0 : Int) < (j : Int) := by omega
    have hI2 : 0 < j := by omega
    have hI3 : (j : Int) < (rest.length : Int) + 1 := by simp only [List.length_cons] at hlt; omega
    have hlook := (HS.out.upd (HV.out.2.trans HU.out) (fun h => h)).look hq at' (by unfold maxLen; omega)
    have hRR : R = (S.contains at' || wiR S (at' ++ 47 :: x) (rest.drop j)) := hR
    unfold tkV at hlook
    generalize S.contains at' = bb at *
    have HRR := Lib.hid hRR
    have HSZ := Lib.hid hsz
    clear hR hRR hdr ex HI
    cases bb with
    | true =>
     have HR2 : Hid (R = true) := Lib.hid (by rw [HRR.out]; rfl)
     go_wp2_with fail
     go_ret
     exact ⟨by rw [HR2.out]; rfl, HV.out.2.trans HU.out⟩
    | false =>
     have HR2 : Hid (R = wiR S (at' ++ 47 :: x) (rest.drop j)) := Lib.hid (by rw [HRR.out]; rfl)
     have hz1 : ¬ 9223372036854775807 < (str at').size + 1 := by rw [str_size]; omega
     have ha1 := str_app at' [47]
     have ha2 := str_app (at' ++ [47]) x
     have hz2 : ¬ 9223372036854775807 < (str (at' ++ [47])).size + (str x).size := by rw [str_size, str_size]; simp; omega
     rw [show str [47] = (⟨#[47]⟩ : ByteArray) from rfl] at ha1
     rw [show at' ++ [47] ++ x = at' ++ 47 :: x from by simp] at ha2
     go_wp2_with fail
     refine ⟨⟨j + 1, at' ++ 47 :: x, by simp only [List.length_cons]; omega, by simp, rfl, HU, Lib.hid (.inr ⟨by omega, by rw [Nat.add_sub_cancel]; exact HR2.out, ?_⟩)⟩, ?_⟩
     ·rw [Nat.add_sub_cancel]
      have := HSZ.out
      simp only [List.length_append, List.length_cons]
      omega
     ·simp [intOf]; omega
  ·have hj2 : j = rest.length + 1 := by simp only [List.length_cons] at hj hlt; omega
   have hR : R = false := by
    rcases HI.out with ⟨h, _⟩ | ⟨h1, hR, _⟩
    ·omega
    ·rw [hR, List.drop_of_length_le (by omega)]; rfl
   have HR := Lib.hid hR
   have hI : ¬ (j : Int) < ((s0 :: rest).length : Int) := by omega
   have hI3 : ¬ (j : Int) < (rest.length : Int) + 1 := by omega
   clear hR HI hlt hj hj2
   go_wp2_with fail
   go_ret
   exact ⟨by rw [HR.out]; rfl, HV.out.2.trans HU.out⟩
end
def pathL (s : List UInt8) : Bool := decide (1 ≤ s.length) && decide (s.length ≤ 100) && !s.any badB && !(partsL s).any badP
/-- '[]byte(s)'. -/
theorem conv_view (l : List UInt8) (w : World) (hl : l.length ≤ 1000000) : ∃ C w', (convert 9 33 (.string (str l))).run Tryz.prog w = .ok (.slice (some ⟨w.heap.size, 0, none⟩) l.length C) w' ∧
  Vw w' (some ⟨w.heap.size, 0, none⟩) l.length C 1 (bvs l) ∧ Upd (fun _ => False) w w' := by
 have h := run_bytes_of_string (P := Tryz.prog) w 9 33 5 (str l) Tryz.underlying9 Tryz.underlying33 Tryz.underlying5
 rw [str_size] at h
 have hge := grownCap_ge w l.length 0 5
 have hm := grownCap_le_maxLen w l.length 0 5 (by unfold maxLen; omega)
 generalize grownCap w l.length 0 5 = C at *
 have hrow : bytesRow (str l) C = (bvs l ++ List.replicate (C - l.length) (Value.int .u8 0)).toArray := by
  unfold bytesRow
  rw [str_size]
  apply Array.ext'
  simp [str, bvs]
  exact fun _ _ => rfl
 rw [hrow] at h
 refine ⟨C, _, h, ⟨by simp [bvs], hge, hm, (fun h => by cases h), fun y hy j u hu => ?_⟩, (Upd.drew _ _).trans (Upd.alloc _ _ _)⟩
 cases hy
 have ha : (Addr.add ⟨w.heap.size, 0, none⟩ j) = ⟨w.heap.size, j, none⟩ := by unfold Addr.add; split <;> simp_all
 have hn : (w.drew.alloc (.cells (bvs l ++ List.replicate (C - l.length) (Value.int .u8 0)).toArray 5 ((bvs l ++ List.replicate (C - l.length) (Value.int .u8 0)).toArray.size, (bvs l ++ List.replicate (C - l.length) (Value.int .u8 0)).toArray.size + 1))).heap[w.heap.size]? = _ := heap_alloc_new w.drew _
 rw [ha, cell_of_row _ _ _ _ _ _ hn]
 have hj : j < (bvs l).length := (List.getElem?_eq_some_iff.1 hu).1
 rw [List.getElem?_toArray, List.getElem?_append_left hj, hu]
set_option maxHeartbeats 2000000 in
theorem pRight_any (s : List UInt8) (w : World) : Calls Tryz.prog 124 #[sv s] w fun e w' => e = .returned (.bool (pathL s)) ∧ Upd (fun _ => False) w w' := by
 have hsz := str_size s
 by_cases h0 : s.length = 0
 ·have hb : pathL s = false := by unfold pathL; rw [decide_eq_false (show ¬ 1 ≤ s.length by omega)]; rfl
  have HB := Lib.hid hb
  have hi : ((s.length : Int) == 0) = true := by rw [h0]; rfl
  unfold sv
  clear hb h0
  go_enter Tryz.func124, Tryz.ntmps124
  go_wp2_with fail
  go_ret
  exact ⟨by rw [HB.out]; rfl, Upd.refl _ _⟩
 have hi0 : ((s.length : Int) == 0) = false := by rw [beq_eq_false_iff_ne]; omega
 by_cases h100 : 100 < s.length
 ·have hb : pathL s = false := by unfold pathL; rw [decide_eq_false (show ¬ s.length ≤ 100 by omega)]; simp
  have HB := Lib.hid hb
  have hi : (100 : Int) < (s.length : Int) := by omega
  unfold sv
  clear hb h0
  go_enter Tryz.func124, Tryz.ntmps124
  go_wp2_with fail
  go_ret
  exact ⟨by rw [HB.out]; rfl, Upd.refl _ _⟩
 have hi100 : decide ((100 : Int) < (s.length : Int)) = false := by rw [decide_eq_false_iff_not]; omega
 have hpl : pathL s = (!s.any badB && !(partsL s).any badP) := by
  unfold pathL; rw [decide_eq_true (show 1 ≤ s.length by omega), decide_eq_true (show s.length ≤ 100 by omega)]; rfl
 obtain ⟨C, w1, hcv, hv1, hU1⟩ := conv_view s w (by omega)
 have hcf := cfB_pRight1 _ _ s w1 hv1
 have hsp := split_any s w1 (by omega)
 unfold sv at hsp
 have HPL := Lib.hid hpl
 clear hpl h0 h100 hv1
 unfold sv
 cases hany : s.any badB with
 | true =>
  rw [hany] at hcf
  have HA := Lib.hid hany
  clear hany hsp
  go_enter Tryz.func124, Tryz.ntmps124
  go_wp2_with fail
  refine hcf.mono ?_
  rintro e w2 ⟨rfl, rfl⟩
  go_wp2_with fail
  go_ret
  exact ⟨by rw [HPL.out, HA.out]; rfl, hU1⟩
 | false =>
  rw [hany] at hcf
  have HA := Lib.hid hany
  clear hany
  go_enter Tryz.func124, Tryz.ntmps124
  go_wp2_with fail
  refine hcf.mono ?_
  rintro e w2 ⟨rfl, rfl⟩
  clear hcf hcv
  go_wp2_with fail
  refine hsp.mono ?_
  rintro e w3 ⟨g, c, rfl, hv3, hU3, hg⟩
  have hcs := cfS_pRight2 _ _ (partsL s) w3 hv3
  clear hsp hv3
  obtain ⟨bad, hbad⟩ : ∃ b, (partsL s).any badP = b := ⟨_, rfl⟩
  rw [hbad] at hcs
  have HBD := Lib.hid hbad
  clear hbad
  go_wp2_with fail
  refine hcs.mono ?_
  rintro e w4 ⟨rfl, rfl⟩
  go_wp2_with fail
  go_ret
  exact ⟨by rw [HPL.out, HA.out, HBD.out]; rfl, hU1.trans hU3⟩
def glue (cur : List UInt8) : List (List UInt8) → List (List UInt8)
 | [] => [cur]
 | p :: ps => (cur ++ p) :: ps
theorem glue_nil (s : List UInt8) : glue [] (partsL s) = partsL s := by
 have := partsL_ne s
 cases h : partsL s with
 | nil => exact absurd h this
 | cons p ps => rfl
theorem glue_hit (cur t : List UInt8) : glue cur (partsL (47 :: t)) = cur :: glue [] (partsL t) := by
 rw [glue_nil, partsL, if_pos (by decide)]
 simp [glue]
theorem glue_miss (cur t : List UInt8) (b : UInt8) (h : b ≠ 47) : glue cur (partsL (b :: t)) = glue (cur ++ [b]) (partsL t) := by
 rw [partsL, if_neg (by simpa using h)]
 cases e : partsL t with
 | nil => exact absurd e (partsL_ne t)
 | cons p ps => simp [glue]
theorem str_mid (l : List UInt8) (f i : Nat) (h1 : f ≤ i) (h2 : i ≤ l.length) (w : World) : (Instr.slice 9 (.string (str l)) (some (.int .i64 (f : Int))) (some (.int .i64 (i : Int))) none).run Tryz.prog w = .ok (.string (str ((l.drop f).take (i - f)))) w := by
 rw [run_slice_string _ _ _ _ _ _ _ Tryz.underlying9 (by omega) (by omega) (by rw [str_size]; omega)]
 congr 2
 apply ByteArray.ext
 simp [str, ByteArray.data_extract, List.drop_take]
theorem str_at (l : List UInt8) (j : Nat) (h : j < l.length) (w : World) : (Instr.index 9 (.string (str l)) (.int .i64 (j : Int))).run Tryz.prog w = .ok (.int .u8 (l[j].toNat : Int)) w := by
 rw [run_index_string _ _ _ _ _ Tryz.underlying9]
 rw [dif_pos ⟨by omega, by rw [str_size]; omega⟩]
 simp [str]
 rfl
set_option maxHeartbeats 4000000 in
theorem r11Parts_any (s : List UInt8) (w : World) (hs : s.length ≤ 1000000) : Calls Tryz.prog 157 #[sv s] w (Split w s) := by
 obtain ⟨i0, hi, hz0, hz1, hz2⟩ := info_parts infoStr
 have HIU := Lib.hid (And.intro hi (And.intro hz0 (And.intro hz1 hz2)))
 clear hi hz0 hz1 hz2
 obtain ⟨B, hB⟩ : ∃ B, w.heap.size = B := ⟨_, rfl⟩
 have HB := Lib.hid hB
 clear hB
 have hsz := str_size s
 unfold sv
 go_enter Tryz.func157, Tryz.ntmps157
 go_wp2_with fail
 go_loopw [3, 4, 5] (fun v f i wr => ∃ (n m : Nat) (D : List (List UInt8)) (ar : Option Addr) (cr : Nat), n ≤ m ∧ m ≤ s.length ∧ D.length ≤ m ∧ v = .slice ar D.length cr ∧ f = .int .i64 (n : Int) ∧ i = .int .i64 (m : Int) ∧ Hid (partsL s = D ++ glue ((s.drop n).take (m - n)) (partsL (s.drop m))) ∧ wr.ownsRow 0 9 1 (.slice ar D.length cr) D.length (D.map sv) ∧ Hid (∀ g, blk ar = some g → B ≤ g) ∧ Upd (fun i => B ≤ i) w wr) (fun _ _ i _ => s.length - (intOf i).toNat)
 case atStart => exact ⟨0, 0, [], none, 0, Nat.le_refl _, Nat.zero_le _, Nat.zero_le _, rfl, rfl, rfl, (by show _ = _; simp [glue_nil]), World.ownsRow_nil _ _ _ _, Lib.hid (fun g h => by cases h), Upd.refl _ _⟩
 case round =>
  obtain ⟨n, m, D, ar, cr, hnm, hm, hDm, rfl, rfl, rfl, hP, hO, HG, hU⟩ := hrel
  have hzB := hU.size
  have hOa := hO.alloc
  by_cases hlt : m < s.length
  ·have hI : (m : Int) < (s.length : Int) := by omega
   have hix := fun w => str_at s m hlt w
   have hd := List.drop_eq_getElem_cons hlt
   have hP' := hP.out
   rw [hd] at hP'
   have htk : (s.drop n).take (m + 1 - n) = (s.drop n).take (m - n) ++ [s[m]] := by
    rw [show m + 1 - n = (m - n) + 1 from by omega, List.take_succ_eq_append_getElem (by simp; omega)]
    congr 1
    simp [show n + (m - n) = m from by omega]
   have hmid := fun w => str_mid s n m hnm hm w
   generalize s[m] = b at *
   have hbl := b.toNat_lt
   by_cases h47 : b = 47
   ·subst h47
    rw [glue_hit] at hP'
    have hnew : Hid (partsL s = (D ++ [(s.drop n).take (m - n)]) ++ glue ((s.drop (m + 1)).take (m + 1 - (m + 1))) (partsL (s.drop (m + 1)))) := by
     show _ = _
     rw [hP']; simp
    generalize (s.drop n).take (m - n) = x at *
    have hown := hO.alloc (Obj.cells #[sv x] 9)
    have hrow : (wr.alloc (Obj.cells #[sv x] 9)).heap[wr.heap.size]? = _ := heap_alloc_new wr _
    have hsr : Src Tryz.prog 1 186 (.slice (some ⟨wr.heap.size, 0, none⟩) 1 1) 1 [sv x] (wr.alloc (Obj.cells #[sv x] 9)) :=
     Src.ofSlice _ Tryz.underlying186 _ 1 1 _ rfl (World.news_of_block hrow) (fun u hu => by simp at hu; subst hu; rfl)
    have hUa := hU.trans (Upd.alloc (fun i => B ≤ i) wr (Obj.cells #[sv x] 9))
    have HS := Lib.hid hUa
    rw [show sv x = Value.string (str x) from rfl] at hown hsr
    clear hOa hd hP' htk hP hrow hUa
    go_wp2_with (at_builtin; refine wpList_app _ rfl (.tmp 16) (.tmp 21) 186 186 rfl 9 i0 (.string ByteArray.empty) 1 16 Tryz.underlying186 HIU.out.1 HIU.out.2.1 HIU.out.2.2.1 HIU.out.2.2.2 rfl ar D.length cr (D.map sv) rfl hown (.slice (some ⟨wr.heap.size, 0, none⟩) 1 1) 1 _ rfl hsr ?_ ?_ ?_)
    ·unfold maxLen; omega
    ·omega
    intro a6 c6 w6 hown6 hg6 hat6 hnil6
    have hU6 : Upd (fun i => B ≤ i) w w6 := HS.out.trans (Upd.grown hg6 (fun k hk => HG.out k hk))
    have hG6 : Hid (∀ g, blk a6 = some g → B ≤ g) := Lib.hid (fun g hg => by
     rcases hat6 with h | h
     ·exact HG.out g (h ▸ hg)
     ·rw [h] at hg; cases hg; have := HB.out; simp; omega)
    have hO6 : w6.ownsRow 0 9 1 (.slice a6 (D ++ [x]).length c6) (D ++ [x]).length ((D ++ [x]).map sv) := by
     simpa [sv] using hown6
    have HO6 := Lib.hid hO6
    have HU6 := Lib.hid hU6
    clear hown6 hg6 hat6 hnil6 hO hown hsr hO6 hU6
    go_wp2_with fail
    go_roundw
    case rel => exact ⟨m + 1, m + 1, D ++ [x], a6, c6, Nat.le_refl _, by omega, by simp; omega, by simp, by first | rfl | go_num, by first | rfl | go_num, hnew, HO6.out, hG6, HU6.out⟩
    case measure => simp [intOf]; omega
   ·have hb47 : ((b.toNat : Int) == 47) = false := by
     rw [beq_eq_false_iff_ne]; intro h; exact h47 (UInt8.toNat_inj.1 (by show b.toNat = 47; omega))
    rw [glue_miss _ _ _ h47, ← htk] at hP'
    have hnew : Hid (partsL s = D ++ glue ((s.drop n).take (m + 1 - n)) (partsL (s.drop (m + 1)))) := hP'
    clear hOa hd hP' htk hP h47 hmid
    go_wp2_with fail
    go_roundw
    case rel => exact ⟨n, m + 1, D, ar, cr, by omega, by omega, by omega, rfl, rfl, by first | rfl | go_num, hnew, hO, HG, hU⟩
    case measure => simp [intOf]; omega
  ·obtain rfl : m = s.length := by omega
   have hdr := fun w => str_drop s n (by omega) w
   have hP' := hP.out
   rw [List.drop_length] at hP'
   have e1 : (s.drop n).take (s.length - n) = s.drop n := List.take_of_length_le (by simp)
   have hnew : partsL s = D ++ [s.drop n] := by rw [hP', e1]; simp [partsL, glue]
   generalize s.drop n = x at *
   have hown := hO.alloc (Obj.cells #[sv x] 9)
   have hrow : (wr.alloc (Obj.cells #[sv x] 9)).heap[wr.heap.size]? = _ := heap_alloc_new wr _
   have hsr : Src Tryz.prog 1 186 (.slice (some ⟨wr.heap.size, 0, none⟩) 1 1) 1 [sv x] (wr.alloc (Obj.cells #[sv x] 9)) :=
    Src.ofSlice _ Tryz.underlying186 _ 1 1 _ rfl (World.news_of_block hrow) (fun u hu => by simp at hu; subst hu; rfl)
   have hUa := hU.trans (Upd.alloc (fun i => B ≤ i) wr (Obj.cells #[sv x] 9))
   have HS := Lib.hid hUa
   have HN := Lib.hid hnew
   rw [show sv x = Value.string (str x) from rfl] at hown hsr
   clear hOa hP' hP hrow hUa e1 hnew
   go_wp2_with (at_builtin; refine wpList_app _ rfl (.tmp 25) (.tmp 29) 186 186 rfl 9 i0 (.string ByteArray.empty) 1 16 Tryz.underlying186 HIU.out.1 HIU.out.2.1 HIU.out.2.2.1 HIU.out.2.2.2 rfl ar D.length cr (D.map sv) rfl hown (.slice (some ⟨wr.heap.size, 0, none⟩) 1 1) 1 _ rfl hsr ?_ ?_ ?_)
   ·unfold maxLen; omega
   ·omega
   intro a6 c6 w6 hown6 hg6 hat6 hnil6
   have hU6 : Upd (fun i => B ≤ i) w w6 := HS.out.trans (Upd.grown hg6 (fun k hk => HG.out k hk))
   have hO6 : w6.ownsRow 0 9 1 (.slice a6 (D ++ [x]).length c6) (D ++ [x]).length ((D ++ [x]).map sv) := by
    simpa [sv] using hown6
   have hg' : ∃ g, a6 = some ⟨g, 0, none⟩ ∧ B ≤ g := by
    rcases hO6.2 with ⟨_, h0⟩ | ⟨g, cap, cur, hv, hbg, hg, _⟩
    ·simp at h0
    ·simp only [Value.slice.injEq] at hv
     refine ⟨g, hv.1, ?_⟩
     rcases hat6 with h | h
     ·exact HG.out g (by rw [← h, hv.1]; rfl)
     ·rw [hv.1] at h
      simp [blk] at h
      have := HB.out
      omega
   obtain ⟨g, rfl, hgB⟩ := hg'
   have HO6 := Lib.hid hO6
   have HU6 := Lib.hid hU6
   clear hown6 hg6 hat6 hnil6 hO hown hsr hO6 hU6
   go_wp2_with fail
   go_ret
   have hN := HN.out
   refine ⟨g, c6, ?_, ?_, HU6.out.mono (fun i hi h => by have := HB.out; omega), by have := HB.out; omega⟩
   ·rw [hN]; simp
   ·rw [hN]; exact Vw.of_own HO6.out
set_option maxHeartbeats 4000000 in
theorem r11Path_any (s : List UInt8) (w : World) : Calls Tryz.prog 127 #[sv s] w fun e w' => e = .returned (.bool (pathL s)) ∧ Upd (fun _ => False) w w' := by
 have hsz := str_size s
 by_cases h0 : s.length < 1
 ·have hb : pathL s = false := by unfold pathL; rw [decide_eq_false (show ¬ 1 ≤ s.length by omega)]; rfl
  have HB := Lib.hid hb
  have hi : (s.length : Int) < 1 := by omega
  unfold sv
  clear hb h0
  go_enter Tryz.func127, Tryz.ntmps127
  go_wp2_with fail
  go_ret
  exact ⟨by rw [HB.out]; rfl, Upd.refl _ _⟩
 have hi0 : decide ((s.length : Int) < 1) = false := by rw [decide_eq_false_iff_not]; omega
 by_cases h100 : 100 < s.length
 ·have hb : pathL s = false := by unfold pathL; rw [decide_eq_false (show ¬ s.length ≤ 100 by omega)]; simp
  have HB := Lib.hid hb
  have hi : (100 : Int) < (s.length : Int) := by omega
  unfold sv
  clear hb h0
  go_enter Tryz.func127, Tryz.ntmps127
  go_wp2_with fail
  go_ret
  exact ⟨by rw [HB.out]; rfl, Upd.refl _ _⟩
 have hi100 : decide ((100 : Int) < (s.length : Int)) = false := by rw [decide_eq_false_iff_not]; omega
 have hpl : pathL s = (!s.any badB && !(partsL s).any badP) := by
  unfold pathL; rw [decide_eq_true (show 1 ≤ s.length by omega), decide_eq_true (show s.length ≤ 100 by omega)]; rfl
 have hpn := parts_len s
 have hcl := List.count_le_length (a := (47 : UInt8)) (l := s)
 have hsp := r11Parts_any s w (by omega)
 unfold sv at hsp ⊢
 have HPL := Lib.hid hpl
 have HPN := Lib.hid (show (partsL s).length ≤ 101 by omega)
 have HSP := Lib.hid hsp
 have hle : s.length ≤ 100 := by omega
 clear hpl h0 h100 hpn hcl hsp
 go_enter Tryz.func127, Tryz.ntmps127
 go_wp2_with fail
 go_loop [3] (fun i => ∃ j : Nat, j ≤ s.length ∧ i = .int .i64 (j : Int) ∧ Hid ((s.take j).any badB = false)) (fun i => s.length - (intOf i).toNat)
 case atStart => exact ⟨0, Nat.zero_le _, rfl, (by show _ = _; simp)⟩
 case round =>
  obtain ⟨j, hj, rfl, hA⟩ := hrel
  by_cases hlt : j < s.length
  ·have hI : (j : Int) < (s.length : Int) := by omega
   have hix := fun w => str_at s j hlt w
   have hs := any_take_succ badB s j hlt
   rw [hA.out, Bool.false_or] at hs
   have hall := any_of_take badB s (j + 1)
   rw [hs] at hall
   generalize s[j] = x at *
   have HS := Lib.hid hs
   have HALL := Lib.hid hall
   clear hs hall hA
   have hx := x.toNat_lt
   by_cases h1 : x.toNat < 33
   ·have hany := HALL.out (by simp [badB, h1])
    have HANY := Lib.hid hany
    have hi : (x.toNat : Int) < 33 := by omega
    clear hany
    go_wp2_with fail
    go_ret
    exact ⟨by rw [HPL.out, HANY.out]; rfl, Upd.refl _ _⟩
   ·have hi : decide ((x.toNat : Int) < 33) = false := by rw [decide_eq_false_iff_not]; omega
    by_cases h2 : 126 < x.toNat
    ·have hany := HALL.out (by simp [badB, h2])
     have HANY := Lib.hid hany
     have hi2 : (126 : Int) < (x.toNat : Int) := by omega
     clear hany h1
     go_wp2_with fail
     go_ret
     exact ⟨by rw [HPL.out, HANY.out]; rfl, Upd.refl _ _⟩
    ·have hi2 : decide ((126 : Int) < (x.toNat : Int)) = false := by rw [decide_eq_false_iff_not]; omega
     have HBD := Lib.hid (show badB x = false by simp [badB, h1, h2])
     clear h1 h2
     go_wp2_with fail
     go_round
     case rel => exact ⟨j + 1, by omega, by first | rfl | go_num, (by show _ = _; rw [HS.out, HBD.out])⟩
     case measure => simp [intOf]; omega
  ·obtain rfl : j = s.length := by omega
   have h0 := hA.out
   rw [List.take_length] at h0
   have H0 := Lib.hid h0
   have hsp := HSP.out
   clear h0 hA hlt
   go_wp2_with fail
   refine hsp.mono ?_
   rintro e w1 ⟨g, c, rfl, hv, hU, hg⟩
   have hcap := hv.cap
   have hlc := hv.le
   unfold maxLen at hcap
   have HV := Lib.hid hv
   have hN := HPN.out
   have hbp : ∃ bp, (partsL s).any badP = bp := ⟨_, rfl⟩
   obtain ⟨bp, hbp⟩ := hbp
   have HBP := Lib.hid hbp
   have HU := Lib.hid hU
   clear hv hsp hU hbp
   generalize hL : partsL s = L at *
   have HL := Lib.hid hL
   clear hL
   go_wp2_with fail
   go_loop [5] (fun i => ∃ j : Nat, j ≤ L.length ∧ i = .int .i64 (j : Int) ∧ Hid ((L.take j).any badP = false)) (fun i => L.length - (intOf i).toNat)
   case atStart => exact ⟨0, Nat.zero_le _, rfl, (by show _ = _; simp)⟩
   case round =>
    obtain ⟨j, hj, rfl, hA⟩ := hrel
    by_cases hlt : j < L.length
    ·have hI : (j : Int) < (L.length : Int) := by omega
     obtain ⟨b, o, hb, hcell⟩ := HV.out.at (by omega) (by decide)
     simp only [Option.some.injEq, Addr.mk.injEq] at hb
     obtain ⟨rfl, rfl, _⟩ := hb
     have q := hcell j (sv L[j]) (by simp [hlt])
     rw [Nat.zero_add] at q
     have hs := any_take_succ badP L j hlt
     rw [hA.out, Bool.false_or] at hs
     have hall := any_of_take badP L (j + 1)
     rw [hs] at hall
     generalize L[j] = x at *
     unfold sv at q
     have HS := Lib.hid hs
     have HALL := Lib.hid hall
     clear hcell hs hall hA
     by_cases h1 : x = []
     ·subst h1
      have hany := HALL.out rfl
      have HANY := Lib.hid hany
      clear hany
      go_wp2_with fail
      go_ret
      exact ⟨by rw [HPL.out, HANY.out]; simp, HU.out⟩
     ·by_cases h2 : x = [46]
      ·subst h2
       have hany := HALL.out rfl
       have HANY := Lib.hid hany
       clear hany h1
       go_wp2_with fail
       go_ret
       exact ⟨by rw [HPL.out, HANY.out]; simp, HU.out⟩
      ·by_cases h3 : x = [46, 46]
       ·subst h3
        have hany := HALL.out rfl
        have HANY := Lib.hid hany
        clear hany h1 h2
        go_wp2_with fail
        go_ret
        exact ⟨by rw [HPL.out, HANY.out]; simp, HU.out⟩
       ·have b1 : (x == ([] : List UInt8)) = false := by simpa using h1
        have b2 : (x == ([46] : List UInt8)) = false := by simpa using h2
        have b3 : (x == ([46, 46] : List UInt8)) = false := by simpa using h3
        have hb : badP x = false := by unfold badP; rw [b1, b2, b3]; rfl
        have HB := Lib.hid hb
        clear hb h1 h2 h3
        go_wp2_with fail
        go_round
        case rel => exact ⟨j + 1, by omega, by first | rfl | go_num, (by show _ = _; rw [HS.out, HB.out])⟩
        case measure => simp [intOf]; omega
    ·obtain rfl : j = L.length := by omega
     have h0 := hA.out
     rw [List.take_length] at h0
     have H2 := Lib.hid h0
     clear h0 hA
     go_wp2_with fail
     go_ret
     exact ⟨by rw [HPL.out, H0.out, H2.out]; rfl, HU.out⟩
def hpL (s q : List UInt8) : Bool := decide (q.length ≤ s.length) && (s.take q.length == q)
def withinL (p d : List UInt8) : Bool := hpL p (d ++ [47])
def clashL (a b : List UInt8) : Bool := a == b || withinL a b || withinL b a
def leS (a b : List UInt8) : Bool := Op.bytesLess a b || a == b
theorem within_hit (p d : List UInt8) (h : d.length < p.length) : withinL p d = ((p.take d.length == d) && (p[d.length] == 47)) := by
 unfold withinL hpL
 rw [List.length_append, List.length_singleton, decide_eq_true (by omega), Bool.true_and, List.take_succ_eq_append_getElem h, Bool.eq_iff_iff]
 simp only [beq_iff_eq, Bool.and_eq_true]
 constructor
 ·intro he
  have := List.append_inj he (by rw [List.length_take]; omega)
  exact ⟨this.1, by simpa using this.2⟩
 ·rintro ⟨h1, h2⟩
  rw [h1, h2]
theorem within_short (p d : List UInt8) (h : ¬ d.length < p.length) : withinL p d = false := by
 unfold withinL hpL
 rw [List.length_append, List.length_singleton, decide_eq_false (by omega)]; rfl
theorem r11Within_any (p d : List UInt8) (w : World) (hp : p.length ≤ 1000000) (hd : d.length ≤ 100000) : Calls Tryz.prog 158 #[sv p, sv d] w fun e w' => e = .returned (.bool (withinL p d)) ∧ w = w' := by
 have hs1 := str_size p
 have hs2 := str_size d
 unfold sv
 by_cases h : d.length < p.length
 ·have hI : (d.length : Int) < (p.length : Int) := by omega
  have htk := fun w => str_take p d.length (by omega) w
  have hix := fun w => str_at p d.length h w
  have hE := within_hit p d h
  have hb : (((p[d.length].toNat : Nat) : Int) == 47) = (p[d.length] == 47) := by
   rw [Bool.eq_iff_iff]; simp [← UInt8.toNat_inj]; omega
  generalize p[d.length] = x at *
  generalize hc : (p.take d.length == d) = c at *
  have HE := Lib.hid hE
  clear hE
  cases c
  ·go_enter Tryz.func158, Tryz.ntmps158
   go_wp2_with fail
   go_ret
   exact ⟨by rw [HE.out]; rfl, rfl⟩
  ·go_enter Tryz.func158, Tryz.ntmps158
   go_wp2_with fail
   go_ret
   exact ⟨by rw [HE.out]; rfl, rfl⟩
 ·have hI : ¬ (d.length : Int) < (p.length : Int) := by omega
  have hE := Lib.hid (within_short p d h)
  go_enter Tryz.func158, Tryz.ntmps158
  go_wp2_with fail
  go_ret
  exact ⟨by rw [hE.out]; rfl, rfl⟩
set_option maxHeartbeats 1000000 in
theorem r11Clash_any (a b : List UInt8) (w : World) (ha : a.length ≤ 100000) (hb : b.length ≤ 100000) : Calls Tryz.prog 128 #[sv a, sv b] w fun e w' => e = .returned (.bool (clashL a b)) ∧ w = w' := by
 have h1 := r11Within_any a b w (by omega) hb
 have h2 := r11Within_any b a w (by omega) ha
 have hE : Hid (clashL a b = (a == b || withinL a b || withinL b a)) := Lib.hid rfl
 unfold sv at h1 h2 ⊢
 cases hc : (a == b)
 ·cases hx : withinL a b
  ·rw [hx] at h1
   rw [hc, hx] at hE
   have HX := Lib.hid hx
   clear hx
   go_enter Tryz.func128, Tryz.ntmps128
   go_wp2_with fail
   refine h1.mono ?_
   rintro e w' ⟨rfl, rfl⟩
   go_wp2_with fail
   refine h2.mono ?_
   rintro e w' ⟨rfl, rfl⟩
   go_wp2_with fail
   go_ret
   exact ⟨by rw [hE.out]; rfl, rfl⟩
  ·rw [hx] at h1
   rw [hc, hx] at hE
   have HX := Lib.hid hx
   clear hx
   go_enter Tryz.func128, Tryz.ntmps128
   go_wp2_with fail
   refine h1.mono ?_
   rintro e w' ⟨rfl, rfl⟩
   go_wp2_with fail
   go_ret
   exact ⟨by rw [hE.out]; rfl, rfl⟩
 ·rw [hc] at hE
  go_enter Tryz.func128, Tryz.ntmps128
  go_wp2_with fail
  go_ret
  exact ⟨by rw [hE.out]; rfl, rfl⟩
end Go.Proofs.YtccejkikphpnfaaGreatDoor
