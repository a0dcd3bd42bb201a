
/- The walk of ObjectBack, with the laws that what is written is read again. -/
import Derived.Test.YteefceainlfdfaaDoorTake8
import Derived.Test.YteefceainlfdfaaDoorAwake15
import Derived.OpenShut
namespace Go.Proofs.YteefceainlfdfaaDoor
set_option linter.unusedSimpArgs false
set_option linter.unusedVariables false
set_option maxRecDepth 100000
open Go.ChangeShapes Go.WideShapes Go.ChangeAt Go.RowKit

theorem takeS_app (l r : List UInt8) : takeS l.length ⟨l ++ r, 0⟩ = (l, ⟨r, 0⟩) := by
  unfold takeS
  simp
theorem takeS_app' (n : Nat) (l r : List UInt8) (h : l.length = n) : takeS n ⟨l ++ r, 0⟩ = (l, ⟨r, 0⟩) := by
  subst h; exact takeS_app l r
theorem takeS_i4 (n : Int) (r : List UInt8) : takeS 4 ⟨i4 n ++ r, 0⟩ = (i4 n, ⟨r, 0⟩) := takeS_app' 4 _ _ (i4_length n)
theorem intV_i4 (n : Int) (r : List UInt8) (h0 : -1 ≤ n) (h1 : n ≤ 4294967294) : intV ⟨i4 n ++ r, 0⟩ = n := by
  rw [intV_eq, takeS_i4]
  unfold i4
  rw [leN_le]
  simp
  omega
theorem textS_t4 (s : ByteArray) (r : List UInt8) (h : s.size ≤ 100000000) : textS ⟨t4 s ++ r, 0⟩ = (s.data.toList, ⟨r, 0⟩) := by
  unfold textS t4
  rw [List.append_assoc, takeS_i4, intV_i4 _ _ (by omega) (by omega)]
  rw [if_neg (by simp), if_neg (by omega)]
  simp only [Int.toNat_natCast]
  exact takeS_app' _ _ _ (size_toList s)
theorem boolS_b1 (b : Bool) (r : List UInt8) : boolS ⟨b1 b ++ r, 0⟩ = (b, ⟨r, 0⟩) := by
  cases b <;> simp [boolS, takeS, b1, leN]

theorem textS_tx (s r : List UInt8) (h : s.length ≤ 100000000) : textS ⟨tx s ++ r, 0⟩ = (s, ⟨r, 0⟩) := by
  rw [← t4_str, textS_t4 (str s) r (by rw [str_size]; exact h)]; rfl
theorem takeS_one (x : UInt8) (r : List UInt8) : takeS 1 ⟨x :: r, 0⟩ = ([x], ⟨r, 0⟩) := takeS_app' 1 [x] r rfl
theorem keyN_app (n : Nat) : ∀ (k r : List UInt8), n ≤ k.length → keyN n ⟨k ++ r, 0⟩ = (k.take n, ⟨k.drop n ++ r, 0⟩) := by
  induction n with
  | zero => intro k r _; simp [keyN]
  | succ n ih =>
    intro k r h
    have h1 := ih k r (by omega)
    have h2 : k.drop n = k[n] :: k.drop (n + 1) := List.drop_eq_getElem_cons (by omega)
    rw [keyN, h1, h2]
    dsimp only [List.cons_append]
    rw [takeS_one]
    have h3 : byteS ⟨k[n] :: (k.drop (n + 1) ++ r), 0⟩ = k[n] := by
      unfold byteS
      rw [takeS_one]
      simp [leN]
    rw [h3, ← List.take_succ_eq_append_getElem (by omega)]
theorem keyS_app (k r : List UInt8) (h : k.length = 32) : keyS ⟨k ++ r, 0⟩ = (k, ⟨r, 0⟩) := by
  unfold keyS
  rw [keyN_app 32 k r (by omega), List.take_of_length_le (by omega), List.drop_of_length_le (by omega), List.nil_append]
theorem entS_app (x : Ent) (r : List UInt8) (h : x.path.length ≤ 100000000) : entS ⟨encE x ++ r, 0⟩ = (x, ⟨r, 0⟩) := by
  obtain ⟨p, e, k, hk⟩ := x
  have e1 : encE ⟨p, e, k, hk⟩ ++ r = tx p ++ (b1 e ++ (k ++ r)) := by simp [encE]
  unfold entS
  rw [e1]
  have h1 := textS_tx p (b1 e ++ (k ++ r)) h
  have h2 := boolS_b1 e (k ++ r)
  have h3 := keyS_app k r hk
  simp only [h1, h2, h3]
theorem entsS_app : ∀ (l : List Ent) (r : List UInt8), (∀ x ∈ l, x.path.length ≤ 100000000) → entsS l.length ⟨l.flatMap encE ++ r, 0⟩ = (l, ⟨r, 0⟩)
  | [], r, _ => by simp [entsS]
  | x :: l, r, h => by
    have h1 := entS_app x (l.flatMap encE ++ r) (h x (by simp))
    have h2 := entsS_app l r (fun y hy => h y (by simp [hy]))
    rw [List.flatMap_cons, List.append_assoc, List.length_cons, entsS, if_neg (by simp), h1]
    dsimp only
    rw [h2]
theorem treeRead_app (l : List Ent) (r : List UInt8) (h : treeL l = true) : treeRead (encT l ++ r) = (l, ⟨r, 0⟩) := by
  obtain ⟨h1, h2⟩ := treeL_short l h
  have e : (encT l ++ r).tail = le l.length 4 ++ (l.flatMap encE ++ r) := by simp [encT]
  unfold treeRead
  rw [e, takeS_app' 4 _ _ (le_length _ _)]
  dsimp only
  rw [leN_le, show l.length % 256 ^ 4 = l.length from Nat.mod_eq_of_lt (by omega)]
  exact entsS_app l r (fun x hx => by have := h2 x hx; omega)
theorem kind_encT (l : List Ent) (r : List UInt8) : kindL (encT l ++ r) = 2 := by simp [encT, kindL]
theorem tree_back (l : List Ent) (h : treeL l = true) : ttreeE (encT l) = 0 ∧ ttreeL (encT l) = l := by
  have h1 := treeRead_app l [] h
  have hk := kind_encT l []
  rw [List.append_nil] at h1 hk
  have hE : treeE l = 0 := by unfold treeE; rw [if_pos h]
  have hB : treeB l = encT l := by unfold treeB; rw [if_pos h]
  have h2 : ttreeE (encT l) = 0 := by
    unfold ttreeE
    rw [if_neg (by rw [hk]; simp), h1]
    dsimp only
    rw [hE, hB]
    simp [endI]
  refine ⟨h2, ?_⟩
  unfold ttreeL
  rw [h2, if_neg (by simp), h1]
theorem tree_more (l : List Ent) (h : treeL l = true) (b : UInt8) : ttreeE (encT l ++ [b]) = 5 := by
  have h1 := treeRead_app l [b] h
  have hE : treeE l = 0 := by unfold treeE; rw [if_pos h]
  have hB : treeB l = encT l := by unfold treeB; rw [if_pos h]
  unfold ttreeE
  rw [if_neg (by rw [kind_encT]; simp), h1]
  dsimp only
  rw [hE, hB]
  have hne : encT l ≠ encT l ++ [b] := fun e => by
    have := congrArg List.length e
    simp at this
  simp [endI]
theorem tree_less (l : List Ent) (h : treeL l = true) : ttreeE (encT l).dropLast ≠ 0 := by
  intro h0
  have hne : encT l ≠ [] := by simp [encT]
  obtain ⟨b, hb⟩ : ∃ b, encT l = (encT l).dropLast ++ [b] := ⟨_, (List.dropLast_concat_getLast hne).symm⟩
  generalize hy : (encT l).dropLast = y at *
  unfold ttreeE at h0
  split at h0
  · simp at h0
  · rename_i hk
    generalize hr : treeRead y = rr at h0
    obtain ⟨l', s'⟩ := rr
    dsimp only at h0
    unfold endI at h0
    by_cases h1 : s'.e ≠ 0
    · rw [if_pos h1] at h0; exact h1 h0
    rw [if_neg h1] at h0
    by_cases h2 : treeE l' ≠ 0
    · rw [if_pos h2] at h0; simp at h0
    rw [if_neg h2] at h0
    by_cases h3 : treeB l' ≠ y
    · rw [if_pos h3] at h0; simp at h0
    have h3' : treeB l' = y := by simpa using h3
    have hT : treeL l' = true := by
      cases ht : treeL l'
      · unfold treeE at h2; rw [ht] at h2; simp at h2
      · rfl
    have hB : treeB l' = encT l' := by unfold treeB; rw [if_pos hT]
    have q1 := treeRead_app l' [b] hT
    have q2 := treeRead_app l [] h
    rw [List.append_nil, hb, ← h3', hB, q1] at q2
    simp at q2
theorem takeS8 (c : Com) (r : List UInt8) : takeS 8 ⟨le c.serial.toNat 8 ++ r, 0⟩ = (le c.serial.toNat 8, ⟨r, 0⟩) := takeS_app' 8 _ _ (le_length _ _)
theorem comS_app (c : Com) (r : List UInt8) (h : c.msg.length ≤ 100000000) : comS ⟨(encCom c).tail ++ r, 0⟩ = (c, ⟨r, 0⟩) := by
  have h8 := takeS8 c r
  obtain ⟨ro, p, t, m, s, hp, ht, h0, h1⟩ := c
  have e1 : (encCom ⟨ro, p, t, m, s, hp, ht, h0, h1⟩).tail ++ r = b1 ro ++ (p ++ (t ++ (tx m ++ (le s.toNat 8 ++ r)))) := by simp [encCom]
  have q1 := boolS_b1 ro (p ++ (t ++ (tx m ++ (le s.toNat 8 ++ r))))
  have q2 := keyS_app p (t ++ (tx m ++ (le s.toNat 8 ++ r))) hp
  have q3 := keyS_app t (tx m ++ (le s.toNat 8 ++ r)) ht
  have q4 := textS_tx m (le s.toNat 8 ++ r) h
  dsimp only at h8
  have hs : ((s.toNat % 256 ^ 8 : Nat) : Int) = s := by
    have : (256 ^ 8 : Nat) = 18446744073709551616 := by decide
    omega
  unfold comS
  rw [e1]
  simp only [q1, q2, q3, q4, h8, leN_le, hs]
theorem kind_encCom (c : Com) (r : List UInt8) : kindL (encCom c ++ r) = 3 := by simp [encCom, kindL]
theorem com_back (c : Com) (h : comE c = 0) (hm : c.msg.length ≤ 100000000) : tcomE (encCom c) = 0 ∧ tcomC (encCom c) = c := by
  have h1 := comS_app c [] hm
  have hk := kind_encCom c []
  rw [List.append_nil] at h1 hk
  have hB : comB c = encCom c := by unfold comB; rw [if_pos h]
  have h2 : tcomE (encCom c) = 0 := by
    unfold tcomE
    rw [if_neg (by rw [hk]; simp), h1]
    dsimp only
    rw [h, hB]
    simp [endI]
  refine ⟨h2, ?_⟩
  unfold tcomC
  rw [h2, if_neg (by simp), h1]
theorem com_more (c : Com) (h : comE c = 0) (hm : c.msg.length ≤ 100000000) (b : UInt8) : tcomE (encCom c ++ [b]) = 5 := by
  have h1 := comS_app c [b] hm
  have e : (encCom c ++ [b]).tail = (encCom c).tail ++ [b] := by simp [encCom]
  have hB : comB c = encCom c := by unfold comB; rw [if_pos h]
  unfold tcomE
  rw [if_neg (by rw [kind_encCom]; simp), e, h1]
  dsimp only
  rw [h, hB]
  simp [endI]

section
variable {H : Type} {enc : TypeId × Value → H} {W : World}
theorem key_list {fuel : Nat} {cs : List Value} {y : DataW H × List MemPlace} (hf : DataW.trod enc Tryd.prog W 0 (fun _ => true) true fuel 38 cs = some y) : ∃ x : List UInt8, cs = bvs x ∧ x.length = 32 := by
  obtain ⟨xs, m, _, _, hlen, hl, hel⟩ := DataW.trod_array Tryd.underlying38 hf
  have hc1 : Tryd.prog.cellsOf 5 = 1 := by kernel_rfl
  have hc32 : Tryd.prog.cellsOf 38 = 32 := by kernel_rfl
  rw [hc32] at hlen
  have hcs : ∀ i, i < 32 → ∃ b : UInt8, cs[i]? = some (bv b) := by
    intro i hi
    have he := hel i hi
    rw [hc1, Nat.mul_one] at he
    have hx : i < xs.length := by omega
    rw [List.getElem?_eq_getElem hx] at he
    obtain ⟨a, ea, _, wa⟩ := DataW.trod_int Tryd.underlying5 he
    have hb := bounds_u8 wa
    refine ⟨UInt8.ofNat a.toNat, ?_⟩
    have h0 : (cs.drop i)[0]? = some (.int .u8 a) := by
      have : ((cs.drop i).take 1)[0]? = some (.int .u8 a) := by rw [ea]; rfl
      simpa [List.getElem?_take] using this
    rw [List.getElem?_drop] at h0
    rw [Nat.add_zero] at h0
    rw [h0]
    unfold bv
    rw [UInt8.toNat_ofNat']
    congr 2
    omega
  have key : ∀ (l : List Value), (∀ i, i < l.length → ∃ b : UInt8, l[i]? = some (bv b)) → ∃ x, l = bvs x := by
    intro l
    induction l with
    | nil => intro _; exact ⟨[], rfl⟩
    | cons v l ih =>
      intro h
      obtain ⟨b, hb⟩ := h 0 (by simp)
      obtain ⟨x, hx⟩ := ih (fun i hi => h (i + 1) (by simpa using hi))
      refine ⟨b :: x, ?_⟩
      simp at hb
      rw [hb, hx]; rfl
  obtain ⟨x, hx⟩ := key cs (fun i hi => hcs i (by omega))
  refine ⟨x, hx, ?_⟩
  rw [hx] at hlen
  simpa [bvs] using hlen
theorem open_entries {base : Nat} {v : Value} {d : DataW H} {ps : List MemPlace} (hval : Value.okWide Tryd.prog W .any base 36 v)
    (h : DataW.Trod enc Tryd.prog W 0 (fun _ => true) true 36 v d ps) : ∃ (a : Option Addr) (c : Nat) (xs : List Ent), v = .slice a xs.length c ∧ Vw W a xs.length c 34 (xs.flatMap entV) := by
  obtain ⟨a, c, xs, h1, h2, _, _⟩ := open_list entV (fun _ => True) 36 44 34 Tryd.underlying36 (by kernel_rfl) (by decide) entV_len (fun fuel cs y hl hy => by
    obtain ⟨xs, n, _, hx, _, hlen, hg⟩ := DataW.trod_struct Tryd.underlying44 hy
    match cs, hl with
    | c0 :: c1 :: rest, hl =>
      match xs, hlen with
      | [y0, y1, y2], _ =>
        have k0 : Tryd.prog.cellsOf 9 = 1 := by kernel_rfl
        have k1 : Tryd.prog.cellsOf 4 = 1 := by kernel_rfl
        have k2 : Tryd.prog.cellsOf 38 = 32 := by kernel_rfl
        have g0 : DataW.trod enc Tryd.prog W 0 (fun _ => true) true n 9 (((c0 :: c1 :: rest).drop 0).take (Tryd.prog.cellsOf 9)) = some y0 := hg 0 _ rfl
        have g1 : DataW.trod enc Tryd.prog W 0 (fun _ => true) true n 4 (((c0 :: c1 :: rest).drop 1).take (Tryd.prog.cellsOf 4)) = some y1 := hg 1 _ rfl
        have g2 : DataW.trod enc Tryd.prog W 0 (fun _ => true) true n 38 (((c0 :: c1 :: rest).drop 2).take (Tryd.prog.cellsOf 38)) = some y2 := hg 2 _ rfl
        rw [k0] at g0
        rw [k1] at g1
        rw [k2] at g2
        obtain ⟨s, e0, _⟩ := DataW.trod_string Tryd.underlying9 g0
        obtain ⟨b, e1, _⟩ := DataW.trod_bool Tryd.underlying4 g1
        obtain ⟨k, e2, hk⟩ := key_list g2
        simp at e0 e1
        simp only [List.drop_succ_cons, List.drop_zero] at e2
        rw [List.take_of_length_le (by simp at hl; omega)] at e2
        subst e0 e1 e2
        exact ⟨⟨s.data.toList, b, k, hk⟩, by simp [entV, sv, str_data], trivial⟩) hval h
  exact ⟨a, c, xs, h1, h2⟩
theorem split5 (cs : List Value) : cs = cs.take 1 ++ ((cs.drop 1).take 32 ++ ((cs.drop 33).take 32 ++ ((cs.drop 65).take 1 ++ cs.drop 66))) := by
  have h1 := List.take_append_drop 1 cs
  have h2 := List.take_append_drop 32 (cs.drop 1)
  have h3 := List.take_append_drop 32 (cs.drop 33)
  have h4 := List.take_append_drop 1 (cs.drop 65)
  rw [List.drop_drop] at h2 h3 h4
  rw [h4, h3, h2, h1]
theorem open_com {base : Nat} {v : Value} {d : DataW H} {ps : List MemPlace} (hval : Value.okWide Tryd.prog W .any base 41 v)
    (h : DataW.Trod enc Tryd.prog W 0 (fun _ => true) true 41 v d ps) : ∃ x : Com, v = .agg (comA x) := by
  have hv : ∃ cs : Array Value, v = .agg cs := by
    simp only [Value.okWide, Tryd.underlying41] at hval
    obtain ⟨cs, h1, h2, _⟩ := hval
    exact ⟨cs, h1⟩
  obtain ⟨cs, rfl⟩ := hv
  obtain ⟨fuel, hf⟩ := h
  simp only [Value.cells] at hf
  obtain ⟨xs, n, _, hx, hcl, hlen, hg⟩ := DataW.trod_struct Tryd.underlying41 hf
  have hc67 : Tryd.prog.cellsOf 41 = 67 := by kernel_rfl
  rw [hc67] at hcl
  match xs, hlen with
  | [y0, y1, y2, y3, y4], _ =>
    have k0 : Tryd.prog.cellsOf 9 = 1 := by kernel_rfl
    have k1 : Tryd.prog.cellsOf 4 = 1 := by kernel_rfl
    have k2 : Tryd.prog.cellsOf 38 = 32 := by kernel_rfl
    have k3 : Tryd.prog.cellsOf 39 = 1 := by kernel_rfl
    have g0 : DataW.trod enc Tryd.prog W 0 (fun _ => true) true n 4 ((cs.toList.drop 0).take (Tryd.prog.cellsOf 4)) = some y0 := hg 0 _ rfl
    have g1 : DataW.trod enc Tryd.prog W 0 (fun _ => true) true n 38 ((cs.toList.drop 1).take (Tryd.prog.cellsOf 38)) = some y1 := hg 1 _ rfl
    have g2 : DataW.trod enc Tryd.prog W 0 (fun _ => true) true n 38 ((cs.toList.drop 33).take (Tryd.prog.cellsOf 38)) = some y2 := hg 2 _ rfl
    have g3 : DataW.trod enc Tryd.prog W 0 (fun _ => true) true n 9 ((cs.toList.drop 65).take (Tryd.prog.cellsOf 9)) = some y3 := hg 3 _ rfl
    have g4 : DataW.trod enc Tryd.prog W 0 (fun _ => true) true n 39 ((cs.toList.drop 66).take (Tryd.prog.cellsOf 39)) = some y4 := hg 4 _ rfl
    rw [k1] at g0
    rw [k2] at g1 g2
    rw [k0] at g3
    rw [k3] at g4
    obtain ⟨b, e0, _⟩ := DataW.trod_bool Tryd.underlying4 g0
    obtain ⟨p, e1, hp⟩ := key_list g1
    obtain ⟨t, e2, ht⟩ := key_list g2
    obtain ⟨s, e3, _⟩ := DataW.trod_string Tryd.underlying9 g3
    obtain ⟨n4, e4, _, w4⟩ := DataW.trod_int Tryd.underlying39 g4
    have hb := bounds_u64 w4
    rw [List.drop_zero] at e0
    have e4' : cs.toList.drop 66 = [.int .u64 n4] := by
      rw [← e4, List.take_of_length_le]
      rw [List.length_drop]; omega
    have hs := split5 cs.toList
    rw [e0, e1, e2, e3, e4'] at hs
    refine ⟨⟨b, p, t, s.data.toList, n4, hp, ht, by omega, by omega⟩, ?_⟩
    have : cs = (cs.toList).toArray := by simp
    rw [this, hs]
    simp [comA, comV, sv, str_data]
end

theorem com_part0 (x : Com) (w : World) : (part 4 (comA x) 0).run Tryd.prog w = .ok (.bool x.rooted) w := by
  simp [part, isAgg, run_underlying Tryd.underlying4, comA, comV]
theorem sizeKey (w : World) : (sizeOf 38).run Tryd.prog w = .ok 32 w := by
  cases hq : Tryd.prog.info? 38 with
  | none => have := infoKey; rw [hq] at this; cases this
  | some i =>
    have := infoKey; rw [hq] at this
    simp at this
    simp [sizeOf, typeInfo, hq, this]
theorem com_extract (x : Com) : (comA x).extract 1 (1 + 32) = (bvs x.parent).toArray ∧ (comA x).extract 33 (33 + 32) = (bvs x.tree).toArray := by
  obtain ⟨r, p, t, m, s, hp, ht, h0, h1⟩ := x
  unfold comA comV
  constructor
  · rw [List.extract_toArray]
    congr 1
    simp [List.extract, bvs, hp]
  · rw [List.extract_toArray]
    congr 1
    simp [List.extract, bvs]
    rw [List.drop_append_of_le_length (by simp [hp]), List.drop_of_length_le (by simp [hp]), List.nil_append, List.take_append_of_le_length (by simp [ht]), List.take_of_length_le (by simp [ht])]
theorem com_part1 (x : Com) (w : World) : (part 38 (comA x) 1).run Tryd.prog w = .ok (.agg (bvs x.parent).toArray) w := by
  simp only [part, isAgg, run_underlying Tryd.underlying38, Sem.run_bind, Result.andThen_ok, Sem.run_pure, if_true, sizeKey, (com_extract x).1]
theorem com_part2 (x : Com) (w : World) : (part 38 (comA x) 33).run Tryd.prog w = .ok (.agg (bvs x.tree).toArray) w := by
  simp only [part, isAgg, run_underlying Tryd.underlying38, Sem.run_bind, Result.andThen_ok, Sem.run_pure, if_true, sizeKey, (com_extract x).2]
theorem com_part3 (x : Com) (w : World) : (part 9 (comA x) 65).run Tryd.prog w = .ok (.string (str x.msg)) w := by
  have h := (com_at x).2.2.2.1
  have e : (comA x)[65]? = some (sv x.msg) := (List.getElem?_toArray).trans h
  simp [part, isAgg, run_underlying Tryd.underlying9, e, sv]
theorem com_part4 (x : Com) (w : World) : (part 39 (comA x) 66).run Tryd.prog w = .ok (.int .u64 x.serial) w := by
  have h := (com_at x).2.2.2.2
  have e : (comA x)[66]? = some (.int .u64 x.serial) := (List.getElem?_toArray).trans h
  simp [part, isAgg, run_underlying Tryd.underlying39, e]
theorem com_eqIn (x : Com) (w : World) : (Op.equalIn 10000 41 (.agg (comA x)) (.agg (comA x))).run Tryd.prog w = .ok true w := by
  have hk := fun (k : List UInt8) (h : k.length = 32) => run_equalIn_bytes (P := Tryd.prog) w 9997 38 5 32 Tryd.underlying38 Tryd.underlying5 (fun w => run_sizeOf_u8 w) k k h h
  rw [run_equalIn_agg (P := Tryd.prog) w 9999 41 (comA x) (comA x) (by kernel_rfl) (by kernel_rfl)]
  have hk1 : (Op.equalIn 9999 38 (.agg (bvs x.parent).toArray) (.agg (bvs x.parent).toArray)).run Tryd.prog w = .ok true w := by
    have e : (bvs x.parent).toArray = (x.parent.map Extern.Stop.cell).toArray := rfl
    rw [e, hk _ x.hp]; simp
  have hk2 : (Op.equalIn 9999 38 (.agg (bvs x.tree).toArray) (.agg (bvs x.tree).toArray)).run Tryd.prog w = .ok true w := by
    have e : (bvs x.tree).toArray = (x.tree.map Extern.Stop.cell).toArray := rfl
    rw [e, hk _ x.ht]; simp
  have h0 : (Op.equalIn 9999 4 (.bool x.rooted) (.bool x.rooted)).run Tryd.prog w = .ok true w := by
    have := run_equalIn_bool' (P := Tryd.prog) w 9998 4 x.rooted x.rooted Tryd.underlying4
    rw [this, beq_self_eq_true]
  have h3 : (Op.equalIn 9999 9 (.string (str x.msg)) (.string (str x.msg))).run Tryd.prog w = .ok true w := by
    have := run_equalIn_string (P := Tryd.prog) w 9998 9 (str x.msg) (str x.msg) Tryd.underlying9
    rw [this, beq_self_eq_true]
  have h4 : (Op.equalIn 9999 39 (.int .u64 x.serial) (.int .u64 x.serial)).run Tryd.prog w = .ok true w := by
    have := run_equalIn_int (P := Tryd.prog) w 9998 39 .u64 .u64 x.serial x.serial Tryd.underlying39
    rw [this, beq_self_eq_true]
  have p0 := com_part0 x w
  have p1 := com_part1 x w
  have p2 := com_part2 x w
  have p3 := com_part3 x w
  have p4 := com_part4 x w
  unfold Program.fieldsOf
  rw [Tryd.underlying41]
  generalize comA x = X at *
  generalize (bvs x.parent).toArray = k1 at *
  generalize (bvs x.tree).toArray = k2 at *
  clear hk
  generalize (9999 : Nat) = d at *
  exact (eqF_cons (by decide) p0 p0 h0).trans ((eqF_cons (by decide) p1 p1 hk1).trans ((eqF_cons (by decide) p2 p2 hk2).trans ((eqF_cons (by decide) p3 p3 h3).trans ((eqF_cons (by decide) p4 p4 h4).trans rfl))))
theorem com_eql (x : Com) (w : World) : (binOp .eql 41 (.agg (comA x)) (.agg (comA x))).run Tryd.prog w = .ok (.bool true) w := by
  rw [run_eql_struct, com_eqIn]; rfl
theorem exec_eql_com {w : World} {ev : Operand → Value} {o : Oper} (x y : Operand) (t : TypeId) (ho : o.op = .binOp .eql 41 x y t) (e : Com) (hx : ev x = .agg (comA e)) (hy : ev y = .agg (comA e)) :
    (execOp ev o).run Tryd.prog w = .ok (.value (.bool true)) w := by
  have hg := run_eqGuard_agg (P := Tryd.prog) w .eql 41 x y (comA e) (comA e) (by kernel_rfl)
  unfold execOp
  simp only [ho, hx, hy, Sem.run_bind, hg, Result.andThen_ok, com_eql, Sem.run_pure]
theorem wpList_eqlG {ops : Array Oper} {rest : List Oper} {op : Oper} {a : Act} {w : World} {Q : Exit → Act → World → Prop} (hw : Region.wanted op (yielded ops a.tmps) = true) (x y : Operand) (t : TypeId) (ho : op.op = .binOp .eql 41 x y t)
    (e : Com) (hx : a.eval x = .agg (comA e)) (hy : a.eval y = .agg (comA e)) (h : wpList Tryd.prog ops Q rest (a.put op.dst (.bool true)) w) : wpList Tryd.prog ops Q (op :: rest) a w := by
  simp only [wpList, hw, if_true]
  refine .inl ?_
  unfold Oper.wp
  rw [exec_eql_com x y t ho e hx hy]
  exact h
theorem wpList_loadCG {ops : Array Oper} {rest : List Oper} {op : Oper} {a : Act} {w : World} {Q : Exit → Act → World → Prop} (hw : Region.wanted op (yielded ops a.tmps) = true) (x : Operand) (ho : op.op = .load 41 x)
    (b : Nat) (hx : a.eval x = .pointer (some ⟨b, 0, none⟩)) (e : Com) (hr : w.heap[b]? = some (.cells (comA e) 41)) (h : wpList Tryd.prog ops Q rest (a.put op.dst (.agg (comA e))) w) : wpList Tryd.prog ops Q (op :: rest) a w := by
  have hl := run_loadVar_mid (P := Tryd.prog) w b 0 41 (comV e) _ (fun j u hu => by rw [cell_of_row _ _ _ _ _ _ hr]; simpa [comA] using hu) Tryd.underlying41 rfl (by rw [infoComm, comV_len])
  simp only [wpList, hw, if_true]
  refine .inl ?_
  unfold Oper.wp execOp
  simp only [ho, hx, Instr.loadAt, Instr.sureAddr, Sem.run_bind, Sem.run_pure, Result.andThen_ok, hl]
  exact h

theorem tblob_back (s : List UInt8) (h : s.length ≤ 300) : tblobL (1 :: s) = (s, 0) := by
  unfold tblobL
  rw [if_neg (by simp [kindL]), if_neg (by simp; omega)]; rfl
theorem tblob_not (l : List UInt8) (h : kindL l ≠ 1) : tblobL l = ([], 5) := by unfold tblobL; rw [if_pos h]
theorem ttree_not (l : List UInt8) (h : kindL l ≠ 2) : ttreeE l = 5 := by unfold ttreeE; rw [if_pos h]
theorem encT_len (l : List Ent) (h : treeL l = true) : (encT l).length ≤ 20000 := by
  obtain ⟨h1, h2⟩ := treeL_short l h
  have := flatMap_len encE 137 l (fun x hx => encE_len x (h2 x hx))
  have h3 : l.length * 137 ≤ 100 * 137 := Nat.mul_le_mul_right _ (by omega)
  simp only [encT, List.length_append, le_length, List.length_cons, List.length_nil]
  omega
theorem encCom_len (c : Com) (h : c.msg.length ≤ 300) : (encCom c).length ≤ 20000 := by
  simp only [encCom, List.length_append, le_length, List.length_cons, List.length_nil, tx_len, b1, c.hp, c.ht]
  omega
set_option maxHeartbeats 16000000 in
theorem ObjectBack_walk (w : World) (ss : ByteArray) (ws : ss.size ≤ maxLen) (a : Option Addr) (c : Nat) (l : List Ent) (hv : Vw w a l.length c 34 (l.flatMap entV)) (cm : Com) :
    Calls Tryd.prog 10 #[.string ss, .slice a l.length c, .agg (comA cm)] w fun e w' => e = .returned (.bool true) ∧ Below w.heap.size w w' := by
  obtain ⟨s, rfl⟩ : ∃ s, ss = str s := ⟨ss.data.toList, (str_data ss).symm⟩
  clear ws
  have hss := str_size s
  have hsm := str_size cm.msg
  have hcap := hv.cap
  have hlc := hv.le
  unfold maxLen at hcap
  have hUa := Upd.alloc (fun _ => False) w (.cells (comA cm) 41)
  have hrow := heap_alloc_new w (.cells (comA cm) 41)
  have HF := Lib.hid (And.intro hUa (And.intro hrow (hv.upd hUa (fun _ _ h => h))))
  clear hv hUa hrow
  go_enter Tryd.func10, Tryd.ntmps10
  go_upto_region 1 with (fail)
  obtain ⟨hUa, hrow, hv⟩ := HF.out
  obtain ⟨B, hB⟩ : ∃ B, B = w.heap.size := ⟨_, rfl⟩
  rw [← hB] at hrow ⊢
  generalize w.alloc (.cells (comA cm) 41) = y at *
  have hcell := (com_cells hrow).2.2.2.1
  have HY := Lib.hid (And.intro hUa (And.intro hrow hv))
  clear hUa hrow hv HF hB
  by_cases h1 : 300 < s.length
  · have hI : (300 : Int) < (s.length : Int) := by omega
    go_wp2_with fail
    refine (awake15_any _).mono ?_
    rintro e w3 ⟨rfl, hU⟩
    have HU4 := Lib.hid (HY.out.1.trans hU)
    clear hU
    go_wp2_with fail
    go_ret
    exact ⟨rfl, HU4.out.clean⟩
  have hI1 : decide ((300 : Int) < (s.length : Int)) = false := by rw [decide_eq_false_iff_not]; omega
  by_cases h2 : 30 < l.length
  · have hI : (30 : Int) < (l.length : Int) := by omega
    go_wp2_with fail
    refine (awake15_any _).mono ?_
    rintro e w3 ⟨rfl, hU⟩
    have HU4 := Lib.hid (HY.out.1.trans hU)
    clear hU
    go_wp2_with fail
    go_ret
    exact ⟨rfl, HU4.out.clean⟩
  have hI2 : decide ((30 : Int) < (l.length : Int)) = false := by rw [decide_eq_false_iff_not]; omega
  by_cases h3 : 300 < cm.msg.length
  · have hI : (300 : Int) < (cm.msg.length : Int) := by omega
    go_wp2_with fail
    refine (awake15_any _).mono ?_
    rintro e w3 ⟨rfl, hU⟩
    have HU4 := Lib.hid (HY.out.1.trans hU)
    clear hU
    go_wp2_with fail
    go_ret
    exact ⟨rfl, HU4.out.clean⟩
  have hI3 : decide ((300 : Int) < (cm.msg.length : Int)) = false := by rw [decide_eq_false_iff_not]; omega
  obtain ⟨i0, hi, hz0, hz1, hz2⟩ := info_parts infoU8
  have HIU := Lib.hid (And.intro hi (And.intro hz0 (And.intro hz1 hz2)))
  clear hi hz0 hz1 hz2
  have hbl := oBlob_any s y
  have hbE : blobE s = 0 := by unfold blobE; rw [if_neg (by omega)]
  have hbL : blobL s = 1 :: s := by unfold blobL; rw [if_neg (by omega)]
  rw [hbE, hbL] at hbl
  unfold Packed at hbl
  have htb := tblob_back s (by omega)
  have hlen1 : (1 :: s).length ≤ 301 := by simp; omega
  have HTB := Lib.hid htb
  have HBL := Lib.hid hbl
  generalize (1 :: s : List UInt8) = bs at *
  clear hbE hbL hbl htb
  go_wp2_with fail
  refine HBL.out.mono ?_
  rintro e w1 ⟨a1, c1, rfl, hv1, hf1, hU1⟩
  have hb1 := oTakeBlob_any a1 c1 bs w1 hv1
  rw [HTB.out] at hb1
  have HB1 := Lib.hid hb1
  have HS1 := Lib.hid hU1
  clear hv1 hf1 hU1 hb1 HBL HTB
  go_wp2_with fail
  refine HB1.out.mono ?_
  rintro e w' ⟨rfl, rfl⟩
  go_wp2_with fail
  refine (awake15_any _).mono ?_
  rintro e w2 ⟨rfl, hU2⟩
  have HY2 := Lib.hid (And.intro (HY.out.1.trans (HS1.out.trans hU2)) (And.intro (((HS1.out.trans hU2).block B (lt_of_heap HY.out.2.1) (fun h => h)).trans HY.out.2.1) (HY.out.2.2.upd (HS1.out.trans hU2) (fun _ _ h => h))))
  clear hU2 HS1 HB1 HY hI1 hI2 hI3 hcell
  have htr := oTree_any a c l w2 HY2.out.2.2
  have hE : treeE l = if treeL l = true then 0 else 5 := rfl
  have hB : treeB l = if treeL l = true then encT l else [] := rfl
  unfold Packed at htr
  cases hT : treeL l with
  | false =>
    rw [hT] at hE hB
    rw [hE, hB] at htr
    have HTR := Lib.hid htr
    clear htr hE hB hT
    simp only [Bool.false_eq_true, if_false] at HTR
    go_wp2_with fail
    refine HTR.out.mono ?_
    rintro e w3 ⟨a3, c3, rfl, hv3, hf3, hU3⟩
    have HM := Lib.hid (And.intro (HY2.out.1.trans hU3) ((hU3.block B (lt_of_heap HY2.out.2.1) (fun h => h)).trans HY2.out.2.1))
    clear hv3 hf3 hU3 HTR HY2
    have hcm := fun w => oCommit_any cm w
    unfold Packed at hcm
    have hq0 := com_cells HM.out.2
    have HQ0 := Lib.hid hq0
    by_cases hce : comE cm = 0
    · have hBm : comB cm = encCom cm := by unfold comB; rw [if_pos hce]
      have hcb := com_back cm hce (by omega)
      have hcmo := com_more cm hce (by omega) 0
      have hkk := kind_encCom cm []
      rw [List.append_nil] at hkk
      have htn := ttree_not (encCom cm) (by rw [hkk]; simp)
      have hxl := encCom_len cm (by omega)
      rw [hce, hBm] at hcm
      have HCC := Lib.hid (And.intro hcb (And.intro hcmo htn))
      have HCM := Lib.hid hcm
      generalize encCom cm = Y at *
      clear hce hBm hcb hcmo hkk htn hcm hq0
      go_wp2_with (refine wpList_loadC rfl (.tmp 5) rfl B rfl cm HM.out.2 ?_)
      refine (HCM.out _).mono ?_
      rintro e v1 ⟨ap, cp, rfl, hvp, hfp, hUp⟩
      have HVP := Lib.hid hvp
      have HN1 := Lib.hid (And.intro (HM.out.1.trans hUp) ((hUp.block B (lt_of_heap HM.out.2) (fun h => h)).trans HM.out.2))
      have htc := oTakeCommit_any ap cp Y v1 hvp (by omega)
      rw [HCC.out.1.1, HCC.out.1.2] at htc
      have HTC := Lib.hid htc
      clear hvp hfp hUp htc HCM HM
      go_wp2_with fail
      refine HTC.out.mono ?_
      unfold TookC
      rintro e v2 ⟨rfl, hU2⟩
      have hUa := Upd.alloc (fun _ => False) v2 (.cells (comA cm) 41)
      have HA := Lib.hid (And.intro (hU2.trans hUa) (heap_alloc_new v2 (.cells (comA cm) 41)))
      clear hU2 hUa HTC
      obtain ⟨b19, hb19⟩ : ∃ b, b = v2.heap.size := ⟨_, rfl⟩
      have hrz := heap_alloc_new v2 (.cells Tryd.zeroCells41 41)
      have hrx := alloc_setRow v2 Tryd.zeroCells41 (comA cm) 41
      have HZ := Lib.hid (And.intro hrz hrx)
      clear hrz hrx
      go_upto_region 21 with (refine wpList_storeC rfl (.tmp 19) (.tmp 140) rfl v2.heap.size Tryd.zeroCells41 rfl cm rfl HZ.out.1 rfl ?_; rw [HZ.out.2])
      try simp only [Act.put]
      rw [← hb19] at HA ⊢
      generalize v2.alloc (.cells (comA cm) 41) = v3 at *
      clear HZ hb19
      have hsrc := (HVP.out.upd HA.out.1 (fun _ _ h => h)).src (P := Tryd.prog) (t := 28) Tryd.underlying28 (bvs_cells Y)
      go_wp2_with (at_builtin; refine wpList_app _ rfl (.const (.slice none 0 0)) (.tmp 143) 28 28 rfl 5 i0 (.int .u8 0) 1 1 Tryd.underlying28 HIU.out.1 HIU.out.2.1 HIU.out.2.2.1 HIU.out.2.2.2 rfl none 0 0 [] rfl (World.ownsRow_nil _ _ _ _) (.slice ap Y.length cp) Y.length (bvs Y) rfl hsrc ?_ ?_ ?_)
      · unfold maxLen; omega
      · omega
      intro aA cA wA hownA hgA hatA hnilA
      try simp only [Nat.zero_add, List.nil_append] at hownA
      try simp only [Nat.zero_add]
      have hUA : Upd (fun _ => False) v3 wA := Upd.grown hgA (fun k hk => by cases hk)
      have hfA : ∀ g, blk aA = some g → v3.heap.size ≤ g := by
        intro g hg'
        rcases hatA with h | h
        · rw [h] at hg'; cases hg'
        · rw [h] at hg'; cases hg'; exact Nat.le_refl _
      have hUz := Upd.alloc (fun _ => False) wA (.cells #[.int .u8 0] 5)
      have hownB := ownsRow_upd hownA hUz (fun _ _ h => h)
      have hown0 : (wA.alloc (.cells #[.int .u8 0] 5)).ownsRow 0 5 1 (.slice (some ⟨wA.heap.size, 0, none⟩) 1 1) 1 (bvs [0]) := lit_own wA 0
      have hsrc0 := (Vw.of_own hown0).src (P := Tryd.prog) (t := 28) Tryd.underlying28 (bvs_cells [0])
      have HAP := Lib.hid (And.intro (hUA.trans hUz) hfA)
      clear hsrc hownA hgA hatA hnilA hUA hUz hfA hown0
      go_wp2_with (at_builtin; refine wpList_app _ rfl (.tmp 144) (.tmp 145) 28 28 rfl 5 i0 (.int .u8 0) 1 1 Tryd.underlying28 HIU.out.1 HIU.out.2.1 HIU.out.2.2.1 HIU.out.2.2.2 rfl aA Y.length cA (bvs Y) rfl hownB (.slice (some ⟨wA.heap.size, 0, none⟩) 1 1) 1 (bvs [0]) rfl hsrc0 ?_ ?_ ?_)
      · unfold maxLen; omega
      · omega
      intro aB cB wB hownC hgC hatC hnilC
      have hvB : Vw wB aB (Y ++ [0]).length cB 1 (bvs (Y ++ [0])) := by
        have := Vw.of_own hownC
        rw [List.length_append, bvs_append]; exact this
      have hUB : Upd (fun _ => False) v3 wB := HAP.out.1.next (Upd.grown (S := fun k => blk aA = some k) hgC (fun k hk => hk)) (fun i hi h => by have := HAP.out.2 i h; omega)
      have HUB4 := Lib.hid hUB
      clear hownB hsrc0 hownC hgC hatC hnilC HAP
      have htm := oTakeCommit_any aB cB (Y ++ [0]) wB hvB (by rw [List.length_append]; simp; omega)
      rw [HCC.out.2.1] at htm
      obtain ⟨xm, hxm⟩ : ∃ x, tcomC (Y ++ [0]) = x := ⟨_, rfl⟩
      rw [hxm] at htm
      have HTM := Lib.hid htm
      have HLB : Hid (Y.length + 1 = (Y ++ [0]).length) := Lib.hid (by simp)
      clear htm hxm hvB hUB
      go_wp2_with fail
      rw [HLB.out]
      refine HTM.out.mono ?_
      unfold TookC
      rintro e v5 ⟨rfl, hU5⟩
      have hUa := Upd.alloc (fun _ => False) v5 (.cells (comA xm) 41)
      have HC5 := Lib.hid (HUB4.out.trans (hU5.trans hUa))
      clear hU5 hUa HTM
      have hrz := heap_alloc_new v5 (.cells Tryd.zeroCells41 41)
      have hrx := alloc_setRow v5 Tryd.zeroCells41 (comA xm) 41
      have HZ := Lib.hid (And.intro hrz hrx)
      clear hrz hrx
      go_upto_region 22 with (refine wpList_storeC rfl (.tmp 21) (.tmp 148) rfl v5.heap.size Tryd.zeroCells41 rfl xm rfl HZ.out.1 rfl ?_; rw [HZ.out.2])
      try simp only [Act.put]
      generalize v5.alloc (.cells (comA xm) 41) = v6 at *
      generalize v5.heap.size = b21 at *
      clear HZ
      have htt := oTakeTree_any ap cp Y v6 (HVP.out.upd (HA.out.1.trans HC5.out) (fun _ _ h => h)) (by omega)
      rw [HCC.out.2.2] at htt
      unfold TookE at htt
      have HTT := Lib.hid htt
      clear htt
      go_wp2_with fail
      refine HTT.out.mono ?_
      rintro e v7 ⟨a7, c7, rfl, hv7, hU7⟩
      have hr19 := ((HC5.out.trans hU7).block b19 (lt_of_heap HA.out.2) (fun h => h)).trans HA.out.2
      have hrB := ((HA.out.1.trans (HC5.out.trans hU7)).block B (lt_of_heap HN1.out.2) (fun h => h)).trans HN1.out.2
      have HRR := Lib.hid (And.intro hr19 (And.intro hrB (HN1.out.1.trans (HA.out.1.trans (HC5.out.trans hU7)))))
      clear hv7 hU7 hr19 hrB HTT
      go_wp2_with first
        | refine wpList_loadCG rfl (.tmp 19) rfl b19 rfl cm HRR.out.1 ?_
        | refine wpList_loadCG rfl (.tmp 5) rfl B rfl cm HRR.out.2.1 ?_
        | refine wpList_eqlG rfl (.tmp 158) (.tmp 159) _ rfl cm rfl rfl ?_
      go_ret
      exact ⟨rfl, HRR.out.2.2.clean⟩
    · have hro : cm.rooted = true ∧ (cm.parent == key0) = false := by
        unfold comE at hce
        rw [if_neg (by omega)] at hce
        cases h1 : cm.rooted <;> cases h2 : (cm.parent == key0) <;> simp [h1, h2] at hce ⊢
      have hcb : (comE cm != 0) = true := by simpa using hce
      have hkn := fun w => key_neq0 cm.parent cm.hp w
      rw [hro.2] at hkn
      have HKN := Lib.hid hkn
      have HCM := Lib.hid hcm
      have HRO := Lib.hid hro
      clear hkn hcm hro hce hq0
      generalize comE cm = CE at *
      generalize comB cm = CB at *
      go_wp2_with (refine wpList_loadC rfl (.tmp 5) rfl B rfl cm HM.out.2 ?_)
      refine (HCM.out _).mono ?_
      rintro e v1 ⟨ap, cp, rfl, hvp, hfp, hUp⟩
      have hrB := (hUp.block B (lt_of_heap HM.out.2) (fun h => h)).trans HM.out.2
      obtain ⟨q0, q1, q2, q3, q4⟩ := com_cells hrB
      rw [HRO.out.1] at q0
      have HFI := Lib.hid (HM.out.1.trans hUp)
      have hkn := HKN.out
      clear hvp hfp hUp q2 q3 q4 hrB HCM
      generalize hP0 : (bvs cm.parent).toArray = p0 at hkn
      have HP0 := Lib.hid hP0
      clear hP0
      go_wp2_with (refine wpList_load_keyG rfl (.tmp 132) rfl B 1 rfl cm.parent cm.hp q1 ?_; rw [HP0.out])
      go_ret
      exact ⟨rfl, HFI.out.clean⟩
  | true =>
    rw [hT, if_pos rfl] at hE hB
    rw [hE, hB] at htr
    have hback := tree_back l hT
    have hmore := tree_more l hT 0
    have hless := tree_less l hT
    have hkx := kind_encT l []
    rw [List.append_nil] at hkx
    have hnb := tblob_not (encT l) (by rw [hkx]; simp)
    have hxl := encT_len l hT
    have hx0 : encT l ≠ [] := by simp [encT]
    obtain ⟨dl, hdl⟩ : ∃ dl, (encT l).dropLast = dl := ⟨_, rfl⟩
    have hdlen : dl.length = (encT l).length - 1 := by rw [← hdl]; simp
    have hdbv : (bvs (encT l)).take (((encT l).length - 1) * 1) = bvs dl := by rw [← hdl, List.dropLast_eq_take, Nat.mul_one]; simp [bvs, List.map_take]
    rw [hdl] at hless
    obtain ⟨RD, hRD⟩ : ∃ r, ttreeE dl = r := ⟨_, rfl⟩
    rw [hRD] at hless
    have hx1 : 1 ≤ (encT l).length := by cases h : encT l with
      | nil => exact absurd h hx0
      | cons y t => simp
    have HLL := Lib.hid (And.intro hback (And.intro hmore (And.intro hnb (And.intro hdlen (And.intro hdbv hRD)))))
    have HTR := Lib.hid htr
    generalize encT l = X at *
    clear htr hE hB hT hback hmore hkx hnb hx0 hdl hdlen hdbv hRD
    go_wp2_with fail
    refine HTR.out.mono ?_
    rintro e w3 ⟨a3, c3, rfl, hv3, hf3, hU3⟩
    have HV3 := Lib.hid hv3
    have HY3 := Lib.hid (And.intro (HY2.out.1.trans hU3) (And.intro ((hU3.block B (lt_of_heap HY2.out.2.1) (fun h => h)).trans HY2.out.2.1) (HY2.out.2.2.upd hU3 (fun _ _ h => h))))
    have htt := oTakeTree_any a3 c3 X w3 hv3 (by omega)
    rw [HLL.out.1.1, HLL.out.1.2] at htt
    unfold TookE at htt
    have HTT := Lib.hid htt
    clear hv3 hf3 hU3 HTR HY2 htt
    go_wp2_with fail
    refine HTT.out.mono ?_
    rintro e w4 ⟨a4, c4, rfl, hv4, hU4⟩
    have HV4 := Lib.hid hv4
    have HU4 := Lib.hid hU4
    clear hv4 hU4 HTT
    have hsrc := (HV3.out.upd HU4.out (fun _ _ h => h)).src (P := Tryd.prog) (t := 28) Tryd.underlying28 (bvs_cells X)
    go_wp2_with (at_builtin; refine wpList_app _ rfl (.const (.slice none 0 0)) (.tmp 78) 28 28 rfl 5 i0 (.int .u8 0) 1 1 Tryd.underlying28 HIU.out.1 HIU.out.2.1 HIU.out.2.2.1 HIU.out.2.2.2 rfl none 0 0 [] rfl (World.ownsRow_nil _ _ _ _) (.slice a3 X.length c3) X.length (bvs X) rfl hsrc ?_ ?_ ?_)
    · unfold maxLen; omega
    · omega
    intro aA cA wA hownA hgA hatA hnilA
    try simp only [Nat.zero_add, List.nil_append] at hownA
    try simp only [Nat.zero_add]
    have hUA : Upd (fun _ => False) w4 wA := Upd.grown hgA (fun k hk => by cases hk)
    have hfA : ∀ g, blk aA = some g → w4.heap.size ≤ g := by
      intro g hg'
      rcases hatA with h | h
      · rw [h] at hg'; cases hg'
      · rw [h] at hg'; cases hg'; exact Nat.le_refl _
    have hUz := Upd.alloc (fun _ => False) wA (.cells #[.int .u8 0] 5)
    have hownB := ownsRow_upd hownA hUz (fun _ _ h => h)
    have hown0 : (wA.alloc (.cells #[.int .u8 0] 5)).ownsRow 0 5 1 (.slice (some ⟨wA.heap.size, 0, none⟩) 1 1) 1 (bvs [0]) := lit_own wA 0
    have hsrc0 := (Vw.of_own hown0).src (P := Tryd.prog) (t := 28) Tryd.underlying28 (bvs_cells [0])
    have HAP := Lib.hid (And.intro (hUA.trans hUz) hfA)
    clear hsrc hownA hgA hatA hnilA hUA hUz hfA hown0
    go_wp2_with (at_builtin; refine wpList_app _ rfl (.tmp 79) (.tmp 80) 28 28 rfl 5 i0 (.int .u8 0) 1 1 Tryd.underlying28 HIU.out.1 HIU.out.2.1 HIU.out.2.2.1 HIU.out.2.2.2 rfl aA X.length cA (bvs X) rfl hownB (.slice (some ⟨wA.heap.size, 0, none⟩) 1 1) 1 (bvs [0]) rfl hsrc0 ?_ ?_ ?_)
    · unfold maxLen; omega
    · omega
    intro aB cB wB hownC hgC hatC hnilC
    have hvB : Vw wB aB (X ++ [0]).length cB 1 (bvs (X ++ [0])) := by
      have := Vw.of_own hownC
      rw [List.length_append, bvs_append]; exact this
    have hUB : Upd (fun _ => False) w4 wB := HAP.out.1.next (Upd.grown (S := fun k => blk aA = some k) hgC (fun k hk => hk)) (fun i hi h => by have := HAP.out.2 i h; omega)
    have HUB4 := Lib.hid hUB
    clear hownB hsrc0 hownC hgC hatC hnilC HAP
    have htm := oTakeTree_any aB cB (X ++ [0]) wB hvB (by rw [List.length_append]; simp; omega)
    rw [HLL.out.2.1] at htm
    unfold TookE at htm
    have HTM := Lib.hid htm
    have HU4B := Lib.hid (HU4.out.trans hUB)
    have HLB : Hid (X.length + 1 = (X ++ [0]).length) := Lib.hid (by simp)
    clear htm hvB hUB
    go_wp2_with fail
    rw [HLB.out]
    refine HTM.out.mono ?_
    rintro e w5 ⟨a5, c5, rfl, hv5, hU5⟩
    have HU5 := Lib.hid (HU4B.out.trans hU5)
    have HU45 := Lib.hid (HUB4.out.trans hU5)
    clear hv5 hU5 HTM HU4B
    have hbn := oTakeBlob_any a3 c3 X w5 (HV3.out.upd HU5.out (fun _ _ h => h))
    rw [HLL.out.2.2.1] at hbn
    have HBN := Lib.hid hbn
    clear hbn
    go_wp2_with fail
    refine HBN.out.mono ?_
    rintro e w' ⟨rfl, rfl⟩
    clear HBN
    have hpe := plainE_any a4 a c4 c l w5 (HV4.out.upd HU45.out (fun _ _ h => h)) (HY3.out.2.2.upd HU5.out (fun _ _ h => h))
    have HPE := Lib.hid hpe
    clear hpe
    have hxz : ((X.length : Int) == 0) = false := by rw [beq_eq_false_iff_ne]; omega
    go_wp2_with fail
    refine HPE.out.mono ?_
    rintro e w6 ⟨rfl, hU6⟩
    have HU6 := Lib.hid (HU5.out.trans hU6)
    clear hU6 HPE
    have hpre := (HV3.out.upd HU6.out (fun _ _ h => h)).pre (X.length - 1) (by omega)
    rw [HLL.out.2.2.2.2.1, ← HLL.out.2.2.2.1] at hpre
    have htl := oTakeTree_any a3 c3 dl w6 hpre (by have := HLL.out.2.2.2.1; omega)
    rw [HLL.out.2.2.2.2.2, HLL.out.2.2.2.1] at htl
    unfold TookE at htl
    have HTL := Lib.hid htl
    clear htl hpre
    have hj1 : (X.length : Int) - 1 = ((X.length - 1 : Nat) : Int) := by omega
    have hcx := HV3.out.le
    have hccx := HV3.out.cap
    unfold maxLen at hccx
    have hjc : X.length - 1 ≤ c3 := by omega
    have hrd : (RD == 0) = false := by simpa using hless
    generalize hXn : X.length - 1 = xn at *
    have HXN := Lib.hid hXn
    clear hXn
    go_wp2_with fail
    refine HTL.out.mono ?_
    rintro e w7 ⟨a7, c7, rfl, hv7, hU7⟩
    have HM := Lib.hid (And.intro (HY3.out.1.trans (HU6.out.trans hU7)) (((HU6.out.trans hU7).block B (lt_of_heap HY3.out.2.1) (fun h => h)).trans HY3.out.2.1))
    clear hv7 hU7 HTL HY3
    have hcm := fun w => oCommit_any cm w
    unfold Packed at hcm
    have hq0 := com_cells HM.out.2
    have HQ0 := Lib.hid hq0
    by_cases hce : comE cm = 0
    · have hBm : comB cm = encCom cm := by unfold comB; rw [if_pos hce]
      have hcb := com_back cm hce (by omega)
      have hcmo := com_more cm hce (by omega) 0
      have hkk := kind_encCom cm []
      rw [List.append_nil] at hkk
      have htn := ttree_not (encCom cm) (by rw [hkk]; simp)
      have hxl := encCom_len cm (by omega)
      rw [hce, hBm] at hcm
      have HCC := Lib.hid (And.intro hcb (And.intro hcmo htn))
      have HCM := Lib.hid hcm
      generalize encCom cm = Y at *
      clear hce hBm hcb hcmo hkk htn hcm hq0
      go_wp2_with (refine wpList_loadC rfl (.tmp 5) rfl B rfl cm HM.out.2 ?_)
      refine (HCM.out _).mono ?_
      rintro e v1 ⟨ap, cp, rfl, hvp, hfp, hUp⟩
      have HVP := Lib.hid hvp
      have HN1 := Lib.hid (And.intro (HM.out.1.trans hUp) ((hUp.block B (lt_of_heap HM.out.2) (fun h => h)).trans HM.out.2))
      have htc := oTakeCommit_any ap cp Y v1 hvp (by omega)
      rw [HCC.out.1.1, HCC.out.1.2] at htc
      have HTC := Lib.hid htc
      clear hvp hfp hUp htc HCM HM
      go_wp2_with fail
      refine HTC.out.mono ?_
      unfold TookC
      rintro e v2 ⟨rfl, hU2⟩
      have hUa := Upd.alloc (fun _ => False) v2 (.cells (comA cm) 41)
      have HA := Lib.hid (And.intro (hU2.trans hUa) (heap_alloc_new v2 (.cells (comA cm) 41)))
      clear hU2 hUa HTC
      obtain ⟨b19, hb19⟩ : ∃ b, b = v2.heap.size := ⟨_, rfl⟩
      have hrz := heap_alloc_new v2 (.cells Tryd.zeroCells41 41)
      have hrx := alloc_setRow v2 Tryd.zeroCells41 (comA cm) 41
      have HZ := Lib.hid (And.intro hrz hrx)
      clear hrz hrx
      go_upto_region 21 with (refine wpList_storeC rfl (.tmp 19) (.tmp 140) rfl v2.heap.size Tryd.zeroCells41 rfl cm rfl HZ.out.1 rfl ?_; rw [HZ.out.2])
      try simp only [Act.put]
      rw [← hb19] at HA ⊢
      generalize v2.alloc (.cells (comA cm) 41) = v3 at *
      clear HZ hb19
      have hsrc := (HVP.out.upd HA.out.1 (fun _ _ h => h)).src (P := Tryd.prog) (t := 28) Tryd.underlying28 (bvs_cells Y)
      go_wp2_with (at_builtin; refine wpList_app _ rfl (.const (.slice none 0 0)) (.tmp 143) 28 28 rfl 5 i0 (.int .u8 0) 1 1 Tryd.underlying28 HIU.out.1 HIU.out.2.1 HIU.out.2.2.1 HIU.out.2.2.2 rfl none 0 0 [] rfl (World.ownsRow_nil _ _ _ _) (.slice ap Y.length cp) Y.length (bvs Y) rfl hsrc ?_ ?_ ?_)
      · unfold maxLen; omega
      · omega
      intro aA cA wA hownA hgA hatA hnilA
      try simp only [Nat.zero_add, List.nil_append] at hownA
      try simp only [Nat.zero_add]
      have hUA : Upd (fun _ => False) v3 wA := Upd.grown hgA (fun k hk => by cases hk)
      have hfA : ∀ g, blk aA = some g → v3.heap.size ≤ g := by
        intro g hg'
        rcases hatA with h | h
        · rw [h] at hg'; cases hg'
        · rw [h] at hg'; cases hg'; exact Nat.le_refl _
      have hUz := Upd.alloc (fun _ => False) wA (.cells #[.int .u8 0] 5)
      have hownB := ownsRow_upd hownA hUz (fun _ _ h => h)
      have hown0 : (wA.alloc (.cells #[.int .u8 0] 5)).ownsRow 0 5 1 (.slice (some ⟨wA.heap.size, 0, none⟩) 1 1) 1 (bvs [0]) := lit_own wA 0
      have hsrc0 := (Vw.of_own hown0).src (P := Tryd.prog) (t := 28) Tryd.underlying28 (bvs_cells [0])
      have HAP := Lib.hid (And.intro (hUA.trans hUz) hfA)
      clear hsrc hownA hgA hatA hnilA hUA hUz hfA hown0
      go_wp2_with (at_builtin; refine wpList_app _ rfl (.tmp 144) (.tmp 145) 28 28 rfl 5 i0 (.int .u8 0) 1 1 Tryd.underlying28 HIU.out.1 HIU.out.2.1 HIU.out.2.2.1 HIU.out.2.2.2 rfl aA Y.length cA (bvs Y) rfl hownB (.slice (some ⟨wA.heap.size, 0, none⟩) 1 1) 1 (bvs [0]) rfl hsrc0 ?_ ?_ ?_)
      · unfold maxLen; omega
      · omega
      intro aB cB wB hownC hgC hatC hnilC
      have hvB : Vw wB aB (Y ++ [0]).length cB 1 (bvs (Y ++ [0])) := by
        have := Vw.of_own hownC
        rw [List.length_append, bvs_append]; exact this
      have hUB : Upd (fun _ => False) v3 wB := HAP.out.1.next (Upd.grown (S := fun k => blk aA = some k) hgC (fun k hk => hk)) (fun i hi h => by have := HAP.out.2 i h; omega)
      have HUB4 := Lib.hid hUB
      clear hownB hsrc0 hownC hgC hatC hnilC HAP
      have htm := oTakeCommit_any aB cB (Y ++ [0]) wB hvB (by rw [List.length_append]; simp; omega)
      rw [HCC.out.2.1] at htm
      obtain ⟨xm, hxm⟩ : ∃ x, tcomC (Y ++ [0]) = x := ⟨_, rfl⟩
      rw [hxm] at htm
      have HTM := Lib.hid htm
      have HLB : Hid (Y.length + 1 = (Y ++ [0]).length) := Lib.hid (by simp)
      clear htm hxm hvB hUB
      go_wp2_with fail
      rw [HLB.out]
      refine HTM.out.mono ?_
      unfold TookC
      rintro e v5 ⟨rfl, hU5⟩
      have hUa := Upd.alloc (fun _ => False) v5 (.cells (comA xm) 41)
      have HC5 := Lib.hid (HUB4.out.trans (hU5.trans hUa))
      clear hU5 hUa HTM
      have hrz := heap_alloc_new v5 (.cells Tryd.zeroCells41 41)
      have hrx := alloc_setRow v5 Tryd.zeroCells41 (comA xm) 41
      have HZ := Lib.hid (And.intro hrz hrx)
      clear hrz hrx
      go_upto_region 22 with (refine wpList_storeC rfl (.tmp 21) (.tmp 148) rfl v5.heap.size Tryd.zeroCells41 rfl xm rfl HZ.out.1 rfl ?_; rw [HZ.out.2])
      try simp only [Act.put]
      generalize v5.alloc (.cells (comA xm) 41) = v6 at *
      generalize v5.heap.size = b21 at *
      clear HZ
      have htt := oTakeTree_any ap cp Y v6 (HVP.out.upd (HA.out.1.trans HC5.out) (fun _ _ h => h)) (by omega)
      rw [HCC.out.2.2] at htt
      unfold TookE at htt
      have HTT := Lib.hid htt
      clear htt
      go_wp2_with fail
      refine HTT.out.mono ?_
      rintro e v7 ⟨a7, c7, rfl, hv7, hU7⟩
      have hr19 := ((HC5.out.trans hU7).block b19 (lt_of_heap HA.out.2) (fun h => h)).trans HA.out.2
      have hrB := ((HA.out.1.trans (HC5.out.trans hU7)).block B (lt_of_heap HN1.out.2) (fun h => h)).trans HN1.out.2
      have HRR := Lib.hid (And.intro hr19 (And.intro hrB (HN1.out.1.trans (HA.out.1.trans (HC5.out.trans hU7)))))
      clear hv7 hU7 hr19 hrB HTT
      go_wp2_with first
        | refine wpList_loadCG rfl (.tmp 19) rfl b19 rfl cm HRR.out.1 ?_
        | refine wpList_loadCG rfl (.tmp 5) rfl B rfl cm HRR.out.2.1 ?_
        | refine wpList_eqlG rfl (.tmp 158) (.tmp 159) _ rfl cm rfl rfl ?_
      go_ret
      exact ⟨rfl, HRR.out.2.2.clean⟩
    · have hro : cm.rooted = true ∧ (cm.parent == key0) = false := by
        unfold comE at hce
        rw [if_neg (by omega)] at hce
        cases h1 : cm.rooted <;> cases h2 : (cm.parent == key0) <;> simp [h1, h2] at hce ⊢
      have hcb : (comE cm != 0) = true := by simpa using hce
      have hkn := fun w => key_neq0 cm.parent cm.hp w
      rw [hro.2] at hkn
      have HKN := Lib.hid hkn
      have HCM := Lib.hid hcm
      have HRO := Lib.hid hro
      clear hkn hcm hro hce hq0
      generalize comE cm = CE at *
      generalize comB cm = CB at *
      go_wp2_with (refine wpList_loadC rfl (.tmp 5) rfl B rfl cm HM.out.2 ?_)
      refine (HCM.out _).mono ?_
      rintro e v1 ⟨ap, cp, rfl, hvp, hfp, hUp⟩
      have hrB := (hUp.block B (lt_of_heap HM.out.2) (fun h => h)).trans HM.out.2
      obtain ⟨q0, q1, q2, q3, q4⟩ := com_cells hrB
      rw [HRO.out.1] at q0
      have HFI := Lib.hid (HM.out.1.trans hUp)
      have hkn := HKN.out
      clear hvp hfp hUp q2 q3 q4 hrB HCM
      generalize hP0 : (bvs cm.parent).toArray = p0 at hkn
      have HP0 := Lib.hid hP0
      clear hP0
      go_wp2_with (refine wpList_load_keyG rfl (.tmp 132) rfl B 1 rfl cm.parent cm.hp q1 ?_; rw [HP0.out])
      go_ret
      exact ⟨rfl, HFI.out.clean⟩
end Go.Proofs.YteefceainlfdfaaDoor
