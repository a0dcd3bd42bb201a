
/- A command that comes in, opened, with the bound on each of its texts. -/
import Derived.Test.YteefceainlfdfaaDoorRows
import Derived.Test.YteefceainlfdfaaDoorOpen
import Derived.Test.YteefceainlfdfaaDoorRc5
import Derived.OpenShut
namespace Go.Proofs.YteefceainlfdfaaDoor
set_option linter.unusedSimpArgs false
set_option linter.unusedVariables false
set_option maxRecDepth 100000
open Go.ChangeShapes Go.WideShapes Go.ChangeAt Go.RowKit

theorem weightsAll_append {H : Type} {P : Program} {e : TypeId} (l r : List (DataW H)) : DataW.weightsAll P e (l ++ r) = DataW.weightsAll P e l ++ DataW.weightsAll P e r := by
  induction l with
  | nil => simp [DataW.weightsAll]
  | cons x l ih => simp only [List.cons_append, DataW.weightsAll, ih, List.append_assoc]
section
variable {H : Type} {enc : TypeId × Value → H} {W : World}
theorem open_elemsG {X : Type} (dec : X → List Value) (good : X → Prop) (t e : TypeId) (k : Nat) (ht : Tryd.prog.underlying t = some (.slice e)) (hk : Tryd.prog.cellsOf e = k) (h0 : 0 < k) (hl : ∀ x, (dec x).length = k)
    (hdec : ∀ fuel cs y, cs.length = k → DataW.trod enc Tryd.prog W 0 (fun _ => true) true fuel e cs = some y → ∃ x, cs = dec x ∧ ((∀ m ∈ y.1.weights Tryd.prog e, m ≤ reachBytes) → good x))
    {fuel : Nat} {cs : List Value} {y : DataW H × List MemPlace} (h : DataW.trod enc Tryd.prog W 0 (fun _ => true) true fuel t cs = some y) :
    ∃ (a : Option Addr) (c : Nat) (xs : List X), cs = [.slice a xs.length c] ∧ Vw W a xs.length c k (xs.flatMap dec) ∧ ((∀ m ∈ y.1.weights Tryd.prog t, m ≤ reachBytes) → ∀ x ∈ xs, good x) := by
  subst hk
  rcases DataW.trod_slice ht h with ⟨rfl, _⟩ | ⟨a, len, cap, elems, rest, n, _, rfl, rfl, hb, hlc, hm, hlen, hel, hsp, hns⟩
  · exact ⟨none, 0, [], rfl, Vw.nl _ _, fun _ x hx => by cases hx⟩
  · have each : ∀ i, (hi : i < elems.length) → ∃ cs x, W.cells? 0 (a.add (i * Tryd.prog.cellsOf e)) (Tryd.prog.cellsOf e) = some cs ∧ cs = dec x ∧ ((∀ m ∈ elems[i].1.weights Tryd.prog e, m ≤ reachBytes) → good x) := by
      intro i hi
      have h1 := hel i (by omega)
      rw [List.getElem?_eq_getElem hi] at h1
      obtain ⟨cs, hcs, htr⟩ := Option.bind_eq_some_iff.1 h1
      obtain ⟨x, hx, hg⟩ := hdec n cs _ (cells?_get hcs).1 htr
      exact ⟨cs, x, hcs, hx, hg⟩
    have all : ∀ m, m ≤ len → ∃ xs : List X, xs.length = m ∧ ((∀ n ∈ DataW.weightsAll Tryd.prog e ((elems.take m).map (·.1)), n ≤ reachBytes) → ∀ x ∈ xs, good x) ∧ ∀ i x, xs[i]? = some x → W.cells? 0 (a.add (i * Tryd.prog.cellsOf e)) (Tryd.prog.cellsOf e) = some (dec x) := by
      intro m
      induction m with
      | zero => intro _; exact ⟨[], rfl, (fun _ x hx => by cases hx), (fun i x hx => by simp at hx)⟩
      | succ m ih =>
        intro hm
        obtain ⟨xs, hx1, hx2, hx3⟩ := ih (by omega)
        obtain ⟨cs, x, hcs, rfl, hg⟩ := each m (by omega)
        refine ⟨xs ++ [x], by simp [hx1], ?_, ?_⟩
        · rw [List.take_succ_eq_append_getElem (by omega), List.map_append, weightsAll_append]
          intro hw z hz
          rcases List.mem_append.1 hz with hz | hz
          · exact hx2 (fun n hn => hw n (List.mem_append_left _ hn)) z hz
          · simp at hz; subst hz
            exact hg (fun n hn => hw n (List.mem_append_right _ (by simpa [DataW.weightsAll] using hn)))
        · intro i z hz
          rcases Nat.lt_or_ge i xs.length with hi | hi
          · rw [List.getElem?_append_left hi] at hz; exact hx3 i z hz
          · rw [List.getElem?_append_right hi] at hz
            have : i = xs.length := by
              have := (List.getElem?_eq_some_iff.1 hz).1
              simp at this; omega
            subst this
            simp at hz
            subst hz
            rw [hx1]; exact hcs
    obtain ⟨xs, hx1, hx2, hx3⟩ := all len (Nat.le_refl _)
    have hcell : ∀ j u, (xs.flatMap dec)[j]? = some u → W.cell? (a.add j) = some u := by
      intro j u hu
      have hj : j = j / Tryd.prog.cellsOf e * Tryd.prog.cellsOf e + j % Tryd.prog.cellsOf e := by rw [Nat.mul_comm]; exact (Nat.div_add_mod _ _).symm
      have hr := Nat.mod_lt j h0
      rw [hj] at hu
      rw [flatMap_get dec _ hl xs _ _ hr] at hu
      obtain ⟨x, hx, hxu⟩ := Option.bind_eq_some_iff.1 hu
      have := (cells?_get (hx3 _ x hx)).2 _ hr
      rw [Addr.add_add, ← hj] at this
      rw [this]; exact hxu
    refine ⟨some a, cap, xs, by rw [hx1], ⟨by rw [flatMap_length dec _ hl], by omega, hm, (fun h => by cases h), (fun z hz => by cases hz; exact hcell)⟩, fun hw => hx2 (fun n hn => hw n ?_)⟩
    rw [List.take_of_length_le (by omega)] at hn
    simp only [DataW.weights, ht]
    exact List.mem_cons_of_mem _ (List.mem_append_left _ hn)

theorem flat_sv : ∀ (l : List (List UInt8)), l.flatMap (fun x => [sv x]) = l.map sv
  | [] => rfl
  | x :: l => by rw [List.flatMap_cons, flat_sv l, List.map_cons]; rfl
theorem open_change {fuel : Nat} {cs : List Value} {y : DataW H × List MemPlace} (hl : cs.length = 4) (hy : DataW.trod enc Tryd.prog W 0 (fun _ => true) true fuel 30 cs = some y) : ∃ x : Chg, cs = chV x ∧ ((∀ m ∈ y.1.weights Tryd.prog 30, m ≤ reachBytes) → x.path.length ≤ 140737488351232 ∧ x.text.length ≤ 140737488351232) := by
  obtain ⟨xs, n, _, hx, _, hlen, hg⟩ := DataW.trod_struct Tryd.underlying30 hy
  match cs, hl with
  | [c0, c1, c2, c3], _ =>
    match xs, hlen with
    | [y0, y1, y2, y3], _ =>
      have k0 : Tryd.prog.cellsOf 9 = 1 := by kernel_rfl
      have k1 : Tryd.prog.cellsOf 4 = 1 := by kernel_rfl
      have g0 : DataW.trod enc Tryd.prog W 0 (fun _ => true) true n 9 (([c0, c1, c2, c3].drop 0).take (Tryd.prog.cellsOf 9)) = some y0 := hg 0 _ rfl
      have g1 : DataW.trod enc Tryd.prog W 0 (fun _ => true) true n 4 (([c0, c1, c2, c3].drop 1).take (Tryd.prog.cellsOf 4)) = some y1 := hg 1 _ rfl
      have g2 : DataW.trod enc Tryd.prog W 0 (fun _ => true) true n 4 (([c0, c1, c2, c3].drop 2).take (Tryd.prog.cellsOf 4)) = some y2 := hg 2 _ rfl
      have g3 : DataW.trod enc Tryd.prog W 0 (fun _ => true) true n 9 (([c0, c1, c2, c3].drop 3).take (Tryd.prog.cellsOf 9)) = some y3 := hg 3 _ rfl
      rw [k0] at g0 g3
      rw [k1] at g1 g2
      obtain ⟨s0, e0, f0, _⟩ := DataW.trod_string Tryd.underlying9 g0
      obtain ⟨b1, e1, f1⟩ := DataW.trod_bool Tryd.underlying4 g1
      obtain ⟨b2, e2, f2⟩ := DataW.trod_bool Tryd.underlying4 g2
      obtain ⟨s3, e3, f3, _⟩ := DataW.trod_string Tryd.underlying9 g3
      simp at e0 e1 e2 e3
      subst e0 e1 e2 e3
      refine ⟨⟨s0.data.toList, b1, b2, s3.data.toList⟩, by simp [chV, sv, str_data], ?_⟩
      rw [hx, f0, f3]
      intro hw
      have hw' : ∀ m ∈ DataW.weightsEach Tryd.prog [9, 4, 4, 9] [DataW.lit (H := H) (.string s0.data.toList), y1.1, y2.1, DataW.lit (.string s3.data.toList)], m ≤ reachBytes := hw
      refine ⟨hw' _ ?_, hw' _ ?_⟩ <;> simp [DataW.weightsEach, DataW.weights]
theorem open_cmd {base : Nat} {v : Value} {d : DataW H} {ps : List MemPlace} (hval : Value.okWide Tryd.prog W .any base 25 v)
    (h : DataW.Trod enc Tryd.prog W 0 (fun _ => true) true 25 v d ps) : ∃ (c : Cmd) (a1 : Option Addr) (c1 : Nat) (a2 : Option Addr) (c2 : Nat), v = cmdV c a1 c1 a2 c2 ∧ CmdIn W c a1 c1 a2 c2 ∧ ((∀ m ∈ d.weights Tryd.prog 25, m ≤ reachBytes) → Fits c) := by
  have hv : ∃ cs : Array Value, v = .agg cs := by
    simp only [Value.okWide, Tryd.underlying25] at hval
    obtain ⟨cs, h1, h2, _⟩ := hval
    exact ⟨cs, h1⟩
  obtain ⟨cs, rfl⟩ := hv
  obtain ⟨fuel, hf⟩ := h
  simp only [Value.cells] at hf
  obtain ⟨xs, n, _, hx, hcl, hlen, hg⟩ := DataW.trod_struct Tryd.underlying25 hf
  have hc8 : Tryd.prog.cellsOf 25 = 8 := by kernel_rfl
  rw [hc8] at hcl
  have hcs : cs = cs.toList.toArray := by simp
  generalize cs.toList = L at *
  subst hcs
  match L, hcl with
  | [c0, c1, c2, c3, c4, c5, c6, c7], _ =>
    match xs, hlen with
    | [y0, y1, y2, y3, y4, y5, y6, y7], _ =>
      have k0 : Tryd.prog.cellsOf 9 = 1 := by kernel_rfl
      have k1 : Tryd.prog.cellsOf 3 = 1 := by kernel_rfl
      have k2 : Tryd.prog.cellsOf 22 = 1 := by kernel_rfl
      have k3 : Tryd.prog.cellsOf 23 = 1 := by kernel_rfl
      have k4 : Tryd.prog.cellsOf 30 = 4 := by kernel_rfl
      have g0 : DataW.trod enc Tryd.prog W 0 (fun _ => true) true n 3 (([c0, c1, c2, c3, c4, c5, c6, c7].drop 0).take (Tryd.prog.cellsOf 3)) = some y0 := hg 0 _ rfl
      have g1 : DataW.trod enc Tryd.prog W 0 (fun _ => true) true n 9 (([c0, c1, c2, c3, c4, c5, c6, c7].drop 1).take (Tryd.prog.cellsOf 9)) = some y1 := hg 1 _ rfl
      have g2 : DataW.trod enc Tryd.prog W 0 (fun _ => true) true n 22 (([c0, c1, c2, c3, c4, c5, c6, c7].drop 2).take (Tryd.prog.cellsOf 22)) = some y2 := hg 2 _ rfl
      have g3 : DataW.trod enc Tryd.prog W 0 (fun _ => true) true n 23 (([c0, c1, c2, c3, c4, c5, c6, c7].drop 3).take (Tryd.prog.cellsOf 23)) = some y3 := hg 3 _ rfl
      have g4 : DataW.trod enc Tryd.prog W 0 (fun _ => true) true n 3 (([c0, c1, c2, c3, c4, c5, c6, c7].drop 4).take (Tryd.prog.cellsOf 3)) = some y4 := hg 4 _ rfl
      have g5 : DataW.trod enc Tryd.prog W 0 (fun _ => true) true n 3 (([c0, c1, c2, c3, c4, c5, c6, c7].drop 5).take (Tryd.prog.cellsOf 3)) = some y5 := hg 5 _ rfl
      have g6 : DataW.trod enc Tryd.prog W 0 (fun _ => true) true n 3 (([c0, c1, c2, c3, c4, c5, c6, c7].drop 6).take (Tryd.prog.cellsOf 3)) = some y6 := hg 6 _ rfl
      have g7 : DataW.trod enc Tryd.prog W 0 (fun _ => true) true n 9 (([c0, c1, c2, c3, c4, c5, c6, c7].drop 7).take (Tryd.prog.cellsOf 9)) = some y7 := hg 7 _ rfl
      rw [k0] at g1 g7
      rw [k1] at g0 g4 g5 g6
      rw [k2] at g2
      rw [k3] at g3
      obtain ⟨n0, e0, _, _⟩ := DataW.trod_int Tryd.underlying3 g0
      obtain ⟨s1, e1, f1, _⟩ := DataW.trod_string Tryd.underlying9 g1
      obtain ⟨a2, q2, l2, e2, v2, b2⟩ := open_elemsG chV (fun x => x.path.length ≤ 140737488351232 ∧ x.text.length ≤ 140737488351232) 22 30 4 Tryd.underlying22 k4 (by decide) (fun _ => rfl) (fun fuel cs y hl hy => open_change hl hy) g2
      obtain ⟨a3, q3, l3, e3, v3, b3⟩ := open_elemsG (fun x => [sv x]) (fun x => x.length ≤ 140737488351232) 23 9 1 Tryd.underlying23 k0 (by decide) (fun _ => rfl) (fun fuel cs y hl hy => by
        obtain ⟨s, e, f, _⟩ := DataW.trod_string Tryd.underlying9 hy
        refine ⟨s.data.toList, by rw [e]; simp [sv, str_data], ?_⟩
        rw [f]
        intro hw
        exact hw _ (by simp [DataW.weights])) g3
      obtain ⟨n4, e4, _, _⟩ := DataW.trod_int Tryd.underlying3 g4
      obtain ⟨n5, e5, _, _⟩ := DataW.trod_int Tryd.underlying3 g5
      obtain ⟨n6, e6, _, _⟩ := DataW.trod_int Tryd.underlying3 g6
      obtain ⟨s7, e7, f7, _⟩ := DataW.trod_string Tryd.underlying9 g7
      simp at e0 e1 e2 e3 e4 e5 e6 e7
      subst e0 e1 e2 e3 e4 e5 e6 e7
      refine ⟨⟨n0, s1.data.toList, l2, l3, n4, n5, n6, s7.data.toList⟩, a2, q2, a3, q3, by simp [cmdV, sv, str_data], ⟨v2, ?_⟩, ?_⟩
      · rw [← flat_sv]; exact v3
      · have hd : d = (DataW.agg ([y0, y1, y2, y3, y4, y5, y6, y7].map (·.1)), [y0, y1, y2, y3, y4, y5, y6, y7].flatMap (·.2)).1 := by rw [← hx]
        rw [hd, f1, f7]
        intro hw
        have hw' : ∀ m ∈ DataW.weightsEach Tryd.prog [3, 9, 22, 23, 3, 3, 3, 9] [y0.1, DataW.lit (H := H) (.string s1.data.toList), y2.1, y3.1, y4.1, y5.1, y6.1, DataW.lit (.string s7.data.toList)], m ≤ reachBytes := hw
        simp only [DataW.weightsEach, List.mem_append] at hw'
        refine ⟨hw' _ (.inr (.inl (by simp [DataW.weights]))), hw' _ (.inr (.inr (.inr (.inr (.inr (.inr (.inr (.inl (by simp [DataW.weights]))))))))), b2 (fun m hm => hw' m (.inr (.inr (.inl hm)))), b3 (fun m hm => hw' m (.inr (.inr (.inr (.inl hm)))))⟩
end
end Go.Proofs.YteefceainlfdfaaDoor
