
/- tree.paths. -/
import Derived.Test.YtccejkikphpnfaaGreatDoorTs1
import Derived.Test.YtccejkikphpnfaaGreatDoorPath3
namespace Go.Proofs.YtccejkikphpnfaaGreatDoor
set_option linter.unusedSimpArgs false
set_option linter.unusedVariables false
set_option maxRecDepth 100000
open Go.ChangeShapes Go.WideShapes Go.ChangeAt Go.RowKit
open Go.Maps

/-- A file. -/
structure Fl where
  path : List UInt8
  exec : Bool
  text : List UInt8
def flV (x : Fl) : List Value := [sv x.path, .bool x.exec, sv x.text]
theorem flV_len (x : Fl) : (flV x).length = 3 := rfl
theorem fl_get (l : List Fl) (i r : Nat) (hi : i < l.length) (hr : r < 3) : (l.flatMap flV)[i * 3 + r]? = (flV l[i])[r]? := by
  rw [flatMap_get flV 3 flV_len l i r hr, List.getElem?_eq_getElem hi]; rfl
theorem grown_upd {w w' : World} {b : Nat} (h : w.grownBy w' (some b)) : Upd (fun k => k = b) w w' := Upd.grown (S := fun k => k = b) h (fun k hk => by cases hk; rfl)
theorem wpList_put_set {ops : Array Oper} {rest : List Oper} {o : Oper} {a : Act} {w : World} {Q : Exit → Act → World → Prop} (hg : o.guard = none) (m x v : Operand) (hop : o.op = Op.mapUpdate 162 m x v) (b : Nat) (S : List (List UInt8)) (hm : a.eval m = .map (some b)) (hS : SetM w b S)
    (hn : S.length < 1000000) (q : List UInt8) (hq : q.length ≤ maxLen) (hx : a.eval x = tkV q) (hv : a.eval v = .bool true) (hK : ∀ w', SetM w' b (q :: S) → Upd (fun k => k = b) w w' → wpList Tryz.prog ops Q rest (a.put o.dst undef) w') : wpList Tryz.prog ops Q (o :: rest) a w :=
  wpList_mapUpdate_own w hg m x v 162 hop 182 4 tk_keyed Tryz.underlying162 (plainElem Tryz.prog 4) b S.length (setD S) hm hS (by unfold maxLen; omega) (tkV q) (.bool true) (klit q) hx hv (tk_key q hq) (.lit (.bool true)) [] (plainElem_bool Tryz.underlying4 true)
    (fun w' h1 h2 => hK w' h1 (grown_upd h2))

set_option maxHeartbeats 4000000 in
theorem tpaths_any (a : Option Addr) (c : Nat) (l : List Fl) (w : World) (hv : Vw w a l.length c 3 (l.flatMap flV)) (hl : l.length ≤ 100000) (hq : ∀ x ∈ l, x.path.length ≤ maxLen) :
    Calls Tryz.prog 123 #[.slice a l.length c] w fun e w' => ∃ b, e = .returned (.map (some b)) ∧ SetM w' b ((l.map Fl.path).reverse) ∧ w.heap.size ≤ b ∧ Upd (fun _ => False) w w' := by
  have hmm := @run_makeMap Tryz.prog
  have hU0 := Upd.alloc (fun _ => False) w (.map #[] 0)
  have hs0 : SetM (w.alloc (.map #[] 0)) w.heap.size [] := World.ownsMap_made _ _ _ _
  have hcap := hv.cap
  have hlc := hv.le
  unfold maxLen at hcap
  have HI := Lib.hid (And.intro hs0 hU0)
  have HV := Lib.hid hv
  clear hs0 hU0 hv
  go_enter Tryz.func123, Tryz.ntmps123
  go_upto_region 2 with (fail)
  generalize w.alloc (.map #[] 0) = y0 at *
  obtain ⟨B, hB⟩ : ∃ B, w.heap.size = B := ⟨_, rfl⟩
  rw [hB] at HI ⊢
  have HB := Lib.hid hB
  clear hB
  go_wp2_with fail
  go_loopw [9] (fun i wr => ∃ j : Nat, j ≤ l.length ∧ i = .int .i64 (j : Int) ∧ Hid (SetM wr B (((l.map Fl.path).take j).reverse) ∧ Upd (fun _ => False) w wr)) (fun i _ => l.length - (intOf i).toNat)
  case atStart => exact ⟨0, Nat.zero_le _, rfl, HI⟩
  case round =>
    clear HI
    obtain ⟨j, hj, rfl, HI⟩ := hrel
    by_cases hlt : j < l.length
    · have hI : (j : Int) < (l.length : Int) := by omega
      have hvr := HV.out.upd HI.out.2 (fun _ _ h => h)
      obtain ⟨b, o, hb, hcell⟩ := hvr.at (by omega) (by decide)
      subst hb
      have q0 : wr.cell? ⟨b, o + j * 3, none⟩ = some (sv l[j].path) := hcell (j * 3 + 0) _ (fl_get l j 0 hlt (by decide))
      have q1 : wr.cell? ⟨b, o + j * 3 + 1, none⟩ = some (.bool l[j].exec) := hcell (j * 3 + 1) _ (fl_get l j 1 hlt (by decide))
      have q2 : wr.cell? ⟨b, o + j * 3 + 2, none⟩ = some (sv l[j].text) := hcell (j * 3 + 2) _ (fl_get l j 2 hlt (by decide))
      have hlen := hq l[j] (List.getElem_mem hlt)
      have hnext : l[j].path :: ((l.map Fl.path).take j).reverse = ((l.map Fl.path).take (j + 1)).reverse := by
        have e : (l.map Fl.path).take (j + 1) = (l.map Fl.path).take j ++ [l[j].path] := by rw [List.take_succ_eq_append_getElem (by simpa using hlt)]; simp
        rw [e, List.reverse_append]; rfl
      have HN := Lib.hid hnext
      clear hvr hcell hnext
      generalize l[j] = x at *
      obtain ⟨xp, xe, xt⟩ := x
      dsimp only at *
      unfold sv at q0 q2
      have hlj : ((l.map Fl.path).take j).reverse.length < 1000000 := by simp; omega
      have hsx : SetM (wr.alloc (.cells #[.string (str xp), .bool xe, .string (str xt)] 103)) B (((l.map Fl.path).take j).reverse) := HI.out.1.upd (Upd.alloc (fun _ => False) wr _) (fun h => h)
      have HU := Lib.hid (HI.out.2.trans (Upd.alloc (fun _ => False) wr (.cells #[.string (str xp), .bool xe, .string (str xt)] 103)))
      have hpb := HB.out
      clear HI
      go_upto_region 5 with (fail)
      go_wp2_with (at_mapUpdate; refine wpList_put_set rfl (.tmp 13) (.tmp 16) (.const (.bool true)) rfl B _ rfl hsx hlj xp hlen rfl rfl ?_)
      intro w2 hs2 hU2
      have HZ := Lib.hid (And.intro (show SetM w2 B (((l.map Fl.path).take (j + 1)).reverse) from HN.out ▸ hs2) (HU.out.next hU2 (fun i hi e => by omega)))
      clear hs2 hU2 hsx
      go_wp2_with fail
      go_roundw
      case rel => exact ⟨j + 1, by omega, by first | rfl | go_num, HZ⟩
      case measure => simp [intOf]; omega
    · obtain rfl : j = l.length := by omega
      have hI : ¬ (l.length : Int) < (l.length : Int) := by omega
      have hs := HI.out.1
      rw [List.take_of_length_le (by simp)] at hs
      have HZ := Lib.hid (And.intro hs HI.out.2)
      clear hs HI hlt
      go_wp2_with fail
      go_ret
      exact ⟨B, rfl, HZ.out.1, by have := HB.out; omega, HZ.out.2⟩
end Go.Proofs.YtccejkikphpnfaaGreatDoor
