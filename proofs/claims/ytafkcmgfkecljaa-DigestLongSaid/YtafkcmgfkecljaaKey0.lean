/- What Go's library answers on bytes: bytes.Compare, bytes.IndexByte of anything that reads as a list. -/
import Derived.Test.YtafkcmgfkecljaaApp
import Derived.Lib.Bytealg
namespace Go.Proofs.Ytafkcmgfkecljaa
set_option linter.unusedSimpArgs false
set_option linter.unusedVariables false
open Go.ChangeShapes Go.WideShapes Go.ChangeAt Go.RowKit

theorem run_load_u8 {P : Program} (w : World) (a : Addr) (b : UInt8) (h : w.cell? a = some (bv b)) : (load a).run P w = .ok (.int .u8 (b.toNat : Int)) w := by
  rw [run_load, h]
  rfl
theorem run_loadBytes {P : Program} (w : World) : ∀ (l : List UInt8) (a : Addr) (acc : ByteArray), (∀ j u, (bvs l)[j]? = some u → w.cell? (a.add j) = some u) →
    (Extern.Bytes.loadBytes a l.length acc).run P w = .ok ⟨acc.data ++ l.toArray⟩ w := by
  intro l
  induction l with
  | nil => intro a acc _; cases acc; simp [Extern.Bytes.loadBytes, Sem.run_pure]
  | cons b l ih =>
    intro a acc h
    have h0 := h 0 (bv b) rfl
    have hadd : a.add 0 = a := rfl
    rw [hadd] at h0
    rw [List.length_cons, Extern.Bytes.loadBytes]
    simp only [Sem.run_bind, run_load_u8 w a b h0, Result.andThen_ok]
    have := ih (a.add 1) (acc.push b) (fun j u hu => by
      have h1 := h (j + 1) u (by simpa [bvs] using hu)
      have e : (a.add 1).add j = a.add (j + 1) := by
        have hsp := World.cell?_spot h0
        obtain ⟨g, o, sp⟩ := a
        simp only at hsp
        subst hsp
        unfold Addr.add
        by_cases hj : j = 0
        · subst hj; simp
        · simp [hj, Nat.add_assoc, Nat.add_comm 1 j]
      rw [e]; exact h1)
    have e2 : ((b.toNat : Int)).toNat.toUInt8 = b := by simp
    rw [e2, this]
    congr 1
    cases acc
    simp [ByteArray.push]
theorem run_bytesOf {P : Program} {w : World} {a : Option Addr} {c : Nat} {l : List UInt8} (h : Vw w a l.length c 1 (bvs l)) : (Extern.Bytes.bytesOf (.slice a l.length c)).run P w = .ok (str l) w := by
  cases a with
  | none =>
    have hc := h.nil rfl
    have hl : l = [] := List.eq_nil_of_length_eq_zero (by have := h.le; omega)
    subst hl
    rfl
  | some x =>
    show (Extern.Bytes.loadBytes x l.length ByteArray.empty).run P w = _
    rw [run_loadBytes w l x ByteArray.empty (h.cell x rfl)]
    simp [str, ByteArray.empty, ByteArray.emptyWithCapacity]
    rfl
theorem run_compare_vw {P : Program} {w : World} {a a2 : Option Addr} {c c2 : Nat} {l k : List UInt8} (h : Vw w a l.length c 1 (bvs l)) (h2 : Vw w a2 k.length c2 1 (bvs k)) :
    (Extern.BytealgCompare.compare #[.slice a l.length c, .slice a2 k.length c2]).run P w = .ok (.int .i64 (Lib.compareBytes l k)) w := by
  change Sem.run P (do pure (goInt (Extern.BytealgCompare.cmp (← Extern.Bytes.bytesOf (.slice a l.length c)) (← Extern.Bytes.bytesOf (.slice a2 k.length c2))))) w = _
  simp only [Sem.run_bind, run_bytesOf h, run_bytesOf h2, Sem.run_pure, Result.andThen]
  rw [Lib.cmp_eq]
  rfl
theorem run_indexByte_vw {P : Program} {w : World} {a : Option Addr} {c : Nat} {l : List UInt8} (h : Vw w a l.length c 1 (bvs l)) (x : UInt8) :
    (Extern.BytealgIndexByte.indexByte #[.slice a l.length c, .int .u8 (x.toNat : Int)]).run P w = .ok (.int .i64 (Lib.indexByte l x)) w := by
  have e2 : ((x.toNat : Int)).toNat.toUInt8 = x := by simp
  have key := Lib.firstIdx_eq (str l) x
  rw [str_toList] at key
  rw [← key]
  change Sem.run P (do
    let b ← Extern.Bytes.bytesOf (.slice a l.length c)
    let c' ← Extern.Bytes.asByte (.int .u8 (x.toNat : Int))
    match (List.range b.size).find? fun i => b[i]! == c' with
    | some i => pure (goInt i)
    | none => pure (goInt (-1))) w = _
  simp only [Extern.Bytes.asByte, firstIdx, Sem.run_bind, run_bytesOf h, Sem.run_pure, Result.andThen, e2]
  generalize (List.range (str l).size).find? (fun i => (str l)[i]! == x) = r
  cases r <;> rfl

theorem bCompare_any (a a2 : Option Addr) (c c2 : Nat) (l k : List UInt8) (w : World) (h : Vw w a l.length c 1 (bvs l)) (h2 : Vw w a2 k.length c2 1 (bvs k)) :
    Calls Try.prog 53 #[.slice a l.length c, .slice a2 k.length c2] w fun e w' => e = .returned (.int .i64 (Lib.compareBytes l k)) ∧ w' = w := by
  go_enter Try.func53, Try.ntmps53
  go_wp2
  rw [run_callFunc_extern Try.func62 (by kernel_rfl) (by kernel_rfl) (by kernel_rfl) (e := Extern.BytealgCompare.compare) (by kernel_rfl), run_compare_vw h h2]
  simp only [Result.andThen]
  rw [Oper.upon_value]
  go_wp2
  go_ret
  exact ⟨rfl, rfl⟩
theorem bIndexByte_any (a : Option Addr) (c : Nat) (l : List UInt8) (x : UInt8) (w : World) (h : Vw w a l.length c 1 (bvs l)) :
    Calls Try.prog 58 #[.slice a l.length c, .int .u8 (x.toNat : Int)] w fun e w' => e = .returned (.int .i64 (Lib.indexByte l x)) ∧ w' = w := by
  go_enter Try.func58, Try.ntmps58
  go_wp2
  rw [run_callFunc_extern Try.func65 (by kernel_rfl) (by kernel_rfl) (by kernel_rfl) (e := Extern.BytealgIndexByte.indexByte) (by kernel_rfl), run_indexByte_vw h]
  simp only [Result.andThen]
  rw [Oper.upon_value]
  go_wp2
  go_ret
  exact ⟨rfl, rfl⟩
end Go.Proofs.Ytafkcmgfkecljaa
