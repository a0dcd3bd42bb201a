
/- SHA-256: the words that all begin with, the table; bytes.Clone. -/
import Derived.Test.YteefceainlfdfaaSha4
namespace Go.Proofs.Yteefceainlfdfaa
set_option linter.unusedSimpArgs false
set_option linter.unusedVariables false
open Go.ChangeShapes Go.WideShapes Go.ChangeAt Go.RowKit

def H8 : List Int := [1779033703, 3144134277, 1013904242, 2773480762, 1359893119, 2600822924, 528734635, 1541459225]
def K64 : List Int := [1116352408, 1899447441, 3049323471, 3921009573, 961987163, 1508970993, 2453635748, 2870763221, 3624381080, 310598401, 607225278, 1426881987, 1925078388, 2162078206, 2614888103, 3248222580, 3835390401, 4022224774, 264347078, 604807628, 770255983, 1249150122, 1555081692, 1996064986, 2554220882, 2821834349, 2952996808, 3210313671, 3336571891, 3584528711, 113926993, 338241895, 666307205, 773529912, 1294757372, 1396182291, 1695183700, 1986661051, 2177026350, 2456956037, 2730485921, 2820302411, 3259730800, 3345764771, 3516065817, 3600352804, 4094571909, 275423344, 430227734, 506948616, 659060556, 883997877, 958139571, 1322822218, 1537002063, 1747873779, 1955562222, 2024104815, 2227730452, 2361852424, 2428436474, 2756734187, 3204031479, 3329325298]
theorem H8_length : H8.length = 8 := rfl
theorem K64_length : K64.length = 64 := rfl
theorem exec_load_row {P : Program} {w : World} {ev : Operand → Value} {o : Oper} (ty : TypeId) (x : Operand) (ho : o.op = .load ty x) (b : Nat) (cs : Array Value) (t : TypeId) (fr : Nat × Nat) (d : TypeDesc)
    (hx : ev x = .pointer (some ⟨b, 0, none⟩)) (hg : w.heap[b]? = some (.cells cs t fr)) (hu : P.underlying ty = some d) (hd : d.isRow = true) (hi : (P.info? ty).map (·.size) = some cs.size) :
    (execOp ev o).run P w = .ok (.value (.agg cs)) w := by
  have := run_loadVar_row (P := P) w b t ty cs fr d hg hu (by cases d <;> simp_all) hi
  unfold execOp
  simp only [ho, hx, Instr.loadAt, Instr.sureAddr, Sem.run_bind, Sem.run_pure, Result.andThen_ok, this]

theorem bClone_any (a : Option Addr) (c : Nat) (l : List UInt8) (w : World) (hv : Vw w a l.length c 1 (bvs l)) (hl : l.length ≤ 100000000) :
    Calls Try.prog 30 #[.slice a l.length c] w (MadeB w l a.isNone) := by
  obtain ⟨i0, hi, hz0, hz1, hz2⟩ := info_parts infoU8
  cases a with
  | none =>
    have hc := hv.nil rfl
    have hn : l.length = 0 := by have := hv.le; omega
    have hl0 : l = [] := List.eq_nil_of_length_eq_zero hn
    subst hl0 hc
    go_enter Try.func30, Try.ntmps30
    go_wp2_with fail
    go_ret
    exact ⟨none, 0, rfl, World.ownsRow_nil _ _ _ _, Upd.refl _ _, (fun g h => by cases h), (by simp)⟩
  | some x =>
    have hsrc := hv.src (P := Try.prog) (t := 22) Try.underlying22 (bvs_cells l)
    go_enter Try.func30, Try.ntmps30
    go_wp2_with (at_builtin; refine wpList_app _ rfl (.tmp 5) (.tmp 6) 22 22 rfl 5 i0 (.int .u8 0) 1 1 Try.underlying22 hi hz0 hz1 hz2 rfl (some ⟨w.heap.size, 0, none⟩) 0 0 [] rfl (World.ownsRow_made w #[] 0 (Nat.zero_le _) (Nat.zero_le _) (by simp)) (.slice (some x) l.length c) l.length (bvs l) rfl ?_ ?_ ?_ ?_)
    · exact (hv.upd (Upd.alloc (fun _ => False) w _) (fun _ _ h => h)).src (P := Try.prog) (t := 22) Try.underlying22 (bvs_cells l)
    · unfold maxLen; omega
    · omega
    intro a2 c2 w2 hown hg hat hnil
    go_wp2_with fail
    go_ret
    simp only [Nat.zero_add, List.nil_append] at *
    refine ⟨a2, c2, rfl, hown, ?_, ?_, ?_⟩
    · exact (Upd.alloc (fun _ => False) w (.cells #[] 5)).next (Upd.grown (S := fun k => k = w.heap.size) hg (fun k hk => by simpa [blk] using hk.symm)) (fun i hi h => by omega)
    · intro g hg'
      rcases hat with h | h
      · rw [h] at hg'; simp [blk] at hg'; omega
      · rw [h] at hg'; simp at hg'; omega
    · simp [hnil]

set_option maxRecDepth 100000 in
set_option maxHeartbeats 1000000 in
theorem first_any (w : World) : Calls Try.prog 31 #[] w fun e w' => e = .returned (.agg (H8.map uv).toArray) ∧ Upd (fun _ => False) w w' := by
  have hi : (Try.prog.info? 58).map (·.size) = some (H8.map uv).toArray.size := by kernel_rfl
  have hs : (H8.map uv).toArray.size = 8 := by kernel_rfl
  have ho : ((H8.map uv).toArray).all (·.oneCell') = true := uvs_one _
  go_enter Try.func31, Try.ntmps31
  go_wp2_with (first
    | (refine wpList_store_row rfl 58 (.tmp 0) (.tmp 1) rfl w.heap.size (H8.map uv).toArray _ 58 rfl (by refine congrArg Value.agg ?_; kernel_rfl) (heap_alloc_new _ _) hi (by simp [hs]) ho ?_))
  refine ret_row rfl w.heap.size (H8.map uv).toArray 58 (0, 0) _ rfl (setRow_heap _ _ _ _ _ _ (heap_alloc_new _ _)) Try.underlying58 rfl hi rfl ⟨rfl, ?_⟩
  exact ((Upd.alloc (fun i => w.heap.size ≤ i) _ _).trans (Upd.setRow (S := fun i => w.heap.size ≤ i) _ (Nat.le_refl _) _)).mono (fun i hi hs => by omega)

set_option maxRecDepth 100000 in
set_option maxHeartbeats 1000000 in
theorem table_any (w : World) : Calls Try.prog 32 #[] w fun e w' => e = .returned (.agg (K64.map uv).toArray) ∧ Upd (fun _ => False) w w' := by
  have hi : (Try.prog.info? 60).map (·.size) = some (K64.map uv).toArray.size := by kernel_rfl
  have hs : (K64.map uv).toArray.size = 64 := by kernel_rfl
  have ho : ((K64.map uv).toArray).all (·.oneCell') = true := uvs_one _
  go_enter Try.func32, Try.ntmps32
  go_wp2_with (first
    | (refine wpList_store_row rfl 60 (.tmp 0) (.tmp 1) rfl w.heap.size (K64.map uv).toArray _ 60 rfl (by refine congrArg Value.agg ?_; kernel_rfl) (heap_alloc_new _ _) hi (by simp [hs]) ho ?_))
  refine ret_row rfl w.heap.size (K64.map uv).toArray 60 (0, 0) _ rfl (setRow_heap _ _ _ _ _ _ (heap_alloc_new _ _)) Try.underlying60 rfl hi rfl ⟨rfl, ?_⟩
  exact ((Upd.alloc (fun i => w.heap.size ≤ i) _ _).trans (Upd.setRow (S := fun i => w.heap.size ≤ i) _ (Nat.le_refl _) _)).mono (fun i hi hs => by omega)

set_option maxRecDepth 100000 in
set_option maxHeartbeats 1000000 in
theorem reffirsts_any (w : World) : Calls Try.prog 34 #[] w fun e w' => e = .returned (.agg (K64.map uv).toArray) ∧ Upd (fun _ => False) w w' := by
  have hi : (Try.prog.info? 60).map (·.size) = some (K64.map uv).toArray.size := by kernel_rfl
  have hs : (K64.map uv).toArray.size = 64 := by kernel_rfl
  have ho : ((K64.map uv).toArray).all (·.oneCell') = true := uvs_one _
  go_enter Try.func34, Try.ntmps34
  go_wp2_with (first
    | (refine wpList_store_row rfl 60 (.tmp 0) (.tmp 1) rfl w.heap.size (K64.map uv).toArray _ 60 rfl (by refine congrArg Value.agg ?_; kernel_rfl) (heap_alloc_new _ _) hi (by simp [hs]) ho ?_))
  refine ret_row rfl w.heap.size (K64.map uv).toArray 60 (0, 0) _ rfl (setRow_heap _ _ _ _ _ _ (heap_alloc_new _ _)) Try.underlying60 rfl hi rfl ⟨rfl, ?_⟩
  exact ((Upd.alloc (fun i => w.heap.size ≤ i) _ _).trans (Upd.setRow (S := fun i => w.heap.size ≤ i) _ (Nat.le_refl _) _)).mono (fun i hi hs => by omega)
end Go.Proofs.Yteefceainlfdfaa
