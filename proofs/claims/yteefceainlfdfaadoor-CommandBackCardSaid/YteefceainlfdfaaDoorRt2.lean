
/- Changes, texts and commands as they are built in memory. -/
import Derived.Test.YteefceainlfdfaaDoorRt1
import Derived.Test.YteefceainlfdfaaDoorSha1
import Derived.Test.YteefceainlfdfaaDoorPath5
namespace Go.Proofs.YteefceainlfdfaaDoor
set_option linter.unusedSimpArgs false
set_option linter.unusedVariables false
set_option maxRecDepth 100000
open Go.ChangeShapes Go.WideShapes Go.ChangeAt Go.RowKit

def chA (x : Chg) : Array Value := #[sv x.path, .bool x.del, .bool x.exec, sv x.text]
def chZ : Chg := ⟨[], false, false, []⟩
theorem chA_list (x : Chg) : (chA x).toList = chV x := rfl
theorem chA_size (x : Chg) : (chA x).size = 4 := rfl
theorem chA_one (x : Chg) : (chA x).all (·.oneCell') = true := by simp [chA, sv, Value.oneCell']
theorem infoChZ : (Tryd.prog.info? 30).map (fun i => (i.zero, i.size, i.bytes)) = some (some (.agg (chA chZ)), 4, 40) := by kernel_rfl
theorem infoStrZ : (Tryd.prog.info? 9).map (fun i => (i.zero, i.size, i.bytes)) = some (some (.string (str [])), 1, 16) := by kernel_rfl
theorem ch_built (x : Chg) : Tryd.prog.built 30 [(0, .string (str x.path)), (1, .bool x.del), (2, .bool x.exec), (3, .string (str x.text))] = some (chA x) := by
  obtain ⟨p, d, e, t⟩ := x
  kernel_rfl
theorem exec_build_ch {w : World} {ev : Operand → Value} {o : Oper} (a b c d : Operand) (ho : o.op = .build 30 #[(0, a), (1, b), (2, c), (3, d)]) (x : Chg) (ha : ev a = .string (str x.path)) (hb : ev b = .bool x.del) (hc : ev c = .bool x.exec) (hd : ev d = .string (str x.text)) :
    (execOp ev o).run Tryd.prog w = .ok (.value (.agg (chA x))) w := by
  have h := run_build (P := Tryd.prog) w 30 #[(0, .string (str x.path)), (1, .bool x.del), (2, .bool x.exec), (3, .string (str x.text))] (chA x) (ch_built x)
  unfold execOp
  simp only [ho, List.map_toArray, List.map_cons, List.map_nil, ha, hb, hc, hd, Sem.run_bind, h, Result.andThen_ok, Sem.run_pure]
theorem ch_fill (x : Chg) : Instr.fill (fun i => some (i * 4, 4)) ((Array.range (1 * 4)).map ((Value.agg (chA chZ)).cells[· % (Value.agg (chA chZ)).cells.size]!)) [(0, .agg (chA x))] = some (chA x) := by
  obtain ⟨p, d, e, t⟩ := x
  kernel_rfl
theorem wpList_slice_ch {ops : Array Oper} {rest : List Oper} {op : Oper} {ac : Act} {w : World} {Q : Exit → Act → World → Prop} (hgd : op.guard = none) (a : Operand) (ho : op.op = .buildSlice 22 1 #[(0, a)])
    (x : Chg) (ha : ac.eval a = .agg (chA x)) (h : wpList Tryd.prog ops Q rest (ac.put op.dst (.slice (some ⟨w.heap.size, 0, none⟩) 1 1)) (w.alloc (.cells (chA x) 30))) : wpList Tryd.prog ops Q (op :: rest) ac w :=
  wpList_plain hgd fun _ hK => by
    obtain ⟨i0, hi, hz0, hz1, hz2⟩ := info_parts2 infoChZ
    have hf := ch_fill x
    have hr : (Instr.buildSlice 22 1 #[(0, .agg (chA x))]).run Tryd.prog w = .ok (.slice (some ⟨w.heap.size, 0, none⟩) 1 1) (w.alloc (.cells (chA x) 30)) := by
      generalize chA x = X at *
      generalize chA chZ = Z at *
      simp only [Instr.buildSlice, run_underlying Tryd.underlying22, Sem.run_bind, Result.andThen_ok, sizeOf, typeInfo, zeroValue, hi, hz0, hz1, Sem.run_pure, run_program]
      simp [hz0, hz1, hi, hf, newRow, sizeOf, typeInfo, zeroValue]
    unfold Oper.wp execOp
    simp only [ho, List.map_toArray, List.map_cons, List.map_nil, ha, Sem.run_bind, hr, Result.andThen_ok, Sem.run_pure]
    exact hK _ _ h
theorem str_fill (x : List UInt8) : Instr.fill (fun i => some (i, 1)) ((Array.range 1).map (fun i => (Value.string (str [])).cells[i % (Value.string (str [])).cells.size]!)) [(0, .string (str x))] = some #[.string (str x)] := by
  kernel_rfl
theorem wpList_slice_str {ops : Array Oper} {rest : List Oper} {op : Oper} {ac : Act} {w : World} {Q : Exit → Act → World → Prop} (hgd : op.guard = none) (a : Operand) (ho : op.op = .buildSlice 23 1 #[(0, a)])
    (x : List UInt8) (ha : ac.eval a = .string (str x)) (h : wpList Tryd.prog ops Q rest (ac.put op.dst (.slice (some ⟨w.heap.size, 0, none⟩) 1 1)) (w.alloc (.cells #[.string (str x)] 9))) : wpList Tryd.prog ops Q (op :: rest) ac w :=
  wpList_plain hgd fun _ hK => by
    obtain ⟨i0, hi, hz0, hz1, hz2⟩ := info_parts2 infoStrZ
    have hf := str_fill x
    have hr : (Instr.buildSlice 23 1 #[(0, .string (str x))]).run Tryd.prog w = .ok (.slice (some ⟨w.heap.size, 0, none⟩) 1 1) (w.alloc (.cells #[.string (str x)] 9)) := by
      generalize Value.string (str x) = X at *
      generalize Value.string (str []) = Z at *
      simp only [Instr.buildSlice, run_underlying Tryd.underlying23, Sem.run_bind, Result.andThen_ok, sizeOf, typeInfo, zeroValue, hi, hz0, hz1, Sem.run_pure, run_program]
      simp [hz0, hz1, hi, hf, newRow, sizeOf, typeInfo, zeroValue]
    unfold Oper.wp execOp
    simp only [ho, List.map_toArray, List.map_cons, List.map_nil, ha, Sem.run_bind, hr, Result.andThen_ok, Sem.run_pure]
    exact hK _ _ h
/-- A row of one element, fresh. -/
theorem one_row {w : World} {g k : Nat} {X : Array Value} {T e t : TypeId} (hk : Tryd.prog.underlying t = some (.slice e)) (hX : X.size = k) (h1 : X.all (·.oneCell') = true) (h : w.heap[g]? = some (.cells X T)) : Src Tryd.prog k t (.slice (some ⟨g, 0, none⟩) 1 1) 1 X.toList w := by
  have hv : Vw w (some ⟨g, 0, none⟩) 1 1 k X.toList := by
    refine ⟨by simp [hX], Nat.le_refl _, by decide, (fun h => by cases h), fun y hy j u hu => ?_⟩
    cases hy
    have ha : (Addr.add ⟨g, 0, none⟩ j) = ⟨g, j, none⟩ := by unfold Addr.add; split <;> simp_all
    rw [ha, cell_of_row _ _ _ _ _ _ h]
    simpa using hu
  refine hv.src (P := Tryd.prog) (t := t) hk (fun u hu => ?_)
  rw [Array.all_eq_true_iff_forall_mem] at h1
  exact h1 u (by simpa using hu)
theorem free_row {w : World} {b j : Nat} {cs : Array Value} {t : TypeId} (h : w.heap[b]? = some (.cells cs t (0, 0))) : w.frozen? ⟨b, j, none⟩ = false := by simp [World.frozen?, h]

/-- A command's cells, where its lists lie. -/
def cmdA (c : Cmd) (a1 : Option Addr) (c1 : Nat) (a2 : Option Addr) (c2 : Nat) : Array Value :=
  #[.int .i64 c.kind, sv c.msg, .slice a1 c.ch.length c1, .slice a2 c.ps.length c2, .int .i64 c.count, .int .i64 c.commit, .int .i64 c.dest, sv c.name]
/-- The block BC holds a command; its lists lie in rows behind it. -/
structure CB (w : World) (BC : Nat) (c : Cmd) (a1 : Option Addr) (c1 : Nat) (a2 : Option Addr) (c2 : Nat) : Prop where
  row : w.heap[BC]? = some (.cells (cmdA c a1 c1 a2 c2) 25)
  ch : w.ownsRow 0 30 4 (.slice a1 c.ch.length c1) c.ch.length (c.ch.flatMap chV)
  ps : w.ownsRow 0 9 1 (.slice a2 c.ps.length c2) c.ps.length (c.ps.map sv)
  f1 : ∀ g, blk a1 = some g → BC < g
  f2 : ∀ g, blk a2 = some g → BC < g
  ne : ∀ g, blk a1 = some g → blk a2 = some g → False
section
variable {w w' : World} {BC : Nat} {c : Cmd} {a1 : Option Addr} {c1 : Nat} {a2 : Option Addr} {c2 : Nat}
theorem CB.lt (h : CB w BC c a1 c1 a2 c2) : BC < w.heap.size := lt_of_heap h.row
theorem CB.keep {S : Nat → Prop} (h : CB w BC c a1 c1 a2 c2) (hU : Upd S w w') (hS : ∀ k, S k → k < BC) : CB w' BC c a1 c1 a2 c2 :=
  ⟨(hU.block BC h.lt (fun e => by have := hS _ e; omega)).trans h.row,
    ownsRow_upd h.ch hU (fun k hk e => by have := hS _ e; have := h.f1 k ((own_blk _ _ _).symm.trans hk); omega),
    ownsRow_upd h.ps hU (fun k hk e => by have := hS _ e; have := h.f2 k ((own_blk _ _ _).symm.trans hk); omega), h.f1, h.f2, h.ne⟩
theorem CB.inn (h : CB w BC c a1 c1 a2 c2) : CmdIn w c a1 c1 a2 c2 := ⟨Vw.of_own h.ch, Vw.of_own h.ps⟩
theorem CB.cells (h : CB w BC c a1 c1 a2 c2) : w.cell? ⟨BC, 0, none⟩ = some (.int .i64 c.kind) ∧ w.cell? ⟨BC, 1, none⟩ = some (sv c.msg) ∧ w.cell? ⟨BC, 2, none⟩ = some (.slice a1 c.ch.length c1) ∧ w.cell? ⟨BC, 3, none⟩ = some (.slice a2 c.ps.length c2) ∧
    w.cell? ⟨BC, 4, none⟩ = some (.int .i64 c.count) ∧ w.cell? ⟨BC, 5, none⟩ = some (.int .i64 c.commit) ∧ w.cell? ⟨BC, 6, none⟩ = some (.int .i64 c.dest) ∧ w.cell? ⟨BC, 7, none⟩ = some (sv c.name) := by
  refine ⟨?_, ?_, ?_, ?_, ?_, ?_, ?_, ?_⟩ <;> (rw [cell_of_row _ _ _ _ _ _ h.row]; rfl)
theorem CB.thaw (h : CB w BC c a1 c1 a2 c2) (j : Nat) : w.frozen? ⟨BC, j, none⟩ = false := free_row h.row
/-- A change more. -/
theorem CB.addCh (h : CB w BC c a1 c1 a2 c2) (x : Chg) {w8 : World} {a8 : Option Addr} {c8 : Nat} (hown : w8.ownsRow 0 30 4 (.slice a8 (c.ch.length + 1) c8) (c.ch.length + 1) (c.ch.flatMap chV ++ chV x))
    (hg : (w.alloc (.cells (chA x) 30)).grownBy w8 (blk a1)) (hat : blk a8 = blk a1 ∨ blk a8 = some (w.alloc (.cells (chA x) 30)).heap.size) :
    CB (w8.setCell ⟨BC, 2, none⟩ (.slice a8 (c.ch.length + 1) c8)) BC ⟨c.kind, c.msg, c.ch ++ [x], c.ps, c.count, c.commit, c.dest, c.name⟩ a8 c8 a2 c2 ∧ Upd (fun k => BC ≤ k) w (w8.setCell ⟨BC, 2, none⟩ (.slice a8 (c.ch.length + 1) c8)) ∧
      w8.cell? ⟨BC, 2, none⟩ = some (.slice a1 c.ch.length c1) ∧ w8.frozen? ⟨BC, 2, none⟩ = false := by
  have hUa := Upd.alloc (fun _ => False) w (.cells (chA x) 30)
  have hUg := Upd.grown (S := fun k => blk a1 = some k) hg (fun k hk => hk)
  have hz := hUa.size
  have hlt := h.lt
  have hrow8 : w8.heap[BC]? = some (.cells (cmdA c a1 c1 a2 c2) 25) :=
    (hUg.block BC (by omega) (fun e => by have := h.f1 _ e; omega)).trans ((hUa.block BC hlt (fun e => e)).trans h.row)
  have hf8 : ∀ g, blk a8 = some g → BC < g := fun g hg' => by
    rcases hat with e | e
    · exact h.f1 g (e.symm.trans hg')
    · rw [e] at hg'; cases hg'; omega
  have hps := ownsRow_upd (ownsRow_upd h.ps hUa (fun _ _ e => e)) hUg (fun k hk e => h.ne k e ((own_blk _ _ _).symm.trans hk))
  have hst := Upd.setCell (S := fun k => k = BC) w8 (p := ⟨BC, 2, none⟩) rfl (.slice a8 (c.ch.length + 1) c8)
  refine ⟨⟨?_, ?_, ?_, hf8, h.f2, ?_⟩, ?_, ?_, free_row hrow8⟩
  · have := setCell_heap 2 (.slice a8 (c.ch.length + 1) c8) hrow8
    rw [this]
    unfold cmdA
    simp
  · have := ownsRow_setCell_ne hown (a := ⟨BC, 2, none⟩) (by intro e; rw [own_blk] at e; have := hf8 _ e; simp at this) (.slice a8 (c.ch.length + 1) c8)
    simpa using this
  · exact ownsRow_setCell_ne hps (by intro e; rw [own_blk] at e; have := h.f2 _ e; simp at this) _
  · intro g h1 h2
    rcases hat with e | e
    · exact h.ne g (e.symm.trans h1) h2
    · rw [e] at h1
      cases h1
      have := (h.ps.lt _ ((own_blk _ _ _).trans h2)).2
      omega
  · refine ((hUa.mono (fun _ _ e => e.elim)).next (T := fun k => blk a1 = some k) hUg (fun i hi e => ?_)).trans (hst.mono (fun i _ e => by show BC ≤ i; omega))
    have := h.f1 i e
    show BC ≤ i
    omega
  · rw [cell_of_row _ _ _ _ _ _ hrow8]; rfl
/-- A path more. -/
theorem CB.addPs (h : CB w BC c a1 c1 a2 c2) (x : List UInt8) {w8 : World} {a8 : Option Addr} {c8 : Nat} (hown : w8.ownsRow 0 9 1 (.slice a8 (c.ps.length + 1) c8) (c.ps.length + 1) (c.ps.map sv ++ [sv x]))
    (hg : (w.alloc (.cells #[.string (str x)] 9)).grownBy w8 (blk a2)) (hat : blk a8 = blk a2 ∨ blk a8 = some (w.alloc (.cells #[.string (str x)] 9)).heap.size) :
    CB (w8.setCell ⟨BC, 3, none⟩ (.slice a8 (c.ps.length + 1) c8)) BC ⟨c.kind, c.msg, c.ch, c.ps ++ [x], c.count, c.commit, c.dest, c.name⟩ a1 c1 a8 c8 ∧ Upd (fun k => BC ≤ k) w (w8.setCell ⟨BC, 3, none⟩ (.slice a8 (c.ps.length + 1) c8)) ∧
      w8.cell? ⟨BC, 3, none⟩ = some (.slice a2 c.ps.length c2) ∧ w8.frozen? ⟨BC, 3, none⟩ = false := by
  have hUa := Upd.alloc (fun _ => False) w (.cells #[.string (str x)] 9)
  have hUg := Upd.grown (S := fun k => blk a2 = some k) hg (fun k hk => hk)
  have hz := hUa.size
  have hlt := h.lt
  have hrow8 : w8.heap[BC]? = some (.cells (cmdA c a1 c1 a2 c2) 25) :=
    (hUg.block BC (by omega) (fun e => by have := h.f2 _ e; omega)).trans ((hUa.block BC hlt (fun e => e)).trans h.row)
  have hf8 : ∀ g, blk a8 = some g → BC < g := fun g hg' => by
    rcases hat with e | e
    · exact h.f2 g (e.symm.trans hg')
    · rw [e] at hg'; cases hg'; omega
  have hch := ownsRow_upd (ownsRow_upd h.ch hUa (fun _ _ e => e)) hUg (fun k hk e => h.ne k ((own_blk _ _ _).symm.trans hk) e)
  have hst := Upd.setCell (S := fun k => k = BC) w8 (p := ⟨BC, 3, none⟩) rfl (.slice a8 (c.ps.length + 1) c8)
  refine ⟨⟨?_, ?_, ?_, h.f1, hf8, ?_⟩, ?_, ?_, free_row hrow8⟩
  · have := setCell_heap 3 (.slice a8 (c.ps.length + 1) c8) hrow8
    rw [this]
    unfold cmdA
    simp
  · exact ownsRow_setCell_ne hch (by intro e; rw [own_blk] at e; have := h.f1 _ e; simp at this) _
  · have := ownsRow_setCell_ne hown (a := ⟨BC, 3, none⟩) (by intro e; rw [own_blk] at e; have := hf8 _ e; simp at this) (.slice a8 (c.ps.length + 1) c8)
    simpa using this
  · intro g h1 h2
    rcases hat with e | e
    · exact h.ne g h1 (e.symm.trans h2)
    · rw [e] at h2
      cases h2
      have := (h.ch.lt _ ((own_blk _ _ _).trans h1)).2
      omega
  · refine ((hUa.mono (fun _ _ e => e.elim)).next (T := fun k => blk a2 = some k) hUg (fun i hi e => ?_)).trans (hst.mono (fun i _ e => by show BC ≤ i; omega))
    have := h.f2 i e
    show BC ≤ i
    omega
  · rw [cell_of_row _ _ _ _ _ _ hrow8]; rfl
/-- A cell of it that is no list is stored. -/
theorem CB.set (h : CB w BC c a1 c1 a2 c2) (j : Nat) (u : Value) (c' : Cmd) (hc : (cmdA c a1 c1 a2 c2).setIfInBounds j u = cmdA c' a1 c1 a2 c2) (h1 : c'.ch = c.ch) (h2 : c'.ps = c.ps) :
    CB (w.setCell ⟨BC, j, none⟩ u) BC c' a1 c1 a2 c2 ∧ Upd (fun k => BC ≤ k) w (w.setCell ⟨BC, j, none⟩ u) := by
  refine ⟨⟨?_, ?_, ?_, h.f1, h.f2, h.ne⟩, Upd.setCell (S := fun k => BC ≤ k) w (p := ⟨BC, j, none⟩) (Nat.le_refl BC) u⟩
  · rw [setCell_heap j u h.row, hc]
  · rw [h1]; exact ownsRow_setCell_ne h.ch (by intro e; rw [own_blk] at e; have := h.f1 _ e; simp at this) _
  · rw [h2]; exact ownsRow_setCell_ne h.ps (by intro e; rw [own_blk] at e; have := h.f2 _ e; simp at this) _
end
theorem infoCmd : (Tryd.prog.info? 25).map (·.size) = some 8 := by kernel_rfl
theorem infoCmd2 (c : Cmd) (a1 : Option Addr) (c1 : Nat) (a2 : Option Addr) (c2 : Nat) : (Tryd.prog.info? 25).map (·.size) = some (cmdA c a1 c1 a2 c2).size := by rw [infoCmd]; rfl
theorem cmdA_one (c : Cmd) (a1 : Option Addr) (c1 : Nat) (a2 : Option Addr) (c2 : Nat) : (cmdA c a1 c1 a2 c2).all (·.oneCell') = true := by simp [cmdA, sv, Value.oneCell']
theorem ret_cmd {fn : Func} {R : Ending → World → Prop} {a : Act} {w : World} {p u : Tmp} (h : fn.results = #[.cell p 25, .tmp u]) (b : Nat) (c : Cmd) (a1 : Option Addr) (c1 : Nat) (a2 : Option Addr) (c2 : Nat) (e : Int)
    (hp : a.tmps.getD p undef = .pointer (some ⟨b, 0, none⟩)) (hg : w.heap[b]? = some (.cells (cmdA c a1 c1 a2 c2) 25)) (hv : a.tmps.getD u undef = .int .i64 e) (hdf : a.defers = []) (hR : R (.returned (.tuple #[cmdV c a1 c1 a2 c2, .int .i64 e])) w) : bodyPost Tryd.prog fn R .ret a w := by
  refine bodyPost_ret (v := .tuple #[cmdV c a1 c1 a2 c2, .int .i64 e]) ?_ hdf hR
  have := run_loadVar_row (P := Tryd.prog) w b 25 25 (cmdA c a1 c1 a2 c2) (0, 0) _ hg Tryd.underlying25 (by simp) (infoCmd2 c a1 c1 a2 c2)
  rw [results_cell_tmp h, hp, hv]
  simp [Result.andThen, asAddr, this]
  rfl
set_option maxHeartbeats 1000000 in
theorem slEqB_any (a a2 : Option Addr) (c c2 : Nat) (l k : List UInt8) (w : World) (hv : Vw w a l.length c 1 (bvs l)) (hv2 : Vw w a2 k.length c2 1 (bvs k)) :
    Calls Tryd.prog 69 #[.slice a l.length c, .slice a2 k.length c2] w fun e w' => e = .returned (.bool (l == k)) ∧ Upd (fun _ => False) w w' := by
  have hcap := hv.cap
  have hlc := hv.le
  have hcap2 := hv2.cap
  have hlc2 := hv2.le
  unfold maxLen at hcap hcap2
  by_cases hlen : l.length = k.length
  · have hb : ((l.length : Int) != (k.length : Int)) = false := by simp [hlen]
    have HL := Lib.hid hlen
    clear hlen
    go_enter Tryd.func69, Tryd.ntmps69
    go_wp2_with fail
    go_loopw [13] (fun i wr => ∃ j : Nat, j ≤ l.length ∧ i = .int .i64 (j : Int) ∧ Upd (fun _ => False) w wr ∧ Hid (l.take j = k.take j)) (fun i _ => l.length - (intOf i).toNat)
    case atStart => exact ⟨0, Nat.zero_le _, rfl, Upd.refl _ _, rfl⟩
    case round =>
      obtain ⟨j, hj, rfl, hU, hE⟩ := hrel
      have hvr := hv.upd hU (fun _ _ h => h)
      have hvr2 := hv2.upd hU (fun _ _ h => h)
      by_cases hlt : j < l.length
      · have hlt2 : j < k.length := by have := HL.out; omega
        obtain ⟨b, off, rfl, hcell⟩ := hvr.at (by omega) (by decide)
        obtain ⟨b2, off2, rfl, hcell2⟩ := hvr2.at (by omega) (by decide)
        have hce : wr.cell? ⟨b, off + j, none⟩ = some (.int .u8 (l[j].toNat : Int)) := hcell j _ (bvs_get l j hlt)
        have hce2 : wr.cell? ⟨b2, off2 + j, none⟩ = some (.int .u8 (k[j].toNat : Int)) := hcell2 j _ (bvs_get k j hlt2)
        have hI : (j : Int) < (l.length : Int) := by omega
        have hI2 : (j : Int) < (k.length : Int) := by omega
        have hbe : ((l[j].toNat : Int) != (k[j].toNat : Int)) = !(l[j] == k[j]) := by
          rw [Bool.eq_iff_iff]; simp [← UInt8.toNat_inj]; omega
        have hne : (l[j] == k[j]) = false → Hid ((l == k) = false) := fun hxy => Lib.hid (by
          cases h : l == k
          · rfl
          · have e := eq_of_beq h
            subst e
            simp at hxy)
        have heq : (l[j] == k[j]) = true → Hid (l.take (j + 1) = k.take (j + 1)) := fun hxy => Lib.hid (by
          rw [take_succ_get l j hlt, take_succ_get k j hlt2, hE.out, eq_of_beq hxy])
        have HNE := Lib.hid hne
        have HEQ := Lib.hid heq
        have HQ := Lib.hid (And.intro hce hce2)
        have HU := Lib.hid hU
        clear hcell hcell2 hvr hvr2 hv hv2 hne heq hE hU hce hce2
        generalize (l[j] == k[j]) = bb at *
        have HBE := Lib.hid hbe
        clear hbe
        go_upto_region 6 with (fail)
        refine wp_region_plan_last [] [0, 1, 2, 3, 4, 5, 6, 7, 8] (fun w' => w'.cell? ⟨b, off + j, none⟩ = some (.int .u8 (l[j].toNat : Int)) ∧ w'.cell? ⟨b2, off2 + j, none⟩ = some (.int .u8 (k[j].toNat : Int))) (by kernel_rfl) (by kernel_rfl) HQ.out ?_
        iterate 9
          refine plan_last (v := ?_) rfl rfl (fun w' hS => ?_) ?_
          rotate_left
          · skip
            go_simp; try with_reducible rfl
          simp only [HBE.out, Act.put, List.getElem_toArray, List.getElem_cons_zero, List.getElem_cons_succ, List.setIfInBounds_toArray, List.set_cons_zero, List.set_cons_succ]
        refine plan_end ?_
        cases bb with
        | false =>
          have HN := HNE.out rfl
          go_wp2_with fail
          go_ret
          exact ⟨by rw [HN.out]; rfl, HU.out.trans (Upd.drew _ _)⟩
        | true =>
          have HN := HEQ.out rfl
          go_wp2_with fail
          go_roundw
          case rel => exact ⟨j + 1, by omega, by first | rfl | go_num, HU.out.trans (Upd.drew _ _), HN⟩
          case measure => simp [intOf]; omega
      · have hI : ¬ (j : Int) < (l.length : Int) := by omega
        have heq : (l == k) = true := by
          have := hE.out
          rw [List.take_of_length_le (by omega), List.take_of_length_le (by have := HL.out; omega)] at this
          simpa using this
        have HE := Lib.hid heq; clear heq
        go_wp2_with fail
        go_ret
        exact ⟨by rw [HE.out]; rfl, hU⟩
  · have hb : ((l.length : Int) != (k.length : Int)) = true := by simp; omega
    have hne : (l == k) = false := by
      cases h : l == k
      · rfl
      · exact absurd (by rw [eq_of_beq h]) hlen
    have HNE := Lib.hid hne; clear hne hlen
    go_enter Tryd.func69, Tryd.ntmps69
    go_wp2_with fail
    go_ret
    exact ⟨by rw [HNE.out]; rfl, Upd.refl _ _⟩
end Go.Proofs.YteefceainlfdfaaDoor
