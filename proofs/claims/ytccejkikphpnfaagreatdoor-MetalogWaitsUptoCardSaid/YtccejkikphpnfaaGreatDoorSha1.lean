
/- SHA-256, the words: turning a word, as the program and as the reference do. -/
import Derived.Test.YtccejkikphpnfaaGreatDoorOpen
import Derived.Deep.MidRow
namespace Go.Proofs.YtccejkikphpnfaaGreatDoor
set_option linter.unusedSimpArgs false
set_option linter.unusedVariables false
open Go.ChangeShapes Go.WideShapes Go.ChangeAt Go.RowKit

def uv (x : Int) : Value := .int .u32 x
theorem or_comm32 (x y : Int) : bits BinOp.or IntKind.u32 x y = bits BinOp.or IntKind.u32 y x := by
  unfold bits
  simp [BitVec.or_comm]
/-- A word, turned right. -/
def rotI (x : Int) (n : Nat) : Int := bits BinOp.or IntKind.u32 (x / 2 ^ n) (x * 2 ^ (32 - n) % 4294967296)
theorem and31 : ∀ n : Fin 32, 1 ≤ n.val → bits BinOp.and IntKind.u64 (IntKind.u64.wrap (-(n.val : Int))) 31 = ((32 - n.val : Nat) : Int) := by decide +kernel
/-! A turn. -/
def bigS0 (a : Int) : Int := bits BinOp.xor IntKind.u32 (bits BinOp.xor IntKind.u32 (rotI a 2) (rotI a 13)) (rotI a 22)
def bigS1 (e : Int) : Int := bits BinOp.xor IntKind.u32 (bits BinOp.xor IntKind.u32 (rotI e 6) (rotI e 11)) (rotI e 25)
def notI (e : Int) : Int := bits BinOp.xor IntKind.u32 (if IntKind.u32.signed = true then -1 else IntKind.u32.max) e
def chI (e f g : Int) : Int := bits BinOp.xor IntKind.u32 (bits BinOp.and IntKind.u32 e f) (bits BinOp.and IntKind.u32 (notI e) g)
def majI (a b c : Int) : Int := bits BinOp.xor IntKind.u32 (bits BinOp.xor IntKind.u32 (bits BinOp.and IntKind.u32 a b) (bits BinOp.and IntKind.u32 a c)) (bits BinOp.and IntKind.u32 b c)
def m32 (x : Int) : Int := x % 4294967296
def pI (e f g h k w : Int) : Int := m32 (h + bigS1 e + chI e f g + k + w)
def roundI (k w : Int) : List Int → List Int
  | [a, b, c, d, e, f, g, h] => [m32 (pI e f g h k w + bigS0 a + majI a b c), a, b, c, m32 (d + pI e f g h k w), e, f, g]
  | s => s
def roundsI (K W : List Int) (s : List Int) : Nat → List Int
  | 0 => s
  | n + 1 => roundI (K.getD n 0) (W.getD n 0) (roundsI K W s n)
theorem roundI_length (k w : Int) (s : List Int) : (roundI k w s).length = s.length := by
  unfold roundI; split <;> rfl
theorem roundsI_length (K W s : List Int) (n : Nat) : (roundsI K W s n).length = s.length := by
  induction n with
  | zero => rfl
  | succ n ih => rw [roundsI, roundI_length, ih]
def addW (h s : List Int) : Nat → List Int
  | 0 => h
  | n + 1 => (addW h s n).set n (m32 ((addW h s n).getD n 0 + s.getD n 0))
theorem addW_length (h s : List Int) (n : Nat) : (addW h s n).length = h.length := by
  induction n <;> simp [addW, *]
theorem eight {s : List Int} (h : s.length = 8) : ∃ a b c d e f g i, s = [a, b, c, d, e, f, g, i] := by
  match s, h with
  | [a, b, c, d, e, f, g, i], _ => exact ⟨a, b, c, d, e, f, g, i, rfl⟩

/-! Whole arrays, by value. -/
theorem wpList_load_row {P : Program} {ops : Array Oper} {rest : List Oper} {op : Oper} {a : Act} {w : World} {Q : Exit → Act → World → Prop} (hgd : op.guard = none) (ty : TypeId) (x : Operand) (ho : op.op = .load ty x)
    (b : Nat) (cs : Array Value) (t : TypeId) (fr : Nat × Nat) (d : TypeDesc) (hx : a.eval x = .pointer (some ⟨b, 0, none⟩)) (hg : w.heap[b]? = some (.cells cs t fr))
    (hu : P.underlying ty = some d) (hd : d.isRow = true) (hi : (P.info? ty).map (·.size) = some cs.size)
    (h : wpList P ops Q rest (a.put op.dst (.agg cs)) w) : wpList P ops Q (op :: rest) a w := by
  refine wpList_load_mid hgd ty x ho b 0 hx cs.toList d (fun j v hv => ?_) hu hd (by simpa using hi) (by simpa using h)
  rw [Nat.zero_add, cell_of_row _ _ j _ _ _ hg]
  simpa using hv
theorem yields_load_row {P : Program} {ops : Array Oper} {S : World → Prop} {op : Oper} {a : Act} (hw : Region.wanted op (yielded ops a.tmps) = true) (ty : TypeId) (x : Operand) (ho : op.op = .load ty x)
    (b : Nat) (cs : Array Value) (t : TypeId) (fr : Nat × Nat) (d : TypeDesc) (hx : a.eval x = .pointer (some ⟨b, 0, none⟩)) (hS : ∀ w, S w → w.heap[b]? = some (.cells cs t fr))
    (hu : P.underlying ty = some d) (hd : d.isRow = true) (hi : (P.info? ty).map (·.size) = some cs.size) : YieldsIf P ops S op (.agg cs) a := by
  have := yieldsIf_load_mid (P := P) (ops := ops) (S := S) hw ty x ho b 0 hx cs.toList d (fun w hSw j v hv => ?_) hu hd (by simpa using hi)
  · simpa using this
  · rw [Nat.zero_add, cell_of_row _ _ j _ _ _ (hS w hSw)]
    simpa using hv
theorem wp_store_row {P : Program} {op : Oper} {a : Act} {w : World} {K : Act → World → Prop} {Q : Exit → Act → World → Prop} (ty : TypeId) (x y : Operand) (ho : op.op = .store ty x y)
    (b : Nat) (cells old : Array Value) (t : TypeId) (hx : a.eval x = .pointer (some ⟨b, 0, none⟩)) (hy : a.eval y = .agg cells)
    (hg : w.heap[b]? = some (.cells old t (0, 0))) (hi : (P.info? ty).map (·.size) = some cells.size) (hz : old.size = cells.size) (h1 : cells.all (·.oneCell') = true)
    (h : K (a.put op.dst undef) (w.setRow b cells)) : op.wp P a w K Q := by
  unfold Oper.wp execOp
  simp only [ho, hx, hy, Instr.storeAt, Instr.sureAddr, Sem.run_bind, Sem.run_pure, Result.andThen_ok, run_storeVar_row w b t ty old cells hg hi hz h1]
  exact h
theorem wpList_store_row {P : Program} {ops : Array Oper} {rest : List Oper} {op : Oper} {a : Act} {w : World} {Q : Exit → Act → World → Prop} (hgd : op.guard = none) (ty : TypeId) (x y : Operand) (ho : op.op = .store ty x y)
    (b : Nat) (cells old : Array Value) (t : TypeId) (hx : a.eval x = .pointer (some ⟨b, 0, none⟩)) (hy : a.eval y = .agg cells)
    (hg : w.heap[b]? = some (.cells old t (0, 0))) (hi : (P.info? ty).map (·.size) = some cells.size) (hz : old.size = cells.size) (h1 : cells.all (·.oneCell') = true)
    (h : wpList P ops Q rest (a.put op.dst undef) (w.setRow b cells)) : wpList P ops Q (op :: rest) a w :=
  wpList_plain hgd fun _ hK => wp_store_row ty x y ho b cells old t hx hy hg hi hz h1 (hK _ _ h)
theorem ret_row {P : Program} {fn : Func} {R : Ending → World → Prop} {a : Act} {w : World} {p : Tmp} {ty : TypeId} (h : fn.results = #[.cell p ty]) (b : Nat) (cs : Array Value) (t : TypeId) (fr : Nat × Nat) (d : TypeDesc)
    (hp : a.tmps.getD p undef = .pointer (some ⟨b, 0, none⟩)) (hg : w.heap[b]? = some (.cells cs t fr)) (hu : P.underlying ty = some d) (hd : d.isRow = true) (hi : (P.info? ty).map (·.size) = some cs.size)
    (hdf : a.defers = []) (hR : R (.returned (.agg cs)) w) : bodyPost P fn R .ret a w := by
  refine bodyPost_ret ?_ hdf hR
  have := run_loadVar_row (P := P) w b t ty cs fr d hg hu (by cases d <;> simp_all) hi
  simp only [results, h]
  rw [Array.getD_eq_getD_getElem?] at hp
  simp [Sem.run_bind, Result.andThen, hp, asAddr, this]
theorem Upd.setRow {S : Nat → Prop} (w : World) {b : Nat} (hb : S b) (cs : Array Value) : Upd S w (w.setRow b cs) :=
  ⟨rfl, rfl, rfl, by simp, fun k hk hs => setRow_other w b k cs (fun e => hs (e ▸ hb))⟩
theorem uvs_one (ws : List Int) : ((ws.map uv).toArray).all (·.oneCell') = true := by
  simp [uv, Value.oneCell']

/-- A block that holds an array of words. -/
def Arr (w : World) (b : Nat) (T : TypeId) (ws : List Int) : Prop := w.heap[b]? = some (.cells (ws.map uv).toArray T (0, 0))
theorem Arr.cell {w : World} {b : Nat} {T : TypeId} {ws : List Int} (h : Arr w b T ws) (i : Nat) (hi : i < ws.length) : w.cell? ⟨b, i, none⟩ = some (.int .u32 (ws.getD i 0)) := by
  rw [cell_of_row _ _ _ _ _ _ h]
  simp [List.getElem?_eq_getElem hi, uv]
theorem Arr.thaw {w : World} {b : Nat} {T : TypeId} {ws : List Int} (h : Arr w b T ws) (o : Nat) : w.frozen? ⟨b, o, none⟩ = false := by
  unfold Arr at h; simp [World.frozen?, h]
theorem Arr.lt {w : World} {b : Nat} {T : TypeId} {ws : List Int} (h : Arr w b T ws) : b < w.heap.size := lt_of_heap h
theorem Arr.upd {S : Nat → Prop} {w w' : World} {b : Nat} {T : TypeId} {ws : List Int} (h : Arr w b T ws) (hU : Upd S w w') (hS : ¬ S b) : Arr w' b T ws := (hU.block b h.lt hS).trans h
theorem Arr.set {w : World} {b : Nat} {T : TypeId} {ws : List Int} (h : Arr w b T ws) (i : Nat) (v : Int) : Arr (w.setCell ⟨b, i, none⟩ (.int .u32 v)) b T (ws.set i v) := by
  unfold Arr
  rw [setCell_heap i _ h]
  simp [uv, List.map_set]
theorem Arr.row {w : World} {b : Nat} {T : TypeId} {ws : List Int} (h : Arr w b T ws) (vs : List Int) : Arr (w.setRow b (vs.map uv).toArray) b T vs := setRow_heap w b _ _ _ _ h
theorem Arr.drew {w : World} {b : Nat} {T : TypeId} {ws : List Int} (h : Arr w b T ws) : Arr w.drew b T ws := h
theorem Arr.alloc {w : World} {b : Nat} {T : TypeId} {ws : List Int} (h : Arr w b T ws) (o : Obj) : Arr (w.alloc o) b T ws := (Below.heap_alloc w o b h.lt).trans h
theorem Arr.new (w : World) (T : TypeId) (ws : List Int) : Arr (w.alloc (.cells (ws.map uv).toArray T)) w.heap.size T ws := heap_alloc_new w _
theorem Arr.cell_ne {w : World} {b : Nat} {T : TypeId} {ws : List Int} (h : Arr w b T ws) {b' : Nat} (i : Nat) (v : Value) (hne : b ≠ b') : Arr (w.setCell ⟨b', i, none⟩ v) b T ws :=
  h.upd (Upd.setCell (S := fun k => k = b') w rfl v) hne
theorem Arr.row_ne {w : World} {b : Nat} {T : TypeId} {ws : List Int} (h : Arr w b T ws) {b' : Nat} (cs : Array Value) (hne : b ≠ b') : Arr (w.setRow b' cs) b T ws :=
  h.upd (Upd.setRow (S := fun k => k = b') w rfl cs) hne
end Go.Proofs.YtccejkikphpnfaaGreatDoor
