/- The walk of OctetsNil. -/
import Derived.Test.YtafkcmgfkecljaaFrame
import Derived.Test.YtafkcmgfkecljaaAwake01
namespace Go.Proofs.Ytafkcmgfkecljaa
set_option linter.unusedSimpArgs false
set_option linter.unusedVariables false
open Go.ChangeShapes Go.WideShapes Go.ChangeAt Go.RowKit

theorem OctetsNil_walk (w : World) (v : Int) (wv : (Lit.int .u64 v).wf = true) (n : Int) (wn : (Lit.int .i64 n).wf = true) :
    Calls Try.prog 11 #[.int .u64 v, .int .i64 n] w fun e w' => e = .returned (.bool true) ∧ Below w.heap.size w w' := by
  clear wv wn
  go_enter Try.func11, Try.ntmps11
  go_wp2_with (first
    | (go_at_call 12; refine (num_nil _ _ _).mono ?_; rintro e w' ⟨rfl, rfl⟩)
    | (go_at_call 38; refine (wint_nil _ _).mono ?_; rintro e w' ⟨rfl, rfl⟩)
    | (go_at_call 40; refine (wtext_nil _ _).mono ?_; rintro e w' ⟨rfl, rfl⟩)
    | (go_at_call 37; refine (wbool_nil _ _).mono ?_; rintro e w' ⟨rfl, rfl⟩)
    | (go_at_call 13; refine (bytes_nil _).mono ?_; rintro e w' ⟨rfl, rfl⟩)
    | (go_at_call 31; refine (rnum_nil _ _).mono ?_; rintro e w' ⟨rfl, rfl⟩)
    | (go_at_call 25; refine (rint_nil _).mono ?_; rintro e w' ⟨rfl, rfl⟩)
    | (go_at_call 27; refine (rtext_nil _).mono ?_; rintro e w' ⟨rfl, rfl⟩)
    | (go_at_call 29; refine (rbool_nil _).mono ?_; rintro e w' ⟨rfl, rfl⟩)
    | (go_at_call 33; refine (err_nil _).mono ?_; rintro e w' ⟨rfl, rfl⟩)
    | (go_at_call 34; refine (left_nil _).mono ?_; rintro e w' ⟨rfl, rfl⟩)
    | (go_at_call 14; refine (awake01_any _).mono ?_; rintro e w1 ⟨rfl, hU⟩))
  go_ret
  exact ⟨rfl, hU.clean⟩
end Go.Proofs.Ytafkcmgfkecljaa
