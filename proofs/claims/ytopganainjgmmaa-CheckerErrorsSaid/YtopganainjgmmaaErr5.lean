/- CheckerErrors: the call returns true. -/
import Derived.Test.YtopganainjgmmaaErr1
import Derived.Test.YtopganainjgmmaaErr2
import Derived.Test.YtopganainjgmmaaErr3
import Derived.Test.YtopganainjgmmaaErr4
namespace Go.Proofs.Ytopganainjgmmaa.Ev
open Go Go.RowKit
set_option linter.unusedVariables false
theorem err_all (i j : Nat) (hi : i < 17) (hj : j < 4) : errAt i j = true := by
  rcases (by omega : j = 0 ∨ j = 1 ∨ j = 2 ∨ j = 3) with rfl | rfl | rfl | rfl
  · exact errs_0 i hi
  · exact errs_1 i hi
  · exact errs_2 i hi
  · exact errs_3 i hi
theorem CheckerErrors.calls (a b : Int) (w : World) : Calls Try.prog 6 #[.int .i64 a, .int .i64 b] w fun e w' => e = .returned (.bool true) ∧ Below w.heap.size w w' := by
  have ha := Int.emod_nonneg a (by decide : (17 : Int) ≠ 0)
  have ha2 := Int.emod_lt_of_pos a (by decide : (0 : Int) < 17)
  have hb := Int.emod_nonneg b (by decide : (4 : Int) ≠ 0)
  have hb2 := Int.emod_lt_of_pos b (by decide : (0 : Int) < 4)
  exact call_ok (run_ok hmix hng (orcE_ok a b) 1000) (err_all (a % 17).toNat (b % 4).toNat (by omega) (by omega)) #[.int .i64 a, .int .i64 b] (show RVs (sE a b) σ0 [V.one (Cell.sym 0), V.one (Cell.sym 1)] [.int .i64 a, .int .i64 b] from ⟨rfl, rfl, trivial⟩) w
end Go.Proofs.Ytopganainjgmmaa.Ev
