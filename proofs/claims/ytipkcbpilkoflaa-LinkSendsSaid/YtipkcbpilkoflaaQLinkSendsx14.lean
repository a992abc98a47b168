-- Written by a program of this session (wip/printer.py of the repo) out of the translation.
import Derived.Test.YtipkcbpilkoflaaQLinkSendsx0
namespace Go.Proofs.Ytipkcbpilkoflaa.QLinkSends
open Go.RowKit Go.Proofs.YtipkcbpilkoflaaW.PrintWords Go.Proofs.YtipkcbpilkoflaaW.PrintLast Go.Proofs.YtipkcbpilkoflaaW.PrintMore
attribute [local go_sem] max2_int min2_int max_two min_two max_three min_three max_four min_four   -- for this text's walks alone
set_option linter.unusedVariables false
set_option linter.unusedSimpArgs false

/-! ### sort_SliceStable: function 23, for no more than one element -/
def sort_SliceStable.f (l0 : List S37) : Option Unit := if l0.length < 2 then some () else none
theorem sort_SliceStable.calls (A0 : Option Addr) (c0 : Nat) (l0 : List S37) {lf : Fn} {la lb : Array Value} (w : World) (hr0 : Kd.C k37 w A0 l0.length l0) (hc0 : l0.length ≤ c0) (h : sort_SliceStable.f l0 = some ()) :
    Calls Try.prog 23 #[.iface 22 (.slice A0 l0.length c0), .func lf la lb] w fun e w' => e = .returned (.tuple #[]) ∧ Below w.heap.size w w' := by
  have hl : l0.length < 2 := by
    unfold sort_SliceStable.f at h
    by_cases hh : l0.length < 2
    · exact hh
    · rw [if_neg hh] at h; cases h
  exact sortTiny A0 l0.length c0 (by omega) lf la lb w

end Go.Proofs.Ytipkcbpilkoflaa.QLinkSends
