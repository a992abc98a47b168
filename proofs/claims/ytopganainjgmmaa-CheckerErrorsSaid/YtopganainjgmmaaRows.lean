/-
  No cell of these rows narrows 'for every input' (looked for: loops, veiled, ifaces, maps, wideKeys, modest, calm, conditions, laid).
  DERIVED. THE GIVEN ROWS OF THIS SEAT. 5 by the template 'for every input the law returns true; each argument reads behind the call as it read before'; 0 by the template 'total and deterministic' (their statements: YtopganainjgmmaaTotals.lean).
  GIVEN WITH THE SEED: the statements are not yours to turn. If you find one false, say at which input.
  Laid BY PROGRAM, IN A SANDBOX (cutbox-rows.mjs): the forced cells as the released guide's own fill.sh prints them over the translation 669822a28cf18a66… (all of the seat's roots in one cut). By AI agents, Wed Nov 11 2026. No macro, syntax, notation, axiom, sorry.
-/
import Derived.Test.YtopganainjgmmaaChecked
import GoSem.Claim
import GoSem.ClaimJoined
import GoSem.ClaimMapViews
import Derived.JoinedTies
import Derived.KernelRfl
namespace Go.Proofs.Ytopganainjgmmaa
/- THE CELL 'sum', in the pinned program and in every row, IS THE sha256 OF THE DUMP (.gsa) THAT YtopganainjgmmaaProg.lean LOADS. Nothing in Lean hashes anything: it is a label: what it is worth is what the hold of that sum in a sandbox is worth. -/
noncomputable def Try.pinned : Pinned := { name := "ytopganainjgmmaa", sum := "669822a28cf18a660c1e1ec61c431f2d64f56174dc644969c6dab900230971c4", checked := Try.checked }
namespace Rows
def none {H : Type} : Left H := { results := [], args := [] }

/-- 'debuggerlaw04.CheckerVisible': WHATEVER THE INPUT: true; the input reads as it did. -/
def checkerVisibleSpec : ChangeSpec := { name := "checkerVisible", fn := fun _ => fun
  | [d1, d2, d3, d4] => { results := [.lit (.bool true)], args := [d1, d2, d3, d4] }
  | _ => none }
def checkerVisibleRow : OpenClaim := { program := "ytopganainjgmmaa", sum := "669822a28cf18a660c1e1ec61c431f2d64f56174dc644969c6dab900230971c4", func := "debugger/debuggerlaw04.CheckerVisible", spec := "checkerVisible", recurses := true, apart := false }
def CheckerVisibleSaid : Prop := checkerVisibleRow.holds Try.pinned (OpenSpec.ofChange checkerVisibleSpec)

/-- ITS FALSE NEIGHBOUR: 'it returns false'. Refute it at one input. -/
def checkerVisibleWrong : ChangeSpec := { name := "checkerVisible", fn := fun _ => fun
  | [d1, d2, d3, d4] => { results := [.lit (.bool false)], args := [d1, d2, d3, d4] }
  | _ => none }
def CheckerVisibleWrongFalsely : Prop := checkerVisibleRow.holds Try.pinned (OpenSpec.ofChange checkerVisibleWrong)

/-- 'debuggerlaw04.CheckerNames': WHATEVER THE INPUT: true; the input reads as it did. -/
def checkerNamesSpec : ChangeSpec := { name := "checkerNames", fn := fun _ => fun
  | [d] => { results := [.lit (.bool true)], args := [d] }
  | _ => none }
def checkerNamesRow : OpenClaim := { program := "ytopganainjgmmaa", sum := "669822a28cf18a660c1e1ec61c431f2d64f56174dc644969c6dab900230971c4", func := "debugger/debuggerlaw04.CheckerNames", spec := "checkerNames", recurses := true, apart := false }
def CheckerNamesSaid : Prop := checkerNamesRow.holds Try.pinned (OpenSpec.ofChange checkerNamesSpec)

/-- ITS FALSE NEIGHBOUR: 'it returns false'. Refute it at one input. -/
def checkerNamesWrong : ChangeSpec := { name := "checkerNames", fn := fun _ => fun
  | [d] => { results := [.lit (.bool false)], args := [d] }
  | _ => none }
def CheckerNamesWrongFalsely : Prop := checkerNamesRow.holds Try.pinned (OpenSpec.ofChange checkerNamesWrong)

/-- 'debuggerlaw04.CheckerResolves': WHATEVER THE INPUT: true; the input reads as it did. -/
def checkerResolvesSpec : ChangeSpec := { name := "checkerResolves", fn := fun _ => fun
  | [d] => { results := [.lit (.bool true)], args := [d] }
  | _ => none }
def checkerResolvesRow : OpenClaim := { program := "ytopganainjgmmaa", sum := "669822a28cf18a660c1e1ec61c431f2d64f56174dc644969c6dab900230971c4", func := "debugger/debuggerlaw04.CheckerResolves", spec := "checkerResolves", recurses := true, apart := false }
def CheckerResolvesSaid : Prop := checkerResolvesRow.holds Try.pinned (OpenSpec.ofChange checkerResolvesSpec)

/-- ITS FALSE NEIGHBOUR: 'it returns false'. Refute it at one input. -/
def checkerResolvesWrong : ChangeSpec := { name := "checkerResolves", fn := fun _ => fun
  | [d] => { results := [.lit (.bool false)], args := [d] }
  | _ => none }
def CheckerResolvesWrongFalsely : Prop := checkerResolvesRow.holds Try.pinned (OpenSpec.ofChange checkerResolvesWrong)

/-- 'debuggerlaw04.CheckerErrors': WHATEVER THE INPUT: true; the input reads as it did. -/
def checkerErrorsSpec : ChangeSpec := { name := "checkerErrors", fn := fun _ => fun
  | [d1, d2] => { results := [.lit (.bool true)], args := [d1, d2] }
  | _ => none }
def checkerErrorsRow : OpenClaim := { program := "ytopganainjgmmaa", sum := "669822a28cf18a660c1e1ec61c431f2d64f56174dc644969c6dab900230971c4", func := "debugger/debuggerlaw04.CheckerErrors", spec := "checkerErrors", recurses := true, apart := false }
def CheckerErrorsSaid : Prop := checkerErrorsRow.holds Try.pinned (OpenSpec.ofChange checkerErrorsSpec)

/-- ITS FALSE NEIGHBOUR: 'it returns false'. Refute it at one input. -/
def checkerErrorsWrong : ChangeSpec := { name := "checkerErrors", fn := fun _ => fun
  | [d1, d2] => { results := [.lit (.bool false)], args := [d1, d2] }
  | _ => none }
def CheckerErrorsWrongFalsely : Prop := checkerErrorsRow.holds Try.pinned (OpenSpec.ofChange checkerErrorsWrong)

/-- 'debuggerlaw04.CheckerLimits': WHATEVER THE INPUT: true; the input reads as it did. -/
def checkerLimitsSpec : ChangeSpec := { name := "checkerLimits", fn := fun _ => fun
  | [d] => { results := [.lit (.bool true)], args := [d] }
  | _ => none }
def checkerLimitsRow : OpenClaim := { program := "ytopganainjgmmaa", sum := "669822a28cf18a660c1e1ec61c431f2d64f56174dc644969c6dab900230971c4", func := "debugger/debuggerlaw04.CheckerLimits", spec := "checkerLimits", recurses := true, apart := false }
def CheckerLimitsSaid : Prop := checkerLimitsRow.holds Try.pinned (OpenSpec.ofChange checkerLimitsSpec)

/-- ITS FALSE NEIGHBOUR: 'it returns false'. Refute it at one input. -/
def checkerLimitsWrong : ChangeSpec := { name := "checkerLimits", fn := fun _ => fun
  | [d] => { results := [.lit (.bool false)], args := [d] }
  | _ => none }
def CheckerLimitsWrongFalsely : Prop := checkerLimitsRow.holds Try.pinned (OpenSpec.ofChange checkerLimitsWrong)

/- THE SECOND FORM. 'bulk': how many values and letters a reading holds, each counted each time it is reached (what is shared counts as often as it is met; a slice's spare places count too). A statement '..UptoSaid' is the law's where the arguments, and the package variables that the reading takes, are together of bulk at most 1048576: NARROWER than '..Said'. Prove '..Said' where nothing that the law and all that it calls make is longer than what came in: it says more and counts as full. Else prove '..UptoSaid'. A law counts once. -/
mutual
def uptoBulk {H : Type} : DataW H → Nat
  | .lit (.string bytes) => bytes.length + 1
  | .lit _ => 1
  | .nil => 1
  | .ptr d => uptoBulk d + 1
  | .slice elems spare => uptoBulkAll elems + uptoBulkAll spare + 1
  | .agg parts => uptoBulkAll parts + 1
  | .iface _ d => uptoBulk d + 1
  | .map entries => uptoBulkEntries entries + 1
  | .held _ => 1
def uptoBulkAll {H : Type} : List (DataW H) → Nat
  | [] => 0
  | d :: r => uptoBulk d + uptoBulkAll r
def uptoBulkEntries {H : Type} : List (Lit × DataW H) → Nat
  | [] => 0
  | x :: r => uptoBulkEntry x + uptoBulkEntries r
def uptoBulkEntry {H : Type} : Lit × DataW H → Nat
  | (.string bytes, d) => bytes.length + uptoBulk d + 1
  | (_, d) => uptoBulk d + 1
 end
def uptoSmall : (H : Type) → List (DataW H) → Bool := fun _ ds => decide (uptoBulkAll ds ≤ 1048576)
def OpenSpec.upto (s : _root_.Go.ChangeSpec) : _root_.Go.OpenSpec := { _root_.Go.OpenSpec.ofChange s with cond := some uptoSmall }

/-- 'debuggerlaw04.CheckerVisible', WHERE WHAT IT READS IS OF BULK AT MOST 1048576: true; the input reads as it did. -/
def checkerVisibleUptoRow : OpenClaim := { program := "ytopganainjgmmaa", sum := "669822a28cf18a660c1e1ec61c431f2d64f56174dc644969c6dab900230971c4", func := "debugger/debuggerlaw04.CheckerVisible", spec := "checkerVisible", recurses := true, apart := false, narrowed := true }
def CheckerVisibleUptoSaid : Prop := checkerVisibleUptoRow.holds Try.pinned (OpenSpec.upto checkerVisibleSpec)

/-- 'debuggerlaw04.CheckerNames', WHERE WHAT IT READS IS OF BULK AT MOST 1048576: true; the input reads as it did. -/
def checkerNamesUptoRow : OpenClaim := { program := "ytopganainjgmmaa", sum := "669822a28cf18a660c1e1ec61c431f2d64f56174dc644969c6dab900230971c4", func := "debugger/debuggerlaw04.CheckerNames", spec := "checkerNames", recurses := true, apart := false, narrowed := true }
def CheckerNamesUptoSaid : Prop := checkerNamesUptoRow.holds Try.pinned (OpenSpec.upto checkerNamesSpec)

/-- 'debuggerlaw04.CheckerResolves', WHERE WHAT IT READS IS OF BULK AT MOST 1048576: true; the input reads as it did. -/
def checkerResolvesUptoRow : OpenClaim := { program := "ytopganainjgmmaa", sum := "669822a28cf18a660c1e1ec61c431f2d64f56174dc644969c6dab900230971c4", func := "debugger/debuggerlaw04.CheckerResolves", spec := "checkerResolves", recurses := true, apart := false, narrowed := true }
def CheckerResolvesUptoSaid : Prop := checkerResolvesUptoRow.holds Try.pinned (OpenSpec.upto checkerResolvesSpec)

/-- 'debuggerlaw04.CheckerErrors', WHERE WHAT IT READS IS OF BULK AT MOST 1048576: true; the input reads as it did. -/
def checkerErrorsUptoRow : OpenClaim := { program := "ytopganainjgmmaa", sum := "669822a28cf18a660c1e1ec61c431f2d64f56174dc644969c6dab900230971c4", func := "debugger/debuggerlaw04.CheckerErrors", spec := "checkerErrors", recurses := true, apart := false, narrowed := true }
def CheckerErrorsUptoSaid : Prop := checkerErrorsUptoRow.holds Try.pinned (OpenSpec.upto checkerErrorsSpec)

/-- 'debuggerlaw04.CheckerLimits', WHERE WHAT IT READS IS OF BULK AT MOST 1048576: true; the input reads as it did. -/
def checkerLimitsUptoRow : OpenClaim := { program := "ytopganainjgmmaa", sum := "669822a28cf18a660c1e1ec61c431f2d64f56174dc644969c6dab900230971c4", func := "debugger/debuggerlaw04.CheckerLimits", spec := "checkerLimits", recurses := true, apart := false, narrowed := true }
def CheckerLimitsUptoSaid : Prop := checkerLimitsUptoRow.holds Try.pinned (OpenSpec.upto checkerLimitsSpec)

end Rows
end Go.Proofs.Ytopganainjgmmaa
