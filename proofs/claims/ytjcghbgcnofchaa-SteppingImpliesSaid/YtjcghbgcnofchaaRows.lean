/-
  No cell of these rows narrows 'for every input' (looked for: loops, veiled, ifaces, maps, wideKeys, modest, calm, conditions, laid).
  DERIVED. THE GIVEN ROWS OF THIS SEAT. 3 by the template 'for every input the law returns true; each argument reads behind the call as it read before'; 0 by the template 'total and deterministic' (their statements: YtjcghbgcnofchaaTotals.lean).
  GIVEN WITH THE SEED: the statements are not yours to turn. If you find one false, say at which input.
  Laid BY PROGRAM, IN A SANDBOX (cutbox-rows.mjs): the forced cells as the released guide's own fill.sh prints them over the translation 072ecf06d6b18357… (all of the seat's roots in one cut). By AI agents, Wed Nov 11 2026. No macro, syntax, notation, axiom, sorry.
-/
import Derived.Test.YtjcghbgcnofchaaChecked
import GoSem.Claim
import GoSem.ClaimJoined
import GoSem.ClaimMapViews
import Derived.JoinedTies
import Derived.KernelRfl
namespace Go.Proofs.Ytjcghbgcnofchaa
/- THE CELL 'sum', in the pinned program and in every row, IS THE sha256 OF THE DUMP (.gsa) THAT YtjcghbgcnofchaaProg.lean LOADS. Nothing in Lean hashes anything: it is a label: what it is worth is what the hold of that sum in a sandbox is worth. -/
noncomputable def Try.pinned : Pinned := { name := "ytjcghbgcnofchaa", sum := "072ecf06d6b18357438a77ec5cc84836b52b83cb5ce00fa8a43b4185b4be7d9d", checked := Try.checked }
namespace Rows
def none {H : Type} : Left H := { results := [], args := [] }

/-- 'debuggerlaw42.SteppingCompares': WHATEVER THE INPUT: true; the input reads as it did. -/
def steppingComparesSpec : ChangeSpec := { name := "steppingCompares", fn := fun _ => fun
  | [d1, d2, d3, d4] => { results := [.lit (.bool true)], args := [d1, d2, d3, d4] }
  | _ => none }
def steppingComparesRow : OpenClaim := { program := "ytjcghbgcnofchaa", sum := "072ecf06d6b18357438a77ec5cc84836b52b83cb5ce00fa8a43b4185b4be7d9d", func := "debugger/debuggerlaw42.SteppingCompares", spec := "steppingCompares", apart := false }
def SteppingComparesSaid : Prop := steppingComparesRow.holds Try.pinned (OpenSpec.ofChange steppingComparesSpec)

/-- ITS FALSE NEIGHBOUR: 'it returns false'. Refute it at one input. -/
def steppingComparesWrong : ChangeSpec := { name := "steppingCompares", fn := fun _ => fun
  | [d1, d2, d3, d4] => { results := [.lit (.bool false)], args := [d1, d2, d3, d4] }
  | _ => none }
def SteppingComparesWrongFalsely : Prop := steppingComparesRow.holds Try.pinned (OpenSpec.ofChange steppingComparesWrong)

/-- 'debuggerlaw42.SteppingOrder': WHATEVER THE INPUT: true; the input reads as it did. -/
def steppingOrderSpec : ChangeSpec := { name := "steppingOrder", fn := fun _ => fun
  | [d1, d2, d3, d4] => { results := [.lit (.bool true)], args := [d1, d2, d3, d4] }
  | _ => none }
def steppingOrderRow : OpenClaim := { program := "ytjcghbgcnofchaa", sum := "072ecf06d6b18357438a77ec5cc84836b52b83cb5ce00fa8a43b4185b4be7d9d", func := "debugger/debuggerlaw42.SteppingOrder", spec := "steppingOrder", apart := false }
def SteppingOrderSaid : Prop := steppingOrderRow.holds Try.pinned (OpenSpec.ofChange steppingOrderSpec)

/-- ITS FALSE NEIGHBOUR: 'it returns false'. Refute it at one input. -/
def steppingOrderWrong : ChangeSpec := { name := "steppingOrder", fn := fun _ => fun
  | [d1, d2, d3, d4] => { results := [.lit (.bool false)], args := [d1, d2, d3, d4] }
  | _ => none }
def SteppingOrderWrongFalsely : Prop := steppingOrderRow.holds Try.pinned (OpenSpec.ofChange steppingOrderWrong)

/-- 'debuggerlaw42.SteppingImplies': WHATEVER THE INPUT: true; the input reads as it did. -/
def steppingImpliesSpec : ChangeSpec := { name := "steppingImplies", fn := fun _ => fun
  | [d1, d2, d3] => { results := [.lit (.bool true)], args := [d1, d2, d3] }
  | _ => none }
def steppingImpliesRow : OpenClaim := { program := "ytjcghbgcnofchaa", sum := "072ecf06d6b18357438a77ec5cc84836b52b83cb5ce00fa8a43b4185b4be7d9d", func := "debugger/debuggerlaw42.SteppingImplies", spec := "steppingImplies", apart := false }
def SteppingImpliesSaid : Prop := steppingImpliesRow.holds Try.pinned (OpenSpec.ofChange steppingImpliesSpec)

/-- ITS FALSE NEIGHBOUR: 'it returns false'. Refute it at one input. -/
def steppingImpliesWrong : ChangeSpec := { name := "steppingImplies", fn := fun _ => fun
  | [d1, d2, d3] => { results := [.lit (.bool false)], args := [d1, d2, d3] }
  | _ => none }
def SteppingImpliesWrongFalsely : Prop := steppingImpliesRow.holds Try.pinned (OpenSpec.ofChange steppingImpliesWrong)

/- THE SECOND FORM. 'bulk': how many values and letters a reading holds, each counted each time it is reached (what is shared counts as often as it is met; a slice's spare places count too). A statement '..UptoSaid' is the law's where the arguments, and the package variables that the reading takes, are together of bulk at most 1048576: NARROWER than '..Said'. Prove '..Said' where nothing that the law and all that it calls make is longer than what came in: it says more and counts as full. Else prove '..UptoSaid'. A law counts once. -/
mutual
def uptoBulk {H : Type} : DataW H → Nat
  | .lit (.string bytes) => bytes.length + 1
  | .lit _ => 1
  | .nil => 1
  | .ptr d => uptoBulk d + 1
  | .slice elems spare => uptoBulkAll elems + uptoBulkAll spare + 1
  | .agg parts => uptoBulkAll parts + 1
  | .iface _ d => uptoBulk d + 1
  | .map entries => uptoBulkEntries entries + 1
  | .held _ => 1
def uptoBulkAll {H : Type} : List (DataW H) → Nat
  | [] => 0
  | d :: r => uptoBulk d + uptoBulkAll r
def uptoBulkEntries {H : Type} : List (Lit × DataW H) → Nat
  | [] => 0
  | x :: r => uptoBulkEntry x + uptoBulkEntries r
def uptoBulkEntry {H : Type} : Lit × DataW H → Nat
  | (.string bytes, d) => bytes.length + uptoBulk d + 1
  | (_, d) => uptoBulk d + 1
 end
def uptoSmall : (H : Type) → List (DataW H) → Bool := fun _ ds => decide (uptoBulkAll ds ≤ 1048576)
def OpenSpec.upto (s : _root_.Go.ChangeSpec) : _root_.Go.OpenSpec := { _root_.Go.OpenSpec.ofChange s with cond := some uptoSmall }

/-- 'debuggerlaw42.SteppingCompares', WHERE WHAT IT READS IS OF BULK AT MOST 1048576: true; the input reads as it did. -/
def steppingComparesUptoRow : OpenClaim := { program := "ytjcghbgcnofchaa", sum := "072ecf06d6b18357438a77ec5cc84836b52b83cb5ce00fa8a43b4185b4be7d9d", func := "debugger/debuggerlaw42.SteppingCompares", spec := "steppingCompares", apart := false, narrowed := true }
def SteppingComparesUptoSaid : Prop := steppingComparesUptoRow.holds Try.pinned (OpenSpec.upto steppingComparesSpec)

/-- 'debuggerlaw42.SteppingOrder', WHERE WHAT IT READS IS OF BULK AT MOST 1048576: true; the input reads as it did. -/
def steppingOrderUptoRow : OpenClaim := { program := "ytjcghbgcnofchaa", sum := "072ecf06d6b18357438a77ec5cc84836b52b83cb5ce00fa8a43b4185b4be7d9d", func := "debugger/debuggerlaw42.SteppingOrder", spec := "steppingOrder", apart := false, narrowed := true }
def SteppingOrderUptoSaid : Prop := steppingOrderUptoRow.holds Try.pinned (OpenSpec.upto steppingOrderSpec)

/-- 'debuggerlaw42.SteppingImplies', WHERE WHAT IT READS IS OF BULK AT MOST 1048576: true; the input reads as it did. -/
def steppingImpliesUptoRow : OpenClaim := { program := "ytjcghbgcnofchaa", sum := "072ecf06d6b18357438a77ec5cc84836b52b83cb5ce00fa8a43b4185b4be7d9d", func := "debugger/debuggerlaw42.SteppingImplies", spec := "steppingImplies", apart := false, narrowed := true }
def SteppingImpliesUptoSaid : Prop := steppingImpliesUptoRow.holds Try.pinned (OpenSpec.upto steppingImpliesSpec)

end Rows
end Go.Proofs.Ytjcghbgcnofchaa
