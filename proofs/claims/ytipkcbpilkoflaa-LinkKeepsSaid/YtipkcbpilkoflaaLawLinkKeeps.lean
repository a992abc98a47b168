/-
  The law debuggerlaw34.LinkKeeps holds for every input: the call returns true, and each argument reads as it read before.
  Conditions: none beside the row's own.
-/
import Derived.Test.YtipkcbpilkoflaaRows
import Derived.Test.YtipkcbpilkoflaaQKeepsW
import Derived.Test.YtipkcbpilkoflaaPureLinkKeeps
import Derived.Test.YtipkcbpilkoflaaOpen
import Derived.WalkKit
import Derived.ProofKit
import Derived.OpenShut
import Derived.ShutString
import Derived.ChangeOld
import Derived.Below
import Derived.SizedLaws
namespace Go.Proofs.Ytipkcbpilkoflaa.linkKeeps
open Go.ChangeShapes Go.WideShapes Go.ChangeAt Go.RowKit Go.Proofs.Ytipkcbpilkoflaa.QKeeps
open Go.ChangeMaps (open_string shut_string)
open Go.Proofs.YtipkcbpilkoflaaW.PrintWords Go.Proofs.YtipkcbpilkoflaaW.PrintLast Go.Proofs.YtipkcbpilkoflaaW.PrintMore
set_option linter.unusedVariables false
set_option linter.unusedSimpArgs false
theorem own : ownKnob Try.prog.godebug = none := by kernel_rfl
theorem laidOut : laidOutB Try.prog = true := by kernel_rfl
set_option maxRecDepth 100000 in
theorem lifted (os : Os) (started : os.Started) (H : Type) (enc : TypeId × Value → H) :
    ReturnsInHanded {} Try.checked os 5 .any (Rows.linkKeepsSpec.pre6 enc Try.prog Try.f5 Rows.linkKeepsRow.domain false) (Rows.linkKeepsSpec.post enc Try.prog Try.f5 false true false false) := by
  refine returnsInHanded_of_change_sized (C := Try.checked) own started (by kernel_rfl) Try.func5
    (ChangeSpec.witness6 (enc := enc) (C := Try.checked) false ⟨#[], #[.slice none 0 0], []⟩ 8 (by kernel_rfl) (by kernel_rfl) (by kernel_rfl) (by kernel_rfl)) ?_
  intro W base args ds gs before hval0 hW hcnd hsz0 _
  have hsz : (DataW.weightsEach Try.prog (Try.f5.params.toList ++ Rows.linkKeepsSpec.plain.varTypes Try.prog) (ds ++ gs)).all (· ≤ reachBytes) = true := hsz0
  have hval : ∀ (j : Nat) t v, Try.f5.params[j]? = some t → args[j]? = some v → Value.okWide Try.prog W .any base t v := hval0
  have hW' := hW
  obtain ⟨p, q, hA0, hV, rfl, hfz, hnd⟩ := hW
  have hA : DataW.TrodAll enc Try.prog W 0 (fun _ => true) true Try.f5.params.toList args.toList ds p := hA0
  rw [Try.params5] at hA hval hsz
  obtain ⟨v0, vs0, d0, ds0, p0, q0, hargs, rfl, rfl, h0, r0⟩ := trodAll_cons hA
  obtain ⟨rfl, rfl, rfl⟩ := trodAll_nil r0
  obtain rfl : args = #[v0] := by cases args; simp_all
  obtain ⟨rfl, rfl⟩ := trodVars_none hV
  have k0' := h0
  have lt0 : ∀ x ∈ p0, x.block < W.heap.size := by obtain ⟨m, hm⟩ := k0'; exact DataW.trod_lt m _ _ _ hm
  obtain ⟨A0, len0, cap0, rfl⟩ := okWide_slice Try.underlying44 (hval 0 44 v0 rfl rfl)
  obtain ⟨l0, rfl, hc0, hr0, b0, g0⟩ := opened_slice (P := Try.prog) (W := W) (j := 0) (opn_slice Try.underlying44 (by kernel_rfl) (by kernel_rfl : Try.prog.bytesOf 23 = 24) (opn_slice Try.underlying23 (by kernel_rfl) (by kernel_rfl : Try.prog.bytesOf 3 = 8) (opn_int Try.underlying3))) h0 hsz rfl rfl
  obtain ⟨k, hp⟩ := (⟨0, rfl, rfl⟩ : ∃ k : Nat, k = k ∧ true = true)
  clear hA0 hval0 hsz0 hsz
  refine (Go.Proofs.Ytipkcbpilkoflaa.QKeeps.debuggerlaw34_LinkKeeps.calls k _ _ l0 true W hr0 hc0 hp).mono fun e W' ⟨he, bel⟩ => ?_
  subst he
  exact ⟨_, rfl, _, _, _, [], _, [], hW', trodAll_mk1 (shut_bool Try.underlying4 _), (trodAll_cons_mk (Below.trod laidOut (by kernel_rfl) (of_decide_eq_true (by kernel_rfl)) k0' bel lt0) trodAll_mk0), rfl, bel.frame _, fun h => by cases h⟩
theorem over : Rows.linkKeepsRow.holds Try.pinned (OpenSpec.ofChange Rows.linkKeepsSpec) :=
  OpenClaim.holds_of_wide 5 Try.f5 rfl rfl rfl rfl rfl rfl rfl ⟨rfl, rfl, rfl, rfl, rfl⟩ rfl rfl rfl rfl rfl (by kernel_rfl) Try.func5 (by kernel_rfl)
    (of_decide_eq_true (by kernel_rfl)) (by unfold Func.isWrapper; first | (rw [if_pos (by decide +kernel)]; kernel_rfl) | (rw [if_neg (by decide +kernel)]; exact ⟨rfl, rfl⟩))
    (fun os started H enc _ => lifted os started H enc)
theorem proved : Rows.LinkKeepsSaid := over
#print axioms proved
end Go.Proofs.Ytipkcbpilkoflaa.linkKeeps
namespace Go.Proofs.Ytipkcbpilkoflaa
/-- The row, under a short name, for the claim. -/
theorem linkKeeps_holds : Rows.LinkKeepsSaid := linkKeeps.proved
end Go.Proofs.Ytipkcbpilkoflaa
