/-
  The law debuggerlaw34.LinkSends holds for every input: the call returns true, and each argument reads as it read before.
  Conditions: none beside the row's own.
-/
import Derived.Test.YtipkcbpilkoflaaRows
import Derived.Test.YtipkcbpilkoflaaQLinkSendsx23
import Derived.Test.YtipkcbpilkoflaaPureLinkSends
import Derived.Test.YtipkcbpilkoflaaOpen
import Derived.WalkKit
import Derived.ProofKit
import Derived.OpenShut
import Derived.ShutString
import Derived.ChangeOld
import Derived.Below
import Derived.SizedLaws
namespace Go.Proofs.Ytipkcbpilkoflaa.linkSends
open Go.ChangeShapes Go.WideShapes Go.ChangeAt Go.RowKit Go.Proofs.Ytipkcbpilkoflaa.QLinkSends
open Go.ChangeMaps (open_string shut_string)
open Go.Proofs.YtipkcbpilkoflaaW.PrintWords Go.Proofs.YtipkcbpilkoflaaW.PrintLast Go.Proofs.YtipkcbpilkoflaaW.PrintMore
set_option linter.unusedVariables false
set_option linter.unusedSimpArgs false
theorem own : ownKnob Try.prog.godebug = none := by kernel_rfl
theorem laidOut : laidOutB Try.prog = true := by kernel_rfl
set_option maxRecDepth 100000 in
theorem lifted (os : Os) (started : os.Started) (H : Type) (enc : TypeId × Value → H) :
    ReturnsInHanded {} Try.checked os 3 .any (Rows.linkSendsSpec.pre6 enc Try.prog Try.f3 Rows.linkSendsRow.domain false) (Rows.linkSendsSpec.post enc Try.prog Try.f3 false true false false) := by
  refine returnsInHanded_of_change_sized (C := Try.checked) own started (by kernel_rfl) Try.func3
    (ChangeSpec.witness6 (enc := enc) (C := Try.checked) false ⟨#[], #[.slice none 0 0, .agg #[.slice none 0 0, .int .i64 0, .int .i64 0], .slice none 0 0, .slice none 0 0, .int .i64 0, .int .i64 0, .int .i64 0], []⟩ 8 (by kernel_rfl) (by kernel_rfl) (by kernel_rfl) (by kernel_rfl)) ?_
  intro W base args ds gs before hval0 hW hcnd hsz0 _
  have hsz : (DataW.weightsEach Try.prog (Try.f3.params.toList ++ Rows.linkSendsSpec.plain.varTypes Try.prog) (ds ++ gs)).all (· ≤ reachBytes) = true := hsz0
  have hval : ∀ (j : Nat) t v, Try.f3.params[j]? = some t → args[j]? = some v → Value.okWide Try.prog W .any base t v := hval0
  have hW' := hW
  obtain ⟨p, q, hA0, hV, rfl, hfz, hnd⟩ := hW
  have hA : DataW.TrodAll enc Try.prog W 0 (fun _ => true) true Try.f3.params.toList args.toList ds p := hA0
  rw [Try.params3] at hA hval hsz
  obtain ⟨v0, vs0, d0, ds0, p0, q0, hargs, rfl, rfl, h0, r0⟩ := trodAll_cons hA
  obtain ⟨v1, vs1, d1, ds1, p1, q1, rfl, rfl, rfl, h1, r1⟩ := trodAll_cons r0
  obtain ⟨v2, vs2, d2, ds2, p2, q2, rfl, rfl, rfl, h2, r2⟩ := trodAll_cons r1
  obtain ⟨v3, vs3, d3, ds3, p3, q3, rfl, rfl, rfl, h3, r3⟩ := trodAll_cons r2
  obtain ⟨v4, vs4, d4, ds4, p4, q4, rfl, rfl, rfl, h4, r4⟩ := trodAll_cons r3
  obtain ⟨v5, vs5, d5, ds5, p5, q5, rfl, rfl, rfl, h5, r5⟩ := trodAll_cons r4
  obtain ⟨v6, vs6, d6, ds6, p6, q6, rfl, rfl, rfl, h6, r6⟩ := trodAll_cons r5
  obtain ⟨rfl, rfl, rfl⟩ := trodAll_nil r6
  obtain rfl : args = #[v0, v1, v2, v3, v4, v5, v6] := by cases args; simp_all
  obtain ⟨rfl, rfl⟩ := trodVars_none hV
  have k0' := h0
  have lt0 : ∀ x ∈ p0, x.block < W.heap.size := by obtain ⟨m, hm⟩ := k0'; exact DataW.trod_lt m _ _ _ hm
  obtain ⟨A0, len0, cap0, rfl⟩ := okWide_slice Try.underlying22 (hval 0 22 v0 rfl rfl)
  obtain ⟨l0, rfl, hc0, hr0, b0, g0⟩ := opened_slice (P := Try.prog) (W := W) (j := 0) (opn_slice Try.underlying22 (by kernel_rfl) (by kernel_rfl : Try.prog.bytesOf 37 = 32) (opn_iso (fun x : S37 => (x.f0, x.f1)) (fun p => ⟨p.1, p.2⟩) (fun _ => rfl) (opn_pair Try.underlying37 (by kernel_rfl) rfl (by kernel_rfl) (by kernel_rfl) (by kernel_rfl) (opn_int Try.underlying3) (opn_slice Try.underlying27 (by kernel_rfl) (by kernel_rfl : Try.prog.bytesOf 5 = 1) (opn_int Try.underlying5))))) h0 hsz rfl rfl
  have k1' := h1
  have lt1 : ∀ x ∈ p1, x.block < W.heap.size := by obtain ⟨m, hm⟩ := k1'; exact DataW.trod_lt m _ _ _ hm
  obtain ⟨cs1, rfl, hs1⟩ := okWide_struct Try.underlying25 (hval 1 25 v1 rfl rfl)
  obtain ⟨x1, kx1, g1⟩ := opened_agg (P := Try.prog) (W := W) (j := 1) (opn_iso (fun x : S25 => (x.f0, x.f1, x.f2)) (fun p => ⟨p.1, p.2.1, p.2.2⟩) (fun _ => rfl) (opn_triple Try.underlying25 (by kernel_rfl) rfl (by kernel_rfl) (by kernel_rfl) (by kernel_rfl) (by kernel_rfl) (by kernel_rfl) (opn_slice Try.underlying23 (by kernel_rfl) (by kernel_rfl : Try.prog.bytesOf 3 = 8) (opn_int Try.underlying3)) (opn_int Try.underlying3) (opn_int Try.underlying3))) h1 hsz rfl rfl
  obtain ⟨A1_0, c1_0, he1, hc1_0, hr1_0⟩ := k25_open kx1
  obtain rfl := Array.toList_inj.1 (he1.trans (List.toList_toArray).symm)
  have k2' := h2
  have lt2 : ∀ x ∈ p2, x.block < W.heap.size := by obtain ⟨m, hm⟩ := k2'; exact DataW.trod_lt m _ _ _ hm
  obtain ⟨A2, len2, cap2, rfl⟩ := okWide_slice Try.underlying26 (hval 2 26 v2 rfl rfl)
  obtain ⟨l2, rfl, hc2, hr2, b2, g2⟩ := opened_slice (P := Try.prog) (W := W) (j := 2) (opn_slice Try.underlying26 (by kernel_rfl) (by kernel_rfl : Try.prog.bytesOf 25 = 40) (opn_iso (fun x : S25 => (x.f0, x.f1, x.f2)) (fun p => ⟨p.1, p.2.1, p.2.2⟩) (fun _ => rfl) (opn_triple Try.underlying25 (by kernel_rfl) rfl (by kernel_rfl) (by kernel_rfl) (by kernel_rfl) (by kernel_rfl) (by kernel_rfl) (opn_slice Try.underlying23 (by kernel_rfl) (by kernel_rfl : Try.prog.bytesOf 3 = 8) (opn_int Try.underlying3)) (opn_int Try.underlying3) (opn_int Try.underlying3)))) h2 hsz rfl rfl
  have k3' := h3
  have lt3 : ∀ x ∈ p3, x.block < W.heap.size := by obtain ⟨m, hm⟩ := k3'; exact DataW.trod_lt m _ _ _ hm
  obtain ⟨A3, len3, cap3, rfl⟩ := okWide_slice Try.underlying27 (hval 3 27 v3 rfl rfl)
  obtain ⟨l3, rfl, hc3, hr3, b3, g3⟩ := opened_slice (P := Try.prog) (W := W) (j := 3) (opn_slice Try.underlying27 (by kernel_rfl) (by kernel_rfl : Try.prog.bytesOf 5 = 1) (opn_int Try.underlying5)) h3 hsz rfl rfl
  obtain ⟨a4, rfl, rfl, rfl, w4⟩ := open_int Try.underlying3 (hval 4 3 v4 rfl rfl) h4
  obtain ⟨a5, rfl, rfl, rfl, w5⟩ := open_int Try.underlying3 (hval 5 3 v5 rfl rfl) h5
  obtain ⟨a6, rfl, rfl, rfl, w6⟩ := open_int Try.underlying3 (hval 6 3 v6 rfl rfl) h6
  obtain ⟨k, hp⟩ := Pure.LinkSends l0 x1.f0 x1.f1 x1.f2 l2 l3 a4 a5 a6 (fun x hx => (g2 x hx).1.1)
  clear hA0 hval0 hsz0 hsz
  refine (Go.Proofs.Ytipkcbpilkoflaa.QLinkSends.debuggerlaw34_LinkSends.calls k (fun k => k < W.heap.size) _ _ l0 (fun k => k < W.heap.size) _ _ x1.f0 x1.f1 x1.f2 _ _ l2 _ _ l3 a4 a5 a6 true W (Kd.V_mk hc0 (Kd.C_F k37_heap hr0)) (Kd.V_mk hc1_0 (Kd.C_F (Kd.heap_int .i64) hr1_0)) hr2 hc2 hr3 hc3 hp).mono fun e W' ⟨he, bel⟩ => ?_
  subst he
  exact ⟨_, rfl, _, _, _, [], _, [], hW', trodAll_mk1 (shut_bool Try.underlying4 _), (trodAll_cons_mk (Below.trod laidOut (by kernel_rfl) (of_decide_eq_true (by kernel_rfl)) k0' bel lt0) (trodAll_cons_mk (Below.trod laidOut (by kernel_rfl) (of_decide_eq_true (by kernel_rfl)) k1' bel lt1) (trodAll_cons_mk (Below.trod laidOut (by kernel_rfl) (of_decide_eq_true (by kernel_rfl)) k2' bel lt2) (trodAll_cons_mk (Below.trod laidOut (by kernel_rfl) (of_decide_eq_true (by kernel_rfl)) k3' bel lt3) (trodAll_cons_mk (shut_int Try.underlying3 w4) (trodAll_cons_mk (shut_int Try.underlying3 w5) (trodAll_cons_mk (shut_int Try.underlying3 w6) trodAll_mk0))))))), rfl, bel.frame _, fun h => by cases h⟩
theorem over : Rows.linkSendsRow.holds Try.pinned (OpenSpec.ofChange Rows.linkSendsSpec) :=
  OpenClaim.holds_of_wide 3 Try.f3 rfl rfl rfl rfl rfl rfl rfl ⟨rfl, rfl, rfl, rfl, rfl⟩ rfl rfl rfl rfl rfl (by kernel_rfl) Try.func3 (by kernel_rfl)
    (of_decide_eq_true (by kernel_rfl)) (by unfold Func.isWrapper; first | (rw [if_pos (by decide +kernel)]; kernel_rfl) | (rw [if_neg (by decide +kernel)]; exact ⟨rfl, rfl⟩))
    (fun os started H enc _ => lifted os started H enc)
theorem proved : Rows.LinkSendsSaid := over
#print axioms proved
end Go.Proofs.Ytipkcbpilkoflaa.linkSends
namespace Go.Proofs.Ytipkcbpilkoflaa
/-- The row, under a short name, for the claim. -/
theorem linkSends_holds : Rows.LinkSendsSaid := linkSends.proved
end Go.Proofs.Ytipkcbpilkoflaa
