/-
  The law debuggerlaw42.SteppingCompares holds for every input: the call returns true, and each argument reads as it read before.
  Conditions: none beside the row's own.
-/
import Derived.Test.YtjcghbgcnofchaaRows
import Derived.Test.YtjcghbgcnofchaaQSteppingComparesx10
import Derived.Test.YtjcghbgcnofchaaPureSteppingCompares
import Derived.WalkKit
import Derived.ProofKit
import Derived.OpenShut
import Derived.ShutString
import Derived.ChangeOld
import Derived.Below
import Derived.SizedLaws
import Derived.Lib.SmallJoins
import Derived.Test.YtjcghbgcnofchaaWSized
namespace Go.Proofs.Ytjcghbgcnofchaa.steppingCompares
open Go.ChangeShapes Go.WideShapes Go.ChangeAt Go.RowKit Go.Joins
open Go.ChangeMaps (open_string shut_string)
open Go.Proofs.YtjcghbgcnofchaaW.PrintWords Go.Proofs.YtjcghbgcnofchaaW.PrintLast Go.Proofs.YtjcghbgcnofchaaW.PrintMore
set_option linter.unusedVariables false
set_option linter.unusedSimpArgs false
theorem own : ownKnob Try.prog.godebug = none := by kernel_rfl
theorem laidOut : laidOutB Try.prog = true := by kernel_rfl
def IsRow (k : IntKind) (w : World) (a : Option Addr) (len cap : Nat) (zs : List Int) : Prop :=
  (a = none ∧ len = 0 ∧ cap = 0 ∧ zs = []) ∨
  ∃ x, a = some x ∧ len ≤ cap ∧ cap ≤ maxLen ∧ zs.length = cap ∧ (∀ i, i < zs.length → w.cell? (x.add i) = some (.int k (zs.getD i 0))) ∧ ∀ n ∈ zs, (Lit.int k n).wf = true
theorem walk (a0 : Option Addr) (len0 cap0 : Nat) (z0 : List Int) (a1_0 a1_1 a1_2 : Int) (a2_0 a2_1 a2_2 : Int) (a3 : Int) (w : World) (w0 : IsRow .i64 w a0 len0 cap0 z0) (y0 : len0 * 8 ≤ 140737488351232) (w3 : (Lit.int .i64 a3).wf = true) :
    Calls Try.prog 3 #[.slice a0 len0 cap0, .agg #[.int .i64 a1_0, .int .i64 a1_1, .int .i64 a1_2], .agg #[.int .i64 a2_0, .int .i64 a2_1, .int .i64 a2_2], .int .i64 a3] w fun e w' => e = .returned (.bool true) ∧ Below w.heap.size w w' := by
  obtain ⟨l0, rfl, hr0, hm0, hw0, hc0⟩ := ReadsInt.ofRowC w0
  obtain ⟨k, h⟩ := Pure.SteppingCompares l0 a1_0 a1_1 a1_2 a2_0 a2_1 a2_2 a3 y0
  refine (Go.Proofs.Ytjcghbgcnofchaa.QSteppingCompares.debuggerlaw42_SteppingCompares.calls k _ _ l0 a1_0 a1_1 a1_2 a2_0 a2_1 a2_2 a3 true w (Kd.C_of_reads (d := (0 : Int)) (h1 := fun _ => rfl) hr0) hc0 h).mono ?_
  rintro e w' ⟨rfl, hd⟩
  exact ⟨rfl, hd⟩
set_option maxRecDepth 100000 in
theorem lifted (os : Os) (started : os.Started) (H : Type) (enc : TypeId × Value → H) :
    ReturnsInHanded {} Try.checked os 3 .any (Rows.steppingComparesSpec.pre6 enc Try.prog Try.f3 Rows.steppingComparesRow.domain false) (Rows.steppingComparesSpec.post enc Try.prog Try.f3 false true false false) := by
  refine returnsInHanded_of_change_sized (C := Try.checked) own started (by kernel_rfl) Try.func3
    (ChangeSpec.witness6 (enc := enc) (C := Try.checked) false ⟨#[], #[.slice none 0 0, .agg #[.int .i64 0, .int .i64 0, .int .i64 0], .agg #[.int .i64 0, .int .i64 0, .int .i64 0], .int .i64 0], []⟩ 8 (by kernel_rfl) (by kernel_rfl) (by kernel_rfl) (by kernel_rfl)) ?_
  intro W base args ds gs before hval0 hW hcnd hsz0 _
  have hsz : (DataW.weightsEach Try.prog (Try.f3.params.toList ++ Rows.steppingComparesSpec.plain.varTypes Try.prog) (ds ++ gs)).all (· ≤ reachBytes) = true := hsz0
  have hval : ∀ (j : Nat) t v, Try.f3.params[j]? = some t → args[j]? = some v → Value.okWide Try.prog W .any base t v := hval0
  have hW' := hW
  obtain ⟨p, q, hA0, hV, rfl, hfz, hnd⟩ := hW
  have hA : DataW.TrodAll enc Try.prog W 0 (fun _ => true) true Try.f3.params.toList args.toList ds p := hA0
  rw [Try.params3] at hA hval hsz
  obtain ⟨v0, vs0, d0, ds0, p0, q0, hargs, rfl, rfl, h0, r0⟩ := trodAll_cons hA
  obtain ⟨v1, vs1, d1, ds1, p1, q1, rfl, rfl, rfl, h1, r1⟩ := trodAll_cons r0
  obtain ⟨v2, vs2, d2, ds2, p2, q2, rfl, rfl, rfl, h2, r2⟩ := trodAll_cons r1
  obtain ⟨v3, vs3, d3, ds3, p3, q3, rfl, rfl, rfl, h3, r3⟩ := trodAll_cons r2
  obtain ⟨rfl, rfl, rfl⟩ := trodAll_nil r3
  obtain rfl : args = #[v0, v1, v2, v3] := by cases args; simp_all
  obtain ⟨rfl, rfl⟩ := trodVars_none hV
  obtain ⟨a0, len0, cap0, rfl⟩ := okWide_slice Try.underlying22 (hval 0 22 v0 rfl rfl)
  have k0 := h0
  have lt0 : ∀ x ∈ p0, x.block < W.heap.size := by obtain ⟨m, hm⟩ := k0; exact DataW.trod_lt m _ _ _ hm
  obtain ⟨z0, w0⟩ : ∃ zs, IsRow .i64 W a0 len0 cap0 zs := by
    obtain ⟨fuel, hf⟩ := h0
    rcases open_ints Try.underlying22 Try.underlying3 (by kernel_rfl) hf with ⟨hcs, _⟩ | ⟨x, l, c, zs, hcs, _, hl, hm, hz, _, hcell, hwz⟩
    · simp [Value.cells] at hcs
      obtain ⟨rfl, rfl, rfl⟩ := hcs
      exact ⟨[], .inl ⟨rfl, rfl, rfl, rfl⟩⟩
    · simp [Value.cells] at hcs
      obtain ⟨rfl, rfl, rfl⟩ := hcs
      exact ⟨zs, .inr ⟨_, rfl, hl, hm, by simpa using hz, hcell, hwz⟩⟩
  have y0 : len0 * 8 ≤ 140737488351232 := sized_ints hsz (j := 0) (t := 22) rfl rfl Try.underlying22 Try.underlying3 (by kernel_rfl) (by kernel_rfl) h0
  obtain ⟨c1_0, c1_1, c1_2, e1_0, e1_1, e1_2, m1, rfl, rfl, rfl, h1_0, h1_1, h1_2⟩ := open_agg3 Try.underlying24 (by kernel_rfl) (by kernel_rfl) (hval 1 24 v1 rfl rfl) h1
  obtain ⟨a1_0, g1_0, rfl, w1_0⟩ := DataW.trod_int Try.underlying3 h1_0
  simp only [List.cons.injEq, and_true] at g1_0
  subst g1_0
  obtain ⟨a1_1, g1_1, rfl, w1_1⟩ := DataW.trod_int Try.underlying3 h1_1
  simp only [List.cons.injEq, and_true] at g1_1
  subst g1_1
  obtain ⟨a1_2, g1_2, rfl, w1_2⟩ := DataW.trod_int Try.underlying3 h1_2
  simp only [List.cons.injEq, and_true] at g1_2
  subst g1_2
  obtain ⟨c2_0, c2_1, c2_2, e2_0, e2_1, e2_2, m2, rfl, rfl, rfl, h2_0, h2_1, h2_2⟩ := open_agg3 Try.underlying24 (by kernel_rfl) (by kernel_rfl) (hval 2 24 v2 rfl rfl) h2
  obtain ⟨a2_0, g2_0, rfl, w2_0⟩ := DataW.trod_int Try.underlying3 h2_0
  simp only [List.cons.injEq, and_true] at g2_0
  subst g2_0
  obtain ⟨a2_1, g2_1, rfl, w2_1⟩ := DataW.trod_int Try.underlying3 h2_1
  simp only [List.cons.injEq, and_true] at g2_1
  subst g2_1
  obtain ⟨a2_2, g2_2, rfl, w2_2⟩ := DataW.trod_int Try.underlying3 h2_2
  simp only [List.cons.injEq, and_true] at g2_2
  subst g2_2
  obtain ⟨a3, rfl, rfl, rfl, w3⟩ := open_int Try.underlying3 (hval 3 3 v3 rfl rfl) h3
  clear hA0 hval0 hsz0 hsz
  refine (walk a0 len0 cap0 z0 a1_0 a1_1 a1_2 a2_0 a2_1 a2_2 a3 W w0 y0 w3).mono fun e W' ⟨he, bel⟩ => ?_
  subst he
  exact ⟨_, rfl, _, _, _, [], _, [], hW', trodAll_mk1 (shut_bool Try.underlying4 _), (trodAll_cons_mk (Below.trod laidOut (by kernel_rfl) (of_decide_eq_true (by kernel_rfl)) k0 bel lt0) (trodAll_cons_mk (shut_agg3 (P := Try.prog) (y0 := (.lit (.int .i64 a1_0), [])) (y1 := (.lit (.int .i64 a1_1), [])) (y2 := (.lit (.int .i64 a1_2), [])) Try.underlying24 (by kernel_rfl) (by kernel_rfl) ⟨1, by simp [DataW.trod, Try.underlying3, w1_0]⟩ ⟨1, by simp [DataW.trod, Try.underlying3, w1_1]⟩ ⟨1, by simp [DataW.trod, Try.underlying3, w1_2]⟩) (trodAll_cons_mk (shut_agg3 (P := Try.prog) (y0 := (.lit (.int .i64 a2_0), [])) (y1 := (.lit (.int .i64 a2_1), [])) (y2 := (.lit (.int .i64 a2_2), [])) Try.underlying24 (by kernel_rfl) (by kernel_rfl) ⟨1, by simp [DataW.trod, Try.underlying3, w2_0]⟩ ⟨1, by simp [DataW.trod, Try.underlying3, w2_1]⟩ ⟨1, by simp [DataW.trod, Try.underlying3, w2_2]⟩) (trodAll_cons_mk (shut_int Try.underlying3 w3) trodAll_mk0)))), rfl, bel.frame _, fun h => by cases h⟩
theorem over : Rows.steppingComparesRow.holds Try.pinned (OpenSpec.ofChange Rows.steppingComparesSpec) :=
  OpenClaim.holds_of_wide 3 Try.f3 rfl rfl rfl rfl rfl rfl rfl ⟨rfl, rfl, rfl, rfl, rfl⟩ rfl rfl rfl rfl rfl (by kernel_rfl) Try.func3 (by kernel_rfl)
    (of_decide_eq_true (by kernel_rfl)) (by unfold Func.isWrapper; first | (rw [if_pos (by decide +kernel)]; kernel_rfl) | (rw [if_neg (by decide +kernel)]; exact ⟨rfl, rfl⟩))
    (fun os started H enc _ => lifted os started H enc)
theorem proved : Rows.SteppingComparesSaid := over
#print axioms proved
end Go.Proofs.Ytjcghbgcnofchaa.steppingCompares
namespace Go.Proofs.Ytjcghbgcnofchaa
/-- The row, under a short name, for the claim. -/
theorem steppingCompares_holds : Rows.SteppingComparesSaid := steppingCompares.proved
end Go.Proofs.Ytjcghbgcnofchaa
