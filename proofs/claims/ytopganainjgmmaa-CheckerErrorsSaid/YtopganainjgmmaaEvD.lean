/- Each operation of the evaluator's is the model's: moves, loads, operators. -/
import Derived.Test.YtopganainjgmmaaEvC
namespace Go.Proofs.Ytopganainjgmmaa.Ev
open Go Go.RowKit
set_option linter.unusedVariables false
set_option linter.unusedSimpArgs false

def Done (P : Program) (s : Nat → Int) (σ : Sg) (w0 : World) (oo : Oper) (a : Act) (w : World) (v : V) (h' : H) : Prop :=
  ∃ σ' x w', Ext σ σ' ∧ Rv s σ' v x ∧ Mem s σ' w0 h' w' ∧ ((execOp a.eval oo).run P w = .ok (.value x) w' ∨ ((execOp a.eval oo).run P w = .ok .skip w' ∧ x = undef))
def OpS (P : Program) (o : Op) (f : OpF) : Prop := ∀ (s : Nat → Int) (σ : Sg) (nt : Nat) (e : E) (a : Act) (w0 w : World) (h : H) (v : V) (h' : H) (oo : Oper), oo.op = o → Fr s σ nt e a → Mem s σ w0 h w → f.f e h = .ok v h' → Done P s σ w0 oo a w v h'
section
variable {P : Program}
theorem Done.quiet {s : Nat → Int} {σ : Sg} {w0 : World} {oo : Oper} {a : Act} {w : World} {v : V} {h h' : H} {x : Value} (hm : Mem s σ w0 h w) (he : h = h') (hv : Rv s σ v x) (hr : (execOp a.eval oo).run P w = .ok (.value x) w) : Done P s σ w0 oo a w v h' :=
  ⟨σ, x, w, Ext.refl σ, hv, he ▸ hm, .inl hr⟩
theorem bad_S (o : Op) (n : Nat) : OpS P o ⟨fun _ _ => .bad n⟩ := by
  intro s σ nt e a w0 w h v h' oo ho hf hm hr; cases hr

theorem move_val {x : Get} {e : E} {h : H} {v : V} {h' : H} (hr : (oMove x).f e h = .ok v h') : v = x.f e ∧ h' = h ∧ x.f e ≠ .no := by
  unfold oMove at hr
  dsimp only at hr
  generalize x.f e = q at hr ⊢
  cases q with
  | no => cases hr
  | undef => cases hr
  | _ => cases hr; exact ⟨rfl, rfl, fun h => by cases h⟩
theorem move_S (x : Operand) : OpS P (.move x) (oMove (gt x)) := by
  intro s σ nt e a w0 w h v h' oo ho hf hm hr
  obtain ⟨rfl, rfl, hn⟩ := move_val hr
  exact Done.quiet hm rfl (gt_ok hf x hn) (by unfold execOp; rw [ho]; rfl)
theorem assign_S (x : Operand) : OpS P (.assign x) (oMove (gt x)) := by
  intro s σ nt e a w0 w h v h' oo ho hf hm hr
  obtain ⟨rfl, rfl, hn⟩ := move_val hr
  exact Done.quiet hm rfl (gt_ok hf x hn) (by unfold execOp; rw [ho]; rfl)
theorem pick_S (c x y : Operand) : OpS P (.pick c x y) (oPick (gt c) (gt x) (gt y)) := by
  intro s σ nt e a w0 w h v h' oo ho hf hm hr
  obtain ⟨cc, hc, hr⟩ := oneK_ok hr
  obtain ⟨b, rfl, hr⟩ := boolK_ok hr
  have hb : a.eval c = .bool b := gt_one hf hc
  cases b with
  | true =>
    obtain ⟨rfl, rfl, hn⟩ := move_val (x := gt x) hr
    exact Done.quiet hm rfl (gt_ok hf x hn) (by unfold execOp; rw [ho]; simp [hb, asBool, Sem.run_bind])
  | false =>
    obtain ⟨rfl, rfl, hn⟩ := move_val (x := gt y) hr
    exact Done.quiet hm rfl (gt_ok hf y hn) (by unfold execOp; rw [ho]; simp [hb, asBool, Sem.run_bind])
theorem nil_S (x : Operand) : OpS P (.nilCheck x) (oNil (gt x)) := by
  intro s σ nt e a w0 w h v h' oo ho hf hm hr
  obtain ⟨cc, hc, hr⟩ := oneK_ok hr
  obtain ⟨b, o, rfl, hr⟩ := ptrK_ok hr
  cases hr
  have hv := gt_one hf hc
  obtain ⟨y, hy, hx⟩ := hv
  exact Done.quiet hm rfl ⟨y, hy, rfl⟩ (by unfold execOp; rw [ho]; simp only [hx]; rfl)

theorem load_S (t : TypeId) (x : Operand) : OpS P (.load t x) (oLoad P t (gt x)) := by
  intro s σ nt e a w0 w h v h' oo ho hf hm hr
  unfold oLoad at hr
  split at hr
  · next i hi =>
    have ht := ti_ok P hi
    obtain ⟨f, hf1, hf2, _⟩ := ht.info
    split at hr
    · next hag =>
      obtain ⟨cc, hc, hr⟩ := oneK_ok hr
      obtain ⟨b, o, rfl, hr⟩ := ptrK_ok hr
      obtain ⟨l, hl, hr⟩ := blkK_ok hr
      obtain ⟨c, m, hcm, hr⟩ := hdK_ok hr
      cases hr
      obtain ⟨y, hy, hx⟩ := gt_one hf hc
      obtain ⟨u, hu, hru⟩ := hm.cell hl hy hcm
      refine Done.quiet hm rfl (x := u) hru ?_
      have hagg : (isAgg t).run P w = .ok false w := by
        unfold isAgg
        rw [Sem.run_bind, run_underlying ht.und w]
        have h2 := ht.agg
        rw [hag] at h2
        generalize i.desc = d at h2
        cases d <;> first | rfl | cases h2
      unfold execOp
      rw [ho]
      simp [hx, Instr.loadAt, Instr.sureAddr, loadVar, hagg, hu]
    · next hag =>
      obtain ⟨cc, hc, hr⟩ := oneK_ok hr
      obtain ⟨b, o, rfl, hr⟩ := ptrK_ok hr
      obtain ⟨l, hl, hr⟩ := blkK_ok hr
      obtain ⟨hk, hr⟩ := takeK_ok _ hr
      cases hr
      obtain ⟨y, hy, hx⟩ := gt_one hf hc
      obtain ⟨vs, h1, h2, h3⟩ := hm.row hl hy hk
      refine Done.quiet hm rfl (x := .agg vs.toArray) ⟨_, rfl, by simpa using h2⟩ ?_
      unfold execOp
      rw [ho]
      have := run_loadAt_mid (P := P) w y.1 o t vs i.desc h1 ht.und (by rw [← ht.agg]; exact hag) (by rw [hf1, h3, ← hf2]; rfl)
      simp only [hx, Sem.run_bind, this, Result.andThen_ok, Sem.run_pure]
  · cases hr
end
end Go.Proofs.Ytopganainjgmmaa.Ev
