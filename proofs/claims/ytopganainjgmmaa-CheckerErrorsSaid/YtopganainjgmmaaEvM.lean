/- One operation in a region; calls; what a function hands back. -/
import Derived.Test.YtopganainjgmmaaEvL
import Derived.Shelf.Abstract
namespace Go.Proofs.Ytopganainjgmmaa.Ev
open Go Go.RowKit
set_option linter.unusedVariables false
set_option linter.unusedSimpArgs false

def RVs (s : Nat → Int) (σ : Sg) : List V → List Value → Prop
  | [], [] => True
  | v :: l, x :: m => Rv s σ v x ∧ RVs s σ l m
  | _, _ => False
/-- a call answers as the evaluator does -/
def CallS (P : Program) (s : Nat → Int) (σ : Sg) (w0 : World) (f : FuncId) (args : Array Value) (w : World) (v : V) (h' : H) : Prop :=
  Enters P f ∧ Calls P f args w fun e w' => ∃ x, e = .returned x ∧ ∃ σ', Ext σ σ' ∧ Rv s σ' v x ∧ Mem s σ' w0 h' w'
def RunS (P : Program) (s : Nat → Int) (run : Run) : Prop := ∀ f vs h v h', run f vs h = .ok v h' → ∀ σ w0 w (args : Array Value), RVs s σ vs args.toList → Mem s σ w0 h w → CallS P s σ w0 f args w v h'

section
variable {P : Program} {s : Nat → Int} {σ : Sg} {nt : Nat} {e : E} {a : Act} {w0 w : World} {h : H}
theorem argsK_ok (hf : Fr s σ nt e a) {n : Nat} {v : V} {h' : H} : ∀ {l : List Operand} {K : List V → RV}, argsK e (.bad n) (l.map gt) K = .ok v h' → ∃ vs, RVs s σ vs (l.map a.eval) ∧ K vs = .ok v h'
  | [], K, hr => ⟨[], trivial, hr⟩
  | x :: l, K, hr => by
    have hr2 : V.rec (motive := fun _ => RV) (.bad n) (.bad n) (fun c => argsK e (.bad n) (l.map gt) fun r => K (.one c :: r)) (fun c => argsK e (.bad n) (l.map gt) fun r => K (.agg c :: r)) (fun c => argsK e (.bad n) (l.map gt) fun r => K (.tup c :: r)) ((gt x).f e) = .ok v h' := hr
    have hx := gt_ok hf x
    generalize (gt x).f e = q at hr2 hx
    cases q with
    | no => cases hr2
    | undef => cases hr2
    | one c =>
      obtain ⟨vs, h1, h2⟩ := argsK_ok hf (l := l) hr2
      exact ⟨.one c :: vs, ⟨hx (by intro h; cases h), h1⟩, h2⟩
    | agg c =>
      obtain ⟨vs, h1, h2⟩ := argsK_ok hf (l := l) hr2
      exact ⟨.agg c :: vs, ⟨hx (by intro h; cases h), h1⟩, h2⟩
    | tup c =>
      obtain ⟨vs, h1, h2⟩ := argsK_ok hf (l := l) hr2
      exact ⟨.tup c :: vs, ⟨hx (by intro h; cases h), h1⟩, h2⟩

/-- one operation, whatever it is -/
theorem step_op {run : Run} (hR : RunS P s run) {o : Oper} (hf : Fr s σ nt e a) (hm : Mem s σ w0 h w) {v : V} {h' : H} (hr : opI P o.op run e h = .ok v h') {K : Act → World → Prop} {Q : Exit → Act → World → Prop}
    (hK : ∀ σ' x w', Ext σ σ' → Rv s σ' v x → Mem s σ' w0 h' w' → K (a.put o.dst x) w') : o.wp P a w K Q := by
  have plain : (op1 P o.op).f e h = .ok v h' → o.wp P a w K Q := fun hr => by
    obtain ⟨σ', x, w', he, hv, hm', hx⟩ := op1_S (P := P) o.op s σ nt e a w0 w h v h' o rfl hf hm hr
    unfold Oper.wp
    rcases hx with hx | ⟨hx, rfl⟩
    · rw [hx]
      exact hK σ' x w' he hv hm'
    · rw [hx]
      exact hK σ' undef w' he hv hm'
  cases ho : o.op with
  | call c =>
    rw [ho] at hr plain
    unfold opI at hr
    dsimp only at hr
    cases hc : c.callee with
    | value y =>
      rw [hc] at hr
      cases y with
      | func f =>
        dsimp only at hr
        obtain ⟨vs, hvs, hr2⟩ := argsK_ok hf (l := c.args.toList) hr
        obtain ⟨hent, hcall⟩ := hR f vs h v h' hr2 σ w0 w (c.args.map a.eval) (by simpa using hvs) hm
        have hx : (execOp a.eval o).run P w = .ok (.enter f (c.args.map a.eval)) w := by
          unfold execOp
          rw [ho]
          simp only [resolve, hc, Act.eval, Deferred.ofValue, Sem.run_bind, Sem.run_pure, Result.andThen_ok, invoke]
          simpa using hent (c.args.map a.eval) w
        unfold Oper.wp
        rw [hx]
        refine Calls.mono hcall fun en w' he => ?_
        obtain ⟨x, rfl, σ', h1, h2, h3⟩ := he
        exact hK σ' x w' h1 h2 h3
      | _ => exact plain hr
    | _ => rw [hc] at hr; exact plain hr
  | _ => rw [ho] at hr plain; exact plain hr

/-- a slot written -/
theorem Fr.put (hf : Fr s σ nt e a) {d : Nat} (hd : d < nt) {v : V} {x : Value} (hv : Rv s σ v x) : Fr s σ nt ((ea d).set v e) (a.put (some d) x) := by
  refine ⟨hf.defers, by simpa [Act.put] using hf.size, fun t ht => ?_⟩
  by_cases hb : d < 256
  · rw [ea_get_set t d v e hb] at ht ⊢
    by_cases htd : t = d
    · subst htd
      refine ⟨x, ?_, by rw [if_pos rfl]; exact hv⟩
      have := hf.size
      simp only [Act.put]
      rw [Array.getElem?_setIfInBounds_self, if_pos (by omega)]
    · rw [if_neg htd] at ht ⊢
      obtain ⟨y, h1, h2⟩ := hf.get t ht
      refine ⟨y, ?_, h2⟩
      simp only [Act.put]
      rw [Array.getElem?_setIfInBounds_ne (Ne.symm htd)]
      exact h1
  · rw [ea_setBig d hb] at ht ⊢
    obtain ⟨y, h1, h2⟩ := hf.get t ht
    refine ⟨y, ?_, h2⟩
    have htd : t ≠ d := fun he => by subst he; rw [ea_big t hb] at ht; exact ht rfl
    simp only [Act.put]
    rw [Array.getElem?_setIfInBounds_ne (Ne.symm htd)]
    exact h1
theorem Fr.drew (hm : Mem s σ w0 h w) : Mem s σ w0 h { w with drawn := w.drawn + 1 } := hm.drew

/-! ### guards -/
def Want (g : E → RE → RE → RE) (e : E) : Prop := ∀ x y, g e x y = x
def Skip (g : E → RE → RE → RE) (e : E) : Prop := ∀ x y, g e x y = y
noncomputable def gtest (want : Bool) (v : V) (x y : RE) : RE := V.rec (motive := fun _ => RE) (.bad 301) y (boolK (.bad 302) fun b => ite' (bEq b want) x y) (fun _ => .bad 301) (fun _ => .bad 301) v
theorem guardF_some (all : List Oper) (j : Nat) (want : Bool) : (∃ p d, all[j]? = some p ∧ p.dst = some d ∧ ∀ e x y, guardF all (some (j, want)) e x y = gtest want ((ea d).get e) x y) ∨ ∃ n, ∀ e x y, guardF all (some (j, want)) e x y = .bad n := by
  cases ho : all[j]? with
  | none => exact .inr ⟨304, fun e x y => by unfold guardF; simp only [ho]⟩
  | some p =>
    cases hd : p.dst with
    | none => exact .inr ⟨303, fun e x y => by unfold guardF; simp only [ho, hd]⟩
    | some d => exact .inl ⟨p, d, rfl, hd, fun e x y => by unfold guardF gtest; simp only [ho, hd]⟩
theorem bad_guard {g : E → RE → RE → RE} {e : E} {n : Nat} (key : ∀ x y, g e x y = .bad n) : ¬ Want g e ∧ ¬ Skip g e :=
  ⟨fun h => (by have := h (.ok e h0) (.bad 0); rw [key] at this; cases this), fun h => (by have := h (.bad 0) (.ok e h0); rw [key] at this; cases this)⟩
/-- what the test finds -/
theorem gtest_cases (want : Bool) (v : V) : (v = .undef ∧ ∀ x y, gtest want v x y = y) ∨ (∃ b, v = .one (.bool b) ∧ ((b == want) = true ∧ (∀ x y, gtest want v x y = x) ∨ (b == want) = false ∧ ∀ x y, gtest want v x y = y)) ∨ ∃ n, ∀ x y, gtest want v x y = .bad n := by
  cases v with
  | undef => exact .inl ⟨rfl, fun _ _ => rfl⟩
  | one c =>
    cases c with
    | bool b =>
      refine .inr (.inl ⟨b, rfl, ?_⟩)
      have kk : ∀ x y, gtest want (.one (.bool b)) x y = ite' (bEq b want) x y := fun _ _ => rfl
      cases hb : (b == want) with
      | true => exact .inl ⟨rfl, fun x y => by rw [kk, bEq_eq, hb]; rfl⟩
      | false => exact .inr ⟨rfl, fun x y => by rw [kk, bEq_eq, hb]; rfl⟩
    | _ => exact .inr (.inr ⟨302, fun _ _ => rfl⟩)
  | _ => exact .inr (.inr ⟨301, fun _ _ => rfl⟩)
theorem guard_cases {all : List Oper} {g : Option (Nat × Bool)} {x y : RE} {e1 : E} {h1 : H} (hr : guardF all g e x y = .ok e1 h1) : Want (guardF all g) e ∨ Skip (guardF all g) e := by
  cases g with
  | none => exact .inl fun _ _ => rfl
  | some jw =>
    obtain ⟨j, want⟩ := jw
    rcases guardF_some all j want with ⟨p, d, _, _, key⟩ | ⟨n, key⟩
    · rcases gtest_cases want ((ea d).get e) with ⟨_, hq⟩ | ⟨b, _, ⟨_, hq⟩ | ⟨_, hq⟩⟩ | ⟨n, hq⟩
      · exact .inr fun x y => by rw [key, hq]
      · exact .inl fun x y => by rw [key, hq]
      · exact .inr fun x y => by rw [key, hq]
      · rw [key, hq] at hr; cases hr
    · rw [key] at hr; cases hr
theorem guard_agr {all : List Oper} {g : Option (Nat × Bool)} {e e' : E} (ha : Agr e e' (guardTmps all g)) {x y : RE} : guardF all g e x y = guardF all g e' x y := by
  cases g with
  | none => rfl
  | some jw =>
    obtain ⟨j, want⟩ := jw
    rcases guardF_some all j want with ⟨p, d, hp, hd, key⟩ | ⟨n, key⟩
    · rw [key, key, ha d (by simp [guardTmps, hp, hd])]
    · rw [key, key]
theorem want_not_skip {g : E → RE → RE → RE} {e : E} (h1 : Want g e) (h2 : Skip g e) : False := by
  have := h1 (.bad 0) (.bad 1)
  rw [h2] at this
  cases this
/-- the guard's answer is the model's -/
theorem guard_ok {ops : Array Oper} {o : Oper} (hf : Fr s σ nt e a) :
    (Want (guardF ops.toList o.guard) e → Region.wanted o (yielded ops a.tmps) = true) ∧ (Skip (guardF ops.toList o.guard) e → Region.wanted o (yielded ops a.tmps) = false) := by
  unfold Region.wanted
  cases hg : o.guard with
  | none => exact ⟨fun _ => rfl, fun h => (by have := h (.bad 0) (.bad 1); cases this)⟩
  | some jw =>
    obtain ⟨j, want⟩ := jw
    dsimp only
    rcases guardF_some ops.toList j want with ⟨p, d, hp, hd, key⟩ | ⟨n, key⟩
    · have hy : yielded ops a.tmps j = (match a.tmps[d]? with
          | some (.bool b) => some b
          | _ => none) := by
        unfold yielded
        have : ops[j]? = some p := by simpa using hp
        rw [this]
        simp only [Option.bind_some, hd]
        generalize a.tmps[d]? = q
        cases q with
        | none => rfl
        | some x => cases x <;> rfl
      have hget := hf.get d
      rcases gtest_cases want ((ea d).get e) with ⟨hv, hq⟩ | ⟨b, hv, hq⟩ | ⟨n, hq⟩
      · obtain ⟨x, h1, h2⟩ := hget (by rw [hv]; intro h; cases h)
        rw [hv] at h2
        cases (show x = undef from h2)
        refine ⟨fun h => (want_not_skip h (fun x y => by rw [key, hq])).elim, fun _ => ?_⟩
        rw [hy, h1]
        simp [undef]
      · obtain ⟨x, h1, h2⟩ := hget (by rw [hv]; intro h; cases h)
        rw [hv] at h2
        cases (show x = .bool b from h2)
        rw [hy, h1]
        rcases hq with ⟨hb, hq⟩ | ⟨hb, hq⟩
        · exact ⟨fun _ => by simpa using hb, fun h => (want_not_skip (fun x y => by rw [key, hq]) h).elim⟩
        · exact ⟨fun h => (want_not_skip h (fun x y => by rw [key, hq])).elim, fun _ => by simpa using hb⟩
      · obtain ⟨h1, h2⟩ := bad_guard (g := guardF ops.toList (some (j, want))) (e := e) (n := n) (fun x y => by rw [key, hq])
        exact ⟨fun h => (h1 h).elim, fun h => (h2 h).elim⟩
    · obtain ⟨h1, h2⟩ := bad_guard (g := guardF ops.toList (some (j, want))) (e := e) (n := n) (fun x y => key e x y)
      exact ⟨fun h => (h1 h).elim, fun h => (h2 h).elim⟩
end
end Go.Proofs.Ytopganainjgmmaa.Ev
