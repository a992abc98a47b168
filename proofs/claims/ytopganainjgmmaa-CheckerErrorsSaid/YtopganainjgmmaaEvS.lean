/- A function's call; the evaluator's run. -/
import Derived.Test.YtopganainjgmmaaEvR
namespace Go.Proofs.Ytopganainjgmmaa.Ev
open Go Go.RowKit
set_option linter.unusedVariables false
set_option linter.unusedSimpArgs false

section
variable {P : Program} {s : Nat → Int} {σ : Sg} {nt : Nat} {e : E} {h : H} {w0 : World} {a : Act} {w : World} {run : Run}
/-! ### what comes in -/
theorem Fr.note (hf : Fr s σ nt e a) {d : Nat} {v : V} {x : Value} (hx : a.tmps[d]? = some x) (hv : Rv s σ v x) : Fr s σ nt ((ea d).set v e) a := by
  refine ⟨hf.defers, hf.size, fun t ht => ?_⟩
  by_cases hb : d < 256
  · rw [ea_get_set t d v e hb] at ht ⊢
    by_cases htd : t = d
    · subst htd
      exact ⟨x, hx, by rw [if_pos rfl]; exact hv⟩
    · rw [if_neg htd] at ht ⊢
      exact hf.get t ht
  · rw [ea_setBig d hb] at ht ⊢
    exact hf.get t ht
theorem enterE_ok : ∀ {vs : List V} {xs : List Value} {i : Nat} {e : E}, RVs s σ vs xs → (∀ j x, xs[j]? = some x → a.tmps[i + j]? = some x) → Fr s σ nt e a → Fr s σ nt (enterE vs i e) a
  | [], xs, i, e, _, _, hf => hf
  | v :: vs, [], i, e, h, _, _ => h.elim
  | v :: vs, x :: xs, i, e, h, hx, hf => by
    show Fr s σ nt (enterE vs (Nat.succ i) ((ea i).set v e)) a
    refine enterE_ok (xs := xs) h.2 (fun j y hj => ?_) (hf.note (hx 0 x rfl) h.1)
    have := hx (j + 1) y (by simpa using hj)
    rw [show Nat.succ i + j = i + (j + 1) by omega]
    exact this
/-! ### what is handed back -/
theorem loadVar_ok (hf : Fr s σ nt e a) (hm : Mem s σ w0 h w) {t : TypeId} {p : Tmp} {v : V} {h' : H} (hr : (oLoad P t (gt (.tmp p))).f e h = .ok v h') :
    ∃ x ad, a.eval (.tmp p) = .pointer (some ad) ∧ (loadVar t ad).run P w = .ok x w ∧ Rv s σ v x := by
  unfold oLoad at hr
  split at hr
  · next i hi =>
    have ht := ti_ok P hi
    obtain ⟨f, hf1, hf2, _⟩ := ht.info
    split at hr
    · next hag =>
      obtain ⟨cc, hc, hr⟩ := oneK_ok hr
      obtain ⟨b, o, rfl, hr⟩ := ptrK_ok hr
      obtain ⟨l, hl, hr⟩ := blkK_ok hr
      obtain ⟨c, m, hcm, hr⟩ := hdK_ok hr
      cases hr
      obtain ⟨y, hy, hx⟩ := gt_one hf hc
      obtain ⟨u, hu, hru⟩ := hm.cell hl hy hcm
      refine ⟨u, _, hx, ?_, hru⟩
      have hagg := isAgg_run (P := P) ht w
      rw [hag] at hagg
      simp [loadVar, hagg, hu]
    · next hag =>
      obtain ⟨cc, hc, hr⟩ := oneK_ok hr
      obtain ⟨b, o, rfl, hr⟩ := ptrK_ok hr
      obtain ⟨l, hl, hr⟩ := blkK_ok hr
      obtain ⟨hk, hr⟩ := takeK_ok _ hr
      cases hr
      obtain ⟨y, hy, hx⟩ := gt_one hf hc
      obtain ⟨vs, h1, h2, h3⟩ := hm.row hl hy hk
      refine ⟨.agg vs.toArray, _, hx, ?_, ⟨_, rfl, by simpa using h2⟩⟩
      have := run_loadAt_mid (P := P) w y.1 o t vs i.desc h1 ht.und (by rw [← ht.agg]; exact hag) (by rw [hf1, h3, ← hf2]; rfl)
      simpa [Instr.loadAt, Instr.sureAddr] using this
  · cases hr
def okV : V → Bool
  | .one _ => true
  | .agg _ => true
  | .tup _ => true
  | _ => false
theorem res_ok (hf : Fr s σ nt e a) (hm : Mem s σ w0 h w) {v : V} {h' : H} :
    ∀ {l : List ResultVar} {K : List V → RV}, resOf P e h l K = .ok v h' → ∃ vs xs, RVs s σ vs xs ∧ K vs = .ok v h' ∧ ∀ f : ResultVar → Sem Value, (∀ u, f (.tmp u) = pure (a.tmps.getD u undef)) → (∀ p t, f (.cell p t) = (do loadVar t (← asAddr (a.tmps.getD p undef)))) → (l.mapM f).run P w = .ok xs w
  | [], K, hr => ⟨[], [], trivial, hr, fun f _ _ => by simp⟩
  | .tmp t :: l, K, hr => by
    have hr2 : V.rec (motive := fun _ => RV) (.bad 314) (.bad 314) (fun c => resOf P e h l fun r => K (.one c :: r)) (fun c => resOf P e h l fun r => K (.agg c :: r)) (fun c => resOf P e h l fun r => K (.tup c :: r)) ((ea t).get e) = .ok v h' := hr
    have hx := gt_ok hf (.tmp t)
    have hx2 : (ea t).get e ≠ .no → Rv s σ ((ea t).get e) (a.tmps.getD t undef) := hx
    clear hx
    generalize (ea t).get e = q at hr2 hx2
    have fin : ∀ vs xs, RVs s σ vs xs → (∀ f : ResultVar → Sem Value, (∀ u, f (.tmp u) = pure (a.tmps.getD u undef)) → (∀ p t, f (.cell p t) = (do loadVar t (← asAddr (a.tmps.getD p undef)))) → (l.mapM f).run P w = .ok xs w) → ∀ f : ResultVar → Sem Value, (∀ u, f (.tmp u) = pure (a.tmps.getD u undef)) → (∀ p t, f (.cell p t) = (do loadVar t (← asAddr (a.tmps.getD p undef)))) → ((.tmp t :: l : List ResultVar).mapM f).run P w = .ok (a.tmps.getD t undef :: xs) w := fun vs xs _ h f hft hfc => by
      simp [List.mapM_cons, hft, h f hft hfc]
    cases q with
    | no => cases hr2
    | undef => cases hr2
    | one c =>
      obtain ⟨vs, xs, h1, h2, h3⟩ := res_ok hf hm hr2
      exact ⟨.one c :: vs, _ :: xs, ⟨hx2 (by intro h; cases h), h1⟩, h2, fin vs xs h1 h3⟩
    | agg c =>
      obtain ⟨vs, xs, h1, h2, h3⟩ := res_ok hf hm hr2
      exact ⟨.agg c :: vs, _ :: xs, ⟨hx2 (by intro h; cases h), h1⟩, h2, fin vs xs h1 h3⟩
    | tup c =>
      obtain ⟨vs, xs, h1, h2, h3⟩ := res_ok hf hm hr2
      exact ⟨.tup c :: vs, _ :: xs, ⟨hx2 (by intro h; cases h), h1⟩, h2, fin vs xs h1 h3⟩
  | .cell p t :: l, K, hr => by
    have hr2 : RV.rec (motive := fun _ => RV) (fun u _ => resOf P e h l fun r => K (u :: r)) (fun n => .bad n) ((oLoad P t (gt (.tmp p))).f e h) = .ok v h' := hr
    cases hq : (oLoad P t (gt (.tmp p))).f e h with
    | bad n => rw [hq] at hr2; cases hr2
    | ok u h1 =>
      rw [hq] at hr2
      obtain ⟨x, ad, hx, hl, hv⟩ := loadVar_ok hf hm hq
      obtain ⟨vs, xs, h1, h2, h3⟩ := res_ok hf hm hr2
      refine ⟨u :: vs, x :: xs, ⟨hv, h1⟩, h2, fun f hft hfc => ?_⟩
      have hx2 : a.tmps.getD p undef = .pointer (some ad) := hx
      rw [List.mapM_cons, hfc, hx2]
      simp [asAddr, hl, h3 f hft hfc]
theorem tupOf_ok {v : V} {h' : H} : ∀ {vs : List V} {xs : List Value} {K : List (Bool × List Cell) → RV}, RVs s σ vs xs → tupOf vs K = .ok v h' → ∃ r, RT s σ r xs ∧ K r = .ok v h'
  | [], [], K, _, h => ⟨[], trivial, h⟩
  | [], _ :: _, K, h, _ => h.elim
  | _ :: _, [], K, h, _ => h.elim
  | u :: vs, x :: xs, K, h, hr => by
    cases u with
    | one c =>
      obtain ⟨r, h1, h2⟩ := tupOf_ok (vs := vs) (K := fun r => K ((false, [c]) :: r)) h.2 hr
      exact ⟨(false, [c]) :: r, ⟨h.1, h1⟩, h2⟩
    | agg cs =>
      obtain ⟨r, h1, h2⟩ := tupOf_ok (vs := vs) (K := fun r => K ((true, cs) :: r)) h.2 hr
      exact ⟨(true, cs) :: r, ⟨h.1, h1⟩, h2⟩
    | _ => cases hr
theorem end_ok {vs : List V} {xs : List Value} (hv : RVs s σ vs xs) {v : V} {h' : H} (hr : resEnd h vs = .ok v h') : h' = h ∧ Rv s σ v (if hs : xs.toArray.size = 1 then xs.toArray[0] else .tuple xs.toArray) := by
  have many : ∀ (vs : List V) (xs : List Value), RVs s σ vs xs → xs.length ≠ 1 → tupOf vs (fun r => .ok (.tup r) h) = .ok v h' → h' = h ∧ Rv s σ v (if hs : xs.toArray.size = 1 then xs.toArray[0] else .tuple xs.toArray) := fun vs xs hv hn hr => by
    obtain ⟨r, h1, h2⟩ := tupOf_ok hv hr
    injection h2 with e1 e2
    subst e1
    refine ⟨e2.symm, ?_⟩
    rw [dif_neg (by simpa using hn)]
    exact ⟨_, rfl, by simpa using h1⟩
  match vs, xs, hv, hr with
  | [u], [x], hv, hr =>
    have hr2 : RV.ok u h = .ok v h' := hr
    injection hr2 with e1 e2
    subst e1
    exact ⟨e2.symm, by simpa using hv.1⟩
  | [], [], hv, hr => exact many _ _ hv (by simp) hr
  | u :: u2 :: vs, x :: x2 :: xs, hv, hr => exact many _ _ hv (by simp) hr
  | [_], [], hv, _ => exact hv.elim
  | [_], _ :: _ :: _, hv, _ => exact hv.2.elim
  | [], _ :: _, hv, _ => exact hv.elim
  | _ :: _ :: _, [], hv, _ => exact hv.elim
  | _ :: _ :: _, [_], hv, _ => exact hv.2.elim

theorem fn_ok (hmix : P.follows .mixedOrders = true) (hng : ∀ (f : Nat) (fn : Func), P.funcs[f]? = some fn → (fn.name == "runtime.NumGoroutine") = false) (hR : RunS P s run) (hQt : Quiet P run) {f : Nat} {vs : List V} {v : V} {h' : H} (hr : (fn1 P f).f run vs h = .ok v h')
    {args : Array Value} (hv : RVs s σ vs args.toList) (hm : Mem s σ w0 h w) : CallS P s σ w0 f args w v h' := by
  unfold fn1 at hr
  split at hr
  · next fn hfn =>
    have hfn2 : P.funcs[f]? = some fn := by simpa using hfn
    split at hr
    · next c hb =>
      refine ⟨enters_of hfn2 (hng f fn hfn2) hb, ?_⟩
      refine calls_of_wp hfn2 hb ?_
      have hfr : Fr s σ fn.ntmps (enterE vs 0 e0) { tmps := args ++ Array.replicate (fn.ntmps - args.size) undef, defers := [] } := by
        refine enterE_ok (xs := args.toList) hv (fun j x hj => ?_) ⟨rfl, by simp; omega, fun t ht => absurd (ea_e0 t) ht⟩
        have hj2 : args[j]? = some x := by simpa using hj
        have hlt := (Array.getElem?_eq_some_iff.mp hj2).1
        rw [Nat.zero_add]
        show (args ++ Array.replicate (fn.ntmps - args.size) undef)[j]? = some x
        rw [Array.getElem?_append_left hlt]
        exact hj2
      have fin : ∀ (e1 : E) (h1 : H) (σ' : Sg) (a' : Act) (w' : World), resOf P e1 h1 fn.results.toList (resEnd h1) = .ok v h' → Ext σ σ' → Fr s σ' fn.ntmps e1 a' → Mem s σ' w0 h1 w' →
          a'.defers = [] ∧ ∃ x, (results fn a'.tmps).run P w' = .ok x w' ∧ (∃ x', (Ending.returned x) = .returned x' ∧ ∃ σ2, Ext σ σ2 ∧ Rv s σ2 v x' ∧ Mem s σ2 w0 h' w') := by
        intro e1 h1 σ' a' w' hr1 he1 hf1 hm1
        obtain ⟨us, xs, h2, h3, h4⟩ := res_ok hf1 hm1 hr1
        obtain ⟨rfl, h6⟩ := end_ok h2 h3
        refine ⟨hf1.defers, _, ?_, _, rfl, σ', he1, h6, hm1⟩
        unfold results
        have : fn.results = fn.results.toList.toArray := by simp
        rw [this, List.mapM_toArray]
        simp only [Sem.run_bind, Sem.run_map]
        rw [h4]
        · rfl
        · intro u; rfl
        · intro p t; rfl
      refine code_ok hmix hR hQt c (enterE vs 0 e0) h σ _ w _ hfr hm ?_
      dsimp only at hr
      generalize code1 P fn.ntmps run c (enterE vs 0 e0) h = r at hr
      cases r with
      | bad n => cases hr
      | exit id e1 h1 => cases hr
      | normal e1 h1 => exact fun σ' a' w' he1 hf1 hm1 => fin e1 h1 σ' a' w' hr he1 hf1 hm1
      | ret e1 h1 => exact fun σ' a' w' he1 hf1 hm1 => fin e1 h1 σ' a' w' hr he1 hf1 hm1
    · cases hr
  · cases hr

/-! ### functions that leave the memory -/
def keepsH (h : H) : RS → Prop
  | .normal _ h' => h' = h
  | .exit _ _ h' => h' = h
  | .ret _ h' => h' = h
  | .bad _ => True
theorem argsK_any {n : Nat} {v : V} {h' : H} : ∀ {l : List Operand} {K : List V → RV}, argsK e (.bad n) (l.map gt) K = .ok v h' → ∃ vs, K vs = .ok v h'
  | [], K, hr => ⟨[], hr⟩
  | x :: l, K, hr => by
    have hr2 : V.rec (motive := fun _ => RV) (.bad n) (.bad n) (fun c => argsK e (.bad n) (l.map gt) fun r => K (.one c :: r)) (fun c => argsK e (.bad n) (l.map gt) fun r => K (.agg c :: r)) (fun c => argsK e (.bad n) (l.map gt) fun r => K (.tup c :: r)) ((gt x).f e) = .ok v h' := hr
    generalize (gt x).f e = q at hr2
    cases q with
    | no => cases hr2
    | undef => cases hr2
    | one c => obtain ⟨vs, h2⟩ := argsK_any (l := l) hr2; exact ⟨_, h2⟩
    | agg c => obtain ⟨vs, h2⟩ := argsK_any (l := l) hr2; exact ⟨_, h2⟩
    | tup c => obtain ⟨vs, h2⟩ := argsK_any (l := l) hr2; exact ⟨_, h2⟩
def QuietR (P : Program) (run : Run) : Prop := ∀ f, quietF P f = true → ∀ vs h v h', run f vs h = .ok v h' → h' = h
theorem opI_plain {o : Op} (hq : quietO P o = true) (e : E) (h : H) : opI P o run e h = (op1 P o).f e h := by
  cases o with
  | call c =>
    unfold opI
    dsimp only
    cases hc : c.callee with
    | value y =>
      have : (match c.callee with
        | .builtin .len => true
        | _ => false) = true := hq
      rw [hc] at this
      cases this
    | _ => rfl
  | _ => rfl
theorem quiet_of (hq : QuietR P run) : Quiet P run := by
  intro o hk e h v h' hr
  by_cases hqo : quietO P o = true
  · rw [opI_plain hqo] at hr
    exact quiet_same hqo hr
  · unfold kindO at hk
    cases hp : pureO P o with
    | true =>
      exfalso
      apply hqo
      cases o <;> first | exact hp | rfl
    | false =>
      rw [hp] at hk
      dsimp only at hk
      cases o with
      | load _ _ => exact absurd rfl hqo
      | lookup _ _ _ _ => exact absurd rfl hqo
      | call c =>
        dsimp only at hk
        unfold opI at hr
        dsimp only at hr
        cases hc : c.callee with
        | value y =>
          rw [hc] at hk hr
          cases y with
          | func f =>
            dsimp only at hk hr
            cases hqf : quietF P f with
            | true =>
              obtain ⟨vs, h2⟩ := argsK_any (l := c.args.toList) hr
              exact hq f hqf vs h v h' h2
            | false => rw [hqf] at hk; exact absurd rfl hk
          | _ => exact absurd rfl hk
        | _ => rw [hc] at hk; exact absurd rfl hk
      | _ => exact absurd rfl hk
theorem regRun_keeps {ops : Array Oper} {draw : Bool} (hq : ops.toList.all (fun o => quietO P o.op) = true) {e' : E} {h' : H} (hr : regRun run (regOf P nt ops draw) e h = .ok e' h') : h' = h := by
  have key : ∀ {hs : List H} {K : E → H → List H → RE}, opsH run (ops.toList.map (insOf P ops.toList)) e h hs K = .ok e' h' → (∀ e1 h1 l, K e1 h1 l = .ok e' h' → h' = h1) → h' = h := fun {hs K} hr hK => by
    obtain ⟨Ev, Hv, vl, ht, hk⟩ := trace hr
    rw [hK _ _ _ hk]
    have : ∀ i, i ≤ ops.toList.length → Hv i = h := by
      intro i
      induction i with
      | zero => intro _; exact ht.h0
      | succ i ih =>
        intro hi
        have ho : ops.toList[i]? = some ops.toList[i] := by simp
        obtain ⟨_, hact⟩ := ht.next i _ ho
        rw [← ih (by omega)]
        rcases hact with ⟨_, hr⟩ | ⟨_, _, hh⟩
        · have hqo := List.all_eq_true.mp hq _ (List.mem_of_getElem? ho)
          rw [opI_plain hqo] at hr
          exact quiet_same hqo hr
        · exact hh
    exact this _ (Nat.le_refl _)
  unfold regOf at hr
  split at hr
  · cases draw with
    | false =>
      have hr2 : ops1 run (ops.toList.map (insOf P ops.toList)) e h = .ok e' h' := hr
      rw [ops1_opsH _ _ _ []] at hr2
      exact key hr2 fun e1 h1 l he => by injection he with _ h2; exact h2.symm
    | true =>
      dsimp only at hr
      split at hr
      · have hr2 : ops1 run (ops.toList.map (insOf P ops.toList)) e h = .ok e' h' := hr
        rw [ops1_opsH _ _ _ []] at hr2
        exact key hr2 fun e1 h1 l he => by injection he with _ h2; exact h2.symm
      · next c l hdr =>
        have hr2 : opsH run (ops.toList.map (insOf P ops.toList)) e h [] (fun e h hs => chks run e hs (.ok e h) (c :: l)) = .ok e' h' := hr
        obtain ⟨hS, hck⟩ := drawOf_St hdr
        refine key hr2 fun e1 h1 l he => ?_
        have := (chks_ok (cksOf_form hck) he).1
        injection this with _ h2
        exact h2.symm
      · cases hr
  · cases hr
theorem code_keeps (c : Code) : quietC P c = true → ∀ (e : E) (h : H), keepsH h (code1 P nt run c e h) := by
  induction c with
  | skip => exact fun _ e h => rfl
  | region id ops draw =>
    intro hq e h
    show keepsH h (RE.rec (motive := fun _ => RS) (fun e h => .normal e h) (fun n => .bad n) (regRun run (regOf P nt ops draw) e h))
    cases hr : regRun run (regOf P nt ops draw) e h with
    | bad n => trivial
    | ok e' h' => exact regRun_keeps hq hr
  | seq x y ihx ihy =>
    intro hq e h
    have hq2 : quietC P x = true ∧ quietC P y = true := by simpa [quietC] using hq
    show keepsH h (thenS (code1 P nt run y) (code1 P nt run x e h))
    have hx := ihx hq2.1 e h
    cases hr : code1 P nt run x e h with
    | bad n => trivial
    | normal e1 h1 =>
      rw [hr] at hx
      have : h1 = h := hx
      subst this
      exact ihy hq2.2 e1 h1
    | exit id e1 h1 => rw [hr] at hx; exact hx
    | ret e1 h1 => rw [hr] at hx; exact hx
  | cond c x y ihx ihy =>
    intro hq e h
    have hq2 : quietC P x = true ∧ quietC P y = true := by simpa [quietC] using hq
    show keepsH h (oneK (.bad 307) (boolK (.bad 308) fun q => ite' q (code1 P nt run x e h) (code1 P nt run y e h)) ((gt c).f e))
    cases (gt c).f e with
    | one cc =>
      cases cc with
      | bool q =>
        cases q with
        | true => exact ihx hq2.1 e h
        | false => exact ihy hq2.2 e h
      | _ => trivial
    | _ => trivial
  | block id x ih =>
    intro hq e h
    show keepsH h (blockS id (code1 P nt run x e h))
    have hx := ih hq e h
    cases hr : code1 P nt run x e h with
    | bad n => trivial
    | normal e1 h1 => rw [hr] at hx; exact hx
    | exit j e1 h1 =>
      rw [hr] at hx
      show keepsH h (ite' (Nat.beq j id) (.normal e1 h1) (.exit j e1 h1))
      cases Nat.beq j id <;> exact hx
    | ret e1 h1 => rw [hr] at hx; exact hx
  | loop x ih =>
    intro hq e h
    have key : ∀ (n : Nat) (e : E) (h : H), keepsH h (loop1 (code1 P nt run x) n e h) := by
      intro n
      induction n with
      | zero => exact fun _ _ => trivial
      | succ n ihn =>
        intro e h
        show keepsH h (thenS (loop1 (code1 P nt run x) n) (code1 P nt run x e h))
        have hx := ih hq e h
        cases hr : code1 P nt run x e h with
        | bad n => trivial
        | normal e1 h1 =>
          rw [hr] at hx
          have : h1 = h := hx
          subst this
          exact ihn e1 h1
        | exit id e1 h1 => rw [hr] at hx; exact hx
        | ret e1 h1 => rw [hr] at hx; exact hx
    exact key 1000000 e h
  | exit id => exact fun _ e h => rfl
  | ret => exact fun _ e h => rfl
  | _ => exact fun hq => by cases hq
theorem resOf_keeps {v : V} {h' : H} : ∀ {l : List ResultVar} {K : List V → RV}, (∀ vs, K vs = .ok v h' → h' = h) → resOf P e h l K = .ok v h' → h' = h
  | [], K, hK, hr => hK _ hr
  | .tmp t :: l, K, hK, hr => by
    have hr2 : V.rec (motive := fun _ => RV) (.bad 314) (.bad 314) (fun c => resOf P e h l fun r => K (.one c :: r)) (fun c => resOf P e h l fun r => K (.agg c :: r)) (fun c => resOf P e h l fun r => K (.tup c :: r)) ((ea t).get e) = .ok v h' := hr
    generalize (ea t).get e = q at hr2
    cases q with
    | no => cases hr2
    | undef => cases hr2
    | one c => exact resOf_keeps (fun vs => hK _) hr2
    | agg c => exact resOf_keeps (fun vs => hK _) hr2
    | tup c => exact resOf_keeps (fun vs => hK _) hr2
  | .cell p t :: l, K, hK, hr => by
    have hr2 : RV.rec (motive := fun _ => RV) (fun u _ => resOf P e h l fun r => K (u :: r)) (fun n => .bad n) ((oLoad P t (gt (.tmp p))).f e h) = .ok v h' := hr
    cases hq : (oLoad P t (gt (.tmp p))).f e h with
    | bad n => rw [hq] at hr2; cases hr2
    | ok u h1 => rw [hq] at hr2; exact resOf_keeps (fun vs => hK _) hr2
theorem tupOf_keeps {v : V} {h' : H} : ∀ {vs : List V} {K : List (Bool × List Cell) → RV}, (∀ r, K r = .ok v h' → h' = h) → tupOf vs K = .ok v h' → h' = h
  | [], K, hK, hr => hK _ hr
  | u :: vs, K, hK, hr => by
    cases u with
    | one c => exact tupOf_keeps (vs := vs) (K := fun r => K ((false, [c]) :: r)) (fun r => hK _) hr
    | agg cs => exact tupOf_keeps (vs := vs) (K := fun r => K ((true, cs) :: r)) (fun r => hK _) hr
    | _ => cases hr
theorem end_keeps {vs : List V} {v : V} {h' : H} (hr : resEnd h vs = .ok v h') : h' = h := by
  unfold resEnd at hr
  split at hr
  · injection hr with _ h2; exact h2.symm
  · exact tupOf_keeps (fun r hr => by injection hr with _ h2; exact h2.symm) hr
theorem fn_keeps {f : Nat} (hq : quietF P f = true) {vs : List V} {v : V} {h' : H} (hr : (fn1 P f).f run vs h = .ok v h') : h' = h := by
  unfold quietF at hq
  unfold fn1 at hr
  split at hr
  · next fn hfn =>
    rw [hfn] at hq
    dsimp only at hq
    split at hr
    · next c hb =>
      rw [hb] at hq
      have hk := code_keeps (nt := fn.ntmps) (run := run) c hq (enterE vs 0 e0) h
      dsimp only at hr
      generalize code1 P fn.ntmps run c (enterE vs 0 e0) h = r at hr hk
      cases r with
      | bad n => cases hr
      | exit id e1 h1 => cases hr
      | normal e1 h1 => rw [← (show h1 = h from hk)]; exact resOf_keeps (fun vs hr => end_keeps hr) hr
      | ret e1 h1 => rw [← (show h1 = h from hk)]; exact resOf_keeps (fun vs hr => end_keeps hr) hr
    · cases hr
  · cases hr

/-! ### the run -/
def OrcS (P : Program) (s : Nat → Int) (orc : Nat → List V → Option V) : Prop := ∀ f vs v, orc f vs = some v → ∀ σ w0 w h (args : Array Value), RVs s σ vs args.toList → Mem s σ w0 h w → CallS P s σ w0 f args w v h
theorem run_keeps (orc : Nat → List V → Option V) : ∀ n, QuietR P (Ev.run P orc n)
  | 0, f, hq, vs, h, v, h', hr => by cases hr
  | n + 1, f, hq, vs, h, v, h', hr => by
    have hr2 : someK ((fn1 P f).f (Ev.run P orc n) vs h) (fun v => .ok v h) (orc f vs) = .ok v h' := hr
    cases ho : orc f vs with
    | some u => rw [ho] at hr2; injection hr2 with _ h2; exact h2.symm
    | none => rw [ho] at hr2; exact fn_keeps hq hr2
theorem run_ok (hmix : P.follows .mixedOrders = true) (hng : ∀ (f : Nat) (fn : Func), P.funcs[f]? = some fn → (fn.name == "runtime.NumGoroutine") = false) {orc : Nat → List V → Option V} (hO : OrcS P s orc) : ∀ n, RunS P s (Ev.run P orc n)
  | 0, f, vs, h, v, h', hr, σ, w0, w, args, hv, hm => by cases hr
  | n + 1, f, vs, h, v, h', hr, σ, w0, w, args, hv, hm => by
    have hr2 : someK ((fn1 P f).f (Ev.run P orc n) vs h) (fun v => .ok v h) (orc f vs) = .ok v h' := hr
    cases ho : orc f vs with
    | some u =>
      rw [ho] at hr2
      injection hr2 with h1 h2
      subst h1 h2
      exact hO f vs u ho σ w0 w h args hv hm
    | none =>
      rw [ho] at hr2
      exact fn_ok hmix hng (run_ok hmix hng hO n) (quiet_of (run_keeps orc n)) hr2 hv hm
end
end Go.Proofs.Ytopganainjgmmaa.Ev
