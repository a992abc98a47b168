/- Each operation of the evaluator's is the model's: places, indexes, slices, conversions, lengths. -/
import Derived.Test.YtopganainjgmmaaEvE
namespace Go.Proofs.Ytopganainjgmmaa.Ev
open Go Go.RowKit
set_option linter.unusedVariables false
set_option linter.unusedSimpArgs false

theorem RP.takeN {s : Nat → Int} {σ : Sg} : ∀ {l : List Cell} {m : List Value} (n : Nat), RP s σ l m → n ≤ l.length → RL s σ (l.take n) (m.take n) ∧ (m.take n).length = n
  | l, m, 0, _, _ => by simp [RL]
  | c :: l, v :: m, n + 1, hr, hn => by
    have := RP.takeN (l := l) (m := m) n hr.2 (by simpa using hn)
    exact ⟨⟨hr.1, this.1⟩, by simpa using this.2⟩
  | [], _, n + 1, _, hn => by simp at hn
section
variable {P : Program}
theorem fieldAt_ok {fs : List Field} {i off sz : Nat} (h : fieldAt P fs i = some (off, sz)) : ∃ f, fs[i]? = some f ∧ f.offset = off ∧ ∃ info, P.info? f.type = some info ∧ info.size = sz := by
  unfold fieldAt at h
  split at h
  · next f hf =>
    split at h
    · next t ht =>
      injection h with h
      injection h with h1 h2
      obtain ⟨info, h3, h4, _⟩ := (ti_ok P ht).info
      exact ⟨f, hf, h1, info, h3, h4.trans h2⟩
    · cases h
  · cases h
theorem field_S (t : TypeId) (x : Operand) (f : Nat) : OpS P (.fieldAddr t x f) (oField P t (gt x) f) := by
  intro s σ nt e a w0 w h v h' oo ho hf hm hr
  unfold oField at hr
  split at hr
  · next i hi =>
    split at hr
    · next fields hd =>
      split at hr
      · next off k hfa =>
        obtain ⟨c, hc, hr⟩ := oneK_ok hr
        have hr_ := ptrK_ok hr; clear hr; obtain ⟨b, o, rfl, hr⟩ := hr_
        rw [fN_eq] at hr
        cases hr
        obtain ⟨y, hy, hx⟩ := gt_one hf hc
        obtain ⟨fl, h1, h2, info, h3, h4⟩ := fieldAt_ok hfa
        refine Done.quiet hm rfl (x := .pointer (some ⟨y.1, o + off, none⟩)) ⟨y, hy, rfl⟩ ?_
        have hu := (ti_ok P hi).und
        rw [hd] at hu
        have h1' : fields[f]? = some fl := by rw [← h1]; simp
        unfold execOp
        rw [ho]
        have hne : ¬ (info.size = 0) := by omega
        simp [Instr.fieldAt, run_underlying hu, h1', hx, Instr.sureAddr, fieldPlace, sizeOf, typeInfo, h3, hne, Addr.add_mid, h2]
      · cases hr
    · cases hr
  · cases hr
theorem isAgg_run {t : TypeId} {i : TI} (ht : TiOk P t i) (w : World) : (isAgg t).run P w = .ok i.agg w := by
  unfold isAgg
  rw [Sem.run_bind, run_underlying ht.und w, ht.agg]
  generalize i.desc = d
  cases d <;> rfl
theorem fld_S (t : TypeId) (x : Operand) (f : Nat) : OpS P (.field t x f) (oFld P t (gt x) f) := by
  intro s σ nt e a w0 w h v h' oo ho hf hm hr
  unfold oFld at hr
  split at hr
  · next i hi =>
    split at hr
    · next fields hd =>
      split at hr
      · next fl hfl =>
        split at hr
        · next j hj =>
          have hu := (ti_ok P hi).und
          rw [hd] at hu
          have h1' : fields[f]? = some fl := by rw [← hfl]; simp
          have hj' := ti_ok P hj
          obtain ⟨info, hi1, hi2, _⟩ := hj'.info
          split at hr
          · next hag =>
            obtain ⟨l, hl, hr⟩ := aggK_ok hr
            obtain ⟨c, m, hcm, hr⟩ := hdK_ok hr
            cases hr
            have hv := gt_ok hf x (by rw [hl]; intro h; cases h)
            rw [hl] at hv
            obtain ⟨vs, hx, hrl⟩ := hv
            have hp : RP s σ l vs.toList := by have := hrl.prefix []; simpa using this
            have h3 := hp.drop fl.offset
            rw [hcm] at h3
            generalize hd : vs.toList.drop fl.offset = d at h3
            cases d with
            | nil => cases h3
            | cons u d =>
              refine Done.quiet hm rfl (x := u) h3.1 ?_
              have hu2 : vs[fl.offset]? = some u := by
                have := congrArg (fun l => l[0]?) hd
                simpa using this
              unfold execOp
              rw [ho]
              have := isAgg_run hj' w
              rw [hag] at this
              simp [Instr.field, run_underlying hu, h1', hx, asAgg, part, this, hu2]
          · next hag =>
            obtain ⟨l, hl, hr⟩ := aggK_ok hr
            obtain ⟨hk, hr⟩ := takeK_ok _ hr
            cases hr
            have hv := gt_ok hf x (by rw [hl]; intro h; cases h)
            rw [hl] at hv
            obtain ⟨vs, hx, hrl⟩ := hv
            have hp : RP s σ l vs.toList := by have := hrl.prefix []; simpa using this
            have h3 := hp.drop fl.offset
            have h4 := h3.full
            have h5 : RL s σ ((skip fl.offset l).take j.size) ((vs.toList.drop fl.offset).take j.size) := by
              exact (h3.takeN j.size hk).1
            refine Done.quiet hm rfl (x := .agg (vs.extract fl.offset (fl.offset + j.size))) ⟨_, rfl, ?_⟩ ?_
            · rw [Array.toList_extract]
              simpa [List.extract] using h5
            · unfold execOp
              rw [ho]
              have := isAgg_run hj' w
              rw [hag] at this
              simp [Instr.field, run_underlying hu, h1', hx, asAgg, part, this, sizeOf, typeInfo, hi1, hi2]
        · cases hr
      · cases hr
    · cases hr
  · cases hr
theorem index_S (t : TypeId) (x i : Operand) : OpS P (.indexAddr t x i) (oIndex P t (gt x) (gt i)) := by
  intro s σ nt e a w0 w h v h' oo ho hf hm hr
  unfold oIndex at hr
  split at hr
  · next ti1 hi =>
    split at hr
    · next el hd =>
      split at hr
      · next j hj =>
        obtain ⟨c, hc, hr⟩ := oneK_ok hr
        have hr_ := sliceK_ok hr; clear hr; obtain ⟨b, o, n, sz, rfl, hr⟩ := hr_
        obtain ⟨hsz, hr⟩ := ite_ok hr
        obtain ⟨c2, hc2, hr⟩ := oneK_ok hr
        have hr_ := intK_ok hr; clear hr; obtain ⟨k, z, rfl, hr⟩ := hr_
        have hr_ := natK_ok hr; clear hr; obtain ⟨q, rfl, hr⟩ := hr_
        obtain ⟨hlt, hr⟩ := ite_ok hr
        rw [fN_eq] at hr
        cases hr
        replace hlt := blt_iff.mp hlt
        replace hsz := Nat.eq_of_beq_eq_true hsz
        obtain ⟨y, cap, hy, hx, _⟩ := gt_one hf hc
        have hix : a.eval i = .int k (Int.ofNat q) := gt_one hf hc2
        have hu := (ti_ok P hi).und
        rw [hd] at hu
        obtain ⟨info, h3, h4, _⟩ := (ti_ok P hj).info
        refine Done.quiet hm rfl (x := .pointer (some ⟨y.1, o + q * sz, none⟩)) ⟨y, hy, rfl⟩ ?_
        unfold execOp
        rw [ho]
        simp [Instr.indexAt, hix, asIntOf, run_underlying hu, hx, hlt, sizeOf, typeInfo, h3, Addr.add_mid, h4, hsz]
      · cases hr
    · cases hr
  · cases hr
theorem skipB_eq (o : Nat) (l : List UInt8) : skipB o l = l.drop o := by
  induction o generalizing l with
  | zero => rfl
  | succ o ih =>
    show skipB o (tlB l) = _
    rw [ih]
    cases l with
    | nil => simp [tlB]
    | cons c l => rfl
theorem idx_S (t : TypeId) (x i : Operand) : OpS P (.index t x i) (oIdx P t (gt x) (gt i)) := by
  intro s σ nt e a w0 w h v h' oo ho hf hm hr
  obtain ⟨d, hd1, hd2, hr⟩ := onD_ok hr
  have hd : d = .string := by cases d <;> first | rfl | cases hd2
  subst hd
  obtain ⟨c, hc, hr⟩ := oneK_ok hr
  have hr_ := strK_ok hr; clear hr; obtain ⟨l, rfl, hr⟩ := hr_
  obtain ⟨c2, hc2, hr⟩ := oneK_ok hr
  have hr_ := intK_ok hr; clear hr; obtain ⟨k, z, rfl, hr⟩ := hr_
  have hr_ := natK_ok hr; clear hr; obtain ⟨q, rfl, hr⟩ := hr_
  have hx : a.eval x = .string ⟨l.toArray⟩ := gt_one hf hc
  have hix : a.eval i = .int k (Int.ofNat q) := gt_one hf hc2
  rw [skipB_eq] at hr
  generalize hq : l.drop q = m at hr
  cases m with
  | nil => cases hr
  | cons u m =>
    unfold byteR at hr
    dsimp only at hr
    rw [fN_eq] at hr
    cases hr
    have hu : l[q]? = some u := by
      have := congrArg (fun l => l[0]?) hq
      simpa using this
    refine Done.quiet hm rfl (x := .int .u8 u.toNat) rfl ?_
    have hb : (⟨l.toArray⟩ : ByteArray)[q]? = some u := by
      obtain ⟨hlt, hget⟩ := List.getElem?_eq_some_iff.mp hu
      rw [getElem?_pos (⟨l.toArray⟩ : ByteArray) q (by simpa [ByteArray.size] using hlt)]
      congr 1
    unfold execOp
    rw [ho]
    simp [Instr.index, hix, asIntOf, run_underlying hd1, hx, hb]
theorem ext_S (x : Operand) (i : Nat) : OpS P (.extract x i) (oExt (gt x) i) := by
  intro s σ nt e a w0 w h v h' oo ho hf hm hr
  obtain ⟨l, hl, hr⟩ := tupK_ok hr
  obtain ⟨p, hp, hr⟩ := someK_ok hr
  have hv := gt_ok hf x (by rw [hl]; intro h; cases h)
  rw [hl] at hv
  obtain ⟨vs, hx, hrt⟩ := hv
  have hget : ∀ {l : List (Bool × List Cell)} {m : List Value} (i : Nat) {p : Bool × List Cell}, RT s σ l m → l[i]? = some p → ∃ u, m[i]? = some u ∧ RT1 s σ p u := by
    intro l m i
    induction i generalizing l m with
    | zero =>
      intro p h1 h2
      match l, m, h1 with
      | q :: l, u :: m, h1 => cases h2; exact ⟨u, rfl, h1.1⟩
      | [], [], _ => cases h2
    | succ i ih =>
      intro p h1 h2
      match l, m, h1 with
      | q :: l, u :: m, h1 => exact ih h1.2 h2
      | [], [], _ => cases h2
  obtain ⟨u, hu, h1⟩ := hget i hrt hp
  have hrun : (execOp a.eval oo).run P w = .ok (.value u) w := by
    have hu' : vs[i]? = some u := by rw [← hu]; simp
    unfold execOp
    rw [ho]
    simp [Instr.extract, hx, hu']
  obtain ⟨b, cs⟩ := p
  cases b with
  | true =>
    cases hr
    exact Done.quiet hm rfl (x := u) h1 hrun
  | false =>
    obtain ⟨c, m, hcm, hr⟩ := hdK_ok hr
    cases hr
    change cs = c :: m at hcm
    subst hcm
    cases m with
    | nil => exact Done.quiet hm rfl (x := u) h1 hrun
    | cons _ _ => cases h1
theorem bnd_ok {s : Nat → Int} {σ : Sg} {nt : Nat} {e : E} {a : Act} (hf : Fr s σ nt e a) {x : Option Operand} {d : Nat} {K : Nat → RV} {v : V} {h' : H} (hr : bnd e (gto x) d K = .ok v h') :
    (x = none ∧ K d = .ok v h') ∨ ∃ y k n, x = some y ∧ a.eval y = .int k (Int.ofNat n) ∧ K n = .ok v h' := by
  cases x with
  | none => exact .inl ⟨rfl, hr⟩
  | some y =>
    change oneK _ _ ((gt y).f e) = _ at hr
    obtain ⟨c, hc, hr⟩ := oneK_ok hr
    have hr_ := intK_ok hr; clear hr; obtain ⟨k, z, rfl, hr⟩ := hr_
    have hr_ := natK_ok hr; clear hr; obtain ⟨n, rfl, hr⟩ := hr_
    exact .inr ⟨y, k, n, rfl, gt_one hf hc, hr⟩
theorem extract_list (l : List UInt8) (a b : Nat) (h1 : a ≤ b) (h2 : b ≤ l.length) : (⟨l.toArray⟩ : ByteArray).extract a b = ⟨((l.drop a).take (b - a)).toArray⟩ := by
  apply ByteArray.ext
  rw [ByteArray.data_extract]
  apply Array.ext'
  simp [List.extract]
theorem sliceBound_int {x : Value} {k : IntKind} {n y : Nat} (w : World) (code : BoundsCode) (hx : x = .int k (Int.ofNat n)) (h : n ≤ y) : (Instr.sliceBound x y code).run P w = .ok n w := by
  subst hx
  have h1 : (n : Int) ≤ (y : Int) := by omega
  simp [Instr.sliceBound, asIntOf, h]
/-- the two bounds of a slice expression -/
theorem bounds_run {a : Act} (w : World) (isS : Bool) (len cap : Nat) {lo hi : Option Operand} {l u : Nat} (hlo : (lo = none ∧ l = 0) ∨ ∃ y k, lo = some y ∧ a.eval y = .int k (Int.ofNat l))
    (hhi : (hi = none ∧ u = len) ∨ ∃ y k, hi = some y ∧ a.eval y = .int k (Int.ofNat u)) (h1 : l ≤ u) (h2 : u ≤ cap) :
    (Instr.sliceBounds isS len cap (lo.map a.eval) (hi.map a.eval) none).run P w = .ok (l, u, cap) w := by
  unfold Instr.sliceBounds
  rcases hlo with ⟨rfl, rfl⟩ | ⟨y, k, rfl, hy⟩
  · rcases hhi with ⟨rfl, rfl⟩ | ⟨z, k', rfl, hz⟩
    · simp
    · simp [sliceBound_int (P := P) w _ hz h2]
  · rcases hhi with ⟨rfl, rfl⟩ | ⟨z, k', rfl, hz⟩
    · simp [sliceBound_int (P := P) w _ hy h1]
    · simp [sliceBound_int (P := P) w _ hz h2, sliceBound_int (P := P) w _ hy h1]
theorem bnd_two {s : Nat → Int} {σ : Sg} {nt : Nat} {e : E} {a : Act} (hf : Fr s σ nt e a) {lo hi : Option Operand} {d1 d2 : Nat} {K : Nat → Nat → RV} {v : V} {h' : H}
    (hr : (bnd e (gto lo) d1 fun a => bnd e (gto hi) d2 fun b => K a b) = .ok v h') :
    ∃ l u, ((lo = none ∧ l = d1) ∨ ∃ y k, lo = some y ∧ a.eval y = .int k (Int.ofNat l)) ∧ ((hi = none ∧ u = d2) ∨ ∃ y k, hi = some y ∧ a.eval y = .int k (Int.ofNat u)) ∧ K l u = .ok v h' := by
  rcases bnd_ok hf hr with ⟨h1, hr⟩ | ⟨y, k, n, h1, h2, hr⟩
  · rcases bnd_ok hf hr with ⟨h3, hr⟩ | ⟨y', k', n', h3, h4, hr⟩
    · exact ⟨d1, d2, .inl ⟨h1, rfl⟩, .inl ⟨h3, rfl⟩, hr⟩
    · exact ⟨d1, n', .inl ⟨h1, rfl⟩, .inr ⟨y', k', h3, h4⟩, hr⟩
  · rcases bnd_ok hf hr with ⟨h3, hr⟩ | ⟨y', k', n', h3, h4, hr⟩
    · exact ⟨n, d2, .inr ⟨y, k, h1, h2⟩, .inl ⟨h3, rfl⟩, hr⟩
    · exact ⟨n, n', .inr ⟨y, k, h1, h2⟩, .inr ⟨y', k', h3, h4⟩, hr⟩
theorem slice_S (t : TypeId) (x : Operand) (lo hi : Option Operand) : OpS P (.slice t x lo hi none) (oSlice P t x lo hi) := by
  intro s σ nt e a w0 w h v h' oo ho hf hm hr
  unfold oSlice at hr
  split at hr
  · next i hi' =>
    have hu := (ti_ok P hi').und
    split at hr
    · next hd =>
      rw [hd] at hu
      have hr_ := oneK_ok hr; clear hr; obtain ⟨c, hc, hr1⟩ := hr_
      have hr_ := strK_ok hr1; clear hr1; obtain ⟨l, rfl, hr1⟩ := hr_
      obtain ⟨p, q, h1, h2, hr2⟩ := bnd_two hf hr1
      clear hr1
      unfold cutStr at hr2
      obtain ⟨h3, hr3⟩ := ite_ok hr2
      obtain ⟨h4, hr4⟩ := ite_ok hr3
      rw [fL_eq] at hr4
      cases hr4
      replace h3 := Nat.le_of_ble_eq_true h3
      replace h4 := Nat.le_of_ble_eq_true h4
      rw [len_eq] at h2 h4
      have hx : a.eval x = .string ⟨l.toArray⟩ := gt_one hf hc
      refine Done.quiet hm rfl (x := .string ⟨((l.drop p).take (q - p)).toArray⟩) rfl ?_
      have hb := bounds_run (P := P) (a := a) w false l.length l.length h1 h2 h3 h4
      have hsz : (⟨l.toArray⟩ : ByteArray).size = l.length := by simp [ByteArray.size]
      unfold execOp
      rw [ho]
      simp only [Instr.sliceAt, Instr.slice, Sem.run_bind, run_underlying hu, Result.andThen_ok, hx, hsz, Option.map_none, hb, extract_list l p q h3 h4]
      simp [Instr.slice, run_underlying hu, hb, hsz, extract_list l p q h3 h4]
    · next el hd =>
      rw [hd] at hu
      split at hr
      · next j hj =>
        obtain ⟨info, hi1, hi2, _⟩ := (ti_ok P hj).info
        have hr_ := oneK_ok hr; clear hr; obtain ⟨c, hc, hr1⟩ := hr_
        have hr_ := rowK_ok hr1; clear hr1
        rcases hr_ with ⟨rfl, hr1⟩ | ⟨b, o, n, sz, rfl, hr1⟩
        · obtain ⟨p, q, h1, h2, hr2⟩ := bnd_two hf hr1
          clear hr1
          obtain ⟨h3, hr3⟩ := ite_ok hr2
          cases hr3
          replace h3 := Nat.eq_of_beq_eq_true h3
          have hp : p = 0 := by omega
          have hq : q = 0 := by omega
          subst hp hq
          have hx : a.eval x = .slice none 0 0 := gt_one hf hc
          refine Done.quiet hm rfl (x := .slice none 0 0) rfl ?_
          have hb := bounds_run (P := P) (a := a) w true 0 0 h1 h2 (Nat.le_refl _) (Nat.le_refl _)
          unfold execOp
          rw [ho]
          simp [Instr.sliceAt, Instr.slice, run_underlying hu, hx, hb, sizeOf, typeInfo, hi1]
        · obtain ⟨hsz, hr2⟩ := ite_ok hr1
          clear hr1
          replace hsz := Nat.eq_of_beq_eq_true hsz
          obtain ⟨p, q, h1, h2, hr3⟩ := bnd_two hf hr2
          clear hr2
          unfold cutRow at hr3
          obtain ⟨h3, hr4⟩ := ite_ok hr3
          replace h3 := Nat.le_of_ble_eq_true h3
          obtain ⟨y, cap, hy, hx, g1, g2, g3⟩ := gt_one hf hc
          have hrun : p ≤ q → (execOp a.eval oo).run P w = .ok (.value (.slice (if cap = p then some ⟨y.1, o, none⟩ else some ⟨y.1, o + p * sz, none⟩) (q - p) (cap - p))) w := by
            intro hpq
            have hb := bounds_run (P := P) (a := a) w true n cap h1 h2 hpq (by omega)
            unfold execOp
            rw [ho]
            simp only [Instr.sliceAt, Sem.run_bind, run_underlying hu, Result.andThen_ok, Option.map_none]
            simp only [Instr.slice, Sem.run_bind, run_underlying hu, Result.andThen_ok, hx, hb]
            simp [sizeOf, typeInfo, hi1, hi2, hsz, Addr.add_mid]
          rw [ite'_eq] at hr4
          split at hr4
          · next hlt =>
            replace hlt := blt_iff.mp hlt
            rw [fN_eq, fN_eq] at hr4
            cases hr4
            have hrun := hrun (by omega)
            rw [if_neg (show ¬ cap = p by omega)] at hrun
            refine Done.quiet hm rfl ⟨y, cap - p, hy, rfl, by show q - p ≤ cap - p; omega, ?_, ?_⟩ hrun
            · show o + p * sz + (cap - p) * sz ≤ y.2.1
              have : p * sz + (cap - p) * sz = cap * sz := by rw [← Nat.add_mul]; congr 1; omega
              omega
            · show y.2.2 ≤ o + p * sz + (cap - p) * sz
              have : p * sz + (cap - p) * sz = cap * sz := by rw [← Nat.add_mul]; congr 1; omega
              omega
          · obtain ⟨h5, hr5⟩ := ite_ok hr4
            clear hr4
            replace h5 := Nat.eq_of_beq_eq_true h5
            subst h5
            have hrun := hrun (Nat.le_refl _)
            rw [Nat.sub_self] at hrun
            rw [ite'_eq] at hr5
            split at hr5
            · next h6 =>
              replace h6 := Nat.eq_of_beq_eq_true h6
              subst h6
              cases hr5
              refine Done.quiet hm rfl ⟨y, cap, hy, rfl, Nat.zero_le _, g2, g3⟩ ?_
              rw [hrun]
              by_cases hc0 : cap = 0
              · simp [hc0]
              · simp [hc0]
            · cases hr5
              by_cases hc0 : cap = p
              · rw [if_pos hc0] at hrun
                exact Done.quiet hm rfl ⟨_, _, rfl⟩ hrun
              · rw [if_neg hc0] at hrun
                exact Done.quiet hm rfl ⟨_, _, rfl⟩ hrun
      · cases hr
    · cases hr
  · cases hr
theorem len_S (t ty : TypeId) (c : Call) (x : Operand) (h1 : c.callee = .builtin .len) (h2 : c.args = #[x]) (h3 : c.argTypes = #[t]) : OpS P (.call c) (oLen P t (gt x)) := by
  intro s σ nt e a w0 w h v h' oo ho hf hm hr
  have key : ∀ n : Nat, ∀ w', (Builtin.len_ #[t] oo.type #[a.eval x]).run P w = .ok (goInt n) w' → w' = w → (execOp a.eval oo).run P w = .ok (.value (.int .i64 (Int.ofNat n))) w := by
    intro n w' hl hw
    subst hw
    unfold execOp
    rw [ho]
    obtain ⟨callee, args, argTypes⟩ := c
    dsimp only at h1 h2 h3
    subst h1 h2 h3
    simp [resolve, invoke, builtin, hl, goInt]
  unfold oLen at hr
  split at hr
  · next i hi' =>
    have hu := (ti_ok P hi').und
    split at hr
    · next hd =>
      rw [hd] at hu
      have hr_ := oneK_ok hr; clear hr; obtain ⟨c, hc, hr1⟩ := hr_
      have hr_ := strK_ok hr1; clear hr1; obtain ⟨l, rfl, hr1⟩ := hr_
      rw [fN_eq, len_eq] at hr1
      cases hr1
      have hx : a.eval x = .string ⟨l.toArray⟩ := gt_one hf hc
      have hsz : (⟨l.toArray⟩ : ByteArray).size = l.length := by simp [ByteArray.size]
      exact Done.quiet hm rfl rfl (key l.length w (by simp only [Builtin.len_]; simp [run_underlying hu, hx, hsz]) rfl)
    · next el hd =>
      rw [hd] at hu
      have hr_ := oneK_ok hr; clear hr; obtain ⟨c, hc, hr1⟩ := hr_
      cases c with
      | nils =>
        cases hr1
        have hx : a.eval x = .slice none 0 0 := gt_one hf hc
        exact Done.quiet hm rfl rfl (key 0 w (by simp [Builtin.len_, run_underlying hu, hx]) rfl)
      | emp =>
        cases hr1
        obtain ⟨ad, cap, hx⟩ := gt_one hf hc
        exact Done.quiet hm rfl rfl (key 0 w (by simp [Builtin.len_, run_underlying hu, hx]) rfl)
      | slice b o n sz =>
        cases hr1
        obtain ⟨y, cap, hy, hx, _⟩ := gt_one hf hc
        exact Done.quiet hm rfl rfl (key n w (by simp [Builtin.len_, run_underlying hu, hx]) rfl)
      | _ => cases hr1
    · cases hr
  · cases hr
end
end Go.Proofs.Ytopganainjgmmaa.Ev
