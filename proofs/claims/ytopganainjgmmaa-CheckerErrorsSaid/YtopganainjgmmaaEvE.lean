/- Each operation of the evaluator's is the model's: operators, addresses, strings. -/
import Derived.Test.YtopganainjgmmaaEvD
import Derived.Laws.StructEq
import Derived.Laws.Cover3
import Derived.Laws.Pointers
import Derived.Laws.Strings
namespace Go.Proofs.Ytopganainjgmmaa.Ev
open Go Go.RowKit
set_option linter.unusedVariables false
set_option linter.unusedSimpArgs false

section
variable {P : Program}
/-! ### operators -/
theorem intR_ok {k : IntKind} {n : Int} {h h' : H} {v : V} (hr : intR k n h = .ok v h') : v = .one (.int k (k.wrap n)) ∧ h' = h := by
  unfold intR at hr; rw [fW_eq] at hr; cases hr; exact ⟨rfl, rfl⟩
theorem boolR_ok {b : Bool} {h h' : H} {v : V} (hr : boolR b h = .ok v h') : v = .one (.bool b) ∧ h' = h := by
  unfold boolR at hr; rw [fB_eq] at hr; cases hr; exact ⟨rfl, rfl⟩
theorem kindB_ok {k k' : IntKind} (h : kindB k k' = true) : k = k' := by
  cases k <;> cases k' <;> first | rfl | cases h
theorem intEq_eq (a b : Int) : intEq a b = (a == b) := by
  cases a with
  | ofNat a => cases b with
    | ofNat b =>
      show Nat.beq a b = _
      rw [Bool.eq_iff_iff, Nat.beq_eq]
      simp
      omega
    | negSucc b => show false = _; symm; simp
  | negSucc a => cases b with
    | ofNat b => show false = _; symm; simp
    | negSucc b =>
      show Nat.beq a b = _
      rw [Bool.eq_iff_iff, Nat.beq_eq]
      simp
theorem intLe_eq (a b : Int) : intLe a b = decide (a ≤ b) := by
  cases a with
  | ofNat a => cases b with
    | ofNat b =>
      show Nat.ble a b = _
      rw [Bool.eq_iff_iff, Nat.ble_eq]
      simp
    | negSucc b => show false = _; symm; rw [decide_eq_false_iff_not]; have := Int.negSucc_lt_zero b; have : (0 : Int) ≤ Int.ofNat a := Int.natCast_nonneg a; omega
  | negSucc a => cases b with
    | ofNat b => show true = _; symm; rw [decide_eq_true_iff]; have := Int.negSucc_lt_zero a; have : (0 : Int) ≤ Int.ofNat b := Int.natCast_nonneg b; omega
    | negSucc b =>
      show Nat.ble b a = _
      rw [Bool.eq_iff_iff, Nat.ble_eq]
      simp only [decide_eq_true_iff, Int.negSucc_eq]
      omega
theorem bin_int (op : BinOp) (t : TypeId) (k : IntKind) (a b : Int) (h h' : H) (v : V) (w : World) (hr : (intOp op).f k a b h = .ok v h') :
    h' = h ∧ ∃ c x, v = .one c ∧ (∀ s σ, RC s σ c x) ∧ (binOp op t (.int k a) (.int k b)).run P w = .ok x w := by
  have key : ∀ c : Cell, ∀ x : Value, (h' = h ∧ v = .one c) → (∀ s σ, RC s σ c x) → (binOp op t (.int k a) (.int k b)).run P w = .ok x w → h' = h ∧ ∃ c x, v = .one c ∧ (∀ s σ, RC s σ c x) ∧ (binOp op t (.int k a) (.int k b)).run P w = .ok x w :=
    fun c x h1 h2 h3 => ⟨h1.1, c, x, h1.2, h2, h3⟩
  cases op with
  | add => obtain ⟨rfl, rfl⟩ := intR_ok hr; exact key _ _ ⟨rfl, rfl⟩ (fun _ _ => rfl) (by simp [binOp, Op.intArith])
  | sub => obtain ⟨rfl, rfl⟩ := intR_ok hr; exact key _ _ ⟨rfl, rfl⟩ (fun _ _ => rfl) (by simp [binOp, Op.intArith]; rfl)
  | mul => obtain ⟨rfl, rfl⟩ := intR_ok hr; exact key _ _ ⟨rfl, rfl⟩ (fun _ _ => rfl) (by simp [binOp, Op.intArith])
  | quo =>
    change ite' (intEq b (.ofNat 0)) (RV.bad 20) (intR k (Int.tdiv a b) h) = RV.ok v h' at hr
    rw [ite'_eq] at hr
    split at hr
    · cases hr
    · next hb =>
      obtain ⟨rfl, rfl⟩ := intR_ok hr
      have hb' : b ≠ 0 := fun e => hb (by rw [intEq_eq, e]; rfl)
      exact key _ _ ⟨rfl, rfl⟩ (fun _ _ => rfl) (by simp [binOp, Op.intDiv, hb'])
  | rem =>
    change ite' (intEq b (.ofNat 0)) (RV.bad 21) (fI (Int.tmod a b) fun n => RV.ok (.one (.int k n)) h) = RV.ok v h' at hr
    rw [ite'_eq] at hr
    split at hr
    · cases hr
    · next hb =>
      rw [fI_eq] at hr
      cases hr
      have hb' : b ≠ 0 := fun e => hb (by rw [intEq_eq, e]; rfl)
      exact key _ _ ⟨rfl, rfl⟩ (fun _ _ => rfl) (by simp [binOp, Op.intDiv, hb'])
  | eql => obtain ⟨rfl, rfl⟩ := boolR_ok hr; exact key _ _ ⟨rfl, rfl⟩ (fun _ _ => rfl) (by simp [binOp, Op.intCmp, intEq_eq])
  | neq => obtain ⟨rfl, rfl⟩ := boolR_ok hr; exact key _ _ ⟨rfl, rfl⟩ (fun _ _ => rfl) (by simp [binOp, Op.intCmp, intEq_eq, bne])
  | lss => obtain ⟨rfl, rfl⟩ := boolR_ok hr; exact key _ _ ⟨rfl, rfl⟩ (fun _ _ => rfl) (by simp [binOp, Op.intCmp, intLe_eq]; rw [Bool.eq_iff_iff]; simp)
  | leq => obtain ⟨rfl, rfl⟩ := boolR_ok hr; exact key _ _ ⟨rfl, rfl⟩ (fun _ _ => rfl) (by simp [binOp, Op.intCmp, intLe_eq])
  | gtr => obtain ⟨rfl, rfl⟩ := boolR_ok hr; exact key _ _ ⟨rfl, rfl⟩ (fun _ _ => rfl) (by simp [binOp, Op.intCmp, intLe_eq]; rw [Bool.eq_iff_iff]; simp)
  | geq => obtain ⟨rfl, rfl⟩ := boolR_ok hr; exact key _ _ ⟨rfl, rfl⟩ (fun _ _ => rfl) (by simp [binOp, Op.intCmp, intLe_eq])
  | _ => cases hr
theorem beqL_eq (l m : List UInt8) : beqL l m = (l == m) := by
  induction l generalizing m with
  | nil => cases m <;> rfl
  | cons a l ih =>
    cases m with
    | nil => rfl
    | cons b m =>
      show ite' (Nat.beq a.toNat b.toNat) (beqL l m) false = _
      rw [ite'_eq, ih]
      by_cases h : a = b
      · subst h
        rw [if_pos (by rw [Nat.beq_eq])]
        simp
      · rw [if_neg (by rw [Nat.beq_eq]; exact fun e => h (UInt8.toNat_inj.mp e))]
        symm
        simp [h]
theorem bin_str (op : BinOp) (t : TypeId) (a b : List UInt8) (h h' : H) (v : V) (w : World) (hr : strOp op a b h = .ok v h') :
    h' = h ∧ ∃ c x, v = .one c ∧ (∀ s σ, RC s σ c x) ∧ ((binOp op t (.string ⟨a.toArray⟩) (.string ⟨b.toArray⟩)).run P w = .ok x w) := by
  have key : ∀ c : Cell, ∀ x : Value, (h' = h ∧ v = .one c) → (∀ s σ, RC s σ c x) → ((binOp op t (.string ⟨a.toArray⟩) (.string ⟨b.toArray⟩)).run P w = .ok x w) → h' = h ∧ ∃ c x, v = .one c ∧ (∀ s σ, RC s σ c x) ∧ ((binOp op t (.string ⟨a.toArray⟩) (.string ⟨b.toArray⟩)).run P w = .ok x w) :=
    fun c x h1 h2 h3 => ⟨h1.1, c, x, h1.2, h2, h3⟩
  cases op with
  | add =>
    change fL (a ++ b) _ = _ at hr
    rw [fL_eq] at hr
    obtain ⟨hl, hr⟩ := ite_ok hr
    cases hr
    replace hl := Nat.le_of_ble_eq_true hl
    rw [len_eq] at hl
    refine key _ _ ⟨rfl, rfl⟩ (fun _ _ => rfl) ?_
    have h1 : ¬ (IntKind.i64.max < (((⟨a.toArray⟩ : ByteArray).size + (⟨b.toArray⟩ : ByteArray).size : Nat) : Int)) := by
      have : IntKind.i64.max = 9223372036854775807 := by rfl
      rw [this]
      simp [ByteArray.size] at hl ⊢
      omega
    have h2 : (⟨a.toArray⟩ : ByteArray) ++ ⟨b.toArray⟩ = ⟨(a ++ b).toArray⟩ := by
      apply ByteArray.ext
      simp [ByteArray.data_append]
    simp only [binOp, Op.stringOp]
    rw [if_neg (by simpa using h1), h2]
    rfl
  | eql => obtain ⟨rfl, rfl⟩ := boolR_ok hr; exact key _ _ ⟨rfl, rfl⟩ (fun _ _ => rfl) (by simp [binOp, Op.stringOp, beqL_eq])
  | neq => obtain ⟨rfl, rfl⟩ := boolR_ok hr; exact key _ _ ⟨rfl, rfl⟩ (fun _ _ => rfl) (by simp [binOp, Op.stringOp, beqL_eq])
  | _ => cases hr
theorem eqR_ok {op : BinOp} {r : Bool} {h h' : H} {v : V} (hr : eqR op r h = .ok v h') : h' = h ∧ ((op = .eql ∧ v = .one (.bool r)) ∨ (op = .neq ∧ v = .one (.bool (!r)))) := by
  cases op with
  | eql => obtain ⟨rfl, rfl⟩ := boolR_ok hr; exact ⟨rfl, .inl ⟨rfl, rfl⟩⟩
  | neq => obtain ⟨rfl, rfl⟩ := boolR_ok hr; exact ⟨rfl, .inr ⟨rfl, rfl⟩⟩
  | _ => cases hr
theorem onD_ok {p : TypeDesc → Bool} {t : TypeId} {n : Nat} {r : RV} {v : V} {h' : H} (hr : onD P p t n r = .ok v h') : ∃ d, P.underlying t = some d ∧ p d = true ∧ r = .ok v h' := by
  unfold onD at hr
  obtain ⟨h1, h2⟩ := ite_ok hr
  cases hi : ti P t with
  | none => rw [hi] at h1; cases h1
  | some i => rw [hi] at h1; exact ⟨i.desc, (ti_ok P hi).und, h1, h2⟩
theorem bEq_eq (a b : Bool) : bEq a b = (a == b) := by cases a <;> cases b <;> rfl
/-- '==' and '!=' where both are told by one truth -/
theorem eq_run {op : BinOp} {t : TypeId} {x y : Value} {r : Bool} {h h' : H} {v : V} (w : World) (hr : eqR op r h = .ok v h') (hq : (Op.equal t x y).run P w = .ok r w)
    (he : binOp .eql t x y = (do pure (.bool (← Op.equal t x y)))) (hn : binOp .neq t x y = (do pure (.bool (!(← Op.equal t x y))))) :
    h' = h ∧ ∃ c u, v = .one c ∧ (∀ s σ, RC s σ c u) ∧ (binOp op t x y).run P w = .ok u w := by
  obtain ⟨h1, ⟨rfl, rfl⟩ | ⟨rfl, rfl⟩⟩ := eqR_ok hr
  · exact ⟨h1, _, .bool r, rfl, fun _ _ => rfl, by rw [he]; simp [hq]⟩
  · exact ⟨h1, _, .bool (!r), rfl, fun _ _ => rfl, by rw [hn]; simp [hq]⟩
theorem eqIn_np (w : World) (d : Nat) {t q : TypeId} (p : Option Addr) (h : P.underlying t = some (.pointer q)) : (Op.equalIn (d + 1) t (.pointer none) (.pointer p)).run P w = .ok p.isNone w := by
  simp [Op.equalIn, run_underlying h]
theorem eq_np (w : World) {t q : TypeId} (p : Option Addr) (h : P.underlying t = some (.pointer q)) : (Op.equal t (.pointer none) (.pointer p)).run P w = .ok p.isNone w := eqIn_np w 9999 p h
theorem eqIn_pn (w : World) (d : Nat) {t q : TypeId} (p : Addr) (h : P.underlying t = some (.pointer q)) : (Op.equalIn (d + 1) t (.pointer (some p)) (.pointer none)).run P w = .ok false w := by
  simp [Op.equalIn, run_underlying h]
theorem eq_pn (w : World) {t q : TypeId} (p : Addr) (h : P.underlying t = some (.pointer q)) : (Op.equal t (.pointer (some p)) (.pointer none)).run P w = .ok false w := eqIn_pn w 9999 p h
theorem bin_ok {s : Nat → Int} {σ : Sg} {op : BinOp} {t : TypeId} {a b : Cell} {x y : Value} {h h' : H} {v : V} (w : World) (hr : bin P op t a b h = .ok v h') (hx : RC s σ a x) (hy : RC s σ b y) (hc : ∀ c, a ≠ .map c) :
    h' = h ∧ (∃ c u, v = .one c ∧ (∀ s σ, RC s σ c u) ∧ (binOp op t x y).run P w = .ok u w) ∧ x ≠ .nilIface ∧ (∀ l, x ≠ .agg l) := by
  unfold bin at hr
  cases a with
  | bool a =>
    obtain ⟨b, rfl, hr⟩ := boolK_ok hr
    obtain ⟨d, h1, h2, hr⟩ := onD_ok hr
    cases hx; cases hy
    have hd : d = .bool := by cases d <;> first | rfl | cases h2
    subst hd
    rw [bEq_eq] at hr
    obtain ⟨h3, h4⟩ := eq_run (x := .bool a) (y := .bool b) w hr (run_equal_bool w t a b h1) rfl rfl
    exact ⟨h3, h4, (by intro h; cases h), (by intro l h; cases h)⟩
  | int k a =>
    obtain ⟨k', b, rfl, hr1⟩ := intK_ok hr
    obtain ⟨hk, hr2⟩ := ite_ok hr1
    have hk2 := kindB_ok hk
    clear hr hr1 hk
    subst hk2
    cases hx; cases hy
    obtain ⟨h3, h4⟩ := bin_int (P := P) op t k a b h h' v w hr2
    exact ⟨h3, h4, (by intro h; cases h), (by intro l h; cases h)⟩
  | str a =>
    obtain ⟨b, rfl, hr⟩ := strK_ok hr
    cases hx; cases hy
    obtain ⟨h3, h4⟩ := bin_str (P := P) op t a b h h' v w hr
    exact ⟨h3, h4, (by intro h; cases h), (by intro l h; cases h)⟩
  | nilp =>
    cases hx
    cases b with
    | nilp =>
      obtain ⟨d, h1, h2, hr⟩ := onD_ok hr
      cases hy
      have hd : ∃ q, d = .pointer q := by cases d <;> first | exact ⟨_, rfl⟩ | cases h2
      obtain ⟨q, rfl⟩ := hd
      obtain ⟨h3, h4⟩ := eq_run (x := .pointer none) (y := .pointer none) w hr (eq_np w none h1) rfl rfl
      exact ⟨h3, h4, (by intro h; cases h), (by intro l h; cases h)⟩
    | ptr b o =>
      obtain ⟨d, h1, h2, hr⟩ := onD_ok hr
      obtain ⟨q', _, rfl⟩ := hy
      have hd : ∃ q, d = .pointer q := by cases d <;> first | exact ⟨_, rfl⟩ | cases h2
      obtain ⟨q, rfl⟩ := hd
      obtain ⟨h3, h4⟩ := eq_run (x := .pointer none) (y := .pointer (some ⟨q'.1, o, none⟩)) w hr (eq_np w (some _) h1) rfl rfl
      exact ⟨h3, h4, (by intro h; cases h), (by intro l h; cases h)⟩
    | _ => cases hr
  | ptr b' o' =>
    obtain ⟨q', _, rfl⟩ := hx
    cases b with
    | nilp =>
      obtain ⟨d, h1, h2, hr⟩ := onD_ok hr
      cases hy
      have hd : ∃ q, d = .pointer q := by cases d <;> first | exact ⟨_, rfl⟩ | cases h2
      obtain ⟨q, rfl⟩ := hd
      obtain ⟨h3, h4⟩ := eq_run (x := .pointer (some ⟨q'.1, o', none⟩)) (y := .pointer none) w hr (eq_pn w _ h1) rfl rfl
      exact ⟨h3, h4, (by intro h; cases h), (by intro l h; cases h)⟩
    | _ => cases hr
  | nils =>
    cases hx
    rcases rowK_ok hr with ⟨rfl, hr⟩ | ⟨_, _, _, _, rfl, hr⟩
    · obtain ⟨d, h1, h2, hr⟩ := onD_ok hr
      cases hy
      have hd : ∃ q, d = .slice q := by cases d <;> first | exact ⟨_, rfl⟩ | cases h2
      obtain ⟨q, rfl⟩ := hd
      obtain ⟨h3, h4⟩ := eq_run (x := .slice none 0 0) (y := .slice none 0 0) w hr (run_equal_slice_nil w t q none 0 0 h1) rfl rfl
      exact ⟨h3, h4, (by intro h; cases h), (by intro l h; cases h)⟩
    · cases hr
  | slice b' o' n' z' =>
    obtain ⟨q', cap, _, rfl, _⟩ := hx
    rcases rowK_ok hr with ⟨rfl, hr⟩ | ⟨_, _, _, _, rfl, hr⟩
    · obtain ⟨d, h1, h2, hr⟩ := onD_ok hr
      cases hy
      have hd : ∃ q, d = .slice q := by cases d <;> first | exact ⟨_, rfl⟩ | cases h2
      obtain ⟨q, rfl⟩ := hd
      obtain ⟨h3, h4⟩ := eq_run (x := .slice (some ⟨q'.1, o', none⟩) n' cap) (y := .slice none 0 0) w hr (run_equal_slice_nil w t q _ _ _ h1) rfl rfl
      exact ⟨h3, h4, (by intro h; cases h), (by intro l h; cases h)⟩
    · cases hr
  | map b => exact absurd rfl (hc b)
  | sym j => cases hr
  | emp => cases hr
theorem bin_S (op : BinOp) (t t2 : TypeId) (x y : Operand) : OpS P (.binOp op t x y t2) (oBin P op t (gt x) (gt y)) := by
  intro s σ nt e a w0 w h v h' oo ho hf hm hr
  obtain ⟨c1, hc1, hr⟩ := oneK_ok hr
  obtain ⟨c2, hc2, hr⟩ := oneK_ok hr
  have hx := gt_one hf hc1
  have hy := gt_one hf hc2
  have hm' : ∀ c, c1 ≠ .map c := fun c e => by subst e; cases hr
  obtain ⟨rfl, ⟨c, u, rfl, hcu, hrun⟩, hni, hna⟩ := bin_ok w hr hx hy hm'
  refine Done.quiet hm rfl (x := u) (hcu s σ) ?_
  have hg : (eqGuard op t x y (a.eval x) (a.eval y)).run P w = .ok () w := by
    generalize a.eval x = p at hni hna
    generalize a.eval y = q
    unfold eqGuard
    cases op <;> first | rfl | (cases p <;> first | rfl | (exact absurd rfl hni) | (exact absurd rfl (hna _)))
  unfold execOp
  rw [ho]
  simp [hg, hrun]
theorem un_S (op : UnOp) (t : TypeId) (x : Operand) : OpS P (.unOp op t x) (oUn op (gt x)) := by
  intro s σ nt e a w0 w h v h' oo ho hf hm hr
  cases op with
  | not =>
    obtain ⟨c, hc, hr⟩ := oneK_ok hr
    obtain ⟨b, rfl, hr⟩ := boolK_ok hr
    obtain ⟨rfl, rfl⟩ := boolR_ok hr
    have hx : a.eval x = .bool b := gt_one hf hc
    exact Done.quiet hm rfl (x := .bool (!b)) rfl (by unfold execOp; rw [ho]; simp [hx, Op.unary])
  | neg =>
    obtain ⟨c, hc, hr⟩ := oneK_ok hr
    obtain ⟨k, i, rfl, hr⟩ := intK_ok hr
    obtain ⟨rfl, rfl⟩ := intR_ok hr
    have hx : a.eval x = .int k i := gt_one hf hc
    exact Done.quiet hm rfl (x := .int k (k.wrap (Int.sub 0 i))) rfl (by unfold execOp; rw [ho]; simp [hx, Op.unary, Op.intArith]; exact congrArg _ (Int.zero_sub i).symm)
  | _ => cases hr
end
end Go.Proofs.Ytopganainjgmmaa.Ev
