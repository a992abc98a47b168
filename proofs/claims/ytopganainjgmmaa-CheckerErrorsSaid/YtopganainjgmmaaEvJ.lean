/- Each operation of the evaluator's is the model's: maps, conversions; all of them. -/
import Derived.Test.YtopganainjgmmaaEvI
namespace Go.Proofs.Ytopganainjgmmaa.Ev
open Go Go.RowKit
set_option linter.unusedVariables false
set_option linter.unusedSimpArgs false

section
variable {s : Nat → Int} {σ : Sg} {w0 w : World} {h : H}
theorem Mem.map (hm : Mem s σ w0 h w) {b : Nat} {es : List (List UInt8 × Cell)} (hb : h.blk b = .map es) {x : Nat × Nat × Nat} (hx : σ b = some x) :
    ∃ ents clock, x = (x.1, 0, 0) ∧ w0.heap.size ≤ x.1 ∧ w.heap[x.1]? = some (.map ents clock) ∧ RM s σ es ents.toList := by
  have := hm.blk b
  rw [hb] at this
  obtain ⟨c, ents, clock, h1, h0, h2, h3⟩ := this
  rw [hx] at h1; cases h1
  exact ⟨ents, clock, rfl, h0, h2, h3⟩
/-- an object is put in a block's place -/
def setObjW (w : World) (c : Nat) (o : Obj) : World := { w with heap := w.heap.setIfInBounds c o }
theorem setObjW_at (w : World) (c : Nat) (o o' : Obj) (h : w.heap[c]? = some o') : (setObjW w c o).heap[c]? = some o := by
  have hc : c < w.heap.size := (Array.getElem?_eq_some_iff.1 h).1
  simp [setObjW, hc]
theorem setObjW_other (w : World) (c k : Nat) (o : Obj) (h : k ≠ c) : (setObjW w c o).heap[k]? = w.heap[k]? := by
  simp [setObjW, Array.getElem?_setIfInBounds_ne (Ne.symm h)]
theorem Mem.mapSet (hm : Mem s σ w0 h w) {b : Nat} {es es' : List (List UInt8 × Cell)} {c : Nat} {o : Obj} {ents : Array MapEntry} {clock : Nat} (hb : h.blk b = .map es) (hc : σ b = some (c, 0, 0)) (hB : w0.heap.size ≤ c) (hw : w.heap[c]? = some o) (hr : RM s σ es' ents.toList) :
    Mem s σ w0 (h.put b (.map es')) (setObjW w c (.map ents clock)) := by
  have hb4 : b < 65536 := Nat.lt_of_lt_of_le (hm.dom b _ hc) hm.next
  have hbel : Below w0.heap.size w0 (setObjW w c (.map ents clock)) := hm.below.trans ⟨rfl, rfl, rfl, by simp [setObjW], fun k hk => setObjW_other w c k _ (by omega)⟩
  refine ⟨hm.next, hm.dom, hbel, fun k => ?_, fun b1 b2 x1 x2 h1 h2 e1 e2 he => ?_⟩
  · rw [put_blk h b _ hb4]
    split
    · next e =>
      subst e
      exact ⟨c, ents, clock, hc, hB, setObjW_at w c _ o hw, hr⟩
    · next e =>
      refine (hm.blk k).keep (Ext.refl _) (fun z hz hne hlt => setObjW_other w c z.1 _ (fun he => e ?_))
      exact hm.inj k b z _ hne (by rw [hb]; intro h; cases h) hz hc he
  · rw [put_blk h b _ hb4] at h1 h2
    refine hm.inj b1 b2 x1 x2 ?_ ?_ e1 e2 he
    · split at h1
      · next e => rw [e, hb]; intro h; cases h
      · exact h1
    · split at h2
      · next e => rw [e, hb]; intro h; cases h
      · exact h2
theorem bytes_beq (k m : List UInt8) : ((⟨k.toArray⟩ : ByteArray) == ⟨m.toArray⟩) = (k == m) := by
  show (k.toArray == m.toArray) = (k == m)
  simp
/-- where a key is -/
def at_ (k : List UInt8) : List (List UInt8 × Cell) → Nat → Option (Nat × Cell)
  | [], _ => none
  | p :: l, i => if (k == p.1) = true then some (i, p.2) else at_ k l (i + 1)
theorem findK_eq (k : List UInt8) (l : List (List UInt8 × Cell)) (i : Nat) : findK k l = (at_ k l i).map (·.2) := by
  induction l generalizing i with
  | nil => rfl
  | cons p l ih =>
    show ite' (beqL k p.1) (some p.2) (findK k l) = _
    rw [ite'_eq, beqL_eq]
    unfold at_
    split
    · rfl
    · exact ih (i + 1)
theorem findNow_eq (k : List UInt8) : ∀ {l : List (List UInt8 × Cell)} {m : List MapEntry} (i : Nat), RM s σ l m →
    ∃ r, Instr.findNow .string (.string ⟨k.toArray⟩) m i = some r ∧ (r = none ↔ at_ k l i = none) ∧ ∀ q, r = some q → ∃ c, at_ k l i = some (q.1, c) ∧ RC s σ c q.2 ∧ i ≤ q.1 ∧ ∃ e, m[q.1 - i]? = some e ∧ e.key = .string ⟨k.toArray⟩
  | [], [], i, _ => ⟨none, rfl, by simp [at_], fun q hq => by cases hq⟩
  | p :: l, e :: m, i, h => by
    obtain ⟨⟨h1, h2⟩, h3⟩ := h
    obtain ⟨r, g1, g2, g3⟩ := findNow_eq k (i + 1) h3
    unfold Instr.findNow
    rw [h1]
    simp only [Instr.sameNow, bytes_beq]
    unfold at_
    cases hk : (k == p.1) with
    | true =>
      refine ⟨some (i, e.val), rfl, by simp, fun q hq => ?_⟩
      cases hq
      refine ⟨p.2, by simp, h2, Nat.le_refl _, e, by simp, ?_⟩
      rw [h1, eq_of_beq hk]
    | false =>
      refine ⟨r, g1, by simpa using g2, fun q hq => ?_⟩
      obtain ⟨c, f1, f2, f3, e', f4, f5⟩ := g3 q hq
      refine ⟨c, by simpa using f1, f2, by omega, e', ?_, f5⟩
      rw [show q.1 - i = (q.1 - (i + 1)) + 1 by omega]
      simpa using f4
theorem updK_eq {β : Type} (k : List UInt8) (c : Cell) (l : List (List UInt8 × Cell)) (K : List (List UInt8 × Cell) → β) (i : Nat) :
    updK k c l K = K (match at_ k l i with
      | some q => l.set (q.1 - i) (k, c)
      | none => l ++ [(k, c)]) ∧ ∀ q, at_ k l i = some q → i ≤ q.1 := by
  induction l generalizing K i with
  | nil => exact ⟨rfl, fun q hq => by cases hq⟩
  | cons p l ih =>
    have hd : updK k c (p :: l) K = ite' (beqL k p.1) (K ((k, c) :: l)) (updK k c l fun l' => K (p :: l')) := rfl
    rw [hd, ite'_eq, beqL_eq]
    unfold at_
    split
    · next h => exact ⟨by simp, fun q hq => by cases hq; exact Nat.le_refl _⟩
    · next h =>
      obtain ⟨h1, h2⟩ := ih (fun l' => K (p :: l')) (i + 1)
      refine ⟨?_, fun q hq => by have := h2 q hq; omega⟩
      rw [h1]
      cases hq : at_ k l (i + 1) with
      | none => rfl
      | some q =>
        have := h2 q hq
        simp only
        rw [show q.1 - i = (q.1 - (i + 1)) + 1 by omega, List.set_cons_succ]
theorem RM.set : ∀ {l : List (List UInt8 × Cell)} {m : List MapEntry} (i : Nat) {k : List UInt8} {c : Cell} {e : MapEntry}, RM s σ l m → e.key = .string ⟨k.toArray⟩ → RC s σ c e.val → RM s σ (l.set i (k, c)) (m.set i e)
  | [], [], i, k, c, e, _, _, _ => trivial
  | p :: l, d :: m, 0, k, c, e, h, h1, h2 => ⟨⟨h1, h2⟩, h.2⟩
  | p :: l, d :: m, i + 1, k, c, e, h, h1, h2 => ⟨h.1, RM.set i h.2 h1 h2⟩
theorem RM.push : ∀ {l : List (List UInt8 × Cell)} {m : List MapEntry} {k : List UInt8} {c : Cell} {e : MapEntry}, RM s σ l m → e.key = .string ⟨k.toArray⟩ → RC s σ c e.val → RM s σ (l ++ [(k, c)]) (m ++ [e])
  | [], [], k, c, e, _, h1, h2 => ⟨⟨h1, h2⟩, trivial⟩
  | p :: l, d :: m, k, c, e, h, h1, h2 => ⟨h.1, RM.push h.2 h1 h2⟩
end

section
variable {P : Program}
theorem map_S (t : TypeId) : OpS P (.makeMap t none) oMap := by
  intro s σ nt e a w0 w h v h' oo ho hf hm hr
  unfold oMap at hr
  dsimp only at hr
  obtain ⟨hn, hr⟩ := new_eq h _ _ hr
  cases hr
  refine ⟨σ.lay h.next (w.heap.size, 0, 0), _, _, hm.ext _, ⟨_, lay_at _ _ _, rfl⟩, hm.alloc hn _ (.map #[] 0) _ _ ⟨w.heap.size, #[], 0, lay_at _ _ _, hm.below.size, alloc_new w _, trivial⟩, .inl ?_⟩
  unfold execOp
  rw [ho]
  simp [Instr.makeMap]
theorem checkKey_str (n : Nat) (b : Bool) (t : TypeId) (k : ByteArray) (w : World) (h : P.underlying t = some .string) : (Instr.checkKey b (n + 1) t (.string k)).run P w = .ok () w := by
  simp [Instr.checkKey, run_underlying h]
theorem checkKey_str' (b : Bool) (t : TypeId) (k : ByteArray) (w : World) (h : P.underlying t = some .string) : (Instr.checkKey b 10000 t (.string k)).run P w = .ok () w := checkKey_str 9999 b t k w h
theorem findKey_run (t : TypeId) (k : Value) (l : List MapEntry) (r : Option (Nat × Value)) (w : World) (h : P.underlying t = some .string) (hr : Instr.findNow .string k l 0 = some r) : (Instr.findKey t k l).run P w = .ok r w := by
  simp [Instr.findKey, run_underlying h, hr]
theorem look_S (t : TypeId) (m k : Operand) (ok : Bool) : OpS P (.lookup t m k ok) (oLook P t (gt m) (gt k) ok) := by
  intro s σ nt e a w0 w h v h' oo ho hf hm hr
  unfold oLook at hr
  split at hr
  · next i hi =>
    have hu := (ti_ok P hi).und
    split at hr
    · next kt vt hd =>
      rw [hd] at hu
      split at hr
      · next j hj =>
        split at hr
        · next z hz =>
          obtain ⟨info, zv, i1, hzv, hzr⟩ := (ti_ok P hj).zone z hz
          have hr_ := onD_ok hr; clear hr
          obtain ⟨d, hd1, hd2, hr1⟩ := hr_
          have hd : d = .string := by cases d <;> first | rfl | cases hd2
          subst hd
          have hr_ := oneK_ok hr1; clear hr1; obtain ⟨c1, hc1, hr1⟩ := hr_
          have hr_ := mapK_ok hr1; clear hr1; obtain ⟨b, rfl, hr1⟩ := hr_
          have hr_ := oneK_ok hr1; clear hr1; obtain ⟨c2, hc2, hr1⟩ := hr_
          have hr_ := strK_ok hr1; clear hr1; obtain ⟨kk, rfl, hr1⟩ := hr_
          have hr_ := mblkK_ok hr1; clear hr1; obtain ⟨es, hes, hr1⟩ := hr_
          obtain ⟨x, hx, hmv⟩ := gt_one hf hc1
          have hkv : a.eval k = .string ⟨kk.toArray⟩ := gt_one hf hc2
          obtain ⟨ents, clock, _, _, hw, hrm⟩ := hm.map hes hx
          obtain ⟨r, g1, g2, g3⟩ := findNow_eq kk 0 hrm
          rw [findK_eq kk es 0] at hr1
          have hzz : RC s σ z zv := by
            have := ofV_ok (s := s) (σ := σ) (v := zv) (by rw [hzr]; intro h; cases h)
            rw [hzr] at this; exact this
          have hfk := findKey_run kt (.string ⟨kk.toArray⟩) ents.toList r w hd1 g1
          have hgo : (getObj x.1).run P w = .ok (.map ents clock) w := by simp [getObj, Sem.run, hw]
          have hck := checkKey_str' (P := P) ents.isEmpty kt ⟨kk.toArray⟩ w hd1
          have hrun : ∀ u b, (r = none ∧ u = zv ∧ b = false) ∨ (∃ q, r = some (q, u) ∧ b = true) → (execOp a.eval oo).run P w = .ok (.value (if ok then .tuple #[u, .bool b] else u)) w := by
            intro u bb hub
            unfold execOp
            rw [ho]
            rcases hub with ⟨rfl, rfl, rfl⟩ | ⟨q, rfl, rfl⟩
            · simp [Instr.lookup, run_underlying hu, hmv, hgo, hck, hkv, hfk, zeroValue, typeInfo, i1, hzv]
            · simp [Instr.lookup, run_underlying hu, hmv, hgo, hck, hkv, hfk]
          unfold foundR at hr1
          cases hat : at_ kk es 0 with
          | none =>
            rw [hat] at hr1
            have hrn := g2.mpr hat
            have hrun := hrun zv false (.inl ⟨hrn, rfl, rfl⟩)
            cases ok with
            | true => cases hr1; exact Done.quiet hm rfl ⟨#[zv, .bool false], rfl, (show RT s σ [(false, [z]), (false, [.bool false])] [zv, .bool false] from ⟨hzz, rfl, trivial⟩)⟩ hrun
            | false => cases hr1; exact Done.quiet hm rfl hzz hrun
          | some q =>
            rw [hat] at hr1
            cases hq : r with
            | none => rw [g2.mp hq] at hat; cases hat
            | some p =>
              obtain ⟨c, f1, f2, _⟩ := g3 p hq
              rw [hat] at f1
              cases f1
              have hrun := hrun p.2 true (.inr ⟨p.1, hq, rfl⟩)
              cases ok with
              | true => cases hr1; exact Done.quiet hm rfl ⟨#[p.2, .bool true], rfl, (show RT s σ [(false, [c]), (false, [.bool true])] [p.2, .bool true] from ⟨f2, rfl, trivial⟩)⟩ hrun
              | false => cases hr1; exact Done.quiet hm rfl f2 hrun
        · cases hr
      · cases hr
    · cases hr
  · cases hr
theorem upd_S (t : TypeId) (m k y : Operand) : OpS P (.mapUpdate t m k y) (oUpd P t (gt m) (gt k) (gt y)) := by
  intro s σ nt e a w0 w h v h' oo ho hf hm hr
  unfold oUpd at hr
  split at hr
  · next i hi =>
    have hu := (ti_ok P hi).und
    split at hr
    · next kt vt hd =>
      rw [hd] at hu
      have hr_ := onD_ok hr; clear hr
      obtain ⟨d, hd1, hd2, hr1⟩ := hr_
      have hd : d = .string := by cases d <;> first | rfl | cases hd2
      subst hd
      have hr_ := oneK_ok hr1; clear hr1; obtain ⟨c1, hc1, hr1⟩ := hr_
      have hr_ := mapK_ok hr1; clear hr1; obtain ⟨b, rfl, hr1⟩ := hr_
      have hr_ := oneK_ok hr1; clear hr1; obtain ⟨c2, hc2, hr1⟩ := hr_
      have hr_ := strK_ok hr1; clear hr1; obtain ⟨kk, rfl, hr1⟩ := hr_
      have hr_ := mblkK_ok hr1; clear hr1; obtain ⟨es, hes, hr1⟩ := hr_
      have hr_ := oneK_ok hr1; clear hr1; obtain ⟨c3, hc3, hr1⟩ := hr_
      obtain ⟨x, hx, hmv⟩ := gt_one hf hc1
      have hkv : a.eval k = .string ⟨kk.toArray⟩ := gt_one hf hc2
      have hyv := gt_one hf hc3
      obtain ⟨ents, clock, hx0, hB, hw, hrm⟩ := hm.map hes hx
      obtain ⟨r, g1, g2, g3⟩ := findNow_eq kk 0 hrm
      rw [(updK_eq kk c3 es _ 0).1] at hr1
      cases hr1
      have hfk := findKey_run kt (.string ⟨kk.toArray⟩) ents.toList r w hd1 g1
      have hgo : (getObj x.1).run P w = .ok (.map ents clock) w := by simp [getObj, Sem.run, hw]
      have hso : ∀ o, (setObj x.1 o).run P w = .ok () (setObjW w x.1 o) := fun o => by simp [setObj, Sem.run, hw, setObjW]
      have hck := checkKey_str' (P := P) false kt ⟨kk.toArray⟩ w hd1
      cases hq : r with
      | none =>
        rw [g2.mp hq]
        subst hq
        refine ⟨σ, undef, _, Ext.refl σ, rfl, hm.mapSet (ents := ents.push { key := .string ⟨kk.toArray⟩, val := a.eval y, born := clock }) (clock := clock + 1) hes (by rw [hx, ← hx0]) hB hw ?_, .inr ⟨?_, rfl⟩⟩
        · rw [Array.toList_push]
          exact hrm.push rfl hyv
        · unfold execOp
          rw [ho]
          simp [Instr.mapUpdate, run_underlying hu, hmv, hgo, hck, hkv, hfk, hso]
      | some p =>
        obtain ⟨c, f1, f2, f3, e', f4, f5⟩ := g3 p hq
        rw [f1]
        subst hq
        have hlt : p.1 < ents.size := by
          have := (List.getElem?_eq_some_iff.mp f4).1
          simpa using this
        have hget : ents[p.1]? = some e' := by simpa using f4
        have hst : (Instr.keyThatStays e'.key (.string ⟨kk.toArray⟩)).run P w = .ok (.string ⟨kk.toArray⟩) w := by
          rw [f5]
          have : Instr.sameBits 10000 (.string ⟨kk.toArray⟩) (.string ⟨kk.toArray⟩) = true := by
            show ((⟨kk.toArray⟩ : ByteArray) == ⟨kk.toArray⟩) = true
            rw [bytes_beq]; simp
          simp [Instr.keyThatStays, this]
        refine ⟨σ, undef, _, Ext.refl σ, rfl, hm.mapSet (ents := ents.modify p.1 fun e => { e with key := .string ⟨kk.toArray⟩, val := a.eval y }) (clock := clock) hes (by rw [hx, ← hx0]) hB hw ?_, .inr ⟨?_, rfl⟩⟩
        · have : (ents.modify p.1 fun e => { e with key := .string ⟨kk.toArray⟩, val := a.eval y }).toList = ents.toList.set p.1 { e' with key := .string ⟨kk.toArray⟩, val := a.eval y } := by
            apply List.ext_getElem?
            intro q
            rw [Array.getElem?_toList, Array.getElem?_modify, List.getElem?_set]
            by_cases hqp : p.1 = q
            · subst hqp
              obtain ⟨q1, q2⟩ := Array.getElem?_eq_some_iff.mp hget
              simp [hget, hlt, q2]
            · simp [hqp]
          rw [this]
          exact hrm.set p.1 rfl hyv
        · unfold execOp
          rw [ho]
          simp [Instr.mapUpdate, run_underlying hu, hmv, hgo, hck, hkv, hfk, hso, hget, hst]
    · cases hr
  · cases hr
end
end Go.Proofs.Ytopganainjgmmaa.Ev
