/- Each operation of the evaluator's is the model's: the ones that leave the memory as it is. -/
import Derived.Test.YtopganainjgmmaaEvB
import Derived.Laws.CopyOwn
namespace Go.Proofs.Ytopganainjgmmaa.Ev
open Go Go.RowKit
set_option linter.unusedVariables false
set_option linter.unusedSimpArgs false

/-! ### what a case answered -/
section
variable {n : Nat} {r : V} {h' : H}
theorem oneK_ok {K : Cell → RV} {v : V} (h : oneK (.bad n) K v = .ok r h') : ∃ c, v = .one c ∧ K c = .ok r h' := by
  cases v <;> first | exact ⟨_, rfl, h⟩ | cases h
theorem aggK_ok {K : List Cell → RV} {v : V} (h : aggK (.bad n) K v = .ok r h') : ∃ c, v = .agg c ∧ K c = .ok r h' := by
  cases v <;> first | exact ⟨_, rfl, h⟩ | cases h
theorem tupK_ok {K : List (Bool × List Cell) → RV} {v : V} (h : tupK (.bad n) K v = .ok r h') : ∃ c, v = .tup c ∧ K c = .ok r h' := by
  cases v <;> first | exact ⟨_, rfl, h⟩ | cases h
theorem cellsK_ok {K : List Cell → RV} {v : V} (h : cellsK (.bad n) K v = .ok r h') : (∃ c, v = .one c ∧ K [c] = .ok r h') ∨ ∃ l, v = .agg l ∧ K l = .ok r h' := by
  cases v with
  | one c => exact .inl ⟨_, rfl, h⟩
  | agg l => exact .inr ⟨_, rfl, h⟩
  | _ => cases h
theorem boolK_ok {K : Bool → RV} {c : Cell} (h : boolK (.bad n) K c = .ok r h') : ∃ b, c = .bool b ∧ K b = .ok r h' := by
  cases c <;> first | exact ⟨_, rfl, h⟩ | cases h
theorem intK_ok {K : IntKind → Int → RV} {c : Cell} (h : intK (.bad n) K c = .ok r h') : ∃ k i, c = .int k i ∧ K k i = .ok r h' := by
  cases c <;> first | exact ⟨_, _, rfl, h⟩ | cases h
theorem strK_ok {K : List UInt8 → RV} {c : Cell} (h : strK (.bad n) K c = .ok r h') : ∃ b, c = .str b ∧ K b = .ok r h' := by
  cases c <;> first | exact ⟨_, rfl, h⟩ | cases h
theorem ptrK_ok {K : Nat → Nat → RV} {c : Cell} (h : ptrK (.bad n) K c = .ok r h') : ∃ b o, c = .ptr b o ∧ K b o = .ok r h' := by
  cases c <;> first | exact ⟨_, _, rfl, h⟩ | cases h
theorem sliceK_ok {K : Nat → Nat → Nat → Nat → RV} {c : Cell} (h : sliceK (.bad n) K c = .ok r h') : ∃ b o m z, c = .slice b o m z ∧ K b o m z = .ok r h' := by
  cases c <;> first | exact ⟨_, _, _, _, rfl, h⟩ | cases h
theorem rowK_ok {Z : RV} {K : Nat → Nat → Nat → Nat → RV} {c : Cell} (h : rowK (.bad n) Z K c = .ok r h') : (c = .nils ∧ Z = .ok r h') ∨ ∃ b o m z, c = .slice b o m z ∧ K b o m z = .ok r h' := by
  cases c with
  | nils => exact .inl ⟨rfl, h⟩
  | slice b o m z => exact .inr ⟨_, _, _, _, rfl, h⟩
  | _ => cases h
theorem mapK_ok {K : Nat → RV} {c : Cell} (h : mapK (.bad n) K c = .ok r h') : ∃ b, c = .map b ∧ K b = .ok r h' := by
  cases c <;> first | exact ⟨_, rfl, h⟩ | cases h
theorem natK_ok {K : Nat → RV} {c : Int} (h : natK (.bad n) K c = .ok r h') : ∃ b : Nat, c = .ofNat b ∧ K b = .ok r h' := by
  cases c <;> first | exact ⟨_, rfl, h⟩ | cases h
theorem blkK_ok {K : List Cell → RV} {c : Blk} (h : blkK (.bad n) K c = .ok r h') : ∃ l, (c = .cells l ∨ c = .ro l) ∧ K l = .ok r h' := by
  cases c with
  | cells l => exact ⟨l, .inl rfl, h⟩
  | ro l => exact ⟨l, .inr rfl, h⟩
  | _ => cases h
theorem wblkK_ok {K : List Cell → RV} {c : Blk} (h : wblkK (.bad n) K c = .ok r h') : ∃ l, c = .cells l ∧ K l = .ok r h' := by
  cases c <;> first | exact ⟨_, rfl, h⟩ | cases h
theorem mblkK_ok {K : List (List UInt8 × Cell) → RV} {c : Blk} (h : mblkK (.bad n) K c = .ok r h') : ∃ l, c = .map l ∧ K l = .ok r h' := by
  cases c <;> first | exact ⟨_, rfl, h⟩ | cases h
theorem someK_ok {α : Type} {K : α → RV} {x : Option α} (h : someK (.bad n) K x = .ok r h') : ∃ a, x = some a ∧ K a = .ok r h' := by
  cases x <;> first | exact ⟨_, rfl, h⟩ | cases h
theorem ite_ok {b : Bool} {x : RV} (h : ite' b x (.bad n) = .ok r h') : b = true ∧ x = .ok r h' := by
  cases b <;> first | exact ⟨rfl, h⟩ | cases h
theorem hdK_ok {K : Cell → RV} {l : List Cell} (h : hdK (.bad n) K l = .ok r h') : ∃ c m, l = c :: m ∧ K c = .ok r h' := by
  cases l <;> first | exact ⟨_, _, rfl, h⟩ | cases h
theorem takeK_ok : ∀ {k : Nat} {l : List Cell} (K : List Cell → RV), takeK (.bad n) k l K = .ok r h' → k ≤ l.length ∧ K (l.take k) = .ok r h'
  | 0, l, K, h => ⟨Nat.zero_le _, by rw [List.take_zero]; exact h⟩
  | k + 1, [], K, h => by cases h
  | k + 1, c :: l, K, h => by
    have := takeK_ok (k := k) (l := l) (fun r => K (c :: r)) h
    exact ⟨by simp; omega, by simpa using this.2⟩
end

section
variable (P : Program)
/-! ### types -/
theorem aggD_eq (d : TypeDesc) : aggD d = d.isRow := by cases d <;> rfl
structure TiOk (t : TypeId) (i : TI) : Prop where
  info : ∃ f, P.info? t = some f ∧ f.size = i.size ∧ f.bytes = i.bytes ∧ ∀ z, i.zero = some z → ∃ zv, f.zero = some zv ∧ ∀ s σ, RL s σ z zv.cells.toList ∧ ∃ v, ofV zv = v ∧ cellsOf v = some z
  zone : ∀ c, i.zone = some c → ∃ f zv, P.info? t = some f ∧ f.zero = some zv ∧ ofV zv = .one c
  und : P.underlying t = some i.desc
  agg : i.agg = i.desc.isRow
theorem ofV_cells {s : Nat → Int} {σ : Sg} {v : Value} {l : List Cell} (h : cellsOf (ofV v) = some l) : RL s σ l v.cells.toList := by
  have h1 : ofV v ≠ .no := fun e => by rw [e] at h; cases h
  have h2 := ofV_ok (s := s) (σ := σ) h1
  generalize hq : ofV v = q at h h2
  cases q with
  | one c => cases h; rw [RC.one (c := c) h2]; exact ⟨h2, trivial⟩
  | agg m =>
    cases h
    obtain ⟨vs, rfl, hr⟩ := h2
    exact hr
  | _ => cases h
theorem ti_ok {t : TypeId} {i : TI} (h : ti P t = some i) : TiOk P t i := by
  unfold ti at h
  split at h
  · next f hf =>
    split at h
    · next d hd =>
      injection h with h
      subst h
      refine ⟨⟨f, hf, rfl, rfl, fun z hz => ?_⟩, fun c hz => ?_, hd, aggD_eq d⟩
      rotate_left
      · dsimp only at hz
        split at hz
        · next zv hzv =>
          split at hz
          · next c' hc' => cases hz; exact ⟨f, zv, hf, hzv, hc'⟩
          · cases hz
        · cases hz
      dsimp only at hz
      split at hz
      · next zv hzv => exact ⟨zv, hzv, fun s σ => ⟨ofV_cells hz, _, rfl, hz⟩⟩
      · cases hz
    · cases h
  · cases h
end

section
variable {s : Nat → Int} {σ : Sg} {nt : Nat} {e : E} {a : Act} {w0 w : World} {h : H}
/-! ### operands -/
theorem gt_ok (hf : Fr s σ nt e a) (x : Operand) (hx : (gt x).f e ≠ .no) : Rv s σ ((gt x).f e) (a.eval x) := by
  cases x with
  | tmp t =>
    obtain ⟨v, h1, h2⟩ := hf.get t hx
    have : a.eval (.tmp t) = v := by simp [Act.eval, h1]
    rw [this]; exact h2
  | const v => exact ofV_ok hx
  | _ => exact absurd rfl hx
theorem gt_one (hf : Fr s σ nt e a) {x : Operand} {c : Cell} (hx : (gt x).f e = .one c) : RC s σ c (a.eval x) := by
  have := gt_ok hf x (by rw [hx]; intro h; cases h)
  rw [hx] at this; exact this
/-- a value's cells -/
theorem gt_cells (hf : Fr s σ nt e a) {x : Operand} {l : List Cell} (hx : cellsOf ((gt x).f e) = some l) : RL s σ l (a.eval x).cells.toList := by
  have h1 : (gt x).f e ≠ .no := fun h => by rw [h] at hx; cases hx
  have h2 := gt_ok hf x h1
  generalize (gt x).f e = q at hx h2
  cases q with
  | one c => cases hx; rw [RC.one (c := c) h2]; exact ⟨h2, trivial⟩
  | agg m =>
    cases hx
    obtain ⟨vs, h, hr⟩ := h2
    rw [h]; exact hr
  | _ => cases hx

/-! ### reading -/
theorem Mem.rd (hm : Mem s σ w0 h w) {b : Nat} {l : List Cell} (hb : h.blk b = .cells l ∨ h.blk b = .ro l) {x : Nat × Nat × Nat} (hx : σ b = some x) :
    ∃ arr t fz, w.heap[x.1]? = some (.cells arr t fz) ∧ arr.size = x.2.1 ∧ l.length = x.2.2 ∧ RP s σ l arr.toList := by
  have := hm.blk b
  rcases hb with hb | hb
  · rw [hb] at this
    obtain ⟨c, arr, t, h1, _, h2, h3⟩ := this
    rw [hx] at h1; injection h1 with h1; subst h1
    exact ⟨arr, t, _, h2, rfl, rfl, h3⟩
  · rw [hb] at this
    obtain ⟨c, arr, t, fz, h1, _, h2, h3⟩ := this
    rw [hx] at h1; injection h1 with h1; subst h1
    exact ⟨arr, t, _, h2, rfl, rfl, h3⟩
theorem skip_eq (o : Nat) (l : List Cell) : skip o l = l.drop o := by
  induction o generalizing l with
  | zero => rfl
  | succ o ih =>
    show skip o (tl l) = _
    rw [ih]
    cases l with
    | nil => simp [tl]
    | cons c l => rfl
theorem RP.dropL {l : List Cell} {m : List Value} (o : Nat) (h : RP s σ l m) : RP s σ (l.drop o) (m.drop o) := by
  rw [← skip_eq]; exact h.drop o
theorem Mem.cell (hm : Mem s σ w0 h w) {b o : Nat} {l m : List Cell} {c : Cell} (hb : h.blk b = .cells l ∨ h.blk b = .ro l) {x : Nat × Nat × Nat} (hx : σ b = some x) (hl : skip o l = c :: m) :
    ∃ v, w.cell? ⟨x.1, o, none⟩ = some v ∧ RC s σ c v := by
  obtain ⟨arr, t, fz, h1, _, _, h2⟩ := hm.rd hb hx
  have h3 := h2.drop o
  rw [hl] at h3
  generalize hd : arr.toList.drop o = d at h3
  cases d with
  | nil => cases h3
  | cons v d =>
    refine ⟨v, ?_, h3.1⟩
    rw [cell_of_row w x.1 o arr t fz h1]
    have := congrArg (fun l => l[0]?) hd
    simpa using this
/-- a row of cells -/
theorem Mem.row (hm : Mem s σ w0 h w) {b o n : Nat} {l : List Cell} (hb : h.blk b = .cells l ∨ h.blk b = .ro l) {x : Nat × Nat × Nat} (hx : σ b = some x) (hl : n ≤ (skip o l).length) :
    ∃ vs, w.rangeAt x.1 o vs ∧ RL s σ ((skip o l).take n) vs ∧ vs.length = n := by
  obtain ⟨arr, t, fz, h1, _, _, h2⟩ := hm.rd hb hx
  have h3 := h2.drop o
  have h4 : ∀ {l : List Cell} {m : List Value} (n : Nat), RP s σ l m → n ≤ l.length → RL s σ (l.take n) (m.take n) ∧ (m.take n).length = n := by
    intro l m n
    induction n generalizing l m with
    | zero => intro _ _; simp [RL]
    | succ n ih =>
      intro hr hn
      match l, m, hr with
      | c :: l, v :: m, hr =>
        have := ih hr.2 (by simpa using hn)
        exact ⟨⟨hr.1, this.1⟩, by simpa using this.2⟩
      | [], _, _ => simp at hn
  obtain ⟨h5, h6⟩ := h4 n h3 hl
  refine ⟨_, fun j v hv => ?_, h5, h6⟩
  rw [cell_of_row w x.1 (o + j) arr t fz h1]
  rw [List.getElem?_take] at hv
  split at hv
  · rw [List.getElem?_drop] at hv; simpa using hv
  · cases hv
end
end Go.Proofs.Ytopganainjgmmaa.Ev
