/- What the evaluator's values and memory say of the model's. -/
import Derived.Test.YtopganainjgmmaaEvA
import Derived.Below
import Derived.Deep.MidRow
import Derived.Laws.AppendOwn
namespace Go.Proofs.Ytopganainjgmmaa.Ev
open Go Go.RowKit
set_option linter.unusedVariables false
set_option linter.unusedSimpArgs false

/-- where a block of the evaluator's lies: the block, its size, and how many of its cells are told -/
abbrev Sg := Nat → Option (Nat × Nat × Nat)
def Ext (σ σ' : Sg) : Prop := ∀ b x, σ b = some x → σ' b = some x
theorem Ext.refl (σ : Sg) : Ext σ σ := fun _ _ h => h
theorem Ext.trans {σ σ' σ'' : Sg} (h : Ext σ σ') (h' : Ext σ' σ'') : Ext σ σ'' := fun b x hb => h' b x (h b x hb)

section
variable (s : Nat → Int)
def RC (σ : Sg) : Cell → Value → Prop
  | .bool b, v => v = .bool b
  | .int k n, v => v = .int k n
  | .sym j, v => v = .int .i64 (s j)
  | .str l, v => v = .string ⟨l.toArray⟩
  | .nilp, v => v = .pointer none
  | .ptr b o, v => ∃ x, σ b = some x ∧ v = .pointer (some ⟨x.1, o, none⟩)
  | .nils, v => v = .slice none 0 0
  | .slice b o n sz, v => ∃ x cap, σ b = some x ∧ v = .slice (some ⟨x.1, o, none⟩) n cap ∧ n ≤ cap ∧ o + cap * sz ≤ x.2.1 ∧ x.2.2 ≤ o + cap * sz
  | .map b, v => ∃ x, σ b = some x ∧ v = .map (some x.1)
  | .emp, v => ∃ ad cap, v = .slice (some ad) 0 cap
def RL (σ : Sg) : List Cell → List Value → Prop
  | [], [] => True
  | c :: l, v :: m => RC s σ c v ∧ RL σ l m
  | _, _ => False
def RP (σ : Sg) : List Cell → List Value → Prop
  | [], _ => True
  | c :: l, v :: m => RC s σ c v ∧ RP σ l m
  | _ :: _, [] => False
def RT1 (σ : Sg) : Bool × List Cell → Value → Prop
  | (true, cs), v => ∃ vs, v = .agg vs ∧ RL s σ cs vs.toList
  | (false, [c]), v => RC s σ c v
  | _, _ => False
def RT (σ : Sg) : List (Bool × List Cell) → List Value → Prop
  | [], [] => True
  | p :: l, v :: m => RT1 s σ p v ∧ RT σ l m
  | _, _ => False
def Rv (σ : Sg) : V → Value → Prop
  | .no, _ => False
  | .undef, v => v = undef
  | .one c, v => RC s σ c v
  | .agg l, v => ∃ vs, v = .agg vs ∧ RL s σ l vs.toList
  | .tup l, v => ∃ vs, v = .tuple vs ∧ RT s σ l vs.toList
def RM (σ : Sg) : List (List UInt8 × Cell) → List MapEntry → Prop
  | [], [] => True
  | p :: l, e :: m => (e.key = .string ⟨p.1.toArray⟩ ∧ RC s σ p.2 e.val) ∧ RM σ l m
  | _, _ => False
def RB (σ : Sg) (base : Nat) (w : World) (b : Nat) : Blk → Prop
  | .no => True
  | .cells l => ∃ c arr t, σ b = some (c, arr.size, l.length) ∧ base ≤ c ∧ w.heap[c]? = some (.cells arr t (0, 0)) ∧ RP s σ l arr.toList
  | .ro l => ∃ c arr t fz, σ b = some (c, arr.size, l.length) ∧ base ≤ c ∧ w.heap[c]? = some (.cells arr t fz) ∧ RP s σ l arr.toList
  | .map es => ∃ c ents clock, σ b = some (c, 0, 0) ∧ base ≤ c ∧ w.heap[c]? = some (.map ents clock) ∧ RM s σ es ents.toList
structure Mem (σ : Sg) (w0 : World) (h : H) (w : World) : Prop where
  next : h.next ≤ 65536
  dom : ∀ b x, σ b = some x → b < h.next
  below : Below w0.heap.size w0 w
  blk : ∀ b, RB s σ w0.heap.size w b (h.blk b)
  inj : ∀ b1 b2 x1 x2, h.blk b1 ≠ .no → h.blk b2 ≠ .no → σ b1 = some x1 → σ b2 = some x2 → x1.1 = x2.1 → b1 = b2
structure Fr (σ : Sg) (nt : Nat) (e : E) (a : Act) : Prop where
  defers : a.defers = []
  size : nt ≤ a.tmps.size
  get : ∀ t, (ea t).get e ≠ .no → ∃ x, a.tmps[t]? = some x ∧ Rv s σ ((ea t).get e) x
end

section
variable {s : Nat → Int} {σ σ' : Sg}
theorem RC.ext {c : Cell} {v : Value} (h : RC s σ c v) (he : Ext σ σ') : RC s σ' c v := by
  cases c with
  | ptr b o => obtain ⟨x, h, r⟩ := h; exact ⟨x, he _ _ h, r⟩
  | slice b o n sz => obtain ⟨x, cap, h, r⟩ := h; exact ⟨x, cap, he _ _ h, r⟩
  | map b => obtain ⟨x, h, r⟩ := h; exact ⟨x, he _ _ h, r⟩
  | _ => exact h
theorem RL.ext : ∀ {l : List Cell} {m : List Value}, RL s σ l m → Ext σ σ' → RL s σ' l m
  | [], [], _, _ => trivial
  | c :: l, v :: m, h, he => ⟨h.1.ext he, RL.ext h.2 he⟩
theorem RP.ext : ∀ {l : List Cell} {m : List Value}, RP s σ l m → Ext σ σ' → RP s σ' l m
  | [], _, _, _ => trivial
  | c :: l, v :: m, h, he => ⟨h.1.ext he, RP.ext h.2 he⟩
theorem RT1.ext {p : Bool × List Cell} {v : Value} (h : RT1 s σ p v) (he : Ext σ σ') : RT1 s σ' p v := by
  obtain ⟨b, l⟩ := p
  cases b with
  | true => obtain ⟨vs, e, r⟩ := h; exact ⟨vs, e, r.ext he⟩
  | false =>
    match l, h with
    | [c], h => exact RC.ext (c := c) h he
theorem RT.ext : ∀ {l : List (Bool × List Cell)} {m : List Value}, RT s σ l m → Ext σ σ' → RT s σ' l m
  | [], [], _, _ => trivial
  | c :: l, v :: m, h, he => ⟨h.1.ext he, RT.ext h.2 he⟩
theorem Rv.ext {v : V} {x : Value} (h : Rv s σ v x) (he : Ext σ σ') : Rv s σ' v x := by
  cases v with
  | no => exact h
  | undef => exact h
  | one c => exact RC.ext (c := c) h he
  | agg l => obtain ⟨vs, e, r⟩ := h; exact ⟨vs, e, r.ext he⟩
  | tup l => obtain ⟨vs, e, r⟩ := h; exact ⟨vs, e, r.ext he⟩
theorem RM.ext : ∀ {l : List (List UInt8 × Cell)} {m : List MapEntry}, RM s σ l m → Ext σ σ' → RM s σ' l m
  | [], [], _, _ => trivial
  | c :: l, v :: m, h, he => ⟨⟨h.1.1, h.1.2.ext he⟩, RM.ext h.2 he⟩
theorem Fr.ext {nt : Nat} {e : E} {a : Act} (h : Fr s σ nt e a) (he : Ext σ σ') : Fr s σ' nt e a :=
  ⟨h.defers, h.size, fun t ht => by obtain ⟨x, h1, h2⟩ := h.get t ht; exact ⟨x, h1, h2.ext he⟩⟩

/-! ### rows -/
theorem RL.len : ∀ {l : List Cell} {m : List Value}, RL s σ l m → l.length = m.length
  | [], [], _ => rfl
  | c :: l, v :: m, h => by simp [RL.len h.2]
theorem RP.le : ∀ {l : List Cell} {m : List Value}, RP s σ l m → l.length ≤ m.length
  | [], _, _ => by simp
  | c :: l, v :: m, h => by simpa using RP.le h.2
theorem RP.drop : ∀ {l : List Cell} {m : List Value} (o : Nat), RP s σ l m → RP s σ (skip o l) (m.drop o)
  | l, m, 0, h => h
  | [], m, o + 1, h => by
    show RP s σ (skip o []) _
    have : ∀ o, skip o [] = [] := fun o => by
      induction o with
      | zero => rfl
      | succ o ih => exact ih
    rw [this]; trivial
  | c :: l, v :: m, o + 1, h => RP.drop (l := l) (m := m) o h.2
theorem RL.prefix : ∀ {l : List Cell} {m : List Value} (k : List Value), RL s σ l m → RP s σ l (m ++ k)
  | [], [], k, _ => trivial
  | c :: l, v :: m, k, h => ⟨h.1, RL.prefix k h.2⟩
theorem RL.app : ∀ {l : List Cell} {m : List Value} {l' : List Cell} {m' : List Value}, RL s σ l m → RL s σ l' m' → RL s σ (l ++ l') (m ++ m')
  | [], [], _, _, _, h => h
  | c :: l, v :: m, _, _, h, h' => ⟨h.1, RL.app h.2 h'⟩
theorem RP.full : ∀ {l : List Cell} {m : List Value}, RP s σ l m → RL s σ l (m.take l.length)
  | [], m, _ => by simp [RL]
  | c :: l, v :: m, h => ⟨h.1, RP.full h.2⟩

/-- a cell is one value -/
theorem RC.one {c : Cell} {v : Value} (h : RC s σ c v) : v.cells = #[v] := by
  cases c with
  | ptr b o => obtain ⟨x, _, rfl⟩ := h; rfl
  | slice b o n sz => obtain ⟨x, cap, _, rfl, _⟩ := h; rfl
  | map b => obtain ⟨x, _, rfl⟩ := h; rfl
  | emp => obtain ⟨ad, cap, rfl⟩ := h; rfl
  | _ => cases h; rfl
theorem RC.oneCell {c : Cell} {v : Value} (h : RC s σ c v) : v.oneCell' = true := by
  cases c with
  | ptr b o => obtain ⟨x, _, rfl⟩ := h; rfl
  | slice b o n sz => obtain ⟨x, cap, _, rfl, _⟩ := h; rfl
  | map b => obtain ⟨x, _, rfl⟩ := h; rfl
  | emp => obtain ⟨ad, cap, rfl⟩ := h; rfl
  | _ => cases h; rfl

/-! ### constants -/
theorem ofVal_ok {v : Value} {c : Cell} (h : ofVal v = some c) : RC s σ c v := by
  unfold ofVal at h
  split at h
  all_goals first | (injection h with h; subst h; first | rfl | skip) | cases h
theorem ofVals_ok : ∀ {l : List Value} {cs : List Cell}, ofVals l = some cs → RL s σ cs l
  | [], cs, h => by cases h; trivial
  | v :: l, cs, h => by
    unfold ofVals at h
    split at h
    · next c hc =>
      split at h
      · next cs' hcs => cases h; exact ⟨ofVal_ok hc, ofVals_ok hcs⟩
      · cases h
    · cases h
theorem ofV_ok {v : Value} (h : ofV v ≠ .no) : Rv s σ (ofV v) v := by
  unfold ofV at h ⊢
  split
  · next cs =>
    split
    · next l hl => exact ⟨cs, rfl, ofVals_ok hl⟩
    · next hl => simp [hl] at h
  · next hn =>
    split
    · next c hc => exact ofVal_ok hc
    · next hc => 
      exfalso
      cases v <;> simp_all [ofVal]
end
end Go.Proofs.Ytopganainjgmmaa.Ev
