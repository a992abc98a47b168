/- What an operation of the evaluator's reads, and what it leaves. -/
import Derived.Test.YtopganainjgmmaaEvK
namespace Go.Proofs.Ytopganainjgmmaa.Ev
open Go Go.RowKit
set_option linter.unusedVariables false
set_option linter.unusedSimpArgs false

/-! ### the slots read -/
def Agr (e e' : E) (l : List Nat) : Prop := ∀ t, t ∈ l → (ea t).get e = (ea t).get e'
section
variable {P : Program} {e e' : E}
theorem Agr.left {l m : List Nat} (h : Agr e e' (l ++ m)) : Agr e e' l := fun t ht => h t (List.mem_append_left _ ht)
theorem Agr.right {l m : List Nat} (h : Agr e e' (l ++ m)) : Agr e e' m := fun t ht => h t (List.mem_append_right _ ht)
theorem gt_agr {x : Operand} (h : Agr e e' (oT x)) : (gt x).f e = (gt x).f e' := by
  cases x with
  | tmp t => exact h t (by simp [oT])
  | _ => rfl
theorem bnd_agr {x : Option Operand} {d : Nat} {K : Nat → RV} (h : Agr e e' (oO x)) : bnd e (gto x) d K = bnd e' (gto x) d K := by
  cases x with
  | none => rfl
  | some x =>
    have h1 := gt_agr (x := x) h
    show oneK (.bad 157) (intK (.bad 158) fun _ n => natK (.bad 159) K n) ((gt x).f e) = oneK (.bad 157) (intK (.bad 158) fun _ n => natK (.bad 159) K n) ((gt x).f e')
    rw [h1]
theorem fill_agr {F : RV} : ∀ {ps : List Part} (hp : ∀ p, p ∈ ps → p.get.f e = p.get.f e') (cs : List Cell) (K : List Cell → RV), fill e F ps cs K = fill e' F ps cs K
  | [], _, _, _ => rfl
  | p :: ps, hp, cs, K => by
    have h1 := hp p (by simp)
    show cellsK F (fun vs => ite' (Nat.beq (len vs) p.size) (put F vs p.off cs fun cs' => fill e F ps cs' K) F) (p.get.f e) = cellsK F (fun vs => ite' (Nat.beq (len vs) p.size) (put F vs p.off cs fun cs' => fill e' F ps cs' K) F) (p.get.f e')
    rw [h1]
    congr 1
    funext vs
    congr 2
    funext cs'
    exact fill_agr (fun q hq => hp q (by simp [hq])) cs' K
theorem parts_agr {pl : Nat → Option (Nat × Nat)} : ∀ {l : List (Nat × Operand)} {ps : List Part}, partsOf pl l = some ps → Agr e e' (l.flatMap fun p => oT p.2) → ∀ p, p ∈ ps → p.get.f e = p.get.f e'
  | [], ps, h, ha, p, hp => by cases h; cases hp
  | (i, x) :: l, ps, h, ha, p, hp => by
    unfold partsOf at h
    split at h
    · split at h
      · next r hr =>
        cases h
        rw [List.flatMap_cons] at ha
        rcases List.mem_cons.mp hp with rfl | hp
        · exact gt_agr ha.left
        · exact parts_agr hr ha.right p hp
      · cases h
    · cases h
theorem args_agr {F : RV} : ∀ {l : List Operand} {K : List V → RV}, Agr e e' (l.flatMap oT) → argsK e F (l.map gt) K = argsK e' F (l.map gt) K
  | [], K, _ => rfl
  | x :: l, K, h => by
    rw [List.flatMap_cons] at h
    have h1 := gt_agr h.left
    have ih := fun K => args_agr (F := F) (l := l) (K := K) h.right
    show V.rec (motive := fun _ => RV) F F (fun c => argsK e F (l.map gt) fun r => K (.one c :: r)) (fun c => argsK e F (l.map gt) fun r => K (.agg c :: r)) (fun c => argsK e F (l.map gt) fun r => K (.tup c :: r)) ((gt x).f e) = V.rec (motive := fun _ => RV) F F (fun c => argsK e' F (l.map gt) fun r => K (.one c :: r)) (fun c => argsK e' F (l.map gt) fun r => K (.agg c :: r)) (fun c => argsK e' F (l.map gt) fun r => K (.tup c :: r)) ((gt x).f e')
    simp only [h1, ih]
theorem op1_agr {o : Op} {h : H} (ha : Agr e e' (opTmps o)) : (op1 P o).f e h = (op1 P o).f e' h := by
  cases o with
  | move x => have h1 := gt_agr (x := x) ha; show (oMove (gt x)).f e h = (oMove (gt x)).f e' h; unfold oMove; simp only [h1]
  | assign x => have h1 := gt_agr (x := x) ha; show (oMove (gt x)).f e h = (oMove (gt x)).f e' h; unfold oMove; simp only [h1]
  | pick c x y =>
    have h1 := gt_agr (x := c) ha.left
    have h2 := gt_agr (x := x) ha.right.left
    have h3 := gt_agr (x := y) ha.right.right
    show (oPick (gt c) (gt x) (gt y)).f e h = (oPick (gt c) (gt x) (gt y)).f e' h
    unfold oPick oMove
    simp only [h1, h2, h3]
  | alloc t =>
    show (match ti P t with
      | some i => oAlloc i.zero
      | none => ⟨fun _ _ => .bad 250⟩ : OpF).f e h = (match ti P t with
      | some i => oAlloc i.zero
      | none => ⟨fun _ _ => .bad 250⟩ : OpF).f e' h
    split
    · next i hi =>
      unfold oAlloc
      split <;> rfl
    · rfl
  | box t x => have h1 := gt_agr (x := x) ha; show (oBox (gt x)).f e h = (oBox (gt x)).f e' h; unfold oBox; simp only [h1]
  | build t parts =>
    show (oBuild P t parts.toList).f e h = (oBuild P t parts.toList).f e' h
    unfold oBuild
    repeat' split
    all_goals first
      | rfl
      | (next hp => dsimp only; exact fill_agr (parts_agr hp ha) _ _)
  | buildSlice t n parts =>
    show (oLit P t n parts.toList).f e h = (oLit P t n parts.toList).f e' h
    unfold oLit
    repeat' split
    all_goals first
      | rfl
      | (next hp => dsimp only; exact fill_agr (parts_agr hp ha) _ _)
  | load t x => have h1 := gt_agr (x := x) ha; show (oLoad P t (gt x)).f e h = (oLoad P t (gt x)).f e' h; unfold oLoad; repeat' split
                all_goals first | rfl | simp only [h1]
  | store t x y =>
    have h1 := gt_agr (x := x) ha.left
    have h2 := gt_agr (x := y) ha.right
    show (oStore P t (gt x) (gt y)).f e h = (oStore P t (gt x) (gt y)).f e' h
    unfold oStore
    repeat' split
    all_goals first | rfl | simp only [h1, h2]
  | nilCheck x => have h1 := gt_agr (x := x) ha; show (oNil (gt x)).f e h = (oNil (gt x)).f e' h; unfold oNil; simp only [h1]
  | binOp op t x y t2 =>
    have h1 := gt_agr (x := x) ha.left
    have h2 := gt_agr (x := y) ha.right
    show (oBin P op t (gt x) (gt y)).f e h = (oBin P op t (gt x) (gt y)).f e' h
    unfold oBin
    simp only [h1, h2]
  | unOp op t x => have h1 := gt_agr (x := x) ha; show (oUn op (gt x)).f e h = (oUn op (gt x)).f e' h; unfold oUn; repeat' split
                   all_goals first | rfl | simp only [h1]
  | convert sr d x => have h1 := gt_agr (x := x) ha; show (oConv P sr d (gt x)).f e h = (oConv P sr d (gt x)).f e' h; unfold oConv; repeat' split
                      all_goals first | rfl | simp only [h1]
  | slice t x lo hi mx =>
    cases mx with
    | none =>
      have h1 := gt_agr (x := x) ha.left
      have h2 : ∀ d K, bnd e (gto lo) d K = bnd e' (gto lo) d K := fun d K => bnd_agr ha.right.left
      have h3 : ∀ d K, bnd e (gto hi) d K = bnd e' (gto hi) d K := fun d K => bnd_agr ha.right.right
      show (oSlice P t x lo hi).f e h = (oSlice P t x lo hi).f e' h
      unfold oSlice
      repeat' split
      all_goals first | rfl | simp only [h1, h2, h3]
    | some _ => rfl
  | fieldAddr t x f => have h1 := gt_agr (x := x) ha; show (oField P t (gt x) f).f e h = (oField P t (gt x) f).f e' h; unfold oField; repeat' split
                       all_goals first | rfl | simp only [h1]
  | field t x f => have h1 := gt_agr (x := x) ha; show (oFld P t (gt x) f).f e h = (oFld P t (gt x) f).f e' h; unfold oFld; repeat' split
                   all_goals first | rfl | simp only [h1]
  | indexAddr t x i =>
    have h1 := gt_agr (x := x) ha.left
    have h2 := gt_agr (x := i) ha.right
    show (oIndex P t (gt x) (gt i)).f e h = (oIndex P t (gt x) (gt i)).f e' h
    unfold oIndex
    repeat' split
    all_goals first | rfl | simp only [h1, h2]
  | index t x i =>
    have h1 := gt_agr (x := x) ha.left
    have h2 := gt_agr (x := i) ha.right
    show (oIdx P t (gt x) (gt i)).f e h = (oIdx P t (gt x) (gt i)).f e' h
    unfold oIdx
    simp only [h1, h2]
  | extract x i => have h1 := gt_agr (x := x) ha; show (oExt (gt x) i).f e h = (oExt (gt x) i).f e' h; unfold oExt; simp only [h1]
  | makeMap t r => cases r <;> rfl
  | lookup t m k ok =>
    have h1 := gt_agr (x := m) ha.left
    have h2 := gt_agr (x := k) ha.right
    show (oLook P t (gt m) (gt k) ok).f e h = (oLook P t (gt m) (gt k) ok).f e' h
    unfold oLook
    repeat' split
    all_goals first | rfl | simp only [h1, h2]
  | mapUpdate t m k y =>
    have h1 := gt_agr (x := m) ha.left
    have h2 := gt_agr (x := k) ha.right.left
    have h3 := gt_agr (x := y) ha.right.right
    show (oUpd P t (gt m) (gt k) (gt y)).f e h = (oUpd P t (gt m) (gt k) (gt y)).f e' h
    unfold oUpd
    repeat' split
    all_goals first | rfl | simp only [h1, h2, h3]
  | call c =>
    show (match c.callee with
      | .builtin b => oBuiltin P b c.args.toList c.argTypes.toList
      | _ => ⟨fun _ _ => .bad 251⟩ : OpF).f e h = (match c.callee with
      | .builtin b => oBuiltin P b c.args.toList c.argTypes.toList
      | _ => ⟨fun _ _ => .bad 251⟩ : OpF).f e' h
    have ha' : Agr e e' (c.args.toList.flatMap oT) := ha
    split
    · next b hb =>
      unfold oBuiltin
      split
      · split
        · next x hx =>
          rw [hx] at ha'
          have h1 := gt_agr (x := x) (by simpa using ha')
          split
          · unfold oLen; repeat' split
            all_goals first | rfl | simp only [h1]
          · rfl
        · rfl
      · split
        · next x y hx =>
          rw [hx] at ha'
          have ha2 : Agr e e' (oT x ++ oT y) := by simpa using ha'
          have h1 := gt_agr (x := x) ha2.left
          have h2 := gt_agr (x := y) ha2.right
          split
          · unfold oApp; repeat' split
            all_goals first | rfl | simp only [h1, h2]
          · rfl
        · rfl
      · rfl
    · rfl
  | _ => rfl
theorem opI_agr {o : Op} {run : Run} {h : H} (ha : Agr e e' (opTmps o)) : opI P o run e h = opI P o run e' h := by
  cases o with
  | call c =>
    have h1 := op1_agr (P := P) (h := h) ha
    unfold opI
    dsimp only
    cases hc : c.callee with
    | value x =>
      cases x with
      | func f => exact args_agr (l := c.args.toList) ha
      | _ => exact h1
    | _ => exact h1
  | _ => exact op1_agr ha

end

/-! ### the memory left as it is -/
def Sim (h h2 : H) (r r2 : RV) : Prop := (∃ v, r = .ok v h ∧ r2 = .ok v h2) ∨ ∃ n m, r = .bad n ∧ r2 = .bad m
section
variable {h h2 : H} {n m : Nat}
theorem sim_ok (v : V) : Sim h h2 (.ok v h) (.ok v h2) := .inl ⟨v, rfl, rfl⟩
theorem sim_bad : Sim h h2 (.bad n) (.bad m) := .inr ⟨n, m, rfl, rfl⟩
theorem sim_oneK {K K2 : Cell → RV} {v : V} (hk : ∀ c, Sim h h2 (K c) (K2 c)) : Sim h h2 (oneK (.bad n) K v) (oneK (.bad m) K2 v) := by
  cases v <;> first | exact hk _ | exact sim_bad
theorem sim_aggK {K K2 : List Cell → RV} {v : V} (hk : ∀ c, Sim h h2 (K c) (K2 c)) : Sim h h2 (aggK (.bad n) K v) (aggK (.bad m) K2 v) := by
  cases v <;> first | exact hk _ | exact sim_bad
theorem sim_tupK {K K2 : List (Bool × List Cell) → RV} {v : V} (hk : ∀ c, Sim h h2 (K c) (K2 c)) : Sim h h2 (tupK (.bad n) K v) (tupK (.bad m) K2 v) := by
  cases v <;> first | exact hk _ | exact sim_bad
theorem sim_cellsK {K K2 : List Cell → RV} {v : V} (hk : ∀ c, Sim h h2 (K c) (K2 c)) : Sim h h2 (cellsK (.bad n) K v) (cellsK (.bad m) K2 v) := by
  cases v <;> first | exact hk _ | exact sim_bad
theorem sim_boolK {K K2 : Bool → RV} {c : Cell} (hk : ∀ b, Sim h h2 (K b) (K2 b)) : Sim h h2 (boolK (.bad n) K c) (boolK (.bad m) K2 c) := by
  cases c <;> first | exact hk _ | exact sim_bad
theorem sim_intK {K K2 : IntKind → Int → RV} {c : Cell} (hk : ∀ k i, Sim h h2 (K k i) (K2 k i)) : Sim h h2 (intK (.bad n) K c) (intK (.bad m) K2 c) := by
  cases c <;> first | exact hk _ _ | exact sim_bad
theorem sim_strK {K K2 : List UInt8 → RV} {c : Cell} (hk : ∀ l, Sim h h2 (K l) (K2 l)) : Sim h h2 (strK (.bad n) K c) (strK (.bad m) K2 c) := by
  cases c <;> first | exact hk _ | exact sim_bad
theorem sim_ptrK {K K2 : Nat → Nat → RV} {c : Cell} (hk : ∀ b o, Sim h h2 (K b o) (K2 b o)) : Sim h h2 (ptrK (.bad n) K c) (ptrK (.bad m) K2 c) := by
  cases c <;> first | exact hk _ _ | exact sim_bad
theorem sim_sliceK {K K2 : Nat → Nat → Nat → Nat → RV} {c : Cell} (hk : ∀ a b d e, Sim h h2 (K a b d e) (K2 a b d e)) : Sim h h2 (sliceK (.bad n) K c) (sliceK (.bad m) K2 c) := by
  cases c <;> first | exact hk _ _ _ _ | exact sim_bad
theorem sim_rowK {Z Z2 : RV} {K K2 : Nat → Nat → Nat → Nat → RV} {c : Cell} (hz : Sim h h2 Z Z2) (hk : ∀ a b d e, Sim h h2 (K a b d e) (K2 a b d e)) : Sim h h2 (rowK (.bad n) Z K c) (rowK (.bad m) Z2 K2 c) := by
  cases c <;> first | exact hk _ _ _ _ | exact hz | exact sim_bad
theorem sim_rowEK {Z Z2 : RV} {K K2 : Nat → Nat → Nat → Nat → RV} {c : Cell} (hz : Sim h h2 Z Z2) (hk : ∀ a b d e, Sim h h2 (K a b d e) (K2 a b d e)) : Sim h h2 (rowEK (.bad n) Z K c) (rowEK (.bad m) Z2 K2 c) := by
  cases c <;> first | exact hk _ _ _ _ | exact hz | exact sim_bad
theorem sim_mapK {K K2 : Nat → RV} {c : Cell} (hk : ∀ a, Sim h h2 (K a) (K2 a)) : Sim h h2 (mapK (.bad n) K c) (mapK (.bad m) K2 c) := by
  cases c <;> first | exact hk _ | exact sim_bad
theorem sim_natK {K K2 : Nat → RV} {i : Int} (hk : ∀ a, Sim h h2 (K a) (K2 a)) : Sim h h2 (natK (.bad n) K i) (natK (.bad m) K2 i) := by
  cases i <;> first | exact hk _ | exact sim_bad
theorem sim_someK {α : Type} {Z Z2 : RV} {K K2 : α → RV} {x : Option α} (hz : Sim h h2 Z Z2) (hk : ∀ a, Sim h h2 (K a) (K2 a)) : Sim h h2 (someK Z K x) (someK Z2 K2 x) := by
  cases x <;> first | exact hk _ | exact hz
theorem sim_hdK {K K2 : Cell → RV} {l : List Cell} (hk : ∀ a, Sim h h2 (K a) (K2 a)) : Sim h h2 (hdK (.bad n) K l) (hdK (.bad m) K2 l) := by
  cases l <;> first | exact hk _ | exact sim_bad
theorem sim_ite {b : Bool} {x y x2 y2 : RV} (hx : Sim h h2 x x2) (hy : Sim h h2 y y2) : Sim h h2 (ite' b x y) (ite' b x2 y2) := by
  cases b <;> first | exact hx | exact hy
theorem sim_fN {k : Nat} {K K2 : Nat → RV} (hk : ∀ a, Sim h h2 (K a) (K2 a)) : Sim h h2 (fN k K) (fN k K2) := by rw [fN_eq, fN_eq]; exact hk _
theorem sim_fI {k : Int} {K K2 : Int → RV} (hk : ∀ a, Sim h h2 (K a) (K2 a)) : Sim h h2 (fI k K) (fI k K2) := by rw [fI_eq, fI_eq]; exact hk _
theorem sim_fB {k : Bool} {K K2 : Bool → RV} (hk : ∀ a, Sim h h2 (K a) (K2 a)) : Sim h h2 (fB k K) (fB k K2) := by rw [fB_eq, fB_eq]; exact hk _
theorem sim_fW {k : IntKind} {i : Int} {K K2 : Int → RV} (hk : ∀ a, Sim h h2 (K a) (K2 a)) : Sim h h2 (fW k i K) (fW k i K2) := by rw [fW_eq, fW_eq]; exact hk _
theorem sim_fL {α : Type} {l : List α} {K K2 : List α → RV} (hk : ∀ a, Sim h h2 (K a) (K2 a)) : Sim h h2 (fL l K) (fL l K2) := by rw [fL_eq, fL_eq]; exact hk _
theorem sim_take : ∀ {k : Nat} {l : List Cell} {K K2 : List Cell → RV}, (∀ a, Sim h h2 (K a) (K2 a)) → Sim h h2 (takeK (.bad n) k l K) (takeK (.bad m) k l K2)
  | 0, l, K, K2, hk => hk _
  | k + 1, [], K, K2, hk => sim_bad
  | k + 1, c :: l, K, K2, hk => sim_take (k := k) (l := l) fun a => hk _
theorem sim_over : ∀ {vs l : List Cell} {K K2 : List Cell → RV}, (∀ a, Sim h h2 (K a) (K2 a)) → Sim h h2 (over (.bad n) vs l K) (over (.bad m) vs l K2)
  | [], l, K, K2, hk => hk _
  | v :: vs, [], K, K2, hk => sim_bad
  | v :: vs, c :: l, K, K2, hk => sim_over (vs := vs) (l := l) fun a => hk _
theorem sim_put {vs : List Cell} : ∀ {o : Nat} {l : List Cell} {K K2 : List Cell → RV}, (∀ a, Sim h h2 (K a) (K2 a)) → Sim h h2 (put (.bad n) vs o l K) (put (.bad m) vs o l K2)
  | 0, l, K, K2, hk => sim_over hk
  | o + 1, [], K, K2, hk => sim_bad
  | o + 1, c :: l, K, K2, hk => sim_put (o := o) (l := l) fun a => hk _
theorem sim_fill {e : E} : ∀ {ps : List Part} {cs : List Cell} {K K2 : List Cell → RV}, (∀ a, Sim h h2 (K a) (K2 a)) → Sim h h2 (fill e (.bad n) ps cs K) (fill e (.bad m) ps cs K2)
  | [], cs, K, K2, hk => hk _
  | p :: ps, cs, K, K2, hk => by
    show Sim h h2 (cellsK (.bad n) (fun vs => ite' (Nat.beq (len vs) p.size) (put (.bad n) vs p.off cs fun cs' => fill e (.bad n) ps cs' K) (.bad n)) (p.get.f e)) (cellsK (.bad m) (fun vs => ite' (Nat.beq (len vs) p.size) (put (.bad m) vs p.off cs fun cs' => fill e (.bad m) ps cs' K2) (.bad m)) (p.get.f e))
    exact sim_cellsK fun vs => sim_ite (sim_put fun cs' => sim_fill (ps := ps) hk) sim_bad
theorem sim_bnd {e : E} {x : Option Get} {d : Nat} {K K2 : Nat → RV} (hk : ∀ a, Sim h h2 (K a) (K2 a)) : Sim h h2 (bnd e x d K) (bnd e x d K2) :=
  sim_someK (hk _) fun _ => sim_oneK fun _ => sim_intK fun _ _ => sim_natK hk
end
section
variable {P : Program} {h h2 : H}
theorem sim_move {x : Get} {e : E} : Sim h h2 ((oMove x).f e h) ((oMove x).f e h2) := by
  unfold oMove
  dsimp only
  cases x.f e <;> first | exact sim_ok _ | exact sim_bad
theorem sim_boolR {b : Bool} : Sim h h2 (boolR b h) (boolR b h2) := by
  unfold boolR
  exact sim_fB fun _ => sim_ok _
theorem sim_intR {k : IntKind} {i : Int} : Sim h h2 (intR k i h) (intR k i h2) := by
  unfold intR
  exact sim_fW fun _ => sim_ok _
theorem sim_eqR {op : BinOp} {r : Bool} : Sim h h2 (eqR op r h) (eqR op r h2) := by
  cases op <;> first | exact sim_bad | exact sim_boolR
theorem sim_strOp {op : BinOp} {a b : List UInt8} : Sim h h2 (strOp op a b h) (strOp op a b h2) := by
  cases op with
  | add =>
    show Sim h h2 (fL (a ++ b) fun l => ite' (Nat.ble (len l) 1000000000) (.ok (.one (.str l)) h) (.bad 2)) (fL (a ++ b) fun l => ite' (Nat.ble (len l) 1000000000) (.ok (.one (.str l)) h2) (.bad 2))
    exact sim_fL fun _ => sim_ite (sim_ok _) sim_bad
  | eql => exact sim_boolR
  | neq => exact sim_boolR
  | _ => exact sim_bad
theorem sim_intOp {op : BinOp} {k : IntKind} {a b : Int} : Sim h h2 ((intOp op).f k a b h) ((intOp op).f k a b h2) := by
  cases op with
  | rem =>
    show Sim h h2 (ite' (intEq b (.ofNat 0)) (.bad 21) (fI (Int.tmod a b) fun n => .ok (.one (.int k n)) h)) (ite' (intEq b (.ofNat 0)) (.bad 21) (fI (Int.tmod a b) fun n => .ok (.one (.int k n)) h2))
    exact sim_ite sim_bad (sim_fI fun _ => sim_ok _)
  | quo =>
    show Sim h h2 (ite' (intEq b (.ofNat 0)) (.bad 20) (intR k (Int.tdiv a b) h)) (ite' (intEq b (.ofNat 0)) (.bad 20) (intR k (Int.tdiv a b) h2))
    exact sim_ite sim_bad sim_intR
  | add => exact sim_intR
  | sub => exact sim_intR
  | mul => exact sim_intR
  | eql => exact sim_boolR
  | neq => exact sim_boolR
  | lss => exact sim_boolR
  | leq => exact sim_boolR
  | gtr => exact sim_boolR
  | geq => exact sim_boolR
  | _ => exact sim_bad
theorem sim_onD {p : TypeDesc → Bool} {t : TypeId} {n : Nat} {r r2 : RV} (hr : Sim h h2 r r2) : Sim h h2 (onD P p t n r) (onD P p t n r2) := sim_ite hr sim_bad
theorem sim_bin {op : BinOp} {t : TypeId} {x y : Cell} : Sim h h2 (bin P op t x y h) (bin P op t x y h2) := by
  cases x with
  | bool a => exact sim_boolK fun _ => sim_onD sim_eqR
  | int k a => exact sim_intK fun _ _ => sim_ite sim_intOp sim_bad
  | sym j => exact sim_bad
  | str a => exact sim_strK fun _ => sim_strOp
  | nilp => cases y <;> first | exact sim_bad | exact sim_onD sim_eqR
  | ptr b o => cases y <;> first | exact sim_bad | exact sim_onD sim_eqR
  | nils => exact sim_rowK (sim_onD sim_eqR) fun _ _ _ _ => sim_bad
  | slice a b c d => exact sim_rowK (sim_onD sim_eqR) fun _ _ _ _ => sim_bad
  | map b => exact sim_bad
  | emp => exact sim_bad
theorem sim_byteR {l : List UInt8} : Sim h h2 (byteR l h) (byteR l h2) := by
  cases l with
  | nil => exact sim_bad
  | cons b l =>
    show Sim h h2 (fN b.toNat fun n => .ok (.one (.int .u8 (.ofNat n))) h) (fN b.toNat fun n => .ok (.one (.int .u8 (.ofNat n))) h2)
    exact sim_fN fun _ => sim_ok _
theorem pure_sim {o : Op} (hp : pureO P o = true) (e : E) : Sim h h2 ((op1 P o).f e h) ((op1 P o).f e h2) := by
  cases o with
  | move x => exact sim_move
  | assign x => exact sim_move
  | pick c x y => exact sim_oneK fun _ => sim_boolK fun _ => sim_ite sim_move sim_move
  | nilCheck x => exact sim_oneK fun _ => sim_ptrK fun _ _ => sim_ok _
  | binOp op t x y t2 => exact sim_oneK fun _ => sim_oneK fun _ => sim_bin
  | unOp op t x =>
    show Sim h h2 ((oUn op (gt x)).f e h) ((oUn op (gt x)).f e h2)
    unfold oUn
    split
    · exact sim_oneK fun _ => sim_boolK fun _ => sim_boolR
    · exact sim_oneK fun _ => sim_intK fun _ _ => sim_intR
    · exact sim_bad
  | convert sr d x =>
    show Sim h h2 ((oConv P sr d (gt x)).f e h) ((oConv P sr d (gt x)).f e h2)
    have hi : isIntT P d = true := hp
    unfold isIntT at hi
    unfold oConv
    split
    · split
      · next di hdi =>
        rw [hdi] at hi
        dsimp only at hi
        split at hi
        · next k hk =>
          split
          · exact sim_oneK fun _ => sim_intK fun _ _ => sim_intR
          · next hd => rw [hk] at hd; cases hd
          · exact sim_bad
        · cases hi
      · exact sim_bad
    · exact sim_bad
  | slice t x lo hi mx =>
    cases mx with
    | some _ => exact sim_bad
    | none =>
      show Sim h h2 ((oSlice P t x lo hi).f e h) ((oSlice P t x lo hi).f e h2)
      unfold oSlice
      repeat' split
      all_goals dsimp only
      all_goals try unfold cutStr
      all_goals try unfold cutRow
      all_goals (repeat' first | exact sim_ok _ | exact sim_bad | refine sim_oneK fun _ => ?_ | refine sim_aggK fun _ => ?_ | refine sim_tupK fun _ => ?_ | refine sim_cellsK fun _ => ?_ | refine sim_boolK fun _ => ?_ | refine sim_intK fun _ _ => ?_ | refine sim_strK fun _ => ?_ | refine sim_ptrK fun _ _ => ?_ | refine sim_sliceK fun _ _ _ _ => ?_ | refine sim_rowK ?_ fun _ _ _ _ => ?_ | refine sim_rowEK ?_ fun _ _ _ _ => ?_ | refine sim_natK fun _ => ?_ | refine sim_hdK fun _ => ?_ | refine sim_ite ?_ ?_ | refine sim_fN fun _ => ?_ | refine sim_fI fun _ => ?_ | refine sim_fB fun _ => ?_ | refine sim_fW fun _ => ?_ | refine sim_fL fun _ => ?_ | refine sim_take fun _ => ?_ | refine sim_fill fun _ => ?_ | refine sim_bnd fun _ => ?_ | refine sim_someK ?_ fun _ => ?_)
  | fieldAddr t x f =>
    show Sim h h2 ((oField P t (gt x) f).f e h) ((oField P t (gt x) f).f e h2)
    unfold oField
    repeat' split
    all_goals dsimp only
    all_goals (repeat' first | exact sim_ok _ | exact sim_bad | refine sim_oneK fun _ => ?_ | refine sim_aggK fun _ => ?_ | refine sim_tupK fun _ => ?_ | refine sim_cellsK fun _ => ?_ | refine sim_boolK fun _ => ?_ | refine sim_intK fun _ _ => ?_ | refine sim_strK fun _ => ?_ | refine sim_ptrK fun _ _ => ?_ | refine sim_sliceK fun _ _ _ _ => ?_ | refine sim_rowK ?_ fun _ _ _ _ => ?_ | refine sim_rowEK ?_ fun _ _ _ _ => ?_ | refine sim_natK fun _ => ?_ | refine sim_hdK fun _ => ?_ | refine sim_ite ?_ ?_ | refine sim_fN fun _ => ?_ | refine sim_fI fun _ => ?_ | refine sim_fB fun _ => ?_ | refine sim_fW fun _ => ?_ | refine sim_fL fun _ => ?_ | refine sim_take fun _ => ?_ | refine sim_fill fun _ => ?_ | refine sim_bnd fun _ => ?_ | refine sim_someK ?_ fun _ => ?_)
  | field t x f =>
    show Sim h h2 ((oFld P t (gt x) f).f e h) ((oFld P t (gt x) f).f e h2)
    unfold oFld
    repeat' split
    all_goals dsimp only
    all_goals try unfold row
    all_goals (repeat' first | exact sim_ok _ | exact sim_bad | refine sim_oneK fun _ => ?_ | refine sim_aggK fun _ => ?_ | refine sim_tupK fun _ => ?_ | refine sim_cellsK fun _ => ?_ | refine sim_boolK fun _ => ?_ | refine sim_intK fun _ _ => ?_ | refine sim_strK fun _ => ?_ | refine sim_ptrK fun _ _ => ?_ | refine sim_sliceK fun _ _ _ _ => ?_ | refine sim_rowK ?_ fun _ _ _ _ => ?_ | refine sim_rowEK ?_ fun _ _ _ _ => ?_ | refine sim_natK fun _ => ?_ | refine sim_hdK fun _ => ?_ | refine sim_ite ?_ ?_ | refine sim_fN fun _ => ?_ | refine sim_fI fun _ => ?_ | refine sim_fB fun _ => ?_ | refine sim_fW fun _ => ?_ | refine sim_fL fun _ => ?_ | refine sim_take fun _ => ?_ | refine sim_fill fun _ => ?_ | refine sim_bnd fun _ => ?_ | refine sim_someK ?_ fun _ => ?_)
  | indexAddr t x i =>
    show Sim h h2 ((oIndex P t (gt x) (gt i)).f e h) ((oIndex P t (gt x) (gt i)).f e h2)
    unfold oIndex
    repeat' split
    all_goals dsimp only
    all_goals (repeat' first | exact sim_ok _ | exact sim_bad | refine sim_oneK fun _ => ?_ | refine sim_aggK fun _ => ?_ | refine sim_tupK fun _ => ?_ | refine sim_cellsK fun _ => ?_ | refine sim_boolK fun _ => ?_ | refine sim_intK fun _ _ => ?_ | refine sim_strK fun _ => ?_ | refine sim_ptrK fun _ _ => ?_ | refine sim_sliceK fun _ _ _ _ => ?_ | refine sim_rowK ?_ fun _ _ _ _ => ?_ | refine sim_rowEK ?_ fun _ _ _ _ => ?_ | refine sim_natK fun _ => ?_ | refine sim_hdK fun _ => ?_ | refine sim_ite ?_ ?_ | refine sim_fN fun _ => ?_ | refine sim_fI fun _ => ?_ | refine sim_fB fun _ => ?_ | refine sim_fW fun _ => ?_ | refine sim_fL fun _ => ?_ | refine sim_take fun _ => ?_ | refine sim_fill fun _ => ?_ | refine sim_bnd fun _ => ?_ | refine sim_someK ?_ fun _ => ?_)
  | index t x i => exact sim_onD (sim_oneK fun _ => sim_strK fun _ => sim_oneK fun _ => sim_intK fun _ _ => sim_natK fun _ => sim_byteR)
  | extract x i => exact sim_tupK fun _ => sim_someK sim_bad fun _ => sim_ite (sim_ok _) (sim_hdK fun _ => sim_ok _)
  | build t parts =>
    show Sim h h2 ((oBuild P t parts.toList).f e h) ((oBuild P t parts.toList).f e h2)
    unfold oBuild
    repeat' split
    all_goals dsimp only
    all_goals (repeat' first | exact sim_ok _ | exact sim_bad | refine sim_oneK fun _ => ?_ | refine sim_aggK fun _ => ?_ | refine sim_tupK fun _ => ?_ | refine sim_cellsK fun _ => ?_ | refine sim_boolK fun _ => ?_ | refine sim_intK fun _ _ => ?_ | refine sim_strK fun _ => ?_ | refine sim_ptrK fun _ _ => ?_ | refine sim_sliceK fun _ _ _ _ => ?_ | refine sim_rowK ?_ fun _ _ _ _ => ?_ | refine sim_rowEK ?_ fun _ _ _ _ => ?_ | refine sim_natK fun _ => ?_ | refine sim_hdK fun _ => ?_ | refine sim_ite ?_ ?_ | refine sim_fN fun _ => ?_ | refine sim_fI fun _ => ?_ | refine sim_fB fun _ => ?_ | refine sim_fW fun _ => ?_ | refine sim_fL fun _ => ?_ | refine sim_take fun _ => ?_ | refine sim_fill fun _ => ?_ | refine sim_bnd fun _ => ?_ | refine sim_someK ?_ fun _ => ?_)
  | call c =>
    show Sim h h2 ((match c.callee with
      | .builtin b => oBuiltin P b c.args.toList c.argTypes.toList
      | _ => ⟨fun _ _ => .bad 251⟩ : OpF).f e h) ((match c.callee with
      | .builtin b => oBuiltin P b c.args.toList c.argTypes.toList
      | _ => ⟨fun _ _ => .bad 251⟩ : OpF).f e h2)
    have hc : (match c.callee with
      | .builtin .len => true
      | _ => false) = true := hp
    split at hc
    · next hb =>
      rw [hb]
      dsimp only
      unfold oBuiltin
      dsimp only
      repeat' split
      all_goals first
        | exact sim_bad
        | (unfold oLen
           repeat' split
           all_goals dsimp only
           all_goals (repeat' first | exact sim_ok _ | exact sim_bad | refine sim_oneK fun _ => ?_ | refine sim_aggK fun _ => ?_ | refine sim_tupK fun _ => ?_ | refine sim_cellsK fun _ => ?_ | refine sim_boolK fun _ => ?_ | refine sim_intK fun _ _ => ?_ | refine sim_strK fun _ => ?_ | refine sim_ptrK fun _ _ => ?_ | refine sim_sliceK fun _ _ _ _ => ?_ | refine sim_rowK ?_ fun _ _ _ _ => ?_ | refine sim_rowEK ?_ fun _ _ _ _ => ?_ | refine sim_natK fun _ => ?_ | refine sim_hdK fun _ => ?_ | refine sim_ite ?_ ?_ | refine sim_fN fun _ => ?_ | refine sim_fI fun _ => ?_ | refine sim_fB fun _ => ?_ | refine sim_fW fun _ => ?_ | refine sim_fL fun _ => ?_ | refine sim_take fun _ => ?_ | refine sim_fill fun _ => ?_ | refine sim_bnd fun _ => ?_ | refine sim_someK ?_ fun _ => ?_))
    · cases hc
  | _ => cases hp
/-- an operation that is pure answers the same at every memory -/
theorem pure_any {o : Op} (hp : pureO P o = true) {e : E} {v : V} {h' : H} (hr : (op1 P o).f e h = .ok v h') (h2 : H) : (op1 P o).f e h2 = .ok v h2 ∧ h' = h := by
  rcases pure_sim (h := h) (h2 := h2) hp e with ⟨u, e1, e2⟩ | ⟨n, m, e1, e2⟩
  · rw [hr] at e1
    injection e1 with a b
    exact ⟨by rw [e2, a], b⟩
  · rw [hr] at e1; cases e1
/-- an operation that is quiet leaves the memory -/
theorem quiet_same {o : Op} (hp : quietO P o = true) {e : E} {v : V} {h' : H} (hr : (op1 P o).f e h = .ok v h') : h' = h := by
  cases o with
  | load t x =>
    have hr' : (oLoad P t (gt x)).f e h = .ok v h' := hr
    have : Sim h h ((oLoad P t (gt x)).f e h) ((oLoad P t (gt x)).f e h) := by
      unfold oLoad
      repeat' split
      all_goals dsimp only
      all_goals first
        | exact sim_bad
        | (refine sim_oneK fun _ => sim_ptrK fun b o => ?_
           generalize h.blk b = q
           cases q <;> first | exact sim_bad | (show Sim h h (hdK _ _ _) (hdK _ _ _); exact sim_hdK fun _ => sim_ok _) | exact sim_take fun _ => sim_ok _)
    rcases this with ⟨u, e1, e2⟩ | ⟨n, m, e1, e2⟩
    · rw [hr'] at e1; injection e1
    · rw [hr'] at e1; cases e1
  | lookup t m k ok =>
    have hr' : (oLook P t (gt m) (gt k) ok).f e h = .ok v h' := hr
    have : Sim h h ((oLook P t (gt m) (gt k) ok).f e h) ((oLook P t (gt m) (gt k) ok).f e h) := by
      unfold oLook
      repeat' split
      all_goals dsimp only
      all_goals first
        | exact sim_bad
        | (refine sim_onD (sim_oneK fun _ => sim_mapK fun b => sim_oneK fun _ => sim_strK fun s => ?_)
           generalize h.blk b = q
           cases q <;> first | exact sim_bad | exact sim_someK (sim_ite (sim_ok _) (sim_ok _)) fun _ => sim_ite (sim_ok _) (sim_ok _))
    rcases this with ⟨u, e1, e2⟩ | ⟨n, m, e1, e2⟩
    · rw [hr'] at e1; injection e1
    · rw [hr'] at e1; cases e1
  | alloc _ => cases hp
  | box _ _ => cases hp
  | buildSlice _ _ _ => cases hp
  | store _ _ _ => cases hp
  | mapUpdate _ _ _ _ => cases hp
  | makeMap _ _ => cases hp
  | _ => exact (pure_any (P := P) (by exact hp) hr h).2
end
end Go.Proofs.Ytopganainjgmmaa.Ev
