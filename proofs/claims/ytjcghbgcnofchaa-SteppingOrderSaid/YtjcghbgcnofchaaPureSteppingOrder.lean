/- The plain law behind SteppingOrder: numbers and lists alone. -/
import Derived.Test.YtjcghbgcnofchaaQSteppingOrderx7
namespace Go.Proofs.Ytjcghbgcnofchaa.Pure
open Go.RowKit Go.Proofs.Ytjcghbgcnofchaa.QSteppingOrder Go.Proofs.YtjcghbgcnofchaaW.PrintWords Go.Proofs.YtjcghbgcnofchaaW.PrintLast Go.Proofs.YtjcghbgcnofchaaW.PrintMore
set_option linter.unusedVariables false
set_option linter.unusedSimpArgs false

/-! ### the contexts: a tree in which each parent comes ahead of its child -/
def par (C : List S42) (i : Int) : Int := (rd_T42 C i).f0

structure Good (C : List S42) : Prop where
  pos : 0 < C.length
  le : C.length ≤ 9
  root : par C 0 = -1
  up : ∀ i : Int, 0 < i → i < C.length → 0 ≤ par C i ∧ par C i < i

theorem mod_some (a b : Int) (h0 : 0 < b) (h1 : b ≤ 1000) : ∃ r, debuggerkit_Mod.f a b = some r ∧ 0 ≤ r ∧ r < b := by
  unfold debuggerkit_Mod.f
  rw [if_neg (by omega)]
  have h2 : Int.tmod a b < b := Int.tmod_lt_of_pos a h0
  have h3 : -b < Int.tmod a b := by
    have := Int.lt_tmod_of_pos a h0
    omega
  by_cases h : Int.tmod a b < 0
  · rw [if_pos h]
    exact ⟨_, rfl, by unfold wrap64; omega, by unfold wrap64; omega⟩
  · rw [if_neg h]
    exact ⟨_, rfl, by omega, h2⟩

theorem par_app_lt (C : List S42) (x : S42) (i : Int) (h0 : 0 ≤ i) (h : i < C.length) : par (C ++ [x]) i = par C i := by
  unfold par rd_T42
  rw [List.getD_eq_getElem?_getD, List.getD_eq_getElem?_getD, List.getElem?_append_left (by omega)]

theorem par_app_eq (C : List S42) (x : S42) : par (C ++ [x]) C.length = x.f0 := by
  unfold par rd_T42
  simp [List.getD_eq_getElem?_getD]

theorem good_app {C : List S42} (g : Good C) (hl : C.length ≤ 8) (r : Int) (h0 : 0 ≤ r) (h1 : r < C.length) : Good (C ++ [(⟨r, 0, 0⟩ : S42)]) := by
  refine ⟨by simp, by simp; omega, ?_, ?_⟩
  · rw [par_app_lt C _ 0 (by omega) (by have := g.pos; omega)]; exact g.root
  · intro i hi hlt
    simp only [List.length_append, List.length_cons, List.length_nil] at hlt
    by_cases h : i < C.length
    · rw [par_app_lt C _ i (by omega) h]; exact g.up i hi h
    · obtain rfl : i = C.length := by omega
      rw [par_app_eq]
      exact ⟨h0, h1⟩

def proc (C : List S42) : S51 := ⟨(⟨#[]⟩ : ByteArray), 0, 0, 0, ([] : List (S75)), C, ([] : List (S77)), ([] : List (S80)), ([] : List (S82)), ([] : List (S84)), ([] : List (S86))⟩

theorem contexts_l (l : List Int) (d : Nat) : ∀ (k : Nat) (i : Int) (C : List S42), Good C → (C.length : Int) = i + 1 → 0 ≤ i → i ≤ 8 → 8 - i = d → d < k →
    ∃ C', Good C' ∧ debuggerlaw42_contexts.l0 k l i (⟨#[]⟩ : ByteArray) 0 0 0 C = some (0, 0, [], [], [proc C', proc C']) := by
  induction d with
  | zero =>
    intro k i C g hC h0 h1 hd hk
    obtain ⟨k, rfl⟩ : ∃ m, k = m + 1 := ⟨k - 1, by omega⟩
    refine ⟨C, g, ?_⟩
    simp only [debuggerlaw42_contexts.l0]
    by_cases hlt : i < (l.length : Int)
    · rw [if_pos hlt, if_neg (by omega)]; rfl
    · rw [if_neg hlt]; rfl
  | succ d ih =>
    intro k i C g hC h0 h1 hd hk
    obtain ⟨k, rfl⟩ : ∃ m, k = m + 1 := ⟨k - 1, by omega⟩
    by_cases hlt : i < (l.length : Int)
    · have hw : wrap64 (i + 1) = i + 1 := by unfold wrap64; omega
      obtain ⟨r, hr, r0, r1⟩ := mod_some (rd l i) (i + 1) (by omega) (by omega)
      obtain ⟨C', g', h'⟩ := ih k (i + 1) (C ++ [(⟨r, 0, 0⟩ : S42)]) (good_app g (by omega) r r0 (by omega)) (by simp; omega) (by omega) (by omega) (by omega) (by omega)
      refine ⟨C', g', ?_⟩
      simp only [debuggerlaw42_contexts.l0]
      rw [if_pos hlt, if_pos (by omega), if_pos h0, hw, hr]
      simp only [Option.bind_some]
      rw [if_pos (by omega)]
      exact h'
    · refine ⟨C, g, ?_⟩
      simp only [debuggerlaw42_contexts.l0]
      rw [if_neg hlt]; rfl

theorem contexts_f (l : List Int) (k : Nat) (hk : 9 ≤ k) : ∃ C, Good C ∧ debuggerlaw42_contexts.f k l = some (0, 0, [], [], [proc C, proc C]) := by
  obtain ⟨C, g, h⟩ := contexts_l l 8 k 0 [(⟨(-1), (-1), 0⟩ : S42)] ⟨by simp, by simp, rfl, by intro i h0 h1; simp at h1; omega⟩ (by simp) (by omega) (by omega) (by omega) (by omega)
  exact ⟨C, g, h⟩

/-! ### ancestors -/
def anc (C : List S42) (old : Int) : Nat → Int → Bool
  | 0, _ => false
  | m + 1, x => if 0 < x ∧ x < (C.length : Int) then (if par C x = old then true else anc C old m (par C x)) else false

theorem anc_lt {C : List S42} (g : Good C) (old : Int) : ∀ m x, anc C old m x = true → 0 < x ∧ x < C.length ∧ 0 ≤ old ∧ old < x
  | 0, x, h => by simp [anc] at h
  | m + 1, x, h => by
    simp only [anc] at h
    by_cases hx : 0 < x ∧ x < (C.length : Int)
    · rw [if_pos hx] at h
      have u := g.up x hx.1 hx.2
      by_cases hp : par C x = old
      · exact ⟨hx.1, hx.2, by omega, by omega⟩
      · rw [if_neg hp] at h
        have := anc_lt g old m _ h
        exact ⟨hx.1, hx.2, by omega, by omega⟩
    · rw [if_neg hx] at h; simp at h

theorem anc_low {C : List S42} (old : Int) : ∀ m x, x ≤ 0 → anc C old m x = false
  | 0, _, _ => rfl
  | m + 1, x, h => by simp only [anc]; rw [if_neg (by omega)]

theorem anc_enough {C : List S42} (g : Good C) (old : Int) : ∀ (m m' : Nat) (x : Int), x ≤ m → x ≤ m' → anc C old m x = anc C old m' x
  | 0, m', x, h, _ => by rw [anc_low old 0 x (by omega), anc_low old m' x (by omega)]
  | m + 1, 0, x, _, h => by rw [anc_low old 0 x (by omega), anc_low old (m + 1) x (by omega)]
  | m + 1, m' + 1, x, h, h' => by
    simp only [anc]
    by_cases hx : 0 < x ∧ x < (C.length : Int)
    · have u := g.up x hx.1 hx.2
      rw [if_pos hx, if_pos hx, anc_enough g old m m' _ (by omega) (by omega)]
    · rw [if_neg hx, if_neg hx]

theorem anc_trans {C : List S42} (g : Good C) (b c : Int) : ∀ m x m', anc C b m x = true → anc C c m' b = true → x ≤ m' → anc C c m' x = true
  | 0, x, m', h, h', _ => by simp [anc] at h
  | m + 1, x, m', h, h', hm => by
    have hb := anc_lt g c m' b h'
    simp only [anc] at h
    by_cases hx : 0 < x ∧ x < (C.length : Int)
    · rw [if_pos hx] at h
      have u := g.up x hx.1 hx.2
      obtain ⟨m', rfl⟩ : ∃ j, m' = j + 1 := ⟨m' - 1, by omega⟩
      have key : anc C c (m' + 1) (par C x) = true := by
        by_cases hp : par C x = b
        · rw [hp]; exact h'
        · rw [if_neg hp] at h
          exact anc_trans g b c m _ (m' + 1) h h' (by omega)
      simp only [anc]
      rw [if_pos hx]
      by_cases hp : par C x = c
      · rw [if_pos hp]
      · rw [if_neg hp, anc_enough g c m' (m' + 1) (par C x) (by omega) (by omega)]
        exact key
    · rw [if_neg hx] at h; simp at h

theorem nested_l {C : List S42} (g : Good C) (a0 a1 old : Int) (ho : 0 ≤ old) : ∀ (m k : Nat) (x cnt : Int), 0 ≤ cnt → cnt ≤ C.length → (x < 0 ∨ (C.length : Int) ≤ x ∨ x + 1 ≤ (C.length : Int) - cnt) → (x ≤ m ∨ (C.length : Int) ≤ x) → 2 * m + 6 ≤ k →
    stepping_Nested.l0 k C x C.length cnt a0 a1 old = some (anc C old (m + 1) x) := by
  have out : ∀ (k : Nat) (x cnt : Int) (M : Nat), (x < 0 ∨ (C.length : Int) ≤ x) → 2 ≤ k → stepping_Nested.l0 k C x C.length cnt a0 a1 old = some (anc C old (M + 1) x) := by
    intro k x cnt M hx hk
    obtain ⟨k, rfl⟩ : ∃ j, k = j + 2 := ⟨k - 2, by omega⟩
    have e : anc C old (M + 1) x = false := by simp only [anc]; rw [if_neg (by omega)]
    rw [e]
    simp only [stepping_Nested.l0]
    by_cases hc : cnt < (C.length : Int)
    · rw [if_pos hc]
      by_cases hn : x < 0
      · rw [if_pos hn]; simp only [stepping_Nested.j3, if_true]
      · rw [if_neg hn]
        rw [decide_eq_true (show x ≥ (C.length : Int) by omega)]
        simp only [stepping_Nested.j3, if_true]
    · rw [if_neg hc]
  intro m
  induction m with
  | zero =>
    intro k x cnt h0 h1 hx hm hk
    by_cases ho' : x < 0 ∨ (C.length : Int) ≤ x
    · exact out k x cnt 0 ho' (by omega)
    · obtain rfl : x = 0 := by omega
      obtain ⟨k, rfl⟩ : ∃ j, k = j + 2 := ⟨k - 2, by omega⟩
      have e : anc C old (0 + 1) 0 = false := anc_low old _ _ (by omega)
      have hw : wrap64 (cnt + 1) = cnt + 1 := by have := g.le; unfold wrap64; omega
      rw [e]
      simp only [stepping_Nested.l0]
      rw [if_pos (by omega), if_neg (by omega), decide_eq_false (by omega)]
      simp only [stepping_Nested.j3]
      rw [if_neg (by simp), if_pos (by omega), if_pos (by omega)]
      have hr : (rd_T42 C 0).f0 = -1 := g.root
      rw [hr, if_neg (by omega), out k (-1) _ 0 (by omega) (by omega)]
      rw [anc_low old _ _ (by omega)]
  | succ m ih =>
    intro k x cnt h0 h1 hx hm hk
    by_cases ho' : x < 0 ∨ (C.length : Int) ≤ x
    · exact out k x cnt (m + 1) ho' (by omega)
    · by_cases hz : x = 0
      · subst hz
        rw [ih k 0 cnt h0 h1 hx (by omega) (by omega), anc_low old _ _ (by omega), anc_low old _ _ (by omega)]
      · have u := g.up x (by omega) (by omega)
        obtain ⟨k, rfl⟩ : ∃ j, k = j + 2 := ⟨k - 2, by omega⟩
        have hw : wrap64 (cnt + 1) = cnt + 1 := by have := g.le; unfold wrap64; omega
        have e : anc C old (m + 1 + 1) x = if par C x = old then true else anc C old (m + 1) (par C x) := by
          conv => lhs; unfold anc
          rw [if_pos (by omega)]
        rw [e]
        simp only [stepping_Nested.l0]
        rw [if_pos (by omega), if_neg (by omega), decide_eq_false (by omega)]
        simp only [stepping_Nested.j3]
        rw [if_neg (by simp), if_pos (by omega), if_pos (by omega)]
        by_cases hp : (rd_T42 C x).f0 = old
        · rw [if_pos hp, if_pos (show par C x = old from hp)]
        · rw [if_neg hp, if_neg (show ¬ par C x = old from hp), hw]
          exact ih k (par C x) (cnt + 1) (by omega) (by omega) (by omega) (by omega) (by omega)

/-- To be nested, said plainly. -/
def NS (C : List S42) (a0 a1 a2 b0 b1 b2 : Int) : Bool :=
  decide (a0 < b0) || (decide (a0 = b0) && (decide (a1 = b1) && (decide (0 ≤ a1) && (decide (a1 < 2) && anc C b2 10 a2))))

theorem anc_far {C : List S42} (g : Good C) (old : Int) (h : old < 0 ∨ (C.length : Int) ≤ old) (m : Nat) (x : Int) : anc C old m x = false := by
  cases e : anc C old m x with
  | false => rfl
  | true => have := anc_lt g old m x e; omega

theorem nested_f {C : List S42} (g : Good C) (a0 a1 a2 b0 b1 b2 : Int) (k : Nat) (hk : 60 ≤ k) :
    stepping_Nested.f k 0 0 [] [] [proc C, proc C] a0 a1 a2 b0 b1 b2 = some (NS C a0 a1 a2 b0 b1 b2) := by
  have hl := g.le
  have hp := g.pos
  obtain ⟨k, rfl⟩ : ∃ j, k = j + 3 := ⟨k - 3, by omega⟩
  have j0t : stepping_Nested.j0 (k + 3) true 0 0 [] [] [proc C, proc C] a0 a1 a2 b0 b1 b2 = some false := by
    simp only [stepping_Nested.j0, if_true]
  unfold stepping_Nested.f NS
  by_cases h1 : a0 < b0
  · rw [if_pos h1, decide_eq_true h1]; rfl
  · rw [if_neg h1, decide_eq_false h1]
    by_cases h2 : a0 = b0
    · rw [if_pos h2, decide_eq_true h2]
      by_cases h3 : a1 = b1
      · rw [if_pos h3, decide_eq_true h3]
        by_cases h4 : a1 < 0
        · rw [if_pos h4, j0t, decide_eq_false (show ¬ 0 ≤ a1 by omega)]; rfl
        · rw [if_neg h4, decide_eq_true (show 0 ≤ a1 by omega)]
          by_cases h5 : a1 < 2
          · have e5 : decide (a1 ≥ (([proc C, proc C] : List S51).length : Int)) = false := decide_eq_false (by simp; omega)
            have hf : (rd_T51 [proc C, proc C] a1).f5 = C := by
              have : a1 = 0 ∨ a1 = 1 := by omega
              rcases this with rfl | rfl <;> rfl
            rw [e5, decide_eq_true h5]
            simp only [stepping_Nested.j0]
            rw [if_neg (by simp), if_pos (by omega), if_pos (by simp; omega), hf]
            simp only [Bool.true_and, Bool.false_or]
            by_cases h6 : b2 < 0
            · rw [if_pos h6]
              simp only [stepping_Nested.j1, if_true]
              rw [anc_far g b2 (.inl h6)]
            · rw [if_neg h6]
              by_cases h7 : b2 ≥ (C.length : Int)
              · rw [decide_eq_true h7]
                simp only [stepping_Nested.j1, if_true]
                rw [anc_far g b2 (.inr h7)]
              · rw [decide_eq_false h7]
                simp only [stepping_Nested.j1]
                rw [if_neg (by simp), nested_l g b0 b1 b2 (by omega) 9 (k + 1) a2 0 (by omega) (by omega) (by omega) (by omega) (by omega)]
          · have e5 : decide (a1 ≥ (([proc C, proc C] : List S51).length : Int)) = true := decide_eq_true (by simp; omega)
            rw [e5, j0t, decide_eq_false h5]; rfl
      · rw [if_neg h3, j0t, decide_eq_false h3]; rfl
    · rw [if_neg h2, j0t, decide_eq_false h2]; rfl

theorem ns_iff (C : List S42) (a0 a1 a2 b0 b1 b2 : Int) : NS C a0 a1 a2 b0 b1 b2 = true ↔ a0 < b0 ∨ (a0 = b0 ∧ a1 = b1 ∧ 0 ≤ a1 ∧ a1 < 2 ∧ anc C b2 10 a2 = true) := by
  unfold NS; simp [Bool.or_eq_true, Bool.and_eq_true]

theorem ns_irrefl {C : List S42} (g : Good C) (a0 a1 a2 : Int) : NS C a0 a1 a2 a0 a1 a2 = false := by
  cases e : NS C a0 a1 a2 a0 a1 a2 with
  | false => rfl
  | true =>
    rcases (ns_iff ..).1 e with h | ⟨_, _, _, _, h⟩
    · omega
    · have := anc_lt g _ _ _ h; omega

theorem ns_asymm {C : List S42} (g : Good C) {a0 a1 a2 b0 b1 b2 : Int} (h : NS C a0 a1 a2 b0 b1 b2 = true) : NS C b0 b1 b2 a0 a1 a2 = false := by
  cases e : NS C b0 b1 b2 a0 a1 a2 with
  | false => rfl
  | true =>
    rcases (ns_iff ..).1 h with h | ⟨h1, _, _, _, h⟩ <;> rcases (ns_iff ..).1 e with e | ⟨e1, _, _, _, e⟩
    · omega
    · omega
    · omega
    · have := anc_lt g _ _ _ h; have := anc_lt g _ _ _ e; omega

theorem ns_trans {C : List S42} (g : Good C) {a0 a1 a2 b0 b1 b2 c0 c1 c2 : Int} (h : NS C a0 a1 a2 b0 b1 b2 = true) (e : NS C b0 b1 b2 c0 c1 c2 = true) : NS C a0 a1 a2 c0 c1 c2 = true := by
  refine (ns_iff ..).2 ?_
  rcases (ns_iff ..).1 h with h | ⟨h1, h2, h3, h4, h⟩ <;> rcases (ns_iff ..).1 e with e | ⟨e1, e2, e3, e4, e⟩
  · exact .inl (by omega)
  · exact .inl (by omega)
  · exact .inl (by omega)
  · have := anc_lt g _ _ _ h
    have := g.le
    exact .inr ⟨by omega, by omega, h3, h4, anc_trans g _ _ _ _ 10 h e (by omega)⟩

theorem near_some (a0 a1 a2 : Int) : ∃ r0 r1 r2, debuggerlaw42_near.f a0 a1 a2 = some (r0, r1, r2) := by
  obtain ⟨r0, h0, _, _⟩ := mod_some a0 3 (by omega) (by omega)
  obtain ⟨r1, h1, _, _⟩ := mod_some a1 3 (by omega) (by omega)
  obtain ⟨r2, h2, _, _⟩ := mod_some a2 9 (by omega) (by omega)
  refine ⟨r0, r1, r2, ?_⟩
  unfold debuggerlaw42_near.f
  rw [h0]; simp only [Option.bind_some]
  rw [h1]; simp only [Option.bind_some]
  rw [h2]; simp only [Option.bind_some]

theorem awake_60 : debuggerlaw42_awake.f 60 = some true := by kernel_rfl

theorem awake_f (k : Nat) : debuggerlaw42_awake.f (k + 60) = some true :=
  at_rounds (g := fun k => debuggerlaw42_awake.f k) debuggerlaw42_awake.mono (Nat.le_add_left 60 k) awake_60

theorem order_j {C : List S42} (g : Good C) (p0 p1 p2 q0 q1 q2 r0 r1 r2 : Int) (k : Nat) :
    debuggerlaw42_SteppingOrder.j0 (k + 61) false p0 p1 p2 q0 q1 q2 r0 r1 r2 0 0 [] [] [proc C, proc C] = some true := by
  simp only [debuggerlaw42_SteppingOrder.j0]
  rw [if_neg (by simp), nested_f g p0 p1 p2 q0 q1 q2 _ (by omega)]
  simp only [Option.bind_some]
  by_cases h : NS C p0 p1 p2 q0 q1 q2 = true
  · rw [if_pos h, nested_f g q0 q1 q2 r0 r1 r2 _ (by omega)]
    simp only [Option.bind_some]
    by_cases h2 : NS C q0 q1 q2 r0 r1 r2 = true
    · rw [if_pos h2, nested_f g p0 p1 p2 r0 r1 r2 _ (by omega), ns_trans g h h2]
      simp only [Option.bind_some]
      rw [if_pos trivial, awake_f k]
      rfl
    · rw [if_neg h2, awake_f k]; rfl
  · rw [if_neg h, awake_f k]; rfl

theorem SteppingOrder (l : List Int) (a0 a1 a2 b0 b1 b2 c0 c1 c2 : Int) (_ : l.length * 8 ≤ 140737488351232) :
    ∃ k, debuggerlaw42_SteppingOrder.f k l a0 a1 a2 b0 b1 b2 c0 c1 c2 = some true := by
  refine ⟨100, ?_⟩
  obtain ⟨C, g, hC⟩ := contexts_f l 100 (by omega)
  obtain ⟨p0, p1, p2, hp⟩ := near_some a0 a1 a2
  obtain ⟨q0, q1, q2, hq⟩ := near_some b0 b1 b2
  obtain ⟨r0, r1, r2, hr⟩ := near_some c0 c1 c2
  unfold debuggerlaw42_SteppingOrder.f
  rw [hC]; simp only [Option.bind_some]
  rw [hp]; simp only [Option.bind_some]
  rw [hq]; simp only [Option.bind_some]
  rw [hr]; simp only [Option.bind_some]
  rw [nested_f g p0 p1 p2 p0 p1 p2 100 (by omega), ns_irrefl g]
  simp only [Option.bind_some]
  rw [if_neg (by simp), nested_f g p0 p1 p2 q0 q1 q2 100 (by omega)]
  simp only [Option.bind_some]
  by_cases h : NS C p0 p1 p2 q0 q1 q2 = true
  · rw [if_pos h, nested_f g q0 q1 q2 p0 p1 p2 100 (by omega), ns_asymm g h]
    simp only [Option.bind_some]
    exact order_j g p0 p1 p2 q0 q1 q2 r0 r1 r2 39
  · rw [if_neg h]
    exact order_j g p0 p1 p2 q0 q1 q2 r0 r1 r2 39

end Go.Proofs.Ytjcghbgcnofchaa.Pure
