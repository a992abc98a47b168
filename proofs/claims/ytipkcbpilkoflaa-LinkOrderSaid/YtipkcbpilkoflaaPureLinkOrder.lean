/- The plain law behind LinkOrder: numbers and lists alone. -/
import Derived.Test.YtipkcbpilkoflaaQLinkOrderx17
namespace Go.Proofs.Ytipkcbpilkoflaa.Pure
open Go.RowKit Go.Proofs.Ytipkcbpilkoflaa.QLinkOrder Go.Proofs.YtipkcbpilkoflaaW.PrintWords Go.Proofs.YtipkcbpilkoflaaW.PrintLast Go.Proofs.YtipkcbpilkoflaaW.PrintMore
set_option linter.unusedVariables false
set_option linter.unusedSimpArgs false

theorem mod_some (a b : Int) (h0 : 0 < b) (h1 : b ≤ 2305843009213693952) : ∃ r, debuggerkit_Mod.f a b = some r ∧ 0 ≤ r ∧ r < b := by
  unfold debuggerkit_Mod.f
  rw [if_neg (by omega)]
  have h2 : Int.tmod a b < b := Int.tmod_lt_of_pos a h0
  have h3 : -b < Int.tmod a b := by
    have := Int.lt_tmod_of_pos a h0
    omega
  by_cases h : Int.tmod a b < 0
  · rw [if_pos h]
    exact ⟨_, rfl, by unfold wrap64; omega, by unfold wrap64; omega⟩
  · rw [if_neg h]
    exact ⟨_, rfl, by omega, h2⟩

theorem rdT37_get (l : List S37) (i : Int) (h0 : 0 ≤ i) (h : i < l.length) : rd_T37 l i = l[i.toNat]'(by omega) := by
  unfold rd_T37
  rw [List.getD_eq_getElem?_getD, List.getElem?_eq_getElem (by omega)]
  rfl

theorem rd_get (l : List Int) (i : Int) (h0 : 0 ≤ i) (h : i < l.length) : rd l i = l[i.toNat]'(by omega) := by
  unfold rd
  rw [List.getD_eq_getElem?_getD, List.getElem?_eq_getElem (by omega)]
  rfl

/-! ### copies -/
theorem copies_l (l : List S37) (hl : l.length ≤ 100) (hb : ∀ j : Int, 0 ≤ j → j < l.length → (rd_T37 l j).f1.length ≤ 300) (d : Nat) : ∀ (k : Nat) (i : Int) (acc : List S37), 0 ≤ i → i ≤ l.length → (l.length : Int) - i = d → acc = l.take i.toNat → d + 1 ≤ k →
    link_copies.l0 k acc l l.length i = some l := by
  induction d with
  | zero =>
    intro k i acc h0 h1 hd ha hk
    obtain ⟨k, rfl⟩ : ∃ m, k = m + 1 := ⟨k - 1, by omega⟩
    simp only [link_copies.l0]
    rw [if_neg (by omega), ha, List.take_of_length_le (by omega)]
  | succ d ih =>
    intro k i acc h0 h1 hd ha hk
    obtain ⟨k, rfl⟩ : ∃ m, k = m + 1 := ⟨k - 1, by omega⟩
    have hw : wrap64 (i + 1) = i + 1 := by unfold wrap64; omega
    have hbi := hb i h0 (by omega)
    have hal : acc.length ≤ 100 := by rw [ha, List.length_take]; omega
    simp only [link_copies.l0]
    rw [if_pos (by omega), if_pos h0, if_pos (by omega), if_pos (by simp; omega), if_pos (by omega), hw]
    refine ih k (i + 1) _ (by omega) (by omega) (by omega) ?_ (by omega)
    have e : (i + 1).toNat = i.toNat + 1 := by omega
    rw [e, List.take_succ_eq_append_getElem (by omega), ha, rdT37_get l i h0 (by omega)]
    rfl

theorem copies_f (l : List S37) (hl : l.length ≤ 100) (hb : ∀ j : Int, 0 ≤ j → j < l.length → (rd_T37 l j).f1.length ≤ 300) (k : Nat) (hk : 101 ≤ k) : link_copies.f k l = some l :=
  copies_l l hl hb l.length k 0 [] (by omega) (by omega) (by omega) (by simp) (by omega)

/-! ### damage: what both compute -/
def hit (l : List Int) (at_ m n : Int) : List Int :=
  let l1 := if 0 ≤ at_ ∧ at_ < l.length ∧ at_ < n then l.set at_.toNat (Go.bits .xor .u8 (rd l at_) ((m / 256) % 256)) else l
  if 0 ≤ at_ + 1 ∧ at_ + 1 < l.length ∧ at_ + 1 < n then l1.set (at_ + 1).toNat (Go.bits .xor .u8 (rd l1 (at_ + 1)) (m % 256)) else l1

theorem hit_len (l : List Int) (at_ m n : Int) : (hit l at_ m n).length = l.length := by
  unfold hit
  dsimp only
  repeat' split
  all_goals simp

theorem prog_damaged (l d1 : List Int) (at_ m : Int) (hl : l.length ≤ 1000) (k : Nat) (hk : 2 ≤ k) : link_damaged.f k l d1 at_ m = some (hit l at_ m l.length) := by
  obtain ⟨k, rfl⟩ : ∃ j, k = j + 2 := ⟨k - 2, by omega⟩
  have hw : wrap64 ((l.length : Int) - 1) = (l.length : Int) - 1 := by unfold wrap64; omega
  unfold link_damaged.f
  rw [if_pos (by simp; omega)]
  simp only [Option.bind_some, List.nil_append]
  have tail : ∀ l1 : List Int, l1.length = l.length → link_damaged.j1 (k + 1) l1 d1 at_ m = some (if 0 ≤ at_ + 1 ∧ at_ + 1 < l.length ∧ at_ + 1 < l.length then l1.set (at_ + 1).toNat (Go.bits .xor .u8 (rd l1 (at_ + 1)) (m % 256)) else l1) := by
    intro l1 h1
    simp only [link_damaged.j1]
    rw [h1, hw]
    by_cases a : at_ ≥ -1
    · rw [if_pos a]
      by_cases b : at_ < (l.length : Int) - 1
      · have hv : wrap64 (at_ + 1) = at_ + 1 := by unfold wrap64; omega
        rw [if_pos b, hv, if_pos (by omega), if_pos (by omega), if_pos (by omega)]
      · rw [if_neg b, if_neg (by omega)]
    · rw [if_neg a, if_neg (by omega)]
  unfold hit
  dsimp only
  by_cases a : at_ ≥ 0
  · rw [if_pos a]
    by_cases b : at_ < (l.length : Int)
    · rw [decide_eq_true b, if_pos (show 0 ≤ at_ ∧ at_ < (l.length : Int) ∧ at_ < (l.length : Int) from ⟨a, b, b⟩)]
      simp only [link_damaged.j0, if_true]
      rw [if_pos a, if_pos b]
      exact tail _ (by simp)
    · rw [decide_eq_false b, if_neg (show ¬ (0 ≤ at_ ∧ at_ < (l.length : Int) ∧ at_ < (l.length : Int)) by omega)]
      simp only [link_damaged.j0]
      rw [if_neg (by simp)]
      exact tail l rfl
  · rw [if_neg a, if_neg (show ¬ (0 ≤ at_ ∧ at_ < (l.length : Int) ∧ at_ < (l.length : Int)) by omega)]
    simp only [link_damaged.j0]
    rw [if_neg (by simp)]
    exact tail l rfl

theorem xor_zero_u8 (x : Int) (h0 : 0 ≤ x) (h1 : x ≤ 255) : Go.bits .xor .u8 x 0 = x := by
  unfold Go.bits
  have e : (BitVec.ofInt (IntKind.bits .u8) x ^^^ BitVec.ofInt (IntKind.bits .u8) 0) = BitVec.ofInt 8 x := by
    show BitVec.ofInt 8 x ^^^ BitVec.ofInt 8 0 = BitVec.ofInt 8 x
    simp
  simp only [e]
  have t : (BitVec.ofInt 8 x).toNat = x.toNat := by
    rw [BitVec.toNat_ofInt]
    congr 1
    omega
  show IntKind.wrap .u8 (((BitVec.ofInt 8 x).toNat : Nat) : Int) = x
  rw [t]
  unfold IntKind.wrap
  simp [IntKind.bits, IntKind.signed]
  omega

/-! ### Send -/
def copy (b : List Int) (at_ m now : Int) (d : Int) : S37 := ⟨wrap64 (now + (mn (mx d 1) 100)), hit b at_ m b.length⟩

theorem prog_send_l (b d1 : List Int) (at_ m now : Int) (hb : b.length ≤ 1000) (ys : List Int) (hy : ys.length ≤ 8) (d : Nat) : ∀ (k : Nat) (i : Int) (acc : List S37), 0 ≤ i → i ≤ ys.length → (ys.length : Int) - i = d → acc.length + d ≤ 1000 → d + 3 ≤ k →
    link_Send.l0 k b now acc ys ys.length i d1 at_ m = some (acc ++ (ys.drop i.toNat).map (copy b at_ m now)) := by
  induction d with
  | zero =>
    intro k i acc h0 h1 hd ha hk
    obtain ⟨k, rfl⟩ : ∃ j, k = j + 1 := ⟨k - 1, by omega⟩
    simp only [link_Send.l0]
    rw [if_neg (by omega), List.drop_of_length_le (by omega)]
    simp
  | succ d ih =>
    intro k i acc h0 h1 hd ha hk
    obtain ⟨k, rfl⟩ : ∃ j, k = j + 1 := ⟨k - 1, by omega⟩
    have hw : wrap64 (i + 1) = i + 1 := by unfold wrap64; omega
    simp only [link_Send.l0]
    rw [if_pos (by omega), if_pos h0, if_pos (by omega), prog_damaged b d1 at_ m hb k (by omega)]
    simp only [Option.bind_some]
    rw [if_pos (by omega), hw, ih k (i + 1) _ (by omega) (by omega) (by omega) (by simp; omega) (by omega)]
    have e : (i + 1).toNat = i.toNat + 1 := by omega
    rw [e, List.drop_eq_getElem_cons (show i.toNat < ys.length by omega), rd_get ys i h0 (by omega), List.map_cons, List.append_assoc]
    rfl

theorem mn8 (n : Nat) : mn (n : Int) 8 = ((min n 8 : Nat) : Int) := by unfold mn; split <;> omega

theorem prog_send (l : List S37) (d1 : List Int) (at_ m : Int) (b : List Int) (now : Int) (hl : l.length ≤ 100) (hlb : ∀ j : Int, 0 ≤ j → j < l.length → (rd_T37 l j).f1.length ≤ 300) (hb : b.length ≤ 1000) (k : Nat) (hk : 110 ≤ k) :
    link_Send.f k l d1 at_ m b now = some (l ++ (d1.take 8).map (copy b at_ m now)) := by
  unfold link_Send.f
  rw [copies_f l hl hlb k (by omega), mn8]
  simp only [Option.bind_some]
  rw [if_pos (by omega), if_pos (by omega)]
  have e : List.take (((min d1.length 8 : Nat) : Int)).toNat d1 = d1.take 8 := by
    rw [Int.toNat_natCast]
    by_cases h : d1.length ≤ 8
    · rw [List.take_of_length_le (by omega), List.take_of_length_le h]
    · rw [Nat.min_eq_right (by omega)]
  rw [e]
  have h8 : (d1.take 8).length ≤ 8 := by rw [List.length_take]; omega
  rw [prog_send_l b d1 at_ m now hb (d1.take 8) h8 (d1.take 8).length k 0 l (by omega) (by omega) (by omega) (by omega) (by omega)]
  simp


/-! ### no damage -/
theorem rd_byte (l : List Int) (hb : ∀ x ∈ l, 0 ≤ x ∧ x ≤ 255) (i : Int) (h0 : 0 ≤ i) (h : i < l.length) : 0 ≤ rd l i ∧ rd l i ≤ 255 := by
  rw [rd_get l i h0 h]; exact hb _ (List.getElem_mem _)
theorem set_same (l : List Int) (hb : ∀ x ∈ l, 0 ≤ x ∧ x ≤ 255) (i : Int) (h0 : 0 ≤ i) (h : i < l.length) : l.set i.toNat (Go.bits .xor .u8 (rd l i) 0) = l := by
  have hr := rd_byte l hb i h0 h
  rw [xor_zero_u8 _ hr.1 hr.2, rd_get l i h0 h]
  simp
theorem hit_none (l : List Int) (hb : ∀ x ∈ l, 0 ≤ x ∧ x ≤ 255) (at_ n : Int) : hit l at_ 0 n = l := by
  unfold hit
  dsimp only
  rw [show (0 : Int) / 256 % 256 = 0 by rfl, show (0 : Int) % 256 = 0 by rfl]
  have e : (if 0 ≤ at_ ∧ at_ < (l.length : Int) ∧ at_ < n then l.set at_.toNat (Go.bits .xor .u8 (rd l at_) 0) else l) = l := by
    split
    · next c => exact set_same l hb at_ c.1 c.2.1
    · rfl
  rw [e]
  split
  · next c => exact set_same l hb (at_ + 1) c.1 c.2.1
  · rfl
theorem copy_none (b : List Int) (hb : ∀ x ∈ b, 0 ≤ x ∧ x ≤ 255) (now d : Int) : copy b 0 0 now d = ⟨wrap64 (now + (mn (mx d 1) 100)), b⟩ := by
  unfold copy
  rw [hit_none b hb]

/-! ### Arrive -/
theorem rdT37_drop (l : List S37) (i : Int) (h0 : 0 ≤ i) (h : i < l.length) : l.drop i.toNat = rd_T37 l i :: l.drop (i + 1).toNat := by
  rw [rdT37_get l i h0 h, List.drop_eq_getElem_cons (show i.toNat < l.length by omega), show (i + 1).toNat = i.toNat + 1 by omega]
theorem s37_eta (x : S37) : (⟨x.f0, x.f1⟩ : S37) = x := rfl
theorem arrive_out (rest : List S37) (ys : List S37) (hy : ys.length ≤ 1000) (d : Nat) : ∀ (k : Nat) (i : Int) (acc : List (List Int)), 0 ≤ i → i ≤ ys.length → (ys.length : Int) - i = d → acc.length + d ≤ 1000 → d + 1 ≤ k →
    link_Arrive.l1 k rest acc ys ys.length i = some (acc ++ (ys.drop i.toNat).map S37.f1, rest) := by
  induction d with
  | zero =>
    intro k i acc h0 h1 hd ha hk
    obtain ⟨k, rfl⟩ : ∃ j, k = j + 1 := ⟨k - 1, by omega⟩
    simp only [link_Arrive.l1]
    rw [if_neg (by omega), List.drop_of_length_le (by omega)]
    simp
  | succ d ih =>
    intro k i acc h0 h1 hd ha hk
    obtain ⟨k, rfl⟩ : ∃ j, k = j + 1 := ⟨k - 1, by omega⟩
    have hw : wrap64 (i + 1) = i + 1 := by unfold wrap64; omega
    simp only [link_Arrive.l1]
    rw [if_pos (by omega), if_pos h0, if_pos (by omega), if_pos (by omega), hw, ih k (i + 1) _ (by omega) (by omega) (by omega) (by simp; omega) (by omega), rdT37_drop ys i h0 (by omega), List.map_cons, List.append_assoc]
    rfl
theorem arrive_l (now : Int) (l : List S37) (hl : l.length ≤ 100) (d : Nat) : ∀ (k : Nat) (i : Int) (rest due : List S37), 0 ≤ i → i ≤ l.length → (l.length : Int) - i = d → rest.length + d ≤ 200 → due.length + d ≤ 200 → d + 300 ≤ k →
    link_Arrive.l0 k now rest l l.length i due = some ((Stab.isort S37.f0 (due ++ (l.drop i.toNat).filter (fun x => decide (x.f0 ≤ now)))).map S37.f1, rest ++ (l.drop i.toNat).filter (fun x => !decide (x.f0 ≤ now))) := by
  induction d with
  | zero =>
    intro k i rest due h0 h1 hd hr hu hk
    obtain ⟨k, rfl⟩ : ∃ j, k = j + 1 := ⟨k - 1, by omega⟩
    simp only [link_Arrive.l0]
    rw [if_neg (by omega), List.drop_of_length_le (by omega)]
    unfold sort_SliceStable.f
    rw [if_pos (by omega)]
    simp only [Option.bind_some, List.filter_nil, List.append_nil]
    have hs : (Stab.isort S37.f0 due).length = due.length := Stab.isort_len _ _
    rw [arrive_out rest _ (by omega) (Stab.isort S37.f0 due).length k 0 [] (by omega) (by omega) (by omega) (by simp; omega) (by omega)]
    simp
  | succ d ih =>
    intro k i rest due h0 h1 hd hr hu hk
    obtain ⟨k, rfl⟩ : ∃ j, k = j + 1 := ⟨k - 1, by omega⟩
    have hw : wrap64 (i + 1) = i + 1 := by unfold wrap64; omega
    simp only [link_Arrive.l0]
    rw [if_pos (by omega), if_pos h0, if_pos (by omega), rdT37_drop l i h0 (by omega), hw, List.filter_cons, List.filter_cons, s37_eta]
    by_cases c : (rd_T37 l i).f0 ≤ now
    · rw [if_pos c, if_pos (by omega), ih k (i + 1) _ _ (by omega) (by omega) (by omega) (by omega) (by simp; omega) (by omega), decide_eq_true c]
      simp
    · rw [if_neg c, if_pos (by omega), ih k (i + 1) _ _ (by omega) (by omega) (by omega) (by simp; omega) (by omega) (by omega), decide_eq_false c]
      simp
theorem arrive_f (l : List S37) (now : Int) (hl : l.length ≤ 100) (hb : ∀ j : Int, 0 ≤ j → j < l.length → (rd_T37 l j).f1.length ≤ 300) (k : Nat) (hk : 400 ≤ k) :
    link_Arrive.f k l now = some ((Stab.isort S37.f0 (l.filter (fun x => decide (x.f0 ≤ now)))).map S37.f1, l.filter (fun x => !decide (x.f0 ≤ now))) := by
  unfold link_Arrive.f
  rw [copies_f l hl hb k (by omega)]
  simp only [Option.bind_some]
  rw [arrive_l now l hl l.length k 0 [] [] (by omega) (by omega) (by omega) (by simp; omega) (by simp; omega) (by omega)]
  simp
theorem awake_f (k : Nat) (hk : 500 ≤ k) : debuggerlaw34_awake.f k = some true := by
  have h1 : link_FateOf.f ([] : List S25) 5 = some ([1], 0, 0) := by
    unfold link_FateOf.f
    rw [if_neg (by omega), if_pos (by simp)]
  have h2 : link_Send.f k ([] : List S37) [1] 0 0 [7] 3 = some [⟨4, [7]⟩] := by
    rw [prog_send [] [1] 0 0 [7] 3 (by simp) (fun j h0 h => by simp at h; omega) (by simp) k (by omega)]
    show some [copy [7] 0 0 3 1] = _
    rw [copy_none [7] (by simp)]
    have e1 : mn (mx 1 1) 100 = 1 := by unfold mn mx; split <;> split <;> omega
    have e2 : wrap64 (3 + 1) = 4 := by unfold wrap64; omega
    rw [e1, e2]
  have h3 := arrive_f [⟨4, [7]⟩] 4 (by simp) (fun j h0 h => by
    have : j = 0 := by simp at h; omega
    subst this
    show ([7] : List Int).length ≤ 300
    simp) k (by omega)
  have h4 : ([⟨4, [7]⟩] : List S37).filter (fun x => decide (x.f0 ≤ 4)) = [⟨4, [7]⟩] := rfl
  have h5 : ([⟨4, [7]⟩] : List S37).filter (fun x => !decide (x.f0 ≤ 4)) = [] := rfl
  rw [h4, h5, Stab.isort_one] at h3
  unfold debuggerlaw34_awake.f
  rw [h1]
  simp only [Option.bind_some]
  rw [h2]
  simp only [Option.bind_some]
  rw [h3]
  rfl


/-! ### the order -/
def idx (x : S37) : Int := rd x.f1 1
def Bef (x y : S37) : Prop := x.f0 < y.f0 ∨ (x.f0 = y.f0 ∧ idx x < idx y)
theorem mrg_pair : ∀ (n : Nat) (A B : List S37), A.length + B.length ≤ n → A.Pairwise Bef → B.Pairwise Bef → (∀ a ∈ A, ∀ b ∈ B, idx a < idx b) → (Stab.mrg S37.f0 A B).Pairwise Bef
  | n, [], B, _, _, h, _ => by rw [Stab.mrg_nil]; exact h
  | n, x :: A, [], _, h, _, _ => by rw [Stab.mrg_right]; exact h
  | 0, x :: A, y :: B, h, _, _, _ => by simp at h
  | n + 1, x :: A, y :: B, h, hA, hB, hI => by
    have hA' := List.pairwise_cons.mp hA
    have hB' := List.pairwise_cons.mp hB
    rw [Stab.mrg_cons]
    split
    · next c =>
      refine List.pairwise_cons.mpr ⟨fun z hz => ?_, mrg_pair n (x :: A) B (by simp at h ⊢; omega) hA hB'.2 (fun a ha b hb => hI a ha b (List.mem_cons_of_mem _ hb))⟩
      rcases Stab.mrg_mem S37.f0 _ _ _ (Nat.le_refl _) z hz with h | h
      · rcases List.mem_cons.mp h with rfl | h
        · exact Or.inl c
        · rcases hA'.1 z h with h | h
          · exact Or.inl (by omega)
          · exact Or.inl (by omega)
      · exact hB'.1 z h
    · next c =>
      refine List.pairwise_cons.mpr ⟨fun z hz => ?_, mrg_pair n A (y :: B) (by simp at h ⊢; omega) hA'.2 hB (fun a ha b hb => hI a (List.mem_cons_of_mem _ ha) b hb)⟩
      rcases Stab.mrg_mem S37.f0 _ _ _ (Nat.le_refl _) z hz with h | h
      · exact hA'.1 z h
      · have hi := hI x List.mem_cons_self z h
        have hk : x.f0 ≤ z.f0 := by
          rcases List.mem_cons.mp h with rfl | h
          · omega
          · rcases hB'.1 z h with h | h <;> omega
        by_cases e : x.f0 = z.f0
        · exact Or.inr ⟨e, hi⟩
        · exact Or.inl (by omega)
theorem isort_pair (l : List S37) (h : l.Pairwise (fun x y => idx x < idx y)) : (Stab.isort S37.f0 l).Pairwise Bef := by
  induction l with
  | nil => exact List.Pairwise.nil
  | cons x l ih =>
    have h' := List.pairwise_cons.mp h
    rw [Stab.isort]
    refine mrg_pair _ _ _ (Nat.le_refl _) (List.pairwise_cons.mpr ⟨by simp, List.Pairwise.nil⟩) (ih h'.2) fun a ha b hb => ?_
    rw [List.mem_singleton] at ha
    subst ha
    exact h'.1 b (Stab.isort_mem S37.f0 l b hb)

/-- what the loop of sends has made by round i -/
structure Made (now i : Int) (l : List S37) : Prop where
  len : (l.length : Int) = i
  mem : ∀ x ∈ l, ∃ d j : Int, 1 ≤ d ∧ d ≤ 3 ∧ 0 ≤ j ∧ j < i ∧ x = ⟨now + d, [d, j]⟩
  pair : l.Pairwise (fun x y => idx x < idx y)
theorem Made.bodies {now i : Int} {l : List S37} (h : Made now i l) : ∀ j : Int, 0 ≤ j → j < l.length → (rd_T37 l j).f1.length ≤ 300 := fun j h0 hj => by
  rw [rdT37_get l j h0 hj]
  obtain ⟨d, q, _, _, _, _, e⟩ := h.mem _ (List.getElem_mem (show j.toNat < l.length by omega))
  rw [e]; simp
theorem Made.step {now i : Int} {l : List S37} (h : Made now i l) (hi : 0 ≤ i) (d : Int) (h1 : 1 ≤ d) (h3 : d ≤ 3) : Made now (i + 1) (l ++ [⟨now + d, [d, i]⟩]) := by
  refine ⟨by have := h.len; simp; omega, fun x hx => ?_, ?_⟩
  · rcases List.mem_append.mp hx with hx | hx
    · obtain ⟨d, j, a, b, c, e, f⟩ := h.mem x hx
      exact ⟨d, j, a, b, c, by omega, f⟩
    · rw [List.mem_singleton] at hx
      exact ⟨d, i, h1, h3, hi, by omega, hx⟩
  · refine List.pairwise_append.mpr ⟨h.pair, List.pairwise_cons.mpr ⟨by simp, List.Pairwise.nil⟩, fun x hx y hy => ?_⟩
    rw [List.mem_singleton] at hy
    obtain ⟨d', j, _, _, _, e, f⟩ := h.mem x hx
    subst hy
    rw [f]
    show j < i
    exact e
theorem send_one (now i d : Int) (l : List S37) (h : Made now i l) (hn0 : 0 ≤ now) (hn : now < 1000) (hi0 : 0 ≤ i) (hi : i < 20) (h1 : 1 ≤ d) (h3 : d ≤ 3) (k : Nat) (hk : 110 ≤ k) :
    link_Send.f k l [d] 0 0 [d % 256, i % 256] now = some (l ++ [⟨now + d, [d, i]⟩]) := by
  have e1 : d % 256 = d := by omega
  have e2 : i % 256 = i := by omega
  have hl := h.len
  rw [e1, e2, prog_send l [d] 0 0 [d, i] now (by omega) h.bodies (by simp) k hk]
  show some (l ++ [copy [d, i] 0 0 now d]) = _
  rw [copy_none [d, i] (by intro x hx; simp at hx; omega)]
  have e3 : wrap64 (now + (mn (mx d 1) 100)) = now + d := by
    have : mn (mx d 1) 100 = d := by unfold mn mx; split <;> split <;> omega
    rw [this]; unfold wrap64; omega
  rw [e3]

theorem rdL2_map (S : List S37) (i : Int) (h0 : 0 ≤ i) (h : i < S.length) : rd_L2 (S.map S37.f1) i = (rd_T37 S i).f1 := by
  rw [rdT37_get S i h0 h]
  unfold rd_L2
  rw [List.getD_eq_getElem?_getD, List.getElem?_map, List.getElem?_eq_getElem (by omega)]
  rfl
theorem check_l (now n : Int) (S : List S37) (hn : (S.length : Int) = n) (hl : n < 20) (hm : ∀ x ∈ S, ∃ d j : Int, 1 ≤ d ∧ d ≤ 3 ∧ 0 ≤ j ∧ j < n ∧ x = ⟨now + d, [d, j]⟩) (hp : S.Pairwise Bef) (d : Nat) : ∀ (k : Nat) (i : Int), 0 ≤ i → i ≤ n → n - i = d → 2 * d + 600 ≤ k →
    debuggerlaw34_LinkOrder.l1 k n (S.map S37.f1) [] i = some true := by
  have get : ∀ i : Int, 0 ≤ i → i < n → ∃ d j : Int, 1 ≤ d ∧ d ≤ 3 ∧ rd_T37 S i = ⟨now + d, [d, j]⟩ := fun i h0 h => by
    rw [rdT37_get S i h0 (by omega)]
    obtain ⟨d, j, a, b, _, _, e⟩ := hm _ (List.getElem_mem (show i.toNat < S.length by omega))
    exact ⟨d, j, a, b, e⟩
  have bef : ∀ i : Int, 0 < i → i < n → Bef (rd_T37 S (i - 1)) (rd_T37 S i) := fun i h0 h => by
    rw [rdT37_get S (i - 1) (by omega) (by omega), rdT37_get S i (by omega) (by omega)]
    exact List.pairwise_iff_getElem.mp hp _ _ _ _ (by omega)
  induction d with
  | zero =>
    intro k i h0 h1 hd hk
    obtain ⟨k, rfl⟩ : ∃ j, k = j + 1 := ⟨k - 1, by omega⟩
    simp only [debuggerlaw34_LinkOrder.l1, List.length_map]
    rw [if_neg (by omega), if_pos (by omega), if_pos (by simp), awake_f k (by omega)]
    rfl
  | succ d ih =>
    intro k i h0 h1 hd hk
    obtain ⟨k, rfl⟩ : ∃ j, k = j + 2 := ⟨k - 2, by omega⟩
    have hw : wrap64 (i + 1) = i + 1 := by unfold wrap64; omega
    have hv : wrap64 (i - 1) = i - 1 := by unfold wrap64; omega
    have next : debuggerlaw34_LinkOrder.j2 (k + 1) n (S.map S37.f1) [] i false = some true := by
      simp only [debuggerlaw34_LinkOrder.j2]
      rw [if_neg (by simp), hw]
      exact ih k (i + 1) (by omega) (by omega) (by omega) (by omega)
    obtain ⟨d1, j1, a1, b1, e1⟩ := get i h0 (by omega)
    have g1 : rd_L2 (S.map S37.f1) i = [d1, j1] := by rw [rdL2_map S i h0 (by omega), e1]
    simp only [debuggerlaw34_LinkOrder.l1, List.length_map]
    rw [if_pos (by omega), if_pos h0, g1, if_pos (by simp)]
    by_cases c : i > 0
    · obtain ⟨d0, j0, a0, b0, e0⟩ := get (i - 1) (by omega) (by omega)
      have g0 : rd_L2 (S.map S37.f1) (i - 1) = [d0, j0] := by rw [rdL2_map S (i - 1) (by omega) (by omega), e0]
      have hb := bef i (by omega) (by omega)
      rw [e0, e1] at hb
      have hb' : now + d0 < now + d1 ∨ (now + d0 = now + d1 ∧ j0 < j1) := hb
      rw [if_pos c, if_pos (by simp), hv, if_pos (by omega), if_pos (by omega), g0, if_pos (by simp)]
      show (if d1 < d0 then _ else if d1 = d0 then _ else _) = _
      rw [if_neg (by omega)]
      by_cases q : d1 = d0
      · rw [if_pos q, if_pos (by simp), if_pos (by simp)]
        have : decide (rd [d1, j1] 1 ≤ rd [d0, j0] 1) = false := decide_eq_false (show ¬ j1 ≤ j0 by omega)
        rw [this]; exact next
      · rw [if_neg q]; exact next
    · rw [if_neg c]; exact next

theorem order_l (n now : Int) (hn0 : 0 ≤ n) (hn : n < 20) (hw0 : 0 ≤ now) (hw : now < 1000) (l2 : List Int) (d : Nat) : ∀ (k : Nat) (i : Int) (l : List S37), 0 ≤ i → i ≤ n → n - i = d → Made now i l → d + 1000 ≤ k →
    debuggerlaw34_LinkOrder.l0 k n now l2 l i = some true := by
  induction d with
  | zero =>
    intro k i l h0 h1 hd hm hk
    obtain ⟨k, rfl⟩ : ∃ j, k = j + 1 := ⟨k - 1, by omega⟩
    have e3 : wrap64 (now + 3) = now + 3 := by unfold wrap64; omega
    have hlen := hm.len
    simp only [debuggerlaw34_LinkOrder.l0]
    rw [if_neg (by omega), e3, arrive_f l (now + 3) (by omega) hm.bodies k (by omega)]
    have f1 : l.filter (fun x => decide (x.f0 ≤ now + 3)) = l := List.filter_eq_self.mpr fun x hx => by
      obtain ⟨d, j, _, _, _, _, e⟩ := hm.mem x hx
      rw [e]; exact decide_eq_true (show now + d ≤ now + 3 by omega)
    have f2 : l.filter (fun x => !decide (x.f0 ≤ now + 3)) = [] := List.filter_eq_nil_iff.mpr fun x hx => by
      obtain ⟨d, j, _, _, _, _, e⟩ := hm.mem x hx
      rw [e, decide_eq_true (show now + d ≤ now + 3 by omega)]; simp
    rw [f1, f2]
    simp only [Option.bind_some]
    have hi : i = n := by omega
    subst hi
    exact check_l now i (Stab.isort S37.f0 l) (by rw [Stab.isort_len]; omega) hn (fun x hx => hm.mem x (Stab.isort_mem S37.f0 l x hx)) (isort_pair l hm.pair) i.toNat k 0 (by omega) (by omega) (by omega) (by omega)
  | succ d ih =>
    intro k i l h0 h1 hd hm hk
    obtain ⟨k, rfl⟩ : ∃ j, k = j + 1 := ⟨k - 1, by omega⟩
    have hwi : wrap64 (i + 1) = i + 1 := by unfold wrap64; omega
    simp only [debuggerlaw34_LinkOrder.l0]
    rw [if_pos (by omega)]
    by_cases c : i < (l2.length : Int)
    · obtain ⟨r, hr, hr0, hr3⟩ := mod_some (rd l2 i) 3 (by omega) (by omega)
      have hwr : wrap64 (1 + r) = 1 + r := by unfold wrap64; omega
      rw [if_pos c, if_pos h0, hr]
      simp only [Option.bind_some]
      rw [hwr, send_one now i (1 + r) l hm hw0 hw h0 (by omega) (by omega) (by omega) k (by omega)]
      simp only [Option.bind_some]
      rw [hwi]
      exact ih k (i + 1) _ (by omega) (by omega) (by omega) (hm.step h0 _ (by omega) (by omega)) (by omega)
    · rw [if_neg c]
      have hs := send_one now i 1 l hm hw0 hw h0 (by omega) (by omega) (by omega) k (by omega)
      rw [show (1 : Int) % 256 = 1 by rfl] at hs
      rw [hs]
      simp only [Option.bind_some]
      rw [hwi]
      exact ih k (i + 1) _ (by omega) (by omega) (by omega) (hm.step h0 _ (by omega) (by omega)) (by omega)

theorem LinkOrder (a0 a1 : Int) (l2 : List Int) (hw0 : l2.length * 8 ≤ 140737488351232) : ∃ n, debuggerlaw34_LinkOrder.f n a0 a1 l2 = some true := by
  obtain ⟨n, hn, hn0, hn1⟩ := mod_some a0 20 (by omega) (by omega)
  obtain ⟨w, hw, hw0, hw1⟩ := mod_some a1 1000 (by omega) (by omega)
  refine ⟨n.toNat + 1000, ?_⟩
  unfold debuggerlaw34_LinkOrder.f
  rw [hn, hw]
  simp only [Option.bind_some]
  exact order_l n w hn0 hn1 hw0 hw1 l2 n.toNat _ 0 [] (by omega) (by omega) (by omega) ⟨rfl, by simp, List.Pairwise.nil⟩ (Nat.le_refl _)
#print axioms LinkOrder

end Go.Proofs.Ytipkcbpilkoflaa.Pure
