/- The plain law behind LinkArrives: numbers and lists alone. -/
import Derived.Test.YtipkcbpilkoflaaQLinkArrivesx21
namespace Go.Proofs.Ytipkcbpilkoflaa.Pure
open Go.RowKit Go.Proofs.Ytipkcbpilkoflaa.QLinkArrives Go.Proofs.YtipkcbpilkoflaaW.PrintWords Go.Proofs.YtipkcbpilkoflaaW.PrintLast Go.Proofs.YtipkcbpilkoflaaW.PrintMore
set_option linter.unusedVariables false
set_option linter.unusedSimpArgs false

theorem mod_some (a b : Int) (h0 : 0 < b) (h1 : b ≤ 2305843009213693952) : ∃ r, debuggerkit_Mod.f a b = some r ∧ 0 ≤ r ∧ r < b := by
  unfold debuggerkit_Mod.f
  rw [if_neg (by omega)]
  have h2 : Int.tmod a b < b := Int.tmod_lt_of_pos a h0
  have h3 : -b < Int.tmod a b := by
    have := Int.lt_tmod_of_pos a h0
    omega
  by_cases h : Int.tmod a b < 0
  · rw [if_pos h]
    exact ⟨_, rfl, by unfold wrap64; omega, by unfold wrap64; omega⟩
  · rw [if_neg h]
    exact ⟨_, rfl, by omega, h2⟩

theorem rdT37_get (l : List S37) (i : Int) (h0 : 0 ≤ i) (h : i < l.length) : rd_T37 l i = l[i.toNat]'(by omega) := by
  unfold rd_T37
  rw [List.getD_eq_getElem?_getD, List.getElem?_eq_getElem (by omega)]
  rfl

theorem rd_get (l : List Int) (i : Int) (h0 : 0 ≤ i) (h : i < l.length) : rd l i = l[i.toNat]'(by omega) := by
  unfold rd
  rw [List.getD_eq_getElem?_getD, List.getElem?_eq_getElem (by omega)]
  rfl

/-! ### copies -/
theorem copies_l (l : List S37) (hl : l.length ≤ 100) (hb : ∀ j : Int, 0 ≤ j → j < l.length → (rd_T37 l j).f1.length ≤ 300) (d : Nat) : ∀ (k : Nat) (i : Int) (acc : List S37), 0 ≤ i → i ≤ l.length → (l.length : Int) - i = d → acc = l.take i.toNat → d + 1 ≤ k →
    link_copies.l0 k acc l l.length i = some l := by
  induction d with
  | zero =>
    intro k i acc h0 h1 hd ha hk
    obtain ⟨k, rfl⟩ : ∃ m, k = m + 1 := ⟨k - 1, by omega⟩
    simp only [link_copies.l0]
    rw [if_neg (by omega), ha, List.take_of_length_le (by omega)]
  | succ d ih =>
    intro k i acc h0 h1 hd ha hk
    obtain ⟨k, rfl⟩ : ∃ m, k = m + 1 := ⟨k - 1, by omega⟩
    have hw : wrap64 (i + 1) = i + 1 := by unfold wrap64; omega
    have hbi := hb i h0 (by omega)
    have hal : acc.length ≤ 100 := by rw [ha, List.length_take]; omega
    simp only [link_copies.l0]
    rw [if_pos (by omega), if_pos h0, if_pos (by omega), if_pos (by simp; omega), if_pos (by omega), hw]
    refine ih k (i + 1) _ (by omega) (by omega) (by omega) ?_ (by omega)
    have e : (i + 1).toNat = i.toNat + 1 := by omega
    rw [e, List.take_succ_eq_append_getElem (by omega), ha, rdT37_get l i h0 (by omega)]
    rfl

theorem copies_f (l : List S37) (hl : l.length ≤ 100) (hb : ∀ j : Int, 0 ≤ j → j < l.length → (rd_T37 l j).f1.length ≤ 300) (k : Nat) (hk : 101 ≤ k) : link_copies.f k l = some l :=
  copies_l l hl hb l.length k 0 [] (by omega) (by omega) (by omega) (by simp) (by omega)

/-! ### damage: what both compute -/
def hit (l : List Int) (at_ m n : Int) : List Int :=
  let l1 := if 0 ≤ at_ ∧ at_ < l.length ∧ at_ < n then l.set at_.toNat (Go.bits .xor .u8 (rd l at_) ((m / 256) % 256)) else l
  if 0 ≤ at_ + 1 ∧ at_ + 1 < l.length ∧ at_ + 1 < n then l1.set (at_ + 1).toNat (Go.bits .xor .u8 (rd l1 (at_ + 1)) (m % 256)) else l1

theorem hit_len (l : List Int) (at_ m n : Int) : (hit l at_ m n).length = l.length := by
  unfold hit
  dsimp only
  repeat' split
  all_goals simp

theorem prog_damaged (l d1 : List Int) (at_ m : Int) (hl : l.length ≤ 1000) (k : Nat) (hk : 2 ≤ k) : link_damaged.f k l d1 at_ m = some (hit l at_ m l.length) := by
  obtain ⟨k, rfl⟩ : ∃ j, k = j + 2 := ⟨k - 2, by omega⟩
  have hw : wrap64 ((l.length : Int) - 1) = (l.length : Int) - 1 := by unfold wrap64; omega
  unfold link_damaged.f
  rw [if_pos (by simp; omega)]
  simp only [Option.bind_some, List.nil_append]
  have tail : ∀ l1 : List Int, l1.length = l.length → link_damaged.j1 (k + 1) l1 d1 at_ m = some (if 0 ≤ at_ + 1 ∧ at_ + 1 < l.length ∧ at_ + 1 < l.length then l1.set (at_ + 1).toNat (Go.bits .xor .u8 (rd l1 (at_ + 1)) (m % 256)) else l1) := by
    intro l1 h1
    simp only [link_damaged.j1]
    rw [h1, hw]
    by_cases a : at_ ≥ -1
    · rw [if_pos a]
      by_cases b : at_ < (l.length : Int) - 1
      · have hv : wrap64 (at_ + 1) = at_ + 1 := by unfold wrap64; omega
        rw [if_pos b, hv, if_pos (by omega), if_pos (by omega), if_pos (by omega)]
      · rw [if_neg b, if_neg (by omega)]
    · rw [if_neg a, if_neg (by omega)]
  unfold hit
  dsimp only
  by_cases a : at_ ≥ 0
  · rw [if_pos a]
    by_cases b : at_ < (l.length : Int)
    · rw [decide_eq_true b, if_pos (show 0 ≤ at_ ∧ at_ < (l.length : Int) ∧ at_ < (l.length : Int) from ⟨a, b, b⟩)]
      simp only [link_damaged.j0, if_true]
      rw [if_pos a, if_pos b]
      exact tail _ (by simp)
    · rw [decide_eq_false b, if_neg (show ¬ (0 ≤ at_ ∧ at_ < (l.length : Int) ∧ at_ < (l.length : Int)) by omega)]
      simp only [link_damaged.j0]
      rw [if_neg (by simp)]
      exact tail l rfl
  · rw [if_neg a, if_neg (show ¬ (0 ≤ at_ ∧ at_ < (l.length : Int) ∧ at_ < (l.length : Int)) by omega)]
    simp only [link_damaged.j0]
    rw [if_neg (by simp)]
    exact tail l rfl

theorem xor_zero_u8 (x : Int) (h0 : 0 ≤ x) (h1 : x ≤ 255) : Go.bits .xor .u8 x 0 = x := by
  unfold Go.bits
  have e : (BitVec.ofInt (IntKind.bits .u8) x ^^^ BitVec.ofInt (IntKind.bits .u8) 0) = BitVec.ofInt 8 x := by
    show BitVec.ofInt 8 x ^^^ BitVec.ofInt 8 0 = BitVec.ofInt 8 x
    simp
  simp only [e]
  have t : (BitVec.ofInt 8 x).toNat = x.toNat := by
    rw [BitVec.toNat_ofInt]
    congr 1
    omega
  show IntKind.wrap .u8 (((BitVec.ofInt 8 x).toNat : Nat) : Int) = x
  rw [t]
  unfold IntKind.wrap
  simp [IntKind.bits, IntKind.signed]
  omega

/-! ### Send -/
def copy (b : List Int) (at_ m now : Int) (d : Int) : S37 := ⟨wrap64 (now + (mn (mx d 1) 100)), hit b at_ m b.length⟩

theorem prog_send_l (b d1 : List Int) (at_ m now : Int) (hb : b.length ≤ 1000) (ys : List Int) (hy : ys.length ≤ 8) (d : Nat) : ∀ (k : Nat) (i : Int) (acc : List S37), 0 ≤ i → i ≤ ys.length → (ys.length : Int) - i = d → acc.length + d ≤ 1000 → d + 3 ≤ k →
    link_Send.l0 k b now acc ys ys.length i d1 at_ m = some (acc ++ (ys.drop i.toNat).map (copy b at_ m now)) := by
  induction d with
  | zero =>
    intro k i acc h0 h1 hd ha hk
    obtain ⟨k, rfl⟩ : ∃ j, k = j + 1 := ⟨k - 1, by omega⟩
    simp only [link_Send.l0]
    rw [if_neg (by omega), List.drop_of_length_le (by omega)]
    simp
  | succ d ih =>
    intro k i acc h0 h1 hd ha hk
    obtain ⟨k, rfl⟩ : ∃ j, k = j + 1 := ⟨k - 1, by omega⟩
    have hw : wrap64 (i + 1) = i + 1 := by unfold wrap64; omega
    simp only [link_Send.l0]
    rw [if_pos (by omega), if_pos h0, if_pos (by omega), prog_damaged b d1 at_ m hb k (by omega)]
    simp only [Option.bind_some]
    rw [if_pos (by omega), hw, ih k (i + 1) _ (by omega) (by omega) (by omega) (by simp; omega) (by omega)]
    have e : (i + 1).toNat = i.toNat + 1 := by omega
    rw [e, List.drop_eq_getElem_cons (show i.toNat < ys.length by omega), rd_get ys i h0 (by omega), List.map_cons, List.append_assoc]
    rfl

theorem mn8 (n : Nat) : mn (n : Int) 8 = ((min n 8 : Nat) : Int) := by unfold mn; split <;> omega

theorem prog_send (l : List S37) (d1 : List Int) (at_ m : Int) (b : List Int) (now : Int) (hl : l.length ≤ 100) (hlb : ∀ j : Int, 0 ≤ j → j < l.length → (rd_T37 l j).f1.length ≤ 300) (hb : b.length ≤ 1000) (k : Nat) (hk : 110 ≤ k) :
    link_Send.f k l d1 at_ m b now = some (l ++ (d1.take 8).map (copy b at_ m now)) := by
  unfold link_Send.f
  rw [copies_f l hl hlb k (by omega), mn8]
  simp only [Option.bind_some]
  rw [if_pos (by omega), if_pos (by omega)]
  have e : List.take (((min d1.length 8 : Nat) : Int)).toNat d1 = d1.take 8 := by
    rw [Int.toNat_natCast]
    by_cases h : d1.length ≤ 8
    · rw [List.take_of_length_le (by omega), List.take_of_length_le h]
    · rw [Nat.min_eq_right (by omega)]
  rw [e]
  have h8 : (d1.take 8).length ≤ 8 := by rw [List.length_take]; omega
  rw [prog_send_l b d1 at_ m now hb (d1.take 8) h8 (d1.take 8).length k 0 l (by omega) (by omega) (by omega) (by omega) (by omega)]
  simp


/-! ### no damage -/
theorem rd_byte (l : List Int) (hb : ∀ x ∈ l, 0 ≤ x ∧ x ≤ 255) (i : Int) (h0 : 0 ≤ i) (h : i < l.length) : 0 ≤ rd l i ∧ rd l i ≤ 255 := by
  rw [rd_get l i h0 h]; exact hb _ (List.getElem_mem _)
theorem set_same (l : List Int) (hb : ∀ x ∈ l, 0 ≤ x ∧ x ≤ 255) (i : Int) (h0 : 0 ≤ i) (h : i < l.length) : l.set i.toNat (Go.bits .xor .u8 (rd l i) 0) = l := by
  have hr := rd_byte l hb i h0 h
  rw [xor_zero_u8 _ hr.1 hr.2, rd_get l i h0 h]
  simp
theorem hit_none (l : List Int) (hb : ∀ x ∈ l, 0 ≤ x ∧ x ≤ 255) (at_ n : Int) : hit l at_ 0 n = l := by
  unfold hit
  dsimp only
  rw [show (0 : Int) / 256 % 256 = 0 by rfl, show (0 : Int) % 256 = 0 by rfl]
  have e : (if 0 ≤ at_ ∧ at_ < (l.length : Int) ∧ at_ < n then l.set at_.toNat (Go.bits .xor .u8 (rd l at_) 0) else l) = l := by
    split
    · next c => exact set_same l hb at_ c.1 c.2.1
    · rfl
  rw [e]
  split
  · next c => exact set_same l hb (at_ + 1) c.1 c.2.1
  · rfl
theorem copy_none (b : List Int) (hb : ∀ x ∈ b, 0 ≤ x ∧ x ≤ 255) (now d : Int) : copy b 0 0 now d = ⟨wrap64 (now + (mn (mx d 1) 100)), b⟩ := by
  unfold copy
  rw [hit_none b hb]

/-! ### Arrive -/
theorem rdT37_drop (l : List S37) (i : Int) (h0 : 0 ≤ i) (h : i < l.length) : l.drop i.toNat = rd_T37 l i :: l.drop (i + 1).toNat := by
  rw [rdT37_get l i h0 h, List.drop_eq_getElem_cons (show i.toNat < l.length by omega), show (i + 1).toNat = i.toNat + 1 by omega]
theorem s37_eta (x : S37) : (⟨x.f0, x.f1⟩ : S37) = x := rfl
theorem arrive_out (rest : List S37) (ys : List S37) (hy : ys.length ≤ 1000) (d : Nat) : ∀ (k : Nat) (i : Int) (acc : List (List Int)), 0 ≤ i → i ≤ ys.length → (ys.length : Int) - i = d → acc.length + d ≤ 1000 → d + 1 ≤ k →
    link_Arrive.l1 k rest acc ys ys.length i = some (acc ++ (ys.drop i.toNat).map S37.f1, rest) := by
  induction d with
  | zero =>
    intro k i acc h0 h1 hd ha hk
    obtain ⟨k, rfl⟩ : ∃ j, k = j + 1 := ⟨k - 1, by omega⟩
    simp only [link_Arrive.l1]
    rw [if_neg (by omega), List.drop_of_length_le (by omega)]
    simp
  | succ d ih =>
    intro k i acc h0 h1 hd ha hk
    obtain ⟨k, rfl⟩ : ∃ j, k = j + 1 := ⟨k - 1, by omega⟩
    have hw : wrap64 (i + 1) = i + 1 := by unfold wrap64; omega
    simp only [link_Arrive.l1]
    rw [if_pos (by omega), if_pos h0, if_pos (by omega), if_pos (by omega), hw, ih k (i + 1) _ (by omega) (by omega) (by omega) (by simp; omega) (by omega), rdT37_drop ys i h0 (by omega), List.map_cons, List.append_assoc]
    rfl
theorem arrive_l (now : Int) (l : List S37) (hl : l.length ≤ 100) (d : Nat) : ∀ (k : Nat) (i : Int) (rest due : List S37), 0 ≤ i → i ≤ l.length → (l.length : Int) - i = d → rest.length + d ≤ 200 → due.length + d ≤ 200 → d + 300 ≤ k →
    link_Arrive.l0 k now rest l l.length i due = some ((Stab.isort S37.f0 (due ++ (l.drop i.toNat).filter (fun x => decide (x.f0 ≤ now)))).map S37.f1, rest ++ (l.drop i.toNat).filter (fun x => !decide (x.f0 ≤ now))) := by
  induction d with
  | zero =>
    intro k i rest due h0 h1 hd hr hu hk
    obtain ⟨k, rfl⟩ : ∃ j, k = j + 1 := ⟨k - 1, by omega⟩
    simp only [link_Arrive.l0]
    rw [if_neg (by omega), List.drop_of_length_le (by omega)]
    unfold sort_SliceStable.f
    rw [if_pos (by omega)]
    simp only [Option.bind_some, List.filter_nil, List.append_nil]
    have hs : (Stab.isort S37.f0 due).length = due.length := Stab.isort_len _ _
    rw [arrive_out rest _ (by omega) (Stab.isort S37.f0 due).length k 0 [] (by omega) (by omega) (by omega) (by simp; omega) (by omega)]
    simp
  | succ d ih =>
    intro k i rest due h0 h1 hd hr hu hk
    obtain ⟨k, rfl⟩ : ∃ j, k = j + 1 := ⟨k - 1, by omega⟩
    have hw : wrap64 (i + 1) = i + 1 := by unfold wrap64; omega
    simp only [link_Arrive.l0]
    rw [if_pos (by omega), if_pos h0, if_pos (by omega), rdT37_drop l i h0 (by omega), hw, List.filter_cons, List.filter_cons, s37_eta]
    by_cases c : (rd_T37 l i).f0 ≤ now
    · rw [if_pos c, if_pos (by omega), ih k (i + 1) _ _ (by omega) (by omega) (by omega) (by omega) (by simp; omega) (by omega), decide_eq_true c]
      simp
    · rw [if_neg c, if_pos (by omega), ih k (i + 1) _ _ (by omega) (by omega) (by omega) (by simp; omega) (by omega) (by omega), decide_eq_false c]
      simp
theorem arrive_f (l : List S37) (now : Int) (hl : l.length ≤ 100) (hb : ∀ j : Int, 0 ≤ j → j < l.length → (rd_T37 l j).f1.length ≤ 300) (k : Nat) (hk : 400 ≤ k) :
    link_Arrive.f k l now = some ((Stab.isort S37.f0 (l.filter (fun x => decide (x.f0 ≤ now)))).map S37.f1, l.filter (fun x => !decide (x.f0 ≤ now))) := by
  unfold link_Arrive.f
  rw [copies_f l hl hb k (by omega)]
  simp only [Option.bind_some]
  rw [arrive_l now l hl l.length k 0 [] [] (by omega) (by omega) (by omega) (by simp; omega) (by simp; omega) (by omega)]
  simp
theorem awake_f (k : Nat) (hk : 500 ≤ k) : debuggerlaw34_awake.f k = some true := by
  have h1 : link_FateOf.f ([] : List S25) 5 = some ([1], 0, 0) := by
    unfold link_FateOf.f
    rw [if_neg (by omega), if_pos (by simp)]
  have h2 : link_Send.f k ([] : List S37) [1] 0 0 [7] 3 = some [⟨4, [7]⟩] := by
    rw [prog_send [] [1] 0 0 [7] 3 (by simp) (fun j h0 h => by simp at h; omega) (by simp) k (by omega)]
    show some [copy [7] 0 0 3 1] = _
    rw [copy_none [7] (by simp)]
    have e1 : mn (mx 1 1) 100 = 1 := by unfold mn mx; split <;> split <;> omega
    have e2 : wrap64 (3 + 1) = 4 := by unfold wrap64; omega
    rw [e1, e2]
  have h3 := arrive_f [⟨4, [7]⟩] 4 (by simp) (fun j h0 h => by
    have : j = 0 := by simp at h; omega
    subst this
    show ([7] : List Int).length ≤ 300
    simp) k (by omega)
  have h4 : ([⟨4, [7]⟩] : List S37).filter (fun x => decide (x.f0 ≤ 4)) = [⟨4, [7]⟩] := rfl
  have h5 : ([⟨4, [7]⟩] : List S37).filter (fun x => !decide (x.f0 ≤ 4)) = [] := rfl
  rw [h4, h5, Stab.isort_one] at h3
  unfold debuggerlaw34_awake.f
  rw [h1]
  simp only [Option.bind_some]
  rw [h2]
  simp only [Option.bind_some]
  rw [h3]
  rfl


/-! ### the guard -/
theorem large_l (l : List S37) (d : Nat) : ∀ (k : Nat) (i : Int), 0 ≤ i → i ≤ l.length → i ≤ 30 → 30 - i = d → 2 * d + 4 ≤ k →
    ∃ t, debuggerlaw34_large.l0 k l i = some t ∧ (t = false → l.length ≤ 30 ∧ ∀ j : Int, i ≤ j → j < l.length → (rd_T37 l j).f1.length ≤ 300) := by
  have fin : ∀ (k : Nat) (i : Int), 2 ≤ k → 0 ≤ i → i ≤ l.length → (¬ i < (l.length : Int) ∨ ¬ i < 30) → (i = l.length ∨ 30 ≤ i) →
      ∃ t, debuggerlaw34_large.l0 k l i = some t ∧ (t = false → l.length ≤ 30 ∧ ∀ j : Int, i ≤ j → j < l.length → (rd_T37 l j).f1.length ≤ 300) := by
    intro k i hk h0 h1 hn he
    obtain ⟨k, rfl⟩ : ∃ m, k = m + 2 := ⟨k - 2, by omega⟩
    refine ⟨decide ((l.length : Int) > 30), ?_, ?_⟩
    · simp only [debuggerlaw34_large.l0]
      by_cases h : i < (l.length : Int)
      · rw [if_pos h, decide_eq_false (show ¬ i < 30 by omega)]
        simp only [debuggerlaw34_large.j1]
        rw [if_neg (by simp)]
      · rw [if_neg h]
        simp only [debuggerlaw34_large.j1]
        rw [if_neg (by simp)]
    · intro ht
      have := of_decide_eq_false ht
      exact ⟨by omega, fun j hj hl => by omega⟩
  induction d with
  | zero =>
    intro k i h0 h1 h30 hd hk
    exact fin k i (by omega) h0 h1 (by omega) (by omega)
  | succ d ih =>
    intro k i h0 h1 h30 hd hk
    by_cases h : i < (l.length : Int)
    · obtain ⟨k, rfl⟩ : ∃ m, k = m + 2 := ⟨k - 2, by omega⟩
      have hw : wrap64 (i + 1) = i + 1 := by unfold wrap64; omega
      simp only [debuggerlaw34_large.l0]
      rw [if_pos h, decide_eq_true (show i < 30 by omega)]
      simp only [debuggerlaw34_large.j1, if_true]
      rw [if_pos h0, if_pos h]
      by_cases hb : ((rd_T37 l i).f1.length : Int) > 300
      · rw [if_pos hb]
        exact ⟨true, rfl, fun h => by cases h⟩
      · rw [if_neg hb, hw]
        obtain ⟨t, ht, hp⟩ := ih k (i + 1) (by omega) (by omega) (by omega) (by omega) (by omega)
        refine ⟨t, ht, fun hf => ?_⟩
        obtain ⟨a, b⟩ := hp hf
        refine ⟨a, fun j hj hl => ?_⟩
        by_cases e : j = i
        · subst e; omega
        · exact b j (by omega) hl
    · exact fin k i (by omega) h0 h1 (.inl h) (by omega)



theorem same_l (l : List S37) (hl : l.length ≤ 1000) (d : Nat) : ∀ (k : Nat) (i : Int), 0 ≤ i → i ≤ l.length → (l.length : Int) - i = d → d + 1 ≤ k → debuggerref34_Same.l0 k l l i = some true := by
  induction d with
  | zero =>
    intro k i h0 h1 hd hk
    obtain ⟨k, rfl⟩ : ∃ j, k = j + 1 := ⟨k - 1, by omega⟩
    simp only [debuggerref34_Same.l0]
    rw [if_neg (by omega)]
  | succ d ih =>
    intro k i h0 h1 hd hk
    obtain ⟨k, rfl⟩ : ∃ j, k = j + 1 := ⟨k - 1, by omega⟩
    have hw : wrap64 (i + 1) = i + 1 := by unfold wrap64; omega
    simp only [debuggerref34_Same.l0]
    rw [if_pos (by omega), if_pos h0, if_pos (by omega)]
    simp only [if_true]
    rw [hw]
    exact ih k (i + 1) (by omega) (by omega) (by omega) (by omega)

theorem same_f (l : List S37) (hl : l.length ≤ 1000) (k : Nat) (hk : 1001 ≤ k) : debuggerref34_Same.f k l l = some true := by
  unfold debuggerref34_Same.f
  rw [if_pos rfl]
  exact same_l l hl l.length k 0 (by omega) (by omega) (by omega) (by omega)



/-! ### what the document's Arrive answers -/
theorem ins_eq (A : List S37) (x : S37) (j : Nat) (hj : j ≤ A.length) (hs : A.Pairwise (Stab.LeK S37.f0))
    (h1 : j = 0 ∨ ∃ h : j - 1 < A.length, (A[j - 1]'h).f0 ≤ x.f0) (h2 : ∀ y ∈ A.drop j, x.f0 < y.f0) :
    Stab.mrg S37.f0 A [x] = A.take j ++ [x] ++ A.drop j := by
  have h3 : ∀ y ∈ A.take j, ¬ x.f0 < y.f0 := by
    rcases h1 with rfl | ⟨hl, h⟩
    · simp
    · intro y hy
      obtain ⟨i, hi, rfl⟩ := List.mem_iff_getElem.mp hy
      rw [List.length_take] at hi
      rw [List.getElem_take]
      by_cases e : i = j - 1
      · subst e; omega
      · have := List.pairwise_iff_getElem.mp hs i (j - 1) (by omega) hl (by omega)
        have : (A[i]'(by omega)).f0 ≤ (A[j - 1]'hl).f0 := this
        omega
  have e1 := Stab.mrg_split S37.f0 _ (A.take j) (A.drop j) [x] [] (Nat.le_refl _) (by simp) (fun u hu v hv => by
    rw [List.mem_singleton] at hv; subst hv; exact h2 u hu)
  have e2 := Stab.mrg_split S37.f0 _ (A.take j) [] [] [x] (Nat.le_refl _) (fun u hu v hv => by
    rw [List.mem_singleton] at hv; subst hv; exact h3 u hu) (by simp)
  rw [List.take_append_drop, List.append_nil, Stab.mrg_right] at e1
  rw [List.append_nil, List.nil_append, Stab.mrg_right, Stab.mrg_nil] at e2
  rw [e1, e2]

theorem ref_out (rest due : List S37) (hb : ∀ x ∈ due, x.f1.length ≤ 300) (hy : due.length ≤ 1000) (d : Nat) : ∀ (k : Nat) (i : Int) (acc : List (List Int)), 0 ≤ i → i ≤ due.length → (due.length : Int) - i = d → acc.length + d ≤ 1000 → d + 1 ≤ k →
    debuggerref34_Arrive.l2 k due rest acc i = some (acc ++ (due.drop i.toNat).map S37.f1, rest) := by
  induction d with
  | zero =>
    intro k i acc h0 h1 hd ha hk
    obtain ⟨k, rfl⟩ : ∃ j, k = j + 1 := ⟨k - 1, by omega⟩
    simp only [debuggerref34_Arrive.l2]
    rw [if_neg (by omega), List.drop_of_length_le (by omega)]
    simp
  | succ d ih =>
    intro k i acc h0 h1 hd ha hk
    obtain ⟨k, rfl⟩ : ∃ j, k = j + 1 := ⟨k - 1, by omega⟩
    have hw : wrap64 (i + 1) = i + 1 := by unfold wrap64; omega
    have hx : (rd_T37 due i).f1.length ≤ 300 := by rw [rdT37_get due i h0 (by omega)]; exact hb _ (List.getElem_mem _)
    simp only [debuggerref34_Arrive.l2, Option.bind_some, List.nil_append]
    rw [if_pos (by omega), if_pos h0, if_pos (by simp; omega), if_pos (by omega), hw, ih k (i + 1) _ (by omega) (by omega) (by omega) (by simp; omega) (by omega), rdT37_drop due i h0 (by omega), List.map_cons, List.append_assoc]
    rfl

/-- the inner loop, with what comes behind it (as a fact of what the outer loop answers) -/
theorem ref_in (l : List S37) (now : Int) (due rest : List S37) (i : Int) (hi0 : 0 ≤ i) (hil : i < l.length) (hs : due.Pairwise (Stab.LeK S37.f0)) (hdl : due.length ≤ 100) (R : Option ((List (List Int)) × (List S37))) (d : Nat) :
    ∀ (k : Nat) (m : Int), 0 ≤ m → m ≤ due.length → m = d → (∀ y ∈ due.drop m.toNat, (rd_T37 l i).f0 < y.f0) → d + 1 ≤ k →
      (∀ k', k - d - 1 ≤ k' → k' ≤ k → debuggerref34_Arrive.l0 k' l now (Stab.mrg S37.f0 due [rd_T37 l i]) rest (wrap64 (i + 1)) = R) →
      debuggerref34_Arrive.l1 k l now due rest i m = R := by
  have fin : ∀ (k : Nat) (m : Int), 0 ≤ m → m ≤ due.length → (∀ y ∈ due.drop m.toNat, (rd_T37 l i).f0 < y.f0) → (m.toNat = 0 ∨ ∃ h : m.toNat - 1 < due.length, (due[m.toNat - 1]'h).f0 ≤ (rd_T37 l i).f0) →
      debuggerref34_Arrive.l0 k l now (Stab.mrg S37.f0 due [rd_T37 l i]) rest (wrap64 (i + 1)) = R →
      debuggerref34_Arrive.l0 k l now (due.take m.toNat ++ [rd_T37 l i] ++ due.drop m.toNat) rest (wrap64 (i + 1)) = R := by
    intro k m h0 h1 h2 h3 hR
    rw [← ins_eq due (rd_T37 l i) m.toNat (by omega) hs h3 h2]
    exact hR
  induction d with
  | zero =>
    intro k m h0 h1 hd h2 hk hR
    obtain ⟨k, rfl⟩ : ∃ j, k = j + 1 := ⟨k - 1, by omega⟩
    have hm : m = 0 := by omega
    subst hm
    simp only [debuggerref34_Arrive.l1, Option.bind_some, List.nil_append, s37_eta]
    rw [if_neg (by omega), if_pos (by omega), if_pos h1, if_pos (by simp), if_pos hi0, if_pos hil, if_pos (by simp), if_pos (by simp; omega)]
    exact fin k 0 h0 h1 h2 (.inl rfl) (hR k (by omega) (by omega))
  | succ d ih =>
    intro k m h0 h1 hd h2 hk hR
    obtain ⟨k, rfl⟩ : ∃ j, k = j + 1 := ⟨k - 1, by omega⟩
    have hw : wrap64 (m - 1) = m - 1 := by unfold wrap64; omega
    simp only [debuggerref34_Arrive.l1, Option.bind_some, List.nil_append, s37_eta]
    rw [hw, if_pos (by omega), if_pos (by omega), if_pos (by omega), if_pos hi0, if_pos hil]
    by_cases c : (rd_T37 due (m - 1)).f0 > (rd_T37 l i).f0
    · rw [if_pos c]
      refine ih k (m - 1) (by omega) (by omega) (by omega) ?_ (by omega) (fun k' a b => hR k' (by omega) (by omega))
      rw [rdT37_drop due (m - 1) (by omega) (by omega), show m - 1 + 1 = m by omega]
      intro y hy
      rcases List.mem_cons.mp hy with rfl | hy
      · exact c
      · exact h2 y hy
    · rw [if_neg c, if_pos h0, if_pos h1, if_pos (by simp; omega), if_pos (by simp; omega), if_pos (by simp; omega)]
      refine fin k m h0 h1 h2 (.inr ⟨by omega, ?_⟩) (hR k (by omega) (by omega))
      rw [rdT37_get due (m - 1) (by omega) (by omega)] at c
      have e : (m - 1).toNat = m.toNat - 1 := by omega
      simp only [e] at c
      omega

theorem filter_body {l : List S37} (hb : ∀ x ∈ l, x.f1.length ≤ 300) (p : S37 → Bool) : ∀ x ∈ Stab.isort S37.f0 (l.filter p), x.f1.length ≤ 300 := fun x hx =>
  hb x (List.mem_filter.mp (Stab.isort_mem S37.f0 _ x hx)).1

theorem ref_l (now : Int) (l : List S37) (hl : l.length ≤ 100) (hb : ∀ x ∈ l, x.f1.length ≤ 300) (d : Nat) : ∀ (k : Nat) (i : Int) (rest due : List S37), 0 ≤ i → i ≤ l.length → (l.length : Int) - i = d → rest.length + d ≤ 200 → due.length + d ≤ 100 → (∀ x ∈ due, x.f1.length ≤ 300) → d * 110 + 300 ≤ k →
    debuggerref34_Arrive.l0 k l now (Stab.isort S37.f0 due) rest i = some ((Stab.isort S37.f0 (due ++ (l.drop i.toNat).filter (fun x => decide (x.f0 ≤ now)))).map S37.f1, rest ++ (l.drop i.toNat).filter (fun x => !decide (x.f0 ≤ now))) := by
  induction d with
  | zero =>
    intro k i rest due h0 h1 hd hr hu hbd hk
    obtain ⟨k, rfl⟩ : ∃ j, k = j + 1 := ⟨k - 1, by omega⟩
    simp only [debuggerref34_Arrive.l0]
    have hs : (Stab.isort S37.f0 due).length = due.length := Stab.isort_len _ _
    rw [if_neg (by omega), List.drop_of_length_le (by omega)]
    rw [ref_out rest _ (fun x hx => hbd x (Stab.isort_mem S37.f0 _ x hx)) (by omega) (Stab.isort S37.f0 due).length k 0 [] (by omega) (by omega) (by omega) (by simp; omega) (by omega)]
    simp
  | succ d ih =>
    intro k i rest due h0 h1 hd hr hu hbd hk
    obtain ⟨k, rfl⟩ : ∃ j, k = j + 1 := ⟨k - 1, by omega⟩
    have hw : wrap64 (i + 1) = i + 1 := by unfold wrap64; omega
    have hs : (Stab.isort S37.f0 due).length = due.length := Stab.isort_len _ _
    have hx : (rd_T37 l i).f1.length ≤ 300 := by rw [rdT37_get l i h0 (by omega)]; exact hb _ (List.getElem_mem _)
    simp only [debuggerref34_Arrive.l0]
    rw [if_pos (by omega), if_pos h0, rdT37_drop l i h0 (by omega), List.filter_cons, List.filter_cons, s37_eta]
    by_cases c : (rd_T37 l i).f0 > now
    · rw [if_pos c, if_pos (by omega), hw, ih k (i + 1) _ _ (by omega) (by omega) (by omega) (by simp; omega) (by omega) hbd (by omega), decide_eq_false (show ¬ (rd_T37 l i).f0 ≤ now by omega)]
      simp
    · rw [if_neg c, decide_eq_true (show (rd_T37 l i).f0 ≤ now by omega)]
      have e : Stab.mrg S37.f0 (Stab.isort S37.f0 due) [rd_T37 l i] = Stab.isort S37.f0 (due ++ [rd_T37 l i]) := by
        rw [Stab.isort_append, Stab.isort_one]
      refine ref_in l now (Stab.isort S37.f0 due) rest i h0 (by omega) (Stab.isort_sorted S37.f0 due) (by omega) _ due.length k _ (by omega) (by omega) (by omega) ?_ (by omega) ?_
      · rw [List.drop_of_length_le (by omega)]; simp
      · intro k' a b
        rw [e, hw, ih k' (i + 1) _ _ (by omega) (by omega) (by omega) (by omega) (by simp; omega) (fun x hx' => ?_) (by omega)]
        · simp
        · rcases List.mem_append.mp hx' with hx' | hx'
          · exact hbd x hx'
          · rw [List.mem_singleton] at hx'; rw [hx']; exact hx
theorem ref_f (l : List S37) (now : Int) (hl : l.length ≤ 50) (hb : ∀ x ∈ l, x.f1.length ≤ 300) (k : Nat) (hk : 6000 ≤ k) :
    debuggerref34_Arrive.f k l now = some ((Stab.isort S37.f0 (l.filter (fun x => decide (x.f0 ≤ now)))).map S37.f1, l.filter (fun x => !decide (x.f0 ≤ now))) := by
  unfold debuggerref34_Arrive.f
  have := ref_l now l (by omega) hb l.length k 0 [] [] (by omega) (by omega) (by omega) (by simp; omega) (by simp; omega) (by simp) (by omega)
  rw [show Stab.isort S37.f0 ([] : List S37) = [] by rw [Stab.isort]] at this
  rw [this]
  simp

/-! ### the comparisons -/
theorem bodies_l (l : List (List Int)) (hl : l.length ≤ 1000) (d : Nat) : ∀ (k : Nat) (i : Int), 0 ≤ i → i ≤ l.length → (l.length : Int) - i = d → d + 1 ≤ k → debuggerref34_Bodies.l0 k l l i = some true := by
  induction d with
  | zero =>
    intro k i h0 h1 hd hk
    obtain ⟨k, rfl⟩ : ∃ j, k = j + 1 := ⟨k - 1, by omega⟩
    simp only [debuggerref34_Bodies.l0]
    rw [if_neg (by omega)]
  | succ d ih =>
    intro k i h0 h1 hd hk
    obtain ⟨k, rfl⟩ : ∃ j, k = j + 1 := ⟨k - 1, by omega⟩
    have hw : wrap64 (i + 1) = i + 1 := by unfold wrap64; omega
    simp only [debuggerref34_Bodies.l0]
    rw [if_pos (by omega), if_pos h0, if_pos (by omega), if_pos trivial, hw]
    exact ih k (i + 1) (by omega) (by omega) (by omega) (by omega)
theorem bodies_f (l : List (List Int)) (hl : l.length ≤ 1000) (k : Nat) (hk : 1001 ≤ k) : debuggerref34_Bodies.f k l l = some true := by
  unfold debuggerref34_Bodies.f
  rw [if_pos rfl]
  exact bodies_l l hl l.length k 0 (by omega) (by omega) (by omega) (by omega)

/-! ### the loops of the law -/
structure Fine (l : List S37) : Prop where
  len : l.length ≤ 30
  bod : ∀ x ∈ l, x.f1.length ≤ 300
theorem Fine.rd {l : List S37} (h : Fine l) : ∀ j : Int, 0 ≤ j → j < l.length → (rd_T37 l j).f1.length ≤ 300 := fun j h0 h1 => by
  rw [rdT37_get l j h0 h1]; exact h.bod _ (List.getElem_mem _)
theorem arr_l2 (now : Int) (x : List S37) (hx : Fine x) (L : List (List S37)) (n i : Int) (q : List Int) (hq : q.length ≤ 10) (d : Nat) : ∀ (k : Nat) (j : Int), 0 ≤ j → j ≤ q.length → (q.length : Int) - j = d → 7000 + d ≤ k →
    (∀ k', k - d - 1 ≤ k' → k' ≤ k → debuggerlaw34_LinkArrives.l1 k' now L n (wrap64 (i + 1)) = some true) →
    debuggerlaw34_LinkArrives.l2 k now x L n i q q.length j = some true := by
  induction d with
  | zero =>
    intro k j h0 h1 hd hk hR
    obtain ⟨k, rfl⟩ : ∃ m, k = m + 1 := ⟨k - 1, by omega⟩
    simp only [debuggerlaw34_LinkArrives.l2]
    rw [if_neg (by omega)]
    exact hR k (by omega) (by omega)
  | succ d ih =>
    intro k j h0 h1 hd hk hR
    obtain ⟨k, rfl⟩ : ∃ m, k = m + 1 := ⟨k - 1, by omega⟩
    have hw : wrap64 (j + 1) = j + 1 := by unfold wrap64; omega
    have hl := hx.len
    have hs : (Stab.isort S37.f0 (x.filter (fun y => decide (y.f0 ≤ rd q j)))).length ≤ 30 := by
      rw [Stab.isort_len]; exact Nat.le_trans (List.length_filter_le _ _) hl
    have hf : (x.filter (fun y => !decide (y.f0 ≤ rd q j))).length ≤ 30 := Nat.le_trans (List.length_filter_le _ _) hl
    simp only [debuggerlaw34_LinkArrives.l2]
    rw [if_pos (by omega), if_pos h0, if_pos (by omega), arrive_f x _ (by omega) hx.rd k (by omega)]
    simp only [Option.bind_some]
    rw [ref_f x _ (by omega) hx.bod k (by omega)]
    simp only [Option.bind_some]
    rw [bodies_f _ (by simp; omega) k (by omega)]
    simp only [Option.bind_some, if_true]
    rw [same_f _ (by omega) k (by omega)]
    simp only [Option.bind_some, if_true]
    rw [hw]
    exact ih k (j + 1) (by omega) (by omega) (by omega) (by omega) (fun k' a b => hR k' (by omega) (by omega))
theorem arr_l1 (now : Int) (L : List (List S37)) (hL : ∀ x ∈ L, Fine x) (hn : L.length ≤ 10) (d : Nat) : ∀ (k : Nat) (i : Int), 0 ≤ i → i ≤ L.length → (L.length : Int) - i = d → 8000 + 20 * d ≤ k →
    debuggerlaw34_LinkArrives.l1 k now L L.length i = some true := by
  induction d with
  | zero =>
    intro k i h0 h1 hd hk
    obtain ⟨k, rfl⟩ : ∃ m, k = m + 1 := ⟨k - 1, by omega⟩
    simp only [debuggerlaw34_LinkArrives.l1]
    rw [if_neg (by omega), awake_f k (by omega)]
    rfl
  | succ d ih =>
    intro k i h0 h1 hd hk
    obtain ⟨k, rfl⟩ : ∃ m, k = m + 1 := ⟨k - 1, by omega⟩
    have hw : wrap64 (i + 1) = i + 1 := by unfold wrap64; omega
    obtain ⟨t, ht, _, _⟩ := mod_some now 7 (by omega) (by omega)
    simp only [debuggerlaw34_LinkArrives.l1]
    rw [if_pos (by omega), if_pos h0, if_pos (by omega), ht]
    simp only [Option.bind_some]
    have hf : Fine (rd_L6 L i) := by
      unfold rd_L6
      rw [List.getD_eq_getElem?_getD, List.getElem?_eq_getElem (by omega)]
      exact hL _ (List.getElem_mem _)
    refine arr_l2 now (rd_L6 L i) hf L L.length i [now, t] (by simp) 2 k 0 (by omega) (by simp) (by simp) (by omega) (fun k' a b => ?_)
    rw [hw]
    exact ih k' (i + 1) (by omega) (by omega) (by omega) (by omega)
theorem arr_l0 (now : Int) (l : List S37) (hl : Fine l) (d : Nat) : ∀ (k : Nat) (x : List S37) (i : Int), Fine x → x.length = l.length → 0 ≤ i → i ≤ l.length → (l.length : Int) - i = d → 9000 + d ≤ k →
    debuggerlaw34_LinkArrives.l0 k l now x i = some true := by
  induction d with
  | zero =>
    intro k x i hx hlen h0 h1 hd hk
    obtain ⟨k, rfl⟩ : ∃ m, k = m + 1 := ⟨k - 1, by omega⟩
    simp only [debuggerlaw34_LinkArrives.l0, Option.bind_some]
    rw [if_neg (by omega)]
    exact arr_l1 now [l, x] (fun y hy => by
      rcases List.mem_cons.mp hy with rfl | hy
      · exact hl
      · rw [List.mem_singleton] at hy; subst hy; exact hx) (by simp) 2 k 0 (by omega) (by simp) (by simp) (by omega)
  | succ d ih =>
    intro k x i hx hlen h0 h1 hd hk
    obtain ⟨k, rfl⟩ : ∃ m, k = m + 1 := ⟨k - 1, by omega⟩
    have hlen' := hl.len
    have hw : wrap64 (i + 1) = i + 1 := by unfold wrap64; omega
    obtain ⟨t, ht, _, _⟩ := mod_some (rd_T37 x i).f0 6 (by omega) (by omega)
    simp only [debuggerlaw34_LinkArrives.l0]
    rw [if_pos (by omega), if_pos h0, ht]
    simp only [Option.bind_some]
    rw [hw]
    refine ih k _ (i + 1) ⟨by rw [List.length_set]; exact hx.len, fun y hy => ?_⟩ (by rw [List.length_set]; exact hlen) (by omega) (by omega) (by omega) (by omega)
    rcases List.mem_or_eq_of_mem_set hy with hy | rfl
    · exact hx.bod y hy
    · exact hx.rd i h0 (by omega)
theorem LinkArrives (l : List S37) (now : Int) : ∃ k, debuggerlaw34_LinkArrives.f k l now = some true := by
  obtain ⟨K, hK⟩ : ∃ K, 10000 ≤ K := ⟨10000, Nat.le_refl _⟩
  refine ⟨K, ?_⟩
  obtain ⟨t, ht, hp⟩ := large_l l 30 K 0 (by omega) (by omega) (by omega) (by omega) (by omega)
  unfold debuggerlaw34_LinkArrives.f debuggerlaw34_large.f
  rw [ht]
  simp only [Option.bind_some, List.nil_append, List.length_nil, Nat.zero_add]
  by_cases c : t = true
  · rw [if_pos c, awake_f K (by omega)]; rfl
  · rw [if_neg c]
    obtain ⟨h1, h2⟩ := hp (by simpa using c)
    have hf : Fine l := ⟨h1, fun x hx => by
      obtain ⟨i, hi, rfl⟩ := List.mem_iff_getElem.mp hx
      have := h2 (i : Int) (by omega) (by omega)
      rw [rdT37_get l (i : Int) (by omega) (by omega)] at this
      exact this⟩
    rw [if_pos (by omega)]
    exact arr_l0 now l hf l.length K l 0 hf rfl (by omega) (by omega) (by omega) (by omega)

end Go.Proofs.Ytipkcbpilkoflaa.Pure
