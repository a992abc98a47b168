/- The plain law behind LinkKeeps: numbers and lists alone. -/
import Derived.Test.YtipkcbpilkoflaaQLinkKeepsx15
namespace Go.Proofs.Ytipkcbpilkoflaa.Pure
open Go.RowKit Go.Proofs.Ytipkcbpilkoflaa.QLinkKeeps Go.Proofs.YtipkcbpilkoflaaW.PrintWords Go.Proofs.YtipkcbpilkoflaaW.PrintLast Go.Proofs.YtipkcbpilkoflaaW.PrintMore
set_option linter.unusedVariables false
set_option linter.unusedSimpArgs false

theorem rdT37_get (l : List S37) (i : Int) (h0 : 0 ≤ i) (h : i < l.length) : rd_T37 l i = l[i.toNat]'(by omega) := by
  unfold rd_T37
  rw [List.getD_eq_getElem?_getD, List.getElem?_eq_getElem (by omega)]
  rfl

theorem rd_get (l : List Int) (i : Int) (h0 : 0 ≤ i) (h : i < l.length) : rd l i = l[i.toNat]'(by omega) := by
  unfold rd
  rw [List.getD_eq_getElem?_getD, List.getElem?_eq_getElem (by omega)]
  rfl

/-! ### copies -/
theorem copies_l (l : List S37) (hl : l.length ≤ 100) (hb : ∀ j : Int, 0 ≤ j → j < l.length → (rd_T37 l j).f1.length ≤ 300) (d : Nat) : ∀ (k : Nat) (i : Int) (acc : List S37), 0 ≤ i → i ≤ l.length → (l.length : Int) - i = d → acc = l.take i.toNat → d + 1 ≤ k →
    link_copies.l0 k acc l l.length i = some l := by
  induction d with
  | zero =>
    intro k i acc h0 h1 hd ha hk
    obtain ⟨k, rfl⟩ : ∃ m, k = m + 1 := ⟨k - 1, by omega⟩
    simp only [link_copies.l0]
    rw [if_neg (by omega), ha, List.take_of_length_le (by omega)]
  | succ d ih =>
    intro k i acc h0 h1 hd ha hk
    obtain ⟨k, rfl⟩ : ∃ m, k = m + 1 := ⟨k - 1, by omega⟩
    have hw : wrap64 (i + 1) = i + 1 := by unfold wrap64; omega
    have hbi := hb i h0 (by omega)
    have hal : acc.length ≤ 100 := by rw [ha, List.length_take]; omega
    simp only [link_copies.l0]
    rw [if_pos (by omega), if_pos h0, if_pos (by omega), if_pos (by simp; omega), if_pos (by omega), hw]
    refine ih k (i + 1) _ (by omega) (by omega) (by omega) ?_ (by omega)
    have e : (i + 1).toNat = i.toNat + 1 := by omega
    rw [e, List.take_succ_eq_append_getElem (by omega), ha, rdT37_get l i h0 (by omega)]
    rfl

theorem copies_f (l : List S37) (hl : l.length ≤ 100) (hb : ∀ j : Int, 0 ≤ j → j < l.length → (rd_T37 l j).f1.length ≤ 300) (k : Nat) (hk : 101 ≤ k) : link_copies.f k l = some l :=
  copies_l l hl hb l.length k 0 [] (by omega) (by omega) (by omega) (by simp) (by omega)

/-! ### damage: what both compute -/
def hit (l : List Int) (at_ m n : Int) : List Int :=
  let l1 := if 0 ≤ at_ ∧ at_ < l.length ∧ at_ < n then l.set at_.toNat (Go.bits .xor .u8 (rd l at_) ((m / 256) % 256)) else l
  if 0 ≤ at_ + 1 ∧ at_ + 1 < l.length ∧ at_ + 1 < n then l1.set (at_ + 1).toNat (Go.bits .xor .u8 (rd l1 (at_ + 1)) (m % 256)) else l1

theorem hit_len (l : List Int) (at_ m n : Int) : (hit l at_ m n).length = l.length := by
  unfold hit
  dsimp only
  repeat' split
  all_goals simp

theorem prog_damaged (l d1 : List Int) (at_ m : Int) (hl : l.length ≤ 1000) (k : Nat) (hk : 2 ≤ k) : link_damaged.f k l d1 at_ m = some (hit l at_ m l.length) := by
  obtain ⟨k, rfl⟩ : ∃ j, k = j + 2 := ⟨k - 2, by omega⟩
  have hw : wrap64 ((l.length : Int) - 1) = (l.length : Int) - 1 := by unfold wrap64; omega
  unfold link_damaged.f
  rw [if_pos (by simp; omega)]
  simp only [Option.bind_some, List.nil_append]
  have tail : ∀ l1 : List Int, l1.length = l.length → link_damaged.j1 (k + 1) l1 d1 at_ m = some (if 0 ≤ at_ + 1 ∧ at_ + 1 < l.length ∧ at_ + 1 < l.length then l1.set (at_ + 1).toNat (Go.bits .xor .u8 (rd l1 (at_ + 1)) (m % 256)) else l1) := by
    intro l1 h1
    simp only [link_damaged.j1]
    rw [h1, hw]
    by_cases a : at_ ≥ -1
    · rw [if_pos a]
      by_cases b : at_ < (l.length : Int) - 1
      · have hv : wrap64 (at_ + 1) = at_ + 1 := by unfold wrap64; omega
        rw [if_pos b, hv, if_pos (by omega), if_pos (by omega), if_pos (by omega)]
      · rw [if_neg b, if_neg (by omega)]
    · rw [if_neg a, if_neg (by omega)]
  unfold hit
  dsimp only
  by_cases a : at_ ≥ 0
  · rw [if_pos a]
    by_cases b : at_ < (l.length : Int)
    · rw [decide_eq_true b, if_pos (show 0 ≤ at_ ∧ at_ < (l.length : Int) ∧ at_ < (l.length : Int) from ⟨a, b, b⟩)]
      simp only [link_damaged.j0, if_true]
      rw [if_pos a, if_pos b]
      exact tail _ (by simp)
    · rw [decide_eq_false b, if_neg (show ¬ (0 ≤ at_ ∧ at_ < (l.length : Int) ∧ at_ < (l.length : Int)) by omega)]
      simp only [link_damaged.j0]
      rw [if_neg (by simp)]
      exact tail l rfl
  · rw [if_neg a, if_neg (show ¬ (0 ≤ at_ ∧ at_ < (l.length : Int) ∧ at_ < (l.length : Int)) by omega)]
    simp only [link_damaged.j0]
    rw [if_neg (by simp)]
    exact tail l rfl

theorem xor_zero_u8 (x : Int) (h0 : 0 ≤ x) (h1 : x ≤ 255) : Go.bits .xor .u8 x 0 = x := by
  unfold Go.bits
  have e : (BitVec.ofInt (IntKind.bits .u8) x ^^^ BitVec.ofInt (IntKind.bits .u8) 0) = BitVec.ofInt 8 x := by
    show BitVec.ofInt 8 x ^^^ BitVec.ofInt 8 0 = BitVec.ofInt 8 x
    simp
  simp only [e]
  have t : (BitVec.ofInt 8 x).toNat = x.toNat := by
    rw [BitVec.toNat_ofInt]
    congr 1
    omega
  show IntKind.wrap .u8 (((BitVec.ofInt 8 x).toNat : Nat) : Int) = x
  rw [t]
  unfold IntKind.wrap
  simp [IntKind.bits, IntKind.signed]
  omega

/-! ### Send -/
def copy (b : List Int) (at_ m now : Int) (d : Int) : S37 := ⟨wrap64 (now + (mn (mx d 1) 100)), hit b at_ m b.length⟩

theorem prog_send_l (b d1 : List Int) (at_ m now : Int) (hb : b.length ≤ 1000) (ys : List Int) (hy : ys.length ≤ 8) (d : Nat) : ∀ (k : Nat) (i : Int) (acc : List S37), 0 ≤ i → i ≤ ys.length → (ys.length : Int) - i = d → acc.length + d ≤ 1000 → d + 3 ≤ k →
    link_Send.l0 k b now acc ys ys.length i d1 at_ m = some (acc ++ (ys.drop i.toNat).map (copy b at_ m now)) := by
  induction d with
  | zero =>
    intro k i acc h0 h1 hd ha hk
    obtain ⟨k, rfl⟩ : ∃ j, k = j + 1 := ⟨k - 1, by omega⟩
    simp only [link_Send.l0]
    rw [if_neg (by omega), List.drop_of_length_le (by omega)]
    simp
  | succ d ih =>
    intro k i acc h0 h1 hd ha hk
    obtain ⟨k, rfl⟩ : ∃ j, k = j + 1 := ⟨k - 1, by omega⟩
    have hw : wrap64 (i + 1) = i + 1 := by unfold wrap64; omega
    simp only [link_Send.l0]
    rw [if_pos (by omega), if_pos h0, if_pos (by omega), prog_damaged b d1 at_ m hb k (by omega)]
    simp only [Option.bind_some]
    rw [if_pos (by omega), hw, ih k (i + 1) _ (by omega) (by omega) (by omega) (by simp; omega) (by omega)]
    have e : (i + 1).toNat = i.toNat + 1 := by omega
    rw [e, List.drop_eq_getElem_cons (show i.toNat < ys.length by omega), rd_get ys i h0 (by omega), List.map_cons, List.append_assoc]
    rfl

theorem mn8 (n : Nat) : mn (n : Int) 8 = ((min n 8 : Nat) : Int) := by unfold mn; split <;> omega

theorem prog_send (l : List S37) (d1 : List Int) (at_ m : Int) (b : List Int) (now : Int) (hl : l.length ≤ 100) (hlb : ∀ j : Int, 0 ≤ j → j < l.length → (rd_T37 l j).f1.length ≤ 300) (hb : b.length ≤ 1000) (k : Nat) (hk : 110 ≤ k) :
    link_Send.f k l d1 at_ m b now = some (l ++ (d1.take 8).map (copy b at_ m now)) := by
  unfold link_Send.f
  rw [copies_f l hl hlb k (by omega), mn8]
  simp only [Option.bind_some]
  rw [if_pos (by omega), if_pos (by omega)]
  have e : List.take (((min d1.length 8 : Nat) : Int)).toNat d1 = d1.take 8 := by
    rw [Int.toNat_natCast]
    by_cases h : d1.length ≤ 8
    · rw [List.take_of_length_le (by omega), List.take_of_length_le h]
    · rw [Nat.min_eq_right (by omega)]
  rw [e]
  have h8 : (d1.take 8).length ≤ 8 := by rw [List.length_take]; omega
  rw [prog_send_l b d1 at_ m now hb (d1.take 8) h8 (d1.take 8).length k 0 l (by omega) (by omega) (by omega) (by omega) (by omega)]
  simp


/-! ### no damage -/
theorem rd_byte (l : List Int) (hb : ∀ x ∈ l, 0 ≤ x ∧ x ≤ 255) (i : Int) (h0 : 0 ≤ i) (h : i < l.length) : 0 ≤ rd l i ∧ rd l i ≤ 255 := by
  rw [rd_get l i h0 h]; exact hb _ (List.getElem_mem _)
theorem set_same (l : List Int) (hb : ∀ x ∈ l, 0 ≤ x ∧ x ≤ 255) (i : Int) (h0 : 0 ≤ i) (h : i < l.length) : l.set i.toNat (Go.bits .xor .u8 (rd l i) 0) = l := by
  have hr := rd_byte l hb i h0 h
  rw [xor_zero_u8 _ hr.1 hr.2, rd_get l i h0 h]
  simp
theorem hit_none (l : List Int) (hb : ∀ x ∈ l, 0 ≤ x ∧ x ≤ 255) (at_ n : Int) : hit l at_ 0 n = l := by
  unfold hit
  dsimp only
  rw [show (0 : Int) / 256 % 256 = 0 by rfl, show (0 : Int) % 256 = 0 by rfl]
  have e : (if 0 ≤ at_ ∧ at_ < (l.length : Int) ∧ at_ < n then l.set at_.toNat (Go.bits .xor .u8 (rd l at_) 0) else l) = l := by
    split
    · next c => exact set_same l hb at_ c.1 c.2.1
    · rfl
  rw [e]
  split
  · next c => exact set_same l hb (at_ + 1) c.1 c.2.1
  · rfl
theorem copy_none (b : List Int) (hb : ∀ x ∈ b, 0 ≤ x ∧ x ≤ 255) (now d : Int) : copy b 0 0 now d = ⟨wrap64 (now + (mn (mx d 1) 100)), b⟩ := by
  unfold copy
  rw [hit_none b hb]

/-! ### Arrive -/
theorem rdT37_drop (l : List S37) (i : Int) (h0 : 0 ≤ i) (h : i < l.length) : l.drop i.toNat = rd_T37 l i :: l.drop (i + 1).toNat := by
  rw [rdT37_get l i h0 h, List.drop_eq_getElem_cons (show i.toNat < l.length by omega), show (i + 1).toNat = i.toNat + 1 by omega]
theorem s37_eta (x : S37) : (⟨x.f0, x.f1⟩ : S37) = x := rfl
theorem arrive_out (rest : List S37) (ys : List S37) (hy : ys.length ≤ 1000) (d : Nat) : ∀ (k : Nat) (i : Int) (acc : List (List Int)), 0 ≤ i → i ≤ ys.length → (ys.length : Int) - i = d → acc.length + d ≤ 1000 → d + 1 ≤ k →
    link_Arrive.l1 k rest acc ys ys.length i = some (acc ++ (ys.drop i.toNat).map S37.f1, rest) := by
  induction d with
  | zero =>
    intro k i acc h0 h1 hd ha hk
    obtain ⟨k, rfl⟩ : ∃ j, k = j + 1 := ⟨k - 1, by omega⟩
    simp only [link_Arrive.l1]
    rw [if_neg (by omega), List.drop_of_length_le (by omega)]
    simp
  | succ d ih =>
    intro k i acc h0 h1 hd ha hk
    obtain ⟨k, rfl⟩ : ∃ j, k = j + 1 := ⟨k - 1, by omega⟩
    have hw : wrap64 (i + 1) = i + 1 := by unfold wrap64; omega
    simp only [link_Arrive.l1]
    rw [if_pos (by omega), if_pos h0, if_pos (by omega), if_pos (by omega), hw, ih k (i + 1) _ (by omega) (by omega) (by omega) (by simp; omega) (by omega), rdT37_drop ys i h0 (by omega), List.map_cons, List.append_assoc]
    rfl
theorem arrive_l (now : Int) (l : List S37) (hl : l.length ≤ 100) (d : Nat) : ∀ (k : Nat) (i : Int) (rest due : List S37), 0 ≤ i → i ≤ l.length → (l.length : Int) - i = d → rest.length + d ≤ 200 → due.length + d ≤ 200 → d + 300 ≤ k →
    link_Arrive.l0 k now rest l l.length i due = some ((Stab.isort S37.f0 (due ++ (l.drop i.toNat).filter (fun x => decide (x.f0 ≤ now)))).map S37.f1, rest ++ (l.drop i.toNat).filter (fun x => !decide (x.f0 ≤ now))) := by
  induction d with
  | zero =>
    intro k i rest due h0 h1 hd hr hu hk
    obtain ⟨k, rfl⟩ : ∃ j, k = j + 1 := ⟨k - 1, by omega⟩
    simp only [link_Arrive.l0]
    rw [if_neg (by omega), List.drop_of_length_le (by omega)]
    unfold sort_SliceStable.f
    rw [if_pos (by omega)]
    simp only [Option.bind_some, List.filter_nil, List.append_nil]
    have hs : (Stab.isort S37.f0 due).length = due.length := Stab.isort_len _ _
    rw [arrive_out rest _ (by omega) (Stab.isort S37.f0 due).length k 0 [] (by omega) (by omega) (by omega) (by simp; omega) (by omega)]
    simp
  | succ d ih =>
    intro k i rest due h0 h1 hd hr hu hk
    obtain ⟨k, rfl⟩ : ∃ j, k = j + 1 := ⟨k - 1, by omega⟩
    have hw : wrap64 (i + 1) = i + 1 := by unfold wrap64; omega
    simp only [link_Arrive.l0]
    rw [if_pos (by omega), if_pos h0, if_pos (by omega), rdT37_drop l i h0 (by omega), hw, List.filter_cons, List.filter_cons, s37_eta]
    by_cases c : (rd_T37 l i).f0 ≤ now
    · rw [if_pos c, if_pos (by omega), ih k (i + 1) _ _ (by omega) (by omega) (by omega) (by omega) (by simp; omega) (by omega), decide_eq_true c]
      simp
    · rw [if_neg c, if_pos (by omega), ih k (i + 1) _ _ (by omega) (by omega) (by omega) (by simp; omega) (by omega) (by omega), decide_eq_false c]
      simp
theorem arrive_f (l : List S37) (now : Int) (hl : l.length ≤ 100) (hb : ∀ j : Int, 0 ≤ j → j < l.length → (rd_T37 l j).f1.length ≤ 300) (k : Nat) (hk : 400 ≤ k) :
    link_Arrive.f k l now = some ((Stab.isort S37.f0 (l.filter (fun x => decide (x.f0 ≤ now)))).map S37.f1, l.filter (fun x => !decide (x.f0 ≤ now))) := by
  unfold link_Arrive.f
  rw [copies_f l hl hb k (by omega)]
  simp only [Option.bind_some]
  rw [arrive_l now l hl l.length k 0 [] [] (by omega) (by omega) (by omega) (by simp; omega) (by simp; omega) (by omega)]
  simp
theorem awake_f (k : Nat) (hk : 500 ≤ k) : debuggerlaw34_awake.f k = some true := by
  have h1 : link_FateOf.f ([] : List S25) 5 = some ([1], 0, 0) := by
    unfold link_FateOf.f
    rw [if_neg (by omega), if_pos (by simp)]
  have h2 : link_Send.f k ([] : List S37) [1] 0 0 [7] 3 = some [⟨4, [7]⟩] := by
    rw [prog_send [] [1] 0 0 [7] 3 (by simp) (fun j h0 h => by simp at h; omega) (by simp) k (by omega)]
    show some [copy [7] 0 0 3 1] = _
    rw [copy_none [7] (by simp)]
    have e1 : mn (mx 1 1) 100 = 1 := by unfold mn mx; split <;> split <;> omega
    have e2 : wrap64 (3 + 1) = 4 := by unfold wrap64; omega
    rw [e1, e2]
  have h3 := arrive_f [⟨4, [7]⟩] 4 (by simp) (fun j h0 h => by
    have : j = 0 := by simp at h; omega
    subst this
    show ([7] : List Int).length ≤ 300
    simp) k (by omega)
  have h4 : ([⟨4, [7]⟩] : List S37).filter (fun x => decide (x.f0 ≤ 4)) = [⟨4, [7]⟩] := rfl
  have h5 : ([⟨4, [7]⟩] : List S37).filter (fun x => !decide (x.f0 ≤ 4)) = [] := rfl
  rw [h4, h5, Stab.isort_one] at h3
  unfold debuggerlaw34_awake.f
  rw [h1]
  simp only [Option.bind_some]
  rw [h2]
  simp only [Option.bind_some]
  rw [h3]
  rfl


/-! ### what the array counts -/
def fl (i d : Int) : S37 := ⟨i + mn (mx d 1) 100, [i]⟩
def cnt (L : List S37) (i t : Int) : Int := ((L.filter (fun x => decide (x.f1 = [i] ∧ x.f0 = t))).length : Int)
theorem cnt_append (A B : List S37) (i t : Int) : cnt (A ++ B) i t = cnt A i t + cnt B i t := by
  unfold cnt; rw [List.filter_append, List.length_append]; omega
theorem cnt_le (L : List S37) (i t : Int) : 0 ≤ cnt L i t ∧ cnt L i t ≤ L.length := by
  unfold cnt
  have := List.length_filter_le (fun x : S37 => decide (x.f1 = [i] ∧ x.f0 = t)) L
  omega
theorem cnt_one (x : S37) (i t : Int) : cnt [x] i t = if x.f1 = [i] ∧ x.f0 = t then 1 else 0 := by
  unfold cnt
  by_cases h : x.f1 = [i] ∧ x.f0 = t
  · rw [if_pos h, List.filter_cons, if_pos (by simpa using h)]; rfl
  · rw [if_neg h, List.filter_cons, if_neg (by simpa using h)]; rfl
def Counts (F : Nat → Int) (L : List S37) : Prop := ∀ i t : Nat, i < 12 → t < 120 → F (i * 120 + t) = cnt L i t
theorem Counts.nil : Counts (fun _ => 0) [] := fun i t _ _ => rfl
theorem Counts.add {F : Nat → Int} {L : List S37} (h : Counts F L) (i t : Nat) (hi : i < 12) (ht : t < 120) :
    Counts (fun q => if q = i * 120 + t then F (i * 120 + t) + 1 else F q) (L ++ [⟨(t : Int), [(i : Int)]⟩]) := by
  intro i' t' hi' ht'
  dsimp only
  rw [cnt_append, cnt_one, ← h i' t' hi' ht']
  by_cases e : i' * 120 + t' = i * 120 + t
  · have e1 : i' = i := by omega
    have e2 : t' = t := by omega
    subst e1 e2
    rw [if_pos rfl, if_pos ⟨rfl, rfl⟩]
  · rw [if_neg e, if_neg ?_]
    · omega
    · rintro ⟨a, b⟩
      injection a with a _
      apply e
      have : (i : Int) = i' := a
      have : (t : Int) = t' := b
      omega

/-- the flights behind the first i datagrams -/
structure Good (L : List S37) (i : Int) : Prop where
  len : (L.length : Int) ≤ 6 * i
  mem : ∀ x ∈ L, ∃ j d : Int, 0 ≤ j ∧ j < i ∧ 1 ≤ d ∧ d ≤ 100 ∧ x = ⟨j + d, [j]⟩
theorem Good.nil : Good [] 0 := ⟨by simp, by simp⟩
theorem clamp (d : Int) : 1 ≤ mn (mx d 1) 100 ∧ mn (mx d 1) 100 ≤ 100 := by unfold mn mx; split <;> split <;> omega
theorem Good.add {L : List S37} {i : Int} (h : Good L i) (hi : 0 ≤ i) (ys : List Int) (hy : ys.length ≤ 6) : Good (L ++ ys.map (fl i)) (i + 1) := by
  refine ⟨by have := h.len; simp; omega, fun x hx => ?_⟩
  rcases List.mem_append.mp hx with hx | hx
  · obtain ⟨j, d, a, b, c, e, f⟩ := h.mem x hx
    exact ⟨j, d, a, by omega, c, e, f⟩
  · obtain ⟨d, _, rfl⟩ := List.mem_map.mp hx
    exact ⟨i, _, hi, by omega, (clamp d).1, (clamp d).2, rfl⟩
theorem Good.rd {L : List S37} {i : Int} (h : Good L i) : ∀ j : Int, 0 ≤ j → j < L.length → (rd_T37 L j).f1.length ≤ 300 := fun j h0 h1 => by
  rw [rdT37_get L j h0 h1]
  obtain ⟨_, _, _, _, _, _, e⟩ := h.mem _ (List.getElem_mem (show j.toNat < L.length by omega))
  rw [e]; simp
theorem send_k (L : List S37) (i : Int) (h : Good L i) (hi0 : 0 ≤ i) (hi : i < 12) (ys : List Int) (hy : ys.length ≤ 6) (k : Nat) (hk : 110 ≤ k) :
    link_Send.f k L ys 0 0 [i % 256] i = some (L ++ ys.map (fl i)) := by
  have hl := h.len
  rw [show i % 256 = i by omega, prog_send L ys 0 0 [i] i (by omega) h.rd (by simp) k hk, List.take_of_length_le (by omega)]
  refine congrArg (fun z => some (L ++ z)) (List.map_congr_left fun d _ => ?_)
  rw [copy_none [i] (by intro x hx; simp at hx; omega)]
  have := clamp d
  unfold fl
  rw [show wrap64 (i + mn (mx d 1) 100) = i + mn (mx d 1) 100 by unfold wrap64; omega]

/-! ### what is left at a tick -/
structure Left (L : List S37) (now : Int) : Prop where
  len : L.length ≤ 72
  mem : ∀ x ∈ L, ∃ j : Int, 0 ≤ j ∧ j < 12 ∧ x.f1 = [j] ∧ now ≤ x.f0 ∧ x.f0 ≤ 111
theorem Good.left {L : List S37} {i : Int} (h : Good L i) (hi : i ≤ 12) : Left L 0 := by
  refine ⟨by have := h.len; omega, fun x hx => ?_⟩
  obtain ⟨j, d, a, b, c, e, rfl⟩ := h.mem x hx
  exact ⟨j, a, by omega, rfl, by show 0 ≤ j + d; omega, by show j + d ≤ 111; omega⟩
theorem Left.rd {L : List S37} {i : Int} (h : Left L i) : ∀ j : Int, 0 ≤ j → j < L.length → (rd_T37 L j).f1.length ≤ 300 := fun j h0 h1 => by
  rw [rdT37_get L j h0 h1]
  obtain ⟨_, _, _, e, _, _⟩ := h.mem _ (List.getElem_mem (show j.toNat < L.length by omega))
  rw [e]; simp
def due (L : List S37) (now : Int) : List (List Int) := (Stab.isort S37.f0 (L.filter (fun x => decide (x.f0 ≤ now)))).map S37.f1
def rest (L : List S37) (now : Int) : List S37 := L.filter (fun x => !decide (x.f0 ≤ now))
theorem arrive_k (L : List S37) (now : Int) (h : Left L now) (k : Nat) (hk : 400 ≤ k) : link_Arrive.f k L now = some (due L now, rest L now) :=
  arrive_f L now (by have := h.len; omega) h.rd k hk
theorem Left.rest {L : List S37} {now : Int} (h : Left L now) : Left (rest L now) (now + 1) := by
  refine ⟨Nat.le_trans (List.length_filter_le _ _) h.len, fun x hx => ?_⟩
  obtain ⟨hx, hd⟩ := List.mem_filter.mp hx
  obtain ⟨j, a, b, c, _, e⟩ := h.mem x hx
  exact ⟨j, a, b, c, by simp at hd; omega, e⟩
theorem Left.due {L : List S37} {now : Int} (h : Left L now) : (due L now).length ≤ 72 ∧ ∀ x ∈ due L now, ∃ j : Int, 0 ≤ j ∧ j < 12 ∧ x = [j] := by
  refine ⟨?_, fun x hx => ?_⟩
  · unfold Pure.due; rw [List.length_map, Stab.isort_len]; exact Nat.le_trans (List.length_filter_le _ _) h.len
  · obtain ⟨y, hy, rfl⟩ := List.mem_map.mp hx
    obtain ⟨j, a, b, c, _⟩ := h.mem y (List.mem_filter.mp (Stab.isort_mem S37.f0 _ y hy)).1
    exact ⟨j, a, b, c⟩
theorem Left.none {L : List S37} (h : Left L 112) : L = [] := by
  cases L with
  | nil => rfl
  | cons x L =>
    obtain ⟨_, _, _, _, a, b⟩ := h.mem x List.mem_cons_self
    omega
theorem mrg_perm : ∀ (n : Nat) (A B : List S37), A.length + B.length ≤ n → (Stab.mrg S37.f0 A B).Perm (A ++ B)
  | n, [], B, _ => by rw [Stab.mrg_nil]; exact .refl _
  | n, x :: A, [], _ => by rw [Stab.mrg_right, List.append_nil]
  | 0, x :: A, y :: B, h => by simp at h
  | n + 1, x :: A, y :: B, h => by
    rw [Stab.mrg_cons]
    split
    · exact ((mrg_perm n (x :: A) B (by simp at h ⊢; omega)).cons y).trans (List.perm_middle.symm)
    · exact (mrg_perm n A (y :: B) (by simp at h ⊢; omega)).cons x
theorem isort_perm (l : List S37) : (Stab.isort S37.f0 l).Perm l := by
  induction l with
  | nil => exact .refl _
  | cons x l ih =>
    rw [Stab.isort]
    exact (mrg_perm _ [x] _ (Nat.le_refl _)).trans (ih.cons x)
def hits (a : List (List Int)) (i : Int) : Int := ((a.filter (fun x => decide (x = [i]))).length : Int)
theorem hits_due (L : List S37) (now : Int) (i : Int) : hits (due L now) i = ((L.filter (fun x => decide (x.f1 = [i]) && decide (x.f0 ≤ now))).length : Int) := by
  unfold hits due
  rw [List.filter_map, List.length_map, ((isort_perm _).filter _).length_eq, List.filter_filter]
  rfl
theorem cnt_split (L : List S37) (now : Int) (h : Left L now) (i t : Int) : cnt L i t = cnt (rest L now) i t + if t = now then hits (due L now) i else 0 := by
  rw [hits_due]
  unfold cnt rest
  rw [List.filter_filter]
  have hm := h.mem
  clear h
  induction L with
  | nil => simp
  | cons x L ih =>
    obtain ⟨j, _, _, e, hn, _⟩ := hm x List.mem_cons_self
    have ih := ih (fun y hy => hm y (List.mem_cons_of_mem _ hy))
    simp only [List.filter_cons]
    by_cases c : x.f0 ≤ now
    · have c1 : x.f0 = now := by omega
      by_cases d : x.f1 = [i]
      · by_cases t' : t = now
        · simp [c1, d, t'] at ih ⊢; omega
        · simp [c1, d, t', Ne.symm t'] at ih ⊢; omega
      · simp [c1, d] at ih ⊢; omega
    · by_cases d : x.f1 = [i] ∧ x.f0 = t
      · obtain ⟨d1, d2⟩ := d
        have t' : ¬ t = now := by omega
        have t2 : ¬ t ≤ now := by omega
        simp [d1, d2, t', t2] at ih ⊢; omega
      · have q : ¬ (x.f1 = [i] ∧ x.f0 = t) := d
        simp only [q, c, decide_false, decide_true, Bool.false_and, Bool.and_false, Bool.not_false] at ih ⊢
        simp at ih ⊢; omega
/-- the array inside the inner loop: what is left, and what has arrived and has not been struck off -/
def Struck (F : Nat → Int) (L : List S37) (a : List (List Int)) (now : Int) : Prop := ∀ i t : Nat, i < 12 → t < 120 → F (i * 120 + t) = cnt L i t + if (t : Int) = now then hits a i else 0
theorem Struck.start {F : Nat → Int} {L : List S37} {now : Int} (h : Counts F L) (hL : Left L now) : Struck F (rest L now) (due L now) now := fun i t hi ht => by
  rw [h i t hi ht, cnt_split L now hL]
theorem Struck.done {F : Nat → Int} {L : List S37} {now : Int} (h : Struck F L [] now) : Counts F L := fun i t hi ht => by
  rw [h i t hi ht]; simp [hits]
theorem hits_cons (x : List Int) (a : List (List Int)) (i : Int) : hits (x :: a) i = hits a i + if x = [i] then 1 else 0 := by
  unfold hits
  by_cases h : x = [i]
  · rw [if_pos h, List.filter_cons, if_pos (by simpa using h), List.length_cons]; omega
  · rw [if_neg h, List.filter_cons, if_neg (by simpa using h)]; omega
theorem Struck.strike {F : Nat → Int} {L : List S37} {a : List (List Int)} {now : Nat} (i : Nat) (h : Struck F L ([(i : Int)] :: a) now) (hi : i < 12) (hn : now < 120) :
    Struck (fun q => if q = i * 120 + now then F (i * 120 + now) - 1 else F q) L a now := by
  intro i' t' hi' ht'
  have h1 := h i' t' hi' ht'
  rw [hits_cons] at h1
  dsimp only
  by_cases e : i' * 120 + t' = i * 120 + now
  · have e1 : i' = i := by omega
    have e2 : t' = now := by omega
    subst e1 e2
    rw [if_pos rfl, h1, if_pos rfl, if_pos rfl, if_pos rfl]
    omega
  · rw [if_neg e, h1]
    by_cases c : (t' : Int) = now
    · rw [if_pos c, if_pos c, if_neg]
      · omega
      · intro q
        injection q with q _
        apply e
        have : (i : Int) = i' := q
        omega
    · rw [if_neg c, if_neg c]
theorem Struck.bound {F : Nat → Int} {L : List S37} {a : List (List Int)} {now : Int} (h : Struck F L a now) (i t : Nat) (hi : i < 12) (ht : t < 120) : 0 ≤ F (i * 120 + t) ∧ F (i * 120 + t) ≤ L.length + a.length := by
  rw [h i t hi ht]
  have h1 := cnt_le L i t
  have h2 : 0 ≤ hits a i ∧ hits a i ≤ a.length := by
    unfold hits
    have := List.length_filter_le (fun x => decide (x = [(i : Int)])) a
    omega
  split <;> omega
theorem Left.none_at {L : List S37} {now : Int} (h : Left L now) (hn : 112 ≤ now) : L = [] := by
  cases L with
  | nil => rfl
  | cons x L =>
    obtain ⟨_, _, _, _, a, b⟩ := h.mem x List.mem_cons_self
    omega

end Go.Proofs.Ytipkcbpilkoflaa.Pure
