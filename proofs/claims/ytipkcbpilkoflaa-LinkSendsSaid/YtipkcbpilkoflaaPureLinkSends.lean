/- The plain law behind LinkSends: numbers and lists alone. -/
import Derived.Test.YtipkcbpilkoflaaQLinkSendsx23
namespace Go.Proofs.Ytipkcbpilkoflaa.Pure
open Go.RowKit Go.Proofs.Ytipkcbpilkoflaa.QLinkSends Go.Proofs.YtipkcbpilkoflaaW.PrintWords Go.Proofs.YtipkcbpilkoflaaW.PrintLast Go.Proofs.YtipkcbpilkoflaaW.PrintMore
set_option linter.unusedVariables false
set_option linter.unusedSimpArgs false

theorem awake_60 : debuggerlaw34_awake.f 60 = some true := by kernel_rfl

theorem awake_f (k : Nat) : debuggerlaw34_awake.f (k + 60) = some true :=
  at_rounds (g := fun k => debuggerlaw34_awake.f k) debuggerlaw34_awake.mono (Nat.le_add_left 60 k) awake_60

theorem xor_zero_u8 (x : Int) (h0 : 0 ≤ x) (h1 : x ≤ 255) : Go.bits .xor .u8 x 0 = x := by
  unfold Go.bits
  have e : (BitVec.ofInt (IntKind.bits .u8) x ^^^ BitVec.ofInt (IntKind.bits .u8) 0) = BitVec.ofInt 8 x := by
    show BitVec.ofInt 8 x ^^^ BitVec.ofInt 8 0 = BitVec.ofInt 8 x
    simp
  simp only [e]
  have t : (BitVec.ofInt 8 x).toNat = x.toNat := by
    rw [BitVec.toNat_ofInt]
    congr 1
    omega
  show IntKind.wrap .u8 (((BitVec.ofInt 8 x).toNat : Nat) : Int) = x
  rw [t]
  unfold IntKind.wrap
  simp [IntKind.bits, IntKind.signed]
  omega

theorem and_ffff (m : Int) : Go.bits .and .i64 m 65535 = m % 65536 := by
  unfold Go.bits
  have e : (BitVec.ofInt (IntKind.bits .i64) m &&& BitVec.ofInt (IntKind.bits .i64) 65535).toNat = (m % 65536).toNat := by
    show (BitVec.ofInt 64 m &&& BitVec.ofInt 64 65535).toNat = (m % 65536).toNat
    rw [BitVec.toNat_and, BitVec.toNat_ofInt, BitVec.toNat_ofInt]
    have a : ((65535 : Int) % ((2 ^ 64 : Nat) : Int)).toNat = 2 ^ 16 - 1 := by decide
    rw [a, Nat.and_two_pow_sub_one_eq_mod]
    have h : ((2 ^ 64 : Nat) : Int) = 18446744073709551616 := by decide
    rw [h]
    omega
  simp only [e]
  show IntKind.wrap .i64 ((m % 65536).toNat : Int) = m % 65536
  have h0 : 0 ≤ m % 65536 := Int.emod_nonneg _ (by omega)
  have h1 : m % 65536 < 65536 := Int.emod_lt_of_pos _ (by omega)
  rw [Int.toNat_of_nonneg h0]
  unfold IntKind.wrap
  have e1 : (m % 65536) % (2 ^ IntKind.bits .i64 : Int) = m % 65536 := by
    show (m % 65536) % (18446744073709551616 : Int) = m % 65536
    omega
  simp only [e1]
  have e2 : (2 ^ (IntKind.bits .i64 - 1) : Int) = 9223372036854775808 := by decide
  rw [e2, if_neg (by simp; omega)]

theorem rd_set (l : List Int) (n : Int) (v : Int) (i : Int) (hn : 0 ≤ n) (hl : n < l.length) (hi : 0 ≤ i) : rd (l.set n.toNat v) i = if i = n then v else rd l i := by
  unfold rd
  rw [List.getD_eq_getElem?_getD, List.getD_eq_getElem?_getD, List.getElem?_set]
  by_cases h : i = n
  · subst h
    rw [if_pos rfl, if_pos rfl, if_pos (by omega)]
    rfl
  · rw [if_neg (by omega), if_neg h]

theorem rd_mem (l : List Int) (i : Int) (h0 : 0 ≤ i) (h : i < l.length) : rd l i ∈ l := by
  unfold rd
  rw [List.getD_eq_getElem?_getD, List.getElem?_eq_getElem (by omega)]
  exact List.getElem_mem _

/-- What a datagram's damage may change. -/
structure Dam (l t : List Int) (at_ m : Int) : Prop where
  len : t.length = l.length
  same : ∀ i : Int, 0 ≤ i → i < l.length → rd t i ≠ rd l i → m % 65536 ≠ 0 ∧ (i = at_ ∨ i = at_ + 1)

theorem dam_refl (l : List Int) (at_ m : Int) : Dam l l at_ m := ⟨rfl, fun _ _ _ h => absurd rfl h⟩

theorem dam_set {l t : List Int} {at_ m : Int} (hb : ∀ x ∈ l, 0 ≤ x ∧ x ≤ 255) (d : Dam l t at_ m) (n p : Int) (hn : 0 ≤ n) (hl : n < l.length) (hat : n = at_ ∨ n = at_ + 1) (hp : m % 65536 = 0 → p = 0) : Dam l (t.set n.toNat (Go.bits .xor .u8 (rd t n) p)) at_ m := by
  have hlen := d.len
  refine ⟨by simpa using d.len, ?_⟩
  intro i hi hil hne
  rw [rd_set t n _ i hn (by omega) hi] at hne
  by_cases h : i = n
  · subst h
    rw [if_pos rfl] at hne
    refine ⟨fun hm => hne ?_, hat⟩
    have hs : rd t i = rd l i := by
      by_cases hh : rd t i = rd l i
      · exact hh
      · exact absurd hm (d.same i hi hil hh).1
    have hr := hb _ (rd_mem l i hi hil)
    rw [hp hm, hs, xor_zero_u8 _ hr.1 hr.2]
  · rw [if_neg h] at hne
    exact d.same i hi hil hne

theorem damaged_j1 {l t : List Int} {at_ m : Int} (hb : ∀ x ∈ l, 0 ≤ x ∧ x ≤ 255) (hl : l.length ≤ 1000) (d : Dam l t at_ m) (d1 : List Int) (k : Nat) (hk : 1 ≤ k) :
    ∃ t', link_damaged.j1 k t d1 at_ m = some t' ∧ Dam l t' at_ m := by
  obtain ⟨k, rfl⟩ : ∃ j, k = j + 1 := ⟨k - 1, by omega⟩
  have hlen := d.len
  simp only [link_damaged.j1]
  by_cases h1 : at_ ≥ -1
  · rw [if_pos h1]
    by_cases h2 : at_ < wrap64 ((t.length : Int) - 1)
    · have hw : wrap64 ((t.length : Int) - 1) = (t.length : Int) - 1 := by unfold wrap64; omega
      have hv : wrap64 (at_ + 1) = at_ + 1 := by unfold wrap64; omega
      rw [if_pos h2, hv, if_pos (by omega), if_pos (by omega)]
      exact ⟨_, rfl, dam_set hb d _ _ (by omega) (by omega) (.inr rfl) (fun hm => by omega)⟩
    · rw [if_neg h2]; exact ⟨_, rfl, d⟩
  · rw [if_neg h1]; exact ⟨_, rfl, d⟩

theorem damaged_f (l d1 : List Int) (at_ m : Int) (hb : ∀ x ∈ l, 0 ≤ x ∧ x ≤ 255) (hl : l.length ≤ 1000) (k : Nat) (hk : 2 ≤ k) :
    ∃ t, link_damaged.f k l d1 at_ m = some t ∧ Dam l t at_ m := by
  obtain ⟨k, rfl⟩ : ∃ j, k = j + 1 := ⟨k - 1, by omega⟩
  unfold link_damaged.f
  rw [if_pos (by simp; omega)]
  simp only [Option.bind_some, List.nil_append]
  have j0f : ∃ t, link_damaged.j0 (k + 1) l false d1 at_ m = some t ∧ Dam l t at_ m := by
    simp only [link_damaged.j0]
    rw [if_neg (by simp)]
    exact damaged_j1 hb hl (dam_refl l at_ m) d1 k (by omega)
  by_cases h1 : at_ ≥ 0
  · rw [if_pos h1]
    by_cases h2 : at_ < (l.length : Int)
    · rw [decide_eq_true h2]
      simp only [link_damaged.j0, if_true]
      rw [if_pos h1, if_pos h2]
      exact damaged_j1 hb hl (dam_set hb (dam_refl l at_ m) at_ _ h1 h2 (.inl rfl) (fun hm => by omega)) d1 k (by omega)
    · rw [decide_eq_false h2]; exact j0f
  · rw [if_neg h1]; exact j0f

theorem mod_some (a b : Int) (h0 : 0 < b) (h1 : b ≤ 2305843009213693952) : ∃ r, debuggerkit_Mod.f a b = some r ∧ 0 ≤ r ∧ r < b := by
  unfold debuggerkit_Mod.f
  rw [if_neg (by omega)]
  have h2 : Int.tmod a b < b := Int.tmod_lt_of_pos a h0
  have h3 : -b < Int.tmod a b := by
    have := Int.lt_tmod_of_pos a h0
    omega
  by_cases h : Int.tmod a b < 0
  · rw [if_pos h]
    exact ⟨_, rfl, by unfold wrap64; omega, by unfold wrap64; omega⟩
  · rw [if_neg h]
    exact ⟨_, rfl, by omega, h2⟩

theorem rdT37_get (l : List S37) (i : Int) (h0 : 0 ≤ i) (h : i < l.length) : rd_T37 l i = l[i.toNat]'(by omega) := by
  unfold rd_T37
  rw [List.getD_eq_getElem?_getD, List.getElem?_eq_getElem (by omega)]
  rfl

theorem rd_get (l : List Int) (i : Int) (h0 : 0 ≤ i) (h : i < l.length) : rd l i = l[i.toNat]'(by omega) := by
  unfold rd
  rw [List.getD_eq_getElem?_getD, List.getElem?_eq_getElem (by omega)]
  rfl

/-! ### the guard -/
theorem large_l (l : List S37) (d : Nat) : ∀ (k : Nat) (i : Int), 0 ≤ i → i ≤ l.length → i ≤ 30 → 30 - i = d → 2 * d + 4 ≤ k →
    ∃ t, debuggerlaw34_large.l0 k l i = some t ∧ (t = false → l.length ≤ 30 ∧ ∀ j : Int, i ≤ j → j < l.length → (rd_T37 l j).f1.length ≤ 300) := by
  have fin : ∀ (k : Nat) (i : Int), 2 ≤ k → 0 ≤ i → i ≤ l.length → (¬ i < (l.length : Int) ∨ ¬ i < 30) → (i = l.length ∨ 30 ≤ i) →
      ∃ t, debuggerlaw34_large.l0 k l i = some t ∧ (t = false → l.length ≤ 30 ∧ ∀ j : Int, i ≤ j → j < l.length → (rd_T37 l j).f1.length ≤ 300) := by
    intro k i hk h0 h1 hn he
    obtain ⟨k, rfl⟩ : ∃ m, k = m + 2 := ⟨k - 2, by omega⟩
    refine ⟨decide ((l.length : Int) > 30), ?_, ?_⟩
    · simp only [debuggerlaw34_large.l0]
      by_cases h : i < (l.length : Int)
      · rw [if_pos h, decide_eq_false (show ¬ i < 30 by omega)]
        simp only [debuggerlaw34_large.j1]
        rw [if_neg (by simp)]
      · rw [if_neg h]
        simp only [debuggerlaw34_large.j1]
        rw [if_neg (by simp)]
    · intro ht
      have := of_decide_eq_false ht
      exact ⟨by omega, fun j hj hl => by omega⟩
  induction d with
  | zero =>
    intro k i h0 h1 h30 hd hk
    exact fin k i (by omega) h0 h1 (by omega) (by omega)
  | succ d ih =>
    intro k i h0 h1 h30 hd hk
    by_cases h : i < (l.length : Int)
    · obtain ⟨k, rfl⟩ : ∃ m, k = m + 2 := ⟨k - 2, by omega⟩
      have hw : wrap64 (i + 1) = i + 1 := by unfold wrap64; omega
      simp only [debuggerlaw34_large.l0]
      rw [if_pos h, decide_eq_true (show i < 30 by omega)]
      simp only [debuggerlaw34_large.j1, if_true]
      rw [if_pos h0, if_pos h]
      by_cases hb : ((rd_T37 l i).f1.length : Int) > 300
      · rw [if_pos hb]
        exact ⟨true, rfl, fun h => by cases h⟩
      · rw [if_neg hb, hw]
        obtain ⟨t, ht, hp⟩ := ih k (i + 1) (by omega) (by omega) (by omega) (by omega) (by omega)
        refine ⟨t, ht, fun hf => ?_⟩
        obtain ⟨a, b⟩ := hp hf
        refine ⟨a, fun j hj hl => ?_⟩
        by_cases e : j = i
        · subst e; omega
        · exact b j (by omega) hl
    · exact fin k i (by omega) h0 h1 (.inl h) (by omega)

/-! ### copies -/
theorem copies_l (l : List S37) (hl : l.length ≤ 30) (hb : ∀ j : Int, 0 ≤ j → j < l.length → (rd_T37 l j).f1.length ≤ 300) (d : Nat) : ∀ (k : Nat) (i : Int) (acc : List S37), 0 ≤ i → i ≤ l.length → (l.length : Int) - i = d → acc = l.take i.toNat → d + 1 ≤ k →
    link_copies.l0 k acc l l.length i = some l := by
  induction d with
  | zero =>
    intro k i acc h0 h1 hd ha hk
    obtain ⟨k, rfl⟩ : ∃ m, k = m + 1 := ⟨k - 1, by omega⟩
    simp only [link_copies.l0]
    rw [if_neg (by omega), ha, List.take_of_length_le (by omega)]
  | succ d ih =>
    intro k i acc h0 h1 hd ha hk
    obtain ⟨k, rfl⟩ : ∃ m, k = m + 1 := ⟨k - 1, by omega⟩
    have hw : wrap64 (i + 1) = i + 1 := by unfold wrap64; omega
    have hbi := hb i h0 (by omega)
    have hal : acc.length ≤ 30 := by rw [ha, List.length_take]; omega
    simp only [link_copies.l0]
    rw [if_pos (by omega), if_pos h0, if_pos (by omega), if_pos (by simp; omega), if_pos (by omega), hw]
    refine ih k (i + 1) _ (by omega) (by omega) (by omega) ?_ (by omega)
    have e : (i + 1).toNat = i.toNat + 1 := by omega
    rw [e, List.take_succ_eq_append_getElem (by omega), ha, rdT37_get l i h0 (by omega)]
    rfl

theorem copies_f (l : List S37) (hl : l.length ≤ 30) (hb : ∀ j : Int, 0 ≤ j → j < l.length → (rd_T37 l j).f1.length ≤ 300) (k : Nat) (hk : 31 ≤ k) : link_copies.f k l = some l :=
  copies_l l hl hb l.length k 0 [] (by omega) (by omega) (by omega) (by simp) (by omega)

/-! ### damage: what both compute -/
def hit (l : List Int) (at_ m n : Int) : List Int :=
  let l1 := if 0 ≤ at_ ∧ at_ < l.length ∧ at_ < n then l.set at_.toNat (Go.bits .xor .u8 (rd l at_) ((m / 256) % 256)) else l
  if 0 ≤ at_ + 1 ∧ at_ + 1 < l.length ∧ at_ + 1 < n then l1.set (at_ + 1).toNat (Go.bits .xor .u8 (rd l1 (at_ + 1)) (m % 256)) else l1

theorem hit_len (l : List Int) (at_ m n : Int) : (hit l at_ m n).length = l.length := by
  unfold hit
  dsimp only
  repeat' split
  all_goals simp

theorem prog_damaged (l d1 : List Int) (at_ m : Int) (hl : l.length ≤ 1000) (k : Nat) (hk : 2 ≤ k) : link_damaged.f k l d1 at_ m = some (hit l at_ m l.length) := by
  obtain ⟨k, rfl⟩ : ∃ j, k = j + 2 := ⟨k - 2, by omega⟩
  have hw : wrap64 ((l.length : Int) - 1) = (l.length : Int) - 1 := by unfold wrap64; omega
  unfold link_damaged.f
  rw [if_pos (by simp; omega)]
  simp only [Option.bind_some, List.nil_append]
  have tail : ∀ l1 : List Int, l1.length = l.length → link_damaged.j1 (k + 1) l1 d1 at_ m = some (if 0 ≤ at_ + 1 ∧ at_ + 1 < l.length ∧ at_ + 1 < l.length then l1.set (at_ + 1).toNat (Go.bits .xor .u8 (rd l1 (at_ + 1)) (m % 256)) else l1) := by
    intro l1 h1
    simp only [link_damaged.j1]
    rw [h1, hw]
    by_cases a : at_ ≥ -1
    · rw [if_pos a]
      by_cases b : at_ < (l.length : Int) - 1
      · have hv : wrap64 (at_ + 1) = at_ + 1 := by unfold wrap64; omega
        rw [if_pos b, hv, if_pos (by omega), if_pos (by omega), if_pos (by omega)]
      · rw [if_neg b, if_neg (by omega)]
    · rw [if_neg a, if_neg (by omega)]
  unfold hit
  dsimp only
  by_cases a : at_ ≥ 0
  · rw [if_pos a]
    by_cases b : at_ < (l.length : Int)
    · rw [decide_eq_true b, if_pos (show 0 ≤ at_ ∧ at_ < (l.length : Int) ∧ at_ < (l.length : Int) from ⟨a, b, b⟩)]
      simp only [link_damaged.j0, if_true]
      rw [if_pos a, if_pos b]
      exact tail _ (by simp)
    · rw [decide_eq_false b, if_neg (show ¬ (0 ≤ at_ ∧ at_ < (l.length : Int) ∧ at_ < (l.length : Int)) by omega)]
      simp only [link_damaged.j0]
      rw [if_neg (by simp)]
      exact tail l rfl
  · rw [if_neg a, if_neg (show ¬ (0 ≤ at_ ∧ at_ < (l.length : Int) ∧ at_ < (l.length : Int)) by omega)]
    simp only [link_damaged.j0]
    rw [if_neg (by simp)]
    exact tail l rfl

theorem hit_step (l : List Int) (at_ m i : Int) (h0 : 0 ≤ i) (hi : i < l.length) :
    hit l at_ m (i + 1) = (let y1 := if i = at_ then (hit l at_ m i).set i.toNat (Go.bits .xor .u8 (rd (hit l at_ m i) i) ((m / 256) % 256)) else hit l at_ m i
      if i = at_ + 1 then y1.set i.toNat (Go.bits .xor .u8 (rd y1 i) (m % 256)) else y1) := by
  dsimp only
  by_cases a : i = at_
  · subst a
    rw [if_pos rfl, if_neg (show ¬ i = i + 1 by omega)]
    unfold hit
    dsimp only
    rw [if_pos (show 0 ≤ i ∧ i < (l.length : Int) ∧ i < i + 1 by omega), if_neg (show ¬ (0 ≤ i + 1 ∧ i + 1 < (l.length : Int) ∧ i + 1 < i + 1) by omega),
      if_neg (show ¬ (0 ≤ i ∧ i < (l.length : Int) ∧ i < i) by omega), if_neg (show ¬ (0 ≤ i + 1 ∧ i + 1 < (l.length : Int) ∧ i + 1 < i) by omega)]
  · rw [if_neg a]
    by_cases b : i = at_ + 1
    · subst b
      rw [if_pos rfl]
      have e : ∀ n : Int, n = at_ + 1 ∨ n = at_ + 1 + 1 → (if 0 ≤ at_ ∧ at_ < (l.length : Int) ∧ at_ < n then l.set at_.toNat (Go.bits .xor .u8 (rd l at_) ((m / 256) % 256)) else l) = (if 0 ≤ at_ then l.set at_.toNat (Go.bits .xor .u8 (rd l at_) ((m / 256) % 256)) else l) := by
        intro n hn
        by_cases c : 0 ≤ at_
        · rw [if_pos c, if_pos (by omega)]
        · rw [if_neg c, if_neg (by omega)]
      unfold hit
      dsimp only
      rw [e _ (.inl rfl), e _ (.inr rfl), if_pos (show 0 ≤ at_ + 1 ∧ at_ + 1 < (l.length : Int) ∧ at_ + 1 < at_ + 1 + 1 by omega), if_neg (show ¬ (0 ≤ at_ + 1 ∧ at_ + 1 < (l.length : Int) ∧ at_ + 1 < at_ + 1) by omega)]
    · rw [if_neg b]
      have e1 : (0 ≤ at_ ∧ at_ < (l.length : Int) ∧ at_ < i + 1) ↔ (0 ≤ at_ ∧ at_ < (l.length : Int) ∧ at_ < i) := by omega
      have e2 : (0 ≤ at_ + 1 ∧ at_ + 1 < (l.length : Int) ∧ at_ + 1 < i + 1) ↔ (0 ≤ at_ + 1 ∧ at_ + 1 < (l.length : Int) ∧ at_ + 1 < i) := by omega
      unfold hit
      simp only [e1, e2]

theorem hit_zero (l : List Int) (at_ m : Int) : hit l at_ m 0 = l := by
  unfold hit
  dsimp only
  rw [if_neg (show ¬ (0 ≤ at_ ∧ at_ < (l.length : Int) ∧ at_ < 0) by omega), if_neg (by omega)]

theorem ref_damaged_l (l d1 : List Int) (at_ m : Int) (hl : l.length ≤ 1000) (d : Nat) : ∀ (k : Nat) (i : Int), 0 ≤ i → i ≤ l.length → (l.length : Int) - i = d → 3 * d + 1 ≤ k →
    debuggerref34_damaged.l0 k (hit l at_ m i) i d1 at_ m = some (hit l at_ m l.length) := by
  induction d with
  | zero =>
    intro k i h0 h1 hd hk
    obtain ⟨k, rfl⟩ : ∃ j, k = j + 1 := ⟨k - 1, by omega⟩
    simp only [debuggerref34_damaged.l0]
    rw [if_neg (by rw [hit_len]; omega), show i = (l.length : Int) by omega]
  | succ d ih =>
    intro k i h0 h1 hd hk
    obtain ⟨k, rfl⟩ : ∃ j, k = j + 3 := ⟨k - 3, by omega⟩
    have hw : wrap64 (i + 1) = i + 1 := by unfold wrap64; omega
    have hv : wrap64 (i - 1) = i - 1 := by unfold wrap64; omega
    have hi : i < (l.length : Int) := by omega
    have next := ih k (i + 1) (by omega) (by omega) (by omega) (by omega)
    rw [hit_step l at_ m i h0 hi] at next
    dsimp only at next
    have tail : ∀ y1 : List Int, y1.length = l.length → debuggerref34_damaged.l0 k (if i = at_ + 1 then y1.set i.toNat (Go.bits .xor .u8 (rd y1 i) (m % 256)) else y1) (i + 1) d1 at_ m = some (hit l at_ m l.length) →
        debuggerref34_damaged.j1 (k + 2) y1 i d1 at_ m = some (hit l at_ m l.length) := by
      intro y1 hy h
      have yes : i = at_ + 1 → debuggerref34_damaged.j2 (k + 1) y1 i true d1 at_ m = some (hit l at_ m l.length) := by
        intro e
        rw [if_pos e] at h
        simp only [debuggerref34_damaged.j2, if_true]
        rw [if_pos h0, if_pos (by omega), hw]; exact h
      have no : ¬ i = at_ + 1 → debuggerref34_damaged.j2 (k + 1) y1 i false d1 at_ m = some (hit l at_ m l.length) := by
        intro e
        rw [if_neg e] at h
        simp only [debuggerref34_damaged.j2]
        rw [if_neg (by simp), hw]; exact h
      simp only [debuggerref34_damaged.j1]
      by_cases a : i > 0
      · rw [if_pos a, hv]
        by_cases b : i - 1 = at_
        · rw [if_pos b]; exact yes (by omega)
        · rw [if_neg b, if_neg (by omega)]; exact no (by omega)
      · rw [if_neg a, if_pos (by omega)]
        by_cases b : at_ = -1
        · rw [show (at_ == -1) = true from beq_iff_eq.2 b]; exact yes (by omega)
        · rw [show (at_ == -1) = false from beq_eq_false_iff_ne.2 b]; exact no (by omega)
    simp only [debuggerref34_damaged.l0]
    rw [if_pos (by rw [hit_len]; exact hi)]
    by_cases a : i = at_
    · rw [if_pos a, if_pos h0]
      rw [if_pos a] at next
      exact tail _ (by simp [hit_len]) next
    · rw [if_neg a]
      rw [if_neg a] at next
      exact tail _ (by simp [hit_len]) next

theorem ref_damaged (l d1 : List Int) (at_ m : Int) (hl : l.length ≤ 1000) (k : Nat) (hk : 3 * l.length + 1 ≤ k) : debuggerref34_damaged.f k l d1 at_ m = some (hit l at_ m l.length) := by
  unfold debuggerref34_damaged.f
  simp only [Option.bind_some, List.nil_append, List.length_nil]
  rw [if_pos (by omega)]
  have h := ref_damaged_l l d1 at_ m hl l.length k 0 (by omega) (by omega) (by omega) hk
  rw [hit_zero] at h
  exact h

/-! ### Send -/
def copy (b : List Int) (at_ m now : Int) (d : Int) : S37 := ⟨wrap64 (now + (mn (mx d 1) 100)), hit b at_ m b.length⟩

theorem prog_send_l (b d1 : List Int) (at_ m now : Int) (hb : b.length ≤ 1000) (ys : List Int) (hy : ys.length ≤ 8) (d : Nat) : ∀ (k : Nat) (i : Int) (acc : List S37), 0 ≤ i → i ≤ ys.length → (ys.length : Int) - i = d → acc.length + d ≤ 1000 → d + 3 ≤ k →
    link_Send.l0 k b now acc ys ys.length i d1 at_ m = some (acc ++ (ys.drop i.toNat).map (copy b at_ m now)) := by
  induction d with
  | zero =>
    intro k i acc h0 h1 hd ha hk
    obtain ⟨k, rfl⟩ : ∃ j, k = j + 1 := ⟨k - 1, by omega⟩
    simp only [link_Send.l0]
    rw [if_neg (by omega), List.drop_of_length_le (by omega)]
    simp
  | succ d ih =>
    intro k i acc h0 h1 hd ha hk
    obtain ⟨k, rfl⟩ : ∃ j, k = j + 1 := ⟨k - 1, by omega⟩
    have hw : wrap64 (i + 1) = i + 1 := by unfold wrap64; omega
    simp only [link_Send.l0]
    rw [if_pos (by omega), if_pos h0, if_pos (by omega), prog_damaged b d1 at_ m hb k (by omega)]
    simp only [Option.bind_some]
    rw [if_pos (by omega), hw, ih k (i + 1) _ (by omega) (by omega) (by omega) (by simp; omega) (by omega)]
    have e : (i + 1).toNat = i.toNat + 1 := by omega
    rw [e, List.drop_eq_getElem_cons (show i.toNat < ys.length by omega), rd_get ys i h0 (by omega), List.map_cons, List.append_assoc]
    rfl

theorem mn8 (n : Nat) : mn (n : Int) 8 = ((min n 8 : Nat) : Int) := by unfold mn; split <;> omega

theorem prog_send (l : List S37) (d1 : List Int) (at_ m : Int) (b : List Int) (now : Int) (hl : l.length ≤ 30) (hlb : ∀ j : Int, 0 ≤ j → j < l.length → (rd_T37 l j).f1.length ≤ 300) (hb : b.length ≤ 1000) (k : Nat) (hk : 40 ≤ k) :
    link_Send.f k l d1 at_ m b now = some (l ++ (d1.take 8).map (copy b at_ m now)) := by
  unfold link_Send.f
  rw [copies_f l hl hlb k (by omega), mn8]
  simp only [Option.bind_some]
  rw [if_pos (by omega), if_pos (by omega)]
  have e : List.take (((min d1.length 8 : Nat) : Int)).toNat d1 = d1.take 8 := by
    rw [Int.toNat_natCast]
    by_cases h : d1.length ≤ 8
    · rw [List.take_of_length_le (by omega), List.take_of_length_le h]
    · rw [Nat.min_eq_right (by omega)]
  rw [e]
  have h8 : (d1.take 8).length ≤ 8 := by rw [List.length_take]; omega
  rw [prog_send_l b d1 at_ m now hb (d1.take 8) h8 (d1.take 8).length k 0 l (by omega) (by omega) (by omega) (by omega) (by omega)]
  simp

theorem ref_send_l (b d1 : List Int) (at_ m now : Int) (hb : b.length ≤ 1000) (d : Nat) : ∀ (k : Nat) (i : Int) (acc : List S37), 0 ≤ i → i ≤ 8 → i ≤ d1.length → 8 - i = d → acc.length + d ≤ 1000 → d + 3002 ≤ k →
    debuggerref34_Send.l0 k b now acc i d1 at_ m = some (acc ++ ((d1.take 8).drop i.toNat).map (copy b at_ m now)) := by
  have fin : ∀ (k : Nat) (i : Int) (acc : List S37), 1 ≤ k → 0 ≤ i → (¬ i < (d1.length : Int) ∨ ¬ i < 8) → debuggerref34_Send.l0 k b now acc i d1 at_ m = some (acc ++ ((d1.take 8).drop i.toNat).map (copy b at_ m now)) := by
    intro k i acc hk h0 h
    obtain ⟨k, rfl⟩ : ∃ j, k = j + 1 := ⟨k - 1, by omega⟩
    rw [List.drop_of_length_le (by rw [List.length_take]; omega)]
    simp only [debuggerref34_Send.l0]
    by_cases a : i < (d1.length : Int)
    · rw [if_pos a, if_neg (by omega)]; simp
    · rw [if_neg a]; simp
  induction d with
  | zero =>
    intro k i acc h0 h8 h1 hd ha hk
    exact fin k i acc (by omega) h0 (by omega)
  | succ d ih =>
    intro k i acc h0 h8 h1 hd ha hk
    by_cases a : i < (d1.length : Int)
    · obtain ⟨k, rfl⟩ : ∃ j, k = j + 1 := ⟨k - 1, by omega⟩
      have hw : wrap64 (i + 1) = i + 1 := by unfold wrap64; omega
      simp only [debuggerref34_Send.l0]
      rw [if_pos a, if_pos (by omega), if_pos h0, ref_damaged b d1 at_ m hb k (by omega)]
      simp only [Option.bind_some]
      rw [if_pos (by omega), hw, ih k (i + 1) _ (by omega) (by omega) (by omega) (by omega) (by simp; omega) (by omega)]
      have e : (i + 1).toNat = i.toNat + 1 := by omega
      have hlt : i.toNat < (d1.take 8).length := by rw [List.length_take]; omega
      rw [e, List.drop_eq_getElem_cons hlt, rd_get d1 i h0 a, List.map_cons, List.append_assoc, List.getElem_take]
      rfl
    · exact fin k i acc (by omega) h0 (.inl a)

theorem ref_send (l : List S37) (d1 : List Int) (at_ m : Int) (b : List Int) (now : Int) (hl : l.length ≤ 30) (hb : b.length ≤ 1000) (k : Nat) (hk : 3010 ≤ k) :
    debuggerref34_Send.f k l d1 at_ m b now = some (l ++ (d1.take 8).map (copy b at_ m now)) := by
  unfold debuggerref34_Send.f
  simp only [Option.bind_some, List.nil_append, List.length_nil]
  rw [if_pos (by omega), ref_send_l b d1 at_ m now hb 8 k 0 l (by omega) (by omega) (by omega) (by omega) (by omega) (by omega)]
  simp

theorem same_l (l : List S37) (hl : l.length ≤ 1000) (d : Nat) : ∀ (k : Nat) (i : Int), 0 ≤ i → i ≤ l.length → (l.length : Int) - i = d → d + 1 ≤ k → debuggerref34_Same.l0 k l l i = some true := by
  induction d with
  | zero =>
    intro k i h0 h1 hd hk
    obtain ⟨k, rfl⟩ : ∃ j, k = j + 1 := ⟨k - 1, by omega⟩
    simp only [debuggerref34_Same.l0]
    rw [if_neg (by omega)]
  | succ d ih =>
    intro k i h0 h1 hd hk
    obtain ⟨k, rfl⟩ : ∃ j, k = j + 1 := ⟨k - 1, by omega⟩
    have hw : wrap64 (i + 1) = i + 1 := by unfold wrap64; omega
    simp only [debuggerref34_Same.l0]
    rw [if_pos (by omega), if_pos h0, if_pos (by omega)]
    simp only [if_true]
    rw [hw]
    exact ih k (i + 1) (by omega) (by omega) (by omega) (by omega)

theorem same_f (l : List S37) (hl : l.length ≤ 1000) (k : Nat) (hk : 1001 ≤ k) : debuggerref34_Same.f k l l = some true := by
  unfold debuggerref34_Same.f
  rw [if_pos rfl]
  exact same_l l hl l.length k 0 (by omega) (by omega) (by omega) (by omega)

/-! ### fates -/
theorem fate_in (all : List S25) (n : Int) (h0 : 0 ≤ n) (h : n < all.length) (hx : (rd_T25 all n).f0.length ≤ 17592186043904) :
    link_FateOf.f all n = some ((rd_T25 all n).f0, (rd_T25 all n).f1, (rd_T25 all n).f2) := by
  unfold link_FateOf.f
  rw [if_neg (by omega), if_neg (by omega), if_pos h0, if_pos h, if_pos (by simp; omega)]
  rfl
theorem fate_in' (all : List S25) (n : Int) (h0 : 0 ≤ n) (h : n < all.length) (hx : (rd_T25 all n).f0.length ≤ 17592186043904) :
    debuggerref34_FateOf.f all n = some ((rd_T25 all n).f0, (rd_T25 all n).f1, (rd_T25 all n).f2) := by
  unfold debuggerref34_FateOf.f
  rw [if_pos (show n ≥ 0 from h0), if_pos h]
  simp only [Option.bind_some]
  rw [if_pos h0, if_pos (by simp; omega)]
  rfl
theorem fate_out (all : List S25) (n : Int) (h : n < 0 ∨ (all.length : Int) ≤ n) : link_FateOf.f all n = some ([1], 0, 0) := by
  unfold link_FateOf.f
  by_cases a : n < 0
  · rw [if_pos a]
  · rw [if_neg a, if_pos (by omega)]
theorem fate_out' (all : List S25) (n : Int) (h : n < 0 ∨ (all.length : Int) ≤ n) : debuggerref34_FateOf.f all n = some ([1], 0, 0) := by
  unfold debuggerref34_FateOf.f
  by_cases a : n ≥ 0
  · rw [if_pos a, if_neg (by omega)]
  · rw [if_neg a]
theorem fate_both (all : List S25) (ha : ∀ x ∈ all, x.f0.length * 8 ≤ 140737488351232) (n : Int) : ∃ d at_ m, link_FateOf.f all n = some (d, at_, m) ∧ debuggerref34_FateOf.f all n = some (d, at_, m) ∧ d.length ≤ 17592186043904 := by
  by_cases a : n < 0 ∨ (all.length : Int) ≤ n
  · exact ⟨[1], 0, 0, fate_out all n a, fate_out' all n a, by simp⟩
  · have hm : (rd_T25 all n) ∈ all := by
      unfold rd_T25
      rw [List.getD_eq_getElem?_getD, List.getElem?_eq_getElem (by omega)]
      exact List.getElem_mem _
    have hx := ha _ hm
    exact ⟨_, _, _, fate_in all n (by omega) (by omega) (by omega), fate_in' all n (by omega) (by omega) (by omega), by omega⟩

theorem fates_l (x : List Int) (at_ m : Int) (hx : x.length ≤ 17592186043904) (d : Nat) : ∀ (k : Nat) (i : Int), 0 ≤ i → i ≤ x.length → (x.length : Int) - i = d → d + 1 ≤ k → debuggerlaw34_fates.l0 k i x at_ m x at_ m = some true := by
  induction d with
  | zero =>
    intro k i h0 h1 hd hk
    obtain ⟨k, rfl⟩ : ∃ j, k = j + 1 := ⟨k - 1, by omega⟩
    simp only [debuggerlaw34_fates.l0]
    rw [if_neg (by omega)]
  | succ d ih =>
    intro k i h0 h1 hd hk
    obtain ⟨k, rfl⟩ : ∃ j, k = j + 1 := ⟨k - 1, by omega⟩
    have hw : wrap64 (i + 1) = i + 1 := by unfold wrap64; omega
    simp only [debuggerlaw34_fates.l0]
    rw [if_pos (by omega), if_pos h0, if_pos (by omega)]
    simp only [if_true]
    rw [hw]
    exact ih k (i + 1) (by omega) (by omega) (by omega) (by omega)

theorem fates_f (x : List Int) (at_ m : Int) (hx : x.length ≤ 17592186043904) (k : Nat) (hk : x.length + 2 ≤ k) : debuggerlaw34_fates.f k x at_ m x at_ m = some true := by
  obtain ⟨k, rfl⟩ : ∃ j, k = j + 1 := ⟨k - 1, by omega⟩
  unfold debuggerlaw34_fates.f
  rw [if_pos rfl, if_pos rfl, show (((x.length : Int)) != (x.length : Int)) = false from bne_eq_false_iff_eq.2 rfl]
  simp only [debuggerlaw34_fates.j0]
  rw [if_neg (by simp)]
  exact fates_l x at_ m hx x.length k 0 (by omega) (by omega) (by omega) (by omega)

/-! ### the law -/
theorem sends_l (l : List S37) (all : List S25) (b : List Int) (n now : Int) (hl : l.length ≤ 30) (hlb : ∀ j : Int, 0 ≤ j → j < l.length → (rd_T37 l j).f1.length ≤ 300) (hb : b.length ≤ 1000) (hall : all.length ≤ 50)
    (K : Nat) (fin : ∀ k, K ≤ k → ∃ r, debuggerkit_Mod.f n (wrap64 ((all.length : Int) + 2)) = some r ∧ ∃ d at_ m d' at' m', link_FateOf.f all n = some (d, at_, m) ∧ debuggerref34_FateOf.f all n = some (d, at_, m) ∧ link_FateOf.f all r = some (d', at', m') ∧ debuggerref34_FateOf.f all r = some (d', at', m') ∧ debuggerlaw34_fates.f k d at_ m d at_ m = some true ∧ debuggerlaw34_fates.f k d' at' m' d' at' m' = some true)
    (ys : List S25) (hy : ys.length ≤ 2) (dd : Nat) : ∀ (k : Nat) (i : Int), 0 ≤ i → i ≤ ys.length → (ys.length : Int) - i = dd → K + dd + 3100 ≤ k →
    debuggerlaw34_LinkSends.l0 k l all b n now ys ys.length i = some true := by
  induction dd with
  | zero =>
    intro k i h0 h1 hd hk
    obtain ⟨k, rfl⟩ : ∃ j, k = j + 1 := ⟨k - 1, by omega⟩
    have aw : debuggerlaw34_awake.f k = some true := by
      obtain ⟨j, rfl⟩ : ∃ j, k = j + 60 := ⟨k - 60, by omega⟩
      exact awake_f j
    obtain ⟨r, hr, d, at_, m, d', at', m', f1, f2, f3, f4, f5, f6⟩ := fin k (by omega)
    simp only [debuggerlaw34_LinkSends.l0]
    rw [if_neg (by omega), hr]; simp only [Option.bind_some]
    rw [f1]; simp only [Option.bind_some]
    rw [f2]; simp only [Option.bind_some]
    rw [f5]; simp only [Option.bind_some, if_true]
    rw [f3]; simp only [Option.bind_some]
    rw [f4]; simp only [Option.bind_some]
    rw [f6]; simp only [Option.bind_some, if_true]
    rw [aw]; rfl
  | succ dd ih =>
    intro k i h0 h1 hd hk
    obtain ⟨k, rfl⟩ : ∃ j, k = j + 1 := ⟨k - 1, by omega⟩
    have hw : wrap64 (i + 1) = i + 1 := by unfold wrap64; omega
    simp only [debuggerlaw34_LinkSends.l0]
    rw [if_pos (by omega), if_pos h0, if_pos (by omega), prog_send l _ _ _ b now hl hlb hb k (by omega), ref_send l _ _ _ b now hl hb k (by omega)]
    simp only [Option.bind_some]
    rw [same_f _ (by simp; omega) k (by omega)]
    simp only [Option.bind_some, if_true]
    rw [hw]
    exact ih k (i + 1) (by omega) (by omega) (by omega) (by omega)

theorem mod_len (b : List Int) (x : Int) (h : (b.length : Int) ≤ 300) : ∃ r, debuggerkit_Mod.f x (wrap64 ((b.length : Int) + 3)) = some r := by
  have hw : wrap64 ((b.length : Int) + 3) = (b.length : Int) + 3 := by unfold wrap64; omega
  obtain ⟨r, hr, _, _⟩ := mod_some x ((b.length : Int) + 3) (by omega) (by omega)
  exact ⟨r, by rw [hw]; exact hr⟩
theorem mod_now (x : Int) : ∃ r, debuggerkit_Mod.f x 1073741824 = some r := by
  obtain ⟨r, hr, _, _⟩ := mod_some x 1073741824 (by omega) (by omega)
  exact ⟨r, hr⟩

theorem j0_no (k : Nat) (l : List S37) (all : List S25) (b : List Int) (n at' now : Int) (d0 : List Int) (at_ m now' a' : Int) (hn : debuggerkit_Mod.f now 1073741824 = some now') (ha : debuggerkit_Mod.f at' (wrap64 ((b.length : Int) + 3)) = some a') :
    debuggerlaw34_LinkSends.j0 (k + 1) l all b n at' now false d0 at_ m = debuggerlaw34_LinkSends.j1 k l all b n now' d0 at_ m d0 (wrap64 (a' - 2)) m := by
  rw [debuggerlaw34_LinkSends.j0, if_neg (by simp), hn, Option.bind_some, ha, Option.bind_some]
theorem j1_no (k : Nat) (l : List S37) (all : List S25) (b : List Int) (n now : Int) (d0 : List Int) (at_ m : Int) (d1 : List Int) (at1 m1 : Int) :
    debuggerlaw34_LinkSends.j1 (k + 1) l all b n now d0 at_ m d1 at1 m1 = debuggerlaw34_LinkSends.l0 k l all b n now [(⟨d0, at_, m⟩ : S25), (⟨d1, at1, m1⟩ : S25)] (([(⟨d0, at_, m⟩ : S25), (⟨d1, at1, m1⟩ : S25)] : List S25).length : Int) 0 := by
  rw [debuggerlaw34_LinkSends.j1, Option.bind_some]

theorem LinkSends (l : List S37) (d0 : List Int) (at_ m : Int) (all : List S25) (b : List Int) (n at' now : Int) (hall : ∀ x ∈ all, x.f0.length * 8 ≤ 140737488351232) :
    ∃ k, debuggerlaw34_LinkSends.f k l d0 at_ m all b n at' now = some true := by
  obtain ⟨d1, a1, m1, e1, e2, hd1⟩ := fate_both all hall n
  obtain ⟨K, hK⟩ : ∃ K, d1.length + 4000 ≤ K := ⟨_, Nat.le_refl _⟩
  -- the second fate is that of n brought into the range
  have ex : ∃ r d2 a2 m2, (all.length ≤ 50 → debuggerkit_Mod.f n (wrap64 ((all.length : Int) + 2)) = some r) ∧ link_FateOf.f all r = some (d2, a2, m2) ∧ debuggerref34_FateOf.f all r = some (d2, a2, m2) ∧ d2.length ≤ 17592186043904 := by
    by_cases h : all.length ≤ 50
    · have hw : wrap64 ((all.length : Int) + 2) = (all.length : Int) + 2 := by unfold wrap64; omega
      obtain ⟨r, hr, _, _⟩ := mod_some n ((all.length : Int) + 2) (by omega) (by omega)
      obtain ⟨d2, a2, m2, g1, g2, g3⟩ := fate_both all hall r
      exact ⟨r, d2, a2, m2, fun _ => by rw [hw]; exact hr, g1, g2, g3⟩
    · obtain ⟨d2, a2, m2, g1, g2, g3⟩ := fate_both all hall 0
      exact ⟨0, d2, a2, m2, fun h' => absurd h' h, g1, g2, g3⟩
  obtain ⟨r, d2, a2, m2, hr, g1, g2, g3⟩ := ex
  obtain ⟨K2, hK2⟩ : ∃ K2, K + d2.length + 10000 ≤ K2 := ⟨_, Nat.le_refl _⟩
  obtain ⟨j, hj⟩ : ∃ j, K2 = (j + 60) + 1 := ⟨K2 - 61, by omega⟩
  refine ⟨K2, ?_⟩
  have aw : debuggerlaw34_LinkSends.j0 K2 l all b n at' now true d0 at_ m = some true := by
    rw [hj]
    simp only [debuggerlaw34_LinkSends.j0, if_true]
    rw [awake_f j]; rfl
  obtain ⟨t, ht, hp⟩ := large_l l 30 K2 0 (by omega) (by omega) (by omega) (by omega) (by omega)
  unfold debuggerlaw34_LinkSends.f debuggerlaw34_large.f
  rw [ht]
  simp only [Option.bind_some]
  by_cases c1 : t = true
  · rw [if_pos c1]; exact aw
  · rw [if_neg c1]
    obtain ⟨hl, hlb⟩ := hp (by simpa using c1)
    by_cases c2 : (b.length : Int) > 300
    · rw [if_pos c2]; exact aw
    · rw [if_neg c2]
      by_cases c3 : (d0.length : Int) > 50
      · rw [if_pos c3]; exact aw
      · rw [if_neg c3]
        by_cases c4 : (all.length : Int) > 50
        · rw [decide_eq_true c4]; exact aw
        · rw [decide_eq_false c4]
          obtain ⟨i, hi⟩ : ∃ i, K2 = i + 1 := ⟨K2 - 1, by omega⟩
          obtain ⟨i', hi'⟩ : ∃ i', i = i' + 1 := ⟨i - 1, by omega⟩
          obtain ⟨now', hn⟩ := mod_now now
          obtain ⟨a', ha'⟩ := mod_len b at' (Int.not_lt.1 c2)
          have hr' := hr (by omega)
          have hbl : b.length ≤ 1000 := by omega
          have hal : all.length ≤ 50 := by omega
          have hi2 : K + d2.length + 2 + 3100 ≤ i' := by omega
          rw [hi, j0_no i l all b n at' now d0 at_ m now' a' hn ha', hi', j1_no]
          refine sends_l l all b n now' hl hlb hbl hal (K + d2.length) ?_ _ ?_ 2 i' 0 (Int.le_refl 0) ?_ ?_ hi2
          · intro k hk
            exact ⟨r, hr', d1, a1, m1, d2, a2, m2, e1, e2, g1, g2, fates_f d1 a1 m1 hd1 k (by omega), fates_f d2 a2 m2 g3 k (by omega)⟩
          · exact Nat.le_refl 2
          · exact Int.natCast_nonneg 2
          · rfl

end Go.Proofs.Ytipkcbpilkoflaa.Pure
