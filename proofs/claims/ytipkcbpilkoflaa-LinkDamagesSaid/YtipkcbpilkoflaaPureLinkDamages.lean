/- The plain law behind LinkDamages: numbers and lists alone. -/
import Derived.Test.YtipkcbpilkoflaaQLinkDamagesx16
namespace Go.Proofs.Ytipkcbpilkoflaa.Pure
open Go.RowKit Go.Proofs.Ytipkcbpilkoflaa.QLinkDamages Go.Proofs.YtipkcbpilkoflaaW.PrintWords Go.Proofs.YtipkcbpilkoflaaW.PrintLast Go.Proofs.YtipkcbpilkoflaaW.PrintMore
set_option linter.unusedVariables false
set_option linter.unusedSimpArgs false

theorem awake_60 : debuggerlaw34_awake.f 60 = some true := by kernel_rfl

theorem awake_f (k : Nat) : debuggerlaw34_awake.f (k + 60) = some true :=
  at_rounds (g := fun k => debuggerlaw34_awake.f k) debuggerlaw34_awake.mono (Nat.le_add_left 60 k) awake_60

theorem xor_zero_u8 (x : Int) (h0 : 0 ≤ x) (h1 : x ≤ 255) : Go.bits .xor .u8 x 0 = x := by
  unfold Go.bits
  have e : (BitVec.ofInt (IntKind.bits .u8) x ^^^ BitVec.ofInt (IntKind.bits .u8) 0) = BitVec.ofInt 8 x := by
    show BitVec.ofInt 8 x ^^^ BitVec.ofInt 8 0 = BitVec.ofInt 8 x
    simp
  simp only [e]
  have t : (BitVec.ofInt 8 x).toNat = x.toNat := by
    rw [BitVec.toNat_ofInt]
    congr 1
    omega
  show IntKind.wrap .u8 (((BitVec.ofInt 8 x).toNat : Nat) : Int) = x
  rw [t]
  unfold IntKind.wrap
  simp [IntKind.bits, IntKind.signed]
  omega

theorem and_ffff (m : Int) : Go.bits .and .i64 m 65535 = m % 65536 := by
  unfold Go.bits
  have e : (BitVec.ofInt (IntKind.bits .i64) m &&& BitVec.ofInt (IntKind.bits .i64) 65535).toNat = (m % 65536).toNat := by
    show (BitVec.ofInt 64 m &&& BitVec.ofInt 64 65535).toNat = (m % 65536).toNat
    rw [BitVec.toNat_and, BitVec.toNat_ofInt, BitVec.toNat_ofInt]
    have a : ((65535 : Int) % ((2 ^ 64 : Nat) : Int)).toNat = 2 ^ 16 - 1 := by decide
    rw [a, Nat.and_two_pow_sub_one_eq_mod]
    have h : ((2 ^ 64 : Nat) : Int) = 18446744073709551616 := by decide
    rw [h]
    omega
  simp only [e]
  show IntKind.wrap .i64 ((m % 65536).toNat : Int) = m % 65536
  have h0 : 0 ≤ m % 65536 := Int.emod_nonneg _ (by omega)
  have h1 : m % 65536 < 65536 := Int.emod_lt_of_pos _ (by omega)
  rw [Int.toNat_of_nonneg h0]
  unfold IntKind.wrap
  have e1 : (m % 65536) % (2 ^ IntKind.bits .i64 : Int) = m % 65536 := by
    show (m % 65536) % (18446744073709551616 : Int) = m % 65536
    omega
  simp only [e1]
  have e2 : (2 ^ (IntKind.bits .i64 - 1) : Int) = 9223372036854775808 := by decide
  rw [e2, if_neg (by simp; omega)]

theorem rd_set (l : List Int) (n : Int) (v : Int) (i : Int) (hn : 0 ≤ n) (hl : n < l.length) (hi : 0 ≤ i) : rd (l.set n.toNat v) i = if i = n then v else rd l i := by
  unfold rd
  rw [List.getD_eq_getElem?_getD, List.getD_eq_getElem?_getD, List.getElem?_set]
  by_cases h : i = n
  · subst h
    rw [if_pos rfl, if_pos rfl, if_pos (by omega)]
    rfl
  · rw [if_neg (by omega), if_neg h]

theorem rd_mem (l : List Int) (i : Int) (h0 : 0 ≤ i) (h : i < l.length) : rd l i ∈ l := by
  unfold rd
  rw [List.getD_eq_getElem?_getD, List.getElem?_eq_getElem (by omega)]
  exact List.getElem_mem _

/-- What a datagram's damage may change. -/
structure Dam (l t : List Int) (at_ m : Int) : Prop where
  len : t.length = l.length
  same : ∀ i : Int, 0 ≤ i → i < l.length → rd t i ≠ rd l i → m % 65536 ≠ 0 ∧ (i = at_ ∨ i = at_ + 1)

theorem dam_refl (l : List Int) (at_ m : Int) : Dam l l at_ m := ⟨rfl, fun _ _ _ h => absurd rfl h⟩

theorem dam_set {l t : List Int} {at_ m : Int} (hb : ∀ x ∈ l, 0 ≤ x ∧ x ≤ 255) (d : Dam l t at_ m) (n p : Int) (hn : 0 ≤ n) (hl : n < l.length) (hat : n = at_ ∨ n = at_ + 1) (hp : m % 65536 = 0 → p = 0) : Dam l (t.set n.toNat (Go.bits .xor .u8 (rd t n) p)) at_ m := by
  have hlen := d.len
  refine ⟨by simpa using d.len, ?_⟩
  intro i hi hil hne
  rw [rd_set t n _ i hn (by omega) hi] at hne
  by_cases h : i = n
  · subst h
    rw [if_pos rfl] at hne
    refine ⟨fun hm => hne ?_, hat⟩
    have hs : rd t i = rd l i := by
      by_cases hh : rd t i = rd l i
      · exact hh
      · exact absurd hm (d.same i hi hil hh).1
    have hr := hb _ (rd_mem l i hi hil)
    rw [hp hm, hs, xor_zero_u8 _ hr.1 hr.2]
  · rw [if_neg h] at hne
    exact d.same i hi hil hne

theorem damaged_j1 {l t : List Int} {at_ m : Int} (hb : ∀ x ∈ l, 0 ≤ x ∧ x ≤ 255) (hl : l.length ≤ 1000) (d : Dam l t at_ m) (d1 : List Int) (k : Nat) (hk : 1 ≤ k) :
    ∃ t', link_damaged.j1 k t d1 at_ m = some t' ∧ Dam l t' at_ m := by
  obtain ⟨k, rfl⟩ : ∃ j, k = j + 1 := ⟨k - 1, by omega⟩
  have hlen := d.len
  simp only [link_damaged.j1]
  by_cases h1 : at_ ≥ -1
  · rw [if_pos h1]
    by_cases h2 : at_ < wrap64 ((t.length : Int) - 1)
    · have hw : wrap64 ((t.length : Int) - 1) = (t.length : Int) - 1 := by unfold wrap64; omega
      have hv : wrap64 (at_ + 1) = at_ + 1 := by unfold wrap64; omega
      rw [if_pos h2, hv, if_pos (by omega), if_pos (by omega)]
      exact ⟨_, rfl, dam_set hb d _ _ (by omega) (by omega) (.inr rfl) (fun hm => by omega)⟩
    · rw [if_neg h2]; exact ⟨_, rfl, d⟩
  · rw [if_neg h1]; exact ⟨_, rfl, d⟩

theorem damaged_f (l d1 : List Int) (at_ m : Int) (hb : ∀ x ∈ l, 0 ≤ x ∧ x ≤ 255) (hl : l.length ≤ 1000) (k : Nat) (hk : 2 ≤ k) :
    ∃ t, link_damaged.f k l d1 at_ m = some t ∧ Dam l t at_ m := by
  obtain ⟨k, rfl⟩ : ∃ j, k = j + 1 := ⟨k - 1, by omega⟩
  unfold link_damaged.f
  rw [if_pos (by simp; omega)]
  simp only [Option.bind_some, List.nil_append]
  have j0f : ∃ t, link_damaged.j0 (k + 1) l false d1 at_ m = some t ∧ Dam l t at_ m := by
    simp only [link_damaged.j0]
    rw [if_neg (by simp)]
    exact damaged_j1 hb hl (dam_refl l at_ m) d1 k (by omega)
  by_cases h1 : at_ ≥ 0
  · rw [if_pos h1]
    by_cases h2 : at_ < (l.length : Int)
    · rw [decide_eq_true h2]
      simp only [link_damaged.j0, if_true]
      rw [if_pos h1, if_pos h2]
      exact damaged_j1 hb hl (dam_set hb (dam_refl l at_ m) at_ _ h1 h2 (.inl rfl) (fun hm => by omega)) d1 k (by omega)
    · rw [decide_eq_false h2]; exact j0f
  · rw [if_neg h1]; exact j0f

theorem one_flight (l d1 : List Int) (at_ m : Int) (t : List Int) (k : Nat) (h : ∀ j, 2 ≤ j → ∃ t, link_damaged.f j l d1 at_ m = some t ∧ Dam l t at_ m) (hk : 10 ≤ k) (hd : d1 = [1]) :
    ∃ t, link_Send.f k [] d1 at_ m l 0 = some [(⟨1, t⟩ : S37)] ∧ Dam l t at_ m := by
  subst hd
  obtain ⟨k, rfl⟩ : ∃ j, k = j + 2 := ⟨k - 2, by omega⟩
  obtain ⟨t, ht, d⟩ := h (k + 1) (by omega)
  refine ⟨t, ?_, d⟩
  unfold link_Send.f
  have hc : link_copies.f (k + 2) [] = some [] := by
    unfold link_copies.f
    simp only [link_copies.l0]
    rw [if_neg (by simp)]
  have h8 : mn (([1] : List Int).length : Int) 8 = 1 := by decide
  rw [hc, h8]
  simp only [Option.bind_some]
  rw [if_pos (by omega), if_pos (by simp)]
  have hr : rd ([1] : List Int) 0 = 1 := rfl
  have hm : mn (mx 1 1) 100 = 1 := by decide
  have hw : wrap64 (0 + 1) = 1 := by unfold wrap64; omega
  have ht1 : List.take (1 : Int).toNat ([1] : List Int) = [1] := rfl
  rw [ht1]
  simp only [link_Send.l0, List.length_cons, List.length_nil]
  rw [if_pos (by omega), if_pos (by omega), if_pos (by omega), ht]
  simp only [Option.bind_some]
  rw [if_pos (by omega), hr, hm, hw]
  rw [if_neg (by omega)]
  rfl

theorem damages_l {l t : List Int} {at_ m : Int} (hl : l.length ≤ 1000) (d : Dam l t at_ m) (d1 : List Int) (n : Nat) : ∀ (k : Nat) (i : Int), 0 ≤ i → i ≤ l.length → (l.length : Int) - i = n → 2 * n + 61 ≤ k →
    debuggerlaw34_LinkDamages.l0 k l [(⟨1, t⟩ : S37)] i d1 at_ m = some true := by
  have hlen := d.len
  have hf : (rd_T37 [(⟨1, t⟩ : S37)] 0).f1 = t := rfl
  induction n with
  | zero =>
    intro k i h0 h1 hn hk
    obtain ⟨k, rfl⟩ : ∃ j, k = j + 61 := ⟨k - 61, by omega⟩
    simp only [debuggerlaw34_LinkDamages.l0]
    rw [if_neg (by omega), awake_f k]; rfl
  | succ n ih =>
    intro k i h0 h1 hn hk
    obtain ⟨k, rfl⟩ : ∃ j, k = j + 2 := ⟨k - 2, by omega⟩
    have hw : wrap64 (i + 1) = i + 1 := by unfold wrap64; omega
    have hv : wrap64 (i - 1) = i - 1 := by unfold wrap64; omega
    have next : debuggerlaw34_LinkDamages.j2 (k + 1) l [(⟨1, t⟩ : S37)] i false d1 at_ m = some true := by
      simp only [debuggerlaw34_LinkDamages.j2]
      rw [if_neg (by simp), hw]
      exact ih k (i + 1) (by omega) (by omega) (by omega) (by omega)
    simp only [debuggerlaw34_LinkDamages.l0]
    rw [if_pos (by omega), if_pos (by simp), if_pos h0, hf, if_pos (by omega)]
    by_cases he : rd t i = rd l i
    · rw [if_pos he]; exact next
    · have hs := d.same i h0 (by omega) he
      rw [if_neg he, and_ffff, if_neg hs.1]
      by_cases ha : i = at_
      · rw [if_pos ha]; exact next
      · rw [if_neg ha, hv, show ((i - 1) != at_) = false from bne_eq_false_iff_eq.2 (by omega)]
        exact next

theorem LinkDamages (l d0 : List Int) (at_ m : Int) (hb : ∀ x ∈ l, (Lit.int .u8 x).wf = true) :
    ∃ k, debuggerlaw34_LinkDamages.f k l d0 at_ m = some true := by
  obtain ⟨K, hK⟩ : ∃ K, 700 ≤ K := ⟨700, Nat.le_refl _⟩
  obtain ⟨j, rfl⟩ : ∃ j, K = j + 60 := ⟨K - 60, by omega⟩
  refine ⟨j + 60, ?_⟩
  have hb' : ∀ x ∈ l, 0 ≤ x ∧ x ≤ 255 := by
    intro x hx
    have := hb x hx
    simp [Lit.wf, IntKind.min, IntKind.max, IntKind.signed, IntKind.bits] at this
    omega
  unfold debuggerlaw34_LinkDamages.f
  by_cases hl : (l.length : Int) > 300
  · rw [if_pos hl, awake_f j]; rfl
  · rw [if_neg hl]
    simp only [Option.bind_some]
    obtain ⟨t, ht, d⟩ := one_flight l [1] at_ m [] (j + 60) (fun i hi => damaged_f l [1] at_ m hb' (by omega) i hi) (by omega) rfl
    rw [ht]
    simp only [Option.bind_some, List.length_cons, List.length_nil]
    have hlen := d.len
    have hf : (rd_T37 [(⟨1, t⟩ : S37)] 0).f1 = t := rfl
    rw [if_pos (by omega), if_pos (by omega), hf, show (((t.length : Int)) != (l.length : Int)) = false from bne_eq_false_iff_eq.2 (by omega)]
    obtain ⟨i, rfl⟩ : ∃ i, j = i + 1 := ⟨j - 1, by omega⟩
    show debuggerlaw34_LinkDamages.j0 ((i + 60) + 1) l _ false [1] at_ m = some true
    simp only [debuggerlaw34_LinkDamages.j0]
    rw [if_neg (by simp)]
    exact damages_l (by omega) d [1] l.length (i + 60) 0 (by omega) (by omega) (by omega) (by omega)

end Go.Proofs.Ytipkcbpilkoflaa.Pure
