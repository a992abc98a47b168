/- The plain theory of the library's stable sort, second part: insertion sort, blocks. -/
import Derived.Test.YtipkcbpilkoflaaSym
namespace Go.Proofs.Ytipkcbpilkoflaa.Stab
open Go.Sort
variable {α : Type} [Inhabited α] {key : α → Int}
set_option linter.unusedVariables false

theorem insInner_spec (d : Array α) (a m : Nat) (hm : m < d.size) : ∀ (q : Nat) (dk : Array α), Rotd d dk q m (m + 1) → a ≤ q → q ≤ m → (q = m ∨ key d[m]! < key d[q]!) →
    ∃ s, Rotd d (insInner (fun x y => decide (key x < key y)) a q dk) s m (m + 1) ∧ a ≤ s ∧ s ≤ m ∧ (s = a ∨ ¬ key d[m]! < key d[s - 1]!) ∧ (s = m ∨ key d[m]! < key d[s]!)
  | 0, dk, hr, ha, hq, hk => by
    rw [insInner_stop _ _ _ _ (Or.inl (Nat.zero_le _))]
    exact ⟨0, hr, ha, hq, Or.inl (by omega), hk⟩
  | q + 1, dk, hr, ha, hq, hk => by
    have e0 : dk[q + 1]! = d[m]! := by
      have n1 : q + 1 ≤ q + 1 ∧ q + 1 < q + 1 + (m + 1 - m) := by omega
      rw [hr.get, if_pos n1]; congr 1; omega
    have e1 : dk[q]! = d[q]! := by
      have n1 : ¬ (q + 1 ≤ q ∧ q < q + 1 + (m + 1 - m)) := by omega
      have n2 : ¬ (q + 1 + (m + 1 - m) ≤ q ∧ q < m + 1) := by omega
      rw [hr.get, if_neg n1, if_neg n2]
    by_cases c : a < q + 1 ∧ key d[m]! < key d[q]!
    · rw [insInner_go _ _ _ _ c.1 (by rw [Nat.add_sub_cancel, e0, e1]; exact decide_eq_true c.2), Nat.add_sub_cancel]
      have h2 := hr.last (by omega) hq hm
      rw [Nat.add_sub_cancel] at h2
      exact insInner_spec d a m hm q _ h2 (by omega) (by omega) (Or.inr c.2)
    · rw [insInner_stop _ _ _ _ (by
        by_cases c1 : q + 1 ≤ a
        · exact Or.inl c1
        · right
          rw [Nat.add_sub_cancel, e0, e1]
          exact decide_eq_false fun h => c ⟨by omega, h⟩)]
      refine ⟨q + 1, hr, ha, hq, ?_, hk⟩
      by_cases c1 : q + 1 = a
      · exact Or.inl c1
      · right
        rw [Nat.add_sub_cancel]
        exact fun h => c ⟨by omega, h⟩

/-- the stretch i..j of d is that of d0, sorted. -/
def IsS (key : α → Int) (d0 d : Array α) (i j : Nat) : Prop := seg d i j = isort key (seg d0 i j)
theorem IsS.srt {d0 d : Array α} {i j : Nat} (h : IsS key d0 d i j) : Srt key d i j := srt_of_pair key d i j (by rw [h]; exact isort_sorted key _)
theorem IsS.congr {d0 d d' : Array α} {i j : Nat} (h : IsS key d0 d i j) (e : ∀ t, i ≤ t → t < j → d'[t]! = d[t]!) : IsS key d0 d' i j := by
  unfold IsS at *
  rw [← h]
  exact seg_congr _ _ _ _ _ _ rfl fun t ht => e (i + t) (by omega) (by omega)
theorem IsS.merge {d0 d d' : Array α} {a m b : Nat} (h1 : IsS key d0 d a m) (h2 : IsS key d0 d m b) (h : Mrgd key d d' a m b) (ham : a ≤ m) (hmb : m ≤ b) : IsS key d0 d' a b := by
  unfold IsS at *
  rw [h.mid, h1, h2, ← isort_append, seg_append d0 a m b ham hmb]
theorem IsS.one (d0 d : Array α) (i : Nat) (h : d[i]! = d0[i]!) : IsS key d0 d i (i + 1) := by
  unfold IsS
  rw [seg_one, seg_one, isort_one, h]
theorem IsS.nil (d0 d : Array α) (i j : Nat) (h : j ≤ i) : IsS key d0 d i j := by
  unfold IsS
  rw [seg_nil _ _ _ h, seg_nil _ _ _ h]; rfl

theorem insOuter_spec (d0 : Array α) (a b : Nat) (hb : b ≤ d0.size) : ∀ (n i : Nat) (d : Array α), b - i ≤ n → d.size = d0.size → a ≤ i → i ≤ b → IsS key d0 d a i → (∀ t, t < a ∨ i ≤ t → d[t]! = d0[t]!) →
    (insOuter (fun x y => decide (key x < key y)) a b i d).size = d0.size ∧ IsS key d0 (insOuter (fun x y => decide (key x < key y)) a b i d) a b ∧ (∀ t, t < a ∨ b ≤ t → (insOuter (fun x y => decide (key x < key y)) a b i d)[t]! = d0[t]!)
  | n, i, d, hn, hs, ha, hi, h1, h2 => by
    by_cases c : i < b
    · cases n with
      | zero => omega
      | succ n =>
      rw [insOuter_go _ _ _ _ _ c]
      obtain ⟨s, hr, hs1, hs2, hl, hrr⟩ := insInner_spec (key := key) d a i (by omega) i d (Rotd.none d i i (i + 1) (by omega) (by omega) (by omega)) ha (Nat.le_refl _) (Or.inl rfl)
      have hm := merged_last key d _ a i s hs1 hs2 h1.srt hl hrr hr
      exact insOuter_spec d0 a b hb n (i + 1) _ (by omega) (by rw [hm.size, hs]) (by omega) (by omega) (IsS.merge h1 (IsS.one d0 d i (h2 i (Or.inr (Nat.le_refl _)))) hm ha (by omega)) fun t ht => by
        rw [hm.out t (by omega), h2 t (by omega)]
    · rw [insOuter_stop _ _ _ _ _ c]
      have : i = b := by omega
      subst this
      exact ⟨hs, h1, h2⟩

/-- a stretch sorted by insertion -/
structure Insd (key : α → Int) (d d' : Array α) (a b : Nat) : Prop where
  size : d'.size = d.size
  out : ∀ t, t < a ∨ b ≤ t → d'[t]! = d[t]!
  mid : IsS key d d' a b
theorem insertion_spec (d : Array α) (a b : Nat) (hab : a ≤ b) (hb : b ≤ d.size) : Insd key d (insertionSort (fun x y => decide (key x < key y)) d a b) a b := by
  by_cases c : a < b
  · unfold insertionSort
    obtain ⟨h1, h2, h3⟩ := insOuter_spec (key := key) d a b hb (b - (a + 1)) (a + 1) d (Nat.le_refl _) rfl (by omega) (by omega) (IsS.one d d a rfl) (fun _ _ => rfl)
    exact ⟨h1, h3, h2⟩
  · unfold insertionSort
    rw [insOuter_stop _ _ _ _ _ (by omega)]
    exact ⟨rfl, fun _ _ => rfl, IsS.nil d d a b (by omega)⟩
theorem IsS.insd {d0 d d' : Array α} {a b : Nat} (h : Insd key d d' a b) (e : ∀ t, a ≤ t → t < b → d[t]! = d0[t]!) : IsS key d0 d' a b := by
  have h1 := h.mid
  unfold IsS at *
  rw [h1]
  congr 1
  exact seg_congr _ _ _ _ _ _ rfl fun t ht => e (a + t) (by omega) (by omega)

theorem dvd_le {c i a : Nat} (h1 : c ∣ i) (h2 : c ∣ a) (h : i < a + c) : i ≤ a := by
  obtain ⟨x, rfl⟩ := h1
  obtain ⟨y, rfl⟩ := h2
  have : x < y + 1 := Nat.lt_of_mul_lt_mul_left (a := c) (by rw [Nat.mul_add, Nat.mul_one]; exact h)
  exact Nat.mul_le_mul_left c (by omega)
theorem dvd_next {c i a : Nat} (h1 : c ∣ i) (h2 : c ∣ a) (h : i < a) : i + c ≤ a := by
  have := dvd_le (Nat.dvd_add h1 (Nat.dvd_refl c)) h2 (by omega)
  exact this

/-- the blocks below a are sorted, what lies behind is untouched. -/
structure Part (key : α → Int) (d0 d1 d : Array α) (c a : Nat) : Prop where
  size : d.size = d0.size
  dvd : c ∣ a
  low : ∀ i, c ∣ i → i < a → IsS key d0 d i (i + c)
  high : ∀ t, a ≤ t → d[t]! = d1[t]!
/-- all blocks are sorted. -/
structure Done (key : α → Int) (d0 d : Array α) (c : Nat) : Prop where
  size : d.size = d0.size
  all : ∀ i, c ∣ i → i < d0.size → IsS key d0 d i (min (i + c) d0.size)

theorem Part.start (d0 d1 : Array α) (c : Nat) (h : d1.size = d0.size) : Part key d0 d1 d1 c 0 := ⟨h, Nat.dvd_zero c, fun i _ hi => by omega, fun _ _ => rfl⟩
theorem Part.insert {d0 d d' : Array α} {c a : Nat} (h : Part key d0 d0 d c a) (hi : Insd key d d' a (a + c)) (hc : 0 < c) : Part key d0 d0 d' c (a + c) := by
  refine ⟨by rw [hi.size, h.size], Nat.dvd_add h.dvd (Nat.dvd_refl c), fun i h1 h2 => ?_, fun t ht => by rw [hi.out t (by omega), h.high t (by omega)]⟩
  have h3 := dvd_le h1 h.dvd h2
  rcases Nat.eq_or_lt_of_le h3 with rfl | h3
  · exact IsS.insd hi fun t ht1 ht2 => h.high t ht1
  · have := dvd_next h1 h.dvd h3
    exact (h.low i h1 h3).congr fun t ht1 ht2 => hi.out t (by omega)
theorem Part.insertLast {d0 d d' : Array α} {c a : Nat} (h : Part key d0 d0 d c a) (hi : Insd key d d' a d0.size) (ha : a ≤ d0.size) (hc : d0.size < a + c) : Done key d0 d' c := by
  refine ⟨by rw [hi.size, h.size], fun i h1 h2 => ?_⟩
  have h3 := dvd_le h1 h.dvd (by omega)
  rcases Nat.eq_or_lt_of_le h3 with rfl | h3
  · rw [show min (i + c) d0.size = d0.size by omega]
    exact IsS.insd hi fun t ht1 ht2 => h.high t ht1
  · have := dvd_next h1 h.dvd h3
    rw [show min (i + c) d0.size = i + c by omega]
    exact (h.low i h1 h3).congr fun t ht1 ht2 => hi.out t (by omega)
theorem two_dvd {c i : Nat} (h : 2 * c ∣ i) : c ∣ i := Nat.dvd_trans (Nat.dvd_mul_left c 2) h
theorem Part.lows {d0 d1 d : Array α} {c a : Nat} (h : Part key d0 d1 d (2 * c) a) (hd : Done key d0 d1 c) {b : Nat} (hab : a + c < b) (hb : b ≤ d0.size) (hb2 : b ≤ a + 2 * c) (hb3 : b = d0.size ∨ b = a + 2 * c) :
    IsS key d0 d a (a + c) ∧ IsS key d0 d (a + c) b := by
  have h1 := hd.all a (two_dvd h.dvd) (by omega)
  have h2 := hd.all (a + c) (Nat.dvd_add (two_dvd h.dvd) (Nat.dvd_refl c)) (by omega)
  rw [show min (a + c) d0.size = a + c by omega] at h1
  rw [show min (a + c + c) d0.size = b by omega] at h2
  exact ⟨h1.congr fun t ht _ => h.high t ht, h2.congr fun t ht _ => h.high t (by omega)⟩
theorem Part.merge {d0 d1 d d' : Array α} {c a : Nat} (h : Part key d0 d1 d (2 * c) a) (hd : Done key d0 d1 c) (hc : 0 < c) (hb : a + 2 * c ≤ d0.size) (hm : Mrgd key d d' a (a + c) (a + 2 * c)) : Part key d0 d1 d' (2 * c) (a + 2 * c) := by
  obtain ⟨h1, h2⟩ := h.lows hd (by omega) hb (Nat.le_refl _) (Or.inr rfl)
  refine ⟨by rw [hm.size, h.size], Nat.dvd_add h.dvd (Nat.dvd_refl _), fun i e1 e2 => ?_, fun t ht => by rw [hm.out t (by omega), h.high t (by omega)]⟩
  have e3 := dvd_le e1 h.dvd e2
  rcases Nat.eq_or_lt_of_le e3 with rfl | e3
  · exact IsS.merge h1 h2 hm (by omega) (by omega)
  · have := dvd_next e1 h.dvd e3
    exact (h.low i e1 e3).congr fun t ht1 ht2 => hm.out t (by omega)
theorem Part.last {d0 d1 d d' : Array α} {c a : Nat} (h : Part key d0 d1 d (2 * c) a) (hd : Done key d0 d1 c) (hc : 0 < c) (ha : a ≤ d0.size) (hb : d0.size < a + 2 * c)
    (hm : (a + c < d0.size ∧ Mrgd key d d' a (a + c) d0.size) ∨ (d0.size ≤ a + c ∧ d' = d)) : Done key d0 d' (2 * c) := by
  rcases hm with ⟨e0, hm⟩ | ⟨e0, rfl⟩
  · obtain ⟨h1, h2⟩ := h.lows hd e0 (Nat.le_refl _) (by omega) (Or.inl rfl)
    refine ⟨by rw [hm.size, h.size], fun i e1 e2 => ?_⟩
    have e3 := dvd_le e1 h.dvd (by omega)
    rcases Nat.eq_or_lt_of_le e3 with rfl | e3
    · rw [show min (i + 2 * c) d0.size = d0.size by omega]
      exact IsS.merge h1 h2 hm (by omega) (by omega)
    · have := dvd_next e1 h.dvd e3
      rw [show min (i + 2 * c) d0.size = i + 2 * c by omega]
      exact (h.low i e1 e3).congr fun t ht1 ht2 => hm.out t (by omega)
  · refine ⟨h.size, fun i e1 e2 => ?_⟩
    have e3 := dvd_le e1 h.dvd (by omega)
    rcases Nat.eq_or_lt_of_le e3 with rfl | e3
    · have h1 := hd.all i (two_dvd h.dvd) e2
      rw [show min (i + 2 * c) d0.size = d0.size by omega]
      rw [show min (i + c) d0.size = d0.size by omega] at h1
      exact h1.congr fun t ht _ => h.high t ht
    · have := dvd_next e1 h.dvd e3
      rw [show min (i + 2 * c) d0.size = i + 2 * c by omega]
      exact h.low i e1 e3
theorem Done.end {d0 d : Array α} {c : Nat} (h : Done key d0 d c) (hc : d0.size ≤ c) : d.toList = isort key d0.toList := by
  rw [← seg_all d, ← seg_all d0, h.size]
  by_cases c0 : 0 < d0.size
  · have := h.all 0 (Nat.dvd_zero c) c0
    rw [show min (0 + c) d0.size = d0.size by omega] at this
    exact this
  · rw [show d0.size = 0 by omega]
    exact IsS.nil d0 d 0 0 (Nat.le_refl _)
#print axioms Done.end
#print axioms Part.last
#print axioms insertion_spec
end Go.Proofs.Ytipkcbpilkoflaa.Stab
