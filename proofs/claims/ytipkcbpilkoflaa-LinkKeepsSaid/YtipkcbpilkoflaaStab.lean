/- The plain theory of the library's stable sort: merging, insertion, rotation; elements with a whole number for a key. -/
import Derived.Sort.WalkA
import Derived.Sort.LotA
namespace Go.Proofs.Ytipkcbpilkoflaa.Stab
open Go.Sort
variable {α : Type} [Inhabited α] (key : α → Int)

def mrg : List α → List α → List α
  | [], ys => ys
  | x :: xs, [] => x :: xs
  | x :: xs, y :: ys => if key y < key x then y :: mrg (x :: xs) ys else x :: mrg xs (y :: ys)
termination_by xs ys => xs.length + ys.length

omit [Inhabited α] in
theorem mrg_nil (ys : List α) : mrg key [] ys = ys := by rw [mrg]
omit [Inhabited α] in
theorem mrg_right (xs : List α) : mrg key xs [] = xs := by cases xs <;> rw [mrg]
omit [Inhabited α] in
theorem mrg_cons (x : α) (xs : List α) (y : α) (ys : List α) : mrg key (x :: xs) (y :: ys) = if key y < key x then y :: mrg key (x :: xs) ys else x :: mrg key xs (y :: ys) := by rw [mrg]
omit [Inhabited α] in
theorem mrg_lt {x y : α} {xs ys : List α} (h : key y < key x) : mrg key (x :: xs) (y :: ys) = y :: mrg key (x :: xs) ys := by rw [mrg_cons, if_pos h]
omit [Inhabited α] in
theorem mrg_ge {x y : α} {xs ys : List α} (h : ¬ key y < key x) : mrg key (x :: xs) (y :: ys) = x :: mrg key xs (y :: ys) := by rw [mrg_cons, if_neg h]

omit [Inhabited α] in
theorem mrg_assoc : ∀ (n : Nat) (A B C : List α), A.length + B.length + C.length ≤ n → mrg key A (mrg key B C) = mrg key (mrg key A B) C
  | n, [], B, C, _ => by rw [mrg_nil, mrg_nil]
  | n, a :: A, [], C, _ => by rw [mrg_nil, mrg_right]
  | n, a :: A, b :: B, [], _ => by rw [mrg_right, mrg_right]
  | 0, a :: A, b :: B, c :: C, h => by simp at h
  | n + 1, a :: A, b :: B, c :: C, h => by
    have h1 := mrg_assoc n (a :: A) (b :: B) C (by simp at h ⊢; omega)
    have h2 := mrg_assoc n (a :: A) B (c :: C) (by simp at h ⊢; omega)
    have h3 := mrg_assoc n A (b :: B) (c :: C) (by simp at h ⊢; omega)
    by_cases cb : key c < key b
    · rw [mrg_lt key cb] at h3 ⊢
      by_cases ca : key c < key a
      · rw [mrg_lt key ca, h1]
        by_cases ba : key b < key a
        · rw [mrg_lt key ba, mrg_lt key cb]
        · rw [mrg_ge key ba, mrg_lt key ca]
      · have ba : ¬ key b < key a := by omega
        rw [mrg_ge key ca, h3, mrg_ge key ba, mrg_ge key ca]
    · rw [mrg_ge key cb] at h3 ⊢
      by_cases ba : key b < key a
      · rw [mrg_lt key ba, h2, mrg_lt key ba, mrg_ge key cb]
      · have ca : ¬ key c < key a := by omega
        rw [mrg_ge key ba, h3, mrg_ge key ba, mrg_ge key ca]

def isort : List α → List α
  | [] => []
  | x :: xs => mrg key [x] (isort xs)

omit [Inhabited α] in
theorem isort_append (A B : List α) : isort key (A ++ B) = mrg key (isort key A) (isort key B) := by
  induction A with
  | nil => rw [List.nil_append, isort, mrg_nil]
  | cons x A ih => rw [List.cons_append, isort, ih, isort, mrg_assoc key _ _ _ _ (Nat.le_refl _)]
omit [Inhabited α] in
theorem isort_one (x : α) : isort key [x] = [x] := by rw [isort, isort, mrg_right]

omit [Inhabited α] in
theorem mrg_split : ∀ (n : Nat) (A1 A2 B1 B2 : List α), A1.length + B1.length ≤ n → (∀ x ∈ A1, ∀ y ∈ B2, ¬ key y < key x) → (∀ x ∈ A2, ∀ y ∈ B1, key y < key x) →
    mrg key (A1 ++ A2) (B1 ++ B2) = mrg key A1 B1 ++ mrg key A2 B2
  | n, [], A2, [], B2, _, _, _ => by simp [mrg_nil]
  | n, [], [], y :: B1, B2, _, _, _ => by simp [mrg_nil]
  | 0, [], x :: A2, y :: B1, B2, h, _, _ => by simp at h
  | n + 1, [], x :: A2, y :: B1, B2, h, h1, h2 => by
    have ih := mrg_split n [] (x :: A2) B1 B2 (by simp at h ⊢; omega) (by simp) (fun u hu v hv => h2 u hu v (List.mem_cons_of_mem _ hv))
    simp only [List.nil_append, mrg_nil] at ih
    rw [List.nil_append, List.cons_append, mrg_lt key (h2 x List.mem_cons_self y List.mem_cons_self), ih, mrg_nil, List.cons_append]
  | n, x :: A1, A2, [], [], _, _, _ => by simp [mrg_right]
  | 0, x :: A1, A2, [], y :: B2, h, _, _ => by simp at h
  | n + 1, x :: A1, A2, [], y :: B2, h, h1, h2 => by
    have ih := mrg_split n A1 A2 [] (y :: B2) (by simp at h ⊢; omega) (fun u hu v hv => h1 u (List.mem_cons_of_mem _ hu) v hv) (by simp)
    simp only [List.nil_append, mrg_right] at ih
    rw [List.nil_append, List.cons_append, mrg_ge key (h1 x List.mem_cons_self y List.mem_cons_self), ih, mrg_right, List.cons_append]
  | 0, x :: A1, A2, y :: B1, B2, h, _, _ => by simp at h
  | n + 1, x :: A1, A2, y :: B1, B2, h, h1, h2 => by
    rw [List.cons_append, List.cons_append]
    by_cases c : key y < key x
    · have ih := mrg_split n (x :: A1) A2 B1 B2 (by simp at h ⊢; omega) h1 (fun u hu v hv => h2 u hu v (List.mem_cons_of_mem _ hv))
      rw [List.cons_append] at ih
      rw [mrg_lt key c, mrg_lt key c, ih, List.cons_append]
    · have ih := mrg_split n A1 A2 (y :: B1) B2 (by simp at h ⊢; omega) (fun u hu v hv => h1 u (List.mem_cons_of_mem _ hu) v hv) h2
      rw [List.cons_append] at ih
      rw [mrg_ge key c, mrg_ge key c, ih, List.cons_append]

omit [Inhabited α] in
theorem mrg_len : ∀ (n : Nat) (A B : List α), A.length + B.length ≤ n → (mrg key A B).length = A.length + B.length
  | n, [], B, _ => by simp [mrg_nil]
  | n, x :: A, [], _ => by simp [mrg_right]
  | 0, x :: A, y :: B, h => by simp at h
  | n + 1, x :: A, y :: B, h => by
    rw [mrg_cons]
    split
    · simp [mrg_len n (x :: A) B (by simp at h ⊢; omega)]; omega
    · simp [mrg_len n A (y :: B) (by simp at h ⊢; omega)]; omega
omit [Inhabited α] in
theorem mrg_mem : ∀ (n : Nat) (A B : List α), A.length + B.length ≤ n → ∀ z, z ∈ mrg key A B → z ∈ A ∨ z ∈ B
  | n, [], B, _, z, h => by rw [mrg_nil] at h; exact Or.inr h
  | n, x :: A, [], _, z, h => by rw [mrg_right] at h; exact Or.inl h
  | 0, x :: A, y :: B, h, _, _ => by simp at h
  | n + 1, x :: A, y :: B, h, z, hz => by
    rw [mrg_cons] at hz
    split at hz
    · rcases List.mem_cons.mp hz with rfl | hz
      · exact Or.inr List.mem_cons_self
      · rcases mrg_mem n (x :: A) B (by simp at h ⊢; omega) z hz with h | h
        · exact Or.inl h
        · exact Or.inr (List.mem_cons_of_mem _ h)
    · rcases List.mem_cons.mp hz with rfl | hz
      · exact Or.inl List.mem_cons_self
      · rcases mrg_mem n A (y :: B) (by simp at h ⊢; omega) z hz with h | h
        · exact Or.inl (List.mem_cons_of_mem _ h)
        · exact Or.inr h
abbrev LeK (x y : α) : Prop := key x ≤ key y
omit [Inhabited α] in
theorem mrg_sorted : ∀ (n : Nat) (A B : List α), A.length + B.length ≤ n → A.Pairwise (LeK key) → B.Pairwise (LeK key) → (mrg key A B).Pairwise (LeK key)
  | n, [], B, _, _, h => by rw [mrg_nil]; exact h
  | n, x :: A, [], _, h, _ => by rw [mrg_right]; exact h
  | 0, x :: A, y :: B, h, _, _ => by simp at h
  | n + 1, x :: A, y :: B, h, hA, hB => by
    have hA' := List.pairwise_cons.mp hA
    have hB' := List.pairwise_cons.mp hB
    rw [mrg_cons]
    split
    · refine List.pairwise_cons.mpr ⟨fun z hz => ?_, mrg_sorted n (x :: A) B (by simp at h ⊢; omega) hA hB'.2⟩
      rcases mrg_mem key _ _ _ (Nat.le_refl _) z hz with h | h
      · rcases List.mem_cons.mp h with rfl | h
        · show key y ≤ key z; omega
        · have := hA'.1 z h; show key y ≤ key z; simp only [LeK] at this; omega
      · exact hB'.1 z h
    · refine List.pairwise_cons.mpr ⟨fun z hz => ?_, mrg_sorted n A (y :: B) (by simp at h ⊢; omega) hA'.2 hB⟩
      rcases mrg_mem key _ _ _ (Nat.le_refl _) z hz with h | h
      · exact hA'.1 z h
      · rcases List.mem_cons.mp h with rfl | h
        · show key x ≤ key z; omega
        · have := hB'.1 z h; show key x ≤ key z; simp only [LeK] at this; omega
omit [Inhabited α] in
theorem isort_sorted (l : List α) : (isort key l).Pairwise (LeK key) := by
  induction l with
  | nil => exact List.Pairwise.nil
  | cons x l ih => exact mrg_sorted key _ _ _ (Nat.le_refl _) (List.pairwise_cons.mpr ⟨by simp, List.Pairwise.nil⟩) ih
omit [Inhabited α] in
theorem isort_len (l : List α) : (isort key l).length = l.length := by
  induction l with
  | nil => rfl
  | cons x l ih => rw [isort, mrg_len key _ _ _ (Nat.le_refl _), ih]; simp; omega

/-! ### stretches of a row -/
def seg (d : Array α) (i j : Nat) : List α := (List.range (j - i)).map fun t => d[i + t]!
theorem seg_len (d : Array α) (i j : Nat) : (seg d i j).length = j - i := by simp [seg]
theorem seg_get (d : Array α) (i j t : Nat) (h : t < j - i) : (seg d i j)[t]? = some d[i + t]! := by simp [seg, h]
theorem seg_ext {l : List α} (d : Array α) (i j : Nat) (hl : l.length = j - i) (h : ∀ t, t < j - i → l[t]? = some d[i + t]!) : l = seg d i j := by
  refine List.ext_getElem? fun t => ?_
  by_cases ht : t < j - i
  · rw [h t ht, seg_get d i j t ht]
  · rw [List.getElem?_eq_none (by omega), List.getElem?_eq_none (by rw [seg_len]; omega)]
theorem seg_congr (d d' : Array α) (i j i' j' : Nat) (hl : j - i = j' - i') (h : ∀ t, t < j - i → d[i + t]! = d'[i' + t]!) : seg d i j = seg d' i' j' :=
  seg_ext d' i' j' (by rw [seg_len]; exact hl) fun t ht => by rw [seg_get d i j t (by omega), h t (by omega)]
theorem seg_append (d : Array α) (i m j : Nat) (h1 : i ≤ m) (h2 : m ≤ j) : seg d i m ++ seg d m j = seg d i j := by
  refine seg_ext d i j (by simp [seg_len]; omega) fun t ht => ?_
  by_cases c : t < m - i
  · rw [List.getElem?_append_left (by rw [seg_len]; exact c), seg_get _ _ _ _ c]
  · rw [List.getElem?_append_right (by rw [seg_len]; omega), seg_len, seg_get _ _ _ _ (by omega), show m + (t - (m - i)) = i + t by omega]
theorem seg_nil (d : Array α) (i j : Nat) (h : j ≤ i) : seg d i j = [] := by unfold seg; rw [show j - i = 0 by omega]; rfl
theorem seg_one (d : Array α) (i : Nat) : seg d i (i + 1) = [d[i]!] := by simp [seg, show i + 1 - i = 1 by omega, List.range_succ]
theorem seg_all (d : Array α) : seg d 0 d.size = d.toList := by
  refine (seg_ext d 0 d.size (by simp) fun t ht => ?_).symm
  have ht' : t < d.size := by omega
  simp [ht']
theorem mem_seg {d : Array α} {i j : Nat} {x : α} (h : x ∈ seg d i j) : ∃ t, i ≤ t ∧ t < j ∧ x = d[t]! := by
  simp only [seg, List.mem_map, List.mem_range] at h
  obtain ⟨t, ht, rfl⟩ := h
  exact ⟨i + t, by omega, by omega, rfl⟩

def Srt (d : Array α) (i j : Nat) : Prop := ∀ p q, i ≤ p → p ≤ q → q < j → key d[p]! ≤ key d[q]!
theorem srt_of_pair (d : Array α) (i j : Nat) (h : (seg d i j).Pairwise (LeK key)) : Srt key d i j := fun p q hp hpq hq => by
  rcases Nat.eq_or_lt_of_le hpq with rfl | hlt
  · exact Int.le_refl _
  · have h1 : p - i < (seg d i j).length := by rw [seg_len]; omega
    have h2 : q - i < (seg d i j).length := by rw [seg_len]; omega
    have := List.pairwise_iff_getElem.mp h (p - i) (q - i) h1 h2 (by omega)
    have e1 := seg_get d i j (p - i) (by omega)
    have e2 := seg_get d i j (q - i) (by omega)
    rw [List.getElem?_eq_getElem h1] at e1
    rw [List.getElem?_eq_getElem h2] at e2
    rw [Option.some.inj e1, Option.some.inj e2, show i + (p - i) = p by omega, show i + (q - i) = q by omega] at this
    exact this

/-- d' is d with the stretches a..m and m..b merged. -/
structure Mrgd (d d' : Array α) (a m b : Nat) : Prop where
  size : d'.size = d.size
  out : ∀ t, t < a ∨ b ≤ t → d'[t]! = d[t]!
  mid : seg d' a b = mrg key (seg d a m) (seg d m b)

/-- the stretches s..m and m..e change places. -/
structure Rotd (d d' : Array α) (s m e : Nat) : Prop where
  size : d'.size = d.size
  get : ∀ t, d'[t]! = if s ≤ t ∧ t < s + (e - m) then d[t + (m - s)]! else if s + (e - m) ≤ t ∧ t < e then d[t - (e - m)]! else d[t]!

theorem Rotd.none (d : Array α) (s m e : Nat) (h : ¬ (s < m ∧ m < e)) (h1 : s ≤ m) (h2 : m ≤ e) : Rotd d d s m e := by
  refine ⟨rfl, fun t => ?_⟩
  by_cases c : s < m
  · have : e = m := by omega
    subst this
    rw [if_neg (by omega)]
    split
    · rw [show t - (e - e) = t by omega]
    · rfl
  · have : s = m := by omega
    subst this
    split
    · rw [show t + (s - s) = t by omega]
    · rw [if_neg (by omega)]

/-- what symMerge does: a rotation, then two merges. -/
theorem merged_of (d d1 d2 d3 : Array α) (a m b s mid e : Nat) (h1 : a ≤ s) (h2 : s ≤ m) (h3 : m ≤ e) (h4 : e ≤ b) (hmid : mid = s + (e - m))
    (hA : Srt key d a m) (hB : Srt key d m b) (hL : s = a ∨ e = b ∨ ¬ key d[e]! < key d[s - 1]!) (hR : s = m ∨ e = m ∨ key d[e - 1]! < key d[s]!)
    (hr : Rotd d d1 s m e) (hl : Mrgd key d1 d2 a s mid) (hh : Mrgd key d2 d3 mid e b) : Mrgd key d d3 a m b := by
  subst hmid
  refine ⟨by rw [hh.size, hl.size, hr.size], fun t ht => ?_, ?_⟩
  · rw [hh.out t (by omega), hl.out t (by omega), hr.get t, if_neg (by omega), if_neg (by omega)]
  · have e1 : seg d1 a s = seg d a s := seg_congr _ _ _ _ _ _ rfl fun t ht => by rw [hr.get, if_neg (by omega), if_neg (by omega)]
    have e2 : seg d1 s (s + (e - m)) = seg d m e := seg_congr _ _ _ _ _ _ (by omega) fun t ht => by rw [hr.get, if_pos (by omega)]; congr 1; omega
    have e3 : seg d2 (s + (e - m)) e = seg d s m := seg_congr _ _ _ _ _ _ (by omega) fun t ht => by
      rw [hl.out _ (by omega), hr.get, if_neg (by omega), if_pos (by omega)]; congr 1; omega
    have e4 : seg d2 e b = seg d e b := seg_congr _ _ _ _ _ _ rfl fun t ht => by rw [hl.out _ (by omega), hr.get, if_neg (by omega), if_neg (by omega)]
    have e5 : seg d3 a (s + (e - m)) = seg d2 a (s + (e - m)) := seg_congr _ _ _ _ _ _ rfl fun t ht => by rw [hh.out _ (by omega)]
    rw [← seg_append d3 a (s + (e - m)) b (by omega) (by omega), e5, hl.mid, hh.mid, e1, e2, e3, e4, ← seg_append d a s m h1 h2, ← seg_append d m e b h3 h4]
    refine (mrg_split key _ _ _ _ _ (Nat.le_refl _) ?_ ?_).symm
    · intro x hx y hy
      obtain ⟨t, ht1, ht2, rfl⟩ := mem_seg hx
      obtain ⟨u, hu1, hu2, rfl⟩ := mem_seg hy
      have a1 := hA t (s - 1) ht1 (by omega) (by omega)
      have a2 := hB e u (by omega) hu1 hu2
      rcases hL with h | h | h <;> omega
    · intro x hx y hy
      obtain ⟨t, ht1, ht2, rfl⟩ := mem_seg hx
      obtain ⟨u, hu1, hu2, rfl⟩ := mem_seg hy
      have a1 := hA s t (by omega) ht1 ht2
      have a2 := hB u (e - 1) hu1 (by omega) (by omega)
      rcases hR with h | h | h <;> omega
theorem Mrgd.none (d : Array α) (a m b : Nat) (h : m ≤ a ∨ b ≤ m) (ha : a ≤ m) (hb : m ≤ b) : Mrgd key d d a m b := by
  refine ⟨rfl, fun _ _ => rfl, ?_⟩
  rcases h with h | h
  · have : a = m := by omega
    subst this; rw [seg_nil d a a (by omega), mrg_nil]
  · have : b = m := by omega
    subst this; rw [seg_nil d b b (by omega), mrg_right]

/-- a row with one element moved: the first element of a..b to place e - 1. -/
theorem merged_first (d d' : Array α) (a b s : Nat) (hs1 : a + 1 ≤ s) (hs2 : s ≤ b) (hB : Srt key d (a + 1) b)
    (hL : s = a + 1 ∨ key d[s - 1]! < key d[a]!) (hR : s = b ∨ ¬ key d[s]! < key d[a]!) (hr : Rotd d d' a (a + 1) s) : Mrgd key d d' a (a + 1) b := by
  refine ⟨hr.size, fun t ht => by rw [hr.get t, if_neg (by omega), if_neg (by omega)], ?_⟩
  have e1 : seg d' a (s - 1) = seg d (a + 1) s := seg_congr _ _ _ _ _ _ (by omega) fun t ht => by rw [hr.get, if_pos (by omega)]; congr 1; omega
  have e2 : seg d' (s - 1) s = seg d a (a + 1) := seg_congr _ _ _ _ _ _ (by omega) fun t ht => by rw [hr.get, if_neg (by omega), if_pos (by omega)]; congr 1; omega
  have e3 : seg d' s b = seg d s b := seg_congr _ _ _ _ _ _ rfl fun t ht => by rw [hr.get, if_neg (by omega), if_neg (by omega)]
  rw [← seg_append d' a (s - 1) b (by omega) (by omega), ← seg_append d' (s - 1) s b (by omega) hs2, e1, e2, e3, ← seg_append d (a + 1) s b hs1 hs2]
  have h := mrg_split key _ [] (seg d a (a + 1)) (seg d (a + 1) s) (seg d s b) (Nat.le_refl _) (by simp) ?_
  · rw [List.nil_append, mrg_nil] at h
    rw [h, seg_one]
    congr 1
    rcases Nat.eq_or_lt_of_le hs2 with rfl | hlt
    · rw [seg_nil d s s (Nat.le_refl _), mrg_right]; simp
    · rw [← seg_append d s (s + 1) b (by omega) (by omega), seg_one]
      have hR' : ¬ key d[s]! < key d[a]! := by
        rcases hR with h | h
        · omega
        · exact h
      show d[a]! :: (d[s]! :: seg d (s + 1) b) = mrg key [d[a]!] (d[s]! :: seg d (s + 1) b)
      rw [mrg_ge key hR', mrg_nil]
  · intro x hx y hy
    rw [seg_one] at hx
    rw [List.mem_singleton] at hx
    subst hx
    obtain ⟨u, hu1, hu2, rfl⟩ := mem_seg hy
    have a2 := hB u (s - 1) hu1 (by omega) (by omega)
    rcases hL with h | h <;> omega
/-- .. the last element of a..b to place s. -/
theorem merged_last (d d' : Array α) (a m s : Nat) (hs1 : a ≤ s) (hs2 : s ≤ m) (hA : Srt key d a m)
    (hL : s = a ∨ ¬ key d[m]! < key d[s - 1]!) (hR : s = m ∨ key d[m]! < key d[s]!) (hr : Rotd d d' s m (m + 1)) : Mrgd key d d' a m (m + 1) := by
  refine ⟨hr.size, fun t ht => by rw [hr.get t, if_neg (by omega), if_neg (by omega)], ?_⟩
  have e1 : seg d' a s = seg d a s := seg_congr _ _ _ _ _ _ rfl fun t ht => by rw [hr.get, if_neg (by omega), if_neg (by omega)]
  have e2 : seg d' s (s + 1) = seg d m (m + 1) := seg_congr _ _ _ _ _ _ (by omega) fun t ht => by rw [hr.get, if_pos (by omega)]; congr 1; omega
  have e3 : seg d' (s + 1) (m + 1) = seg d s m := seg_congr _ _ _ _ _ _ (by omega) fun t ht => by rw [hr.get, if_neg (by omega), if_pos (by omega)]; congr 1; omega
  rw [← seg_append d' a s (m + 1) (by omega) (by omega), ← seg_append d' s (s + 1) (m + 1) (by omega) (by omega), e1, e2, e3, ← seg_append d a s m hs1 hs2]
  have h := mrg_split key _ (seg d a s) (seg d s m) (seg d m (m + 1)) [] (Nat.le_refl _) (by simp) ?_
  · rw [List.append_nil, mrg_right] at h
    rw [h, ← List.append_assoc]
    congr 1
    have h2 := mrg_split key _ (seg d a s) [] [] (seg d m (m + 1)) (Nat.le_refl _) ?_ (by simp)
    · rw [List.append_nil, List.nil_append, mrg_right, mrg_nil] at h2; exact h2.symm
    · intro x hx y hy
      rw [seg_one, List.mem_singleton] at hy
      subst hy
      obtain ⟨u, hu1, hu2, rfl⟩ := mem_seg hx
      have a2 := hA u (s - 1) hu1 (by omega) (by omega)
      rcases hL with h | h <;> omega
  · intro x hx y hy
    rw [seg_one, List.mem_singleton] at hy
    subst hy
    obtain ⟨u, hu1, hu2, rfl⟩ := mem_seg hx
    have a2 := hA s u (by omega) hu1 hu2
    rcases hR with h | h <;> omega
#print axioms merged_of
#print axioms merged_last
end Go.Proofs.Ytipkcbpilkoflaa.Stab
