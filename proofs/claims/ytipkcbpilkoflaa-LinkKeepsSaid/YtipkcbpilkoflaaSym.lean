/- The library's symMerge over a row of elements of some cells. -/
import Derived.Test.YtipkcbpilkoflaaRot
namespace Go.Proofs.Ytipkcbpilkoflaa.Stab
open Go.Shelf Go.RowKit Go.Lib Go.Sort
variable {α : Type} [Inhabited α]

/-- A world of a merging function: the row, and the function's own copy of the two closures. -/
structure St (enc : α → List Value) (k g : Nat) (lb : Array Value) (sf : Nat) (sb : Array Value) (blk off : Nat) (w : World) (dk : Array α) (W : World) : Prop where
  S : SWK enc k w blk off dk W
  c0 : W.cell? ⟨w.heap.size, 0, none⟩ = some (.func (.func g) #[] lb)
  c1 : W.cell? ⟨w.heap.size, 1, none⟩ = some (.func (.func sf) #[] sb)
  hz : w.heap.size < W.heap.size
  hb : blk < w.heap.size
section
variable {enc : α → List Value} {k g : Nat} {lb : Array Value} {sf : Nat} {sb : Array Value} {blk off : Nat} {w W : World} {dk : Array α}
theorem St.start (hH : HoldsK enc k w blk off dk) (hb : blk < w.heap.size) : St enc k g lb sf sb blk off w dk (w.alloc (.cells #[.func (.func g) #[] lb, .func (.func sf) #[] sb] 64)) :=
  ⟨(SWK.start hH).alloc _, by simp, by simp, by simp, hb⟩
theorem St.drew (h : St enc k g lb sf sb blk off w dk W) (q : Nat) : St enc k g lb sf sb blk off w dk (W.drewN q) :=
  ⟨h.S.drewN q, h.c0, h.c1, h.hz, h.hb⟩
theorem St.call (h : St enc k g lb sf sb blk off w dk W) {d' : Array α} {W' : World} (S' : SWK enc k W blk off d' W') (hs : d'.size = dk.size) : St enc k g lb sf sb blk off w d' W' := by
  have hne : w.heap.size ≠ blk := by have := h.hb; omega
  exact ⟨SWK.trans h.S S' h.hb hs, by rw [cell_other enc k W blk off d' W' S' _ hne h.hz]; exact h.c0, by rw [cell_other enc k W blk off d' W' S' _ hne h.hz]; exact h.c1, Nat.lt_of_lt_of_le h.hz S'.le, h.hb⟩
theorem St.swap (h : St enc k g lb sf sb blk off w dk W) (hk : ∀ x, (enc x).length = k) (i j : Nat) (hi : i < dk.size) (hj : j < dk.size) :
    St enc k g lb sf sb blk off w (swp dk i j) ((W.setCells blk (off + i * k) (enc dk[j]!)).setCells blk (off + j * k) (enc dk[i]!)) := by
  have hne : w.heap.size ≠ blk := by have := h.hb; omega
  exact ⟨h.S.swap hk h.hb i j hi hj, by rw [World.cell?_setCells_out blk _ _ _ _ (fun e _ => absurd e hne), World.cell?_setCells_out blk _ _ _ _ (fun e _ => absurd e hne)]; exact h.c0,
    by rw [World.cell?_setCells_out blk _ _ _ _ (fun e _ => absurd e hne), World.cell?_setCells_out blk _ _ _ _ (fun e _ => absurd e hne)]; exact h.c1, by simpa using h.hz, h.hb⟩
end
theorem half_eq (x : Nat) : ((x / 2 : Nat) : Int) = (x : Int) / 2 := by omega

/-- the first element of a stretch, one place on -/
theorem Rotd.first {d dk : Array α} {a q : Nat} (h : Rotd d dk a (a + 1) (q + 1)) (ha : a ≤ q) (hq : q + 1 < d.size) : Rotd d (swp dk q (q + 1)) a (a + 1) (q + 1 + 1) := by
  refine ⟨by rw [size_swp, h.size], fun t => ?_⟩
  have e := h.size
  rw [swp_get dk (by omega) (by omega)]
  by_cases c1 : t = q + 1
  · have n1 : ¬ (a ≤ t ∧ t < a + (q + 1 + 1 - (a + 1))) := by omega
    have n2 : a + (q + 1 + 1 - (a + 1)) ≤ t ∧ t < q + 1 + 1 := by omega
    have n3 : ¬ (a ≤ q ∧ q < a + (q + 1 - (a + 1))) := by omega
    have n4 : a + (q + 1 - (a + 1)) ≤ q ∧ q < q + 1 := by omega
    rw [if_pos c1, if_neg n1, if_pos n2, h.get, if_neg n3, if_pos n4]
    congr 1; omega
  · by_cases c2 : t = q
    · have n1 : a ≤ t ∧ t < a + (q + 1 + 1 - (a + 1)) := by omega
      have n3 : ¬ (a ≤ q + 1 ∧ q + 1 < a + (q + 1 - (a + 1))) := by omega
      have n4 : ¬ (a + (q + 1 - (a + 1)) ≤ q + 1 ∧ q + 1 < q + 1) := by omega
      rw [if_neg c1, if_pos c2, if_pos n1, h.get, if_neg n3, if_neg n4]
      congr 1; omega
    · rw [if_neg c1, if_neg c2, h.get]
      by_cases r1 : a ≤ t ∧ t < a + (q + 1 - (a + 1))
      · have n1 : a ≤ t ∧ t < a + (q + 1 + 1 - (a + 1)) := by omega
        rw [if_pos r1, if_pos n1]
      · have n1 : ¬ (a ≤ t ∧ t < a + (q + 1 + 1 - (a + 1))) := by omega
        have n2 : ¬ (a + (q + 1 - (a + 1)) ≤ t ∧ t < q + 1) := by omega
        have n3 : ¬ (a + (q + 1 + 1 - (a + 1)) ≤ t ∧ t < q + 1 + 1) := by omega
        rw [if_neg r1, if_neg n1, if_neg n2, if_neg n3]
/-- the last element of a stretch, one place down -/
theorem Rotd.last {d dk : Array α} {m q : Nat} (h : Rotd d dk q m (m + 1)) (hq : 0 < q) (hqm : q ≤ m) (hm : m < d.size) : Rotd d (swp dk q (q - 1)) (q - 1) m (m + 1) := by
  refine ⟨by rw [size_swp, h.size], fun t => ?_⟩
  have e := h.size
  rw [swp_get dk (by omega) (by omega)]
  by_cases c1 : t = q - 1
  · have n1 : q - 1 ≤ t ∧ t < q - 1 + (m + 1 - m) := by omega
    have n3 : q ≤ q ∧ q < q + (m + 1 - m) := by omega
    rw [if_pos c1, if_pos n1, h.get, if_pos n3]
    congr 1; omega
  · by_cases c2 : t = q
    · have n1 : ¬ (q - 1 ≤ t ∧ t < q - 1 + (m + 1 - m)) := by omega
      have n2 : q - 1 + (m + 1 - m) ≤ t ∧ t < m + 1 := by omega
      have n3 : ¬ (q ≤ q - 1 ∧ q - 1 < q + (m + 1 - m)) := by omega
      have n4 : ¬ (q + (m + 1 - m) ≤ q - 1 ∧ q - 1 < m + 1) := by omega
      rw [if_neg c1, if_pos c2, if_neg n1, if_pos n2, h.get, if_neg n3, if_neg n4]
      congr 1; omega
    · rw [if_neg c1, if_neg c2, h.get]
      have n1 : ¬ (q ≤ t ∧ t < q + (m + 1 - m)) := by omega
      have n2 : ¬ (q - 1 ≤ t ∧ t < q - 1 + (m + 1 - m)) := by omega
      by_cases r1 : q + (m + 1 - m) ≤ t ∧ t < m + 1
      · have n3 : q - 1 + (m + 1 - m) ≤ t ∧ t < m + 1 := by omega
        rw [if_neg n1, if_neg n2, if_pos r1, if_pos n3]
      · have n3 : ¬ (q - 1 + (m + 1 - m) ≤ t ∧ t < m + 1) := by omega
        rw [if_neg n1, if_neg n2, if_neg r1, if_neg n3]

set_option maxHeartbeats 8000000 in
set_option maxRecDepth 1000000 in
/-- one element ahead of a sorted stretch -/
theorem symMerge_first (enc : α → List Value) (k : Nat) (hk : ∀ x, (enc x).length = k) (key : α → Int) (g : Nat) (lb : Array Value) (sf : Nat) (sb : Array Value) (blk off a b : Nat) (d : Array α) (w : World)
    (eg : ∀ args w, (callFunc g args).run Try.prog w = .ok (.enter g args) w) (hless : LessReadsK Try.prog g lb enc k (fun x y => decide (key x < key y)) blk off d.size w) (hswap : SwapSwapsK Try.prog sf sb enc k blk off d.size)
    (hH : HoldsK enc k w blk off d) (hblk : blk < w.heap.size) (hmb : a + 1 < b) (hb : b ≤ d.size) (hsz : d.size < 4398046511104) (hB : Srt key d (a + 1) b) :
    Calls Try.prog 39 #[.agg #[.func (.func g) #[] lb, .func (.func sf) #[] sb], .int .i64 a, .int .i64 ((a : Int) + 1), .int .i64 b] w fun e w' => e = .returned (.tuple #[]) ∧ ∃ d', Mrgd key d d' a (a + 1) b ∧ SWK enc k w blk off d' w' := by
  have hu := Try.underlying64
  have hne : w.heap.size ≠ blk := by omega
  have BS : Aside (St enc k g lb sf sb blk off w d _) := St.start hH hblk
  have HH : Hid (HoldsK enc k w blk off d) := hH
  clear hH
  have HB : Hid (Srt key d (a + 1) b) := hB
  have HL : Hid (LessReadsK Try.prog g lb enc k (fun x y => decide (key x < key y)) blk off d.size w) := hless
  have HS : Hid (SwapSwapsK Try.prog sf sb enc k blk off d.size) := hswap
  clear hB hless hswap
  have h1 : (((a : Int) + 1 - (a : Int)) == 1) = true := by rw [show (a : Int) + 1 - (a : Int) = 1 by omega]; rfl
  go_enter Try.func39, Try.ntmps39
  go_wp2
  go_loopg [8, 9] (b - a) (fun kx s8 s9 wr => ∃ i j : Nat, s8 = .int .i64 i ∧ s9 = .int .i64 j ∧ a + 1 ≤ i ∧ i ≤ j ∧ j ≤ b ∧ j - i ≤ kx ∧ Aside (i = a + 1 ∨ key d[i - 1]! < key d[a]!) ∧ Aside (j = b ∨ key d[a]! ≤ key d[j]!) ∧ Aside (St enc k g lb sf sb blk off w d wr))
  case atStart => exact ⟨a + 1, b, by go_num, rfl, by omega, by omega, by omega, by omega, Or.inl rfl, Or.inl rfl, BS⟩
  case round =>
    clear BS
    obtain ⟨i, j, rfl, rfl, hi, hij, hj, hkx, HI, HJ, B⟩ := hrel
    by_cases hlt : i < j
    · have c0 := B.out.c0
      have c1 := B.out.c1
      have hl := SWK.less B.out.S HL.out rfl ((i + j) / 2) a (by omega) (by omega)
      rw [show (((i + j) / 2 : Nat) : Int) = ((i : Int) + (j : Int)) / 2 by omega] at hl
      by_cases hc : key d[(i + j) / 2]! < key d[a]!
      · rw [decide_eq_true hc] at hl
        have HC : Hid _ := hc
        clear hc
        go_wp2_with (go_at_fn g; refine hl.mono ?_; rintro e w' ⟨rfl, q, rfl⟩)
        go_roundg (j - ((i + j) / 2 + 1))
        case measure => omega
        case rel => exact ⟨(i + j) / 2 + 1, j, by go_num, rfl, by omega, by omega, hj, Nat.le_refl _, Or.inr (by rw [show (i + j) / 2 + 1 - 1 = (i + j) / 2 by omega]; exact HC.out), HJ, B.out.drew q⟩
      · rw [decide_eq_false hc] at hl
        have HC : Hid _ := hc
        clear hc
        go_wp2_with (go_at_fn g; refine hl.mono ?_; rintro e w' ⟨rfl, q, rfl⟩)
        go_roundg ((i + j) / 2 - i)
        case measure => omega
        case rel => exact ⟨i, (i + j) / 2, rfl, by go_num, hi, by omega, by omega, Nat.le_refl _, HI, Or.inr (Int.not_lt.mp HC.out), B.out.drew q⟩
    · have e : i = j := by omega
      subst e
      have c0 := B.out.c0
      have c1 := B.out.c1
      clear hij hlt
      go_wp2
      clear hu
      go_loopg [11] (i - a) (fun kx s11 wr2 => ∃ q : Nat, s11 = .int .i64 q ∧ a ≤ q ∧ q ≤ i - 1 ∧ i - q ≤ kx ∧ ∃ dk : Array α, Aside (Rotd d dk a (a + 1) (q + 1)) ∧ Aside (St enc k g lb sf sb blk off w dk wr2))
      case atStart => exact ⟨a, rfl, by omega, by omega, by omega, d, Rotd.none d a (a + 1) (a + 1) (by omega) (by omega) (by omega), B⟩
      case round =>
        clear B c0 c1
        obtain ⟨q, rfl, hq1, hq2, hkx2, dk, HR, B⟩ := hrel
        have hds := HR.out.size
        have c0 := B.out.c0
        have c1 := B.out.c1
        by_cases hlt : q + 1 < i
        · have hs := HS.out wr dk (B.out.S.holds hblk HH.out hds) hds q (q + 1) (by omega) (by omega)
          have B2 : Aside (St enc k g lb sf sb blk off w (swp dk q (q + 1)) _) := B.out.swap hk q (q + 1) (by omega) (by omega)
          rw [show ((q + 1 : Nat) : Int) = (q : Int) + 1 by omega] at hs
          generalize (wr.setCells blk (off + q * k) (enc dk[q + 1]!)).setCells blk (off + (q + 1) * k) (enc dk[q]!) = w2 at hs B2
          have HR2 : Aside (Rotd d (swp dk q (q + 1)) a (a + 1) (q + 1 + 1)) := HR.out.first (by omega) (by omega)
          clear B HR
          go_wp2
          go_roundg (i - (q + 1))
          case measure => omega
          case rel => exact ⟨q + 1, by go_num, by omega, by omega, Nat.le_refl _, _, HR2, B2⟩
        · have e : i = q + 1 := by omega
          subst e
          go_wp2
          (try simp only [Exit.inBlock, Exit.then]); refine bodyPost_ret (results_none rfl _ _ _) rfl ?_
          exact ⟨rfl, dk, merged_first key d dk a b (q + 1) (by omega) (by omega) HB.out HI.out (HJ.out.imp id Int.not_lt.mpr) HR.out, B.out.S⟩
set_option maxHeartbeats 8000000 in
set_option maxRecDepth 1000000 in
/-- one element behind a sorted stretch -/
theorem symMerge_last (enc : α → List Value) (k : Nat) (hk : ∀ x, (enc x).length = k) (key : α → Int) (g : Nat) (lb : Array Value) (sf : Nat) (sb : Array Value) (blk off a m : Nat) (d : Array α) (w : World)
    (eg : ∀ args w, (callFunc g args).run Try.prog w = .ok (.enter g args) w) (hless : LessReadsK Try.prog g lb enc k (fun x y => decide (key x < key y)) blk off d.size w) (hswap : SwapSwapsK Try.prog sf sb enc k blk off d.size)
    (hH : HoldsK enc k w blk off d) (hblk : blk < w.heap.size) (ham : a + 1 < m) (hb : m + 1 ≤ d.size) (hsz : d.size < 4398046511104) (hB : Srt key d a m) :
    Calls Try.prog 39 #[.agg #[.func (.func g) #[] lb, .func (.func sf) #[] sb], .int .i64 a, .int .i64 m, .int .i64 ((m : Int) + 1)] w fun e w' => e = .returned (.tuple #[]) ∧ ∃ d', Mrgd key d d' a m (m + 1) ∧ SWK enc k w blk off d' w' := by
  have hu := Try.underlying64
  have hne : w.heap.size ≠ blk := by omega
  have BS : Aside (St enc k g lb sf sb blk off w d _) := St.start hH hblk
  have HH : Hid (HoldsK enc k w blk off d) := hH
  clear hH
  have HB : Hid (Srt key d a m) := hB
  have HL : Hid (LessReadsK Try.prog g lb enc k (fun x y => decide (key x < key y)) blk off d.size w) := hless
  have HS : Hid (SwapSwapsK Try.prog sf sb enc k blk off d.size) := hswap
  clear hB hless hswap
  have h1 : (((m : Int) + 1 - (m : Int)) == 1) = true := by rw [show (m : Int) + 1 - (m : Int) = 1 by omega]; rfl
  have h0 : (((m : Int) - (a : Int)) == 1) = false := by rw [beq_eq_false_iff_ne]; omega
  go_enter Try.func39, Try.ntmps39
  go_wp2
  go_loopg [12, 13] (m - a) (fun kx s8 s9 wr => ∃ i j : Nat, s8 = .int .i64 i ∧ s9 = .int .i64 j ∧ a ≤ i ∧ i ≤ j ∧ j ≤ m ∧ j - i ≤ kx ∧ Aside (i = a ∨ key d[i - 1]! ≤ key d[m]!) ∧ Aside (j = m ∨ key d[m]! < key d[j]!) ∧ Aside (St enc k g lb sf sb blk off w d wr))
  case atStart => exact ⟨a, m, rfl, rfl, by omega, by omega, by omega, by omega, Or.inl rfl, Or.inl rfl, BS⟩
  case round =>
    clear BS
    obtain ⟨i, j, rfl, rfl, hi, hij, hj, hkx, HI, HJ, B⟩ := hrel
    by_cases hlt : i < j
    · have c0 := B.out.c0
      have c1 := B.out.c1
      have hl := SWK.less B.out.S HL.out rfl m ((i + j) / 2) (by omega) (by omega)
      rw [show (((i + j) / 2 : Nat) : Int) = ((i : Int) + (j : Int)) / 2 by omega] at hl
      by_cases hc : key d[m]! < key d[(i + j) / 2]!
      · rw [decide_eq_true hc] at hl
        have HC : Hid _ := hc
        clear hc
        go_wp2_with (go_at_fn g; refine hl.mono ?_; rintro e w' ⟨rfl, q, rfl⟩)
        go_roundg ((i + j) / 2 - i)
        case measure => omega
        case rel => exact ⟨i, (i + j) / 2, rfl, by go_num, hi, by omega, by omega, Nat.le_refl _, HI, Or.inr HC.out, B.out.drew q⟩
      · rw [decide_eq_false hc] at hl
        have HC : Hid _ := hc
        clear hc
        go_wp2_with (go_at_fn g; refine hl.mono ?_; rintro e w' ⟨rfl, q, rfl⟩)
        go_roundg (j - ((i + j) / 2 + 1))
        case measure => omega
        case rel => exact ⟨(i + j) / 2 + 1, j, by go_num, rfl, by omega, by omega, hj, Nat.le_refl _, Or.inr (by rw [show (i + j) / 2 + 1 - 1 = (i + j) / 2 by omega]; exact Int.not_lt.mp HC.out), HJ, B.out.drew q⟩
    · have e : i = j := by omega
      subst e
      have c0 := B.out.c0
      have c1 := B.out.c1
      clear hij hlt
      go_wp2
      clear hu
      go_loopg [15] (m - i) (fun kx s11 wr2 => ∃ q : Nat, s11 = .int .i64 q ∧ i ≤ q ∧ q ≤ m ∧ q - i ≤ kx ∧ ∃ dk : Array α, Aside (Rotd d dk q m (m + 1)) ∧ Aside (St enc k g lb sf sb blk off w dk wr2))
      case atStart => exact ⟨m, rfl, by omega, by omega, by omega, d, Rotd.none d m m (m + 1) (by omega) (by omega) (by omega), B⟩
      case round =>
        clear B c0 c1
        obtain ⟨q, rfl, hq1, hq2, hkx2, dk, HR, B⟩ := hrel
        have hds := HR.out.size
        have c0 := B.out.c0
        have c1 := B.out.c1
        by_cases hlt : i < q
        · have hs := HS.out wr dk (B.out.S.holds hblk HH.out hds) hds q (q - 1) (by omega) (by omega)
          have B2 : Aside (St enc k g lb sf sb blk off w (swp dk q (q - 1)) _) := B.out.swap hk q (q - 1) (by omega) (by omega)
          rw [show ((q - 1 : Nat) : Int) = (q : Int) - 1 by omega] at hs
          generalize (wr.setCells blk (off + q * k) (enc dk[q - 1]!)).setCells blk (off + (q - 1) * k) (enc dk[q]!) = w2 at hs B2
          have HR2 : Aside (Rotd d (swp dk q (q - 1)) (q - 1) m (m + 1)) := HR.out.last (by omega) (by omega) (by omega)
          clear B HR
          go_wp2
          go_roundg (q - 1 - i)
          case measure => omega
          case rel => exact ⟨q - 1, by go_num, by omega, by omega, Nat.le_refl _, _, HR2, B2⟩
        · have e : i = q := by omega
          subst e
          go_wp2
          (try simp only [Exit.inBlock, Exit.then]); refine bodyPost_ret (results_none rfl _ _ _) rfl ?_
          exact ⟨rfl, dk, merged_last key d dk a m i (by omega) (by omega) HB.out (HI.out.imp id Int.not_lt.mpr) HJ.out HR.out, B.out.S⟩
end Go.Proofs.Ytipkcbpilkoflaa.Stab
