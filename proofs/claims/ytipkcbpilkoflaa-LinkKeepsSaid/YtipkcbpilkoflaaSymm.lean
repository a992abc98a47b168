/- The library's symMerge over a row of elements of some cells. -/
import Derived.Test.YtipkcbpilkoflaaSym
namespace Go.Proofs.Ytipkcbpilkoflaa.Stab
open Go.Shelf Go.RowKit Go.Lib Go.Sort
variable {α : Type} [Inhabited α]
set_option linter.unusedVariables false

theorem Srt.rot1 {key : α → Int} {d d1 : Array α} {a s m e : Nat} (h : Rotd d d1 s m e) (hA : Srt key d a m) (h2 : s ≤ m) : Srt key d1 a s := fun p q hp hpq hq => by
  have n1 : ¬ (s ≤ p ∧ p < s + (e - m)) := by omega
  have n2 : ¬ (s + (e - m) ≤ p ∧ p < e) := by omega
  have n3 : ¬ (s ≤ q ∧ q < s + (e - m)) := by omega
  have n4 : ¬ (s + (e - m) ≤ q ∧ q < e) := by omega
  rw [h.get, h.get, if_neg n1, if_neg n2, if_neg n3, if_neg n4]
  exact hA p q hp hpq (by omega)
theorem Srt.rot2 {key : α → Int} {d d1 : Array α} {s m e b : Nat} (h : Rotd d d1 s m e) (hB : Srt key d m b) (h2 : s ≤ m) (h3 : m ≤ e) (h4 : e ≤ b) : Srt key d1 s (s + (e - m)) := fun p q hp hpq hq => by
  have n1 : s ≤ p ∧ p < s + (e - m) := by omega
  have n3 : s ≤ q ∧ q < s + (e - m) := by omega
  rw [h.get, h.get, if_pos n1, if_pos n3]
  exact hB _ _ (by omega) (by omega) (by omega)
theorem Srt.rot3 {key : α → Int} {d d1 : Array α} {a s m e : Nat} (h : Rotd d d1 s m e) (hA : Srt key d a m) (h1 : a ≤ s) (h2 : s ≤ m) (h3 : m ≤ e) : Srt key d1 (s + (e - m)) e := fun p q hp hpq hq => by
  have n1 : ¬ (s ≤ p ∧ p < s + (e - m)) := by omega
  have n2 : s + (e - m) ≤ p ∧ p < e := by omega
  have n3 : ¬ (s ≤ q ∧ q < s + (e - m)) := by omega
  have n4 : s + (e - m) ≤ q ∧ q < e := by omega
  rw [h.get, h.get, if_neg n1, if_pos n2, if_neg n3, if_pos n4]
  exact hA _ _ (by omega) (by omega) (by omega)
theorem Srt.rot4 {key : α → Int} {d d1 : Array α} {s m e b : Nat} (h : Rotd d d1 s m e) (hB : Srt key d m b) (h2 : s ≤ m) (h3 : m ≤ e) : Srt key d1 e b := fun p q hp hpq hq => by
  have n1 : ¬ (s ≤ p ∧ p < s + (e - m)) := by omega
  have n2 : ¬ (s + (e - m) ≤ p ∧ p < e) := by omega
  have n3 : ¬ (s ≤ q ∧ q < s + (e - m)) := by omega
  have n4 : ¬ (s + (e - m) ≤ q ∧ q < e) := by omega
  rw [h.get, h.get, if_neg n1, if_neg n2, if_neg n3, if_neg n4]
  exact hB p q (by omega) hpq hq
theorem Srt.mrgd {key : α → Int} {d1 d2 : Array α} {a s mid i j : Nat} (h : Mrgd key d1 d2 a s mid) (hA : Srt key d1 i j) (hi : mid ≤ i) : Srt key d2 i j := fun p q hp hpq hq => by
  rw [h.out p (by omega), h.out q (by omega)]
  exact hA p q hp hpq hq

theorem cases8 {a m b i e t : Nat} (g1 : a ≤ i) (g2 : i ≤ m) (g3 : m ≤ e) (g4 : e ≤ b) (ham : a < m) (hmb : m < b) (ht : t = i + (e - m)) :
    (i < m ∧ m < e ∧ a < i ∧ i < t ∧ t < e ∧ e < b) ∨ (i < m ∧ m < e ∧ a < i ∧ i < t ∧ t < e ∧ b ≤ e) ∨ (i < m ∧ m < e ∧ i ≤ a ∧ i < t ∧ t < e ∧ e < b) ∨ (i < m ∧ m < e ∧ i ≤ a ∧ i < t ∧ t < e ∧ b ≤ e) ∨
    (m ≤ i ∧ m < e ∧ a < i ∧ i < t ∧ e ≤ t) ∨ (m ≤ i ∧ e ≤ m ∧ a < i ∧ t ≤ i ∧ e ≤ t) ∨ (i < m ∧ e ≤ m ∧ a < i ∧ t ≤ i ∧ t < e ∧ e < b) ∨ (i < m ∧ e ≤ m ∧ i ≤ a ∧ t ≤ i ∧ t < e ∧ e < b) := by
  rcases Nat.lt_or_ge i m with x1 | x1
  · rcases Nat.lt_or_ge m e with x2 | x2
    · rcases Nat.lt_or_ge a i with x3 | x3
      · rcases Nat.lt_or_ge e b with x4 | x4
        · exact Or.inl ⟨x1, x2, x3, by omega, by omega, x4⟩
        · exact Or.inr (Or.inl ⟨x1, x2, x3, by omega, by omega, x4⟩)
      · rcases Nat.lt_or_ge e b with x4 | x4
        · exact Or.inr (Or.inr (Or.inl ⟨x1, x2, x3, by omega, by omega, x4⟩))
        · exact Or.inr (Or.inr (Or.inr (Or.inl ⟨x1, x2, x3, by omega, by omega, x4⟩)))
    · rcases Nat.lt_or_ge a i with x3 | x3
      · exact Or.inr (Or.inr (Or.inr (Or.inr (Or.inr (Or.inr (Or.inl ⟨x1, x2, x3, by omega, by omega, by omega⟩))))))
      · exact Or.inr (Or.inr (Or.inr (Or.inr (Or.inr (Or.inr (Or.inr ⟨x1, x2, x3, by omega, by omega, by omega⟩))))))
  · rcases Nat.lt_or_ge m e with x2 | x2
    · exact Or.inr (Or.inr (Or.inr (Or.inr (Or.inl ⟨x1, x2, by omega, by omega, by omega⟩))))
    · exact Or.inr (Or.inr (Or.inr (Or.inr (Or.inr (Or.inl ⟨x1, x2, by omega, by omega, by omega⟩)))))

/-- symMerge's contract, for stretches of no more than N elements. -/
def SymOk (key : α → Int) (enc : α → List Value) (k g : Nat) (lb : Array Value) (sf : Nat) (sb : Array Value) (blk off size N : Nat) : Prop :=
  ∀ (a m b : Nat) (d : Array α) (w : World), d.size = size → b - a ≤ N → a < m → m < b → b ≤ size → LessReadsK Try.prog g lb enc k (fun x y => decide (key x < key y)) blk off d.size w → HoldsK enc k w blk off d → blk < w.heap.size →
    Srt key d a m → Srt key d m b →
    Calls Try.prog 39 #[.agg #[.func (.func g) #[] lb, .func (.func sf) #[] sb], .int .i64 a, .int .i64 m, .int .i64 b] w fun e w' => e = .returned (.tuple #[]) ∧ ∃ d', Mrgd key d d' a m b ∧ SWK enc k w blk off d' w'

set_option maxHeartbeats 16000000 in
set_option maxRecDepth 1000000 in
theorem symMerge_stepA (enc : α → List Value) (k : Nat) (hk : ∀ x, (enc x).length = k) (key : α → Int) (g : Nat) (lb : Array Value) (sf : Nat) (sb : Array Value) (blk off size N a m b : Nat) (d : Array α) (w : World)
    (eg : ∀ args w, (callFunc g args).run Try.prog w = .ok (.enter g args) w) (hswap : SwapSwapsK Try.prog sf sb enc k blk off size) (hsz : size < 4398046511104) (ih : SymOk key enc k g lb sf sb blk off size N)
    (hds0 : d.size = size) (hN : b - a ≤ N + 1) (ham : a + 1 < m) (hmb : m + 1 < b) (hb : b ≤ size) (hless : LessReadsK Try.prog g lb enc k (fun x y => decide (key x < key y)) blk off d.size w) (hH : HoldsK enc k w blk off d) (hblk : blk < w.heap.size)
    (hA : Srt key d a m) (hB : Srt key d m b) (hcase : m ≤ (a + b) / 2) :
    Calls Try.prog 39 #[.agg #[.func (.func g) #[] lb, .func (.func sf) #[] sb], .int .i64 a, .int .i64 m, .int .i64 b] w fun e w' => e = .returned (.tuple #[]) ∧ ∃ d', Mrgd key d d' a m b ∧ SWK enc k w blk off d' w' := by
  have hu := Try.underlying64
  have hne : w.heap.size ≠ blk := by omega
  have BS : Aside (St enc k g lb sf sb blk off w d _) := St.start hH hblk
  have HH : Hid (HoldsK enc k w blk off d) := hH
  have HA : Hid (Srt key d a m) := hA
  have HB : Hid (Srt key d m b) := hB
  have HL : Hid (LessReadsK Try.prog g lb enc k (fun x y => decide (key x < key y)) blk off d.size w) := hless
  have HS : Hid (SwapSwapsK Try.prog sf sb enc k blk off d.size) := by rw [hds0]; exact hswap
  have IH : Hid (SymOk key enc k g lb sf sb blk off size N) := ih
  have hd : d.size < 4398046511104 := by omega
  have HD : Hid (d.size = size) := hds0
  have hcz : ¬ ((a : Int) + (b : Int)) / 2 < (m : Int) := by omega
  clear hH hA hB hless hswap ih hds0
  have h0 : (((m : Int) - (a : Int)) == 1) = false := by rw [beq_eq_false_iff_ne]; omega
  have h1 : (((b : Int) - (m : Int)) == 1) = false := by rw [beq_eq_false_iff_ne]; omega
  go_enter Try.func39, Try.ntmps39
  go_wp2
  go_loopg [18, 19] (b - a) (fun kx s8 s9 wr => ∃ i j : Nat, s8 = .int .i64 i ∧ s9 = .int .i64 j ∧ a ≤ i ∧ i ≤ j ∧ j ≤ m ∧ j - i ≤ kx ∧ Aside (i = a ∨ key d[i - 1]! ≤ key d[(a + b) / 2 + m - i]!) ∧ Aside (j = m ∨ key d[(a + b) / 2 + m - 1 - j]! < key d[j]!) ∧ Aside (St enc k g lb sf sb blk off w d wr))
  case atStart => exact ⟨a, m, by go_num, by go_num, by omega, by omega, by omega, by omega, Or.inl rfl, Or.inl rfl, BS⟩
  case round =>
    clear BS
    obtain ⟨i, j, rfl, rfl, hi, hij, hj, hkx, HI, HJ, B⟩ := hrel
    have c0 := B.out.c0
    have c1 := B.out.c1
    by_cases hlt : i < j
    · have hl := SWK.less B.out.S HL.out rfl ((a + b) / 2 + m - 1 - (i + j) / 2) ((i + j) / 2) (by have := HD.out; omega) (by have := HD.out; omega)
      rw [show (((a + b) / 2 + m - 1 - (i + j) / 2 : Nat) : Int) = ((a : Int) + (b : Int)) / 2 + (m : Int) - 1 - ((i : Int) + (j : Int)) / 2 by omega, show (((i + j) / 2 : Nat) : Int) = ((i : Int) + (j : Int)) / 2 by omega] at hl
      by_cases hc : key d[(a + b) / 2 + m - 1 - (i + j) / 2]! < key d[(i + j) / 2]!
      · rw [decide_eq_true hc] at hl
        have HC : Hid _ := hc
        clear hc
        go_wp2_with (go_at_fn g; refine hl.mono ?_; rintro e w' ⟨rfl, q, rfl⟩)
        go_roundg ((i + j) / 2 - i)
        case measure => omega
        case rel => exact ⟨i, (i + j) / 2, rfl, by go_num, hi, by omega, by omega, Nat.le_refl _, HI, Or.inr HC.out, B.out.drew q⟩
      · rw [decide_eq_false hc] at hl
        have HC : Hid _ := hc
        clear hc
        go_wp2_with (go_at_fn g; refine hl.mono ?_; rintro e w' ⟨rfl, q, rfl⟩)
        go_roundg (j - ((i + j) / 2 + 1))
        case measure => omega
        case rel => exact ⟨(i + j) / 2 + 1, j, by go_num, rfl, by omega, by omega, hj, Nat.le_refl _, Or.inr (by rw [show (i + j) / 2 + 1 - 1 = (i + j) / 2 by omega, show (a + b) / 2 + m - ((i + j) / 2 + 1) = (a + b) / 2 + m - 1 - (i + j) / 2 by omega]; exact Int.not_lt.mp HC.out), HJ, B.out.drew q⟩
    · have e : i = j := by omega
      subst e
      clear hij hlt hkx
      obtain ⟨e, he⟩ : ∃ e, e = (a + b) / 2 + m - i := ⟨_, rfl⟩
      have hei : (((a : Int) + (b : Int)) / 2 + (m : Int) - (i : Int)) = (e : Int) := by omega
      have hmid : (a + b) / 2 = i + (e - m) := by omega
      have hmidz : ((a : Int) + (b : Int)) / 2 = ((i + (e - m) : Nat) : Int) := by omega
      have g1 : a ≤ i := by omega
      have g2 : i ≤ m := by omega
      have g3 : m ≤ e := by omega
      have g4 : e ≤ b := by omega
      have HLL : Hid (i = a ∨ e = b ∨ ¬ key d[e]! < key d[i - 1]!) := by
        show i = a ∨ e = b ∨ ¬ key d[e]! < key d[i - 1]!
        rcases HI.out with h | h
        · omega
        · exact Or.inr (Or.inr (Int.not_lt.mpr (by rw [he]; exact h)))
      have HRR : Hid (i = m ∨ e = m ∨ key d[e - 1]! < key d[i]!) := by
        show i = m ∨ e = m ∨ key d[e - 1]! < key d[i]!
        rcases HJ.out with h | h
        · omega
        · exact Or.inr (Or.inr (by rw [he, show (a + b) / 2 + m - i - 1 = (a + b) / 2 + m - 1 - i by omega]; exact h))
      have fin : ∀ d1 d2 d3 w3, Rotd d d1 i m e → Mrgd key d1 d2 a i (i + (e - m)) → Mrgd key d2 d3 (i + (e - m)) e b → St enc k g lb sf sb blk off w d3 w3 → ∃ d', Mrgd key d d' a m b ∧ SWK enc k w blk off d' w3 :=
        fun d1 d2 d3 w3 hr hl hh hst => ⟨d3, merged_of key d d1 d2 d3 a m b i (i + (e - m)) e g1 g2 g3 g4 rfl HA.out HB.out HLL.out HRR.out hr hl hh, hst.S⟩
      have FIN : Hid _ := fin
      have rot : ∀ w1, St enc k g lb sf sb blk off w d w1 → i < m → m < e → Calls Try.prog 40 #[.agg #[.func (.func g) #[] lb, .func (.func sf) #[] sb], .int .i64 i, .int .i64 m, .int .i64 e] w1 fun e' w' => e' = .returned (.tuple #[]) ∧ ∃ d1, Rotd d d1 i m e ∧ St enc k g lb sf sb blk off w d1 w' :=
        fun w1 hst p1 p2 => (rotate_calls enc k hk (.func g) #[] lb sf sb blk off i m e d w1 HS.out (hst.S.holds hst.hb HH.out rfl) (hst.S.lt hst.hb) p1 p2 (by have := HD.out; omega) hd).mono fun e' w' ⟨h1, d1, h2, h3⟩ => ⟨h1, d1, h2, hst.call h3 h2.size⟩
      have ROT : Hid _ := rot
      have mrl : ∀ w1 d1, Rotd d d1 i m e → St enc k g lb sf sb blk off w d1 w1 → a < i → i < i + (e - m) → Calls Try.prog 39 #[.agg #[.func (.func g) #[] lb, .func (.func sf) #[] sb], .int .i64 a, .int .i64 i, .int .i64 (i + (e - m) : Nat)] w1 fun e' w' => e' = .returned (.tuple #[]) ∧ ∃ d2, Mrgd key d1 d2 a i (i + (e - m)) ∧ St enc k g lb sf sb blk off w d2 w' :=
        fun w1 d1 hr hst p1 p2 => (IH.out a i (i + (e - m)) d1 w1 (by rw [hr.size, HD.out]) (by omega) p1 p2 (by omega) (by rw [hr.size]; exact hst.S.lessReads HL.out hst.hb hr.size) (hst.S.holds hst.hb HH.out hr.size) (hst.S.lt hst.hb) (Srt.rot1 hr HA.out g2) (Srt.rot2 hr HB.out g2 g3 g4)).mono fun e' w' ⟨h1, d2, h2, h3⟩ => ⟨h1, d2, h2, hst.call h3 h2.size⟩
      have MRL : Hid _ := mrl
      have mrr : ∀ w1 d1 d2, Rotd d d1 i m e → Mrgd key d1 d2 a i (i + (e - m)) → St enc k g lb sf sb blk off w d2 w1 → i + (e - m) < e → e < b → Calls Try.prog 39 #[.agg #[.func (.func g) #[] lb, .func (.func sf) #[] sb], .int .i64 (i + (e - m) : Nat), .int .i64 e, .int .i64 b] w1 fun e' w' => e' = .returned (.tuple #[]) ∧ ∃ d3, Mrgd key d2 d3 (i + (e - m)) e b ∧ St enc k g lb sf sb blk off w d3 w' :=
        fun w1 d1 d2 hr hl hst p1 p2 => (IH.out (i + (e - m)) e b d2 w1 (by rw [hl.size, hr.size, HD.out]) (by omega) p1 p2 (by omega) (by rw [hl.size, hr.size]; exact hst.S.lessReads HL.out hst.hb (by rw [hl.size, hr.size])) (hst.S.holds hst.hb HH.out (by rw [hl.size, hr.size])) (hst.S.lt hst.hb) (Srt.mrgd hl (Srt.rot3 hr HA.out g1 g2 g3) (Nat.le_refl _)) (Srt.mrgd hl (Srt.rot4 hr HB.out g2 g3) (by omega))).mono fun e' w' ⟨h1, d3, h2, h3⟩ => ⟨h1, d3, h2, hst.call h3 h2.size⟩
      have MRR : Hid _ := mrr
      clear fin rot mrl mrr IH HS HH HL HA HB HLL HRR HI HJ hi hj
      obtain ⟨t, ht⟩ : ∃ t, t = i + (e - m) := ⟨_, rfl⟩
      rw [← ht] at hmidz
      have HM : Hid (t = i + (e - m)) := ht
      have b1 : t ≤ 4398046511104 := by omega
      have b2 : e ≤ 4398046511104 := by omega
      have HZ : Hid ((((a : Int) + (b : Int)) / 2 + (m : Int) - (i : Int)) = (e : Int)) := hei
      have hez : ((t : Int) + (m : Int) - (i : Int)) = (e : Int) := by omega
      clear he hei hmid ht
      have BB : Aside (St enc k g lb sf sb blk off w d wr) := B
      clear B
      have cases8 := cases8 g1 g2 g3 g4 (by omega) (by omega) HM.out
      rcases cases8 with ⟨x1, x2, x3, x4, x5, x6⟩ | ⟨x1, x2, x3, x4, x5, x6⟩ | ⟨x1, x2, x3, x4, x5, x6⟩ | ⟨x1, x2, x3, x4, x5, x6⟩ | ⟨x1, x2, x3, x4, x5⟩ | ⟨x1, x2, x3, x4, x5⟩ | ⟨x1, x2, x3, x4, x5, x6⟩ | ⟨x1, x2, x3, x4, x5, x6⟩
      · try (exfalso; have := HM.out; omega)
        all_goals (
          go_wp2_with (fail)
          refine (ROT.out _ BB.out x1 x2).mono ?_
          rintro e' w1 ⟨rfl, d1, hr, hst⟩
          have c0 := hst.c0
          have c1 := hst.c1
          have HR : Aside _ := hr
          have B1 : Aside _ := hst
          clear hr hst
          go_wp2_with (fail)
          rw [HM.out]
          refine (MRL.out _ _ HR.out B1.out x3 (by have := HM.out; omega)).mono ?_
          rintro e' w2 ⟨rfl, d2, hl, hst⟩
          rw [← HM.out]
          have c0 := hst.c0
          have c1 := hst.c1
          have HLm : Aside _ := hl
          have B2 : Aside _ := hst
          clear hl hst
          go_wp2_with (fail)
          rw [HM.out]
          refine (MRR.out _ _ _ HR.out HLm.out B2.out (by have := HM.out; omega) x6).mono ?_
          rintro e' w3 ⟨rfl, d3, hh, hst⟩
          rw [← HM.out]
          have c0 := hst.c0
          have c1 := hst.c1
          have HHm : Aside _ := hh
          have B3 : Aside _ := hst
          clear hh hst
          go_wp2
          go_end0
          exact ⟨rfl, FIN.out _ _ _ _ HR.out HLm.out HHm.out B3.out⟩)
      · try (exfalso; have := HM.out; omega)
        all_goals (
          go_wp2_with (fail)
          refine (ROT.out _ BB.out x1 x2).mono ?_
          rintro e' w1 ⟨rfl, d1, hr, hst⟩
          have c0 := hst.c0
          have c1 := hst.c1
          have HR : Aside _ := hr
          have B1 : Aside _ := hst
          clear hr hst
          go_wp2_with (fail)
          rw [HM.out]
          refine (MRL.out _ _ HR.out B1.out x3 (by have := HM.out; omega)).mono ?_
          rintro e' w2 ⟨rfl, d2, hl, hst⟩
          rw [← HM.out]
          have c0 := hst.c0
          have c1 := hst.c1
          have HLm : Aside _ := hl
          have B2 : Aside _ := hst
          clear hl hst
          have HHm : Aside _ := Mrgd.none key d2 (i + (e - m)) e b (by have := HM.out; omega) (by omega) g4
          have B3 : Aside _ := B2.out
          go_wp2
          go_end0
          exact ⟨rfl, FIN.out _ _ _ _ HR.out HLm.out HHm.out B3.out⟩)
      · try (exfalso; have := HM.out; omega)
        all_goals (
          go_wp2_with (fail)
          refine (ROT.out _ BB.out x1 x2).mono ?_
          rintro e' w1 ⟨rfl, d1, hr, hst⟩
          have c0 := hst.c0
          have c1 := hst.c1
          have HR : Aside _ := hr
          have B1 : Aside _ := hst
          clear hr hst
          have HLm : Aside _ := Mrgd.none key d1 a i (i + (e - m)) (by have := HM.out; omega) g1 (by omega)
          have B2 : Aside _ := B1.out
          go_wp2_with (fail)
          rw [HM.out]
          refine (MRR.out _ _ _ HR.out HLm.out B2.out (by have := HM.out; omega) x6).mono ?_
          rintro e' w3 ⟨rfl, d3, hh, hst⟩
          rw [← HM.out]
          have c0 := hst.c0
          have c1 := hst.c1
          have HHm : Aside _ := hh
          have B3 : Aside _ := hst
          clear hh hst
          go_wp2
          go_end0
          exact ⟨rfl, FIN.out _ _ _ _ HR.out HLm.out HHm.out B3.out⟩)
      · try (exfalso; have := HM.out; omega)
        all_goals (
          go_wp2_with (fail)
          refine (ROT.out _ BB.out x1 x2).mono ?_
          rintro e' w1 ⟨rfl, d1, hr, hst⟩
          have c0 := hst.c0
          have c1 := hst.c1
          have HR : Aside _ := hr
          have B1 : Aside _ := hst
          clear hr hst
          have HLm : Aside _ := Mrgd.none key d1 a i (i + (e - m)) (by have := HM.out; omega) g1 (by omega)
          have B2 : Aside _ := B1.out
          have HHm : Aside _ := Mrgd.none key d1 (i + (e - m)) e b (by have := HM.out; omega) (by omega) g4
          have B3 : Aside _ := B2.out
          go_wp2
          go_end0
          exact ⟨rfl, FIN.out _ _ _ _ HR.out HLm.out HHm.out B3.out⟩)
      · try (exfalso; have := HM.out; omega)
        all_goals (
          have HR : Aside _ := Rotd.none d i m e (by omega) g2 g3
          have B1 : Aside _ := BB.out
          go_wp2_with (fail)
          rw [HM.out]
          refine (MRL.out _ _ HR.out B1.out x3 (by have := HM.out; omega)).mono ?_
          rintro e' w2 ⟨rfl, d2, hl, hst⟩
          rw [← HM.out]
          have c0 := hst.c0
          have c1 := hst.c1
          have HLm : Aside _ := hl
          have B2 : Aside _ := hst
          clear hl hst
          have HHm : Aside _ := Mrgd.none key d2 (i + (e - m)) e b (by have := HM.out; omega) (by omega) g4
          have B3 : Aside _ := B2.out
          go_wp2
          go_end0
          exact ⟨rfl, FIN.out _ _ _ _ HR.out HLm.out HHm.out B3.out⟩)
      · try (exfalso; have := HM.out; omega)
        all_goals (
          have HR : Aside _ := Rotd.none d i m e (by omega) g2 g3
          have B1 : Aside _ := BB.out
          have HLm : Aside _ := Mrgd.none key d a i (i + (e - m)) (by have := HM.out; omega) g1 (by omega)
          have B2 : Aside _ := B1.out
          have HHm : Aside _ := Mrgd.none key d (i + (e - m)) e b (by have := HM.out; omega) (by omega) g4
          have B3 : Aside _ := B2.out
          go_wp2
          go_end0
          exact ⟨rfl, FIN.out _ _ _ _ HR.out HLm.out HHm.out B3.out⟩)
      · try (exfalso; have := HM.out; omega)
        all_goals (
          have HR : Aside _ := Rotd.none d i m e (by omega) g2 g3
          have B1 : Aside _ := BB.out
          have HLm : Aside _ := Mrgd.none key d a i (i + (e - m)) (by have := HM.out; omega) g1 (by omega)
          have B2 : Aside _ := B1.out
          go_wp2_with (fail)
          rw [HM.out]
          refine (MRR.out _ _ _ HR.out HLm.out B2.out (by have := HM.out; omega) x6).mono ?_
          rintro e' w3 ⟨rfl, d3, hh, hst⟩
          rw [← HM.out]
          have c0 := hst.c0
          have c1 := hst.c1
          have HHm : Aside _ := hh
          have B3 : Aside _ := hst
          clear hh hst
          go_wp2
          go_end0
          exact ⟨rfl, FIN.out _ _ _ _ HR.out HLm.out HHm.out B3.out⟩)
      · try (exfalso; have := HM.out; omega)
        all_goals (
          have HR : Aside _ := Rotd.none d i m e (by omega) g2 g3
          have B1 : Aside _ := BB.out
          have HLm : Aside _ := Mrgd.none key d a i (i + (e - m)) (by have := HM.out; omega) g1 (by omega)
          have B2 : Aside _ := B1.out
          go_wp2_with (fail)
          rw [HM.out]
          refine (MRR.out _ _ _ HR.out HLm.out B2.out (by have := HM.out; omega) x6).mono ?_
          rintro e' w3 ⟨rfl, d3, hh, hst⟩
          rw [← HM.out]
          have c0 := hst.c0
          have c1 := hst.c1
          have HHm : Aside _ := hh
          have B3 : Aside _ := hst
          clear hh hst
          go_wp2
          go_end0
          exact ⟨rfl, FIN.out _ _ _ _ HR.out HLm.out HHm.out B3.out⟩)
set_option maxHeartbeats 16000000 in
set_option maxRecDepth 1000000 in
theorem symMerge_stepB (enc : α → List Value) (k : Nat) (hk : ∀ x, (enc x).length = k) (key : α → Int) (g : Nat) (lb : Array Value) (sf : Nat) (sb : Array Value) (blk off size N a m b : Nat) (d : Array α) (w : World)
    (eg : ∀ args w, (callFunc g args).run Try.prog w = .ok (.enter g args) w) (hswap : SwapSwapsK Try.prog sf sb enc k blk off size) (hsz : size < 4398046511104) (ih : SymOk key enc k g lb sf sb blk off size N)
    (hds0 : d.size = size) (hN : b - a ≤ N + 1) (ham : a + 1 < m) (hmb : m + 1 < b) (hb : b ≤ size) (hless : LessReadsK Try.prog g lb enc k (fun x y => decide (key x < key y)) blk off d.size w) (hH : HoldsK enc k w blk off d) (hblk : blk < w.heap.size)
    (hA : Srt key d a m) (hB : Srt key d m b) (hcase : (a + b) / 2 < m) :
    Calls Try.prog 39 #[.agg #[.func (.func g) #[] lb, .func (.func sf) #[] sb], .int .i64 a, .int .i64 m, .int .i64 b] w fun e w' => e = .returned (.tuple #[]) ∧ ∃ d', Mrgd key d d' a m b ∧ SWK enc k w blk off d' w' := by
  have hu := Try.underlying64
  have hne : w.heap.size ≠ blk := by omega
  have BS : Aside (St enc k g lb sf sb blk off w d _) := St.start hH hblk
  have HH : Hid (HoldsK enc k w blk off d) := hH
  have HA : Hid (Srt key d a m) := hA
  have HB : Hid (Srt key d m b) := hB
  have HL : Hid (LessReadsK Try.prog g lb enc k (fun x y => decide (key x < key y)) blk off d.size w) := hless
  have HS : Hid (SwapSwapsK Try.prog sf sb enc k blk off d.size) := by rw [hds0]; exact hswap
  have IH : Hid (SymOk key enc k g lb sf sb blk off size N) := ih
  have hd : d.size < 4398046511104 := by omega
  have HD : Hid (d.size = size) := hds0
  have hcz : ((a : Int) + (b : Int)) / 2 < (m : Int) := by omega
  clear hH hA hB hless hswap ih hds0
  have h0 : (((m : Int) - (a : Int)) == 1) = false := by rw [beq_eq_false_iff_ne]; omega
  have h1 : (((b : Int) - (m : Int)) == 1) = false := by rw [beq_eq_false_iff_ne]; omega
  go_enter Try.func39, Try.ntmps39
  go_wp2
  go_loopg [18, 19] (b - a) (fun kx s8 s9 wr => ∃ i j : Nat, s8 = .int .i64 i ∧ s9 = .int .i64 j ∧ ((a + b) / 2 + m - b) ≤ i ∧ i ≤ j ∧ j ≤ ((a + b) / 2) ∧ j - i ≤ kx ∧ Aside (i = ((a + b) / 2 + m - b) ∨ key d[i - 1]! ≤ key d[(a + b) / 2 + m - i]!) ∧ Aside (j = ((a + b) / 2) ∨ key d[(a + b) / 2 + m - 1 - j]! < key d[j]!) ∧ Aside (St enc k g lb sf sb blk off w d wr))
  case atStart => exact ⟨((a + b) / 2 + m - b), ((a + b) / 2), by go_num, by go_num, by omega, by omega, by omega, by omega, Or.inl rfl, Or.inl rfl, BS⟩
  case round =>
    clear BS
    obtain ⟨i, j, rfl, rfl, hi, hij, hj, hkx, HI, HJ, B⟩ := hrel
    have c0 := B.out.c0
    have c1 := B.out.c1
    by_cases hlt : i < j
    · have hl := SWK.less B.out.S HL.out rfl ((a + b) / 2 + m - 1 - (i + j) / 2) ((i + j) / 2) (by have := HD.out; omega) (by have := HD.out; omega)
      rw [show (((a + b) / 2 + m - 1 - (i + j) / 2 : Nat) : Int) = ((a : Int) + (b : Int)) / 2 + (m : Int) - 1 - ((i : Int) + (j : Int)) / 2 by omega, show (((i + j) / 2 : Nat) : Int) = ((i : Int) + (j : Int)) / 2 by omega] at hl
      by_cases hc : key d[(a + b) / 2 + m - 1 - (i + j) / 2]! < key d[(i + j) / 2]!
      · rw [decide_eq_true hc] at hl
        have HC : Hid _ := hc
        clear hc
        go_wp2_with (go_at_fn g; refine hl.mono ?_; rintro e w' ⟨rfl, q, rfl⟩)
        go_roundg ((i + j) / 2 - i)
        case measure => omega
        case rel => exact ⟨i, (i + j) / 2, rfl, by go_num, hi, by omega, by omega, Nat.le_refl _, HI, Or.inr HC.out, B.out.drew q⟩
      · rw [decide_eq_false hc] at hl
        have HC : Hid _ := hc
        clear hc
        go_wp2_with (go_at_fn g; refine hl.mono ?_; rintro e w' ⟨rfl, q, rfl⟩)
        go_roundg (j - ((i + j) / 2 + 1))
        case measure => omega
        case rel => exact ⟨(i + j) / 2 + 1, j, by go_num, rfl, by omega, by omega, hj, Nat.le_refl _, Or.inr (by rw [show (i + j) / 2 + 1 - 1 = (i + j) / 2 by omega, show (a + b) / 2 + m - ((i + j) / 2 + 1) = (a + b) / 2 + m - 1 - (i + j) / 2 by omega]; exact Int.not_lt.mp HC.out), HJ, B.out.drew q⟩
    · have e : i = j := by omega
      subst e
      clear hij hlt hkx
      obtain ⟨e, he⟩ : ∃ e, e = (a + b) / 2 + m - i := ⟨_, rfl⟩
      have hei : (((a : Int) + (b : Int)) / 2 + (m : Int) - (i : Int)) = (e : Int) := by omega
      have hmid : (a + b) / 2 = i + (e - m) := by omega
      have hmidz : ((a : Int) + (b : Int)) / 2 = ((i + (e - m) : Nat) : Int) := by omega
      have g1 : a ≤ i := by omega
      have g2 : i ≤ m := by omega
      have g3 : m ≤ e := by omega
      have g4 : e ≤ b := by omega
      have HLL : Hid (i = a ∨ e = b ∨ ¬ key d[e]! < key d[i - 1]!) := by
        show i = a ∨ e = b ∨ ¬ key d[e]! < key d[i - 1]!
        rcases HI.out with h | h
        · omega
        · exact Or.inr (Or.inr (Int.not_lt.mpr (by rw [he]; exact h)))
      have HRR : Hid (i = m ∨ e = m ∨ key d[e - 1]! < key d[i]!) := by
        show i = m ∨ e = m ∨ key d[e - 1]! < key d[i]!
        rcases HJ.out with h | h
        · omega
        · exact Or.inr (Or.inr (by rw [he, show (a + b) / 2 + m - i - 1 = (a + b) / 2 + m - 1 - i by omega]; exact h))
      have fin : ∀ d1 d2 d3 w3, Rotd d d1 i m e → Mrgd key d1 d2 a i (i + (e - m)) → Mrgd key d2 d3 (i + (e - m)) e b → St enc k g lb sf sb blk off w d3 w3 → ∃ d', Mrgd key d d' a m b ∧ SWK enc k w blk off d' w3 :=
        fun d1 d2 d3 w3 hr hl hh hst => ⟨d3, merged_of key d d1 d2 d3 a m b i (i + (e - m)) e g1 g2 g3 g4 rfl HA.out HB.out HLL.out HRR.out hr hl hh, hst.S⟩
      have FIN : Hid _ := fin
      have rot : ∀ w1, St enc k g lb sf sb blk off w d w1 → i < m → m < e → Calls Try.prog 40 #[.agg #[.func (.func g) #[] lb, .func (.func sf) #[] sb], .int .i64 i, .int .i64 m, .int .i64 e] w1 fun e' w' => e' = .returned (.tuple #[]) ∧ ∃ d1, Rotd d d1 i m e ∧ St enc k g lb sf sb blk off w d1 w' :=
        fun w1 hst p1 p2 => (rotate_calls enc k hk (.func g) #[] lb sf sb blk off i m e d w1 HS.out (hst.S.holds hst.hb HH.out rfl) (hst.S.lt hst.hb) p1 p2 (by have := HD.out; omega) hd).mono fun e' w' ⟨h1, d1, h2, h3⟩ => ⟨h1, d1, h2, hst.call h3 h2.size⟩
      have ROT : Hid _ := rot
      have mrl : ∀ w1 d1, Rotd d d1 i m e → St enc k g lb sf sb blk off w d1 w1 → a < i → i < i + (e - m) → Calls Try.prog 39 #[.agg #[.func (.func g) #[] lb, .func (.func sf) #[] sb], .int .i64 a, .int .i64 i, .int .i64 (i + (e - m) : Nat)] w1 fun e' w' => e' = .returned (.tuple #[]) ∧ ∃ d2, Mrgd key d1 d2 a i (i + (e - m)) ∧ St enc k g lb sf sb blk off w d2 w' :=
        fun w1 d1 hr hst p1 p2 => (IH.out a i (i + (e - m)) d1 w1 (by rw [hr.size, HD.out]) (by omega) p1 p2 (by omega) (by rw [hr.size]; exact hst.S.lessReads HL.out hst.hb hr.size) (hst.S.holds hst.hb HH.out hr.size) (hst.S.lt hst.hb) (Srt.rot1 hr HA.out g2) (Srt.rot2 hr HB.out g2 g3 g4)).mono fun e' w' ⟨h1, d2, h2, h3⟩ => ⟨h1, d2, h2, hst.call h3 h2.size⟩
      have MRL : Hid _ := mrl
      have mrr : ∀ w1 d1 d2, Rotd d d1 i m e → Mrgd key d1 d2 a i (i + (e - m)) → St enc k g lb sf sb blk off w d2 w1 → i + (e - m) < e → e < b → Calls Try.prog 39 #[.agg #[.func (.func g) #[] lb, .func (.func sf) #[] sb], .int .i64 (i + (e - m) : Nat), .int .i64 e, .int .i64 b] w1 fun e' w' => e' = .returned (.tuple #[]) ∧ ∃ d3, Mrgd key d2 d3 (i + (e - m)) e b ∧ St enc k g lb sf sb blk off w d3 w' :=
        fun w1 d1 d2 hr hl hst p1 p2 => (IH.out (i + (e - m)) e b d2 w1 (by rw [hl.size, hr.size, HD.out]) (by omega) p1 p2 (by omega) (by rw [hl.size, hr.size]; exact hst.S.lessReads HL.out hst.hb (by rw [hl.size, hr.size])) (hst.S.holds hst.hb HH.out (by rw [hl.size, hr.size])) (hst.S.lt hst.hb) (Srt.mrgd hl (Srt.rot3 hr HA.out g1 g2 g3) (Nat.le_refl _)) (Srt.mrgd hl (Srt.rot4 hr HB.out g2 g3) (by omega))).mono fun e' w' ⟨h1, d3, h2, h3⟩ => ⟨h1, d3, h2, hst.call h3 h2.size⟩
      have MRR : Hid _ := mrr
      clear fin rot mrl mrr IH HS HH HL HA HB HLL HRR HI HJ hi hj
      obtain ⟨t, ht⟩ : ∃ t, t = i + (e - m) := ⟨_, rfl⟩
      rw [← ht] at hmidz
      have HM : Hid (t = i + (e - m)) := ht
      have b1 : t ≤ 4398046511104 := by omega
      have b2 : e ≤ 4398046511104 := by omega
      have HZ : Hid ((((a : Int) + (b : Int)) / 2 + (m : Int) - (i : Int)) = (e : Int)) := hei
      have hez : ((t : Int) + (m : Int) - (i : Int)) = (e : Int) := by omega
      clear he hei hmid ht
      have BB : Aside (St enc k g lb sf sb blk off w d wr) := B
      clear B
      have cases8 := cases8 g1 g2 g3 g4 (by omega) (by omega) HM.out
      rcases cases8 with ⟨x1, x2, x3, x4, x5, x6⟩ | ⟨x1, x2, x3, x4, x5, x6⟩ | ⟨x1, x2, x3, x4, x5, x6⟩ | ⟨x1, x2, x3, x4, x5, x6⟩ | ⟨x1, x2, x3, x4, x5⟩ | ⟨x1, x2, x3, x4, x5⟩ | ⟨x1, x2, x3, x4, x5, x6⟩ | ⟨x1, x2, x3, x4, x5, x6⟩
      · try (exfalso; have := HM.out; omega)
        all_goals (
          go_wp2_with (fail)
          refine (ROT.out _ BB.out x1 x2).mono ?_
          rintro e' w1 ⟨rfl, d1, hr, hst⟩
          have c0 := hst.c0
          have c1 := hst.c1
          have HR : Aside _ := hr
          have B1 : Aside _ := hst
          clear hr hst
          go_wp2_with (fail)
          rw [HM.out]
          refine (MRL.out _ _ HR.out B1.out x3 (by have := HM.out; omega)).mono ?_
          rintro e' w2 ⟨rfl, d2, hl, hst⟩
          rw [← HM.out]
          have c0 := hst.c0
          have c1 := hst.c1
          have HLm : Aside _ := hl
          have B2 : Aside _ := hst
          clear hl hst
          go_wp2_with (fail)
          rw [HM.out]
          refine (MRR.out _ _ _ HR.out HLm.out B2.out (by have := HM.out; omega) x6).mono ?_
          rintro e' w3 ⟨rfl, d3, hh, hst⟩
          rw [← HM.out]
          have c0 := hst.c0
          have c1 := hst.c1
          have HHm : Aside _ := hh
          have B3 : Aside _ := hst
          clear hh hst
          go_wp2
          go_end0
          exact ⟨rfl, FIN.out _ _ _ _ HR.out HLm.out HHm.out B3.out⟩)
      · try (exfalso; have := HM.out; omega)
        all_goals (
          go_wp2_with (fail)
          refine (ROT.out _ BB.out x1 x2).mono ?_
          rintro e' w1 ⟨rfl, d1, hr, hst⟩
          have c0 := hst.c0
          have c1 := hst.c1
          have HR : Aside _ := hr
          have B1 : Aside _ := hst
          clear hr hst
          go_wp2_with (fail)
          rw [HM.out]
          refine (MRL.out _ _ HR.out B1.out x3 (by have := HM.out; omega)).mono ?_
          rintro e' w2 ⟨rfl, d2, hl, hst⟩
          rw [← HM.out]
          have c0 := hst.c0
          have c1 := hst.c1
          have HLm : Aside _ := hl
          have B2 : Aside _ := hst
          clear hl hst
          have HHm : Aside _ := Mrgd.none key d2 (i + (e - m)) e b (by have := HM.out; omega) (by omega) g4
          have B3 : Aside _ := B2.out
          go_wp2
          go_end0
          exact ⟨rfl, FIN.out _ _ _ _ HR.out HLm.out HHm.out B3.out⟩)
      · try (exfalso; have := HM.out; omega)
        all_goals (
          go_wp2_with (fail)
          refine (ROT.out _ BB.out x1 x2).mono ?_
          rintro e' w1 ⟨rfl, d1, hr, hst⟩
          have c0 := hst.c0
          have c1 := hst.c1
          have HR : Aside _ := hr
          have B1 : Aside _ := hst
          clear hr hst
          have HLm : Aside _ := Mrgd.none key d1 a i (i + (e - m)) (by have := HM.out; omega) g1 (by omega)
          have B2 : Aside _ := B1.out
          go_wp2_with (fail)
          rw [HM.out]
          refine (MRR.out _ _ _ HR.out HLm.out B2.out (by have := HM.out; omega) x6).mono ?_
          rintro e' w3 ⟨rfl, d3, hh, hst⟩
          rw [← HM.out]
          have c0 := hst.c0
          have c1 := hst.c1
          have HHm : Aside _ := hh
          have B3 : Aside _ := hst
          clear hh hst
          go_wp2
          go_end0
          exact ⟨rfl, FIN.out _ _ _ _ HR.out HLm.out HHm.out B3.out⟩)
      · try (exfalso; have := HM.out; omega)
        all_goals (
          go_wp2_with (fail)
          refine (ROT.out _ BB.out x1 x2).mono ?_
          rintro e' w1 ⟨rfl, d1, hr, hst⟩
          have c0 := hst.c0
          have c1 := hst.c1
          have HR : Aside _ := hr
          have B1 : Aside _ := hst
          clear hr hst
          have HLm : Aside _ := Mrgd.none key d1 a i (i + (e - m)) (by have := HM.out; omega) g1 (by omega)
          have B2 : Aside _ := B1.out
          have HHm : Aside _ := Mrgd.none key d1 (i + (e - m)) e b (by have := HM.out; omega) (by omega) g4
          have B3 : Aside _ := B2.out
          go_wp2
          go_end0
          exact ⟨rfl, FIN.out _ _ _ _ HR.out HLm.out HHm.out B3.out⟩)
      · try (exfalso; have := HM.out; omega)
        all_goals (
          have HR : Aside _ := Rotd.none d i m e (by omega) g2 g3
          have B1 : Aside _ := BB.out
          go_wp2_with (fail)
          rw [HM.out]
          refine (MRL.out _ _ HR.out B1.out x3 (by have := HM.out; omega)).mono ?_
          rintro e' w2 ⟨rfl, d2, hl, hst⟩
          rw [← HM.out]
          have c0 := hst.c0
          have c1 := hst.c1
          have HLm : Aside _ := hl
          have B2 : Aside _ := hst
          clear hl hst
          have HHm : Aside _ := Mrgd.none key d2 (i + (e - m)) e b (by have := HM.out; omega) (by omega) g4
          have B3 : Aside _ := B2.out
          go_wp2
          go_end0
          exact ⟨rfl, FIN.out _ _ _ _ HR.out HLm.out HHm.out B3.out⟩)
      · try (exfalso; have := HM.out; omega)
        all_goals (
          have HR : Aside _ := Rotd.none d i m e (by omega) g2 g3
          have B1 : Aside _ := BB.out
          have HLm : Aside _ := Mrgd.none key d a i (i + (e - m)) (by have := HM.out; omega) g1 (by omega)
          have B2 : Aside _ := B1.out
          have HHm : Aside _ := Mrgd.none key d (i + (e - m)) e b (by have := HM.out; omega) (by omega) g4
          have B3 : Aside _ := B2.out
          go_wp2
          go_end0
          exact ⟨rfl, FIN.out _ _ _ _ HR.out HLm.out HHm.out B3.out⟩)
      · try (exfalso; have := HM.out; omega)
        all_goals (
          have HR : Aside _ := Rotd.none d i m e (by omega) g2 g3
          have B1 : Aside _ := BB.out
          have HLm : Aside _ := Mrgd.none key d a i (i + (e - m)) (by have := HM.out; omega) g1 (by omega)
          have B2 : Aside _ := B1.out
          go_wp2_with (fail)
          rw [HM.out]
          refine (MRR.out _ _ _ HR.out HLm.out B2.out (by have := HM.out; omega) x6).mono ?_
          rintro e' w3 ⟨rfl, d3, hh, hst⟩
          rw [← HM.out]
          have c0 := hst.c0
          have c1 := hst.c1
          have HHm : Aside _ := hh
          have B3 : Aside _ := hst
          clear hh hst
          go_wp2
          go_end0
          exact ⟨rfl, FIN.out _ _ _ _ HR.out HLm.out HHm.out B3.out⟩)
      · try (exfalso; have := HM.out; omega)
        all_goals (
          have HR : Aside _ := Rotd.none d i m e (by omega) g2 g3
          have B1 : Aside _ := BB.out
          have HLm : Aside _ := Mrgd.none key d a i (i + (e - m)) (by have := HM.out; omega) g1 (by omega)
          have B2 : Aside _ := B1.out
          go_wp2_with (fail)
          rw [HM.out]
          refine (MRR.out _ _ _ HR.out HLm.out B2.out (by have := HM.out; omega) x6).mono ?_
          rintro e' w3 ⟨rfl, d3, hh, hst⟩
          rw [← HM.out]
          have c0 := hst.c0
          have c1 := hst.c1
          have HHm : Aside _ := hh
          have B3 : Aside _ := hst
          clear hh hst
          go_wp2
          go_end0
          exact ⟨rfl, FIN.out _ _ _ _ HR.out HLm.out HHm.out B3.out⟩)
theorem symOk (enc : α → List Value) (k : Nat) (hk : ∀ x, (enc x).length = k) (key : α → Int) (g : Nat) (lb : Array Value) (sf : Nat) (sb : Array Value) (blk off size : Nat)
    (eg : ∀ args w, (callFunc g args).run Try.prog w = .ok (.enter g args) w) (hswap : SwapSwapsK Try.prog sf sb enc k blk off size) (hsz : size < 4398046511104) : ∀ N, SymOk key enc k g lb sf sb blk off size N
  | 0 => fun a m b d w _ hN ham hmb => by omega
  | N + 1 => fun a m b d w hds hN ham hmb hb hless hH hblk hA hB => by
    by_cases h1 : m = a + 1
    · subst h1
      exact symMerge_first enc k hk key g lb sf sb blk off a b d w eg hless (by rw [hds]; exact hswap) hH hblk hmb (by omega) (by omega) hB
    · by_cases h2 : b = m + 1
      · subst h2
        exact symMerge_last enc k hk key g lb sf sb blk off a m d w eg hless (by rw [hds]; exact hswap) hH hblk (by omega) (by omega) (by omega) hA
      · have ih := symOk enc k hk key g lb sf sb blk off size eg hswap hsz N
        by_cases hc : m ≤ (a + b) / 2
        · exact symMerge_stepA enc k hk key g lb sf sb blk off size N a m b d w eg hswap hsz ih hds hN (by omega) (by omega) hb hless hH hblk hA hB hc
        · exact symMerge_stepB enc k hk key g lb sf sb blk off size N a m b d w eg hswap hsz ih hds hN (by omega) (by omega) hb hless hH hblk hA hB (by omega)
#print axioms symOk
end Go.Proofs.Ytipkcbpilkoflaa.Stab
