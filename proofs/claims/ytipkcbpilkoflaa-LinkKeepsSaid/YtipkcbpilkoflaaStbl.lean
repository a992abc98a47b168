/- The library's stable over a row of elements of some cells. -/
import Derived.Test.YtipkcbpilkoflaaStbp
import Derived.Test.YtipkcbpilkoflaaSymm
namespace Go.Proofs.Ytipkcbpilkoflaa.Stab
open Go.Shelf Go.RowKit Go.Lib Go.Sort
variable {α : Type} [Inhabited α]
set_option linter.unusedVariables false

theorem insertion_calls (enc : α → List Value) (k : Nat) (hk : ∀ x, (enc x).length = k) (key : α → Int) (g : Nat) (lb : Array Value) (sf : Nat) (sb : Array Value) (blk off a b : Nat) (d : Array α) (w : World)
    (eg : ∀ args w, (callFunc g args).run Try.prog w = .ok (.enter g args) w) (hless : LessReadsK Try.prog g lb enc k (fun x y => decide (key x < key y)) blk off d.size w) (hswap : SwapSwapsK Try.prog sf sb enc k blk off d.size)
    (hH : HoldsK enc k w blk off d) (hblk : blk < w.heap.size) (hab : a ≤ b) (hb : b ≤ d.size) (hsz : d.size < 4398046511104) :
    Calls Try.prog 38 #[.agg #[.func (.func g) #[] lb, .func (.func sf) #[] sb], .int .i64 a, .int .i64 b] w fun e w' => e = .returned (.tuple #[]) ∧ ∃ d', Insd key d d' a b ∧ SWK enc k w blk off d' w' := by
  have LI : LaysGg.n26 Try.prog Try.laysGt8_ren.viaGt := ({ Try.laysGt8 with } : LaysGt.n29 Try.prog Try.laysGt8_ren).elder
  have h := Any.insertionSort_func_cells_w LI enc k hk (fun x y => decide (key x < key y)) g lb sf sb blk off a b d w eg hless hswap hH hblk hab hb (by omega)
  change Calls Try.prog 38 _ _ _ at h
  exact h.mono fun e w' ⟨h1, n, os, h2⟩ => ⟨h1, _, insertion_spec d a b hab hb, n, os, h2⟩

set_option maxHeartbeats 16000000 in
set_option maxRecDepth 1000000 in
theorem stable_calls (enc : α → List Value) (k : Nat) (hk : ∀ x, (enc x).length = k) (key : α → Int) (g : Nat) (lb : Array Value) (sf : Nat) (sb : Array Value) (blk off : Nat) (d : Array α) (w : World)
    (eg : ∀ args w, (callFunc g args).run Try.prog w = .ok (.enter g args) w) (hless : LessReadsK Try.prog g lb enc k (fun x y => decide (key x < key y)) blk off d.size w) (hswap : SwapSwapsK Try.prog sf sb enc k blk off d.size)
    (hH : HoldsK enc k w blk off d) (hblk : blk < w.heap.size) (hsz : d.size < 4398046511104) :
    Calls Try.prog 27 #[.agg #[.func (.func g) #[] lb, .func (.func sf) #[] sb], .int .i64 d.size] w fun e w' => e = .returned (.tuple #[]) ∧ ∃ d', d'.toList = isort key d.toList ∧ SWK enc k w blk off d' w' := by
  have hu := Try.underlying64
  have hne : w.heap.size ≠ blk := by omega
  have BS : Aside (St enc k g lb sf sb blk off w d _) := St.start hH hblk
  have ins : ∀ w1 d1 a b, d1.size = d.size → St enc k g lb sf sb blk off w d1 w1 → a ≤ b → b ≤ d.size → Calls Try.prog 38 #[.agg #[.func (.func g) #[] lb, .func (.func sf) #[] sb], .int .i64 (a : Nat), .int .i64 (b : Nat)] w1 fun e w' => e = .returned (.tuple #[]) ∧ ∃ d', Insd key d1 d' a b ∧ St enc k g lb sf sb blk off w d' w' :=
    fun w1 d1 a b hs hst h1 h2 => (insertion_calls enc k hk key g lb sf sb blk off a b d1 w1 eg (by rw [hs]; exact hst.S.lessReads hless hst.hb hs) (by rw [hs]; exact hswap) (hst.S.holds hst.hb hH hs) (hst.S.lt hst.hb) h1 (by omega) (by omega)).mono
      fun e w' ⟨h1, d', h2, h3⟩ => ⟨h1, d', h2, hst.call h3 h2.size⟩
  have sym : ∀ w1 d1 a m b, d1.size = d.size → St enc k g lb sf sb blk off w d1 w1 → a < m → m < b → b ≤ d.size → Srt key d1 a m → Srt key d1 m b → Calls Try.prog 39 #[.agg #[.func (.func g) #[] lb, .func (.func sf) #[] sb], .int .i64 (a : Nat), .int .i64 (m : Nat), .int .i64 (b : Nat)] w1 fun e w' => e = .returned (.tuple #[]) ∧ ∃ d', Mrgd key d1 d' a m b ∧ St enc k g lb sf sb blk off w d' w' :=
    fun w1 d1 a m b hs hst h1 h2 h3 hA hB => (symOk enc k hk key g lb sf sb blk off d.size eg hswap hsz (b - a) a m b d1 w1 hs (Nat.le_refl _) h1 h2 h3 (by rw [hs]; exact hst.S.lessReads hless hst.hb hs) (hst.S.holds hst.hb hH hs) (hst.S.lt hst.hb) hA hB).mono
      fun e w' ⟨h1, d', h2, h3⟩ => ⟨h1, d', h2, hst.call h3 h2.size⟩
  have INS : Hid _ := ins
  have SYM : Hid _ := sym
  clear ins sym hless hswap hH
  obtain ⟨n, hn⟩ : ∃ n, n = d.size := ⟨_, rfl⟩
  rw [← hn] at hsz ⊢
  have HN : Hid (n = d.size) := hn
  clear hn
  go_enter Try.func27, Try.ntmps27
  go_wp2
  go_loopg [5, 6] (n + 20) (fun kx s5 s6 wr => ∃ a : Nat, s5 = .int .i64 a ∧ s6 = .int .i64 ((a : Int) + 20) ∧ a ≤ n ∧ n + 20 - a ≤ kx ∧ ∃ (dk : Array α), Aside (Part key d d dk 20 a) ∧ Aside (St enc k g lb sf sb blk off w dk wr))
  case atStart => exact ⟨0, rfl, by go_num, by omega, by omega, d, Part.start d d 20 rfl, BS⟩
  case round =>
    clear BS
    obtain ⟨a, rfl, rfl, han, hkx, dk, HP, B⟩ := hrel
    have c0 := B.out.c0
    have c1 := B.out.c1
    by_cases hlt : a + 20 ≤ n
    · go_wp2_with (fail)
      rw [show ((a : Int) + 20) = ((a + 20 : Nat) : Int) by omega]
      refine (INS.out _ dk a (a + 20) HP.out.size B.out (by omega) (by have := HN.out; omega)).mono ?_
      rintro e' w1 ⟨rfl, d1, hi, hst⟩
      have HI : Aside _ := hi
      have B1 : Aside _ := hst
      clear hi hst
      go_wp2
      go_roundg (n + 20 - (a + 20))
      case measure => omega
      case rel => exact ⟨a + 20, by go_num, by go_num, by omega, Nat.le_refl _, d1, HP.out.insert HI.out (by omega), B1⟩
    · go_wp2_with (fail)
      refine (INS.out _ dk a n HP.out.size B.out (by omega) (by have := HN.out; omega)).mono ?_
      rintro e' w1 ⟨rfl, d1, hi, hst⟩
      have HD : Aside (Done key d d1 20) := HP.out.insertLast (by rw [← HN.out]; exact hi) (by have := HN.out; omega) (by have := HN.out; omega)
      have B1 : Aside _ := hst
      clear hi hst HP B c0 c1
      go_wp2
      clear hlt han hkx
      go_loopg [4] n (fun kx s4 wr => ∃ c : Nat, s4 = .int .i64 c ∧ 20 ≤ c ∧ c ≤ 2 * n + 40 ∧ n - c ≤ kx ∧ ∃ (dk : Array α), Aside (Done key d dk c) ∧ Aside (St enc k g lb sf sb blk off w dk wr))
      case atStart => exact ⟨20, rfl, by omega, by omega, by omega, d1, HD, B1⟩
      case round =>
        clear HD B1
        obtain ⟨c, rfl, hc20, hc2, hkx, dk2, HD, B2⟩ := hrel
        by_cases hcn : c < n
        · have c0 := B2.out.c0
          have c1 := B2.out.c1
          go_wp2
          go_loopg [5, 6] (n + 2 * c) (fun kx s5 s6 wr => ∃ a : Nat, s5 = .int .i64 a ∧ s6 = .int .i64 ((a : Int) + 2 * (c : Int)) ∧ a ≤ n ∧ n + 2 * c - a ≤ kx ∧ ∃ (dj : Array α), Aside (Part key d dk2 dj (2 * c) a) ∧ Aside (St enc k g lb sf sb blk off w dj wr))
          case atStart => exact ⟨0, rfl, by go_num, by omega, by omega, dk2, Part.start d dk2 (2 * c) HD.out.size, B2⟩
          case round =>
            clear B2 c0 c1
            obtain ⟨a2, rfl, rfl, han2, hkx2, dj, HP, B⟩ := hrel
            have c0 := B.out.c0
            have c1 := B.out.c1
            by_cases hlt2 : a2 + 2 * c ≤ n
            · have SR : Hid (Srt key dj a2 (a2 + c) ∧ Srt key dj (a2 + c) (a2 + 2 * c)) := by
                obtain ⟨h1, h2⟩ := HP.out.lows HD.out (b := a2 + 2 * c) (by omega) (by have := HN.out; omega) (Nat.le_refl _) (Or.inr rfl)
                exact ⟨h1.srt, h2.srt⟩
              go_wp2_with (fail)
              rw [show ((a2 : Int) + 2 * (c : Int)) = ((a2 + 2 * c : Nat) : Int) by omega, show ((a2 : Int) + (c : Int)) = ((a2 + c : Nat) : Int) by omega]
              refine (SYM.out _ dj a2 (a2 + c) (a2 + 2 * c) HP.out.size B.out (by omega) (by omega) (by have := HN.out; omega) SR.out.1 SR.out.2).mono ?_
              rintro e' w1 ⟨rfl, d1, hi, hst⟩
              have HI : Aside _ := hi
              have B1 : Aside _ := hst
              clear hi hst
              go_wp2
              go_roundg (n + 2 * c - (a2 + 2 * c))
              case measure => omega
              case rel => exact ⟨a2 + 2 * c, by go_num, by go_num, by omega, Nat.le_refl _, d1, HP.out.merge HD.out (by omega) (by have := HN.out; omega) HI.out, B1⟩
            · by_cases hm : a2 + c < n
              · have SR : Hid (Srt key dj a2 (a2 + c) ∧ Srt key dj (a2 + c) n) := by
                  obtain ⟨h1, h2⟩ := HP.out.lows HD.out (b := n) (by omega) (by have := HN.out; omega) (by omega) (Or.inl HN.out)
                  exact ⟨h1.srt, h2.srt⟩
                go_wp2_with (fail)
                rw [show ((a2 : Int) + (c : Int)) = ((a2 + c : Nat) : Int) by omega]
                refine (SYM.out _ dj a2 (a2 + c) n HP.out.size B.out (by omega) (by omega) (by have := HN.out; omega) SR.out.1 SR.out.2).mono ?_
                rintro e' w1 ⟨rfl, d1, hi, hst⟩
                have HD2 : Aside (Done key d d1 (2 * c)) := HP.out.last HD.out (by omega) (by have := HN.out; omega) (by have := HN.out; omega) (Or.inl ⟨by have := HN.out; omega, by rw [← HN.out]; exact hi⟩)
                have B1 : Aside _ := hst
                clear hi hst
                go_wp2
                go_roundg (n - 2 * c)
                case measure => omega
                case rel => exact ⟨2 * c, by go_num, by omega, by omega, Nat.le_refl _, d1, HD2, B1⟩
              · have HD2 : Aside (Done key d dj (2 * c)) := HP.out.last HD.out (by omega) (by have := HN.out; omega) (by have := HN.out; omega) (Or.inr ⟨by have := HN.out; omega, rfl⟩)
                go_wp2
                go_roundg (n - 2 * c)
                case measure => omega
                case rel => exact ⟨2 * c, by go_num, by omega, by omega, Nat.le_refl _, dj, HD2, B⟩
        · go_wp2
          go_end0
          exact ⟨rfl, dk2, HD.out.end (by have := HN.out; omega), B2.out.S⟩
#print axioms stable_calls
end Go.Proofs.Ytipkcbpilkoflaa.Stab
