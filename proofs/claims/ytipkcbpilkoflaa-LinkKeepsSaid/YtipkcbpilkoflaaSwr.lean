/- The library's swapRange over a row of elements of some cells. -/
import Derived.Test.YtipkcbpilkoflaaSort
import Derived.Test.YtipkcbpilkoflaaStab
import Derived.Shelf.SlSortFuncK.SWK
namespace Go.Proofs.Ytipkcbpilkoflaa.Stab
open Go.Shelf Go.RowKit Go.Lib Go.Sort
variable {α : Type} [Inhabited α]

/-- the two stretches a..a+n and b..b+n have changed places. -/
structure Swpd (d d' : Array α) (a b n : Nat) : Prop where
  size : d'.size = d.size
  get : ∀ t, d'[t]! = if a ≤ t ∧ t < a + n then d[t - a + b]! else if b ≤ t ∧ t < b + n then d[t - b + a]! else d[t]!

theorem Swpd.zero (d : Array α) (a b : Nat) : Swpd d d a b 0 := ⟨rfl, fun t => by rw [if_neg (by omega), if_neg (by omega)]⟩
theorem Swpd.step {d d' : Array α} {a b n : Nat} (h : Swpd d d' a b n) (hab : a + (n + 1) ≤ b) (hb : b + (n + 1) ≤ d.size) : Swpd d (swp d' (a + n) (b + n)) a b (n + 1) := by
  refine ⟨by rw [size_swp, h.size], fun t => ?_⟩
  rw [swp_get d' (by rw [h.size]; omega) (by rw [h.size]; omega)]
  split
  · next c => subst c; rw [if_neg (by omega), if_pos (by omega), h.get, if_neg (by omega), if_neg (by omega)]; congr 1; omega
  · split
    · next c => subst c; rw [if_pos (by omega), h.get, if_neg (by omega), if_neg (by omega)]; congr 1; omega
    · rw [h.get]
      by_cases c1 : a ≤ t ∧ t < a + n
      · have h1 : a ≤ t ∧ t < a + (n + 1) := by omega
        rw [if_pos c1, if_pos h1]
      · have h1 : ¬ (a ≤ t ∧ t < a + (n + 1)) := by omega
        rw [if_neg c1, if_neg h1]
        by_cases c2 : b ≤ t ∧ t < b + n
        · have h2 : b ≤ t ∧ t < b + (n + 1) := by omega
          rw [if_pos c2, if_pos h2]
        · have h2 : ¬ (b ≤ t ∧ t < b + (n + 1)) := by omega
          rw [if_neg c2, if_neg h2]

set_option maxHeartbeats 4000000 in
set_option maxRecDepth 1000000 in
theorem swapRange_calls (enc : α → List Value) (k : Nat) (hk : ∀ x, (enc x).length = k) (lf : Fn) (la lb : Array Value) (sf : Nat) (sb : Array Value) (blk off a b n : Nat) (d : Array α) (w : World)
    (hswap : SwapSwapsK Try.prog sf sb enc k blk off d.size) (hH : HoldsK enc k w blk off d) (hblk : blk < w.heap.size) (hab : a + n ≤ b) (hb : b + n ≤ d.size) (hsz : d.size < 4398046511104) :
    Calls Try.prog 41 #[.agg #[.func lf la lb, .func (.func sf) #[] sb], .int .i64 a, .int .i64 b, .int .i64 n] w fun e w' => e = .returned (.tuple #[]) ∧ ∃ d', Swpd d d' a b n ∧ SWK enc k w blk off d' w' := by
  have hu := Try.underlying64
  have hne : w.heap.size ≠ blk := by omega
  go_enter Try.func41, Try.ntmps41
  go_wp2
  go_loopg [8] n (fun kx s8 wr => ∃ i : Nat, s8 = .int .i64 i ∧ i ≤ n ∧ n - i ≤ kx ∧ ∃ (dk : Array α), Aside (Swpd d dk a b i) ∧ Aside (SWK enc k w blk off dk wr) ∧ wr.cell? ⟨w.heap.size, 1, none⟩ = some (.func (.func sf) #[] sb))
  case atStart => exact ⟨0, rfl, by omega, by omega, d, Swpd.zero d a b, (SWK.start hH).alloc _, by simp⟩
  case round =>
    obtain ⟨i, rfl, hi, hkx, dk, HD, S, c1⟩ := hrel
    by_cases hlt : i < n
    · have hds := HD.out.size
      have hs := hswap wr dk (S.out.holds hblk hH hds) hds (a + i) (b + i) (by omega) (by omega)
      rw [show ((a + i : Nat) : Int) = (a : Int) + (i : Int) by omega, show ((b + i : Nat) : Int) = (b : Int) + (i : Int) by omega] at hs
      have S2 : Aside (SWK enc k w blk off (swp dk (a + i) (b + i)) _) := S.out.swap hk hblk (a + i) (b + i) (by omega) (by omega)
      have c1' : ((wr.setCells blk (off + (a + i) * k) (enc dk[b + i]!)).setCells blk (off + (b + i) * k) (enc dk[a + i]!)).cell? ⟨w.heap.size, 1, none⟩ = some (.func (.func sf) #[] sb) := by
        rw [World.cell?_setCells_out blk _ _ _ _ (fun e _ => absurd e hne), World.cell?_setCells_out blk _ _ _ _ (fun e _ => absurd e hne)]; exact c1
      have HD2 : Aside (Swpd d (swp dk (a + i) (b + i)) a b (i + 1)) := HD.out.step (by omega) (by omega)
      clear HD S hswap hH
      generalize (wr.setCells blk (off + (a + i) * k) (enc dk[b + i]!)).setCells blk (off + (b + i) * k) (enc dk[a + i]!) = w2 at hs S2 c1'
      go_wp2
      go_roundg (n - (i + 1))
      case measure => omega
      case rel => exact ⟨i + 1, by go_num, by omega, by omega, swp dk (a + i) (b + i), HD2, S2, c1'⟩
    · have e : i = n := by omega
      subst e
      clear hswap hH
      go_wp2
      go_end0
      exact ⟨rfl, dk, HD.out, S.out⟩
#print axioms swapRange_calls
end Go.Proofs.Ytipkcbpilkoflaa.Stab
