/- The library's rotate over a row of elements of some cells. -/
import Derived.Test.YtipkcbpilkoflaaSwr
namespace Go.Proofs.Ytipkcbpilkoflaa.Stab
open Go.Shelf Go.RowKit Go.Lib Go.Sort
variable {α : Type} [Inhabited α]

def RotInv (T : Nat → α) (c : Array α) (m i j : Nat) : Prop :=
  ∀ t, T t = if m - i ≤ t ∧ t < m - i + j then c[t + i]! else if m - i + j ≤ t ∧ t < m + j then c[t - j]! else c[t]!

theorem RotInv.left {T : Nat → α} {c c' : Array α} {m i j : Nat} (h : RotInv T c m i j) (hi : i ≤ m) (hij : j < i) (hs : Swpd c c' (m - i) m j) : RotInv T c' m (i - j) j := fun t => by
  rw [h t]
  by_cases r1 : m - i ≤ t ∧ t < m - i + j
  · have n1 : ¬ (m - (i - j) ≤ t ∧ t < m - (i - j) + j) := by omega
    have n2 : ¬ (m - (i - j) + j ≤ t ∧ t < m + j) := by omega
    rw [if_pos r1, if_neg n1, if_neg n2, hs.get, if_pos r1]
    congr 1; omega
  · rw [if_neg r1]
    by_cases r2 : m - i + j ≤ t ∧ t < m + j
    · rw [if_pos r2]
      by_cases r3 : m - (i - j) ≤ t ∧ t < m - (i - j) + j
      · have n1 : ¬ (m - i ≤ t + (i - j) ∧ t + (i - j) < m - i + j) := by omega
        have n2 : m ≤ t + (i - j) ∧ t + (i - j) < m + j := by omega
        rw [if_pos r3, hs.get, if_neg n1, if_pos n2]
        congr 1; omega
      · have r4 : m - (i - j) + j ≤ t ∧ t < m + j := by omega
        have n1 : ¬ (m - i ≤ t - j ∧ t - j < m - i + j) := by omega
        have n2 : ¬ (m ≤ t - j ∧ t - j < m + j) := by omega
        rw [if_neg r3, if_pos r4, hs.get, if_neg n1, if_neg n2]
    · have n1 : ¬ (m - (i - j) ≤ t ∧ t < m - (i - j) + j) := by omega
      have n2 : ¬ (m - (i - j) + j ≤ t ∧ t < m + j) := by omega
      have n3 : ¬ (m ≤ t ∧ t < m + j) := by omega
      rw [if_neg r2, if_neg n1, if_neg n2, hs.get, if_neg r1, if_neg n3]
theorem RotInv.right {T : Nat → α} {c c' : Array α} {m i j : Nat} (h : RotInv T c m i j) (hi : i ≤ m) (hij : i < j) (hs : Swpd c c' (m - i) (m + j - i) i) : RotInv T c' m i (j - i) := fun t => by
  rw [h t]
  by_cases r1 : m - i ≤ t ∧ t < m - i + j
  · rw [if_pos r1]
    by_cases r2 : m - i ≤ t ∧ t < m - i + (j - i)
    · rw [if_pos r2]
      have n1 : ¬ (m - i ≤ t + i ∧ t + i < m - i + i) := by omega
      have n2 : ¬ (m + j - i ≤ t + i ∧ t + i < m + j - i + i) := by omega
      rw [hs.get, if_neg n1, if_neg n2]
    · have r3 : m - i + (j - i) ≤ t ∧ t < m + (j - i) := by omega
      have n1 : m - i ≤ t - (j - i) ∧ t - (j - i) < m - i + i := by omega
      rw [if_neg r2, if_pos r3, hs.get, if_pos n1]
      congr 1; omega
  · rw [if_neg r1]
    by_cases r2 : m - i + j ≤ t ∧ t < m + j
    · have n1 : ¬ (m - i ≤ t ∧ t < m - i + (j - i)) := by omega
      have n2 : ¬ (m - i + (j - i) ≤ t ∧ t < m + (j - i)) := by omega
      have n3 : ¬ (m - i ≤ t ∧ t < m - i + i) := by omega
      have n4 : m + j - i ≤ t ∧ t < m + j - i + i := by omega
      rw [if_pos r2, if_neg n1, if_neg n2, hs.get, if_neg n3, if_pos n4]
      congr 1; omega
    · have n1 : ¬ (m - i ≤ t ∧ t < m - i + (j - i)) := by omega
      have n2 : ¬ (m - i + (j - i) ≤ t ∧ t < m + (j - i)) := by omega
      have n3 : ¬ (m - i ≤ t ∧ t < m - i + i) := by omega
      have n4 : ¬ (m + j - i ≤ t ∧ t < m + j - i + i) := by omega
      rw [if_neg r2, if_neg n1, if_neg n2, hs.get, if_neg n3, if_neg n4]
theorem RotInv.last {T : Nat → α} {c c' : Array α} {m i : Nat} (h : RotInv T c m i i) (hi : i ≤ m) (hs : Swpd c c' (m - i) m i) (t : Nat) : c'[t]! = T t := by
  rw [h t, hs.get]
  by_cases r1 : m - i ≤ t ∧ t < m - i + i
  · rw [if_pos r1, if_pos r1]; congr 1; omega
  · rw [if_neg r1, if_neg r1]
    by_cases r2 : m ≤ t ∧ t < m + i
    · have n1 : m - i + i ≤ t ∧ t < m + i := by omega
      rw [if_pos r2, if_pos n1]; congr 1; omega
    · have n1 : ¬ (m - i + i ≤ t ∧ t < m + i) := by omega
      rw [if_neg r2, if_neg n1]

/-- What lies in another block than the row's lies there still. -/
theorem cell_other (enc : α → List Value) (k : Nat) (W : World) (blk off : Nat) (dk : Array α) (W' : World) (h : SWK enc k W blk off dk W') (a : Addr) (h1 : a.block ≠ blk) (h2 : a.block < W.heap.size) : W'.cell? a = W.cell? a := by
  obtain ⟨n, os, rfl⟩ := h
  unfold sortWorldK
  rw [cell?_grow _ _ _ (by rw [size_putRowK]; exact h2), cell?_putRowK_other enc k _ blk off dk a h1]
  rfl
theorem SWK.trans {enc : α → List Value} {k : Nat} {w0 W W' : World} {blk off : Nat} {dk dk' : Array α} (h : SWK enc k w0 blk off dk W) (h' : SWK enc k W blk off dk' W') (hblk : blk < w0.heap.size) (hs : dk'.size = dk.size) : SWK enc k w0 blk off dk' W' := by
  obtain ⟨n, os, rfl⟩ := h'
  exact h.on hblk n dk' os hs

set_option maxHeartbeats 4000000 in
set_option maxRecDepth 1000000 in
theorem rotate_calls (enc : α → List Value) (k : Nat) (hk : ∀ x, (enc x).length = k) (lf : Fn) (la lb : Array Value) (sf : Nat) (sb : Array Value) (blk off a m b : Nat) (d : Array α) (w : World)
    (hswap : SwapSwapsK Try.prog sf sb enc k blk off d.size) (hH : HoldsK enc k w blk off d) (hblk : blk < w.heap.size) (ham : a < m) (hmb : m < b) (hb : b ≤ d.size) (hsz : d.size < 4398046511104) :
    Calls Try.prog 40 #[.agg #[.func lf la lb, .func (.func sf) #[] sb], .int .i64 a, .int .i64 m, .int .i64 b] w fun e w' => e = .returned (.tuple #[]) ∧ ∃ d', Rotd d d' a m b ∧ SWK enc k w blk off d' w' := by
  have hu := Try.underlying64
  have hne : w.heap.size ≠ blk := by omega
  go_enter Try.func40, Try.ntmps40
  go_wp2
  go_loopg [8, 9] (b - a) (fun kx s8 s9 wr => ∃ i j : Nat, s8 = .int .i64 i ∧ s9 = .int .i64 j ∧ 0 < i ∧ 0 < j ∧ i ≤ m ∧ m + j ≤ d.size ∧ i + j ≤ kx ∧ ∃ (dk : Array α), dk.size = d.size ∧ Aside (RotInv (fun t => if a ≤ t ∧ t < a + (b - m) then d[t + (m - a)]! else if a + (b - m) ≤ t ∧ t < b then d[t - (b - m)]! else d[t]!) dk m i j) ∧ Aside (SWK enc k w blk off dk wr) ∧ wr.cell? ⟨w.heap.size, 0, none⟩ = some (.func lf la lb) ∧ wr.cell? ⟨w.heap.size, 1, none⟩ = some (.func (.func sf) #[] sb) ∧ w.heap.size < wr.heap.size)
  case atStart => exact ⟨m - a, b - m, by go_num, by go_num, by omega, by omega, by omega, by omega, by omega, d, rfl, fun t => by rw [show m - (m - a) = a by omega, show m + (b - m) = b by omega], (SWK.start hH).alloc _, by simp, by simp, by simp⟩
  case round =>
    obtain ⟨i, j, rfl, rfl, hi0, hj0, him, hjm, hkx, dk, hds, HI, S, c0, c1, hsz1⟩ := hrel
    have step : ∀ w1 dk', dk'.size = dk.size → SWK enc k wr blk off dk' w1 → Aside (SWK enc k w blk off dk' w1) ∧ w1.cell? ⟨w.heap.size, 0, none⟩ = some (.func lf la lb) ∧ w1.cell? ⟨w.heap.size, 1, none⟩ = some (.func (.func sf) #[] sb) ∧ w.heap.size < w1.heap.size := fun w1 dk' hs' S' =>
      ⟨SWK.trans S.out S' hblk hs', by rw [cell_other enc k wr blk off dk' w1 S' _ hne hsz1]; exact c0, by rw [cell_other enc k wr blk off dk' w1 S' _ hne hsz1]; exact c1, Nat.lt_of_lt_of_le hsz1 S'.le⟩
    have STEP : Hid _ := step
    have hswap' : SwapSwapsK Try.prog sf sb enc k blk off dk.size := by rw [hds]; exact hswap
    have hHk := S.out.holds hblk hH hds
    have hbk := S.out.lt hblk
    by_cases hij : j < i
    · have hc := swapRange_calls enc k hk lf la lb sf sb blk off (m - i) m j dk wr hswap' hHk hbk (by omega) (by omega) (by omega)
      rw [show ((m - i : Nat) : Int) = (m : Int) - (i : Int) by omega] at hc
      clear S step hswap hswap' hH hHk
      go_wp2_with (go_at_fn 41)
      refine hc.mono ?_
      rintro e w1 ⟨rfl, d1, hd1, hS1⟩
      obtain ⟨S1, e0, e1, hz⟩ := STEP.out w1 d1 hd1.size hS1
      have HS1 : Aside _ := hS1
      have HD1 : Aside _ := hd1
      clear hS1 hd1
      go_wp2
      go_roundg (i - j + j)
      case measure => omega
      case rel => exact ⟨i - j, j, by go_num, rfl, by omega, hj0, by omega, hjm, by omega, d1, by rw [HD1.out.size, hds], RotInv.left HI him hij HD1.out, S1, e0, e1, hz⟩
    · by_cases hij2 : i < j
      · have hc := swapRange_calls enc k hk lf la lb sf sb blk off (m - i) (m + j - i) i dk wr hswap' hHk hbk (by omega) (by omega) (by omega)
        rw [show ((m - i : Nat) : Int) = (m : Int) - (i : Int) by omega, show ((m + j - i : Nat) : Int) = (m : Int) + (j : Int) - (i : Int) by omega] at hc
        clear S step hswap hswap' hH hHk
        go_wp2_with (go_at_fn 41)
        refine hc.mono ?_
        rintro e w1 ⟨rfl, d1, hd1, hS1⟩
        obtain ⟨S1, e0, e1, hz⟩ := STEP.out w1 d1 hd1.size hS1
        have HS1 : Aside _ := hS1
        have HD1 : Aside _ := hd1
        clear hS1 hd1
        go_wp2
        go_roundg (i + (j - i))
        case measure => omega
        case rel => exact ⟨i, j - i, rfl, by go_num, hi0, by omega, him, by omega, by omega, d1, by rw [HD1.out.size, hds], RotInv.right HI him hij2 HD1.out, S1, e0, e1, hz⟩
      · have e : i = j := by omega
        subst e
        have hc := swapRange_calls enc k hk lf la lb sf sb blk off (m - i) m i dk wr hswap' hHk hbk (by omega) (by omega) (by omega)
        rw [show ((m - i : Nat) : Int) = (m : Int) - (i : Int) by omega] at hc
        clear S step hswap hswap' hH hHk
        go_wp2_with (go_at_fn 41)
        refine hc.mono ?_
        rintro e w1 ⟨rfl, d1, hd1, hS1⟩
        obtain ⟨S1, e0, e1, hz⟩ := STEP.out w1 d1 hd1.size hS1
        have HS1 : Aside _ := hS1
        have HD1 : Aside _ := hd1
        clear hS1 hd1
        go_wp2
        go_end0
        exact ⟨rfl, d1, ⟨by rw [HD1.out.size, hds], fun t => RotInv.last HI him HD1.out t⟩, S1⟩
#print axioms rotate_calls
end Go.Proofs.Ytipkcbpilkoflaa.Stab
