-- Written by a program of this session (wip/printer.py of the repo) out of the translation.
import Derived.Test.YtjcghbgcnofchaaQSteppingComparesx0
namespace Go.Proofs.Ytjcghbgcnofchaa.QSteppingCompares
open Go.RowKit Go.Proofs.YtjcghbgcnofchaaW.PrintWords Go.Proofs.YtjcghbgcnofchaaW.PrintLast Go.Proofs.YtjcghbgcnofchaaW.PrintMore
attribute [local go_sem] max2_int min2_int max_two min_two max_three min_three max_four min_four   -- for this text's walks alone
set_option linter.unusedVariables false
set_option linter.unusedSimpArgs false

/-! ### stepping_Nested: function 9 -/
mutual
def stepping_Nested.j0 : Nat → Bool → Int → Int → List (S71) → List (S73) → List (S51) → Int → Int → Int → Int → Int → Int → Option (Bool)
  | 0, _, _, _, _, _, _, _, _, _, _, _, _ => none
  | k + 1, x38, x123000, x123001, x123002, x123003, x123004, x124000, x124001, x124002, x125000, x125001, x125002 => if x38 = true then (some false) else (if 0 ≤ x124001 then (if x124001 < (x123004.length : Int) then (if x125002 < 0 then (stepping_Nested.j1 k ((rd_T51 x123004 x124001).f5) true x124000 x124001 x124002 x125000 x125001 x125002) else (stepping_Nested.j1 k ((rd_T51 x123004 x124001).f5) (decide (x125002 ≥ (((rd_T51 x123004 x124001).f5).length : Int))) x124000 x124001 x124002 x125000 x125001 x125002)) else (none)) else (none))
def stepping_Nested.j1 : Nat → List (S42) → Bool → Int → Int → Int → Int → Int → Int → Option (Bool)
  | 0, _, _, _, _, _, _, _, _ => none
  | k + 1, x7, x55, x124000, x124001, x124002, x125000, x125001, x125002 => if x55 = true then (some false) else (stepping_Nested.l0 k x7 x124002 (x7.length : Int) 0 x125000 x125001 x125002)
def stepping_Nested.l0 : Nat → List (S42) → Int → Int → Int → Int → Int → Int → Option (Bool)
  | 0, _, _, _, _, _, _, _ => none
  | k + 1, x7, x8, x59, x60, x125000, x125001, x125002 => if x60 < x59 then (if x8 < 0 then (stepping_Nested.j3 k x7 x8 x59 x60 true x125000 x125001 x125002) else (stepping_Nested.j3 k x7 x8 x59 x60 (decide (x8 ≥ (x7.length : Int))) x125000 x125001 x125002)) else (some false)
def stepping_Nested.j3 : Nat → List (S42) → Int → Int → Int → Bool → Int → Int → Int → Option (Bool)
  | 0, _, _, _, _, _, _, _, _ => none
  | k + 1, x7, x8, x59, x60, x69, x125000, x125001, x125002 => if x69 = true then (some false) else (if 0 ≤ x8 then (if x8 < (x7.length : Int) then (if ((rd_T42 x7 x8).f0) = x125002 then (some true) else (stepping_Nested.l0 k x7 ((rd_T42 x7 x8).f0) x59 (wrap64 (x60 + 1)) x125000 x125001 x125002)) else (none)) else (none))
end
def stepping_Nested.f (k : Nat) (a0_0 : Int) (a0_1 : Int) (l0_2 : List (S71)) (l0_3 : List (S73)) (l0_4 : List (S51)) (a1_0 : Int) (a1_1 : Int) (a1_2 : Int) (a2_0 : Int) (a2_1 : Int) (a2_2 : Int) : Option (Bool) := if a1_0 < a2_0 then (some true) else (if a1_0 = a2_0 then (if a1_1 = a2_1 then (if a1_1 < 0 then (stepping_Nested.j0 k true a0_0 a0_1 l0_2 l0_3 l0_4 a1_0 a1_1 a1_2 a2_0 a2_1 a2_2) else (stepping_Nested.j0 k (decide (a1_1 ≥ (l0_4.length : Int))) a0_0 a0_1 l0_2 l0_3 l0_4 a1_0 a1_1 a1_2 a2_0 a2_1 a2_2)) else (stepping_Nested.j0 k true a0_0 a0_1 l0_2 l0_3 l0_4 a1_0 a1_1 a1_2 a2_0 a2_1 a2_2)) else (stepping_Nested.j0 k true a0_0 a0_1 l0_2 l0_3 l0_4 a1_0 a1_1 a1_2 a2_0 a2_1 a2_2))
theorem stepping_Nested.mono_l : ∀ k, (∀ y0 y1 y2 y3 y4 y5 y6 y7 y8 y9 y10 y11, LeO (stepping_Nested.j0 k y0 y1 y2 y3 y4 y5 y6 y7 y8 y9 y10 y11) (stepping_Nested.j0 (k + 1) y0 y1 y2 y3 y4 y5 y6 y7 y8 y9 y10 y11)) ∧ (∀ y0 y1 y2 y3 y4 y5 y6 y7, LeO (stepping_Nested.j1 k y0 y1 y2 y3 y4 y5 y6 y7) (stepping_Nested.j1 (k + 1) y0 y1 y2 y3 y4 y5 y6 y7)) ∧ (∀ y0 y1 y2 y3 y4 y5 y6, LeO (stepping_Nested.l0 k y0 y1 y2 y3 y4 y5 y6) (stepping_Nested.l0 (k + 1) y0 y1 y2 y3 y4 y5 y6)) ∧ (∀ y0 y1 y2 y3 y4 y5 y6 y7, LeO (stepping_Nested.j3 k y0 y1 y2 y3 y4 y5 y6 y7) (stepping_Nested.j3 (k + 1) y0 y1 y2 y3 y4 y5 y6 y7))
  | 0 => ⟨fun _ _ _ _ _ _ _ _ _ _ _ _ r h => by simp [stepping_Nested.j0] at h, fun _ _ _ _ _ _ _ _ r h => by simp [stepping_Nested.j1] at h, fun _ _ _ _ _ _ _ r h => by simp [stepping_Nested.l0] at h, fun _ _ _ _ _ _ _ _ r h => by simp [stepping_Nested.j3] at h⟩
  | k + 1 => by
    obtain ⟨ih0, ih1, ih2, ih3⟩ := stepping_Nested.mono_l k
    refine ⟨?_, ?_, ?_, ?_⟩
    · intro y0 y1 y2 y3 y4 y5 y6 y7 y8 y9 y10 y11
      unfold stepping_Nested.j0
      repeat' first
      | (with_reducible exact ih0 _ _ _ _ _ _ _ _ _ _ _ _)
      | (with_reducible exact ih1 _ _ _ _ _ _ _ _)
      | (with_reducible exact ih2 _ _ _ _ _ _ _)
      | (with_reducible exact ih3 _ _ _ _ _ _ _ _)
      | (with_reducible exact LeO.refl _)
      | (with_reducible exact LeO.none _)
      | (with_reducible refine LeO.ite ?_ ?_)
      | (with_reducible refine LeO.bind ?_ (fun _ => ?_))
      | exact ih0 _ _ _ _ _ _ _ _ _ _ _ _
      | exact ih1 _ _ _ _ _ _ _ _
      | exact ih2 _ _ _ _ _ _ _
      | exact ih3 _ _ _ _ _ _ _ _
      | exact LeO.none _
      | refine LeO.ite ?_ ?_
      | refine LeO.bind ?_ (fun _ => ?_)
    · intro y0 y1 y2 y3 y4 y5 y6 y7
      unfold stepping_Nested.j1
      repeat' first
      | (with_reducible exact ih0 _ _ _ _ _ _ _ _ _ _ _ _)
      | (with_reducible exact ih1 _ _ _ _ _ _ _ _)
      | (with_reducible exact ih2 _ _ _ _ _ _ _)
      | (with_reducible exact ih3 _ _ _ _ _ _ _ _)
      | (with_reducible exact LeO.refl _)
      | (with_reducible exact LeO.none _)
      | (with_reducible refine LeO.ite ?_ ?_)
      | (with_reducible refine LeO.bind ?_ (fun _ => ?_))
      | exact ih0 _ _ _ _ _ _ _ _ _ _ _ _
      | exact ih1 _ _ _ _ _ _ _ _
      | exact ih2 _ _ _ _ _ _ _
      | exact ih3 _ _ _ _ _ _ _ _
      | exact LeO.none _
      | refine LeO.ite ?_ ?_
      | refine LeO.bind ?_ (fun _ => ?_)
    · intro y0 y1 y2 y3 y4 y5 y6
      unfold stepping_Nested.l0
      repeat' first
      | (with_reducible exact ih0 _ _ _ _ _ _ _ _ _ _ _ _)
      | (with_reducible exact ih1 _ _ _ _ _ _ _ _)
      | (with_reducible exact ih2 _ _ _ _ _ _ _)
      | (with_reducible exact ih3 _ _ _ _ _ _ _ _)
      | (with_reducible exact LeO.refl _)
      | (with_reducible exact LeO.none _)
      | (with_reducible refine LeO.ite ?_ ?_)
      | (with_reducible refine LeO.bind ?_ (fun _ => ?_))
      | exact ih0 _ _ _ _ _ _ _ _ _ _ _ _
      | exact ih1 _ _ _ _ _ _ _ _
      | exact ih2 _ _ _ _ _ _ _
      | exact ih3 _ _ _ _ _ _ _ _
      | exact LeO.none _
      | refine LeO.ite ?_ ?_
      | refine LeO.bind ?_ (fun _ => ?_)
    · intro y0 y1 y2 y3 y4 y5 y6 y7
      unfold stepping_Nested.j3
      repeat' first
      | (with_reducible exact ih0 _ _ _ _ _ _ _ _ _ _ _ _)
      | (with_reducible exact ih1 _ _ _ _ _ _ _ _)
      | (with_reducible exact ih2 _ _ _ _ _ _ _)
      | (with_reducible exact ih3 _ _ _ _ _ _ _ _)
      | (with_reducible exact LeO.refl _)
      | (with_reducible exact LeO.none _)
      | (with_reducible refine LeO.ite ?_ ?_)
      | (with_reducible refine LeO.bind ?_ (fun _ => ?_))
      | exact ih0 _ _ _ _ _ _ _ _ _ _ _ _
      | exact ih1 _ _ _ _ _ _ _ _
      | exact ih2 _ _ _ _ _ _ _
      | exact ih3 _ _ _ _ _ _ _ _
      | exact LeO.none _
      | refine LeO.ite ?_ ?_
      | refine LeO.bind ?_ (fun _ => ?_)
theorem stepping_Nested.mono : ∀ a0 a1 a2 a3 a4 a5 a6 a7 a8 a9 a10 k, LeO (stepping_Nested.f k a0 a1 a2 a3 a4 a5 a6 a7 a8 a9 a10) (stepping_Nested.f (k + 1) a0 a1 a2 a3 a4 a5 a6 a7 a8 a9 a10) := by
  intro a0 a1 a2 a3 a4 a5 a6 a7 a8 a9 a10 k
  obtain ⟨ih0, ih1, ih2, ih3⟩ := stepping_Nested.mono_l k
  unfold stepping_Nested.f
  repeat' first
      | (with_reducible exact ih0 _ _ _ _ _ _ _ _ _ _ _ _)
      | (with_reducible exact ih1 _ _ _ _ _ _ _ _)
      | (with_reducible exact ih2 _ _ _ _ _ _ _)
      | (with_reducible exact ih3 _ _ _ _ _ _ _ _)
      | (with_reducible exact LeO.refl _)
      | (with_reducible exact LeO.none _)
      | (with_reducible refine LeO.ite ?_ ?_)
      | (with_reducible refine LeO.bind ?_ (fun _ => ?_))
      | exact ih0 _ _ _ _ _ _ _ _ _ _ _ _
      | exact ih1 _ _ _ _ _ _ _ _
      | exact ih2 _ _ _ _ _ _ _
      | exact ih3 _ _ _ _ _ _ _ _
      | exact LeO.none _
      | refine LeO.ite ?_ ?_
      | refine LeO.bind ?_ (fun _ => ?_)
set_option maxHeartbeats 8000000 in
set_option maxRecDepth 100000 in
theorem stepping_Nested.calls (k : Nat) (a0_0 : Int) (a0_1 : Int) (A0_2 : Option Addr) (c0_2 : Nat) (l0_2 : List (S71)) (A0_3 : Option Addr) (c0_3 : Nat) (l0_3 : List (S73)) (A0_4 : Option Addr) (c0_4 : Nat) (l0_4 : List (S51)) (a1_0 : Int) (a1_1 : Int) (a1_2 : Int) (a2_0 : Int) (a2_1 : Int) (a2_2 : Int) (r : Bool) (w : World) (hr0_2 : Kd.C k71 w A0_2 l0_2.length l0_2) (hc0_2 : l0_2.length ≤ c0_2) (hr0_3 : Kd.C k73 w A0_3 l0_3.length l0_3) (hc0_3 : l0_3.length ≤ c0_3) (hr0_4 : Kd.C k51 w A0_4 l0_4.length l0_4) (hc0_4 : l0_4.length ≤ c0_4) (h : stepping_Nested.f k a0_0 a0_1 l0_2 l0_3 l0_4 a1_0 a1_1 a1_2 a2_0 a2_1 a2_2 = some r) :
    Calls Try.prog 9 #[.agg #[.int .i64 a0_0, .int .i64 a0_1, .slice A0_2 l0_2.length c0_2, .slice A0_3 l0_3.length c0_3, .slice A0_4 l0_4.length c0_4], .agg #[.int .i64 a1_0, .int .i64 a1_1, .int .i64 a1_2], .agg #[.int .i64 a2_0, .int .i64 a2_1, .int .i64 a2_2]] w fun e w' => e = .returned (.bool r) ∧ Below w.heap.size w w' := by
  have hu29 := Try.underlying29
  have hu24 := Try.underlying24
  have HR0_2 := Aside0.mk hr0_2
  have HC0_2 := Aside0.mk hc0_2
  clear hr0_2 hc0_2
  have HR0_3 := Aside0.mk hr0_3
  have HC0_3 := Aside0.mk hc0_3
  clear hr0_3 hc0_3
  have HR0_4 := Aside0.mk hr0_4
  have HC0_4 := Aside0.mk hc0_4
  clear hr0_4 hc0_4
  have HB := Aside0.mk (Below.refl w.heap.size w)
  have H : (if a1_0 < a2_0 then (some true) else (if a1_0 = a2_0 then (if a1_1 = a2_1 then (if a1_1 < 0 then (stepping_Nested.j0 k true a0_0 a0_1 l0_2 l0_3 l0_4 a1_0 a1_1 a1_2 a2_0 a2_1 a2_2) else (stepping_Nested.j0 k (decide (a1_1 ≥ (l0_4.length : Int))) a0_0 a0_1 l0_2 l0_3 l0_4 a1_0 a1_1 a1_2 a2_0 a2_1 a2_2)) else (stepping_Nested.j0 k true a0_0 a0_1 l0_2 l0_3 l0_4 a1_0 a1_1 a1_2 a2_0 a2_1 a2_2)) else (stepping_Nested.j0 k true a0_0 a0_1 l0_2 l0_3 l0_4 a1_0 a1_1 a1_2 a2_0 a2_1 a2_2))) = some r := h
  clear h
  by_cases c4 : a1_0 < a2_0
  · rw [if_pos c4] at H
    have c4b0 : decide (a1_0 < a2_0) = true := decide_eq_true c4
    clear c4
    obtain rfl := Option.some.inj H
    go_enter Try.func9, Try.ntmps9
    go_wp2_with (first | ((with_reducible refine gate_dst (N := 3) rfl ?_); (try (refine gate_guard (by rfl) ?_; dsimp only)); refine box_event ?hg (N := 3) ?hd (cs := #[.int .i64 a0_0, .int .i64 a0_1, .slice A0_2 l0_2.length c0_2, .slice A0_3 l0_3.length c0_3, .slice A0_4 l0_4.length c0_4]) (t := 29) ?hr ?_; (case hd => rfl); (case hg => rfl); (case hr => first | (go_simp; done) | (go_simp; rfl)); intro gb122 hg w5 hbox hb; have n0_ := Aside0.mk (below_step (by repeat (first | (with_reducible first | exact HB.out | apply below_alloc | apply pw_below_drewN | apply below_drew1) | exact HB.out)) hb); have n1_ := Aside0.mk (hbox); have n2_ := Aside0.mk ((by rw [hg]; exact (below_size (by repeat (first | (with_reducible first | exact HB.out | apply below_alloc | apply pw_below_drewN | apply below_drew1) | exact HB.out))) : w.heap.size ≤ gb122)); have n3_ := Aside0.mk ((by rw [hg]; exact (below_size (by repeat (first | (with_reducible first | exact HB.out | apply below_alloc | apply pw_below_drewN | apply below_drew1) | exact HB.out))) : w.heap.size ≤ gb122)); clear HB; have HB := n0_; have BK122 := n1_; have GW122 := n2_; have GE122 := n3_; clear n0_ n1_ n2_ n3_; clear hb hbox hg) | ((with_reducible refine gate_dst (N := 4) rfl ?_); (try (refine gate_guard (by rfl) ?_; dsimp only)); refine box_event ?hg (N := 4) ?hd (cs := #[.int .i64 a1_0, .int .i64 a1_1, .int .i64 a1_2]) (t := 24) ?hr ?_; (case hd => rfl); (case hg => rfl); (case hr => first | (go_simp; done) | (go_simp; rfl)); intro gb123 hg w6 hbox hb; have n0_ := Aside0.mk (blk_below (g := gb122) (o := .cells #[.int .i64 a0_0, .int .i64 a0_1, .slice A0_2 l0_2.length c0_2, .slice A0_3 l0_3.length c0_3, .slice A0_4 l0_4.length c0_4] 29 (0, 0)) (by (with_reducible repeat (first | refine blk_drewN ?_ _ | refine blk_drew ?_ | refine blk_alloc ?_ _)); exact BK122.out) hb); have n1_ := Aside0.mk (below_step (by repeat (first | (with_reducible first | exact HB.out | apply below_alloc | apply pw_below_drewN | apply below_drew1 | refine below_set ?_ GE122.out) | exact HB.out)) hb); have n2_ := Aside0.mk (hbox); have n3_ := Aside0.mk ((by rw [hg]; exact (below_size (by repeat (first | (with_reducible first | exact HB.out | apply below_alloc | apply pw_below_drewN | apply below_drew1 | refine below_set ?_ GE122.out) | exact HB.out))) : w.heap.size ≤ gb123)); have n4_ := Aside0.mk ((by rw [hg]; exact (below_size (by repeat (first | (with_reducible first | exact HB.out | apply below_alloc | apply pw_below_drewN | apply below_drew1 | refine below_set ?_ GE122.out) | exact HB.out))) : w.heap.size ≤ gb123)); have n5_ := Aside0.mk ((by rw [hg]; exact Nat.ne_of_lt (blk_lt (g := gb122) (o := .cells #[.int .i64 a0_0, .int .i64 a0_1, .slice A0_2 l0_2.length c0_2, .slice A0_3 l0_3.length c0_3, .slice A0_4 l0_4.length c0_4] 29 (0, 0)) (by (with_reducible repeat (first | refine blk_drewN ?_ _ | refine blk_drew ?_ | refine blk_alloc ?_ _)); exact BK122.out)) : gb122 ≠ gb123)); have n6_ := Aside0.mk ((by rw [hg]; exact Nat.ne_of_gt (blk_lt (g := gb122) (o := .cells #[.int .i64 a0_0, .int .i64 a0_1, .slice A0_2 l0_2.length c0_2, .slice A0_3 l0_3.length c0_3, .slice A0_4 l0_4.length c0_4] 29 (0, 0)) (by (with_reducible repeat (first | refine blk_drewN ?_ _ | refine blk_drew ?_ | refine blk_alloc ?_ _)); exact BK122.out)) : gb123 ≠ gb122)); clear BK122; clear HB; have BK122 := n0_; have HB := n1_; have BK123 := n2_; have GW123 := n3_; have GE123 := n4_; have NB122_123 := n5_; have NB123_122 := n6_; clear n0_ n1_ n2_ n3_ n4_ n5_ n6_; clear hb hbox hg) | ((with_reducible refine gate_dst (N := 5) rfl ?_); (try (refine gate_guard (by rfl) ?_; dsimp only)); refine box_event ?hg (N := 5) ?hd (cs := #[.int .i64 a2_0, .int .i64 a2_1, .int .i64 a2_2]) (t := 24) ?hr ?_; (case hd => rfl); (case hg => rfl); (case hr => first | (go_simp; done) | (go_simp; rfl)); intro gb124 hg w7 hbox hb; have n0_ := Aside0.mk (blk_below (g := gb122) (o := .cells #[.int .i64 a0_0, .int .i64 a0_1, .slice A0_2 l0_2.length c0_2, .slice A0_3 l0_3.length c0_3, .slice A0_4 l0_4.length c0_4] 29 (0, 0)) (by (with_reducible repeat (first | refine blk_drewN ?_ _ | refine blk_drew ?_ | refine blk_alloc ?_ _)); exact BK122.out) hb); have n1_ := Aside0.mk (blk_below (g := gb123) (o := .cells #[.int .i64 a1_0, .int .i64 a1_1, .int .i64 a1_2] 24 (0, 0)) (by (with_reducible repeat (first | refine blk_drewN ?_ _ | refine blk_drew ?_ | refine blk_alloc ?_ _)); exact BK123.out) hb); have n2_ := Aside0.mk (below_step (by repeat (first | (with_reducible first | exact HB.out | apply below_alloc | apply pw_below_drewN | apply below_drew1 | refine below_set ?_ GE122.out | refine below_set ?_ GE123.out) | exact HB.out)) hb); have n3_ := Aside0.mk (hbox); have n4_ := Aside0.mk ((by rw [hg]; exact (below_size (by repeat (first | (with_reducible first | exact HB.out | apply below_alloc | apply pw_below_drewN | apply below_drew1 | refine below_set ?_ GE122.out | refine below_set ?_ GE123.out) | exact HB.out))) : w.heap.size ≤ gb124)); have n5_ := Aside0.mk ((by rw [hg]; exact (below_size (by repeat (first | (with_reducible first | exact HB.out | apply below_alloc | apply pw_below_drewN | apply below_drew1 | refine below_set ?_ GE122.out | refine below_set ?_ GE123.out) | exact HB.out))) : w.heap.size ≤ gb124)); have n6_ := Aside0.mk ((by rw [hg]; exact Nat.ne_of_lt (blk_lt (g := gb122) (o := .cells #[.int .i64 a0_0, .int .i64 a0_1, .slice A0_2 l0_2.length c0_2, .slice A0_3 l0_3.length c0_3, .slice A0_4 l0_4.length c0_4] 29 (0, 0)) (by (with_reducible repeat (first | refine blk_drewN ?_ _ | refine blk_drew ?_ | refine blk_alloc ?_ _)); exact BK122.out)) : gb122 ≠ gb124)); have n7_ := Aside0.mk ((by rw [hg]; exact Nat.ne_of_gt (blk_lt (g := gb122) (o := .cells #[.int .i64 a0_0, .int .i64 a0_1, .slice A0_2 l0_2.length c0_2, .slice A0_3 l0_3.length c0_3, .slice A0_4 l0_4.length c0_4] 29 (0, 0)) (by (with_reducible repeat (first | refine blk_drewN ?_ _ | refine blk_drew ?_ | refine blk_alloc ?_ _)); exact BK122.out)) : gb124 ≠ gb122)); have n8_ := Aside0.mk ((by rw [hg]; exact Nat.ne_of_lt (blk_lt (g := gb123) (o := .cells #[.int .i64 a1_0, .int .i64 a1_1, .int .i64 a1_2] 24 (0, 0)) (by (with_reducible repeat (first | refine blk_drewN ?_ _ | refine blk_drew ?_ | refine blk_alloc ?_ _)); exact BK123.out)) : gb123 ≠ gb124)); have n9_ := Aside0.mk ((by rw [hg]; exact Nat.ne_of_gt (blk_lt (g := gb123) (o := .cells #[.int .i64 a1_0, .int .i64 a1_1, .int .i64 a1_2] 24 (0, 0)) (by (with_reducible repeat (first | refine blk_drewN ?_ _ | refine blk_drew ?_ | refine blk_alloc ?_ _)); exact BK123.out)) : gb124 ≠ gb123)); clear BK122; clear BK123; clear HB; have BK122 := n0_; have BK123 := n1_; have HB := n2_; have BK124 := n3_; have GW124 := n4_; have GE124 := n5_; have NB122_124 := n6_; have NB124_122 := n7_; have NB123_124 := n8_; have NB124_123 := n9_; clear n0_ n1_ n2_ n3_ n4_ n5_ n6_ n7_ n8_ n9_; clear hb hbox hg; have hnb8 := NB123_122.out; have hnc8 := NB122_123.out; have hnb9 := NB123_124.out; have hnc9 := NB124_123.out; have hcz10_0 : w7.cell? ⟨gb123, 0, none⟩ = some (.int .i64 a1_0) := (blk_cell BK123.out 0).trans rfl; have hcz10_1 : w7.cell? ⟨gb123, 1, none⟩ = some (.int .i64 a1_1) := (blk_cell BK123.out 1).trans rfl; have hcz10_2 : w7.cell? ⟨gb123, 2, none⟩ = some (.int .i64 a1_2) := (blk_cell BK123.out 2).trans rfl; have hfz10_0 := blk_frozen BK123.out 0; have hfz10_1 := blk_frozen BK123.out 1; have hfz10_2 := blk_frozen BK123.out 2; have hnb11 := NB124_122.out; have hnc11 := NB122_124.out; have hcz12_0 : w7.cell? ⟨gb124, 0, none⟩ = some (.int .i64 a2_0) := (blk_cell BK124.out 0).trans rfl; have hcz12_1 : w7.cell? ⟨gb124, 1, none⟩ = some (.int .i64 a2_1) := (blk_cell BK124.out 1).trans rfl; have hcz12_2 : w7.cell? ⟨gb124, 2, none⟩ = some (.int .i64 a2_2) := (blk_cell BK124.out 2).trans rfl; have hfz12_0 := blk_frozen BK124.out 0; have hfz12_1 := blk_frozen BK124.out 1; have hfz12_2 := blk_frozen BK124.out 2))
    go_ret
    exact ⟨by first | rfl | (simp [errW_none, errW_some] <;> rfl) | (simp [*, errW_none, errW_some] <;> rfl), by repeat (first | (with_reducible first | exact HB.out | apply below_alloc | apply pw_below_drewN | apply below_drew1 | refine below_set ?_ GE122.out | refine below_set ?_ GE123.out | refine below_set ?_ GE124.out) | exact HB.out)⟩
  · rw [if_neg c4] at H
    have c4b0 : decide (a1_0 < a2_0) = false := decide_eq_false c4
    clear c4
    have HC13 := Aside0.mk H
    clear H
    go_enter Try.func9, Try.ntmps9
    go_upto_region 3 with (first | ((with_reducible refine gate_dst (N := 3) rfl ?_); (try (refine gate_guard (by rfl) ?_; dsimp only)); refine box_event ?hg (N := 3) ?hd (cs := #[.int .i64 a0_0, .int .i64 a0_1, .slice A0_2 l0_2.length c0_2, .slice A0_3 l0_3.length c0_3, .slice A0_4 l0_4.length c0_4]) (t := 29) ?hr ?_; (case hd => rfl); (case hg => rfl); (case hr => first | (go_simp; done) | (go_simp; rfl)); intro gb122 hg w14 hbox hb; have n0_ := Aside0.mk (below_step (by repeat (first | (with_reducible first | exact HB.out | apply below_alloc | apply pw_below_drewN | apply below_drew1) | exact HB.out)) hb); have n1_ := Aside0.mk (hbox); have n2_ := Aside0.mk ((by rw [hg]; exact (below_size (by repeat (first | (with_reducible first | exact HB.out | apply below_alloc | apply pw_below_drewN | apply below_drew1) | exact HB.out))) : w.heap.size ≤ gb122)); have n3_ := Aside0.mk ((by rw [hg]; exact (below_size (by repeat (first | (with_reducible first | exact HB.out | apply below_alloc | apply pw_below_drewN | apply below_drew1) | exact HB.out))) : w.heap.size ≤ gb122)); clear HB; have HB := n0_; have BK122 := n1_; have GW122 := n2_; have GE122 := n3_; clear n0_ n1_ n2_ n3_; clear hb hbox hg) | ((with_reducible refine gate_dst (N := 4) rfl ?_); (try (refine gate_guard (by rfl) ?_; dsimp only)); refine box_event ?hg (N := 4) ?hd (cs := #[.int .i64 a1_0, .int .i64 a1_1, .int .i64 a1_2]) (t := 24) ?hr ?_; (case hd => rfl); (case hg => rfl); (case hr => first | (go_simp; done) | (go_simp; rfl)); intro gb123 hg w15 hbox hb; have n0_ := Aside0.mk (blk_below (g := gb122) (o := .cells #[.int .i64 a0_0, .int .i64 a0_1, .slice A0_2 l0_2.length c0_2, .slice A0_3 l0_3.length c0_3, .slice A0_4 l0_4.length c0_4] 29 (0, 0)) (by (with_reducible repeat (first | refine blk_drewN ?_ _ | refine blk_drew ?_ | refine blk_alloc ?_ _)); exact BK122.out) hb); have n1_ := Aside0.mk (below_step (by repeat (first | (with_reducible first | exact HB.out | apply below_alloc | apply pw_below_drewN | apply below_drew1 | refine below_set ?_ GE122.out) | exact HB.out)) hb); have n2_ := Aside0.mk (hbox); have n3_ := Aside0.mk ((by rw [hg]; exact (below_size (by repeat (first | (with_reducible first | exact HB.out | apply below_alloc | apply pw_below_drewN | apply below_drew1 | refine below_set ?_ GE122.out) | exact HB.out))) : w.heap.size ≤ gb123)); have n4_ := Aside0.mk ((by rw [hg]; exact (below_size (by repeat (first | (with_reducible first | exact HB.out | apply below_alloc | apply pw_below_drewN | apply below_drew1 | refine below_set ?_ GE122.out) | exact HB.out))) : w.heap.size ≤ gb123)); have n5_ := Aside0.mk ((by rw [hg]; exact Nat.ne_of_lt (blk_lt (g := gb122) (o := .cells #[.int .i64 a0_0, .int .i64 a0_1, .slice A0_2 l0_2.length c0_2, .slice A0_3 l0_3.length c0_3, .slice A0_4 l0_4.length c0_4] 29 (0, 0)) (by (with_reducible repeat (first | refine blk_drewN ?_ _ | refine blk_drew ?_ | refine blk_alloc ?_ _)); exact BK122.out)) : gb122 ≠ gb123)); have n6_ := Aside0.mk ((by rw [hg]; exact Nat.ne_of_gt (blk_lt (g := gb122) (o := .cells #[.int .i64 a0_0, .int .i64 a0_1, .slice A0_2 l0_2.length c0_2, .slice A0_3 l0_3.length c0_3, .slice A0_4 l0_4.length c0_4] 29 (0, 0)) (by (with_reducible repeat (first | refine blk_drewN ?_ _ | refine blk_drew ?_ | refine blk_alloc ?_ _)); exact BK122.out)) : gb123 ≠ gb122)); clear BK122; clear HB; have BK122 := n0_; have HB := n1_; have BK123 := n2_; have GW123 := n3_; have GE123 := n4_; have NB122_123 := n5_; have NB123_122 := n6_; clear n0_ n1_ n2_ n3_ n4_ n5_ n6_; clear hb hbox hg) | ((with_reducible refine gate_dst (N := 5) rfl ?_); (try (refine gate_guard (by rfl) ?_; dsimp only)); refine box_event ?hg (N := 5) ?hd (cs := #[.int .i64 a2_0, .int .i64 a2_1, .int .i64 a2_2]) (t := 24) ?hr ?_; (case hd => rfl); (case hg => rfl); (case hr => first | (go_simp; done) | (go_simp; rfl)); intro gb124 hg w16 hbox hb; have n0_ := Aside0.mk (blk_below (g := gb122) (o := .cells #[.int .i64 a0_0, .int .i64 a0_1, .slice A0_2 l0_2.length c0_2, .slice A0_3 l0_3.length c0_3, .slice A0_4 l0_4.length c0_4] 29 (0, 0)) (by (with_reducible repeat (first | refine blk_drewN ?_ _ | refine blk_drew ?_ | refine blk_alloc ?_ _)); exact BK122.out) hb); have n1_ := Aside0.mk (blk_below (g := gb123) (o := .cells #[.int .i64 a1_0, .int .i64 a1_1, .int .i64 a1_2] 24 (0, 0)) (by (with_reducible repeat (first | refine blk_drewN ?_ _ | refine blk_drew ?_ | refine blk_alloc ?_ _)); exact BK123.out) hb); have n2_ := Aside0.mk (below_step (by repeat (first | (with_reducible first | exact HB.out | apply below_alloc | apply pw_below_drewN | apply below_drew1 | refine below_set ?_ GE122.out | refine below_set ?_ GE123.out) | exact HB.out)) hb); have n3_ := Aside0.mk (hbox); have n4_ := Aside0.mk ((by rw [hg]; exact (below_size (by repeat (first | (with_reducible first | exact HB.out | apply below_alloc | apply pw_below_drewN | apply below_drew1 | refine below_set ?_ GE122.out | refine below_set ?_ GE123.out) | exact HB.out))) : w.heap.size ≤ gb124)); have n5_ := Aside0.mk ((by rw [hg]; exact (below_size (by repeat (first | (with_reducible first | exact HB.out | apply below_alloc | apply pw_below_drewN | apply below_drew1 | refine below_set ?_ GE122.out | refine below_set ?_ GE123.out) | exact HB.out))) : w.heap.size ≤ gb124)); have n6_ := Aside0.mk ((by rw [hg]; exact Nat.ne_of_lt (blk_lt (g := gb122) (o := .cells #[.int .i64 a0_0, .int .i64 a0_1, .slice A0_2 l0_2.length c0_2, .slice A0_3 l0_3.length c0_3, .slice A0_4 l0_4.length c0_4] 29 (0, 0)) (by (with_reducible repeat (first | refine blk_drewN ?_ _ | refine blk_drew ?_ | refine blk_alloc ?_ _)); exact BK122.out)) : gb122 ≠ gb124)); have n7_ := Aside0.mk ((by rw [hg]; exact Nat.ne_of_gt (blk_lt (g := gb122) (o := .cells #[.int .i64 a0_0, .int .i64 a0_1, .slice A0_2 l0_2.length c0_2, .slice A0_3 l0_3.length c0_3, .slice A0_4 l0_4.length c0_4] 29 (0, 0)) (by (with_reducible repeat (first | refine blk_drewN ?_ _ | refine blk_drew ?_ | refine blk_alloc ?_ _)); exact BK122.out)) : gb124 ≠ gb122)); have n8_ := Aside0.mk ((by rw [hg]; exact Nat.ne_of_lt (blk_lt (g := gb123) (o := .cells #[.int .i64 a1_0, .int .i64 a1_1, .int .i64 a1_2] 24 (0, 0)) (by (with_reducible repeat (first | refine blk_drewN ?_ _ | refine blk_drew ?_ | refine blk_alloc ?_ _)); exact BK123.out)) : gb123 ≠ gb124)); have n9_ := Aside0.mk ((by rw [hg]; exact Nat.ne_of_gt (blk_lt (g := gb123) (o := .cells #[.int .i64 a1_0, .int .i64 a1_1, .int .i64 a1_2] 24 (0, 0)) (by (with_reducible repeat (first | refine blk_drewN ?_ _ | refine blk_drew ?_ | refine blk_alloc ?_ _)); exact BK123.out)) : gb124 ≠ gb123)); clear BK122; clear BK123; clear HB; have BK122 := n0_; have BK123 := n1_; have HB := n2_; have BK124 := n3_; have GW124 := n4_; have GE124 := n5_; have NB122_124 := n6_; have NB124_122 := n7_; have NB123_124 := n8_; have NB124_123 := n9_; clear n0_ n1_ n2_ n3_ n4_ n5_ n6_ n7_ n8_ n9_; clear hb hbox hg; have hnb17 := NB123_122.out; have hnc17 := NB122_123.out; have hnb18 := NB123_124.out; have hnc18 := NB124_123.out; have hcz19_0 : w16.cell? ⟨gb123, 0, none⟩ = some (.int .i64 a1_0) := (blk_cell BK123.out 0).trans rfl; have hcz19_1 : w16.cell? ⟨gb123, 1, none⟩ = some (.int .i64 a1_1) := (blk_cell BK123.out 1).trans rfl; have hcz19_2 : w16.cell? ⟨gb123, 2, none⟩ = some (.int .i64 a1_2) := (blk_cell BK123.out 2).trans rfl; have hfz19_0 := blk_frozen BK123.out 0; have hfz19_1 := blk_frozen BK123.out 1; have hfz19_2 := blk_frozen BK123.out 2; have hnb20 := NB124_122.out; have hnc20 := NB122_124.out; have hcz21_0 : w16.cell? ⟨gb124, 0, none⟩ = some (.int .i64 a2_0) := (blk_cell BK124.out 0).trans rfl; have hcz21_1 : w16.cell? ⟨gb124, 1, none⟩ = some (.int .i64 a2_1) := (blk_cell BK124.out 1).trans rfl; have hcz21_2 : w16.cell? ⟨gb124, 2, none⟩ = some (.int .i64 a2_2) := (blk_cell BK124.out 2).trans rfl; have hfz21_0 := blk_frozen BK124.out 0; have hfz21_1 := blk_frozen BK124.out 1; have hfz21_2 := blk_frozen BK124.out 2))
    (try simp only [Act.put, List.setIfInBounds_toArray, List.set_cons_zero, List.set_cons_succ])
    go_cut [38] (fun v38 wc => ∃ (kq : Nat) (x38_12 : Bool), v38 = .bool x38_12 ∧ Aside0 (stepping_Nested.j0 kq x38_12 a0_0 a0_1 l0_2 l0_3 l0_4 a1_0 a1_1 a1_2 a2_0 a2_1 a2_2 = some r) ∧ Aside0 (kq ≤ k) ∧ Aside0 (wc.heap[gb122]? = some (.cells #[.int .i64 a0_0, .int .i64 a0_1, (.slice A0_2 l0_2.length c0_2), (.slice A0_3 l0_3.length c0_3), (.slice A0_4 l0_4.length c0_4)] 29 (0, 0))) ∧ Aside0 (wc.heap[gb123]? = some (.cells #[.int .i64 a1_0, .int .i64 a1_1, .int .i64 a1_2] 24 (0, 0))) ∧ Aside0 (wc.heap[gb124]? = some (.cells #[.int .i64 a2_0, .int .i64 a2_1, .int .i64 a2_2] 24 (0, 0))) ∧ Aside0 (Below w.heap.size w wc))
    case first =>
      have H := HC13.out
      clear HC13
      by_cases c22 : a1_0 = a2_0
      · rw [if_pos c22] at H
        have c22b0 : (a1_0 == a2_0) = true := beq_iff_eq.mpr c22
        have c22b1 : (a1_0 != a2_0) = false := bne_eq_false_iff_eq.mpr c22
        clear c22
        (first | rw [c22b0] | (simp only [i64_w, i32_w]; rw [c22b0]) | skip)
        by_cases c23 : a1_1 = a2_1
        · rw [if_pos c23] at H
          have c23b0 : (a1_1 == a2_1) = true := beq_iff_eq.mpr c23
          have c23b1 : (a1_1 != a2_1) = false := bne_eq_false_iff_eq.mpr c23
          clear c23
          by_cases c24 : a1_1 < 0
          · rw [if_pos c24] at H
            have c24b0 : decide (a1_1 < 0) = true := decide_eq_true c24
            clear c24
            have H' := Aside0.mk H
            clear H
            have hnb25 := NB123_122.out
            have hnc25 := NB122_123.out
            have hnb26 := NB123_124.out
            have hnc26 := NB124_123.out
            have hcz27_0 : w16.cell? ⟨gb123, 0, none⟩ = some (.int .i64 a1_0) := (blk_cell BK123.out 0).trans rfl
            have hcz27_1 : w16.cell? ⟨gb123, 1, none⟩ = some (.int .i64 a1_1) := (blk_cell BK123.out 1).trans rfl
            have hcz27_2 : w16.cell? ⟨gb123, 2, none⟩ = some (.int .i64 a1_2) := (blk_cell BK123.out 2).trans rfl
            have hfz27_0 := blk_frozen BK123.out 0
            have hfz27_1 := blk_frozen BK123.out 1
            have hfz27_2 := blk_frozen BK123.out 2
            have hnb28 := NB124_122.out
            have hnc28 := NB122_124.out
            have hcz29_0 : w16.cell? ⟨gb124, 0, none⟩ = some (.int .i64 a2_0) := (blk_cell BK124.out 0).trans rfl
            have hcz29_1 : w16.cell? ⟨gb124, 1, none⟩ = some (.int .i64 a2_1) := (blk_cell BK124.out 1).trans rfl
            have hcz29_2 : w16.cell? ⟨gb124, 2, none⟩ = some (.int .i64 a2_2) := (blk_cell BK124.out 2).trans rfl
            have hfz29_0 := blk_frozen BK124.out 0
            have hfz29_1 := blk_frozen BK124.out 1
            have hfz29_2 := blk_frozen BK124.out 2
            go_wp2
            go_meet
            case rel => exact ⟨_, (true), (by first | rfl | (simp; done) | (simp [*]; done)), H', ⟨by first | omega | exact Nat.le_refl _⟩, ⟨by (with_reducible repeat (first | refine blk_drewN ?_ _ | refine blk_drew ?_ | refine blk_alloc ?_ _)); exact BK122.out⟩, ⟨by (with_reducible repeat (first | refine blk_drewN ?_ _ | refine blk_drew ?_ | refine blk_alloc ?_ _)); exact BK123.out⟩, ⟨by (with_reducible repeat (first | refine blk_drewN ?_ _ | refine blk_drew ?_ | refine blk_alloc ?_ _)); exact BK124.out⟩, ⟨by repeat (first | (with_reducible first | exact HB.out | apply below_alloc | apply pw_below_drewN | apply below_drew1 | refine below_set ?_ GE122.out | refine below_set ?_ GE123.out | refine below_set ?_ GE124.out) | exact HB.out)⟩⟩
          · rw [if_neg c24] at H
            have c24b0 : decide (a1_1 < 0) = false := decide_eq_false c24
            clear c24
            have H' := Aside0.mk H
            clear H
            have hnb30 := NB123_122.out
            have hnc30 := NB122_123.out
            have hnb31 := NB123_124.out
            have hnc31 := NB124_123.out
            have hcz32_0 : w16.cell? ⟨gb123, 0, none⟩ = some (.int .i64 a1_0) := (blk_cell BK123.out 0).trans rfl
            have hcz32_1 : w16.cell? ⟨gb123, 1, none⟩ = some (.int .i64 a1_1) := (blk_cell BK123.out 1).trans rfl
            have hcz32_2 : w16.cell? ⟨gb123, 2, none⟩ = some (.int .i64 a1_2) := (blk_cell BK123.out 2).trans rfl
            have hfz32_0 := blk_frozen BK123.out 0
            have hfz32_1 := blk_frozen BK123.out 1
            have hfz32_2 := blk_frozen BK123.out 2
            have hnb33 := NB124_122.out
            have hnc33 := NB122_124.out
            have hcz34_0 : w16.cell? ⟨gb124, 0, none⟩ = some (.int .i64 a2_0) := (blk_cell BK124.out 0).trans rfl
            have hcz34_1 : w16.cell? ⟨gb124, 1, none⟩ = some (.int .i64 a2_1) := (blk_cell BK124.out 1).trans rfl
            have hcz34_2 : w16.cell? ⟨gb124, 2, none⟩ = some (.int .i64 a2_2) := (blk_cell BK124.out 2).trans rfl
            have hfz34_0 := blk_frozen BK124.out 0
            have hfz34_1 := blk_frozen BK124.out 1
            have hfz34_2 := blk_frozen BK124.out 2
            have hcz35_0 : w16.cell? ⟨gb122, 0, none⟩ = some (.int .i64 a0_0) := (blk_cell BK122.out 0).trans rfl
            have hcz35_1 : w16.cell? ⟨gb122, 1, none⟩ = some (.int .i64 a0_1) := (blk_cell BK122.out 1).trans rfl
            have hcz35_2 : w16.cell? ⟨gb122, 2, none⟩ = some (.slice A0_2 l0_2.length c0_2) := (blk_cell BK122.out 2).trans rfl
            have hcz35_3 : w16.cell? ⟨gb122, 3, none⟩ = some (.slice A0_3 l0_3.length c0_3) := (blk_cell BK122.out 3).trans rfl
            have hcz35_4 : w16.cell? ⟨gb122, 4, none⟩ = some (.slice A0_4 l0_4.length c0_4) := (blk_cell BK122.out 4).trans rfl
            have hfz35_0 := blk_frozen BK122.out 0
            have hfz35_1 := blk_frozen BK122.out 1
            have hfz35_2 := blk_frozen BK122.out 2
            have hfz35_3 := blk_frozen BK122.out 3
            have hfz35_4 := blk_frozen BK122.out 4
            go_wp2
            go_meet
            case rel => exact ⟨_, (decide (a1_1 ≥ (l0_4.length : Int))), (by first | rfl | (simp; done) | (simp [*]; done)), H', ⟨by first | omega | exact Nat.le_refl _⟩, ⟨by (with_reducible repeat (first | refine blk_drewN ?_ _ | refine blk_drew ?_ | refine blk_alloc ?_ _)); exact BK122.out⟩, ⟨by (with_reducible repeat (first | refine blk_drewN ?_ _ | refine blk_drew ?_ | refine blk_alloc ?_ _)); exact BK123.out⟩, ⟨by (with_reducible repeat (first | refine blk_drewN ?_ _ | refine blk_drew ?_ | refine blk_alloc ?_ _)); exact BK124.out⟩, ⟨by repeat (first | (with_reducible first | exact HB.out | apply below_alloc | apply pw_below_drewN | apply below_drew1 | refine below_set ?_ GE122.out | refine below_set ?_ GE123.out | refine below_set ?_ GE124.out) | exact HB.out)⟩⟩
        · rw [if_neg c23] at H
          have c23b0 : (a1_1 == a2_1) = false := beq_eq_false_iff_ne.mpr c23
          have c23b1 : (a1_1 != a2_1) = true := bne_iff_ne.mpr c23
          have H' := Aside0.mk H
          clear H
          have hnb36 := NB123_122.out
          have hnc36 := NB122_123.out
          have hnb37 := NB123_124.out
          have hnc37 := NB124_123.out
          have hcz38_0 : w16.cell? ⟨gb123, 0, none⟩ = some (.int .i64 a1_0) := (blk_cell BK123.out 0).trans rfl
          have hcz38_1 : w16.cell? ⟨gb123, 1, none⟩ = some (.int .i64 a1_1) := (blk_cell BK123.out 1).trans rfl
          have hcz38_2 : w16.cell? ⟨gb123, 2, none⟩ = some (.int .i64 a1_2) := (blk_cell BK123.out 2).trans rfl
          have hfz38_0 := blk_frozen BK123.out 0
          have hfz38_1 := blk_frozen BK123.out 1
          have hfz38_2 := blk_frozen BK123.out 2
          have hnb39 := NB124_122.out
          have hnc39 := NB122_124.out
          have hcz40_0 : w16.cell? ⟨gb124, 0, none⟩ = some (.int .i64 a2_0) := (blk_cell BK124.out 0).trans rfl
          have hcz40_1 : w16.cell? ⟨gb124, 1, none⟩ = some (.int .i64 a2_1) := (blk_cell BK124.out 1).trans rfl
          have hcz40_2 : w16.cell? ⟨gb124, 2, none⟩ = some (.int .i64 a2_2) := (blk_cell BK124.out 2).trans rfl
          have hfz40_0 := blk_frozen BK124.out 0
          have hfz40_1 := blk_frozen BK124.out 1
          have hfz40_2 := blk_frozen BK124.out 2
          go_wp2
          go_meet
          case rel => exact ⟨_, (true), (by first | rfl | (simp; done) | (simp [*]; done)), H', ⟨by first | omega | exact Nat.le_refl _⟩, ⟨by (with_reducible repeat (first | refine blk_drewN ?_ _ | refine blk_drew ?_ | refine blk_alloc ?_ _)); exact BK122.out⟩, ⟨by (with_reducible repeat (first | refine blk_drewN ?_ _ | refine blk_drew ?_ | refine blk_alloc ?_ _)); exact BK123.out⟩, ⟨by (with_reducible repeat (first | refine blk_drewN ?_ _ | refine blk_drew ?_ | refine blk_alloc ?_ _)); exact BK124.out⟩, ⟨by repeat (first | (with_reducible first | exact HB.out | apply below_alloc | apply pw_below_drewN | apply below_drew1 | refine below_set ?_ GE122.out | refine below_set ?_ GE123.out | refine below_set ?_ GE124.out) | exact HB.out)⟩⟩
      · rw [if_neg c22] at H
        have c22b0 : (a1_0 == a2_0) = false := beq_eq_false_iff_ne.mpr c22
        have c22b1 : (a1_0 != a2_0) = true := bne_iff_ne.mpr c22
        (first | rw [c22b0] | (simp only [i64_w, i32_w]; rw [c22b0]) | skip)
        have H' := Aside0.mk H
        clear H
        have hnb41 := NB123_122.out
        have hnc41 := NB122_123.out
        have hnb42 := NB123_124.out
        have hnc42 := NB124_123.out
        have hcz43_0 : w16.cell? ⟨gb123, 0, none⟩ = some (.int .i64 a1_0) := (blk_cell BK123.out 0).trans rfl
        have hcz43_1 : w16.cell? ⟨gb123, 1, none⟩ = some (.int .i64 a1_1) := (blk_cell BK123.out 1).trans rfl
        have hcz43_2 : w16.cell? ⟨gb123, 2, none⟩ = some (.int .i64 a1_2) := (blk_cell BK123.out 2).trans rfl
        have hfz43_0 := blk_frozen BK123.out 0
        have hfz43_1 := blk_frozen BK123.out 1
        have hfz43_2 := blk_frozen BK123.out 2
        have hnb44 := NB124_122.out
        have hnc44 := NB122_124.out
        have hcz45_0 : w16.cell? ⟨gb124, 0, none⟩ = some (.int .i64 a2_0) := (blk_cell BK124.out 0).trans rfl
        have hcz45_1 : w16.cell? ⟨gb124, 1, none⟩ = some (.int .i64 a2_1) := (blk_cell BK124.out 1).trans rfl
        have hcz45_2 : w16.cell? ⟨gb124, 2, none⟩ = some (.int .i64 a2_2) := (blk_cell BK124.out 2).trans rfl
        have hfz45_0 := blk_frozen BK124.out 0
        have hfz45_1 := blk_frozen BK124.out 1
        have hfz45_2 := blk_frozen BK124.out 2
        go_wp2
        go_meet
        case rel => exact ⟨_, (true), (by first | rfl | (simp; done) | (simp [*]; done)), H', ⟨by first | omega | exact Nat.le_refl _⟩, ⟨by (with_reducible repeat (first | refine blk_drewN ?_ _ | refine blk_drew ?_ | refine blk_alloc ?_ _)); exact BK122.out⟩, ⟨by (with_reducible repeat (first | refine blk_drewN ?_ _ | refine blk_drew ?_ | refine blk_alloc ?_ _)); exact BK123.out⟩, ⟨by (with_reducible repeat (first | refine blk_drewN ?_ _ | refine blk_drew ?_ | refine blk_alloc ?_ _)); exact BK124.out⟩, ⟨by repeat (first | (with_reducible first | exact HB.out | apply below_alloc | apply pw_below_drewN | apply below_drew1 | refine below_set ?_ GE122.out | refine below_set ?_ GE123.out | refine below_set ?_ GE124.out) | exact HB.out)⟩⟩
    case rest =>
      clear HC13
      try clear c1
      try clear c2
      try clear p2
      try clear c3
      try clear c4
      try clear c4b0
      try clear c8
      try clear c9
      try clear c11
      try clear c17
      try clear c18
      try clear c20
      try clear c22
      try clear c22b0
      try clear c22b1
      try clear c23
      try clear c23b0
      try clear c23b1
      try clear c24
      try clear c24b0
      try clear c25
      try clear c26
      try clear c28
      try clear c30
      try clear c31
      try clear c33
      try clear c36
      try clear c37
      try clear c39
      try clear c41
      try clear c42
      try clear c44
      try clear hcz10_0
      try clear hcz10_1
      try clear hcz10_2
      try clear hcz12_0
      try clear hcz12_1
      try clear hcz12_2
      try clear hcz19_0
      try clear hcz19_1
      try clear hcz19_2
      try clear hcz21_0
      try clear hcz21_1
      try clear hcz21_2
      try clear hcz27_0
      try clear hcz27_1
      try clear hcz27_2
      try clear hcz29_0
      try clear hcz29_1
      try clear hcz29_2
      try clear hcz32_0
      try clear hcz32_1
      try clear hcz32_2
      try clear hcz34_0
      try clear hcz34_1
      try clear hcz34_2
      try clear hcz35_0
      try clear hcz35_1
      try clear hcz35_2
      try clear hcz35_3
      try clear hcz35_4
      try clear hcz38_0
      try clear hcz38_1
      try clear hcz38_2
      try clear hcz40_0
      try clear hcz40_1
      try clear hcz40_2
      try clear hcz43_0
      try clear hcz43_1
      try clear hcz43_2
      try clear hcz45_0
      try clear hcz45_1
      try clear hcz45_2
      try clear hfz10_0
      try clear hfz10_1
      try clear hfz10_2
      try clear hfz12_0
      try clear hfz12_1
      try clear hfz12_2
      try clear hfz19_0
      try clear hfz19_1
      try clear hfz19_2
      try clear hfz21_0
      try clear hfz21_1
      try clear hfz21_2
      try clear hfz27_0
      try clear hfz27_1
      try clear hfz27_2
      try clear hfz29_0
      try clear hfz29_1
      try clear hfz29_2
      try clear hfz32_0
      try clear hfz32_1
      try clear hfz32_2
      try clear hfz34_0
      try clear hfz34_1
      try clear hfz34_2
      try clear hfz35_0
      try clear hfz35_1
      try clear hfz35_2
      try clear hfz35_3
      try clear hfz35_4
      try clear hfz38_0
      try clear hfz38_1
      try clear hfz38_2
      try clear hfz40_0
      try clear hfz40_1
      try clear hfz40_2
      try clear hfz43_0
      try clear hfz43_1
      try clear hfz43_2
      try clear hfz45_0
      try clear hfz45_1
      try clear hfz45_2
      obtain ⟨kq, x38_12, rfl, HA, HJ12, BK122, BK123, BK124, HB⟩ := hcut
      cases kq with
      | zero => exact absurd HA.out (by simp [stepping_Nested.j0])
      | succ kj12 =>
        have H := HA.out
        clear HA
        simp only [stepping_Nested.j0] at H
        by_cases c46 : x38_12 = true
        · subst c46
          have H1 : (some false) = some r := by rw [if_pos rfl] at H; exact H
          clear H
          have H := H1
          clear H1
          obtain rfl := Option.some.inj H
          go_wp2
          go_ret
          exact ⟨by first | rfl | (simp [errW_none, errW_some] <;> rfl) | (simp [*, errW_none, errW_some] <;> rfl), by repeat (first | (with_reducible first | exact HB.out | apply below_alloc | apply pw_below_drewN | apply below_drew1 | refine below_set ?_ GE122.out | refine below_set ?_ GE123.out | refine below_set ?_ GE124.out) | exact HB.out)⟩
        · replace c46 := Bool.eq_false_iff.mpr c46
          subst c46
          have H1 : (if 0 ≤ a1_1 then (if a1_1 < (l0_4.length : Int) then (if a2_2 < 0 then (stepping_Nested.j1 kj12 ((rd_T51 l0_4 a1_1).f5) true a1_0 a1_1 a1_2 a2_0 a2_1 a2_2) else (stepping_Nested.j1 kj12 ((rd_T51 l0_4 a1_1).f5) (decide (a2_2 ≥ (((rd_T51 l0_4 a1_1).f5).length : Int))) a1_0 a1_1 a1_2 a2_0 a2_1 a2_2)) else (none)) else (none)) = some r := by rw [if_neg (show ¬ (false = true) by decide)] at H; exact H
          clear H
          have H := H1
          clear H1
          by_cases c47 : 0 ≤ a1_1
          · rw [if_pos c47] at H
            have c47b0 : decide (0 ≤ a1_1) = true := decide_eq_true c47
            clear c47
            by_cases c48 : a1_1 < (l0_4.length : Int)
            · rw [if_pos c48] at H
              have c48b0 : decide (a1_1 < (l0_4.length : Int)) = true := decide_eq_true c48
              clear c48
              have HC49 := Aside0.mk H
              clear H
              have hnb50 := NB122_123.out
              have hnc50 := NB123_122.out
              have hnb51 := NB122_124.out
              have hnc51 := NB124_122.out
              have hcz52_0 : wc.cell? ⟨gb122, 0, none⟩ = some (.int .i64 a0_0) := (blk_cell BK122.out 0).trans rfl
              have hcz52_1 : wc.cell? ⟨gb122, 1, none⟩ = some (.int .i64 a0_1) := (blk_cell BK122.out 1).trans rfl
              have hcz52_2 : wc.cell? ⟨gb122, 2, none⟩ = some (.slice A0_2 l0_2.length c0_2) := (blk_cell BK122.out 2).trans rfl
              have hcz52_3 : wc.cell? ⟨gb122, 3, none⟩ = some (.slice A0_3 l0_3.length c0_3) := (blk_cell BK122.out 3).trans rfl
              have hcz52_4 : wc.cell? ⟨gb122, 4, none⟩ = some (.slice A0_4 l0_4.length c0_4) := (blk_cell BK122.out 4).trans rfl
              have hfz52_0 := blk_frozen BK122.out 0
              have hfz52_1 := blk_frozen BK122.out 1
              have hfz52_2 := blk_frozen BK122.out 2
              have hfz52_3 := blk_frozen BK122.out 3
              have hfz52_4 := blk_frozen BK122.out 4
              have hnb53 := NB123_124.out
              have hnc53 := NB124_123.out
              have hcz54_0 : wc.cell? ⟨gb123, 0, none⟩ = some (.int .i64 a1_0) := (blk_cell BK123.out 0).trans rfl
              have hcz54_1 : wc.cell? ⟨gb123, 1, none⟩ = some (.int .i64 a1_1) := (blk_cell BK123.out 1).trans rfl
              have hcz54_2 : wc.cell? ⟨gb123, 2, none⟩ = some (.int .i64 a1_2) := (blk_cell BK123.out 2).trans rfl
              have hfz54_0 := blk_frozen BK123.out 0
              have hfz54_1 := blk_frozen BK123.out 1
              have hfz54_2 := blk_frozen BK123.out 2
              have p125 : 0 ≤ (a1_1 : Int) := of_decide_eq_true (by first | (with_reducible assumption) | assumption)
              have q125 : a1_1 < (l0_4.length : Int) := of_decide_eq_true (by first | (with_reducible assumption) | assumption)
              obtain ⟨ad125, A125_4, c125_4, A125_5, c125_5, A125_6, c125_6, A125_7, c125_7, A125_8, c125_8, A125_9, c125_9, A125_10, c125_10, e125, hx125_0, hx125_1, hx125_2, hx125_3, hx125_4, hx125_5, hx125_6, hx125_7, hx125_8, hx125_9, hx125_10, hl125_4, hi125_4, hl125_5, hi125_5, hl125_6, hi125_6, hl125_7, hi125_7, hl125_8, hi125_8, hl125_9, hi125_9, hl125_10, hi125_10⟩ := at_T51 HR0_4.out a1_1 p125 q125
              cases e125
              replace hx125_0 := (HB.out.cell (World.block_lt_of_cell? w _ hx125_0)).trans hx125_0
              replace hx125_1 := (HB.out.cell (World.block_lt_of_cell? w _ hx125_1)).trans hx125_1
              replace hx125_2 := (HB.out.cell (World.block_lt_of_cell? w _ hx125_2)).trans hx125_2
              replace hx125_3 := (HB.out.cell (World.block_lt_of_cell? w _ hx125_3)).trans hx125_3
              replace hx125_4 := (HB.out.cell (World.block_lt_of_cell? w _ hx125_4)).trans hx125_4
              replace hx125_5 := (HB.out.cell (World.block_lt_of_cell? w _ hx125_5)).trans hx125_5
              replace hx125_6 := (HB.out.cell (World.block_lt_of_cell? w _ hx125_6)).trans hx125_6
              replace hx125_7 := (HB.out.cell (World.block_lt_of_cell? w _ hx125_7)).trans hx125_7
              replace hx125_8 := (HB.out.cell (World.block_lt_of_cell? w _ hx125_8)).trans hx125_8
              replace hx125_9 := (HB.out.cell (World.block_lt_of_cell? w _ hx125_9)).trans hx125_9
              replace hx125_10 := (HB.out.cell (World.block_lt_of_cell? w _ hx125_10)).trans hx125_10
              have HR125_4 := Aside0.mk hi125_4
              have HC125_4 := Aside0.mk hl125_4
              clear hi125_4 hl125_4
              have HR125_5 := Aside0.mk hi125_5
              have HC125_5 := Aside0.mk hl125_5
              clear hi125_5 hl125_5
              have HR125_6 := Aside0.mk hi125_6
              have HC125_6 := Aside0.mk hl125_6
              clear hi125_6 hl125_6
              have HR125_7 := Aside0.mk hi125_7
              have HC125_7 := Aside0.mk hl125_7
              clear hi125_7 hl125_7
              have HR125_8 := Aside0.mk hi125_8
              have HC125_8 := Aside0.mk hl125_8
              clear hi125_8 hl125_8
              have HR125_9 := Aside0.mk hi125_9
              have HC125_9 := Aside0.mk hl125_9
              clear hi125_9 hl125_9
              have HR125_10 := Aside0.mk hi125_10
              have HC125_10 := Aside0.mk hl125_10
              clear hi125_10 hl125_10
              replace p125 := eq_true p125
              replace q125 := eq_true q125
              go_upto_region 6 with (fail)
              go_cut [55] (fun v55 wc => ∃ (kq : Nat) (x55_48 : Bool), v55 = .bool x55_48 ∧ Aside0 (stepping_Nested.j1 kq ((rd_T51 l0_4 a1_1).f5) x55_48 a1_0 a1_1 a1_2 a2_0 a2_1 a2_2 = some r) ∧ Aside0 (kq ≤ kj12) ∧ Aside0 (wc.heap[gb122]? = some (.cells #[.int .i64 a0_0, .int .i64 a0_1, (.slice A0_2 l0_2.length c0_2), (.slice A0_3 l0_3.length c0_3), (.slice (some ad125) l0_4.length c0_4)] 29 (0, 0))) ∧ Aside0 (wc.heap[gb123]? = some (.cells #[.int .i64 a1_0, .int .i64 a1_1, .int .i64 a1_2] 24 (0, 0))) ∧ Aside0 (wc.heap[gb124]? = some (.cells #[.int .i64 a2_0, .int .i64 a2_1, .int .i64 a2_2] 24 (0, 0))) ∧ Aside0 (Below w.heap.size w wc))
              case first =>
                have H := HC49.out
                clear HC49
                by_cases c55 : a2_2 < 0
                · rw [if_pos c55] at H
                  have c55b0 : decide (a2_2 < 0) = true := decide_eq_true c55
                  clear c55
                  (first | rw [c55b0] | (simp only [i64_w, i32_w]; rw [c55b0]) | skip)
                  have H' := Aside0.mk H
                  clear H
                  have hnb56 := NB124_122.out
                  have hnc56 := NB122_124.out
                  have hnb57 := NB124_123.out
                  have hnc57 := NB123_124.out
                  have hcz58_0 : wc.cell? ⟨gb124, 0, none⟩ = some (.int .i64 a2_0) := (blk_cell BK124.out 0).trans rfl
                  have hcz58_1 : wc.cell? ⟨gb124, 1, none⟩ = some (.int .i64 a2_1) := (blk_cell BK124.out 1).trans rfl
                  have hcz58_2 : wc.cell? ⟨gb124, 2, none⟩ = some (.int .i64 a2_2) := (blk_cell BK124.out 2).trans rfl
                  have hfz58_0 := blk_frozen BK124.out 0
                  have hfz58_1 := blk_frozen BK124.out 1
                  have hfz58_2 := blk_frozen BK124.out 2
                  go_wp2
                  go_meet
                  case rel => exact ⟨_, (true), (by first | rfl | (simp; done) | (simp [*]; done)), H', ⟨by have := HJ12.out; first | omega | exact Nat.le_refl _⟩, ⟨by (with_reducible repeat (first | refine blk_drewN ?_ _ | refine blk_drew ?_ | refine blk_alloc ?_ _)); exact BK122.out⟩, ⟨by (with_reducible repeat (first | refine blk_drewN ?_ _ | refine blk_drew ?_ | refine blk_alloc ?_ _)); exact BK123.out⟩, ⟨by (with_reducible repeat (first | refine blk_drewN ?_ _ | refine blk_drew ?_ | refine blk_alloc ?_ _)); exact BK124.out⟩, ⟨by repeat (first | (with_reducible first | exact HB.out | apply below_alloc | apply pw_below_drewN | apply below_drew1 | refine below_set ?_ GE122.out | refine below_set ?_ GE123.out | refine below_set ?_ GE124.out) | exact HB.out)⟩⟩
                · rw [if_neg c55] at H
                  have c55b0 : decide (a2_2 < 0) = false := decide_eq_false c55
                  clear c55
                  (first | rw [c55b0] | (simp only [i64_w, i32_w]; rw [c55b0]) | skip)
                  have H' := Aside0.mk H
                  clear H
                  have hnb59 := NB124_122.out
                  have hnc59 := NB122_124.out
                  have hnb60 := NB124_123.out
                  have hnc60 := NB123_124.out
                  have hcz61_0 : wc.cell? ⟨gb124, 0, none⟩ = some (.int .i64 a2_0) := (blk_cell BK124.out 0).trans rfl
                  have hcz61_1 : wc.cell? ⟨gb124, 1, none⟩ = some (.int .i64 a2_1) := (blk_cell BK124.out 1).trans rfl
                  have hcz61_2 : wc.cell? ⟨gb124, 2, none⟩ = some (.int .i64 a2_2) := (blk_cell BK124.out 2).trans rfl
                  have hfz61_0 := blk_frozen BK124.out 0
                  have hfz61_1 := blk_frozen BK124.out 1
                  have hfz61_2 := blk_frozen BK124.out 2
                  go_wp2
                  go_meet
                  case rel => exact ⟨_, (decide (a2_2 ≥ (((rd_T51 l0_4 a1_1).f5).length : Int))), (by first | rfl | (simp; done) | (simp [*]; done)), H', ⟨by have := HJ12.out; first | omega | exact Nat.le_refl _⟩, ⟨by (with_reducible repeat (first | refine blk_drewN ?_ _ | refine blk_drew ?_ | refine blk_alloc ?_ _)); exact BK122.out⟩, ⟨by (with_reducible repeat (first | refine blk_drewN ?_ _ | refine blk_drew ?_ | refine blk_alloc ?_ _)); exact BK123.out⟩, ⟨by (with_reducible repeat (first | refine blk_drewN ?_ _ | refine blk_drew ?_ | refine blk_alloc ?_ _)); exact BK124.out⟩, ⟨by repeat (first | (with_reducible first | exact HB.out | apply below_alloc | apply pw_below_drewN | apply below_drew1 | refine below_set ?_ GE122.out | refine below_set ?_ GE123.out | refine below_set ?_ GE124.out) | exact HB.out)⟩⟩
              case rest =>
                clear HC49
                try clear c1
                try clear p1
                try clear q1
                try clear hx1
                try clear c2
                try clear p2
                try clear c3
                try clear c4
                try clear c4b0
                try clear c5
                try clear c6
                try clear c8
                try clear c9
                try clear c11
                try clear c12
                try clear p12
                try clear q12
                try clear hx12
                try clear c17
                try clear c18
                try clear c20
                try clear c22
                try clear c22b0
                try clear c22b1
                try clear c23
                try clear c23b0
                try clear c23b1
                try clear c24
                try clear c24b0
                try clear c25
                try clear c26
                try clear c28
                try clear c30
                try clear c31
                try clear c33
                try clear c36
                try clear c37
                try clear c39
                try clear c41
                try clear c42
                try clear c44
                try clear c46
                try clear c47
                try clear c47b0
                try clear c48
                try clear c48b0
                try clear c50
                try clear c51
                try clear c53
                try clear c55
                try clear c55b0
                try clear c56
                try clear c57
                try clear c59
                try clear c60
                try clear hcz10_0
                try clear hcz10_1
                try clear hcz10_2
                try clear hcz12_0
                try clear hcz12_1
                try clear hcz12_2
                try clear hcz19_0
                try clear hcz19_1
                try clear hcz19_2
                try clear hcz21_0
                try clear hcz21_1
                try clear hcz21_2
                try clear hcz27_0
                try clear hcz27_1
                try clear hcz27_2
                try clear hcz29_0
                try clear hcz29_1
                try clear hcz29_2
                try clear hcz32_0
                try clear hcz32_1
                try clear hcz32_2
                try clear hcz34_0
                try clear hcz34_1
                try clear hcz34_2
                try clear hcz35_0
                try clear hcz35_1
                try clear hcz35_2
                try clear hcz35_3
                try clear hcz35_4
                try clear hcz38_0
                try clear hcz38_1
                try clear hcz38_2
                try clear hcz40_0
                try clear hcz40_1
                try clear hcz40_2
                try clear hcz43_0
                try clear hcz43_1
                try clear hcz43_2
                try clear hcz45_0
                try clear hcz45_1
                try clear hcz45_2
                try clear hcz52_0
                try clear hcz52_1
                try clear hcz52_2
                try clear hcz52_3
                try clear hcz52_4
                try clear hcz54_0
                try clear hcz54_1
                try clear hcz54_2
                try clear hcz58_0
                try clear hcz58_1
                try clear hcz58_2
                try clear hcz61_0
                try clear hcz61_1
                try clear hcz61_2
                try clear hfz10_0
                try clear hfz10_1
                try clear hfz10_2
                try clear hfz12_0
                try clear hfz12_1
                try clear hfz12_2
                try clear hfz19_0
                try clear hfz19_1
                try clear hfz19_2
                try clear hfz21_0
                try clear hfz21_1
                try clear hfz21_2
                try clear hfz27_0
                try clear hfz27_1
                try clear hfz27_2
                try clear hfz29_0
                try clear hfz29_1
                try clear hfz29_2
                try clear hfz32_0
                try clear hfz32_1
                try clear hfz32_2
                try clear hfz34_0
                try clear hfz34_1
                try clear hfz34_2
                try clear hfz35_0
                try clear hfz35_1
                try clear hfz35_2
                try clear hfz35_3
                try clear hfz35_4
                try clear hfz38_0
                try clear hfz38_1
                try clear hfz38_2
                try clear hfz40_0
                try clear hfz40_1
                try clear hfz40_2
                try clear hfz43_0
                try clear hfz43_1
                try clear hfz43_2
                try clear hfz45_0
                try clear hfz45_1
                try clear hfz45_2
                try clear hfz52_0
                try clear hfz52_1
                try clear hfz52_2
                try clear hfz52_3
                try clear hfz52_4
                try clear hfz54_0
                try clear hfz54_1
                try clear hfz54_2
                try clear hfz58_0
                try clear hfz58_1
                try clear hfz58_2
                try clear hfz61_0
                try clear hfz61_1
                try clear hfz61_2
                try clear hx125_0
                try clear hx125_1
                try clear hx125_10
                try clear hx125_2
                try clear hx125_3
                try clear hx125_4
                try clear hx125_5
                try clear hx125_6
                try clear hx125_7
                try clear hx125_8
                try clear hx125_9
                try clear p125
                try clear p2
                try clear q125
                obtain ⟨kq, x55_48, rfl, HA, HJ48, BK122, BK123, BK124, HB⟩ := hcut
                cases kq with
                | zero => exact absurd HA.out (by simp [stepping_Nested.j1])
                | succ kj48 =>
                  have H := HA.out
                  clear HA
                  simp only [stepping_Nested.j1] at H
                  by_cases c62 : x55_48 = true
                  · subst c62
                    have H1 : (some false) = some r := by rw [if_pos rfl] at H; exact H
                    clear H
                    have H := H1
                    clear H1
                    obtain rfl := Option.some.inj H
                    go_wp2
                    go_ret
                    exact ⟨by first | rfl | (simp [errW_none, errW_some] <;> rfl) | (simp [*, errW_none, errW_some] <;> rfl), by repeat (first | (with_reducible first | exact HB.out | apply below_alloc | apply pw_below_drewN | apply below_drew1 | refine below_set ?_ GE122.out | refine below_set ?_ GE123.out | refine below_set ?_ GE124.out) | exact HB.out)⟩
                  · replace c62 := Bool.eq_false_iff.mpr c62
                    subst c62
                    have H1 : (stepping_Nested.l0 kj48 ((rd_T51 l0_4 a1_1).f5) a1_2 (((rd_T51 l0_4 a1_1).f5).length : Int) 0 a2_0 a2_1 a2_2) = some r := by rw [if_neg (show ¬ (false = true) by decide)] at H; exact H
                    clear H
                    have H := H1
                    clear H1
                    have H' := Aside0.mk H
                    clear H
                    have hnb63 := NB123_122.out
                    have hnc63 := NB122_123.out
                    have hnb64 := NB123_124.out
                    have hnc64 := NB124_123.out
                    have hcz65_0 : wc.cell? ⟨gb123, 0, none⟩ = some (.int .i64 a1_0) := (blk_cell BK123.out 0).trans rfl
                    have hcz65_1 : wc.cell? ⟨gb123, 1, none⟩ = some (.int .i64 a1_1) := (blk_cell BK123.out 1).trans rfl
                    have hcz65_2 : wc.cell? ⟨gb123, 2, none⟩ = some (.int .i64 a1_2) := (blk_cell BK123.out 2).trans rfl
                    have hfz65_0 := blk_frozen BK123.out 0
                    have hfz65_1 := blk_frozen BK123.out 1
                    have hfz65_2 := blk_frozen BK123.out 2
                    go_wp2
                    go_loopg [8, 60] kj48 (fun kq v8 v60 w' => ∃ (x8_3 : Int) (x60_3 : Int), v8 = .int .i64 x8_3 ∧ v60 = .int .i64 x60_3 ∧ Aside0 (stepping_Nested.l0 kq ((rd_T51 l0_4 a1_1).f5) x8_3 (((rd_T51 l0_4 a1_1).f5).length : Int) x60_3 a2_0 a2_1 a2_2 = some r) ∧ Aside0 (kq ≤ kj48) ∧ Aside0 (w'.heap[gb122]? = some (.cells #[.int .i64 a0_0, .int .i64 a0_1, (.slice A0_2 l0_2.length c0_2), (.slice A0_3 l0_3.length c0_3), (.slice (some ad125) l0_4.length c0_4)] 29 (0, 0))) ∧ Aside0 (w'.heap[gb123]? = some (.cells #[.int .i64 a1_0, .int .i64 a1_1, .int .i64 a1_2] 24 (0, 0))) ∧ Aside0 (w'.heap[gb124]? = some (.cells #[.int .i64 a2_0, .int .i64 a2_1, .int .i64 a2_2] 24 (0, 0))) ∧ Aside0 (Below w.heap.size w w'))
                    case atStart => exact ⟨(a1_2), (0), (by first | rfl | (simp; done) | (simp [*]; done)), (by first | rfl | (simp; done) | (simp [*]; done)), H', ⟨Nat.le_refl _⟩, ⟨by (with_reducible repeat (first | refine blk_drewN ?_ _ | refine blk_drew ?_ | refine blk_alloc ?_ _)); exact BK122.out⟩, ⟨by (with_reducible repeat (first | refine blk_drewN ?_ _ | refine blk_drew ?_ | refine blk_alloc ?_ _)); exact BK123.out⟩, ⟨by (with_reducible repeat (first | refine blk_drewN ?_ _ | refine blk_drew ?_ | refine blk_alloc ?_ _)); exact BK124.out⟩, ⟨by repeat (first | (with_reducible first | exact HB.out | apply below_alloc | apply pw_below_drewN | apply below_drew1 | refine below_set ?_ GE122.out | refine below_set ?_ GE123.out | refine below_set ?_ GE124.out) | exact HB.out)⟩⟩
                    case round =>
                      clear H'
                      try clear c1
                      try clear p1
                      try clear q1
                      try clear hx1
                      try clear c2
                      try clear p2
                      try clear c3
                      try clear c4
                      try clear c4b0
                      try clear c5
                      try clear c6
                      try clear c8
                      try clear c9
                      try clear c11
                      try clear c12
                      try clear p12
                      try clear q12
                      try clear hx12
                      try clear c17
                      try clear c18
                      try clear c20
                      try clear c22
                      try clear c22b0
                      try clear c22b1
                      try clear c23
                      try clear c23b0
                      try clear c23b1
                      try clear c24
                      try clear c24b0
                      try clear c25
                      try clear c26
                      try clear c28
                      try clear c30
                      try clear c31
                      try clear c33
                      try clear c36
                      try clear c37
                      try clear c39
                      try clear c41
                      try clear c42
                      try clear c44
                      try clear c46
                      try clear c47
                      try clear c47b0
                      try clear c48
                      try clear c48b0
                      try clear c50
                      try clear c51
                      try clear c53
                      try clear c55
                      try clear c55b0
                      try clear c56
                      try clear c57
                      try clear c59
                      try clear c60
                      try clear c62
                      try clear c63
                      try clear c64
                      try clear hcz10_0
                      try clear hcz10_1
                      try clear hcz10_2
                      try clear hcz12_0
                      try clear hcz12_1
                      try clear hcz12_2
                      try clear hcz19_0
                      try clear hcz19_1
                      try clear hcz19_2
                      try clear hcz21_0
                      try clear hcz21_1
                      try clear hcz21_2
                      try clear hcz27_0
                      try clear hcz27_1
                      try clear hcz27_2
                      try clear hcz29_0
                      try clear hcz29_1
                      try clear hcz29_2
                      try clear hcz32_0
                      try clear hcz32_1
                      try clear hcz32_2
                      try clear hcz34_0
                      try clear hcz34_1
                      try clear hcz34_2
                      try clear hcz35_0
                      try clear hcz35_1
                      try clear hcz35_2
                      try clear hcz35_3
                      try clear hcz35_4
                      try clear hcz38_0
                      try clear hcz38_1
                      try clear hcz38_2
                      try clear hcz40_0
                      try clear hcz40_1
                      try clear hcz40_2
                      try clear hcz43_0
                      try clear hcz43_1
                      try clear hcz43_2
                      try clear hcz45_0
                      try clear hcz45_1
                      try clear hcz45_2
                      try clear hcz52_0
                      try clear hcz52_1
                      try clear hcz52_2
                      try clear hcz52_3
                      try clear hcz52_4
                      try clear hcz54_0
                      try clear hcz54_1
                      try clear hcz54_2
                      try clear hcz58_0
                      try clear hcz58_1
                      try clear hcz58_2
                      try clear hcz61_0
                      try clear hcz61_1
                      try clear hcz61_2
                      try clear hcz65_0
                      try clear hcz65_1
                      try clear hcz65_2
                      try clear hfz10_0
                      try clear hfz10_1
                      try clear hfz10_2
                      try clear hfz12_0
                      try clear hfz12_1
                      try clear hfz12_2
                      try clear hfz19_0
                      try clear hfz19_1
                      try clear hfz19_2
                      try clear hfz21_0
                      try clear hfz21_1
                      try clear hfz21_2
                      try clear hfz27_0
                      try clear hfz27_1
                      try clear hfz27_2
                      try clear hfz29_0
                      try clear hfz29_1
                      try clear hfz29_2
                      try clear hfz32_0
                      try clear hfz32_1
                      try clear hfz32_2
                      try clear hfz34_0
                      try clear hfz34_1
                      try clear hfz34_2
                      try clear hfz35_0
                      try clear hfz35_1
                      try clear hfz35_2
                      try clear hfz35_3
                      try clear hfz35_4
                      try clear hfz38_0
                      try clear hfz38_1
                      try clear hfz38_2
                      try clear hfz40_0
                      try clear hfz40_1
                      try clear hfz40_2
                      try clear hfz43_0
                      try clear hfz43_1
                      try clear hfz43_2
                      try clear hfz45_0
                      try clear hfz45_1
                      try clear hfz45_2
                      try clear hfz52_0
                      try clear hfz52_1
                      try clear hfz52_2
                      try clear hfz52_3
                      try clear hfz52_4
                      try clear hfz54_0
                      try clear hfz54_1
                      try clear hfz54_2
                      try clear hfz58_0
                      try clear hfz58_1
                      try clear hfz58_2
                      try clear hfz61_0
                      try clear hfz61_1
                      try clear hfz61_2
                      try clear hfz65_0
                      try clear hfz65_1
                      try clear hfz65_2
                      try clear hx125_0
                      try clear hx125_1
                      try clear hx125_10
                      try clear hx125_2
                      try clear hx125_3
                      try clear hx125_4
                      try clear hx125_5
                      try clear hx125_6
                      try clear hx125_7
                      try clear hx125_8
                      try clear hx125_9
                      try clear p1
                      try clear p12
                      try clear p125
                      try clear p2
                      try clear q1
                      try clear q12
                      try clear q125
                      obtain ⟨x8_3, x60_3, rfl, rfl, HA, HK3, BK122, BK123, BK124, HB⟩ := hrel
                      cases gk with
                      | zero => exact absurd HA.out (by simp [stepping_Nested.l0])
                      | succ k3 =>
                        have H := HA.out
                        clear HA
                        simp only [stepping_Nested.l0] at H
                        by_cases c66 : x60_3 < (((rd_T51 l0_4 a1_1).f5).length : Int)
                        · rw [if_pos c66] at H
                          have c66b0 : decide (x60_3 < (((rd_T51 l0_4 a1_1).f5).length : Int)) = true := decide_eq_true c66
                          clear c66
                          have HC67 := Aside0.mk H
                          clear H
                          go_upto_region 11 with (fail)
                          go_cut [69] (fun v69 wc => ∃ (kq : Nat) (x69_66 : Bool), v69 = .bool x69_66 ∧ Aside0 (stepping_Nested.j3 kq ((rd_T51 l0_4 a1_1).f5) x8_3 (((rd_T51 l0_4 a1_1).f5).length : Int) x60_3 x69_66 a2_0 a2_1 a2_2 = some r) ∧ Aside0 (kq ≤ k3) ∧ Aside0 (wc.heap[gb122]? = some (.cells #[.int .i64 a0_0, .int .i64 a0_1, (.slice A0_2 l0_2.length c0_2), (.slice A0_3 l0_3.length c0_3), (.slice (some ad125) l0_4.length c0_4)] 29 (0, 0))) ∧ Aside0 (wc.heap[gb123]? = some (.cells #[.int .i64 a1_0, .int .i64 a1_1, .int .i64 a1_2] 24 (0, 0))) ∧ Aside0 (wc.heap[gb124]? = some (.cells #[.int .i64 a2_0, .int .i64 a2_1, .int .i64 a2_2] 24 (0, 0))) ∧ Aside0 (Below w.heap.size w wc))
                          case first =>
                            have H := HC67.out
                            clear HC67
                            by_cases c68 : x8_3 < 0
                            · rw [if_pos c68] at H
                              have c68b0 : decide (x8_3 < 0) = true := decide_eq_true c68
                              clear c68
                              (first | rw [c68b0] | (simp only [i64_w, i32_w]; rw [c68b0]) | skip)
                              have H' := Aside0.mk H
                              clear H
                              go_wp2
                              go_meet
                              case rel => exact ⟨_, (true), (by first | rfl | (simp; done) | (simp [*]; done)), H', ⟨by have := HJ12.out; have := HJ48.out; have := HK3.out; first | omega | exact Nat.le_refl _⟩, ⟨by (with_reducible repeat (first | refine blk_drewN ?_ _ | refine blk_drew ?_ | refine blk_alloc ?_ _)); exact BK122.out⟩, ⟨by (with_reducible repeat (first | refine blk_drewN ?_ _ | refine blk_drew ?_ | refine blk_alloc ?_ _)); exact BK123.out⟩, ⟨by (with_reducible repeat (first | refine blk_drewN ?_ _ | refine blk_drew ?_ | refine blk_alloc ?_ _)); exact BK124.out⟩, ⟨by repeat (first | (with_reducible first | exact HB.out | apply below_alloc | apply pw_below_drewN | apply below_drew1 | refine below_set ?_ GE122.out | refine below_set ?_ GE123.out | refine below_set ?_ GE124.out) | exact HB.out)⟩⟩
                            · rw [if_neg c68] at H
                              have c68b0 : decide (x8_3 < 0) = false := decide_eq_false c68
                              clear c68
                              (first | rw [c68b0] | (simp only [i64_w, i32_w]; rw [c68b0]) | skip)
                              have H' := Aside0.mk H
                              clear H
                              go_wp2
                              go_meet
                              case rel => exact ⟨_, (decide (x8_3 ≥ (((rd_T51 l0_4 a1_1).f5).length : Int))), (by first | rfl | (simp; done) | (simp [*]; done)), H', ⟨by have := HJ12.out; have := HJ48.out; have := HK3.out; first | omega | exact Nat.le_refl _⟩, ⟨by (with_reducible repeat (first | refine blk_drewN ?_ _ | refine blk_drew ?_ | refine blk_alloc ?_ _)); exact BK122.out⟩, ⟨by (with_reducible repeat (first | refine blk_drewN ?_ _ | refine blk_drew ?_ | refine blk_alloc ?_ _)); exact BK123.out⟩, ⟨by (with_reducible repeat (first | refine blk_drewN ?_ _ | refine blk_drew ?_ | refine blk_alloc ?_ _)); exact BK124.out⟩, ⟨by repeat (first | (with_reducible first | exact HB.out | apply below_alloc | apply pw_below_drewN | apply below_drew1 | refine below_set ?_ GE122.out | refine below_set ?_ GE123.out | refine below_set ?_ GE124.out) | exact HB.out)⟩⟩
                          case rest =>
                            clear HC67
                            try clear c1
                            try clear p1
                            try clear q1
                            try clear hx1
                            try clear c2
                            try clear p2
                            try clear c3
                            try clear c4
                            try clear c4b0
                            try clear c5
                            try clear c6
                            try clear c8
                            try clear c9
                            try clear c11
                            try clear c12
                            try clear p12
                            try clear q12
                            try clear hx12
                            try clear c17
                            try clear c18
                            try clear c20
                            try clear c22
                            try clear c22b0
                            try clear c22b1
                            try clear c23
                            try clear c23b0
                            try clear c23b1
                            try clear c24
                            try clear c24b0
                            try clear c25
                            try clear c26
                            try clear c28
                            try clear c30
                            try clear c31
                            try clear c33
                            try clear c36
                            try clear c37
                            try clear c39
                            try clear c41
                            try clear c42
                            try clear c44
                            try clear c46
                            try clear c47
                            try clear c47b0
                            try clear c48
                            try clear c48b0
                            try clear c50
                            try clear c51
                            try clear c53
                            try clear c55
                            try clear c55b0
                            try clear c56
                            try clear c57
                            try clear c59
                            try clear c60
                            try clear c62
                            try clear c63
                            try clear c64
                            try clear c66
                            try clear c66b0
                            try clear c68
                            try clear c68b0
                            try clear hcz10_0
                            try clear hcz10_1
                            try clear hcz10_2
                            try clear hcz12_0
                            try clear hcz12_1
                            try clear hcz12_2
                            try clear hcz19_0
                            try clear hcz19_1
                            try clear hcz19_2
                            try clear hcz21_0
                            try clear hcz21_1
                            try clear hcz21_2
                            try clear hcz27_0
                            try clear hcz27_1
                            try clear hcz27_2
                            try clear hcz29_0
                            try clear hcz29_1
                            try clear hcz29_2
                            try clear hcz32_0
                            try clear hcz32_1
                            try clear hcz32_2
                            try clear hcz34_0
                            try clear hcz34_1
                            try clear hcz34_2
                            try clear hcz35_0
                            try clear hcz35_1
                            try clear hcz35_2
                            try clear hcz35_3
                            try clear hcz35_4
                            try clear hcz38_0
                            try clear hcz38_1
                            try clear hcz38_2
                            try clear hcz40_0
                            try clear hcz40_1
                            try clear hcz40_2
                            try clear hcz43_0
                            try clear hcz43_1
                            try clear hcz43_2
                            try clear hcz45_0
                            try clear hcz45_1
                            try clear hcz45_2
                            try clear hcz52_0
                            try clear hcz52_1
                            try clear hcz52_2
                            try clear hcz52_3
                            try clear hcz52_4
                            try clear hcz54_0
                            try clear hcz54_1
                            try clear hcz54_2
                            try clear hcz58_0
                            try clear hcz58_1
                            try clear hcz58_2
                            try clear hcz61_0
                            try clear hcz61_1
                            try clear hcz61_2
                            try clear hcz65_0
                            try clear hcz65_1
                            try clear hcz65_2
                            try clear hfz10_0
                            try clear hfz10_1
                            try clear hfz10_2
                            try clear hfz12_0
                            try clear hfz12_1
                            try clear hfz12_2
                            try clear hfz19_0
                            try clear hfz19_1
                            try clear hfz19_2
                            try clear hfz21_0
                            try clear hfz21_1
                            try clear hfz21_2
                            try clear hfz27_0
                            try clear hfz27_1
                            try clear hfz27_2
                            try clear hfz29_0
                            try clear hfz29_1
                            try clear hfz29_2
                            try clear hfz32_0
                            try clear hfz32_1
                            try clear hfz32_2
                            try clear hfz34_0
                            try clear hfz34_1
                            try clear hfz34_2
                            try clear hfz35_0
                            try clear hfz35_1
                            try clear hfz35_2
                            try clear hfz35_3
                            try clear hfz35_4
                            try clear hfz38_0
                            try clear hfz38_1
                            try clear hfz38_2
                            try clear hfz40_0
                            try clear hfz40_1
                            try clear hfz40_2
                            try clear hfz43_0
                            try clear hfz43_1
                            try clear hfz43_2
                            try clear hfz45_0
                            try clear hfz45_1
                            try clear hfz45_2
                            try clear hfz52_0
                            try clear hfz52_1
                            try clear hfz52_2
                            try clear hfz52_3
                            try clear hfz52_4
                            try clear hfz54_0
                            try clear hfz54_1
                            try clear hfz54_2
                            try clear hfz58_0
                            try clear hfz58_1
                            try clear hfz58_2
                            try clear hfz61_0
                            try clear hfz61_1
                            try clear hfz61_2
                            try clear hfz65_0
                            try clear hfz65_1
                            try clear hfz65_2
                            try clear hx125_0
                            try clear hx125_1
                            try clear hx125_10
                            try clear hx125_2
                            try clear hx125_3
                            try clear hx125_4
                            try clear hx125_5
                            try clear hx125_6
                            try clear hx125_7
                            try clear hx125_8
                            try clear hx125_9
                            try clear p1
                            try clear p12
                            try clear p125
                            try clear p2
                            try clear q1
                            try clear q12
                            try clear q125
                            obtain ⟨kq, x69_66, rfl, HA, HJ66, BK122, BK123, BK124, HB⟩ := hcut
                            cases kq with
                            | zero => exact absurd HA.out (by simp [stepping_Nested.j3])
                            | succ kj66 =>
                              have H := HA.out
                              clear HA
                              simp only [stepping_Nested.j3] at H
                              by_cases c69 : x69_66 = true
                              · subst c69
                                have H1 : (some false) = some r := by rw [if_pos rfl] at H; exact H
                                clear H
                                have H := H1
                                clear H1
                                obtain rfl := Option.some.inj H
                                go_wp2
                                go_ret
                                exact ⟨by first | rfl | (simp [errW_none, errW_some] <;> rfl) | (simp [*, errW_none, errW_some] <;> rfl), by repeat (first | (with_reducible first | exact HB.out | apply below_alloc | apply pw_below_drewN | apply below_drew1 | refine below_set ?_ GE122.out | refine below_set ?_ GE123.out | refine below_set ?_ GE124.out) | exact HB.out)⟩
                              · replace c69 := Bool.eq_false_iff.mpr c69
                                subst c69
                                have H1 : (if 0 ≤ x8_3 then (if x8_3 < (((rd_T51 l0_4 a1_1).f5).length : Int) then (if ((rd_T42 ((rd_T51 l0_4 a1_1).f5) x8_3).f0) = a2_2 then (some true) else (stepping_Nested.l0 kj66 ((rd_T51 l0_4 a1_1).f5) ((rd_T42 ((rd_T51 l0_4 a1_1).f5) x8_3).f0) (((rd_T51 l0_4 a1_1).f5).length : Int) (wrap64 (x60_3 + 1)) a2_0 a2_1 a2_2)) else (none)) else (none)) = some r := by rw [if_neg (show ¬ (false = true) by decide)] at H; exact H
                                clear H
                                have H := H1
                                clear H1
                                by_cases c70 : 0 ≤ x8_3
                                · rw [if_pos c70] at H
                                  have c70b0 : decide (0 ≤ x8_3) = true := decide_eq_true c70
                                  clear c70
                                  by_cases c71 : x8_3 < (((rd_T51 l0_4 a1_1).f5).length : Int)
                                  · rw [if_pos c71] at H
                                    have c71b0 : decide (x8_3 < (((rd_T51 l0_4 a1_1).f5).length : Int)) = true := decide_eq_true c71
                                    clear c71
                                    by_cases c72 : ((rd_T42 ((rd_T51 l0_4 a1_1).f5) x8_3).f0) = a2_2
                                    · rw [if_pos c72] at H
                                      have c72b0 : (((rd_T42 ((rd_T51 l0_4 a1_1).f5) x8_3).f0) == a2_2) = true := beq_iff_eq.mpr c72
                                      have c72b1 : (((rd_T42 ((rd_T51 l0_4 a1_1).f5) x8_3).f0) != a2_2) = false := bne_eq_false_iff_eq.mpr c72
                                      clear c72
                                      obtain rfl := Option.some.inj H
                                      have p126 : 0 ≤ (x8_3 : Int) := of_decide_eq_true (by first | (with_reducible assumption) | assumption)
                                      have q126 : x8_3 < (((rd_T51 l0_4 a1_1).f5).length : Int) := of_decide_eq_true (by first | (with_reducible assumption) | assumption)
                                      obtain ⟨ad126, e126, hx126_0, hx126_1, hx126_2⟩ := at_T42 HR125_5.out x8_3 p126 q126
                                      cases e126
                                      replace hx126_0 := (HB.out.cell (World.block_lt_of_cell? w _ hx126_0)).trans hx126_0
                                      replace hx126_1 := (HB.out.cell (World.block_lt_of_cell? w _ hx126_1)).trans hx126_1
                                      replace hx126_2 := (HB.out.cell (World.block_lt_of_cell? w _ hx126_2)).trans hx126_2
                                      replace p126 := eq_true p126
                                      replace q126 := eq_true q126
                                      have hnb73 := NB124_122.out
                                      have hnc73 := NB122_124.out
                                      have hnb74 := NB124_123.out
                                      have hnc74 := NB123_124.out
                                      have hcz75_0 : wc.cell? ⟨gb124, 0, none⟩ = some (.int .i64 a2_0) := (blk_cell BK124.out 0).trans rfl
                                      have hcz75_1 : wc.cell? ⟨gb124, 1, none⟩ = some (.int .i64 a2_1) := (blk_cell BK124.out 1).trans rfl
                                      have hcz75_2 : wc.cell? ⟨gb124, 2, none⟩ = some (.int .i64 a2_2) := (blk_cell BK124.out 2).trans rfl
                                      have hfz75_0 := blk_frozen BK124.out 0
                                      have hfz75_1 := blk_frozen BK124.out 1
                                      have hfz75_2 := blk_frozen BK124.out 2
                                      go_wp2
                                      go_ret
                                      exact ⟨by first | rfl | (simp [errW_none, errW_some] <;> rfl) | (simp [*, errW_none, errW_some] <;> rfl), by repeat (first | (with_reducible first | exact HB.out | apply below_alloc | apply pw_below_drewN | apply below_drew1 | refine below_set ?_ GE122.out | refine below_set ?_ GE123.out | refine below_set ?_ GE124.out) | exact HB.out)⟩
                                    · rw [if_neg c72] at H
                                      have c72b0 : (((rd_T42 ((rd_T51 l0_4 a1_1).f5) x8_3).f0) == a2_2) = false := beq_eq_false_iff_ne.mpr c72
                                      have c72b1 : (((rd_T42 ((rd_T51 l0_4 a1_1).f5) x8_3).f0) != a2_2) = true := bne_iff_ne.mpr c72
                                      have H' := Aside0.mk H
                                      clear H
                                      have p126 : 0 ≤ (x8_3 : Int) := of_decide_eq_true (by first | (with_reducible assumption) | assumption)
                                      have q126 : x8_3 < (((rd_T51 l0_4 a1_1).f5).length : Int) := of_decide_eq_true (by first | (with_reducible assumption) | assumption)
                                      obtain ⟨ad126, e126, hx126_0, hx126_1, hx126_2⟩ := at_T42 HR125_5.out x8_3 p126 q126
                                      cases e126
                                      replace hx126_0 := (HB.out.cell (World.block_lt_of_cell? w _ hx126_0)).trans hx126_0
                                      replace hx126_1 := (HB.out.cell (World.block_lt_of_cell? w _ hx126_1)).trans hx126_1
                                      replace hx126_2 := (HB.out.cell (World.block_lt_of_cell? w _ hx126_2)).trans hx126_2
                                      replace p126 := eq_true p126
                                      replace q126 := eq_true q126
                                      have hnb76 := NB124_122.out
                                      have hnc76 := NB122_124.out
                                      have hnb77 := NB124_123.out
                                      have hnc77 := NB123_124.out
                                      have hcz78_0 : wc.cell? ⟨gb124, 0, none⟩ = some (.int .i64 a2_0) := (blk_cell BK124.out 0).trans rfl
                                      have hcz78_1 : wc.cell? ⟨gb124, 1, none⟩ = some (.int .i64 a2_1) := (blk_cell BK124.out 1).trans rfl
                                      have hcz78_2 : wc.cell? ⟨gb124, 2, none⟩ = some (.int .i64 a2_2) := (blk_cell BK124.out 2).trans rfl
                                      have hfz78_0 := blk_frozen BK124.out 0
                                      have hfz78_1 := blk_frozen BK124.out 1
                                      have hfz78_2 := blk_frozen BK124.out 2
                                      go_wp2
                                      go_roundg kj66
                                      case measure => have := HJ12.out; have := HJ48.out; have := HK3.out; have := HJ66.out; omega
                                      case rel => exact ⟨((rd_T42 ((rd_T51 l0_4 a1_1).f5) x8_3).f0), (wrap64 (x60_3 + 1)), (by first | rfl | (simp; done) | (simp [*]; done)), (by first | rfl | (simp; done) | (simp [*]; done)), H', ⟨by have := HJ12.out; have := HJ48.out; have := HK3.out; have := HJ66.out; omega⟩, ⟨by (with_reducible repeat (first | refine blk_drewN ?_ _ | refine blk_drew ?_ | refine blk_alloc ?_ _)); exact BK122.out⟩, ⟨by (with_reducible repeat (first | refine blk_drewN ?_ _ | refine blk_drew ?_ | refine blk_alloc ?_ _)); exact BK123.out⟩, ⟨by (with_reducible repeat (first | refine blk_drewN ?_ _ | refine blk_drew ?_ | refine blk_alloc ?_ _)); exact BK124.out⟩, ⟨by repeat (first | (with_reducible first | exact HB.out | apply below_alloc | apply pw_below_drewN | apply below_drew1 | refine below_set ?_ GE122.out | refine below_set ?_ GE123.out | refine below_set ?_ GE124.out) | exact HB.out)⟩⟩
                                  · rw [if_neg c71] at H
                                    exact absurd H (by simp)
                                · rw [if_neg c70] at H
                                  exact absurd H (by simp)
                        · rw [if_neg c66] at H
                          have c66b0 : decide (x60_3 < (((rd_T51 l0_4 a1_1).f5).length : Int)) = false := decide_eq_false c66
                          clear c66
                          obtain rfl := Option.some.inj H
                          go_wp2
                          go_ret
                          exact ⟨by first | rfl | (simp [errW_none, errW_some] <;> rfl) | (simp [*, errW_none, errW_some] <;> rfl), by repeat (first | (with_reducible first | exact HB.out | apply below_alloc | apply pw_below_drewN | apply below_drew1 | refine below_set ?_ GE122.out | refine below_set ?_ GE123.out | refine below_set ?_ GE124.out) | exact HB.out)⟩
            · rw [if_neg c48] at H
              exact absurd H (by simp)
          · rw [if_neg c47] at H
            exact absurd H (by simp)

end Go.Proofs.Ytjcghbgcnofchaa.QSteppingCompares
