-- Written by a program of this session (wip/printer.py of the repo) out of the translation.
import Derived.Test.YtipkcbpilkoflaaQLinkDamagesx0
import Derived.Test.YtipkcbpilkoflaaQLinkDamagesx3
import Derived.Test.YtipkcbpilkoflaaQLinkDamagesx15
namespace Go.Proofs.Ytipkcbpilkoflaa.QLinkDamages
open Go.RowKit Go.Proofs.YtipkcbpilkoflaaW.PrintWords Go.Proofs.YtipkcbpilkoflaaW.PrintLast Go.Proofs.YtipkcbpilkoflaaW.PrintMore
attribute [local go_sem] max2_int min2_int max_two min_two max_three min_three max_four min_four   -- for this text's walks alone
set_option linter.unusedVariables false
set_option linter.unusedSimpArgs false

/-! ### debuggerlaw34_LinkDamages: function 7 -/
mutual
def debuggerlaw34_LinkDamages.j0 : Nat → List Int → List (S37) → Bool → List Int → Int → Int → Option (Bool)
  | 0, _, _, _, _, _, _ => none
  | k + 1, x0, x5, x28, x183000, x183001, x183002 => if x28 = true then (some false) else (debuggerlaw34_LinkDamages.l0 k x0 x5 0 x183000 x183001 x183002)
def debuggerlaw34_LinkDamages.l0 : Nat → List Int → List (S37) → Int → List Int → Int → Int → Option (Bool)
  | 0, _, _, _, _, _, _ => none
  | k + 1, x0, x5, x6, x183000, x183001, x183002 => if x6 < (x0.length : Int) then (if 0 < (x5.length : Int) then (if 0 ≤ x6 then (if x6 < (((rd_T37 x5 0).f1).length : Int) then (if (rd ((rd_T37 x5 0).f1) x6) = (rd x0 x6) then (debuggerlaw34_LinkDamages.j2 k x0 x5 x6 false x183000 x183001 x183002) else (if (Go.bits .and .i64 x183002 65535) = 0 then (debuggerlaw34_LinkDamages.j2 k x0 x5 x6 true x183000 x183001 x183002) else (if x6 = x183001 then (debuggerlaw34_LinkDamages.j2 k x0 x5 x6 false x183000 x183001 x183002) else (debuggerlaw34_LinkDamages.j2 k x0 x5 x6 ((wrap64 (x6 - 1)) != x183001) x183000 x183001 x183002)))) else (none)) else (none)) else (none)) else ((debuggerlaw34_awake.f k).bind fun t191 => (some t191))
def debuggerlaw34_LinkDamages.j2 : Nat → List Int → List (S37) → Int → Bool → List Int → Int → Int → Option (Bool)
  | 0, _, _, _, _, _, _, _ => none
  | k + 1, x0, x5, x6, x65, x183000, x183001, x183002 => if x65 = true then (some false) else (debuggerlaw34_LinkDamages.l0 k x0 x5 (wrap64 (x6 + 1)) x183000 x183001 x183002)
end
def debuggerlaw34_LinkDamages.f (k : Nat) (l0 : List Int) (l1_0 : List Int) (a1_1 : Int) (a1_2 : Int) : Option (Bool) := if (l0.length : Int) > 300 then ((debuggerlaw34_awake.f k).bind fun t183 => (some t183)) else ((some (([1] : List Int) : List Int)).bind fun y184 => ((link_Send.f k ([] : List (S37)) y184 a1_1 a1_2 l0 0).bind fun t187 => (if (t187.length : Int) = 1 then (if 0 < (t187.length : Int) then (debuggerlaw34_LinkDamages.j0 k l0 t187 ((((rd_T37 t187 0).f1).length : Int) != (l0.length : Int)) y184 a1_1 a1_2) else (none)) else (debuggerlaw34_LinkDamages.j0 k l0 t187 true y184 a1_1 a1_2))))
theorem debuggerlaw34_LinkDamages.mono_l : ∀ k, (∀ y0 y1 y2 y3 y4 y5, LeO (debuggerlaw34_LinkDamages.j0 k y0 y1 y2 y3 y4 y5) (debuggerlaw34_LinkDamages.j0 (k + 1) y0 y1 y2 y3 y4 y5)) ∧ (∀ y0 y1 y2 y3 y4 y5, LeO (debuggerlaw34_LinkDamages.l0 k y0 y1 y2 y3 y4 y5) (debuggerlaw34_LinkDamages.l0 (k + 1) y0 y1 y2 y3 y4 y5)) ∧ (∀ y0 y1 y2 y3 y4 y5 y6, LeO (debuggerlaw34_LinkDamages.j2 k y0 y1 y2 y3 y4 y5 y6) (debuggerlaw34_LinkDamages.j2 (k + 1) y0 y1 y2 y3 y4 y5 y6))
  | 0 => ⟨fun _ _ _ _ _ _ r h => by simp [debuggerlaw34_LinkDamages.j0] at h, fun _ _ _ _ _ _ r h => by simp [debuggerlaw34_LinkDamages.l0] at h, fun _ _ _ _ _ _ _ r h => by simp [debuggerlaw34_LinkDamages.j2] at h⟩
  | k + 1 => by
    obtain ⟨ih0, ih1, ih2⟩ := debuggerlaw34_LinkDamages.mono_l k
    refine ⟨?_, ?_, ?_⟩
    · intro y0 y1 y2 y3 y4 y5
      unfold debuggerlaw34_LinkDamages.j0
      repeat' first
      | (with_reducible exact ih0 _ _ _ _ _ _)
      | (with_reducible exact ih1 _ _ _ _ _ _)
      | (with_reducible exact ih2 _ _ _ _ _ _ _)
      | (with_reducible exact debuggerlaw34_awake.mono _)
      | (with_reducible exact link_Send.mono _ _ _ _ _ _ _)
      | (with_reducible exact LeO.refl _)
      | (with_reducible exact LeO.none _)
      | (with_reducible refine LeO.ite ?_ ?_)
      | (with_reducible refine LeO.bind ?_ (fun _ => ?_))
      | exact ih0 _ _ _ _ _ _
      | exact ih1 _ _ _ _ _ _
      | exact ih2 _ _ _ _ _ _ _
      | exact debuggerlaw34_awake.mono _
      | exact link_Send.mono _ _ _ _ _ _ _
      | exact LeO.none _
      | refine LeO.ite ?_ ?_
      | refine LeO.bind ?_ (fun _ => ?_)
    · intro y0 y1 y2 y3 y4 y5
      unfold debuggerlaw34_LinkDamages.l0
      repeat' first
      | (with_reducible exact ih0 _ _ _ _ _ _)
      | (with_reducible exact ih1 _ _ _ _ _ _)
      | (with_reducible exact ih2 _ _ _ _ _ _ _)
      | (with_reducible exact debuggerlaw34_awake.mono _)
      | (with_reducible exact link_Send.mono _ _ _ _ _ _ _)
      | (with_reducible exact LeO.refl _)
      | (with_reducible exact LeO.none _)
      | (with_reducible refine LeO.ite ?_ ?_)
      | (with_reducible refine LeO.bind ?_ (fun _ => ?_))
      | exact ih0 _ _ _ _ _ _
      | exact ih1 _ _ _ _ _ _
      | exact ih2 _ _ _ _ _ _ _
      | exact debuggerlaw34_awake.mono _
      | exact link_Send.mono _ _ _ _ _ _ _
      | exact LeO.none _
      | refine LeO.ite ?_ ?_
      | refine LeO.bind ?_ (fun _ => ?_)
    · intro y0 y1 y2 y3 y4 y5 y6
      unfold debuggerlaw34_LinkDamages.j2
      repeat' first
      | (with_reducible exact ih0 _ _ _ _ _ _)
      | (with_reducible exact ih1 _ _ _ _ _ _)
      | (with_reducible exact ih2 _ _ _ _ _ _ _)
      | (with_reducible exact debuggerlaw34_awake.mono _)
      | (with_reducible exact link_Send.mono _ _ _ _ _ _ _)
      | (with_reducible exact LeO.refl _)
      | (with_reducible exact LeO.none _)
      | (with_reducible refine LeO.ite ?_ ?_)
      | (with_reducible refine LeO.bind ?_ (fun _ => ?_))
      | exact ih0 _ _ _ _ _ _
      | exact ih1 _ _ _ _ _ _
      | exact ih2 _ _ _ _ _ _ _
      | exact debuggerlaw34_awake.mono _
      | exact link_Send.mono _ _ _ _ _ _ _
      | exact LeO.none _
      | refine LeO.ite ?_ ?_
      | refine LeO.bind ?_ (fun _ => ?_)
theorem debuggerlaw34_LinkDamages.mono : ∀ a0 a1 a2 a3 k, LeO (debuggerlaw34_LinkDamages.f k a0 a1 a2 a3) (debuggerlaw34_LinkDamages.f (k + 1) a0 a1 a2 a3) := by
  intro a0 a1 a2 a3 k
  obtain ⟨ih0, ih1, ih2⟩ := debuggerlaw34_LinkDamages.mono_l k
  unfold debuggerlaw34_LinkDamages.f
  repeat' first
      | (with_reducible exact ih0 _ _ _ _ _ _)
      | (with_reducible exact ih1 _ _ _ _ _ _)
      | (with_reducible exact ih2 _ _ _ _ _ _ _)
      | (with_reducible exact debuggerlaw34_awake.mono _)
      | (with_reducible exact link_Send.mono _ _ _ _ _ _ _)
      | (with_reducible exact LeO.refl _)
      | (with_reducible exact LeO.none _)
      | (with_reducible refine LeO.ite ?_ ?_)
      | (with_reducible refine LeO.bind ?_ (fun _ => ?_))
      | exact ih0 _ _ _ _ _ _
      | exact ih1 _ _ _ _ _ _
      | exact ih2 _ _ _ _ _ _ _
      | exact debuggerlaw34_awake.mono _
      | exact link_Send.mono _ _ _ _ _ _ _
      | exact LeO.none _
      | refine LeO.ite ?_ ?_
      | refine LeO.bind ?_ (fun _ => ?_)
set_option maxHeartbeats 8000000 in
set_option maxRecDepth 100000 in
theorem debuggerlaw34_LinkDamages.calls (k : Nat) (A0 : Option Addr) (c0 : Nat) (l0 : List Int) (A1_0 : Option Addr) (c1_0 : Nat) (l1_0 : List Int) (a1_1 : Int) (a1_2 : Int) (r : Bool) (w : World) (hr0 : Kd.C (Kd.int .u8) w A0 l0.length l0) (hc0 : l0.length ≤ c0) (hr1_0 : Kd.C (Kd.int .i64) w A1_0 l1_0.length l1_0) (hc1_0 : l1_0.length ≤ c1_0) (h : debuggerlaw34_LinkDamages.f k l0 l1_0 a1_1 a1_2 = some r) :
    Calls Try.prog 7 #[.slice A0 l0.length c0, .agg #[.slice A1_0 l1_0.length c1_0, .int .i64 a1_1, .int .i64 a1_2]] w fun e w' => e = .returned (.bool r) ∧ Below w.heap.size w w' := by
  have hu25 := Try.underlying25
  have HR0 := Aside0.mk hr0
  have HC0 := Aside0.mk hc0
  clear hr0 hc0
  have HR1_0 := Aside0.mk hr1_0
  have HC1_0 := Aside0.mk hc1_0
  clear hr1_0 hc1_0
  have HB := Aside0.mk (Below.refl w.heap.size w)
  have H : (if (l0.length : Int) > 300 then ((debuggerlaw34_awake.f k).bind fun t183 => (some t183)) else ((some (([1] : List Int) : List Int)).bind fun y184 => ((link_Send.f k ([] : List (S37)) y184 a1_1 a1_2 l0 0).bind fun t187 => (if (t187.length : Int) = 1 then (if 0 < (t187.length : Int) then (debuggerlaw34_LinkDamages.j0 k l0 t187 ((((rd_T37 t187 0).f1).length : Int) != (l0.length : Int)) y184 a1_1 a1_2) else (none)) else (debuggerlaw34_LinkDamages.j0 k l0 t187 true y184 a1_1 a1_2))))) = some r := h
  clear h
  by_cases c3 : (l0.length : Int) > 300
  · rw [if_pos c3] at H
    have c3b0 : decide (300 < (l0.length : Int)) = true := decide_eq_true c3
    have c3b1 : decide (300 < l0.length) = true := decide_eq_true (by omega)
    clear c3
    replace H := Option.bind_eq_some_iff.mp H
    obtain ⟨t183, A40, H⟩ := H
    replace H : (some t183) = some r := H
    have A4 := Aside0.mk A40
    clear A40
    obtain rfl := Option.some.inj H
    go_enter Try.func7, Try.ntmps7
    go_wp2_with (first | ((with_reducible refine gate_dst (N := 3) rfl ?_); (try (refine gate_guard (by rfl) ?_; dsimp only)); refine box_event ?hg (N := 3) ?hd (cs := #[.slice A1_0 l1_0.length c1_0, .int .i64 a1_1, .int .i64 a1_2]) (t := 25) ?hr ?_; (case hd => rfl); (case hg => rfl); (case hr => first | (go_simp; done) | (go_simp; rfl)); intro gb182 hg w5 hbox hb; have n0_ := Aside0.mk (below_step (by repeat (first | (with_reducible first | exact HB.out | apply below_alloc | apply pw_below_drewN | apply below_drew1) | exact HB.out)) hb); have n1_ := Aside0.mk (hbox); have n2_ := Aside0.mk ((by rw [hg]; exact (below_size (by repeat (first | (with_reducible first | exact HB.out | apply below_alloc | apply pw_below_drewN | apply below_drew1) | exact HB.out))) : w.heap.size ≤ gb182)); have n3_ := Aside0.mk ((by rw [hg]; exact (below_size (by repeat (first | (with_reducible first | exact HB.out | apply below_alloc | apply pw_below_drewN | apply below_drew1) | exact HB.out))) : w.heap.size ≤ gb182)); clear HB; have HB := n0_; have BK182 := n1_; have GW182 := n2_; have GE182 := n3_; clear n0_ n1_ n2_ n3_; clear hb hbox hg) | (go_at_call 9; (with_reducible refine (debuggerlaw34_awake.calls k  t183 _ A4.out).mono ?_); rintro e w6 ⟨rfl, hb⟩; have n0_ := Aside0.mk (blk_below (g := gb182) (o := .cells #[.slice A1_0 l1_0.length c1_0, .int .i64 a1_1, .int .i64 a1_2] 25 (0, 0)) (by (with_reducible repeat (first | refine blk_drewN ?_ _ | refine blk_drew ?_ | refine blk_alloc ?_ _)); exact BK182.out) hb); have n1_ := Aside0.mk (below_step (by repeat (first | (with_reducible first | exact HB.out | apply below_alloc | apply pw_below_drewN | apply below_drew1 | refine below_set ?_ GE182.out) | exact HB.out)) hb); clear BK182; clear HB; have BK182 := n0_; have HB := n1_; clear n0_ n1_; (try clear hb); (try clear hb2); (try clear hk); (try clear hi)))
    repeat (go_quiet (first | ((with_reducible refine gate_dst (N := 3) rfl ?_); (try (refine gate_guard (by rfl) ?_; dsimp only)); refine box_event ?hg (N := 3) ?hd (cs := #[.slice A1_0 l1_0.length c1_0, .int .i64 a1_1, .int .i64 a1_2]) (t := 25) ?hr ?_; (case hd => rfl); (case hg => rfl); (case hr => first | (go_simp; done) | (go_simp; rfl)); intro gb182 hg w5 hbox hb; have n0_ := Aside0.mk (below_step (by repeat (first | (with_reducible first | exact HB.out | apply below_alloc | apply pw_below_drewN | apply below_drew1) | exact HB.out)) hb); have n1_ := Aside0.mk (hbox); have n2_ := Aside0.mk ((by rw [hg]; exact (below_size (by repeat (first | (with_reducible first | exact HB.out | apply below_alloc | apply pw_below_drewN | apply below_drew1) | exact HB.out))) : w.heap.size ≤ gb182)); have n3_ := Aside0.mk ((by rw [hg]; exact (below_size (by repeat (first | (with_reducible first | exact HB.out | apply below_alloc | apply pw_below_drewN | apply below_drew1) | exact HB.out))) : w.heap.size ≤ gb182)); clear HB; have HB := n0_; have BK182 := n1_; have GW182 := n2_; have GE182 := n3_; clear n0_ n1_ n2_ n3_; clear hb hbox hg) | (go_at_call 9; (with_reducible refine (debuggerlaw34_awake.calls k  t183 _ A4.out).mono ?_); rintro e w6 ⟨rfl, hb⟩; have n0_ := Aside0.mk (blk_below (g := gb182) (o := .cells #[.slice A1_0 l1_0.length c1_0, .int .i64 a1_1, .int .i64 a1_2] 25 (0, 0)) (by (with_reducible repeat (first | refine blk_drewN ?_ _ | refine blk_drew ?_ | refine blk_alloc ?_ _)); exact BK182.out) hb); have n1_ := Aside0.mk (below_step (by repeat (first | (with_reducible first | exact HB.out | apply below_alloc | apply pw_below_drewN | apply below_drew1 | refine below_set ?_ GE182.out) | exact HB.out)) hb); clear BK182; clear HB; have BK182 := n0_; have HB := n1_; clear n0_ n1_; (try clear hb); (try clear hb2); (try clear hk); (try clear hi))); try go_wp2_with (first | ((with_reducible refine gate_dst (N := 3) rfl ?_); (try (refine gate_guard (by rfl) ?_; dsimp only)); refine box_event ?hg (N := 3) ?hd (cs := #[.slice A1_0 l1_0.length c1_0, .int .i64 a1_1, .int .i64 a1_2]) (t := 25) ?hr ?_; (case hd => rfl); (case hg => rfl); (case hr => first | (go_simp; done) | (go_simp; rfl)); intro gb182 hg w5 hbox hb; have n0_ := Aside0.mk (below_step (by repeat (first | (with_reducible first | exact HB.out | apply below_alloc | apply pw_below_drewN | apply below_drew1) | exact HB.out)) hb); have n1_ := Aside0.mk (hbox); have n2_ := Aside0.mk ((by rw [hg]; exact (below_size (by repeat (first | (with_reducible first | exact HB.out | apply below_alloc | apply pw_below_drewN | apply below_drew1) | exact HB.out))) : w.heap.size ≤ gb182)); have n3_ := Aside0.mk ((by rw [hg]; exact (below_size (by repeat (first | (with_reducible first | exact HB.out | apply below_alloc | apply pw_below_drewN | apply below_drew1) | exact HB.out))) : w.heap.size ≤ gb182)); clear HB; have HB := n0_; have BK182 := n1_; have GW182 := n2_; have GE182 := n3_; clear n0_ n1_ n2_ n3_; clear hb hbox hg) | (go_at_call 9; (with_reducible refine (debuggerlaw34_awake.calls k  t183 _ A4.out).mono ?_); rintro e w6 ⟨rfl, hb⟩; have n0_ := Aside0.mk (blk_below (g := gb182) (o := .cells #[.slice A1_0 l1_0.length c1_0, .int .i64 a1_1, .int .i64 a1_2] 25 (0, 0)) (by (with_reducible repeat (first | refine blk_drewN ?_ _ | refine blk_drew ?_ | refine blk_alloc ?_ _)); exact BK182.out) hb); have n1_ := Aside0.mk (below_step (by repeat (first | (with_reducible first | exact HB.out | apply below_alloc | apply pw_below_drewN | apply below_drew1 | refine below_set ?_ GE182.out) | exact HB.out)) hb); clear BK182; clear HB; have BK182 := n0_; have HB := n1_; clear n0_ n1_; (try clear hb); (try clear hb2); (try clear hk); (try clear hi))))
    go_ret
    exact ⟨by first | rfl | (simp [errW_none, errW_some] <;> rfl) | (simp [*, errW_none, errW_some] <;> rfl), by repeat (first | (with_reducible first | exact HB.out | apply below_alloc | apply pw_below_drewN | apply below_drew1 | refine below_set ?_ GE182.out) | exact HB.out)⟩
  · rw [if_neg c3] at H
    have c3b0 : decide (300 < (l0.length : Int)) = false := decide_eq_false c3
    have c3b1 : decide (300 < l0.length) = false := decide_eq_false (by omega)
    clear c3
    obtain ⟨y184, hy184⟩ : ∃ y_ : List Int, y_ = (([1] : List Int)) := ⟨_, rfl⟩
    replace H : ((link_Send.f k ([] : List (S37)) y184 a1_1 a1_2 l0 0).bind fun t187 => (if (t187.length : Int) = 1 then (if 0 < (t187.length : Int) then (debuggerlaw34_LinkDamages.j0 k l0 t187 ((((rd_T37 t187 0).f1).length : Int) != (l0.length : Int)) y184 a1_1 a1_2) else (none)) else (debuggerlaw34_LinkDamages.j0 k l0 t187 true y184 a1_1 a1_2))) = some r := by first | (rw [hy184]; with_reducible exact H) | (have H2_ := (Option.bind_some _ _).symm.trans H; rw [hy184]; with_reducible exact H2_) | (have H2_ := (Option.bind_some _ _).symm.trans H; with_reducible exact H2_) | with_reducible exact H | (rw [hy184]; exact H) | exact H
    have Ny184 := Aside0.mk hy184
    clear hy184
    replace H := Option.bind_eq_some_iff.mp H
    obtain ⟨t187, A70, H⟩ := H
    replace H : (if (t187.length : Int) = 1 then (if 0 < (t187.length : Int) then (debuggerlaw34_LinkDamages.j0 k l0 t187 ((((rd_T37 t187 0).f1).length : Int) != (l0.length : Int)) y184 a1_1 a1_2) else (none)) else (debuggerlaw34_LinkDamages.j0 k l0 t187 true y184 a1_1 a1_2)) = some r := H
    have A7 := Aside0.mk A70
    clear A70
    have HC8 := Aside0.mk H
    clear H
    go_enter Try.func7, Try.ntmps7
    go_upto_region 5 with (first | ((with_reducible refine gate_dst (N := 3) rfl ?_); (try (refine gate_guard (by rfl) ?_; dsimp only)); refine box_event ?hg (N := 3) ?hd (cs := #[.slice A1_0 l1_0.length c1_0, .int .i64 a1_1, .int .i64 a1_2]) (t := 25) ?hr ?_; (case hd => rfl); (case hg => rfl); (case hr => first | (go_simp; done) | (go_simp; rfl)); intro gb182 hg w9 hbox hb; have n0_ := Aside0.mk (below_step (by repeat (first | (with_reducible first | exact HB.out | apply below_alloc | apply pw_below_drewN | apply below_drew1) | exact HB.out)) hb); have n1_ := Aside0.mk (hbox); have n2_ := Aside0.mk ((by rw [hg]; exact (below_size (by repeat (first | (with_reducible first | exact HB.out | apply below_alloc | apply pw_below_drewN | apply below_drew1) | exact HB.out))) : w.heap.size ≤ gb182)); have n3_ := Aside0.mk ((by rw [hg]; exact (below_size (by repeat (first | (with_reducible first | exact HB.out | apply below_alloc | apply pw_below_drewN | apply below_drew1) | exact HB.out))) : w.heap.size ≤ gb182)); clear HB; have HB := n0_; have BK182 := n1_; have GW182 := n2_; have GE182 := n3_; clear n0_ n1_ n2_ n3_; clear hb hbox hg) | ((with_reducible refine gate_dst (N := 11) rfl ?_); (try (refine gate_guard (by rfl) ?_; dsimp only)); refine Kd.R_lit (Kd.int .i64) _ 3 ?hg (N := 11) ?hd (xs := ([1] : List Int)) (inner := [.int .i64 1]) (ok := fun _ => True) (okp := fun _ => True) ?hr ?hp (fun _ hk => hk) trivial (Below.refl _ _) (Nat.le_refl _) (by simp) ?_; (case hd => rfl); (case hg => rfl); (case hr => first | (go_simp; done) | (go_simp; rfl)); (case hp => exact (Reps.one (show Kd.M (Kd.int .i64) _ _ _ 1 [.int .i64 1] from rfl) (Reps.none _ _))); intro v185 w10 ho11 hb hg_ hnew_; clear hg_ hnew_; (first | rw [← Ny184.out] at ho11 | (simp only [Int.reduceToNat] at ho11; rw [← Ny184.out] at ho11)); have n0_ := Aside0.mk (Kd.R_lower ho11 (below_size (by repeat (first | (with_reducible first | exact HB.out | apply below_alloc | apply pw_below_drewN | apply below_drew1 | refine below_set ?_ GE182.out) | exact HB.out)))); have n1_ := Aside0.mk (blk_below (g := gb182) (o := .cells #[.slice A1_0 l1_0.length c1_0, .int .i64 a1_1, .int .i64 a1_2] 25 (0, 0)) (by (with_reducible repeat (first | refine blk_drewN ?_ _ | refine blk_drew ?_ | refine blk_alloc ?_ _)); exact BK182.out) hb); have n2_ := Aside0.mk (below_step (by repeat (first | (with_reducible first | exact HB.out | apply below_alloc | apply pw_below_drewN | apply below_drew1 | refine below_set ?_ GE182.out) | exact HB.out)) hb); clear BK182; clear HB; have HO186 := n0_; have BK182 := n1_; have HB := n2_; clear n0_ n1_ n2_; clear hb ho11; obtain ⟨Ao12, co12, eo12⟩ := Kd.R_slice HO186.out; subst eo12; have hcz13_0 : w10.cell? ⟨gb182, 0, none⟩ = some (.slice A1_0 l1_0.length c1_0) := (blk_cell BK182.out 0).trans rfl; have hcz13_1 : w10.cell? ⟨gb182, 1, none⟩ = some (.int .i64 a1_1) := (blk_cell BK182.out 1).trans rfl; have hcz13_2 : w10.cell? ⟨gb182, 2, none⟩ = some (.int .i64 a1_2) := (blk_cell BK182.out 2).trans rfl; have hfz13_0 := blk_frozen BK182.out 0; have hfz13_1 := blk_frozen BK182.out 1; have hfz13_2 := blk_frozen BK182.out 2) | (go_at_call 12; (with_reducible refine calls_of_args (args' := #[_, _, _, .int .i64 0]) rfl ?_); (refine (link_Send.calls k _ _ ([] : List (S37)) _ _ y184 a1_1 a1_2 _ _ l0 0 t187 _ ?side1 ?side2 ?side3 ?side4 ?side5 ?side6 A7.out).mono ?_); (case side1 => exact Kd.C_nil _ _); (case side2 => exact Nat.le_refl _); (case side3 => refine (Kd.R_reads' (e := 3) (base := w.heap.size) (ok := fun k_ => True) (n := y184.length) (c := co12) ?_).2.2; exact (by (with_reducible repeat (first | apply Kd.R_alloc | apply Kd.R_drewN | apply Kd.R_drew)); exact (Kd.R_mono (Kd.R_far (p := ⟨gb182, 0, none⟩) (Kd.R_types HO186.out BK182.out (by decide)) (fun _ hk => hk.2) (.slice Ao12 y184.length co12)) (fun _ h_ => h_.1)))); (case side4 => exact (Kd.R_reads' HO186.out).2.1); (case side5 => exact Kd.C_below HR0.out (by repeat (first | (with_reducible first | exact HB.out | apply below_alloc | apply pw_below_drewN | apply below_drew1 | refine below_set ?_ GE182.out) | exact HB.out))); (case side6 => exact HC0.out); rintro e w14 ⟨v188, rfl, ho0, hb⟩; have n0_ := Aside0.mk (Kd.R_below (by (with_reducible repeat (first | apply Kd.R_alloc | apply Kd.R_drewN | apply Kd.R_drew)); exact (Kd.R_mono (Kd.R_far (p := ⟨gb182, 0, none⟩) (Kd.R_types HO186.out BK182.out (by decide)) (fun _ hk => hk.2) (.slice Ao12 y184.length co12)) (fun _ h_ => h_.1))) hb); have n1_ := Aside0.mk (Kd.S_lower ho0 (below_size (by repeat (first | (with_reducible first | exact HB.out | apply below_alloc | apply pw_below_drewN | apply below_drew1 | refine below_set ?_ GE182.out) | exact HB.out)))); have n2_ := Aside0.mk (blk_below (g := gb182) (o := .cells #[.slice Ao12 y184.length co12, .int .i64 a1_1, .int .i64 a1_2] 25 (0, 0)) (by (with_reducible repeat (first | refine blk_drewN ?_ _ | refine blk_drew ?_ | refine blk_alloc ?_ _)); refine blk_put (cs := #[.slice A1_0 l1_0.length c1_0, .int .i64 a1_1, .int .i64 a1_2]) ?_ 0 _ rfl; (with_reducible repeat (first | refine blk_drewN ?_ _ | refine blk_drew ?_ | refine blk_alloc ?_ _)); exact BK182.out) hb); have n3_ := Aside0.mk (below_step (by repeat (first | (with_reducible first | exact HB.out | apply below_alloc | apply pw_below_drewN | apply below_drew1 | refine below_set ?_ GE182.out) | exact HB.out)) hb); clear HO186; clear BK182; clear HB; have HO186 := n0_; have HO189 := n1_; have BK182 := n2_; have HB := n3_; clear n0_ n1_ n2_ n3_; (try clear hb); (try clear hb2); (try clear hk); (try clear hi); (try clear ho0)))
    repeat (go_quiet (first | ((with_reducible refine gate_dst (N := 3) rfl ?_); (try (refine gate_guard (by rfl) ?_; dsimp only)); refine box_event ?hg (N := 3) ?hd (cs := #[.slice A1_0 l1_0.length c1_0, .int .i64 a1_1, .int .i64 a1_2]) (t := 25) ?hr ?_; (case hd => rfl); (case hg => rfl); (case hr => first | (go_simp; done) | (go_simp; rfl)); intro gb182 hg w9 hbox hb; have n0_ := Aside0.mk (below_step (by repeat (first | (with_reducible first | exact HB.out | apply below_alloc | apply pw_below_drewN | apply below_drew1) | exact HB.out)) hb); have n1_ := Aside0.mk (hbox); have n2_ := Aside0.mk ((by rw [hg]; exact (below_size (by repeat (first | (with_reducible first | exact HB.out | apply below_alloc | apply pw_below_drewN | apply below_drew1) | exact HB.out))) : w.heap.size ≤ gb182)); have n3_ := Aside0.mk ((by rw [hg]; exact (below_size (by repeat (first | (with_reducible first | exact HB.out | apply below_alloc | apply pw_below_drewN | apply below_drew1) | exact HB.out))) : w.heap.size ≤ gb182)); clear HB; have HB := n0_; have BK182 := n1_; have GW182 := n2_; have GE182 := n3_; clear n0_ n1_ n2_ n3_; clear hb hbox hg) | ((with_reducible refine gate_dst (N := 11) rfl ?_); (try (refine gate_guard (by rfl) ?_; dsimp only)); refine Kd.R_lit (Kd.int .i64) _ 3 ?hg (N := 11) ?hd (xs := ([1] : List Int)) (inner := [.int .i64 1]) (ok := fun _ => True) (okp := fun _ => True) ?hr ?hp (fun _ hk => hk) trivial (Below.refl _ _) (Nat.le_refl _) (by simp) ?_; (case hd => rfl); (case hg => rfl); (case hr => first | (go_simp; done) | (go_simp; rfl)); (case hp => exact (Reps.one (show Kd.M (Kd.int .i64) _ _ _ 1 [.int .i64 1] from rfl) (Reps.none _ _))); intro v185 w10 ho11 hb hg_ hnew_; clear hg_ hnew_; (first | rw [← Ny184.out] at ho11 | (simp only [Int.reduceToNat] at ho11; rw [← Ny184.out] at ho11)); have n0_ := Aside0.mk (Kd.R_lower ho11 (below_size (by repeat (first | (with_reducible first | exact HB.out | apply below_alloc | apply pw_below_drewN | apply below_drew1 | refine below_set ?_ GE182.out) | exact HB.out)))); have n1_ := Aside0.mk (blk_below (g := gb182) (o := .cells #[.slice A1_0 l1_0.length c1_0, .int .i64 a1_1, .int .i64 a1_2] 25 (0, 0)) (by (with_reducible repeat (first | refine blk_drewN ?_ _ | refine blk_drew ?_ | refine blk_alloc ?_ _)); exact BK182.out) hb); have n2_ := Aside0.mk (below_step (by repeat (first | (with_reducible first | exact HB.out | apply below_alloc | apply pw_below_drewN | apply below_drew1 | refine below_set ?_ GE182.out) | exact HB.out)) hb); clear BK182; clear HB; have HO186 := n0_; have BK182 := n1_; have HB := n2_; clear n0_ n1_ n2_; clear hb ho11; obtain ⟨Ao12, co12, eo12⟩ := Kd.R_slice HO186.out; subst eo12; have hcz13_0 : w10.cell? ⟨gb182, 0, none⟩ = some (.slice A1_0 l1_0.length c1_0) := (blk_cell BK182.out 0).trans rfl; have hcz13_1 : w10.cell? ⟨gb182, 1, none⟩ = some (.int .i64 a1_1) := (blk_cell BK182.out 1).trans rfl; have hcz13_2 : w10.cell? ⟨gb182, 2, none⟩ = some (.int .i64 a1_2) := (blk_cell BK182.out 2).trans rfl; have hfz13_0 := blk_frozen BK182.out 0; have hfz13_1 := blk_frozen BK182.out 1; have hfz13_2 := blk_frozen BK182.out 2) | (go_at_call 12; (with_reducible refine calls_of_args (args' := #[_, _, _, .int .i64 0]) rfl ?_); (refine (link_Send.calls k _ _ ([] : List (S37)) _ _ y184 a1_1 a1_2 _ _ l0 0 t187 _ ?side1 ?side2 ?side3 ?side4 ?side5 ?side6 A7.out).mono ?_); (case side1 => exact Kd.C_nil _ _); (case side2 => exact Nat.le_refl _); (case side3 => refine (Kd.R_reads' (e := 3) (base := w.heap.size) (ok := fun k_ => True) (n := y184.length) (c := co12) ?_).2.2; exact (by (with_reducible repeat (first | apply Kd.R_alloc | apply Kd.R_drewN | apply Kd.R_drew)); exact (Kd.R_mono (Kd.R_far (p := ⟨gb182, 0, none⟩) (Kd.R_types HO186.out BK182.out (by decide)) (fun _ hk => hk.2) (.slice Ao12 y184.length co12)) (fun _ h_ => h_.1)))); (case side4 => exact (Kd.R_reads' HO186.out).2.1); (case side5 => exact Kd.C_below HR0.out (by repeat (first | (with_reducible first | exact HB.out | apply below_alloc | apply pw_below_drewN | apply below_drew1 | refine below_set ?_ GE182.out) | exact HB.out))); (case side6 => exact HC0.out); rintro e w14 ⟨v188, rfl, ho0, hb⟩; have n0_ := Aside0.mk (Kd.R_below (by (with_reducible repeat (first | apply Kd.R_alloc | apply Kd.R_drewN | apply Kd.R_drew)); exact (Kd.R_mono (Kd.R_far (p := ⟨gb182, 0, none⟩) (Kd.R_types HO186.out BK182.out (by decide)) (fun _ hk => hk.2) (.slice Ao12 y184.length co12)) (fun _ h_ => h_.1))) hb); have n1_ := Aside0.mk (Kd.S_lower ho0 (below_size (by repeat (first | (with_reducible first | exact HB.out | apply below_alloc | apply pw_below_drewN | apply below_drew1 | refine below_set ?_ GE182.out) | exact HB.out)))); have n2_ := Aside0.mk (blk_below (g := gb182) (o := .cells #[.slice Ao12 y184.length co12, .int .i64 a1_1, .int .i64 a1_2] 25 (0, 0)) (by (with_reducible repeat (first | refine blk_drewN ?_ _ | refine blk_drew ?_ | refine blk_alloc ?_ _)); refine blk_put (cs := #[.slice A1_0 l1_0.length c1_0, .int .i64 a1_1, .int .i64 a1_2]) ?_ 0 _ rfl; (with_reducible repeat (first | refine blk_drewN ?_ _ | refine blk_drew ?_ | refine blk_alloc ?_ _)); exact BK182.out) hb); have n3_ := Aside0.mk (below_step (by repeat (first | (with_reducible first | exact HB.out | apply below_alloc | apply pw_below_drewN | apply below_drew1 | refine below_set ?_ GE182.out) | exact HB.out)) hb); clear HO186; clear BK182; clear HB; have HO186 := n0_; have HO189 := n1_; have BK182 := n2_; have HB := n3_; clear n0_ n1_ n2_ n3_; (try clear hb); (try clear hb2); (try clear hk); (try clear hi); (try clear ho0))); go_upto_region 5 with (first | ((with_reducible refine gate_dst (N := 3) rfl ?_); (try (refine gate_guard (by rfl) ?_; dsimp only)); refine box_event ?hg (N := 3) ?hd (cs := #[.slice A1_0 l1_0.length c1_0, .int .i64 a1_1, .int .i64 a1_2]) (t := 25) ?hr ?_; (case hd => rfl); (case hg => rfl); (case hr => first | (go_simp; done) | (go_simp; rfl)); intro gb182 hg w9 hbox hb; have n0_ := Aside0.mk (below_step (by repeat (first | (with_reducible first | exact HB.out | apply below_alloc | apply pw_below_drewN | apply below_drew1) | exact HB.out)) hb); have n1_ := Aside0.mk (hbox); have n2_ := Aside0.mk ((by rw [hg]; exact (below_size (by repeat (first | (with_reducible first | exact HB.out | apply below_alloc | apply pw_below_drewN | apply below_drew1) | exact HB.out))) : w.heap.size ≤ gb182)); have n3_ := Aside0.mk ((by rw [hg]; exact (below_size (by repeat (first | (with_reducible first | exact HB.out | apply below_alloc | apply pw_below_drewN | apply below_drew1) | exact HB.out))) : w.heap.size ≤ gb182)); clear HB; have HB := n0_; have BK182 := n1_; have GW182 := n2_; have GE182 := n3_; clear n0_ n1_ n2_ n3_; clear hb hbox hg) | ((with_reducible refine gate_dst (N := 11) rfl ?_); (try (refine gate_guard (by rfl) ?_; dsimp only)); refine Kd.R_lit (Kd.int .i64) _ 3 ?hg (N := 11) ?hd (xs := ([1] : List Int)) (inner := [.int .i64 1]) (ok := fun _ => True) (okp := fun _ => True) ?hr ?hp (fun _ hk => hk) trivial (Below.refl _ _) (Nat.le_refl _) (by simp) ?_; (case hd => rfl); (case hg => rfl); (case hr => first | (go_simp; done) | (go_simp; rfl)); (case hp => exact (Reps.one (show Kd.M (Kd.int .i64) _ _ _ 1 [.int .i64 1] from rfl) (Reps.none _ _))); intro v185 w10 ho11 hb hg_ hnew_; clear hg_ hnew_; (first | rw [← Ny184.out] at ho11 | (simp only [Int.reduceToNat] at ho11; rw [← Ny184.out] at ho11)); have n0_ := Aside0.mk (Kd.R_lower ho11 (below_size (by repeat (first | (with_reducible first | exact HB.out | apply below_alloc | apply pw_below_drewN | apply below_drew1 | refine below_set ?_ GE182.out) | exact HB.out)))); have n1_ := Aside0.mk (blk_below (g := gb182) (o := .cells #[.slice A1_0 l1_0.length c1_0, .int .i64 a1_1, .int .i64 a1_2] 25 (0, 0)) (by (with_reducible repeat (first | refine blk_drewN ?_ _ | refine blk_drew ?_ | refine blk_alloc ?_ _)); exact BK182.out) hb); have n2_ := Aside0.mk (below_step (by repeat (first | (with_reducible first | exact HB.out | apply below_alloc | apply pw_below_drewN | apply below_drew1 | refine below_set ?_ GE182.out) | exact HB.out)) hb); clear BK182; clear HB; have HO186 := n0_; have BK182 := n1_; have HB := n2_; clear n0_ n1_ n2_; clear hb ho11; obtain ⟨Ao12, co12, eo12⟩ := Kd.R_slice HO186.out; subst eo12; have hcz13_0 : w10.cell? ⟨gb182, 0, none⟩ = some (.slice A1_0 l1_0.length c1_0) := (blk_cell BK182.out 0).trans rfl; have hcz13_1 : w10.cell? ⟨gb182, 1, none⟩ = some (.int .i64 a1_1) := (blk_cell BK182.out 1).trans rfl; have hcz13_2 : w10.cell? ⟨gb182, 2, none⟩ = some (.int .i64 a1_2) := (blk_cell BK182.out 2).trans rfl; have hfz13_0 := blk_frozen BK182.out 0; have hfz13_1 := blk_frozen BK182.out 1; have hfz13_2 := blk_frozen BK182.out 2) | (go_at_call 12; (with_reducible refine calls_of_args (args' := #[_, _, _, .int .i64 0]) rfl ?_); (refine (link_Send.calls k _ _ ([] : List (S37)) _ _ y184 a1_1 a1_2 _ _ l0 0 t187 _ ?side1 ?side2 ?side3 ?side4 ?side5 ?side6 A7.out).mono ?_); (case side1 => exact Kd.C_nil _ _); (case side2 => exact Nat.le_refl _); (case side3 => refine (Kd.R_reads' (e := 3) (base := w.heap.size) (ok := fun k_ => True) (n := y184.length) (c := co12) ?_).2.2; exact (by (with_reducible repeat (first | apply Kd.R_alloc | apply Kd.R_drewN | apply Kd.R_drew)); exact (Kd.R_mono (Kd.R_far (p := ⟨gb182, 0, none⟩) (Kd.R_types HO186.out BK182.out (by decide)) (fun _ hk => hk.2) (.slice Ao12 y184.length co12)) (fun _ h_ => h_.1)))); (case side4 => exact (Kd.R_reads' HO186.out).2.1); (case side5 => exact Kd.C_below HR0.out (by repeat (first | (with_reducible first | exact HB.out | apply below_alloc | apply pw_below_drewN | apply below_drew1 | refine below_set ?_ GE182.out) | exact HB.out))); (case side6 => exact HC0.out); rintro e w14 ⟨v188, rfl, ho0, hb⟩; have n0_ := Aside0.mk (Kd.R_below (by (with_reducible repeat (first | apply Kd.R_alloc | apply Kd.R_drewN | apply Kd.R_drew)); exact (Kd.R_mono (Kd.R_far (p := ⟨gb182, 0, none⟩) (Kd.R_types HO186.out BK182.out (by decide)) (fun _ hk => hk.2) (.slice Ao12 y184.length co12)) (fun _ h_ => h_.1))) hb); have n1_ := Aside0.mk (Kd.S_lower ho0 (below_size (by repeat (first | (with_reducible first | exact HB.out | apply below_alloc | apply pw_below_drewN | apply below_drew1 | refine below_set ?_ GE182.out) | exact HB.out)))); have n2_ := Aside0.mk (blk_below (g := gb182) (o := .cells #[.slice Ao12 y184.length co12, .int .i64 a1_1, .int .i64 a1_2] 25 (0, 0)) (by (with_reducible repeat (first | refine blk_drewN ?_ _ | refine blk_drew ?_ | refine blk_alloc ?_ _)); refine blk_put (cs := #[.slice A1_0 l1_0.length c1_0, .int .i64 a1_1, .int .i64 a1_2]) ?_ 0 _ rfl; (with_reducible repeat (first | refine blk_drewN ?_ _ | refine blk_drew ?_ | refine blk_alloc ?_ _)); exact BK182.out) hb); have n3_ := Aside0.mk (below_step (by repeat (first | (with_reducible first | exact HB.out | apply below_alloc | apply pw_below_drewN | apply below_drew1 | refine below_set ?_ GE182.out) | exact HB.out)) hb); clear HO186; clear BK182; clear HB; have HO186 := n0_; have HO189 := n1_; have BK182 := n2_; have HB := n3_; clear n0_ n1_ n2_ n3_; (try clear hb); (try clear hb2); (try clear hk); (try clear hi); (try clear ho0))))
    (try simp only [Act.put, List.setIfInBounds_toArray, List.set_cons_zero, List.set_cons_succ])
    go_cut [28] (fun v28 wc => ∃ (kq : Nat) (x28_7 : Bool), v28 = .bool x28_7 ∧ Aside0 (debuggerlaw34_LinkDamages.j0 kq l0 t187 x28_7 y184 a1_1 a1_2 = some r) ∧ Aside0 (kq ≤ k) ∧ Aside0 (Kd.S k37 37 wc w.heap.size (fun _ => True) v188 t187) ∧ Aside0 (Kd.R (Kd.int .i64) 3 wc w.heap.size (fun _ => True) (.slice Ao12 y184.length co12) y184) ∧ Aside0 (wc.heap[gb182]? = some (.cells #[(.slice Ao12 y184.length co12), .int .i64 a1_1, .int .i64 a1_2] 25 (0, 0))) ∧ Aside0 (Below w.heap.size w wc))
    case first =>
      have H := HC8.out
      clear HC8
      by_cases c15 : (t187.length : Int) = 1
      · rw [if_pos c15] at H
        have c15b0 : ((t187.length : Int) == 1) = true := beq_iff_eq.mpr c15
        have c15b1 : ((t187.length : Int) != 1) = false := bne_eq_false_iff_eq.mpr c15
        clear c15
        (first | rw [c15b0] | (simp only [i64_w, i32_w]; rw [c15b0]) | skip)
        by_cases c16 : 0 < (t187.length : Int)
        · rw [if_pos c16] at H
          have c16b0 : decide (0 < (t187.length : Int)) = true := decide_eq_true c16
          have c16b1 : decide (0 < t187.length) = true := decide_eq_true (by omega)
          clear c16
          have H' := Aside0.mk H
          clear H
          obtain ⟨Ao17, co17, eo17⟩ := Kd.S_slice HO189.out
          subst eo17
          have p190 : 0 ≤ (0 : Int) := (by omega)
          have q190 : 0 < (t187.length : Int) := of_decide_eq_true (by first | (with_reducible assumption) | assumption)
          obtain ⟨ad190, A190_1, c190_1, e190, hx190_0, hx190_1, hl190_1, hi190_1⟩ := at_T37 (Kd.S_reads' HO189.out).2.2 0 p190 q190
          cases e190
          obtain ⟨ce190, hce190, hMe190, hcc190⟩ := Kd.S_get HO189.out z37 0 p190 (by first | exact q190 | exact of_decide_eq_true (by first | (with_reducible assumption) | assumption) | (have e_ := (Kd.S_reads' HO189.out).1; omega))
          obtain ⟨ve190_1, rfl, ge190_1⟩ := k37_openM hMe190
          have hv190_1 := hcc190 1 _ rfl
          rw [add_field _ _ 1 (by omega)] at hv190_1
          replace hv190_1 := Option.some.inj (hv190_1.symm.trans hx190_1)
          rw [hv190_1] at ge190_1
          have HL190_1 := Aside0.mk (show Kd.R (Kd.int .u8) 5 _ _ _ _ ((rd_T37 t187 0).f1) from ge190_1)
          clear hv190_1 ge190_1
          clear hcc190 hce190
          have qi190 : (0 < t187.length) = True := eq_true (by omega)
          (try rw [show ((0 : Int)).toNat = 0 from rfl] at hx190_0)
          (try rw [show 0 * 2 = 0 from rfl] at hx190_0)
          (try rw [Addr.add_zero'] at hx190_0)
          (try rw [show ((0 : Int)).toNat = 0 from rfl] at hx190_1)
          (try rw [show 0 * 2 = 0 from rfl] at hx190_1)
          (try rw [Addr.add_zero'] at hx190_1)
          have HR190_1 := Aside0.mk hi190_1
          have HC190_1 := Aside0.mk hl190_1
          clear hi190_1 hl190_1
          replace p190 := eq_true p190
          replace q190 := eq_true q190
          go_wp2
          repeat (go_quiet (fail); try go_wp2)
          go_meet
          case rel => exact ⟨_, (((((rd_T37 t187 0).f1).length : Int) != (l0.length : Int))), (by first | rfl | (simp; done) | (simp [*]; done)), H', ⟨by first | omega | exact Nat.le_refl _⟩, ⟨by (with_reducible repeat (first | apply Kd.S_alloc | apply Kd.S_drewN | apply Kd.S_drew)); exact HO189.out⟩, ⟨by (with_reducible repeat (first | apply Kd.R_alloc | apply Kd.R_drewN | apply Kd.R_drew)); exact HO186.out⟩, ⟨by (with_reducible repeat (first | refine blk_drewN ?_ _ | refine blk_drew ?_ | refine blk_alloc ?_ _)); exact BK182.out⟩, ⟨by repeat (first | (with_reducible first | exact HB.out | apply below_alloc | apply pw_below_drewN | apply below_drew1 | refine below_set ?_ GE182.out) | exact HB.out)⟩⟩
        · rw [if_neg c16] at H
          exact absurd H (by simp)
      · rw [if_neg c15] at H
        have c15b0 : ((t187.length : Int) == 1) = false := beq_eq_false_iff_ne.mpr c15
        have c15b1 : ((t187.length : Int) != 1) = true := bne_iff_ne.mpr c15
        (first | rw [c15b0] | (simp only [i64_w, i32_w]; rw [c15b0]) | skip)
        have H' := Aside0.mk H
        clear H
        obtain ⟨Ao18, co18, eo18⟩ := Kd.S_slice HO189.out
        subst eo18
        go_wp2
        repeat (go_quiet (fail); try go_wp2)
        go_meet
        case rel => exact ⟨_, (true), (by first | rfl | (simp; done) | (simp [*]; done)), H', ⟨by first | omega | exact Nat.le_refl _⟩, ⟨by (with_reducible repeat (first | apply Kd.S_alloc | apply Kd.S_drewN | apply Kd.S_drew)); exact HO189.out⟩, ⟨by (with_reducible repeat (first | apply Kd.R_alloc | apply Kd.R_drewN | apply Kd.R_drew)); exact HO186.out⟩, ⟨by (with_reducible repeat (first | refine blk_drewN ?_ _ | refine blk_drew ?_ | refine blk_alloc ?_ _)); exact BK182.out⟩, ⟨by repeat (first | (with_reducible first | exact HB.out | apply below_alloc | apply pw_below_drewN | apply below_drew1 | refine below_set ?_ GE182.out) | exact HB.out)⟩⟩
    case rest =>
      clear HC8
      try clear c1
      try clear p1
      try clear q1
      try clear hx1
      try clear qi1
      try clear p2
      try clear c3
      try clear c3b0
      try clear c3b1
      try clear c7
      try clear c15
      try clear c15b0
      try clear c15b1
      try clear c16
      try clear c16b0
      try clear c16b1
      try clear hcz13_0
      try clear hcz13_1
      try clear hcz13_2
      try clear hfz13_0
      try clear hfz13_1
      try clear hfz13_2
      try clear hx190_0
      try clear hx190_1
      try clear p190
      try clear q190
      obtain ⟨kq, x28_7, rfl, HA, HJ7, HO_5, HO_183000, BK182, HB⟩ := hcut
      cases kq with
      | zero => exact absurd HA.out (by simp [debuggerlaw34_LinkDamages.j0])
      | succ kj7 =>
        have H := HA.out
        clear HA
        simp only [debuggerlaw34_LinkDamages.j0] at H
        by_cases c19 : x28_7 = true
        · subst c19
          have H1 : (some false) = some r := by rw [if_pos rfl] at H; exact H
          clear H
          have H := H1
          clear H1
          obtain rfl := Option.some.inj H
          go_wp2
          repeat (go_quiet (fail); try go_wp2)
          go_ret
          exact ⟨by first | rfl | (simp [errW_none, errW_some] <;> rfl) | (simp [*, errW_none, errW_some] <;> rfl), by repeat (first | (with_reducible first | exact HB.out | apply below_alloc | apply pw_below_drewN | apply below_drew1 | refine below_set ?_ GE182.out) | exact HB.out)⟩
        · replace c19 := Bool.eq_false_iff.mpr c19
          subst c19
          have H1 : (debuggerlaw34_LinkDamages.l0 kj7 l0 t187 0 y184 a1_1 a1_2) = some r := by rw [if_neg (show ¬ (false = true) by decide)] at H; exact H
          clear H
          have H := H1
          clear H1
          have H' := Aside0.mk H
          clear H
          go_wp2
          repeat (go_quiet (fail); try go_wp2)
          go_loopg [6] kj7 (fun kq v6 w' => ∃ (x6_2 : Int), v6 = .int .i64 x6_2 ∧ Aside0 (debuggerlaw34_LinkDamages.l0 kq l0 t187 x6_2 y184 a1_1 a1_2 = some r) ∧ Aside0 (kq ≤ kj7) ∧ Aside0 (Kd.S k37 37 w' w.heap.size (fun _ => True) v188 t187) ∧ Aside0 (Kd.R (Kd.int .i64) 3 w' w.heap.size (fun _ => True) (.slice Ao12 y184.length co12) y184) ∧ Aside0 (w'.heap[gb182]? = some (.cells #[(.slice Ao12 y184.length co12), .int .i64 a1_1, .int .i64 a1_2] 25 (0, 0))) ∧ Aside0 (Below w.heap.size w w'))
          case atStart => exact ⟨(0), (by first | rfl | (simp; done) | (simp [*]; done)), H', ⟨Nat.le_refl _⟩, ⟨by (with_reducible repeat (first | apply Kd.S_alloc | apply Kd.S_drewN | apply Kd.S_drew)); exact HO_5.out⟩, ⟨by (with_reducible repeat (first | apply Kd.R_alloc | apply Kd.R_drewN | apply Kd.R_drew)); exact HO_183000.out⟩, ⟨by (with_reducible repeat (first | refine blk_drewN ?_ _ | refine blk_drew ?_ | refine blk_alloc ?_ _)); exact BK182.out⟩, ⟨by repeat (first | (with_reducible first | exact HB.out | apply below_alloc | apply pw_below_drewN | apply below_drew1 | refine below_set ?_ GE182.out) | exact HB.out)⟩⟩
          case round =>
            clear H'
            try clear c1
            try clear p1
            try clear q1
            try clear hx1
            try clear qi1
            try clear p2
            try clear c3
            try clear c3b0
            try clear c3b1
            try clear c7
            try clear c15
            try clear c15b0
            try clear c15b1
            try clear c16
            try clear c16b0
            try clear c16b1
            try clear c19
            try clear p19
            try clear q19
            try clear hx19
            try clear qi19
            try clear hcz13_0
            try clear hcz13_1
            try clear hcz13_2
            try clear hfz13_0
            try clear hfz13_1
            try clear hfz13_2
            try clear hx190_0
            try clear hx190_1
            try clear p1
            try clear p190
            try clear p2
            try clear q1
            try clear q190
            obtain ⟨x6_2, rfl, HA, HK2, HO_5, HO_183000, BK182, HB⟩ := hrel
            cases gk with
            | zero => exact absurd HA.out (by simp [debuggerlaw34_LinkDamages.l0])
            | succ k2 =>
              have H := HA.out
              clear HA
              simp only [debuggerlaw34_LinkDamages.l0] at H
              by_cases c20 : x6_2 < (l0.length : Int)
              · rw [if_pos c20] at H
                have c20b0 : decide (x6_2 < (l0.length : Int)) = true := decide_eq_true c20
                clear c20
                have HC21 := Aside0.mk H
                clear H
                go_upto_region 10 with (fail)
                repeat (go_quiet (fail); go_upto_region 10 with (fail))
                go_cut [65] (fun v65 wc => ∃ (kq : Nat) (x65_20 : Bool), v65 = .bool x65_20 ∧ Aside0 (debuggerlaw34_LinkDamages.j2 kq l0 t187 x6_2 x65_20 y184 a1_1 a1_2 = some r) ∧ Aside0 (kq ≤ k2) ∧ Aside0 (Kd.S k37 37 wc w.heap.size (fun _ => True) v188 t187) ∧ Aside0 (Kd.R (Kd.int .i64) 3 wc w.heap.size (fun _ => True) (.slice Ao12 y184.length co12) y184) ∧ Aside0 (wc.heap[gb182]? = some (.cells #[(.slice Ao12 y184.length co12), .int .i64 a1_1, .int .i64 a1_2] 25 (0, 0))) ∧ Aside0 (Below w.heap.size w wc))
                case first =>
                  have H := HC21.out
                  clear HC21
                  by_cases c22 : 0 < (t187.length : Int)
                  · rw [if_pos c22] at H
                    have c22b0 : decide (0 < (t187.length : Int)) = true := decide_eq_true c22
                    have c22b1 : decide (0 < t187.length) = true := decide_eq_true (by omega)
                    clear c22
                    (first | rw [c22b0] | (simp only [i64_w, i32_w]; rw [c22b0]) | skip)
                    by_cases c23 : 0 ≤ x6_2
                    · rw [if_pos c23] at H
                      have c23b0 : decide (0 ≤ x6_2) = true := decide_eq_true c23
                      clear c23
                      by_cases c24 : x6_2 < (((rd_T37 t187 0).f1).length : Int)
                      · rw [if_pos c24] at H
                        have c24b0 : decide (x6_2 < (((rd_T37 t187 0).f1).length : Int)) = true := decide_eq_true c24
                        clear c24
                        by_cases c25 : (rd ((rd_T37 t187 0).f1) x6_2) = (rd l0 x6_2)
                        · rw [if_pos c25] at H
                          have c25b0 : ((rd ((rd_T37 t187 0).f1) x6_2) == (rd l0 x6_2)) = true := beq_iff_eq.mpr c25
                          have c25b1 : ((rd ((rd_T37 t187 0).f1) x6_2) != (rd l0 x6_2)) = false := bne_eq_false_iff_eq.mpr c25
                          clear c25
                          have H' := Aside0.mk H
                          clear H
                          obtain ⟨Ao26, co26, eo26⟩ := Kd.S_slice HO_5.out
                          subst eo26
                          have p192 : 0 ≤ (0 : Int) := (by omega)
                          have q192 : 0 < (t187.length : Int) := of_decide_eq_true (by first | (with_reducible assumption) | assumption)
                          obtain ⟨ad192, A192_1, c192_1, e192, hx192_0, hx192_1, hl192_1, hi192_1⟩ := at_T37 (Kd.S_reads' HO_5.out).2.2 0 p192 q192
                          cases e192
                          obtain ⟨ce192, hce192, hMe192, hcc192⟩ := Kd.S_get HO_5.out z37 0 p192 (by first | exact q192 | exact of_decide_eq_true (by first | (with_reducible assumption) | assumption) | (have e_ := (Kd.S_reads' HO_5.out).1; omega))
                          obtain ⟨ve192_1, rfl, ge192_1⟩ := k37_openM hMe192
                          have hv192_1 := hcc192 1 _ rfl
                          rw [add_field _ _ 1 (by omega)] at hv192_1
                          replace hv192_1 := Option.some.inj (hv192_1.symm.trans hx192_1)
                          rw [hv192_1] at ge192_1
                          have HL192_1 := Aside0.mk (show Kd.R (Kd.int .u8) 5 _ _ _ _ ((rd_T37 t187 0).f1) from ge192_1)
                          clear hv192_1 ge192_1
                          clear hcc192 hce192
                          have qi192 : (0 < t187.length) = True := eq_true (by omega)
                          (try rw [show ((0 : Int)).toNat = 0 from rfl] at hx192_0)
                          (try rw [show 0 * 2 = 0 from rfl] at hx192_0)
                          (try rw [Addr.add_zero'] at hx192_0)
                          (try rw [show ((0 : Int)).toNat = 0 from rfl] at hx192_1)
                          (try rw [show 0 * 2 = 0 from rfl] at hx192_1)
                          (try rw [Addr.add_zero'] at hx192_1)
                          have HR192_1 := Aside0.mk hi192_1
                          have HC192_1 := Aside0.mk hl192_1
                          clear hi192_1 hl192_1
                          replace p192 := eq_true p192
                          replace q192 := eq_true q192
                          have p193 : 0 ≤ (x6_2 : Int) := of_decide_eq_true (by first | (with_reducible assumption) | assumption)
                          have q193 : x6_2 < (((rd_T37 t187 0).f1).length : Int) := of_decide_eq_true (by first | (with_reducible assumption) | assumption)
                          obtain ⟨ad193, e193, hx193_0⟩ := Kd.at_int (by repeat (first | (with_reducible exact HR192_1.out) | (with_reducible refine Kd.C_alloc ?_ _) | (with_reducible refine Kd.C_drewN ?_ _) | (with_reducible refine Kd.C_drew ?_) | exact HR192_1.out)) x6_2 p193 q193
                          cases e193
                          replace p193 := eq_true p193
                          replace q193 := eq_true q193
                          have p194 : 0 ≤ (x6_2 : Int) := of_decide_eq_true (by first | (with_reducible assumption) | assumption)
                          have q194 : x6_2 < (l0.length : Int) := of_decide_eq_true (by first | (with_reducible assumption) | assumption)
                          obtain ⟨ad194, e194, hx194_0⟩ := Kd.at_int HR0.out x6_2 p194 q194
                          cases e194
                          replace hx194_0 := (HB.out.cell (World.block_lt_of_cell? w _ hx194_0)).trans hx194_0
                          replace p194 := eq_true p194
                          replace q194 := eq_true q194
                          go_wp2
                          repeat (go_quiet (fail); try go_wp2)
                          go_meet
                          case rel => exact ⟨_, (false), (by first | rfl | (simp; done) | (simp [*]; done)), H', ⟨by have := HJ7.out; have := HK2.out; first | omega | exact Nat.le_refl _⟩, ⟨by (with_reducible repeat (first | apply Kd.S_alloc | apply Kd.S_drewN | apply Kd.S_drew)); exact HO_5.out⟩, ⟨by (with_reducible repeat (first | apply Kd.R_alloc | apply Kd.R_drewN | apply Kd.R_drew)); exact HO_183000.out⟩, ⟨by (with_reducible repeat (first | refine blk_drewN ?_ _ | refine blk_drew ?_ | refine blk_alloc ?_ _)); exact BK182.out⟩, ⟨by repeat (first | (with_reducible first | exact HB.out | apply below_alloc | apply pw_below_drewN | apply below_drew1 | refine below_set ?_ GE182.out) | exact HB.out)⟩⟩
                        · rw [if_neg c25] at H
                          have c25b0 : ((rd ((rd_T37 t187 0).f1) x6_2) == (rd l0 x6_2)) = false := beq_eq_false_iff_ne.mpr c25
                          have c25b1 : ((rd ((rd_T37 t187 0).f1) x6_2) != (rd l0 x6_2)) = true := bne_iff_ne.mpr c25
                          by_cases c27 : (Go.bits .and .i64 a1_2 65535) = 0
                          · rw [if_pos c27] at H
                            have c27b0 : ((Go.bits .and .i64 a1_2 65535) == 0) = true := beq_iff_eq.mpr c27
                            have c27b1 : ((Go.bits .and .i64 a1_2 65535) != 0) = false := bne_eq_false_iff_eq.mpr c27
                            clear c27
                            have H' := Aside0.mk H
                            clear H
                            obtain ⟨Ao28, co28, eo28⟩ := Kd.S_slice HO_5.out
                            subst eo28
                            have p192 : 0 ≤ (0 : Int) := (by omega)
                            have q192 : 0 < (t187.length : Int) := of_decide_eq_true (by first | (with_reducible assumption) | assumption)
                            obtain ⟨ad192, A192_1, c192_1, e192, hx192_0, hx192_1, hl192_1, hi192_1⟩ := at_T37 (Kd.S_reads' HO_5.out).2.2 0 p192 q192
                            cases e192
                            obtain ⟨ce192, hce192, hMe192, hcc192⟩ := Kd.S_get HO_5.out z37 0 p192 (by first | exact q192 | exact of_decide_eq_true (by first | (with_reducible assumption) | assumption) | (have e_ := (Kd.S_reads' HO_5.out).1; omega))
                            obtain ⟨ve192_1, rfl, ge192_1⟩ := k37_openM hMe192
                            have hv192_1 := hcc192 1 _ rfl
                            rw [add_field _ _ 1 (by omega)] at hv192_1
                            replace hv192_1 := Option.some.inj (hv192_1.symm.trans hx192_1)
                            rw [hv192_1] at ge192_1
                            have HL192_1 := Aside0.mk (show Kd.R (Kd.int .u8) 5 _ _ _ _ ((rd_T37 t187 0).f1) from ge192_1)
                            clear hv192_1 ge192_1
                            clear hcc192 hce192
                            have qi192 : (0 < t187.length) = True := eq_true (by omega)
                            (try rw [show ((0 : Int)).toNat = 0 from rfl] at hx192_0)
                            (try rw [show 0 * 2 = 0 from rfl] at hx192_0)
                            (try rw [Addr.add_zero'] at hx192_0)
                            (try rw [show ((0 : Int)).toNat = 0 from rfl] at hx192_1)
                            (try rw [show 0 * 2 = 0 from rfl] at hx192_1)
                            (try rw [Addr.add_zero'] at hx192_1)
                            have HR192_1 := Aside0.mk hi192_1
                            have HC192_1 := Aside0.mk hl192_1
                            clear hi192_1 hl192_1
                            replace p192 := eq_true p192
                            replace q192 := eq_true q192
                            have p193 : 0 ≤ (x6_2 : Int) := of_decide_eq_true (by first | (with_reducible assumption) | assumption)
                            have q193 : x6_2 < (((rd_T37 t187 0).f1).length : Int) := of_decide_eq_true (by first | (with_reducible assumption) | assumption)
                            obtain ⟨ad193, e193, hx193_0⟩ := Kd.at_int (by repeat (first | (with_reducible exact HR192_1.out) | (with_reducible refine Kd.C_alloc ?_ _) | (with_reducible refine Kd.C_drewN ?_ _) | (with_reducible refine Kd.C_drew ?_) | exact HR192_1.out)) x6_2 p193 q193
                            cases e193
                            replace p193 := eq_true p193
                            replace q193 := eq_true q193
                            have p194 : 0 ≤ (x6_2 : Int) := of_decide_eq_true (by first | (with_reducible assumption) | assumption)
                            have q194 : x6_2 < (l0.length : Int) := of_decide_eq_true (by first | (with_reducible assumption) | assumption)
                            obtain ⟨ad194, e194, hx194_0⟩ := Kd.at_int HR0.out x6_2 p194 q194
                            cases e194
                            replace hx194_0 := (HB.out.cell (World.block_lt_of_cell? w _ hx194_0)).trans hx194_0
                            replace p194 := eq_true p194
                            replace q194 := eq_true q194
                            have hcz29_0 : wr.cell? ⟨gb182, 0, none⟩ = some (.slice Ao12 y184.length co12) := (blk_cell BK182.out 0).trans rfl
                            have hcz29_1 : wr.cell? ⟨gb182, 1, none⟩ = some (.int .i64 a1_1) := (blk_cell BK182.out 1).trans rfl
                            have hcz29_2 : wr.cell? ⟨gb182, 2, none⟩ = some (.int .i64 a1_2) := (blk_cell BK182.out 2).trans rfl
                            have hfz29_0 := blk_frozen BK182.out 0
                            have hfz29_1 := blk_frozen BK182.out 1
                            have hfz29_2 := blk_frozen BK182.out 2
                            go_wp2
                            repeat (go_quiet (fail); try go_wp2)
                            go_meet
                            case rel => exact ⟨_, (true), (by first | rfl | (simp; done) | (simp [*]; done)), H', ⟨by have := HJ7.out; have := HK2.out; first | omega | exact Nat.le_refl _⟩, ⟨by (with_reducible repeat (first | apply Kd.S_alloc | apply Kd.S_drewN | apply Kd.S_drew)); exact HO_5.out⟩, ⟨by (with_reducible repeat (first | apply Kd.R_alloc | apply Kd.R_drewN | apply Kd.R_drew)); exact HO_183000.out⟩, ⟨by (with_reducible repeat (first | refine blk_drewN ?_ _ | refine blk_drew ?_ | refine blk_alloc ?_ _)); exact BK182.out⟩, ⟨by repeat (first | (with_reducible first | exact HB.out | apply below_alloc | apply pw_below_drewN | apply below_drew1 | refine below_set ?_ GE182.out) | exact HB.out)⟩⟩
                          · rw [if_neg c27] at H
                            have c27b0 : ((Go.bits .and .i64 a1_2 65535) == 0) = false := beq_eq_false_iff_ne.mpr c27
                            have c27b1 : ((Go.bits .and .i64 a1_2 65535) != 0) = true := bne_iff_ne.mpr c27
                            by_cases c30 : x6_2 = a1_1
                            · rw [if_pos c30] at H
                              have c30b0 : (x6_2 == a1_1) = true := beq_iff_eq.mpr c30
                              have c30b1 : (x6_2 != a1_1) = false := bne_eq_false_iff_eq.mpr c30
                              clear c30
                              have H' := Aside0.mk H
                              clear H
                              obtain ⟨Ao31, co31, eo31⟩ := Kd.S_slice HO_5.out
                              subst eo31
                              have p192 : 0 ≤ (0 : Int) := (by omega)
                              have q192 : 0 < (t187.length : Int) := of_decide_eq_true (by first | (with_reducible assumption) | assumption)
                              obtain ⟨ad192, A192_1, c192_1, e192, hx192_0, hx192_1, hl192_1, hi192_1⟩ := at_T37 (Kd.S_reads' HO_5.out).2.2 0 p192 q192
                              cases e192
                              obtain ⟨ce192, hce192, hMe192, hcc192⟩ := Kd.S_get HO_5.out z37 0 p192 (by first | exact q192 | exact of_decide_eq_true (by first | (with_reducible assumption) | assumption) | (have e_ := (Kd.S_reads' HO_5.out).1; omega))
                              obtain ⟨ve192_1, rfl, ge192_1⟩ := k37_openM hMe192
                              have hv192_1 := hcc192 1 _ rfl
                              rw [add_field _ _ 1 (by omega)] at hv192_1
                              replace hv192_1 := Option.some.inj (hv192_1.symm.trans hx192_1)
                              rw [hv192_1] at ge192_1
                              have HL192_1 := Aside0.mk (show Kd.R (Kd.int .u8) 5 _ _ _ _ ((rd_T37 t187 0).f1) from ge192_1)
                              clear hv192_1 ge192_1
                              clear hcc192 hce192
                              have qi192 : (0 < t187.length) = True := eq_true (by omega)
                              (try rw [show ((0 : Int)).toNat = 0 from rfl] at hx192_0)
                              (try rw [show 0 * 2 = 0 from rfl] at hx192_0)
                              (try rw [Addr.add_zero'] at hx192_0)
                              (try rw [show ((0 : Int)).toNat = 0 from rfl] at hx192_1)
                              (try rw [show 0 * 2 = 0 from rfl] at hx192_1)
                              (try rw [Addr.add_zero'] at hx192_1)
                              have HR192_1 := Aside0.mk hi192_1
                              have HC192_1 := Aside0.mk hl192_1
                              clear hi192_1 hl192_1
                              replace p192 := eq_true p192
                              replace q192 := eq_true q192
                              have p193 : 0 ≤ (x6_2 : Int) := of_decide_eq_true (by first | (with_reducible assumption) | assumption)
                              have q193 : x6_2 < (((rd_T37 t187 0).f1).length : Int) := of_decide_eq_true (by first | (with_reducible assumption) | assumption)
                              obtain ⟨ad193, e193, hx193_0⟩ := Kd.at_int (by repeat (first | (with_reducible exact HR192_1.out) | (with_reducible refine Kd.C_alloc ?_ _) | (with_reducible refine Kd.C_drewN ?_ _) | (with_reducible refine Kd.C_drew ?_) | exact HR192_1.out)) x6_2 p193 q193
                              cases e193
                              replace p193 := eq_true p193
                              replace q193 := eq_true q193
                              have p194 : 0 ≤ (x6_2 : Int) := of_decide_eq_true (by first | (with_reducible assumption) | assumption)
                              have q194 : x6_2 < (l0.length : Int) := of_decide_eq_true (by first | (with_reducible assumption) | assumption)
                              obtain ⟨ad194, e194, hx194_0⟩ := Kd.at_int HR0.out x6_2 p194 q194
                              cases e194
                              replace hx194_0 := (HB.out.cell (World.block_lt_of_cell? w _ hx194_0)).trans hx194_0
                              replace p194 := eq_true p194
                              replace q194 := eq_true q194
                              have hcz32_0 : wr.cell? ⟨gb182, 0, none⟩ = some (.slice Ao12 y184.length co12) := (blk_cell BK182.out 0).trans rfl
                              have hcz32_1 : wr.cell? ⟨gb182, 1, none⟩ = some (.int .i64 a1_1) := (blk_cell BK182.out 1).trans rfl
                              have hcz32_2 : wr.cell? ⟨gb182, 2, none⟩ = some (.int .i64 a1_2) := (blk_cell BK182.out 2).trans rfl
                              have hfz32_0 := blk_frozen BK182.out 0
                              have hfz32_1 := blk_frozen BK182.out 1
                              have hfz32_2 := blk_frozen BK182.out 2
                              go_wp2
                              repeat (go_quiet (fail); try go_wp2)
                              go_meet
                              case rel => exact ⟨_, (false), (by first | rfl | (simp; done) | (simp [*]; done)), H', ⟨by have := HJ7.out; have := HK2.out; first | omega | exact Nat.le_refl _⟩, ⟨by (with_reducible repeat (first | apply Kd.S_alloc | apply Kd.S_drewN | apply Kd.S_drew)); exact HO_5.out⟩, ⟨by (with_reducible repeat (first | apply Kd.R_alloc | apply Kd.R_drewN | apply Kd.R_drew)); exact HO_183000.out⟩, ⟨by (with_reducible repeat (first | refine blk_drewN ?_ _ | refine blk_drew ?_ | refine blk_alloc ?_ _)); exact BK182.out⟩, ⟨by repeat (first | (with_reducible first | exact HB.out | apply below_alloc | apply pw_below_drewN | apply below_drew1 | refine below_set ?_ GE182.out) | exact HB.out)⟩⟩
                            · rw [if_neg c30] at H
                              have c30b0 : (x6_2 == a1_1) = false := beq_eq_false_iff_ne.mpr c30
                              have c30b1 : (x6_2 != a1_1) = true := bne_iff_ne.mpr c30
                              have H' := Aside0.mk H
                              clear H
                              obtain ⟨Ao33, co33, eo33⟩ := Kd.S_slice HO_5.out
                              subst eo33
                              have p192 : 0 ≤ (0 : Int) := (by omega)
                              have q192 : 0 < (t187.length : Int) := of_decide_eq_true (by first | (with_reducible assumption) | assumption)
                              obtain ⟨ad192, A192_1, c192_1, e192, hx192_0, hx192_1, hl192_1, hi192_1⟩ := at_T37 (Kd.S_reads' HO_5.out).2.2 0 p192 q192
                              cases e192
                              obtain ⟨ce192, hce192, hMe192, hcc192⟩ := Kd.S_get HO_5.out z37 0 p192 (by first | exact q192 | exact of_decide_eq_true (by first | (with_reducible assumption) | assumption) | (have e_ := (Kd.S_reads' HO_5.out).1; omega))
                              obtain ⟨ve192_1, rfl, ge192_1⟩ := k37_openM hMe192
                              have hv192_1 := hcc192 1 _ rfl
                              rw [add_field _ _ 1 (by omega)] at hv192_1
                              replace hv192_1 := Option.some.inj (hv192_1.symm.trans hx192_1)
                              rw [hv192_1] at ge192_1
                              have HL192_1 := Aside0.mk (show Kd.R (Kd.int .u8) 5 _ _ _ _ ((rd_T37 t187 0).f1) from ge192_1)
                              clear hv192_1 ge192_1
                              clear hcc192 hce192
                              have qi192 : (0 < t187.length) = True := eq_true (by omega)
                              (try rw [show ((0 : Int)).toNat = 0 from rfl] at hx192_0)
                              (try rw [show 0 * 2 = 0 from rfl] at hx192_0)
                              (try rw [Addr.add_zero'] at hx192_0)
                              (try rw [show ((0 : Int)).toNat = 0 from rfl] at hx192_1)
                              (try rw [show 0 * 2 = 0 from rfl] at hx192_1)
                              (try rw [Addr.add_zero'] at hx192_1)
                              have HR192_1 := Aside0.mk hi192_1
                              have HC192_1 := Aside0.mk hl192_1
                              clear hi192_1 hl192_1
                              replace p192 := eq_true p192
                              replace q192 := eq_true q192
                              have p193 : 0 ≤ (x6_2 : Int) := of_decide_eq_true (by first | (with_reducible assumption) | assumption)
                              have q193 : x6_2 < (((rd_T37 t187 0).f1).length : Int) := of_decide_eq_true (by first | (with_reducible assumption) | assumption)
                              obtain ⟨ad193, e193, hx193_0⟩ := Kd.at_int (by repeat (first | (with_reducible exact HR192_1.out) | (with_reducible refine Kd.C_alloc ?_ _) | (with_reducible refine Kd.C_drewN ?_ _) | (with_reducible refine Kd.C_drew ?_) | exact HR192_1.out)) x6_2 p193 q193
                              cases e193
                              replace p193 := eq_true p193
                              replace q193 := eq_true q193
                              have p194 : 0 ≤ (x6_2 : Int) := of_decide_eq_true (by first | (with_reducible assumption) | assumption)
                              have q194 : x6_2 < (l0.length : Int) := of_decide_eq_true (by first | (with_reducible assumption) | assumption)
                              obtain ⟨ad194, e194, hx194_0⟩ := Kd.at_int HR0.out x6_2 p194 q194
                              cases e194
                              replace hx194_0 := (HB.out.cell (World.block_lt_of_cell? w _ hx194_0)).trans hx194_0
                              replace p194 := eq_true p194
                              replace q194 := eq_true q194
                              have hcz34_0 : wr.cell? ⟨gb182, 0, none⟩ = some (.slice Ao12 y184.length co12) := (blk_cell BK182.out 0).trans rfl
                              have hcz34_1 : wr.cell? ⟨gb182, 1, none⟩ = some (.int .i64 a1_1) := (blk_cell BK182.out 1).trans rfl
                              have hcz34_2 : wr.cell? ⟨gb182, 2, none⟩ = some (.int .i64 a1_2) := (blk_cell BK182.out 2).trans rfl
                              have hfz34_0 := blk_frozen BK182.out 0
                              have hfz34_1 := blk_frozen BK182.out 1
                              have hfz34_2 := blk_frozen BK182.out 2
                              go_wp2
                              repeat (go_quiet (fail); try go_wp2)
                              go_meet
                              case rel => exact ⟨_, (((wrap64 (x6_2 - 1)) != a1_1)), (by first | rfl | (simp; done) | (simp [*]; done)), H', ⟨by have := HJ7.out; have := HK2.out; first | omega | exact Nat.le_refl _⟩, ⟨by (with_reducible repeat (first | apply Kd.S_alloc | apply Kd.S_drewN | apply Kd.S_drew)); exact HO_5.out⟩, ⟨by (with_reducible repeat (first | apply Kd.R_alloc | apply Kd.R_drewN | apply Kd.R_drew)); exact HO_183000.out⟩, ⟨by (with_reducible repeat (first | refine blk_drewN ?_ _ | refine blk_drew ?_ | refine blk_alloc ?_ _)); exact BK182.out⟩, ⟨by repeat (first | (with_reducible first | exact HB.out | apply below_alloc | apply pw_below_drewN | apply below_drew1 | refine below_set ?_ GE182.out) | exact HB.out)⟩⟩
                      · rw [if_neg c24] at H
                        exact absurd H (by simp)
                    · rw [if_neg c23] at H
                      exact absurd H (by simp)
                  · rw [if_neg c22] at H
                    exact absurd H (by simp)
                case rest =>
                  clear HC21
                  try clear c1
                  try clear p1
                  try clear q1
                  try clear hx1
                  try clear qi1
                  try clear c2
                  try clear p2
                  try clear c3
                  try clear c3b0
                  try clear c3b1
                  try clear p6
                  try clear c7
                  try clear c15
                  try clear c15b0
                  try clear c15b1
                  try clear c16
                  try clear c16b0
                  try clear c16b1
                  try clear c19
                  try clear p19
                  try clear q19
                  try clear hx19
                  try clear qi19
                  try clear c20
                  try clear c20b0
                  try clear c22
                  try clear c22b0
                  try clear c22b1
                  try clear c23
                  try clear c23b0
                  try clear c24
                  try clear c24b0
                  try clear c25
                  try clear c25b0
                  try clear c25b1
                  try clear c27
                  try clear c27b0
                  try clear c27b1
                  try clear c30
                  try clear c30b0
                  try clear c30b1
                  try clear hcz13_0
                  try clear hcz13_1
                  try clear hcz13_2
                  try clear hcz29_0
                  try clear hcz29_1
                  try clear hcz29_2
                  try clear hcz32_0
                  try clear hcz32_1
                  try clear hcz32_2
                  try clear hcz34_0
                  try clear hcz34_1
                  try clear hcz34_2
                  try clear hfz13_0
                  try clear hfz13_1
                  try clear hfz13_2
                  try clear hfz29_0
                  try clear hfz29_1
                  try clear hfz29_2
                  try clear hfz32_0
                  try clear hfz32_1
                  try clear hfz32_2
                  try clear hfz34_0
                  try clear hfz34_1
                  try clear hfz34_2
                  try clear hx190_0
                  try clear hx190_1
                  try clear hx192_0
                  try clear hx192_1
                  try clear hx193_0
                  try clear hx194_0
                  try clear p1
                  try clear p19
                  try clear p190
                  try clear p192
                  try clear p193
                  try clear p194
                  try clear p2
                  try clear q1
                  try clear q19
                  try clear q190
                  try clear q192
                  try clear q193
                  try clear q194
                  obtain ⟨kq, x65_20, rfl, HA, HJ20, HO_5, HO_183000, BK182, HB⟩ := hcut
                  cases kq with
                  | zero => exact absurd HA.out (by simp [debuggerlaw34_LinkDamages.j2])
                  | succ kj20 =>
                    have H := HA.out
                    clear HA
                    simp only [debuggerlaw34_LinkDamages.j2] at H
                    by_cases c35 : x65_20 = true
                    · subst c35
                      have H1 : (some false) = some r := by rw [if_pos rfl] at H; exact H
                      clear H
                      have H := H1
                      clear H1
                      obtain rfl := Option.some.inj H
                      go_wp2
                      repeat (go_quiet (fail); try go_wp2)
                      go_ret
                      exact ⟨by first | rfl | (simp [errW_none, errW_some] <;> rfl) | (simp [*, errW_none, errW_some] <;> rfl), by repeat (first | (with_reducible first | exact HB.out | apply below_alloc | apply pw_below_drewN | apply below_drew1 | refine below_set ?_ GE182.out) | exact HB.out)⟩
                    · replace c35 := Bool.eq_false_iff.mpr c35
                      subst c35
                      have H1 : (debuggerlaw34_LinkDamages.l0 kj20 l0 t187 (wrap64 (x6_2 + 1)) y184 a1_1 a1_2) = some r := by rw [if_neg (show ¬ (false = true) by decide)] at H; exact H
                      clear H
                      have H := H1
                      clear H1
                      have H' := Aside0.mk H
                      clear H
                      go_wp2
                      repeat (go_quiet (fail); try go_wp2)
                      go_roundg kj20
                      case measure => have := HJ7.out; have := HK2.out; have := HJ20.out; omega
                      case rel => exact ⟨(wrap64 (x6_2 + 1)), (by first | rfl | (simp; done) | (simp [*]; done)), H', ⟨by have := HJ7.out; have := HK2.out; have := HJ20.out; omega⟩, ⟨by (with_reducible repeat (first | apply Kd.S_alloc | apply Kd.S_drewN | apply Kd.S_drew)); exact HO_5.out⟩, ⟨by (with_reducible repeat (first | apply Kd.R_alloc | apply Kd.R_drewN | apply Kd.R_drew)); exact HO_183000.out⟩, ⟨by (with_reducible repeat (first | refine blk_drewN ?_ _ | refine blk_drew ?_ | refine blk_alloc ?_ _)); exact BK182.out⟩, ⟨by repeat (first | (with_reducible first | exact HB.out | apply below_alloc | apply pw_below_drewN | apply below_drew1 | refine below_set ?_ GE182.out) | exact HB.out)⟩⟩
              · rw [if_neg c20] at H
                have c20b0 : decide (x6_2 < (l0.length : Int)) = false := decide_eq_false c20
                clear c20
                replace H := Option.bind_eq_some_iff.mp H
                obtain ⟨t191, A360, H⟩ := H
                replace H : (some t191) = some r := H
                have A36 := Aside0.mk A360
                clear A360
                obtain rfl := Option.some.inj H
                go_wp2_with (first | (go_at_call 9; (with_reducible refine (debuggerlaw34_awake.calls k2  t191 _ A36.out).mono ?_); rintro e w37 ⟨rfl, hb⟩; have n0_ := Aside0.mk (Kd.S_below (by (with_reducible repeat (first | apply Kd.S_alloc | apply Kd.S_drewN | apply Kd.S_drew)); exact HO_5.out) hb); have n1_ := Aside0.mk (Kd.R_below (by (with_reducible repeat (first | apply Kd.R_alloc | apply Kd.R_drewN | apply Kd.R_drew)); exact HO_183000.out) hb); have n2_ := Aside0.mk (blk_below (g := gb182) (o := .cells #[.slice Ao12 y184.length co12, .int .i64 a1_1, .int .i64 a1_2] 25 (0, 0)) (by (with_reducible repeat (first | refine blk_drewN ?_ _ | refine blk_drew ?_ | refine blk_alloc ?_ _)); exact BK182.out) hb); have n3_ := Aside0.mk (below_step (by repeat (first | (with_reducible first | exact HB.out | apply below_alloc | apply pw_below_drewN | apply below_drew1 | refine below_set ?_ GE182.out) | exact HB.out)) hb); clear HO_5; clear HO_183000; clear BK182; clear HB; have HO_5 := n0_; have HO_183000 := n1_; have BK182 := n2_; have HB := n3_; clear n0_ n1_ n2_ n3_; (try clear hb); (try clear hb2); (try clear hk); (try clear hi)))
                repeat (go_quiet (first | (go_at_call 9; (with_reducible refine (debuggerlaw34_awake.calls k2  t191 _ A36.out).mono ?_); rintro e w37 ⟨rfl, hb⟩; have n0_ := Aside0.mk (Kd.S_below (by (with_reducible repeat (first | apply Kd.S_alloc | apply Kd.S_drewN | apply Kd.S_drew)); exact HO_5.out) hb); have n1_ := Aside0.mk (Kd.R_below (by (with_reducible repeat (first | apply Kd.R_alloc | apply Kd.R_drewN | apply Kd.R_drew)); exact HO_183000.out) hb); have n2_ := Aside0.mk (blk_below (g := gb182) (o := .cells #[.slice Ao12 y184.length co12, .int .i64 a1_1, .int .i64 a1_2] 25 (0, 0)) (by (with_reducible repeat (first | refine blk_drewN ?_ _ | refine blk_drew ?_ | refine blk_alloc ?_ _)); exact BK182.out) hb); have n3_ := Aside0.mk (below_step (by repeat (first | (with_reducible first | exact HB.out | apply below_alloc | apply pw_below_drewN | apply below_drew1 | refine below_set ?_ GE182.out) | exact HB.out)) hb); clear HO_5; clear HO_183000; clear BK182; clear HB; have HO_5 := n0_; have HO_183000 := n1_; have BK182 := n2_; have HB := n3_; clear n0_ n1_ n2_ n3_; (try clear hb); (try clear hb2); (try clear hk); (try clear hi))); try go_wp2_with (first | (go_at_call 9; (with_reducible refine (debuggerlaw34_awake.calls k2  t191 _ A36.out).mono ?_); rintro e w37 ⟨rfl, hb⟩; have n0_ := Aside0.mk (Kd.S_below (by (with_reducible repeat (first | apply Kd.S_alloc | apply Kd.S_drewN | apply Kd.S_drew)); exact HO_5.out) hb); have n1_ := Aside0.mk (Kd.R_below (by (with_reducible repeat (first | apply Kd.R_alloc | apply Kd.R_drewN | apply Kd.R_drew)); exact HO_183000.out) hb); have n2_ := Aside0.mk (blk_below (g := gb182) (o := .cells #[.slice Ao12 y184.length co12, .int .i64 a1_1, .int .i64 a1_2] 25 (0, 0)) (by (with_reducible repeat (first | refine blk_drewN ?_ _ | refine blk_drew ?_ | refine blk_alloc ?_ _)); exact BK182.out) hb); have n3_ := Aside0.mk (below_step (by repeat (first | (with_reducible first | exact HB.out | apply below_alloc | apply pw_below_drewN | apply below_drew1 | refine below_set ?_ GE182.out) | exact HB.out)) hb); clear HO_5; clear HO_183000; clear BK182; clear HB; have HO_5 := n0_; have HO_183000 := n1_; have BK182 := n2_; have HB := n3_; clear n0_ n1_ n2_ n3_; (try clear hb); (try clear hb2); (try clear hk); (try clear hi))))
                go_ret
                exact ⟨by first | rfl | (simp [errW_none, errW_some] <;> rfl) | (simp [*, errW_none, errW_some] <;> rfl), by repeat (first | (with_reducible first | exact HB.out | apply below_alloc | apply pw_below_drewN | apply below_drew1 | refine below_set ?_ GE182.out) | exact HB.out)⟩

end Go.Proofs.Ytipkcbpilkoflaa.QLinkDamages
