-- Written by a program of this session (wip/printer.py of the repo) out of the translation.
import Derived.Test.YtipkcbpilkoflaaQLinkOrderx0
import Derived.Test.YtipkcbpilkoflaaQLinkOrderx3
import Derived.Test.YtipkcbpilkoflaaQLinkOrderx14
import Derived.Test.YtipkcbpilkoflaaQLinkOrderx15
import Derived.Test.YtipkcbpilkoflaaQLinkOrderx16
namespace Go.Proofs.Ytipkcbpilkoflaa.QLinkOrder
open Go.RowKit Go.Proofs.YtipkcbpilkoflaaW.PrintWords Go.Proofs.YtipkcbpilkoflaaW.PrintLast Go.Proofs.YtipkcbpilkoflaaW.PrintMore
attribute [local go_sem] max2_int min2_int max_two min_two max_three min_three max_four min_four   -- for this text's walks alone
set_option linter.unusedVariables false
set_option linter.unusedSimpArgs false

/-! ### debuggerlaw34_LinkOrder: function 6 -/
mutual
def debuggerlaw34_LinkOrder.l0 : Nat → Int → Int → List Int → List (S37) → Int → Option (Bool)
  | 0, _, _, _, _, _ => none
  | k + 1, x0, x1, x2, x7, x8 => if x8 < x0 then (if x8 < (x2.length : Int) then (if 0 ≤ x8 then ((debuggerkit_Mod.f (rd x2 x8) 3).bind fun t185 => ((link_Send.f k x7 (([wrap64 (1 + t185)] : List Int)) 0 0 (([(wrap64 (1 + t185)) % 256, (x8) % 256] : List Int)) x1).bind fun t192 => (debuggerlaw34_LinkOrder.l0 k x0 x1 x2 t192 (wrap64 (x8 + 1))))) else (none)) else ((link_Send.f k x7 (([1] : List Int)) 0 0 (([1, (x8) % 256] : List Int)) x1).bind fun t201 => (debuggerlaw34_LinkOrder.l0 k x0 x1 x2 t201 (wrap64 (x8 + 1))))) else ((link_Arrive.f k x7 (wrap64 (x1 + 3))).bind fun bt204 => (debuggerlaw34_LinkOrder.l1 k x0 bt204.1 bt204.2 0))
def debuggerlaw34_LinkOrder.l1 : Nat → Int → List (List Int) → List (S37) → Int → Option (Bool)
  | 0, _, _, _, _ => none
  | k + 1, x0, x10, x11, x12 => if x12 < (x10.length : Int) then (if 0 ≤ x12 then (if ((rd_L2 x10 x12).length : Int) = 2 then (if x12 > 0 then (if 0 < ((rd_L2 x10 x12).length : Int) then (if 0 ≤ (wrap64 (x12 - 1)) then (if (wrap64 (x12 - 1)) < (x10.length : Int) then (if 0 < ((rd_L2 x10 (wrap64 (x12 - 1))).length : Int) then (if (rd (rd_L2 x10 x12) 0) < (rd (rd_L2 x10 (wrap64 (x12 - 1))) 0) then (debuggerlaw34_LinkOrder.j2 k x0 x10 x11 x12 true) else (if (rd (rd_L2 x10 x12) 0) = (rd (rd_L2 x10 (wrap64 (x12 - 1))) 0) then (if 1 < ((rd_L2 x10 x12).length : Int) then (if 1 < ((rd_L2 x10 (wrap64 (x12 - 1))).length : Int) then (debuggerlaw34_LinkOrder.j2 k x0 x10 x11 x12 (decide ((rd (rd_L2 x10 x12) 1) ≤ (rd (rd_L2 x10 (wrap64 (x12 - 1))) 1)))) else (none)) else (none)) else (debuggerlaw34_LinkOrder.j2 k x0 x10 x11 x12 false))) else (none)) else (none)) else (none)) else (none)) else (debuggerlaw34_LinkOrder.j2 k x0 x10 x11 x12 false)) else (debuggerlaw34_LinkOrder.j2 k x0 x10 x11 x12 true)) else (none)) else (if (x10.length : Int) = x0 then (if (x11.length : Int) = 0 then ((debuggerlaw34_awake.f k).bind fun t210 => (some t210)) else (some false)) else (some false))
def debuggerlaw34_LinkOrder.j2 : Nat → Int → List (List Int) → List (S37) → Int → Bool → Option (Bool)
  | 0, _, _, _, _, _ => none
  | k + 1, x0, x10, x11, x12, x113 => if x113 = true then (some false) else (debuggerlaw34_LinkOrder.l1 k x0 x10 x11 (wrap64 (x12 + 1)))
end
def debuggerlaw34_LinkOrder.f (k : Nat) (a0 : Int) (a1 : Int) (l2 : List Int) : Option (Bool) := (debuggerkit_Mod.f a0 20).bind fun t182 => ((debuggerkit_Mod.f a1 1000).bind fun t183 => (debuggerlaw34_LinkOrder.l0 k t182 t183 l2 ([] : List (S37)) 0))
theorem debuggerlaw34_LinkOrder.mono_l : ∀ k, (∀ y0 y1 y2 y3 y4, LeO (debuggerlaw34_LinkOrder.l0 k y0 y1 y2 y3 y4) (debuggerlaw34_LinkOrder.l0 (k + 1) y0 y1 y2 y3 y4)) ∧ (∀ y0 y1 y2 y3, LeO (debuggerlaw34_LinkOrder.l1 k y0 y1 y2 y3) (debuggerlaw34_LinkOrder.l1 (k + 1) y0 y1 y2 y3)) ∧ (∀ y0 y1 y2 y3 y4, LeO (debuggerlaw34_LinkOrder.j2 k y0 y1 y2 y3 y4) (debuggerlaw34_LinkOrder.j2 (k + 1) y0 y1 y2 y3 y4))
  | 0 => ⟨fun _ _ _ _ _ r h => by simp [debuggerlaw34_LinkOrder.l0] at h, fun _ _ _ _ r h => by simp [debuggerlaw34_LinkOrder.l1] at h, fun _ _ _ _ _ r h => by simp [debuggerlaw34_LinkOrder.j2] at h⟩
  | k + 1 => by
    obtain ⟨ih0, ih1, ih2⟩ := debuggerlaw34_LinkOrder.mono_l k
    refine ⟨?_, ?_, ?_⟩
    · intro y0 y1 y2 y3 y4
      unfold debuggerlaw34_LinkOrder.l0
      repeat' first
      | (with_reducible exact ih0 _ _ _ _ _)
      | (with_reducible exact ih1 _ _ _ _)
      | (with_reducible exact ih2 _ _ _ _ _)
      | (with_reducible exact debuggerlaw34_awake.mono _)
      | (with_reducible exact link_Arrive.mono _ _ _)
      | (with_reducible exact link_Send.mono _ _ _ _ _ _ _)
      | (with_reducible exact LeO.refl _)
      | (with_reducible exact LeO.none _)
      | (with_reducible refine LeO.ite ?_ ?_)
      | (with_reducible refine LeO.bind ?_ (fun _ => ?_))
      | exact ih0 _ _ _ _ _
      | exact ih1 _ _ _ _
      | exact ih2 _ _ _ _ _
      | exact debuggerlaw34_awake.mono _
      | exact link_Arrive.mono _ _ _
      | exact link_Send.mono _ _ _ _ _ _ _
      | exact LeO.none _
      | refine LeO.ite ?_ ?_
      | refine LeO.bind ?_ (fun _ => ?_)
    · intro y0 y1 y2 y3
      unfold debuggerlaw34_LinkOrder.l1
      repeat' first
      | (with_reducible exact ih0 _ _ _ _ _)
      | (with_reducible exact ih1 _ _ _ _)
      | (with_reducible exact ih2 _ _ _ _ _)
      | (with_reducible exact debuggerlaw34_awake.mono _)
      | (with_reducible exact link_Arrive.mono _ _ _)
      | (with_reducible exact link_Send.mono _ _ _ _ _ _ _)
      | (with_reducible exact LeO.refl _)
      | (with_reducible exact LeO.none _)
      | (with_reducible refine LeO.ite ?_ ?_)
      | (with_reducible refine LeO.bind ?_ (fun _ => ?_))
      | exact ih0 _ _ _ _ _
      | exact ih1 _ _ _ _
      | exact ih2 _ _ _ _ _
      | exact debuggerlaw34_awake.mono _
      | exact link_Arrive.mono _ _ _
      | exact link_Send.mono _ _ _ _ _ _ _
      | exact LeO.none _
      | refine LeO.ite ?_ ?_
      | refine LeO.bind ?_ (fun _ => ?_)
    · intro y0 y1 y2 y3 y4
      unfold debuggerlaw34_LinkOrder.j2
      repeat' first
      | (with_reducible exact ih0 _ _ _ _ _)
      | (with_reducible exact ih1 _ _ _ _)
      | (with_reducible exact ih2 _ _ _ _ _)
      | (with_reducible exact debuggerlaw34_awake.mono _)
      | (with_reducible exact link_Arrive.mono _ _ _)
      | (with_reducible exact link_Send.mono _ _ _ _ _ _ _)
      | (with_reducible exact LeO.refl _)
      | (with_reducible exact LeO.none _)
      | (with_reducible refine LeO.ite ?_ ?_)
      | (with_reducible refine LeO.bind ?_ (fun _ => ?_))
      | exact ih0 _ _ _ _ _
      | exact ih1 _ _ _ _
      | exact ih2 _ _ _ _ _
      | exact debuggerlaw34_awake.mono _
      | exact link_Arrive.mono _ _ _
      | exact link_Send.mono _ _ _ _ _ _ _
      | exact LeO.none _
      | refine LeO.ite ?_ ?_
      | refine LeO.bind ?_ (fun _ => ?_)
theorem debuggerlaw34_LinkOrder.mono : ∀ a0 a1 a2 k, LeO (debuggerlaw34_LinkOrder.f k a0 a1 a2) (debuggerlaw34_LinkOrder.f (k + 1) a0 a1 a2) := by
  intro a0 a1 a2 k
  obtain ⟨ih0, ih1, ih2⟩ := debuggerlaw34_LinkOrder.mono_l k
  unfold debuggerlaw34_LinkOrder.f
  repeat' first
      | (with_reducible exact ih0 _ _ _ _ _)
      | (with_reducible exact ih1 _ _ _ _)
      | (with_reducible exact ih2 _ _ _ _ _)
      | (with_reducible exact debuggerlaw34_awake.mono _)
      | (with_reducible exact link_Arrive.mono _ _ _)
      | (with_reducible exact link_Send.mono _ _ _ _ _ _ _)
      | (with_reducible exact LeO.refl _)
      | (with_reducible exact LeO.none _)
      | (with_reducible refine LeO.ite ?_ ?_)
      | (with_reducible refine LeO.bind ?_ (fun _ => ?_))
      | exact ih0 _ _ _ _ _
      | exact ih1 _ _ _ _
      | exact ih2 _ _ _ _ _
      | exact debuggerlaw34_awake.mono _
      | exact link_Arrive.mono _ _ _
      | exact link_Send.mono _ _ _ _ _ _ _
      | exact LeO.none _
      | refine LeO.ite ?_ ?_
      | refine LeO.bind ?_ (fun _ => ?_)
set_option maxHeartbeats 8000000 in
set_option maxRecDepth 100000 in
theorem debuggerlaw34_LinkOrder.calls (k : Nat) (a0 : Int) (a1 : Int) (A2 : Option Addr) (c2 : Nat) (l2 : List Int) (r : Bool) (w : World) (hr2 : Kd.C (Kd.int .i64) w A2 l2.length l2) (hc2 : l2.length ≤ c2) (h : debuggerlaw34_LinkOrder.f k a0 a1 l2 = some r) :
    Calls Try.prog 6 #[.int .i64 a0, .int .i64 a1, .slice A2 l2.length c2] w fun e w' => e = .returned (.bool r) ∧ Below w.heap.size w w' := by
  have hu25 := Try.underlying25
  have HR2 := Aside0.mk hr2
  have HC2 := Aside0.mk hc2
  clear hr2 hc2
  have HB := Aside0.mk (Below.refl w.heap.size w)
  have H : ((debuggerkit_Mod.f a0 20).bind fun t182 => ((debuggerkit_Mod.f a1 1000).bind fun t183 => (debuggerlaw34_LinkOrder.l0 k t182 t183 l2 ([] : List (S37)) 0))) = some r := h
  clear h
  replace H := Option.bind_eq_some_iff.mp H
  obtain ⟨t182, A40, H⟩ := H
  replace H : ((debuggerkit_Mod.f a1 1000).bind fun t183 => (debuggerlaw34_LinkOrder.l0 k t182 t183 l2 ([] : List (S37)) 0)) = some r := H
  have A4 := Aside0.mk A40
  clear A40
  replace H := Option.bind_eq_some_iff.mp H
  obtain ⟨t183, A50, H⟩ := H
  replace H : (debuggerlaw34_LinkOrder.l0 k t182 t183 l2 ([] : List (S37)) 0) = some r := H
  have A5 := Aside0.mk A50
  clear A50
  have H' := Aside0.mk H
  clear H
  go_enter Try.func6, Try.ntmps6
  go_wp2_with (first | (go_at_call 10; (with_reducible refine (debuggerkit_Mod.calls a0 20 t182 _ A4.out).mono ?_); rintro e w' ⟨rfl, ⟨nd, rfl⟩⟩; (try first | exact ⟨rfl, _, World.drewN_drewN _ _ _⟩ | exact ⟨rfl, _, Eq.trans (World.drewN_drewN _ _ _) (congrArg (World.drewN _) (Nat.add_assoc _ _ _))⟩)) | (go_at_call 10; (with_reducible refine (debuggerkit_Mod.calls a1 1000 t183 _ A5.out).mono ?_); rintro e w' ⟨rfl, ⟨nd, rfl⟩⟩; (try first | exact ⟨rfl, _, World.drewN_drewN _ _ _⟩ | exact ⟨rfl, _, Eq.trans (World.drewN_drewN _ _ _) (congrArg (World.drewN _) (Nat.add_assoc _ _ _))⟩)))
  repeat (go_quiet (first | (go_at_call 10; (with_reducible refine (debuggerkit_Mod.calls a0 20 t182 _ A4.out).mono ?_); rintro e w' ⟨rfl, ⟨nd, rfl⟩⟩; (try first | exact ⟨rfl, _, World.drewN_drewN _ _ _⟩ | exact ⟨rfl, _, Eq.trans (World.drewN_drewN _ _ _) (congrArg (World.drewN _) (Nat.add_assoc _ _ _))⟩)) | (go_at_call 10; (with_reducible refine (debuggerkit_Mod.calls a1 1000 t183 _ A5.out).mono ?_); rintro e w' ⟨rfl, ⟨nd, rfl⟩⟩; (try first | exact ⟨rfl, _, World.drewN_drewN _ _ _⟩ | exact ⟨rfl, _, Eq.trans (World.drewN_drewN _ _ _) (congrArg (World.drewN _) (Nat.add_assoc _ _ _))⟩))); try go_wp2_with (first | (go_at_call 10; (with_reducible refine (debuggerkit_Mod.calls a0 20 t182 _ A4.out).mono ?_); rintro e w' ⟨rfl, ⟨nd, rfl⟩⟩; (try first | exact ⟨rfl, _, World.drewN_drewN _ _ _⟩ | exact ⟨rfl, _, Eq.trans (World.drewN_drewN _ _ _) (congrArg (World.drewN _) (Nat.add_assoc _ _ _))⟩)) | (go_at_call 10; (with_reducible refine (debuggerkit_Mod.calls a1 1000 t183 _ A5.out).mono ?_); rintro e w' ⟨rfl, ⟨nd, rfl⟩⟩; (try first | exact ⟨rfl, _, World.drewN_drewN _ _ _⟩ | exact ⟨rfl, _, Eq.trans (World.drewN_drewN _ _ _) (congrArg (World.drewN _) (Nat.add_assoc _ _ _))⟩))))
  go_loopg [7, 8] k (fun kq v7 v8 w' => ∃ (x7_1 : List (S37)) (x8_1 : Int), v8 = .int .i64 x8_1 ∧ Aside0 (debuggerlaw34_LinkOrder.l0 kq t182 t183 l2 x7_1 x8_1 = some r) ∧ Aside0 (kq ≤ k) ∧ Aside0 (Kd.N k37 37 w' w.heap.size (fun _ => True) v7 x7_1) ∧ Aside0 (Below w.heap.size w w'))
  case atStart => exact ⟨(([] : List (S37))), (0), (by first | rfl | (simp; done) | (simp [*]; done)), H', ⟨Nat.le_refl _⟩, ⟨by first | exact Kd.S_nil _ _ _ _ _ | exact Kd.N_nil _ _ _ _ _ | exact Kd.V_nil _ _ _ _ _ | exact Kd.Q_nil _ _ _ _ _ | exact Kd.R_nil _ _ _ _ _⟩, ⟨by repeat (first | (with_reducible first | exact HB.out | apply below_alloc | apply pw_below_drewN | apply below_drew1) | exact HB.out)⟩⟩
  case round =>
    clear H'
    try clear c2
    try clear p2
    obtain ⟨x7_1, x8_1, rfl, HA, HK1, HO_7, HB⟩ := hrel
    cases gk with
    | zero => exact absurd HA.out (by simp [debuggerlaw34_LinkOrder.l0])
    | succ k1 =>
      have H := HA.out
      clear HA
      simp only [debuggerlaw34_LinkOrder.l0] at H
      by_cases c6 : x8_1 < t182
      · rw [if_pos c6] at H
        have c6b0 : decide (x8_1 < t182) = true := decide_eq_true c6
        clear c6
        by_cases c7 : x8_1 < (l2.length : Int)
        · rw [if_pos c7] at H
          have c7b0 : decide (x8_1 < (l2.length : Int)) = true := decide_eq_true c7
          clear c7
          by_cases c8 : 0 ≤ x8_1
          · rw [if_pos c8] at H
            have c8b0 : decide (0 ≤ x8_1) = true := decide_eq_true c8
            clear c8
            replace H := Option.bind_eq_some_iff.mp H
            obtain ⟨t185, A90, H⟩ := H
            replace H : ((link_Send.f k1 x7_1 (([wrap64 (1 + t185)] : List Int)) 0 0 (([(wrap64 (1 + t185)) % 256, (x8_1) % 256] : List Int)) t183).bind fun t192 => (debuggerlaw34_LinkOrder.l0 k1 t182 t183 l2 t192 (wrap64 (x8_1 + 1)))) = some r := H
            have A9 := Aside0.mk A90
            clear A90
            obtain ⟨y186, hy186⟩ : ∃ y_ : List Int, y_ = (([wrap64 (1 + t185)] : List Int)) := ⟨_, rfl⟩
            replace H : ((link_Send.f k1 x7_1 y186 0 0 (([(wrap64 (1 + t185)) % 256, (x8_1) % 256] : List Int)) t183).bind fun t192 => (debuggerlaw34_LinkOrder.l0 k1 t182 t183 l2 t192 (wrap64 (x8_1 + 1)))) = some r := by first | (rw [hy186]; with_reducible exact H) | (have H2_ := (Option.bind_some _ _).symm.trans H; rw [hy186]; with_reducible exact H2_) | (have H2_ := (Option.bind_some _ _).symm.trans H; with_reducible exact H2_) | with_reducible exact H | (rw [hy186]; exact H) | exact H
            have Ny186 := Aside0.mk hy186
            clear hy186
            obtain ⟨y189, hy189⟩ : ∃ y_ : List Int, y_ = (([(wrap64 (1 + t185)) % 256, (x8_1) % 256] : List Int)) := ⟨_, rfl⟩
            replace H : ((link_Send.f k1 x7_1 y186 0 0 y189 t183).bind fun t192 => (debuggerlaw34_LinkOrder.l0 k1 t182 t183 l2 t192 (wrap64 (x8_1 + 1)))) = some r := by first | (rw [hy189]; with_reducible exact H) | (have H2_ := (Option.bind_some _ _).symm.trans H; rw [hy189]; with_reducible exact H2_) | (have H2_ := (Option.bind_some _ _).symm.trans H; with_reducible exact H2_) | with_reducible exact H | (rw [hy189]; exact H) | exact H
            have Ny189 := Aside0.mk hy189
            clear hy189
            replace H := Option.bind_eq_some_iff.mp H
            obtain ⟨t192, A100, H⟩ := H
            replace H : (debuggerlaw34_LinkOrder.l0 k1 t182 t183 l2 t192 (wrap64 (x8_1 + 1))) = some r := H
            have A10 := Aside0.mk A100
            clear A100
            have H' := Aside0.mk H
            clear H
            have p184 : 0 ≤ (x8_1 : Int) := of_decide_eq_true (by first | (with_reducible assumption) | assumption)
            have q184 : x8_1 < (l2.length : Int) := of_decide_eq_true (by first | (with_reducible assumption) | assumption)
            obtain ⟨ad184, e184, hx184_0⟩ := Kd.at_int HR2.out x8_1 p184 q184
            cases e184
            replace hx184_0 := (HB.out.cell (World.block_lt_of_cell? w _ hx184_0)).trans hx184_0
            replace p184 := eq_true p184
            replace q184 := eq_true q184
            go_wp2_with (first | (go_at_call 10; (with_reducible refine (debuggerkit_Mod.calls (rd l2 x8_1) 3 t185 _ A9.out).mono ?_); rintro e w' ⟨rfl, ⟨nd, rfl⟩⟩; (try first | exact ⟨rfl, _, World.drewN_drewN _ _ _⟩ | exact ⟨rfl, _, Eq.trans (World.drewN_drewN _ _ _) (congrArg (World.drewN _) (Nat.add_assoc _ _ _))⟩)) | ((with_reducible refine gate_dst (N := 34) rfl ?_); (try (refine gate_guard (by rfl) ?_; dsimp only)); refine Kd.R_lit (Kd.int .i64) _ 3 ?hg (N := 34) ?hd (xs := ([wrap64 (1 + t185)] : List Int)) (inner := [.int .i64 (wrap64 (1 + t185))]) (ok := fun _ => True) (okp := fun _ => True) ?hr ?hp (fun _ hk => hk) trivial (Below.refl _ _) (Nat.le_refl _) (by simp) ?_; (case hd => rfl); (case hg => rfl); (case hr => first | (go_simp; done) | (go_simp; rfl)); (case hp => exact (Reps.one (show Kd.M (Kd.int .i64) _ _ _ (wrap64 (1 + t185)) [.int .i64 (wrap64 (1 + t185))] from rfl) (Reps.none _ _))); intro v187 w11 ho12 hb hg_ hnew_; clear hg_ hnew_; (first | rw [← Ny186.out] at ho12 | (simp only [Int.reduceToNat] at ho12; rw [← Ny186.out] at ho12)); have n0_ := Aside0.mk (Kd.N_elder' (by (with_reducible repeat (first | apply Kd.N_alloc | apply Kd.N_drewN | apply Kd.N_drew)); exact HO_7.out) (by first | (with_reducible exact Kd.R_base ho12) | (with_reducible exact Kd.S_base ho12) | (with_reducible exact Kd.R_base ho12) | exact Kd.R_base ho12) hb); have n1_ := Aside0.mk (Kd.R_lower ho12 (below_size (by repeat (first | (with_reducible first | exact HB.out | apply below_alloc | apply pw_below_drewN | apply below_drew1) | exact HB.out)))); have n2_ := Aside0.mk (below_step (by repeat (first | (with_reducible first | exact HB.out | apply below_alloc | apply pw_below_drewN | apply below_drew1) | exact HB.out)) hb); clear HO_7; clear HB; have HO_7 := n0_; have HO188 := n1_; have HB := n2_; clear n0_ n1_ n2_; clear hb ho12; obtain ⟨Ao13, co13, eo13⟩ := Kd.R_slice HO188.out; subst eo13) | ((with_reducible refine gate_dst (N := 40) rfl ?_); (try (refine gate_guard (by rfl) ?_; dsimp only)); refine Kd.R_lit (Kd.int .u8) _ 5 ?hg (N := 40) ?hd (xs := ([(wrap64 (1 + t185)) % 256, (x8_1) % 256] : List Int)) (inner := [.int .u8 ((wrap64 (1 + t185)) % 256), .int .u8 ((x8_1) % 256)]) (ok := fun _ => True) (okp := fun _ => True) ?hr ?hp (fun _ hk => hk) trivial (Below.refl _ _) (Nat.le_refl _) (by simp) ?_; (case hd => rfl); (case hg => rfl); (case hr => first | (go_simp; done) | (go_simp; rfl)); (case hp => exact (Reps.one (show Kd.M (Kd.int .u8) _ _ _ ((wrap64 (1 + t185)) % 256) [.int .u8 ((wrap64 (1 + t185)) % 256)] from rfl) (Reps.one (show Kd.M (Kd.int .u8) _ _ _ ((x8_1) % 256) [.int .u8 ((x8_1) % 256)] from rfl) (Reps.none _ _)))); intro v190 w14 ho15 hb hg_ hnew_; clear hg_ hnew_; (first | rw [← Ny189.out] at ho15 | (simp only [Int.reduceToNat] at ho15; rw [← Ny189.out] at ho15)); have n0_ := Aside0.mk (Kd.N_elder' (by (with_reducible repeat (first | apply Kd.N_alloc | apply Kd.N_drewN | apply Kd.N_drew)); exact HO_7.out) (by first | (with_reducible exact Kd.R_base ho15) | (with_reducible exact Kd.S_base ho15) | (with_reducible exact Kd.R_base ho15) | exact Kd.R_base ho15) hb); have n1_ := Aside0.mk (Kd.R_below (by (with_reducible repeat (first | apply Kd.R_alloc | apply Kd.R_drewN | apply Kd.R_drew)); exact HO188.out) hb); have n2_ := Aside0.mk (Kd.R_lower ho15 (below_size (by repeat (first | (with_reducible first | exact HB.out | apply below_alloc | apply pw_below_drewN | apply below_drew1) | exact HB.out)))); have n3_ := Aside0.mk (below_step (by repeat (first | (with_reducible first | exact HB.out | apply below_alloc | apply pw_below_drewN | apply below_drew1) | exact HB.out)) hb); clear HO_7; clear HO188; clear HB; have HO_7 := n0_; have HO188 := n1_; have HO191 := n2_; have HB := n3_; clear n0_ n1_ n2_ n3_; clear hb ho15; obtain ⟨Ao16, co16, eo16⟩ := Kd.N_slice HO_7.out; subst eo16; obtain ⟨Ao17, co17, eo17⟩ := Kd.R_slice HO191.out; subst eo17) | (go_at_call 12; (with_reducible refine (link_Send.calls k1 _ _ x7_1 _ _ y186 0 0 _ _ y189 t183 t192 _ ?side1 ?side2 ?side3 ?side4 ?side5 ?side6 A10.out).mono ?_); (case side1 => repeat (first | exact (Kd.N_reads' HO_7.out).2.2 | (with_reducible refine Kd.C_alloc ?_ _) | (with_reducible refine Kd.C_drewN ?_ _) | (with_reducible refine Kd.C_drew ?_))); (case side2 => exact (Kd.N_reads' HO_7.out).2.1); (case side3 => repeat (first | exact (Kd.R_reads' HO188.out).2.2 | (with_reducible refine Kd.C_alloc ?_ _) | (with_reducible refine Kd.C_drewN ?_ _) | (with_reducible refine Kd.C_drew ?_))); (case side4 => exact (Kd.R_reads' HO188.out).2.1); (case side5 => repeat (first | exact (Kd.R_reads' HO191.out).2.2 | (with_reducible refine Kd.C_alloc ?_ _) | (with_reducible refine Kd.C_drewN ?_ _) | (with_reducible refine Kd.C_drew ?_))); (case side6 => exact (Kd.R_reads' HO191.out).2.1); rintro e w18 ⟨v193, rfl, ho0, hb⟩; have n0_ := Aside0.mk (Kd.N_elder' (by (with_reducible repeat (first | apply Kd.N_alloc | apply Kd.N_drewN | apply Kd.N_drew)); exact HO_7.out) (by first | (with_reducible exact Kd.N_base ho0) | (with_reducible exact Kd.S_base ho0) | (with_reducible exact Kd.R_base ho0) | exact Kd.N_base ho0) hb); have n1_ := Aside0.mk (Kd.R_below (by (with_reducible repeat (first | apply Kd.R_alloc | apply Kd.R_drewN | apply Kd.R_drew)); exact HO188.out) hb); have n2_ := Aside0.mk (Kd.R_below (by (with_reducible repeat (first | apply Kd.R_alloc | apply Kd.R_drewN | apply Kd.R_drew)); exact HO191.out) hb); have n3_ := Aside0.mk (Kd.N_lower (Kd.N_mono (ok' := fun k_ => some k_ ≠ (.slice Ao16 x7_1.length co16 : Value).ownBlock ∧ some k_ ≠ (.slice Ao13 y186.length co13 : Value).ownBlock ∧ some k_ ≠ (.slice Ao17 y189.length co17 : Value).ownBlock) (Kd.S_N (Kd.S_bound ho0)) (fun k_ hk_ => ⟨(Kd.fresh' (Kd.N_lt (by (with_reducible repeat (first | apply Kd.N_alloc | apply Kd.N_drewN | apply Kd.N_drew)); exact HO_7.out)) k_ hk_.2.1), (Kd.fresh' (Kd.R_lt (by (with_reducible repeat (first | apply Kd.R_alloc | apply Kd.R_drewN | apply Kd.R_drew)); exact HO188.out)) k_ hk_.2.1), (Kd.fresh' (Kd.R_lt (by (with_reducible repeat (first | apply Kd.R_alloc | apply Kd.R_drewN | apply Kd.R_drew)); exact HO191.out)) k_ hk_.2.1)⟩)) (below_size (by repeat (first | (with_reducible first | exact HB.out | apply below_alloc | apply pw_below_drewN | apply below_drew1) | exact HB.out)))); have n4_ := Aside0.mk (below_step (by repeat (first | (with_reducible first | exact HB.out | apply below_alloc | apply pw_below_drewN | apply below_drew1) | exact HB.out)) hb); clear HO_7; clear HO188; clear HO191; clear HB; have HO_7 := n0_; have HO188 := n1_; have HO191 := n2_; have HO194 := n3_; have HB := n4_; clear n0_ n1_ n2_ n3_ n4_; (try clear hb); (try clear hb2); (try clear hk); (try clear hi); (try clear ho0)))
            repeat (go_quiet (first | (go_at_call 10; (with_reducible refine (debuggerkit_Mod.calls (rd l2 x8_1) 3 t185 _ A9.out).mono ?_); rintro e w' ⟨rfl, ⟨nd, rfl⟩⟩; (try first | exact ⟨rfl, _, World.drewN_drewN _ _ _⟩ | exact ⟨rfl, _, Eq.trans (World.drewN_drewN _ _ _) (congrArg (World.drewN _) (Nat.add_assoc _ _ _))⟩)) | ((with_reducible refine gate_dst (N := 34) rfl ?_); (try (refine gate_guard (by rfl) ?_; dsimp only)); refine Kd.R_lit (Kd.int .i64) _ 3 ?hg (N := 34) ?hd (xs := ([wrap64 (1 + t185)] : List Int)) (inner := [.int .i64 (wrap64 (1 + t185))]) (ok := fun _ => True) (okp := fun _ => True) ?hr ?hp (fun _ hk => hk) trivial (Below.refl _ _) (Nat.le_refl _) (by simp) ?_; (case hd => rfl); (case hg => rfl); (case hr => first | (go_simp; done) | (go_simp; rfl)); (case hp => exact (Reps.one (show Kd.M (Kd.int .i64) _ _ _ (wrap64 (1 + t185)) [.int .i64 (wrap64 (1 + t185))] from rfl) (Reps.none _ _))); intro v187 w11 ho12 hb hg_ hnew_; clear hg_ hnew_; (first | rw [← Ny186.out] at ho12 | (simp only [Int.reduceToNat] at ho12; rw [← Ny186.out] at ho12)); have n0_ := Aside0.mk (Kd.N_elder' (by (with_reducible repeat (first | apply Kd.N_alloc | apply Kd.N_drewN | apply Kd.N_drew)); exact HO_7.out) (by first | (with_reducible exact Kd.R_base ho12) | (with_reducible exact Kd.S_base ho12) | (with_reducible exact Kd.R_base ho12) | exact Kd.R_base ho12) hb); have n1_ := Aside0.mk (Kd.R_lower ho12 (below_size (by repeat (first | (with_reducible first | exact HB.out | apply below_alloc | apply pw_below_drewN | apply below_drew1) | exact HB.out)))); have n2_ := Aside0.mk (below_step (by repeat (first | (with_reducible first | exact HB.out | apply below_alloc | apply pw_below_drewN | apply below_drew1) | exact HB.out)) hb); clear HO_7; clear HB; have HO_7 := n0_; have HO188 := n1_; have HB := n2_; clear n0_ n1_ n2_; clear hb ho12; obtain ⟨Ao13, co13, eo13⟩ := Kd.R_slice HO188.out; subst eo13) | ((with_reducible refine gate_dst (N := 40) rfl ?_); (try (refine gate_guard (by rfl) ?_; dsimp only)); refine Kd.R_lit (Kd.int .u8) _ 5 ?hg (N := 40) ?hd (xs := ([(wrap64 (1 + t185)) % 256, (x8_1) % 256] : List Int)) (inner := [.int .u8 ((wrap64 (1 + t185)) % 256), .int .u8 ((x8_1) % 256)]) (ok := fun _ => True) (okp := fun _ => True) ?hr ?hp (fun _ hk => hk) trivial (Below.refl _ _) (Nat.le_refl _) (by simp) ?_; (case hd => rfl); (case hg => rfl); (case hr => first | (go_simp; done) | (go_simp; rfl)); (case hp => exact (Reps.one (show Kd.M (Kd.int .u8) _ _ _ ((wrap64 (1 + t185)) % 256) [.int .u8 ((wrap64 (1 + t185)) % 256)] from rfl) (Reps.one (show Kd.M (Kd.int .u8) _ _ _ ((x8_1) % 256) [.int .u8 ((x8_1) % 256)] from rfl) (Reps.none _ _)))); intro v190 w14 ho15 hb hg_ hnew_; clear hg_ hnew_; (first | rw [← Ny189.out] at ho15 | (simp only [Int.reduceToNat] at ho15; rw [← Ny189.out] at ho15)); have n0_ := Aside0.mk (Kd.N_elder' (by (with_reducible repeat (first | apply Kd.N_alloc | apply Kd.N_drewN | apply Kd.N_drew)); exact HO_7.out) (by first | (with_reducible exact Kd.R_base ho15) | (with_reducible exact Kd.S_base ho15) | (with_reducible exact Kd.R_base ho15) | exact Kd.R_base ho15) hb); have n1_ := Aside0.mk (Kd.R_below (by (with_reducible repeat (first | apply Kd.R_alloc | apply Kd.R_drewN | apply Kd.R_drew)); exact HO188.out) hb); have n2_ := Aside0.mk (Kd.R_lower ho15 (below_size (by repeat (first | (with_reducible first | exact HB.out | apply below_alloc | apply pw_below_drewN | apply below_drew1) | exact HB.out)))); have n3_ := Aside0.mk (below_step (by repeat (first | (with_reducible first | exact HB.out | apply below_alloc | apply pw_below_drewN | apply below_drew1) | exact HB.out)) hb); clear HO_7; clear HO188; clear HB; have HO_7 := n0_; have HO188 := n1_; have HO191 := n2_; have HB := n3_; clear n0_ n1_ n2_ n3_; clear hb ho15; obtain ⟨Ao16, co16, eo16⟩ := Kd.N_slice HO_7.out; subst eo16; obtain ⟨Ao17, co17, eo17⟩ := Kd.R_slice HO191.out; subst eo17) | (go_at_call 12; (with_reducible refine (link_Send.calls k1 _ _ x7_1 _ _ y186 0 0 _ _ y189 t183 t192 _ ?side1 ?side2 ?side3 ?side4 ?side5 ?side6 A10.out).mono ?_); (case side1 => repeat (first | exact (Kd.N_reads' HO_7.out).2.2 | (with_reducible refine Kd.C_alloc ?_ _) | (with_reducible refine Kd.C_drewN ?_ _) | (with_reducible refine Kd.C_drew ?_))); (case side2 => exact (Kd.N_reads' HO_7.out).2.1); (case side3 => repeat (first | exact (Kd.R_reads' HO188.out).2.2 | (with_reducible refine Kd.C_alloc ?_ _) | (with_reducible refine Kd.C_drewN ?_ _) | (with_reducible refine Kd.C_drew ?_))); (case side4 => exact (Kd.R_reads' HO188.out).2.1); (case side5 => repeat (first | exact (Kd.R_reads' HO191.out).2.2 | (with_reducible refine Kd.C_alloc ?_ _) | (with_reducible refine Kd.C_drewN ?_ _) | (with_reducible refine Kd.C_drew ?_))); (case side6 => exact (Kd.R_reads' HO191.out).2.1); rintro e w18 ⟨v193, rfl, ho0, hb⟩; have n0_ := Aside0.mk (Kd.N_elder' (by (with_reducible repeat (first | apply Kd.N_alloc | apply Kd.N_drewN | apply Kd.N_drew)); exact HO_7.out) (by first | (with_reducible exact Kd.N_base ho0) | (with_reducible exact Kd.S_base ho0) | (with_reducible exact Kd.R_base ho0) | exact Kd.N_base ho0) hb); have n1_ := Aside0.mk (Kd.R_below (by (with_reducible repeat (first | apply Kd.R_alloc | apply Kd.R_drewN | apply Kd.R_drew)); exact HO188.out) hb); have n2_ := Aside0.mk (Kd.R_below (by (with_reducible repeat (first | apply Kd.R_alloc | apply Kd.R_drewN | apply Kd.R_drew)); exact HO191.out) hb); have n3_ := Aside0.mk (Kd.N_lower (Kd.N_mono (ok' := fun k_ => some k_ ≠ (.slice Ao16 x7_1.length co16 : Value).ownBlock ∧ some k_ ≠ (.slice Ao13 y186.length co13 : Value).ownBlock ∧ some k_ ≠ (.slice Ao17 y189.length co17 : Value).ownBlock) (Kd.S_N (Kd.S_bound ho0)) (fun k_ hk_ => ⟨(Kd.fresh' (Kd.N_lt (by (with_reducible repeat (first | apply Kd.N_alloc | apply Kd.N_drewN | apply Kd.N_drew)); exact HO_7.out)) k_ hk_.2.1), (Kd.fresh' (Kd.R_lt (by (with_reducible repeat (first | apply Kd.R_alloc | apply Kd.R_drewN | apply Kd.R_drew)); exact HO188.out)) k_ hk_.2.1), (Kd.fresh' (Kd.R_lt (by (with_reducible repeat (first | apply Kd.R_alloc | apply Kd.R_drewN | apply Kd.R_drew)); exact HO191.out)) k_ hk_.2.1)⟩)) (below_size (by repeat (first | (with_reducible first | exact HB.out | apply below_alloc | apply pw_below_drewN | apply below_drew1) | exact HB.out)))); have n4_ := Aside0.mk (below_step (by repeat (first | (with_reducible first | exact HB.out | apply below_alloc | apply pw_below_drewN | apply below_drew1) | exact HB.out)) hb); clear HO_7; clear HO188; clear HO191; clear HB; have HO_7 := n0_; have HO188 := n1_; have HO191 := n2_; have HO194 := n3_; have HB := n4_; clear n0_ n1_ n2_ n3_ n4_; (try clear hb); (try clear hb2); (try clear hk); (try clear hi); (try clear ho0))); try go_wp2_with (first | (go_at_call 10; (with_reducible refine (debuggerkit_Mod.calls (rd l2 x8_1) 3 t185 _ A9.out).mono ?_); rintro e w' ⟨rfl, ⟨nd, rfl⟩⟩; (try first | exact ⟨rfl, _, World.drewN_drewN _ _ _⟩ | exact ⟨rfl, _, Eq.trans (World.drewN_drewN _ _ _) (congrArg (World.drewN _) (Nat.add_assoc _ _ _))⟩)) | ((with_reducible refine gate_dst (N := 34) rfl ?_); (try (refine gate_guard (by rfl) ?_; dsimp only)); refine Kd.R_lit (Kd.int .i64) _ 3 ?hg (N := 34) ?hd (xs := ([wrap64 (1 + t185)] : List Int)) (inner := [.int .i64 (wrap64 (1 + t185))]) (ok := fun _ => True) (okp := fun _ => True) ?hr ?hp (fun _ hk => hk) trivial (Below.refl _ _) (Nat.le_refl _) (by simp) ?_; (case hd => rfl); (case hg => rfl); (case hr => first | (go_simp; done) | (go_simp; rfl)); (case hp => exact (Reps.one (show Kd.M (Kd.int .i64) _ _ _ (wrap64 (1 + t185)) [.int .i64 (wrap64 (1 + t185))] from rfl) (Reps.none _ _))); intro v187 w11 ho12 hb hg_ hnew_; clear hg_ hnew_; (first | rw [← Ny186.out] at ho12 | (simp only [Int.reduceToNat] at ho12; rw [← Ny186.out] at ho12)); have n0_ := Aside0.mk (Kd.N_elder' (by (with_reducible repeat (first | apply Kd.N_alloc | apply Kd.N_drewN | apply Kd.N_drew)); exact HO_7.out) (by first | (with_reducible exact Kd.R_base ho12) | (with_reducible exact Kd.S_base ho12) | (with_reducible exact Kd.R_base ho12) | exact Kd.R_base ho12) hb); have n1_ := Aside0.mk (Kd.R_lower ho12 (below_size (by repeat (first | (with_reducible first | exact HB.out | apply below_alloc | apply pw_below_drewN | apply below_drew1) | exact HB.out)))); have n2_ := Aside0.mk (below_step (by repeat (first | (with_reducible first | exact HB.out | apply below_alloc | apply pw_below_drewN | apply below_drew1) | exact HB.out)) hb); clear HO_7; clear HB; have HO_7 := n0_; have HO188 := n1_; have HB := n2_; clear n0_ n1_ n2_; clear hb ho12; obtain ⟨Ao13, co13, eo13⟩ := Kd.R_slice HO188.out; subst eo13) | ((with_reducible refine gate_dst (N := 40) rfl ?_); (try (refine gate_guard (by rfl) ?_; dsimp only)); refine Kd.R_lit (Kd.int .u8) _ 5 ?hg (N := 40) ?hd (xs := ([(wrap64 (1 + t185)) % 256, (x8_1) % 256] : List Int)) (inner := [.int .u8 ((wrap64 (1 + t185)) % 256), .int .u8 ((x8_1) % 256)]) (ok := fun _ => True) (okp := fun _ => True) ?hr ?hp (fun _ hk => hk) trivial (Below.refl _ _) (Nat.le_refl _) (by simp) ?_; (case hd => rfl); (case hg => rfl); (case hr => first | (go_simp; done) | (go_simp; rfl)); (case hp => exact (Reps.one (show Kd.M (Kd.int .u8) _ _ _ ((wrap64 (1 + t185)) % 256) [.int .u8 ((wrap64 (1 + t185)) % 256)] from rfl) (Reps.one (show Kd.M (Kd.int .u8) _ _ _ ((x8_1) % 256) [.int .u8 ((x8_1) % 256)] from rfl) (Reps.none _ _)))); intro v190 w14 ho15 hb hg_ hnew_; clear hg_ hnew_; (first | rw [← Ny189.out] at ho15 | (simp only [Int.reduceToNat] at ho15; rw [← Ny189.out] at ho15)); have n0_ := Aside0.mk (Kd.N_elder' (by (with_reducible repeat (first | apply Kd.N_alloc | apply Kd.N_drewN | apply Kd.N_drew)); exact HO_7.out) (by first | (with_reducible exact Kd.R_base ho15) | (with_reducible exact Kd.S_base ho15) | (with_reducible exact Kd.R_base ho15) | exact Kd.R_base ho15) hb); have n1_ := Aside0.mk (Kd.R_below (by (with_reducible repeat (first | apply Kd.R_alloc | apply Kd.R_drewN | apply Kd.R_drew)); exact HO188.out) hb); have n2_ := Aside0.mk (Kd.R_lower ho15 (below_size (by repeat (first | (with_reducible first | exact HB.out | apply below_alloc | apply pw_below_drewN | apply below_drew1) | exact HB.out)))); have n3_ := Aside0.mk (below_step (by repeat (first | (with_reducible first | exact HB.out | apply below_alloc | apply pw_below_drewN | apply below_drew1) | exact HB.out)) hb); clear HO_7; clear HO188; clear HB; have HO_7 := n0_; have HO188 := n1_; have HO191 := n2_; have HB := n3_; clear n0_ n1_ n2_ n3_; clear hb ho15; obtain ⟨Ao16, co16, eo16⟩ := Kd.N_slice HO_7.out; subst eo16; obtain ⟨Ao17, co17, eo17⟩ := Kd.R_slice HO191.out; subst eo17) | (go_at_call 12; (with_reducible refine (link_Send.calls k1 _ _ x7_1 _ _ y186 0 0 _ _ y189 t183 t192 _ ?side1 ?side2 ?side3 ?side4 ?side5 ?side6 A10.out).mono ?_); (case side1 => repeat (first | exact (Kd.N_reads' HO_7.out).2.2 | (with_reducible refine Kd.C_alloc ?_ _) | (with_reducible refine Kd.C_drewN ?_ _) | (with_reducible refine Kd.C_drew ?_))); (case side2 => exact (Kd.N_reads' HO_7.out).2.1); (case side3 => repeat (first | exact (Kd.R_reads' HO188.out).2.2 | (with_reducible refine Kd.C_alloc ?_ _) | (with_reducible refine Kd.C_drewN ?_ _) | (with_reducible refine Kd.C_drew ?_))); (case side4 => exact (Kd.R_reads' HO188.out).2.1); (case side5 => repeat (first | exact (Kd.R_reads' HO191.out).2.2 | (with_reducible refine Kd.C_alloc ?_ _) | (with_reducible refine Kd.C_drewN ?_ _) | (with_reducible refine Kd.C_drew ?_))); (case side6 => exact (Kd.R_reads' HO191.out).2.1); rintro e w18 ⟨v193, rfl, ho0, hb⟩; have n0_ := Aside0.mk (Kd.N_elder' (by (with_reducible repeat (first | apply Kd.N_alloc | apply Kd.N_drewN | apply Kd.N_drew)); exact HO_7.out) (by first | (with_reducible exact Kd.N_base ho0) | (with_reducible exact Kd.S_base ho0) | (with_reducible exact Kd.R_base ho0) | exact Kd.N_base ho0) hb); have n1_ := Aside0.mk (Kd.R_below (by (with_reducible repeat (first | apply Kd.R_alloc | apply Kd.R_drewN | apply Kd.R_drew)); exact HO188.out) hb); have n2_ := Aside0.mk (Kd.R_below (by (with_reducible repeat (first | apply Kd.R_alloc | apply Kd.R_drewN | apply Kd.R_drew)); exact HO191.out) hb); have n3_ := Aside0.mk (Kd.N_lower (Kd.N_mono (ok' := fun k_ => some k_ ≠ (.slice Ao16 x7_1.length co16 : Value).ownBlock ∧ some k_ ≠ (.slice Ao13 y186.length co13 : Value).ownBlock ∧ some k_ ≠ (.slice Ao17 y189.length co17 : Value).ownBlock) (Kd.S_N (Kd.S_bound ho0)) (fun k_ hk_ => ⟨(Kd.fresh' (Kd.N_lt (by (with_reducible repeat (first | apply Kd.N_alloc | apply Kd.N_drewN | apply Kd.N_drew)); exact HO_7.out)) k_ hk_.2.1), (Kd.fresh' (Kd.R_lt (by (with_reducible repeat (first | apply Kd.R_alloc | apply Kd.R_drewN | apply Kd.R_drew)); exact HO188.out)) k_ hk_.2.1), (Kd.fresh' (Kd.R_lt (by (with_reducible repeat (first | apply Kd.R_alloc | apply Kd.R_drewN | apply Kd.R_drew)); exact HO191.out)) k_ hk_.2.1)⟩)) (below_size (by repeat (first | (with_reducible first | exact HB.out | apply below_alloc | apply pw_below_drewN | apply below_drew1) | exact HB.out)))); have n4_ := Aside0.mk (below_step (by repeat (first | (with_reducible first | exact HB.out | apply below_alloc | apply pw_below_drewN | apply below_drew1) | exact HB.out)) hb); clear HO_7; clear HO188; clear HO191; clear HB; have HO_7 := n0_; have HO188 := n1_; have HO191 := n2_; have HO194 := n3_; have HB := n4_; clear n0_ n1_ n2_ n3_ n4_; (try clear hb); (try clear hb2); (try clear hk); (try clear hi); (try clear ho0))))
            go_roundg k1
            case measure => have := HK1.out; omega
            case rel => exact ⟨(t192), (wrap64 (x8_1 + 1)), (by first | rfl | (simp; done) | (simp [*]; done)), H', ⟨by have := HK1.out; omega⟩, ⟨by (with_reducible repeat (first | apply Kd.N_alloc | apply Kd.N_drewN | apply Kd.N_drew)); exact Kd.N_mono HO194.out (fun _ hk => trivial)⟩, ⟨by repeat (first | (with_reducible first | exact HB.out | apply below_alloc | apply pw_below_drewN | apply below_drew1) | exact HB.out)⟩⟩
          · rw [if_neg c8] at H
            exact absurd H (by simp)
        · rw [if_neg c7] at H
          have c7b0 : decide (x8_1 < (l2.length : Int)) = false := decide_eq_false c7
          clear c7
          obtain ⟨y195, hy195⟩ : ∃ y_ : List Int, y_ = (([1] : List Int)) := ⟨_, rfl⟩
          replace H : ((link_Send.f k1 x7_1 y195 0 0 (([1, (x8_1) % 256] : List Int)) t183).bind fun t201 => (debuggerlaw34_LinkOrder.l0 k1 t182 t183 l2 t201 (wrap64 (x8_1 + 1)))) = some r := by first | (rw [hy195]; with_reducible exact H) | (have H2_ := (Option.bind_some _ _).symm.trans H; rw [hy195]; with_reducible exact H2_) | (have H2_ := (Option.bind_some _ _).symm.trans H; with_reducible exact H2_) | with_reducible exact H | (rw [hy195]; exact H) | exact H
          have Ny195 := Aside0.mk hy195
          clear hy195
          obtain ⟨y198, hy198⟩ : ∃ y_ : List Int, y_ = (([1, (x8_1) % 256] : List Int)) := ⟨_, rfl⟩
          replace H : ((link_Send.f k1 x7_1 y195 0 0 y198 t183).bind fun t201 => (debuggerlaw34_LinkOrder.l0 k1 t182 t183 l2 t201 (wrap64 (x8_1 + 1)))) = some r := by first | (rw [hy198]; with_reducible exact H) | (have H2_ := (Option.bind_some _ _).symm.trans H; rw [hy198]; with_reducible exact H2_) | (have H2_ := (Option.bind_some _ _).symm.trans H; with_reducible exact H2_) | with_reducible exact H | (rw [hy198]; exact H) | exact H
          have Ny198 := Aside0.mk hy198
          clear hy198
          replace H := Option.bind_eq_some_iff.mp H
          obtain ⟨t201, A190, H⟩ := H
          replace H : (debuggerlaw34_LinkOrder.l0 k1 t182 t183 l2 t201 (wrap64 (x8_1 + 1))) = some r := H
          have A19 := Aside0.mk A190
          clear A190
          have H' := Aside0.mk H
          clear H
          go_wp2_with (first | ((with_reducible refine gate_dst (N := 34) rfl ?_); (try (refine gate_guard (by rfl) ?_; dsimp only)); refine Kd.R_lit (Kd.int .i64) _ 3 ?hg (N := 34) ?hd (xs := ([1] : List Int)) (inner := [.int .i64 1]) (ok := fun _ => True) (okp := fun _ => True) ?hr ?hp (fun _ hk => hk) trivial (Below.refl _ _) (Nat.le_refl _) (by simp) ?_; (case hd => rfl); (case hg => rfl); (case hr => first | (go_simp; done) | (go_simp; rfl)); (case hp => exact (Reps.one (show Kd.M (Kd.int .i64) _ _ _ 1 [.int .i64 1] from rfl) (Reps.none _ _))); intro v196 w20 ho21 hb hg_ hnew_; clear hg_ hnew_; (first | rw [← Ny195.out] at ho21 | (simp only [Int.reduceToNat] at ho21; rw [← Ny195.out] at ho21)); have n0_ := Aside0.mk (Kd.N_elder' (by (with_reducible repeat (first | apply Kd.N_alloc | apply Kd.N_drewN | apply Kd.N_drew)); exact HO_7.out) (by first | (with_reducible exact Kd.R_base ho21) | (with_reducible exact Kd.S_base ho21) | (with_reducible exact Kd.R_base ho21) | exact Kd.R_base ho21) hb); have n1_ := Aside0.mk (Kd.R_lower ho21 (below_size (by repeat (first | (with_reducible first | exact HB.out | apply below_alloc | apply pw_below_drewN | apply below_drew1) | exact HB.out)))); have n2_ := Aside0.mk (below_step (by repeat (first | (with_reducible first | exact HB.out | apply below_alloc | apply pw_below_drewN | apply below_drew1) | exact HB.out)) hb); clear HO_7; clear HB; have HO_7 := n0_; have HO197 := n1_; have HB := n2_; clear n0_ n1_ n2_; clear hb ho21; obtain ⟨Ao22, co22, eo22⟩ := Kd.R_slice HO197.out; subst eo22) | ((with_reducible refine gate_dst (N := 40) rfl ?_); (try (refine gate_guard (by rfl) ?_; dsimp only)); refine Kd.R_lit (Kd.int .u8) _ 5 ?hg (N := 40) ?hd (xs := ([1, (x8_1) % 256] : List Int)) (inner := [.int .u8 1, .int .u8 ((x8_1) % 256)]) (ok := fun _ => True) (okp := fun _ => True) ?hr ?hp (fun _ hk => hk) trivial (Below.refl _ _) (Nat.le_refl _) (by simp) ?_; (case hd => rfl); (case hg => rfl); (case hr => first | (go_simp; done) | (go_simp; rfl)); (case hp => exact (Reps.one (show Kd.M (Kd.int .u8) _ _ _ 1 [.int .u8 1] from rfl) (Reps.one (show Kd.M (Kd.int .u8) _ _ _ ((x8_1) % 256) [.int .u8 ((x8_1) % 256)] from rfl) (Reps.none _ _)))); intro v199 w23 ho24 hb hg_ hnew_; clear hg_ hnew_; (first | rw [← Ny198.out] at ho24 | (simp only [Int.reduceToNat] at ho24; rw [← Ny198.out] at ho24)); have n0_ := Aside0.mk (Kd.N_elder' (by (with_reducible repeat (first | apply Kd.N_alloc | apply Kd.N_drewN | apply Kd.N_drew)); exact HO_7.out) (by first | (with_reducible exact Kd.R_base ho24) | (with_reducible exact Kd.S_base ho24) | (with_reducible exact Kd.R_base ho24) | exact Kd.R_base ho24) hb); have n1_ := Aside0.mk (Kd.R_below (by (with_reducible repeat (first | apply Kd.R_alloc | apply Kd.R_drewN | apply Kd.R_drew)); exact HO197.out) hb); have n2_ := Aside0.mk (Kd.R_lower ho24 (below_size (by repeat (first | (with_reducible first | exact HB.out | apply below_alloc | apply pw_below_drewN | apply below_drew1) | exact HB.out)))); have n3_ := Aside0.mk (below_step (by repeat (first | (with_reducible first | exact HB.out | apply below_alloc | apply pw_below_drewN | apply below_drew1) | exact HB.out)) hb); clear HO_7; clear HO197; clear HB; have HO_7 := n0_; have HO197 := n1_; have HO200 := n2_; have HB := n3_; clear n0_ n1_ n2_ n3_; clear hb ho24; obtain ⟨Ao25, co25, eo25⟩ := Kd.N_slice HO_7.out; subst eo25; obtain ⟨Ao26, co26, eo26⟩ := Kd.R_slice HO200.out; subst eo26) | (go_at_call 12; (with_reducible refine (link_Send.calls k1 _ _ x7_1 _ _ y195 0 0 _ _ y198 t183 t201 _ ?side1 ?side2 ?side3 ?side4 ?side5 ?side6 A19.out).mono ?_); (case side1 => repeat (first | exact (Kd.N_reads' HO_7.out).2.2 | (with_reducible refine Kd.C_alloc ?_ _) | (with_reducible refine Kd.C_drewN ?_ _) | (with_reducible refine Kd.C_drew ?_))); (case side2 => exact (Kd.N_reads' HO_7.out).2.1); (case side3 => repeat (first | exact (Kd.R_reads' HO197.out).2.2 | (with_reducible refine Kd.C_alloc ?_ _) | (with_reducible refine Kd.C_drewN ?_ _) | (with_reducible refine Kd.C_drew ?_))); (case side4 => exact (Kd.R_reads' HO197.out).2.1); (case side5 => repeat (first | exact (Kd.R_reads' HO200.out).2.2 | (with_reducible refine Kd.C_alloc ?_ _) | (with_reducible refine Kd.C_drewN ?_ _) | (with_reducible refine Kd.C_drew ?_))); (case side6 => exact (Kd.R_reads' HO200.out).2.1); rintro e w27 ⟨v202, rfl, ho0, hb⟩; have n0_ := Aside0.mk (Kd.N_elder' (by (with_reducible repeat (first | apply Kd.N_alloc | apply Kd.N_drewN | apply Kd.N_drew)); exact HO_7.out) (by first | (with_reducible exact Kd.N_base ho0) | (with_reducible exact Kd.S_base ho0) | (with_reducible exact Kd.R_base ho0) | exact Kd.N_base ho0) hb); have n1_ := Aside0.mk (Kd.R_below (by (with_reducible repeat (first | apply Kd.R_alloc | apply Kd.R_drewN | apply Kd.R_drew)); exact HO197.out) hb); have n2_ := Aside0.mk (Kd.R_below (by (with_reducible repeat (first | apply Kd.R_alloc | apply Kd.R_drewN | apply Kd.R_drew)); exact HO200.out) hb); have n3_ := Aside0.mk (Kd.N_lower (Kd.N_mono (ok' := fun k_ => some k_ ≠ (.slice Ao25 x7_1.length co25 : Value).ownBlock ∧ some k_ ≠ (.slice Ao22 y195.length co22 : Value).ownBlock ∧ some k_ ≠ (.slice Ao26 y198.length co26 : Value).ownBlock) (Kd.S_N (Kd.S_bound ho0)) (fun k_ hk_ => ⟨(Kd.fresh' (Kd.N_lt (by (with_reducible repeat (first | apply Kd.N_alloc | apply Kd.N_drewN | apply Kd.N_drew)); exact HO_7.out)) k_ hk_.2.1), (Kd.fresh' (Kd.R_lt (by (with_reducible repeat (first | apply Kd.R_alloc | apply Kd.R_drewN | apply Kd.R_drew)); exact HO197.out)) k_ hk_.2.1), (Kd.fresh' (Kd.R_lt (by (with_reducible repeat (first | apply Kd.R_alloc | apply Kd.R_drewN | apply Kd.R_drew)); exact HO200.out)) k_ hk_.2.1)⟩)) (below_size (by repeat (first | (with_reducible first | exact HB.out | apply below_alloc | apply pw_below_drewN | apply below_drew1) | exact HB.out)))); have n4_ := Aside0.mk (below_step (by repeat (first | (with_reducible first | exact HB.out | apply below_alloc | apply pw_below_drewN | apply below_drew1) | exact HB.out)) hb); clear HO_7; clear HO197; clear HO200; clear HB; have HO_7 := n0_; have HO197 := n1_; have HO200 := n2_; have HO203 := n3_; have HB := n4_; clear n0_ n1_ n2_ n3_ n4_; (try clear hb); (try clear hb2); (try clear hk); (try clear hi); (try clear ho0)))
          repeat (go_quiet (first | ((with_reducible refine gate_dst (N := 34) rfl ?_); (try (refine gate_guard (by rfl) ?_; dsimp only)); refine Kd.R_lit (Kd.int .i64) _ 3 ?hg (N := 34) ?hd (xs := ([1] : List Int)) (inner := [.int .i64 1]) (ok := fun _ => True) (okp := fun _ => True) ?hr ?hp (fun _ hk => hk) trivial (Below.refl _ _) (Nat.le_refl _) (by simp) ?_; (case hd => rfl); (case hg => rfl); (case hr => first | (go_simp; done) | (go_simp; rfl)); (case hp => exact (Reps.one (show Kd.M (Kd.int .i64) _ _ _ 1 [.int .i64 1] from rfl) (Reps.none _ _))); intro v196 w20 ho21 hb hg_ hnew_; clear hg_ hnew_; (first | rw [← Ny195.out] at ho21 | (simp only [Int.reduceToNat] at ho21; rw [← Ny195.out] at ho21)); have n0_ := Aside0.mk (Kd.N_elder' (by (with_reducible repeat (first | apply Kd.N_alloc | apply Kd.N_drewN | apply Kd.N_drew)); exact HO_7.out) (by first | (with_reducible exact Kd.R_base ho21) | (with_reducible exact Kd.S_base ho21) | (with_reducible exact Kd.R_base ho21) | exact Kd.R_base ho21) hb); have n1_ := Aside0.mk (Kd.R_lower ho21 (below_size (by repeat (first | (with_reducible first | exact HB.out | apply below_alloc | apply pw_below_drewN | apply below_drew1) | exact HB.out)))); have n2_ := Aside0.mk (below_step (by repeat (first | (with_reducible first | exact HB.out | apply below_alloc | apply pw_below_drewN | apply below_drew1) | exact HB.out)) hb); clear HO_7; clear HB; have HO_7 := n0_; have HO197 := n1_; have HB := n2_; clear n0_ n1_ n2_; clear hb ho21; obtain ⟨Ao22, co22, eo22⟩ := Kd.R_slice HO197.out; subst eo22) | ((with_reducible refine gate_dst (N := 40) rfl ?_); (try (refine gate_guard (by rfl) ?_; dsimp only)); refine Kd.R_lit (Kd.int .u8) _ 5 ?hg (N := 40) ?hd (xs := ([1, (x8_1) % 256] : List Int)) (inner := [.int .u8 1, .int .u8 ((x8_1) % 256)]) (ok := fun _ => True) (okp := fun _ => True) ?hr ?hp (fun _ hk => hk) trivial (Below.refl _ _) (Nat.le_refl _) (by simp) ?_; (case hd => rfl); (case hg => rfl); (case hr => first | (go_simp; done) | (go_simp; rfl)); (case hp => exact (Reps.one (show Kd.M (Kd.int .u8) _ _ _ 1 [.int .u8 1] from rfl) (Reps.one (show Kd.M (Kd.int .u8) _ _ _ ((x8_1) % 256) [.int .u8 ((x8_1) % 256)] from rfl) (Reps.none _ _)))); intro v199 w23 ho24 hb hg_ hnew_; clear hg_ hnew_; (first | rw [← Ny198.out] at ho24 | (simp only [Int.reduceToNat] at ho24; rw [← Ny198.out] at ho24)); have n0_ := Aside0.mk (Kd.N_elder' (by (with_reducible repeat (first | apply Kd.N_alloc | apply Kd.N_drewN | apply Kd.N_drew)); exact HO_7.out) (by first | (with_reducible exact Kd.R_base ho24) | (with_reducible exact Kd.S_base ho24) | (with_reducible exact Kd.R_base ho24) | exact Kd.R_base ho24) hb); have n1_ := Aside0.mk (Kd.R_below (by (with_reducible repeat (first | apply Kd.R_alloc | apply Kd.R_drewN | apply Kd.R_drew)); exact HO197.out) hb); have n2_ := Aside0.mk (Kd.R_lower ho24 (below_size (by repeat (first | (with_reducible first | exact HB.out | apply below_alloc | apply pw_below_drewN | apply below_drew1) | exact HB.out)))); have n3_ := Aside0.mk (below_step (by repeat (first | (with_reducible first | exact HB.out | apply below_alloc | apply pw_below_drewN | apply below_drew1) | exact HB.out)) hb); clear HO_7; clear HO197; clear HB; have HO_7 := n0_; have HO197 := n1_; have HO200 := n2_; have HB := n3_; clear n0_ n1_ n2_ n3_; clear hb ho24; obtain ⟨Ao25, co25, eo25⟩ := Kd.N_slice HO_7.out; subst eo25; obtain ⟨Ao26, co26, eo26⟩ := Kd.R_slice HO200.out; subst eo26) | (go_at_call 12; (with_reducible refine (link_Send.calls k1 _ _ x7_1 _ _ y195 0 0 _ _ y198 t183 t201 _ ?side1 ?side2 ?side3 ?side4 ?side5 ?side6 A19.out).mono ?_); (case side1 => repeat (first | exact (Kd.N_reads' HO_7.out).2.2 | (with_reducible refine Kd.C_alloc ?_ _) | (with_reducible refine Kd.C_drewN ?_ _) | (with_reducible refine Kd.C_drew ?_))); (case side2 => exact (Kd.N_reads' HO_7.out).2.1); (case side3 => repeat (first | exact (Kd.R_reads' HO197.out).2.2 | (with_reducible refine Kd.C_alloc ?_ _) | (with_reducible refine Kd.C_drewN ?_ _) | (with_reducible refine Kd.C_drew ?_))); (case side4 => exact (Kd.R_reads' HO197.out).2.1); (case side5 => repeat (first | exact (Kd.R_reads' HO200.out).2.2 | (with_reducible refine Kd.C_alloc ?_ _) | (with_reducible refine Kd.C_drewN ?_ _) | (with_reducible refine Kd.C_drew ?_))); (case side6 => exact (Kd.R_reads' HO200.out).2.1); rintro e w27 ⟨v202, rfl, ho0, hb⟩; have n0_ := Aside0.mk (Kd.N_elder' (by (with_reducible repeat (first | apply Kd.N_alloc | apply Kd.N_drewN | apply Kd.N_drew)); exact HO_7.out) (by first | (with_reducible exact Kd.N_base ho0) | (with_reducible exact Kd.S_base ho0) | (with_reducible exact Kd.R_base ho0) | exact Kd.N_base ho0) hb); have n1_ := Aside0.mk (Kd.R_below (by (with_reducible repeat (first | apply Kd.R_alloc | apply Kd.R_drewN | apply Kd.R_drew)); exact HO197.out) hb); have n2_ := Aside0.mk (Kd.R_below (by (with_reducible repeat (first | apply Kd.R_alloc | apply Kd.R_drewN | apply Kd.R_drew)); exact HO200.out) hb); have n3_ := Aside0.mk (Kd.N_lower (Kd.N_mono (ok' := fun k_ => some k_ ≠ (.slice Ao25 x7_1.length co25 : Value).ownBlock ∧ some k_ ≠ (.slice Ao22 y195.length co22 : Value).ownBlock ∧ some k_ ≠ (.slice Ao26 y198.length co26 : Value).ownBlock) (Kd.S_N (Kd.S_bound ho0)) (fun k_ hk_ => ⟨(Kd.fresh' (Kd.N_lt (by (with_reducible repeat (first | apply Kd.N_alloc | apply Kd.N_drewN | apply Kd.N_drew)); exact HO_7.out)) k_ hk_.2.1), (Kd.fresh' (Kd.R_lt (by (with_reducible repeat (first | apply Kd.R_alloc | apply Kd.R_drewN | apply Kd.R_drew)); exact HO197.out)) k_ hk_.2.1), (Kd.fresh' (Kd.R_lt (by (with_reducible repeat (first | apply Kd.R_alloc | apply Kd.R_drewN | apply Kd.R_drew)); exact HO200.out)) k_ hk_.2.1)⟩)) (below_size (by repeat (first | (with_reducible first | exact HB.out | apply below_alloc | apply pw_below_drewN | apply below_drew1) | exact HB.out)))); have n4_ := Aside0.mk (below_step (by repeat (first | (with_reducible first | exact HB.out | apply below_alloc | apply pw_below_drewN | apply below_drew1) | exact HB.out)) hb); clear HO_7; clear HO197; clear HO200; clear HB; have HO_7 := n0_; have HO197 := n1_; have HO200 := n2_; have HO203 := n3_; have HB := n4_; clear n0_ n1_ n2_ n3_ n4_; (try clear hb); (try clear hb2); (try clear hk); (try clear hi); (try clear ho0))); try go_wp2_with (first | ((with_reducible refine gate_dst (N := 34) rfl ?_); (try (refine gate_guard (by rfl) ?_; dsimp only)); refine Kd.R_lit (Kd.int .i64) _ 3 ?hg (N := 34) ?hd (xs := ([1] : List Int)) (inner := [.int .i64 1]) (ok := fun _ => True) (okp := fun _ => True) ?hr ?hp (fun _ hk => hk) trivial (Below.refl _ _) (Nat.le_refl _) (by simp) ?_; (case hd => rfl); (case hg => rfl); (case hr => first | (go_simp; done) | (go_simp; rfl)); (case hp => exact (Reps.one (show Kd.M (Kd.int .i64) _ _ _ 1 [.int .i64 1] from rfl) (Reps.none _ _))); intro v196 w20 ho21 hb hg_ hnew_; clear hg_ hnew_; (first | rw [← Ny195.out] at ho21 | (simp only [Int.reduceToNat] at ho21; rw [← Ny195.out] at ho21)); have n0_ := Aside0.mk (Kd.N_elder' (by (with_reducible repeat (first | apply Kd.N_alloc | apply Kd.N_drewN | apply Kd.N_drew)); exact HO_7.out) (by first | (with_reducible exact Kd.R_base ho21) | (with_reducible exact Kd.S_base ho21) | (with_reducible exact Kd.R_base ho21) | exact Kd.R_base ho21) hb); have n1_ := Aside0.mk (Kd.R_lower ho21 (below_size (by repeat (first | (with_reducible first | exact HB.out | apply below_alloc | apply pw_below_drewN | apply below_drew1) | exact HB.out)))); have n2_ := Aside0.mk (below_step (by repeat (first | (with_reducible first | exact HB.out | apply below_alloc | apply pw_below_drewN | apply below_drew1) | exact HB.out)) hb); clear HO_7; clear HB; have HO_7 := n0_; have HO197 := n1_; have HB := n2_; clear n0_ n1_ n2_; clear hb ho21; obtain ⟨Ao22, co22, eo22⟩ := Kd.R_slice HO197.out; subst eo22) | ((with_reducible refine gate_dst (N := 40) rfl ?_); (try (refine gate_guard (by rfl) ?_; dsimp only)); refine Kd.R_lit (Kd.int .u8) _ 5 ?hg (N := 40) ?hd (xs := ([1, (x8_1) % 256] : List Int)) (inner := [.int .u8 1, .int .u8 ((x8_1) % 256)]) (ok := fun _ => True) (okp := fun _ => True) ?hr ?hp (fun _ hk => hk) trivial (Below.refl _ _) (Nat.le_refl _) (by simp) ?_; (case hd => rfl); (case hg => rfl); (case hr => first | (go_simp; done) | (go_simp; rfl)); (case hp => exact (Reps.one (show Kd.M (Kd.int .u8) _ _ _ 1 [.int .u8 1] from rfl) (Reps.one (show Kd.M (Kd.int .u8) _ _ _ ((x8_1) % 256) [.int .u8 ((x8_1) % 256)] from rfl) (Reps.none _ _)))); intro v199 w23 ho24 hb hg_ hnew_; clear hg_ hnew_; (first | rw [← Ny198.out] at ho24 | (simp only [Int.reduceToNat] at ho24; rw [← Ny198.out] at ho24)); have n0_ := Aside0.mk (Kd.N_elder' (by (with_reducible repeat (first | apply Kd.N_alloc | apply Kd.N_drewN | apply Kd.N_drew)); exact HO_7.out) (by first | (with_reducible exact Kd.R_base ho24) | (with_reducible exact Kd.S_base ho24) | (with_reducible exact Kd.R_base ho24) | exact Kd.R_base ho24) hb); have n1_ := Aside0.mk (Kd.R_below (by (with_reducible repeat (first | apply Kd.R_alloc | apply Kd.R_drewN | apply Kd.R_drew)); exact HO197.out) hb); have n2_ := Aside0.mk (Kd.R_lower ho24 (below_size (by repeat (first | (with_reducible first | exact HB.out | apply below_alloc | apply pw_below_drewN | apply below_drew1) | exact HB.out)))); have n3_ := Aside0.mk (below_step (by repeat (first | (with_reducible first | exact HB.out | apply below_alloc | apply pw_below_drewN | apply below_drew1) | exact HB.out)) hb); clear HO_7; clear HO197; clear HB; have HO_7 := n0_; have HO197 := n1_; have HO200 := n2_; have HB := n3_; clear n0_ n1_ n2_ n3_; clear hb ho24; obtain ⟨Ao25, co25, eo25⟩ := Kd.N_slice HO_7.out; subst eo25; obtain ⟨Ao26, co26, eo26⟩ := Kd.R_slice HO200.out; subst eo26) | (go_at_call 12; (with_reducible refine (link_Send.calls k1 _ _ x7_1 _ _ y195 0 0 _ _ y198 t183 t201 _ ?side1 ?side2 ?side3 ?side4 ?side5 ?side6 A19.out).mono ?_); (case side1 => repeat (first | exact (Kd.N_reads' HO_7.out).2.2 | (with_reducible refine Kd.C_alloc ?_ _) | (with_reducible refine Kd.C_drewN ?_ _) | (with_reducible refine Kd.C_drew ?_))); (case side2 => exact (Kd.N_reads' HO_7.out).2.1); (case side3 => repeat (first | exact (Kd.R_reads' HO197.out).2.2 | (with_reducible refine Kd.C_alloc ?_ _) | (with_reducible refine Kd.C_drewN ?_ _) | (with_reducible refine Kd.C_drew ?_))); (case side4 => exact (Kd.R_reads' HO197.out).2.1); (case side5 => repeat (first | exact (Kd.R_reads' HO200.out).2.2 | (with_reducible refine Kd.C_alloc ?_ _) | (with_reducible refine Kd.C_drewN ?_ _) | (with_reducible refine Kd.C_drew ?_))); (case side6 => exact (Kd.R_reads' HO200.out).2.1); rintro e w27 ⟨v202, rfl, ho0, hb⟩; have n0_ := Aside0.mk (Kd.N_elder' (by (with_reducible repeat (first | apply Kd.N_alloc | apply Kd.N_drewN | apply Kd.N_drew)); exact HO_7.out) (by first | (with_reducible exact Kd.N_base ho0) | (with_reducible exact Kd.S_base ho0) | (with_reducible exact Kd.R_base ho0) | exact Kd.N_base ho0) hb); have n1_ := Aside0.mk (Kd.R_below (by (with_reducible repeat (first | apply Kd.R_alloc | apply Kd.R_drewN | apply Kd.R_drew)); exact HO197.out) hb); have n2_ := Aside0.mk (Kd.R_below (by (with_reducible repeat (first | apply Kd.R_alloc | apply Kd.R_drewN | apply Kd.R_drew)); exact HO200.out) hb); have n3_ := Aside0.mk (Kd.N_lower (Kd.N_mono (ok' := fun k_ => some k_ ≠ (.slice Ao25 x7_1.length co25 : Value).ownBlock ∧ some k_ ≠ (.slice Ao22 y195.length co22 : Value).ownBlock ∧ some k_ ≠ (.slice Ao26 y198.length co26 : Value).ownBlock) (Kd.S_N (Kd.S_bound ho0)) (fun k_ hk_ => ⟨(Kd.fresh' (Kd.N_lt (by (with_reducible repeat (first | apply Kd.N_alloc | apply Kd.N_drewN | apply Kd.N_drew)); exact HO_7.out)) k_ hk_.2.1), (Kd.fresh' (Kd.R_lt (by (with_reducible repeat (first | apply Kd.R_alloc | apply Kd.R_drewN | apply Kd.R_drew)); exact HO197.out)) k_ hk_.2.1), (Kd.fresh' (Kd.R_lt (by (with_reducible repeat (first | apply Kd.R_alloc | apply Kd.R_drewN | apply Kd.R_drew)); exact HO200.out)) k_ hk_.2.1)⟩)) (below_size (by repeat (first | (with_reducible first | exact HB.out | apply below_alloc | apply pw_below_drewN | apply below_drew1) | exact HB.out)))); have n4_ := Aside0.mk (below_step (by repeat (first | (with_reducible first | exact HB.out | apply below_alloc | apply pw_below_drewN | apply below_drew1) | exact HB.out)) hb); clear HO_7; clear HO197; clear HO200; clear HB; have HO_7 := n0_; have HO197 := n1_; have HO200 := n2_; have HO203 := n3_; have HB := n4_; clear n0_ n1_ n2_ n3_ n4_; (try clear hb); (try clear hb2); (try clear hk); (try clear hi); (try clear ho0))))
          go_roundg k1
          case measure => have := HK1.out; omega
          case rel => exact ⟨(t201), (wrap64 (x8_1 + 1)), (by first | rfl | (simp; done) | (simp [*]; done)), H', ⟨by have := HK1.out; omega⟩, ⟨by (with_reducible repeat (first | apply Kd.N_alloc | apply Kd.N_drewN | apply Kd.N_drew)); exact Kd.N_mono HO203.out (fun _ hk => trivial)⟩, ⟨by repeat (first | (with_reducible first | exact HB.out | apply below_alloc | apply pw_below_drewN | apply below_drew1) | exact HB.out)⟩⟩
      · rw [if_neg c6] at H
        have c6b0 : decide (x8_1 < t182) = false := decide_eq_false c6
        clear c6
        replace H := Option.bind_eq_some_iff.mp H
        obtain ⟨⟨t204, t207⟩, A280, H⟩ := H
        replace H : (debuggerlaw34_LinkOrder.l1 k1 t182 t204 t207 0) = some r := H
        have A28 := Aside0.mk A280
        clear A280
        have H' := Aside0.mk H
        clear H
        obtain ⟨Ao29, co29, eo29⟩ := Kd.N_slice HO_7.out
        subst eo29
        go_wp2_with (first | (go_at_call 17; (with_reducible refine (link_Arrive.calls k1 _ _ x7_1 (wrap64 (t183 + 3)) t204 t207 _ ?side1 ?side2 A28.out).mono ?_); (case side1 => repeat (first | exact (Kd.N_reads' HO_7.out).2.2 | (with_reducible refine Kd.C_alloc ?_ _) | (with_reducible refine Kd.C_drewN ?_ _) | (with_reducible refine Kd.C_drew ?_))); (case side2 => exact (Kd.N_reads' HO_7.out).2.1); rintro e w30 ⟨v205, v208, rfl, ho0, ho1, hb⟩; have n0_ := Aside0.mk (Kd.N_mono (Kd.N_told (Kd.N_told (Kd.N_old (by (with_reducible repeat (first | apply Kd.N_alloc | apply Kd.N_drewN | apply Kd.N_drew)); exact HO_7.out) hb) (Kd.N_base ho0)) (Kd.N_base ho1)) (fun _ h_ => h_.1)); have n1_ := Aside0.mk (Kd.N_lower (Kd.N_mono (ok' := fun k_ => some k_ ≠ (v208 : Value).ownBlock ∧ some k_ ≠ (.slice Ao29 x7_1.length co29 : Value).ownBlock) ho0 (fun k_ hk_ => ⟨hk_.2, (Kd.fresh' (Kd.N_lt (by (with_reducible repeat (first | apply Kd.N_alloc | apply Kd.N_drewN | apply Kd.N_drew)); exact HO_7.out)) k_ hk_.1)⟩)) (below_size (by repeat (first | (with_reducible first | exact HB.out | apply below_alloc | apply pw_below_drewN | apply below_drew1) | exact HB.out)))); have n2_ := Aside0.mk (Kd.N_lower (Kd.N_mono (ok' := fun k_ => some k_ ≠ (v205 : Value).ownBlock ∧ some k_ ≠ (.slice Ao29 x7_1.length co29 : Value).ownBlock) ho1 (fun k_ hk_ => ⟨hk_.2, (Kd.fresh' (Kd.N_lt (by (with_reducible repeat (first | apply Kd.N_alloc | apply Kd.N_drewN | apply Kd.N_drew)); exact HO_7.out)) k_ hk_.1)⟩)) (below_size (by repeat (first | (with_reducible first | exact HB.out | apply below_alloc | apply pw_below_drewN | apply below_drew1) | exact HB.out)))); have n3_ := Aside0.mk (below_step (by repeat (first | (with_reducible first | exact HB.out | apply below_alloc | apply pw_below_drewN | apply below_drew1) | exact HB.out)) hb); clear HO_7; clear HB; have HO_7 := n0_; have HO206 := n1_; have HO209 := n2_; have HB := n3_; clear n0_ n1_ n2_ n3_; (try clear hb); (try clear hb2); (try clear hk); (try clear hi); (try clear ho0); (try clear ho1)))
        repeat (go_quiet (first | (go_at_call 17; (with_reducible refine (link_Arrive.calls k1 _ _ x7_1 (wrap64 (t183 + 3)) t204 t207 _ ?side1 ?side2 A28.out).mono ?_); (case side1 => repeat (first | exact (Kd.N_reads' HO_7.out).2.2 | (with_reducible refine Kd.C_alloc ?_ _) | (with_reducible refine Kd.C_drewN ?_ _) | (with_reducible refine Kd.C_drew ?_))); (case side2 => exact (Kd.N_reads' HO_7.out).2.1); rintro e w30 ⟨v205, v208, rfl, ho0, ho1, hb⟩; have n0_ := Aside0.mk (Kd.N_mono (Kd.N_told (Kd.N_told (Kd.N_old (by (with_reducible repeat (first | apply Kd.N_alloc | apply Kd.N_drewN | apply Kd.N_drew)); exact HO_7.out) hb) (Kd.N_base ho0)) (Kd.N_base ho1)) (fun _ h_ => h_.1)); have n1_ := Aside0.mk (Kd.N_lower (Kd.N_mono (ok' := fun k_ => some k_ ≠ (v208 : Value).ownBlock ∧ some k_ ≠ (.slice Ao29 x7_1.length co29 : Value).ownBlock) ho0 (fun k_ hk_ => ⟨hk_.2, (Kd.fresh' (Kd.N_lt (by (with_reducible repeat (first | apply Kd.N_alloc | apply Kd.N_drewN | apply Kd.N_drew)); exact HO_7.out)) k_ hk_.1)⟩)) (below_size (by repeat (first | (with_reducible first | exact HB.out | apply below_alloc | apply pw_below_drewN | apply below_drew1) | exact HB.out)))); have n2_ := Aside0.mk (Kd.N_lower (Kd.N_mono (ok' := fun k_ => some k_ ≠ (v205 : Value).ownBlock ∧ some k_ ≠ (.slice Ao29 x7_1.length co29 : Value).ownBlock) ho1 (fun k_ hk_ => ⟨hk_.2, (Kd.fresh' (Kd.N_lt (by (with_reducible repeat (first | apply Kd.N_alloc | apply Kd.N_drewN | apply Kd.N_drew)); exact HO_7.out)) k_ hk_.1)⟩)) (below_size (by repeat (first | (with_reducible first | exact HB.out | apply below_alloc | apply pw_below_drewN | apply below_drew1) | exact HB.out)))); have n3_ := Aside0.mk (below_step (by repeat (first | (with_reducible first | exact HB.out | apply below_alloc | apply pw_below_drewN | apply below_drew1) | exact HB.out)) hb); clear HO_7; clear HB; have HO_7 := n0_; have HO206 := n1_; have HO209 := n2_; have HB := n3_; clear n0_ n1_ n2_ n3_; (try clear hb); (try clear hb2); (try clear hk); (try clear hi); (try clear ho0); (try clear ho1))); try go_wp2_with (first | (go_at_call 17; (with_reducible refine (link_Arrive.calls k1 _ _ x7_1 (wrap64 (t183 + 3)) t204 t207 _ ?side1 ?side2 A28.out).mono ?_); (case side1 => repeat (first | exact (Kd.N_reads' HO_7.out).2.2 | (with_reducible refine Kd.C_alloc ?_ _) | (with_reducible refine Kd.C_drewN ?_ _) | (with_reducible refine Kd.C_drew ?_))); (case side2 => exact (Kd.N_reads' HO_7.out).2.1); rintro e w30 ⟨v205, v208, rfl, ho0, ho1, hb⟩; have n0_ := Aside0.mk (Kd.N_mono (Kd.N_told (Kd.N_told (Kd.N_old (by (with_reducible repeat (first | apply Kd.N_alloc | apply Kd.N_drewN | apply Kd.N_drew)); exact HO_7.out) hb) (Kd.N_base ho0)) (Kd.N_base ho1)) (fun _ h_ => h_.1)); have n1_ := Aside0.mk (Kd.N_lower (Kd.N_mono (ok' := fun k_ => some k_ ≠ (v208 : Value).ownBlock ∧ some k_ ≠ (.slice Ao29 x7_1.length co29 : Value).ownBlock) ho0 (fun k_ hk_ => ⟨hk_.2, (Kd.fresh' (Kd.N_lt (by (with_reducible repeat (first | apply Kd.N_alloc | apply Kd.N_drewN | apply Kd.N_drew)); exact HO_7.out)) k_ hk_.1)⟩)) (below_size (by repeat (first | (with_reducible first | exact HB.out | apply below_alloc | apply pw_below_drewN | apply below_drew1) | exact HB.out)))); have n2_ := Aside0.mk (Kd.N_lower (Kd.N_mono (ok' := fun k_ => some k_ ≠ (v205 : Value).ownBlock ∧ some k_ ≠ (.slice Ao29 x7_1.length co29 : Value).ownBlock) ho1 (fun k_ hk_ => ⟨hk_.2, (Kd.fresh' (Kd.N_lt (by (with_reducible repeat (first | apply Kd.N_alloc | apply Kd.N_drewN | apply Kd.N_drew)); exact HO_7.out)) k_ hk_.1)⟩)) (below_size (by repeat (first | (with_reducible first | exact HB.out | apply below_alloc | apply pw_below_drewN | apply below_drew1) | exact HB.out)))); have n3_ := Aside0.mk (below_step (by repeat (first | (with_reducible first | exact HB.out | apply below_alloc | apply pw_below_drewN | apply below_drew1) | exact HB.out)) hb); clear HO_7; clear HB; have HO_7 := n0_; have HO206 := n1_; have HO209 := n2_; have HB := n3_; clear n0_ n1_ n2_ n3_; (try clear hb); (try clear hb2); (try clear hk); (try clear hi); (try clear ho0); (try clear ho1))))
        go_loopg [12] k1 (fun kq v12 w' => ∃ (x12_2 : Int), v12 = .int .i64 x12_2 ∧ Aside0 (debuggerlaw34_LinkOrder.l1 kq t182 t204 t207 x12_2 = some r) ∧ Aside0 (kq ≤ k1) ∧ Aside0 (Kd.N (Kd.slice 5 (Kd.int .u8)) 27 w' w.heap.size (fun k_ => some k_ ≠ (v208 : Value).ownBlock) v205 t204) ∧ Aside0 (Kd.N k37 37 w' w.heap.size (fun k_ => some k_ ≠ (v205 : Value).ownBlock) v208 t207) ∧ Aside0 (Below w.heap.size w w'))
        case atStart => exact ⟨(0), (by first | rfl | (simp; done) | (simp [*]; done)), H', ⟨Nat.le_refl _⟩, ⟨by (with_reducible repeat (first | apply Kd.N_alloc | apply Kd.N_drewN | apply Kd.N_drew)); exact Kd.N_mono HO206.out (fun _ hk => hk.1)⟩, ⟨by (with_reducible repeat (first | apply Kd.N_alloc | apply Kd.N_drewN | apply Kd.N_drew)); exact Kd.N_mono HO209.out (fun _ hk => hk.1)⟩, ⟨by repeat (first | (with_reducible first | exact HB.out | apply below_alloc | apply pw_below_drewN | apply below_drew1) | exact HB.out)⟩⟩
        case round =>
          clear H'
          try clear p1
          try clear q1
          try clear hx1
          try clear c2
          try clear p2
          try clear c6
          try clear c6b0
          try clear p6
          try clear c7
          try clear c7b0
          try clear c8
          try clear c8b0
          try clear p18
          try clear q18
          try clear hx18
          try clear hx184_0
          try clear p184
          try clear p2
          try clear q184
          obtain ⟨x12_2, rfl, HA, HK2, HO_10, HO_11, HB⟩ := hrel
          cases gk with
          | zero => exact absurd HA.out (by simp [debuggerlaw34_LinkOrder.l1])
          | succ k2 =>
            have H := HA.out
            clear HA
            simp only [debuggerlaw34_LinkOrder.l1] at H
            by_cases c31 : x12_2 < (t204.length : Int)
            · rw [if_pos c31] at H
              have c31b0 : decide (x12_2 < (t204.length : Int)) = true := decide_eq_true c31
              clear c31
              have HC32 := Aside0.mk H
              clear H
              obtain ⟨Ao33, co33, eo33⟩ := Kd.N_slice HO_10.out
              subst eo33
              go_upto_region 15 with (fail)
              repeat (go_quiet (fail); go_upto_region 15 with (fail))
              go_cut [113] (fun v113 wc => ∃ (kq : Nat) (x113_31 : Bool), v113 = .bool x113_31 ∧ Aside0 (debuggerlaw34_LinkOrder.j2 kq t182 t204 t207 x12_2 x113_31 = some r) ∧ Aside0 (kq ≤ k2) ∧ Aside0 (Kd.N (Kd.slice 5 (Kd.int .u8)) 27 wc w.heap.size (fun k_ => some k_ ≠ (v208 : Value).ownBlock) (.slice Ao33 t204.length co33) t204) ∧ Aside0 (Kd.N k37 37 wc w.heap.size (fun k_ => some k_ ≠ ((.slice Ao33 t204.length co33) : Value).ownBlock) v208 t207) ∧ Aside0 (Below w.heap.size w wc))
              case first =>
                have H := HC32.out
                clear HC32
                by_cases c34 : 0 ≤ x12_2
                · rw [if_pos c34] at H
                  have c34b0 : decide (0 ≤ x12_2) = true := decide_eq_true c34
                  clear c34
                  (first | rw [c34b0] | (simp only [i64_w, i32_w]; rw [c34b0]) | skip)
                  by_cases c35 : ((rd_L2 t204 x12_2).length : Int) = 2
                  · rw [if_pos c35] at H
                    have c35b0 : (((rd_L2 t204 x12_2).length : Int) == 2) = true := beq_iff_eq.mpr c35
                    have c35b1 : (((rd_L2 t204 x12_2).length : Int) != 2) = false := bne_eq_false_iff_eq.mpr c35
                    clear c35
                    by_cases c36 : x12_2 > 0
                    · rw [if_pos c36] at H
                      have c36b0 : decide (0 < x12_2) = true := decide_eq_true c36
                      clear c36
                      by_cases c37 : 0 < ((rd_L2 t204 x12_2).length : Int)
                      · rw [if_pos c37] at H
                        have c37b0 : decide (0 < ((rd_L2 t204 x12_2).length : Int)) = true := decide_eq_true c37
                        have c37b1 : decide (0 < (rd_L2 t204 x12_2).length) = true := decide_eq_true (by omega)
                        clear c37
                        obtain ⟨ji38, hji38⟩ : ∃ j_ : Int, (wrap64 (x12_2 - 1)) = j_ := ⟨_, rfl⟩
                        replace H : (if 0 ≤ (ji38) then (if (ji38) < (t204.length : Int) then (if 0 < ((rd_L2 t204 (ji38)).length : Int) then (if (rd (rd_L2 t204 x12_2) 0) < (rd (rd_L2 t204 (ji38)) 0) then (debuggerlaw34_LinkOrder.j2 k2 t182 t204 t207 x12_2 true) else (if (rd (rd_L2 t204 x12_2) 0) = (rd (rd_L2 t204 (ji38)) 0) then (if 1 < ((rd_L2 t204 x12_2).length : Int) then (if 1 < ((rd_L2 t204 (ji38)).length : Int) then (debuggerlaw34_LinkOrder.j2 k2 t182 t204 t207 x12_2 (decide ((rd (rd_L2 t204 x12_2) 1) ≤ (rd (rd_L2 t204 (ji38)) 1)))) else (none)) else (none)) else (debuggerlaw34_LinkOrder.j2 k2 t182 t204 t207 x12_2 false))) else (none)) else (none)) else (none)) = some r := by first | (rw [hji38] at H; exact H) | (simp only [hji38] at H ⊢; exact H)
                        have hji38w : (IntKind.i64.wrap (x12_2 - 1)) = ji38 := (i64_w _).trans hji38
                        by_cases c39 : 0 ≤ (ji38)
                        · rw [if_pos c39] at H
                          have c39b0 : decide (0 ≤ (ji38)) = true := decide_eq_true c39
                          clear c39
                          by_cases c40 : (ji38) < (t204.length : Int)
                          · rw [if_pos c40] at H
                            have c40b0 : decide ((ji38) < (t204.length : Int)) = true := decide_eq_true c40
                            clear c40
                            by_cases c41 : 0 < ((rd_L2 t204 (ji38)).length : Int)
                            · rw [if_pos c41] at H
                              have c41b0 : decide (0 < ((rd_L2 t204 (ji38)).length : Int)) = true := decide_eq_true c41
                              have c41b1 : decide (0 < (rd_L2 t204 (ji38)).length) = true := decide_eq_true (by omega)
                              clear c41
                              by_cases c42 : (rd (rd_L2 t204 x12_2) 0) < (rd (rd_L2 t204 (ji38)) 0)
                              · rw [if_pos c42] at H
                                have c42b0 : decide ((rd (rd_L2 t204 x12_2) 0) < (rd (rd_L2 t204 (ji38)) 0)) = true := decide_eq_true c42
                                clear c42
                                have H' := Aside0.mk H
                                clear H
                                have p211 : 0 ≤ (x12_2 : Int) := of_decide_eq_true (by first | (with_reducible assumption) | assumption)
                                have q211 : x12_2 < (t204.length : Int) := of_decide_eq_true (by first | (with_reducible assumption) | assumption)
                                obtain ⟨ad211, A211_0, c211_0, e211, hx211_0, hl211_0, hi211_0⟩ := at_L2 (Kd.N_reads' HO_10.out).2.2 x12_2 p211 q211
                                cases e211
                                obtain ⟨ce211, hce211, hMe211, hcc211⟩ := Kd.N_get HO_10.out [] x12_2 p211 (by first | exact q211 | exact of_decide_eq_true (by first | (with_reducible assumption) | assumption) | (have e_ := (Kd.N_reads' HO_10.out).1; omega))
                                obtain ⟨ua211_0, uc211_0, rfl, ul211_0, ge211_0⟩ := Kd.FK_slice_open hMe211
                                have hv211_0 := hcc211 0 _ rfl
                                rw [Nat.add_zero, show ((Kd.slice 5 (Kd.int .u8))).sz = 1 from rfl, Nat.mul_one] at hv211_0
                                replace hv211_0 := Option.some.inj (hv211_0.symm.trans hx211_0)
                                injection hv211_0 with hva_ hvn_ hvc_
                                rw [hva_] at ge211_0
                                rw [hvc_] at ul211_0
                                have HL211_0 := Aside0.mk (show Kd.V (Kd.int .u8) 5 _ w.heap.size _ _ (rd_L2 t204 x12_2) from Kd.V_mk ul211_0 ge211_0)
                                clear hva_ hvn_ hvc_ ge211_0 ul211_0
                                clear hcc211 hce211
                                have HR211_0 := Aside0.mk hi211_0
                                have HC211_0 := Aside0.mk hl211_0
                                clear hi211_0 hl211_0
                                replace p211 := eq_true p211
                                replace q211 := eq_true q211
                                have p212 : 0 ≤ (x12_2 : Int) := of_decide_eq_true (by first | (with_reducible assumption) | assumption)
                                have q212 : x12_2 < (t204.length : Int) := of_decide_eq_true (by first | (with_reducible assumption) | assumption)
                                obtain ⟨ad212, A212_0, c212_0, e212, hx212_0, hl212_0, hi212_0⟩ := at_L2 (Kd.N_reads' HO_10.out).2.2 x12_2 p212 q212
                                obtain rfl : ad211 = ad212 := (by injection e212)
                                obtain ⟨ce212, hce212, hMe212, hcc212⟩ := Kd.N_get HO_10.out [] x12_2 p212 (by first | exact q212 | exact of_decide_eq_true (by first | (with_reducible assumption) | assumption) | (have e_ := (Kd.N_reads' HO_10.out).1; omega))
                                obtain ⟨ua212_0, uc212_0, rfl, ul212_0, ge212_0⟩ := Kd.FK_slice_open hMe212
                                have hv212_0 := hcc212 0 _ rfl
                                rw [Nat.add_zero, show ((Kd.slice 5 (Kd.int .u8))).sz = 1 from rfl, Nat.mul_one] at hv212_0
                                replace hv212_0 := Option.some.inj (hv212_0.symm.trans hx212_0)
                                injection hv212_0 with hva_ hvn_ hvc_
                                rw [hva_] at ge212_0
                                rw [hvc_] at ul212_0
                                have HL212_0 := Aside0.mk (show Kd.V (Kd.int .u8) 5 _ w.heap.size _ _ (rd_L2 t204 x12_2) from Kd.V_mk ul212_0 ge212_0)
                                clear hva_ hvn_ hvc_ ge212_0 ul212_0
                                clear hcc212 hce212
                                have HR212_0 := Aside0.mk hi212_0
                                have HC212_0 := Aside0.mk hl212_0
                                clear hi212_0 hl212_0
                                replace p212 := eq_true p212
                                replace q212 := eq_true q212
                                have ea_ := Option.some.inj (hx211_0.symm.trans hx212_0)
                                injection ea_ with ea_ en_ ec_
                                subst ea_
                                subst ec_
                                clear en_
                                have p213 : 0 ≤ (0 : Int) := (by omega)
                                have q213 : 0 < ((rd_L2 t204 x12_2).length : Int) := of_decide_eq_true (by first | (with_reducible assumption) | assumption)
                                obtain ⟨ad213, e213, hx213_0⟩ := Kd.at_int (by repeat (first | (with_reducible exact HR212_0.out) | (with_reducible refine Kd.C_alloc ?_ _) | (with_reducible refine Kd.C_drewN ?_ _) | (with_reducible refine Kd.C_drew ?_) | exact HR212_0.out)) 0 p213 q213
                                cases e213
                                have qi213 : (0 < (rd_L2 t204 x12_2).length) = True := eq_true (by omega)
                                (try rw [show ((0 : Int)).toNat = 0 from rfl] at hx213_0)
                                (try rw [Addr.add_zero'] at hx213_0)
                                replace p213 := eq_true p213
                                replace q213 := eq_true q213
                                have p214 : 0 ≤ ((ji38) : Int) := of_decide_eq_true (by first | (with_reducible assumption) | assumption)
                                have q214 : (ji38) < (t204.length : Int) := of_decide_eq_true (by first | (with_reducible assumption) | assumption)
                                obtain ⟨ad214, A214_0, c214_0, e214, hx214_0, hl214_0, hi214_0⟩ := at_L2 (Kd.N_reads' HO_10.out).2.2 (ji38) p214 q214
                                obtain rfl : ad211 = ad214 := (by injection e214)
                                obtain ⟨ce214, hce214, hMe214, hcc214⟩ := Kd.N_get HO_10.out [] (ji38) p214 (by first | exact q214 | exact of_decide_eq_true (by first | (with_reducible assumption) | assumption) | (have e_ := (Kd.N_reads' HO_10.out).1; omega))
                                obtain ⟨ua214_0, uc214_0, rfl, ul214_0, ge214_0⟩ := Kd.FK_slice_open hMe214
                                have hv214_0 := hcc214 0 _ rfl
                                rw [Nat.add_zero, show ((Kd.slice 5 (Kd.int .u8))).sz = 1 from rfl, Nat.mul_one] at hv214_0
                                replace hv214_0 := Option.some.inj (hv214_0.symm.trans hx214_0)
                                injection hv214_0 with hva_ hvn_ hvc_
                                rw [hva_] at ge214_0
                                rw [hvc_] at ul214_0
                                have HL214_0 := Aside0.mk (show Kd.V (Kd.int .u8) 5 _ w.heap.size _ _ (rd_L2 t204 (ji38)) from Kd.V_mk ul214_0 ge214_0)
                                clear hva_ hvn_ hvc_ ge214_0 ul214_0
                                clear hcc214 hce214
                                have HR214_0 := Aside0.mk hi214_0
                                have HC214_0 := Aside0.mk hl214_0
                                clear hi214_0 hl214_0
                                replace p214 := eq_true p214
                                replace q214 := eq_true q214
                                have p215 : 0 ≤ (0 : Int) := (by omega)
                                have q215 : 0 < ((rd_L2 t204 (ji38)).length : Int) := of_decide_eq_true (by first | (with_reducible assumption) | assumption)
                                obtain ⟨ad215, e215, hx215_0⟩ := Kd.at_int (by repeat (first | (with_reducible exact HR214_0.out) | (with_reducible refine Kd.C_alloc ?_ _) | (with_reducible refine Kd.C_drewN ?_ _) | (with_reducible refine Kd.C_drew ?_) | exact HR214_0.out)) 0 p215 q215
                                cases e215
                                have qi215 : (0 < (rd_L2 t204 (ji38)).length) = True := eq_true (by omega)
                                (try rw [show ((0 : Int)).toNat = 0 from rfl] at hx215_0)
                                (try rw [Addr.add_zero'] at hx215_0)
                                replace p215 := eq_true p215
                                replace q215 := eq_true q215
                                go_wp2
                                repeat (go_quiet (fail); try go_wp2)
                                go_meet
                                case rel => exact ⟨_, (true), (by first | rfl | (simp; done) | (simp [*]; done)), H', ⟨by have := HK1.out; have := HK2.out; first | omega | exact Nat.le_refl _⟩, ⟨by (with_reducible repeat (first | apply Kd.N_alloc | apply Kd.N_drewN | apply Kd.N_drew)); exact HO_10.out⟩, ⟨by (with_reducible repeat (first | apply Kd.N_alloc | apply Kd.N_drewN | apply Kd.N_drew)); exact HO_11.out⟩, ⟨by repeat (first | (with_reducible first | exact HB.out | apply below_alloc | apply pw_below_drewN | apply below_drew1) | exact HB.out)⟩⟩
                              · rw [if_neg c42] at H
                                have c42b0 : decide ((rd (rd_L2 t204 x12_2) 0) < (rd (rd_L2 t204 (ji38)) 0)) = false := decide_eq_false c42
                                clear c42
                                by_cases c43 : (rd (rd_L2 t204 x12_2) 0) = (rd (rd_L2 t204 (ji38)) 0)
                                · rw [if_pos c43] at H
                                  have c43b0 : ((rd (rd_L2 t204 x12_2) 0) == (rd (rd_L2 t204 (ji38)) 0)) = true := beq_iff_eq.mpr c43
                                  have c43b1 : ((rd (rd_L2 t204 x12_2) 0) != (rd (rd_L2 t204 (ji38)) 0)) = false := bne_eq_false_iff_eq.mpr c43
                                  clear c43
                                  by_cases c44 : 1 < ((rd_L2 t204 x12_2).length : Int)
                                  · rw [if_pos c44] at H
                                    have c44b0 : decide (1 < ((rd_L2 t204 x12_2).length : Int)) = true := decide_eq_true c44
                                    have c44b1 : decide (1 < (rd_L2 t204 x12_2).length) = true := decide_eq_true (by omega)
                                    clear c44
                                    by_cases c45 : 1 < ((rd_L2 t204 (ji38)).length : Int)
                                    · rw [if_pos c45] at H
                                      have c45b0 : decide (1 < ((rd_L2 t204 (ji38)).length : Int)) = true := decide_eq_true c45
                                      have c45b1 : decide (1 < (rd_L2 t204 (ji38)).length) = true := decide_eq_true (by omega)
                                      clear c45
                                      have H' := Aside0.mk H
                                      clear H
                                      have p211 : 0 ≤ (x12_2 : Int) := of_decide_eq_true (by first | (with_reducible assumption) | assumption)
                                      have q211 : x12_2 < (t204.length : Int) := of_decide_eq_true (by first | (with_reducible assumption) | assumption)
                                      obtain ⟨ad211, A211_0, c211_0, e211, hx211_0, hl211_0, hi211_0⟩ := at_L2 (Kd.N_reads' HO_10.out).2.2 x12_2 p211 q211
                                      cases e211
                                      obtain ⟨ce211, hce211, hMe211, hcc211⟩ := Kd.N_get HO_10.out [] x12_2 p211 (by first | exact q211 | exact of_decide_eq_true (by first | (with_reducible assumption) | assumption) | (have e_ := (Kd.N_reads' HO_10.out).1; omega))
                                      obtain ⟨ua211_0, uc211_0, rfl, ul211_0, ge211_0⟩ := Kd.FK_slice_open hMe211
                                      have hv211_0 := hcc211 0 _ rfl
                                      rw [Nat.add_zero, show ((Kd.slice 5 (Kd.int .u8))).sz = 1 from rfl, Nat.mul_one] at hv211_0
                                      replace hv211_0 := Option.some.inj (hv211_0.symm.trans hx211_0)
                                      injection hv211_0 with hva_ hvn_ hvc_
                                      rw [hva_] at ge211_0
                                      rw [hvc_] at ul211_0
                                      have HL211_0 := Aside0.mk (show Kd.V (Kd.int .u8) 5 _ w.heap.size _ _ (rd_L2 t204 x12_2) from Kd.V_mk ul211_0 ge211_0)
                                      clear hva_ hvn_ hvc_ ge211_0 ul211_0
                                      clear hcc211 hce211
                                      have HR211_0 := Aside0.mk hi211_0
                                      have HC211_0 := Aside0.mk hl211_0
                                      clear hi211_0 hl211_0
                                      replace p211 := eq_true p211
                                      replace q211 := eq_true q211
                                      have p212 : 0 ≤ (x12_2 : Int) := of_decide_eq_true (by first | (with_reducible assumption) | assumption)
                                      have q212 : x12_2 < (t204.length : Int) := of_decide_eq_true (by first | (with_reducible assumption) | assumption)
                                      obtain ⟨ad212, A212_0, c212_0, e212, hx212_0, hl212_0, hi212_0⟩ := at_L2 (Kd.N_reads' HO_10.out).2.2 x12_2 p212 q212
                                      obtain rfl : ad211 = ad212 := (by injection e212)
                                      obtain ⟨ce212, hce212, hMe212, hcc212⟩ := Kd.N_get HO_10.out [] x12_2 p212 (by first | exact q212 | exact of_decide_eq_true (by first | (with_reducible assumption) | assumption) | (have e_ := (Kd.N_reads' HO_10.out).1; omega))
                                      obtain ⟨ua212_0, uc212_0, rfl, ul212_0, ge212_0⟩ := Kd.FK_slice_open hMe212
                                      have hv212_0 := hcc212 0 _ rfl
                                      rw [Nat.add_zero, show ((Kd.slice 5 (Kd.int .u8))).sz = 1 from rfl, Nat.mul_one] at hv212_0
                                      replace hv212_0 := Option.some.inj (hv212_0.symm.trans hx212_0)
                                      injection hv212_0 with hva_ hvn_ hvc_
                                      rw [hva_] at ge212_0
                                      rw [hvc_] at ul212_0
                                      have HL212_0 := Aside0.mk (show Kd.V (Kd.int .u8) 5 _ w.heap.size _ _ (rd_L2 t204 x12_2) from Kd.V_mk ul212_0 ge212_0)
                                      clear hva_ hvn_ hvc_ ge212_0 ul212_0
                                      clear hcc212 hce212
                                      have HR212_0 := Aside0.mk hi212_0
                                      have HC212_0 := Aside0.mk hl212_0
                                      clear hi212_0 hl212_0
                                      replace p212 := eq_true p212
                                      replace q212 := eq_true q212
                                      have ea_ := Option.some.inj (hx211_0.symm.trans hx212_0)
                                      injection ea_ with ea_ en_ ec_
                                      subst ea_
                                      subst ec_
                                      clear en_
                                      have p213 : 0 ≤ (0 : Int) := (by omega)
                                      have q213 : 0 < ((rd_L2 t204 x12_2).length : Int) := of_decide_eq_true (by first | (with_reducible assumption) | assumption)
                                      obtain ⟨ad213, e213, hx213_0⟩ := Kd.at_int (by repeat (first | (with_reducible exact HR212_0.out) | (with_reducible refine Kd.C_alloc ?_ _) | (with_reducible refine Kd.C_drewN ?_ _) | (with_reducible refine Kd.C_drew ?_) | exact HR212_0.out)) 0 p213 q213
                                      cases e213
                                      have qi213 : (0 < (rd_L2 t204 x12_2).length) = True := eq_true (by omega)
                                      (try rw [show ((0 : Int)).toNat = 0 from rfl] at hx213_0)
                                      (try rw [Addr.add_zero'] at hx213_0)
                                      replace p213 := eq_true p213
                                      replace q213 := eq_true q213
                                      have p214 : 0 ≤ ((ji38) : Int) := of_decide_eq_true (by first | (with_reducible assumption) | assumption)
                                      have q214 : (ji38) < (t204.length : Int) := of_decide_eq_true (by first | (with_reducible assumption) | assumption)
                                      obtain ⟨ad214, A214_0, c214_0, e214, hx214_0, hl214_0, hi214_0⟩ := at_L2 (Kd.N_reads' HO_10.out).2.2 (ji38) p214 q214
                                      obtain rfl : ad211 = ad214 := (by injection e214)
                                      obtain ⟨ce214, hce214, hMe214, hcc214⟩ := Kd.N_get HO_10.out [] (ji38) p214 (by first | exact q214 | exact of_decide_eq_true (by first | (with_reducible assumption) | assumption) | (have e_ := (Kd.N_reads' HO_10.out).1; omega))
                                      obtain ⟨ua214_0, uc214_0, rfl, ul214_0, ge214_0⟩ := Kd.FK_slice_open hMe214
                                      have hv214_0 := hcc214 0 _ rfl
                                      rw [Nat.add_zero, show ((Kd.slice 5 (Kd.int .u8))).sz = 1 from rfl, Nat.mul_one] at hv214_0
                                      replace hv214_0 := Option.some.inj (hv214_0.symm.trans hx214_0)
                                      injection hv214_0 with hva_ hvn_ hvc_
                                      rw [hva_] at ge214_0
                                      rw [hvc_] at ul214_0
                                      have HL214_0 := Aside0.mk (show Kd.V (Kd.int .u8) 5 _ w.heap.size _ _ (rd_L2 t204 (ji38)) from Kd.V_mk ul214_0 ge214_0)
                                      clear hva_ hvn_ hvc_ ge214_0 ul214_0
                                      clear hcc214 hce214
                                      have HR214_0 := Aside0.mk hi214_0
                                      have HC214_0 := Aside0.mk hl214_0
                                      clear hi214_0 hl214_0
                                      replace p214 := eq_true p214
                                      replace q214 := eq_true q214
                                      have p215 : 0 ≤ (0 : Int) := (by omega)
                                      have q215 : 0 < ((rd_L2 t204 (ji38)).length : Int) := of_decide_eq_true (by first | (with_reducible assumption) | assumption)
                                      obtain ⟨ad215, e215, hx215_0⟩ := Kd.at_int (by repeat (first | (with_reducible exact HR214_0.out) | (with_reducible refine Kd.C_alloc ?_ _) | (with_reducible refine Kd.C_drewN ?_ _) | (with_reducible refine Kd.C_drew ?_) | exact HR214_0.out)) 0 p215 q215
                                      cases e215
                                      have qi215 : (0 < (rd_L2 t204 (ji38)).length) = True := eq_true (by omega)
                                      (try rw [show ((0 : Int)).toNat = 0 from rfl] at hx215_0)
                                      (try rw [Addr.add_zero'] at hx215_0)
                                      replace p215 := eq_true p215
                                      replace q215 := eq_true q215
                                      have p216 : 0 ≤ (x12_2 : Int) := of_decide_eq_true (by first | (with_reducible assumption) | assumption)
                                      have q216 : x12_2 < (t204.length : Int) := of_decide_eq_true (by first | (with_reducible assumption) | assumption)
                                      obtain ⟨ad216, A216_0, c216_0, e216, hx216_0, hl216_0, hi216_0⟩ := at_L2 (Kd.N_reads' HO_10.out).2.2 x12_2 p216 q216
                                      obtain rfl : ad211 = ad216 := (by injection e216)
                                      obtain ⟨ce216, hce216, hMe216, hcc216⟩ := Kd.N_get HO_10.out [] x12_2 p216 (by first | exact q216 | exact of_decide_eq_true (by first | (with_reducible assumption) | assumption) | (have e_ := (Kd.N_reads' HO_10.out).1; omega))
                                      obtain ⟨ua216_0, uc216_0, rfl, ul216_0, ge216_0⟩ := Kd.FK_slice_open hMe216
                                      have hv216_0 := hcc216 0 _ rfl
                                      rw [Nat.add_zero, show ((Kd.slice 5 (Kd.int .u8))).sz = 1 from rfl, Nat.mul_one] at hv216_0
                                      replace hv216_0 := Option.some.inj (hv216_0.symm.trans hx216_0)
                                      injection hv216_0 with hva_ hvn_ hvc_
                                      rw [hva_] at ge216_0
                                      rw [hvc_] at ul216_0
                                      have HL216_0 := Aside0.mk (show Kd.V (Kd.int .u8) 5 _ w.heap.size _ _ (rd_L2 t204 x12_2) from Kd.V_mk ul216_0 ge216_0)
                                      clear hva_ hvn_ hvc_ ge216_0 ul216_0
                                      clear hcc216 hce216
                                      have HR216_0 := Aside0.mk hi216_0
                                      have HC216_0 := Aside0.mk hl216_0
                                      clear hi216_0 hl216_0
                                      replace p216 := eq_true p216
                                      replace q216 := eq_true q216
                                      have ea_ := Option.some.inj (hx211_0.symm.trans hx216_0)
                                      injection ea_ with ea_ en_ ec_
                                      subst ea_
                                      subst ec_
                                      clear en_
                                      have p217 : 0 ≤ (0 : Int) := (by omega)
                                      have q217 : 0 < ((rd_L2 t204 x12_2).length : Int) := of_decide_eq_true (by first | (with_reducible assumption) | assumption)
                                      obtain ⟨ad217, e217, hx217_0⟩ := Kd.at_int (by repeat (first | (with_reducible exact HR216_0.out) | (with_reducible refine Kd.C_alloc ?_ _) | (with_reducible refine Kd.C_drewN ?_ _) | (with_reducible refine Kd.C_drew ?_) | exact HR216_0.out)) 0 p217 q217
                                      cases e217
                                      have qi217 : (0 < (rd_L2 t204 x12_2).length) = True := eq_true (by omega)
                                      (try rw [show ((0 : Int)).toNat = 0 from rfl] at hx217_0)
                                      (try rw [Addr.add_zero'] at hx217_0)
                                      replace p217 := eq_true p217
                                      replace q217 := eq_true q217
                                      have p218 : 0 ≤ ((ji38) : Int) := of_decide_eq_true (by first | (with_reducible assumption) | assumption)
                                      have q218 : (ji38) < (t204.length : Int) := of_decide_eq_true (by first | (with_reducible assumption) | assumption)
                                      obtain ⟨ad218, A218_0, c218_0, e218, hx218_0, hl218_0, hi218_0⟩ := at_L2 (Kd.N_reads' HO_10.out).2.2 (ji38) p218 q218
                                      obtain rfl : ad211 = ad218 := (by injection e218)
                                      obtain ⟨ce218, hce218, hMe218, hcc218⟩ := Kd.N_get HO_10.out [] (ji38) p218 (by first | exact q218 | exact of_decide_eq_true (by first | (with_reducible assumption) | assumption) | (have e_ := (Kd.N_reads' HO_10.out).1; omega))
                                      obtain ⟨ua218_0, uc218_0, rfl, ul218_0, ge218_0⟩ := Kd.FK_slice_open hMe218
                                      have hv218_0 := hcc218 0 _ rfl
                                      rw [Nat.add_zero, show ((Kd.slice 5 (Kd.int .u8))).sz = 1 from rfl, Nat.mul_one] at hv218_0
                                      replace hv218_0 := Option.some.inj (hv218_0.symm.trans hx218_0)
                                      injection hv218_0 with hva_ hvn_ hvc_
                                      rw [hva_] at ge218_0
                                      rw [hvc_] at ul218_0
                                      have HL218_0 := Aside0.mk (show Kd.V (Kd.int .u8) 5 _ w.heap.size _ _ (rd_L2 t204 (ji38)) from Kd.V_mk ul218_0 ge218_0)
                                      clear hva_ hvn_ hvc_ ge218_0 ul218_0
                                      clear hcc218 hce218
                                      have HR218_0 := Aside0.mk hi218_0
                                      have HC218_0 := Aside0.mk hl218_0
                                      clear hi218_0 hl218_0
                                      replace p218 := eq_true p218
                                      replace q218 := eq_true q218
                                      have ea_ := Option.some.inj (hx214_0.symm.trans hx218_0)
                                      injection ea_ with ea_ en_ ec_
                                      subst ea_
                                      subst ec_
                                      clear en_
                                      have p219 : 0 ≤ (0 : Int) := (by omega)
                                      have q219 : 0 < ((rd_L2 t204 (ji38)).length : Int) := of_decide_eq_true (by first | (with_reducible assumption) | assumption)
                                      obtain ⟨ad219, e219, hx219_0⟩ := Kd.at_int (by repeat (first | (with_reducible exact HR218_0.out) | (with_reducible refine Kd.C_alloc ?_ _) | (with_reducible refine Kd.C_drewN ?_ _) | (with_reducible refine Kd.C_drew ?_) | exact HR218_0.out)) 0 p219 q219
                                      cases e219
                                      have qi219 : (0 < (rd_L2 t204 (ji38)).length) = True := eq_true (by omega)
                                      (try rw [show ((0 : Int)).toNat = 0 from rfl] at hx219_0)
                                      (try rw [Addr.add_zero'] at hx219_0)
                                      replace p219 := eq_true p219
                                      replace q219 := eq_true q219
                                      have p220 : 0 ≤ (x12_2 : Int) := of_decide_eq_true (by first | (with_reducible assumption) | assumption)
                                      have q220 : x12_2 < (t204.length : Int) := of_decide_eq_true (by first | (with_reducible assumption) | assumption)
                                      obtain ⟨ad220, A220_0, c220_0, e220, hx220_0, hl220_0, hi220_0⟩ := at_L2 (Kd.N_reads' HO_10.out).2.2 x12_2 p220 q220
                                      obtain rfl : ad211 = ad220 := (by injection e220)
                                      obtain ⟨ce220, hce220, hMe220, hcc220⟩ := Kd.N_get HO_10.out [] x12_2 p220 (by first | exact q220 | exact of_decide_eq_true (by first | (with_reducible assumption) | assumption) | (have e_ := (Kd.N_reads' HO_10.out).1; omega))
                                      obtain ⟨ua220_0, uc220_0, rfl, ul220_0, ge220_0⟩ := Kd.FK_slice_open hMe220
                                      have hv220_0 := hcc220 0 _ rfl
                                      rw [Nat.add_zero, show ((Kd.slice 5 (Kd.int .u8))).sz = 1 from rfl, Nat.mul_one] at hv220_0
                                      replace hv220_0 := Option.some.inj (hv220_0.symm.trans hx220_0)
                                      injection hv220_0 with hva_ hvn_ hvc_
                                      rw [hva_] at ge220_0
                                      rw [hvc_] at ul220_0
                                      have HL220_0 := Aside0.mk (show Kd.V (Kd.int .u8) 5 _ w.heap.size _ _ (rd_L2 t204 x12_2) from Kd.V_mk ul220_0 ge220_0)
                                      clear hva_ hvn_ hvc_ ge220_0 ul220_0
                                      clear hcc220 hce220
                                      have HR220_0 := Aside0.mk hi220_0
                                      have HC220_0 := Aside0.mk hl220_0
                                      clear hi220_0 hl220_0
                                      replace p220 := eq_true p220
                                      replace q220 := eq_true q220
                                      have ea_ := Option.some.inj (hx211_0.symm.trans hx220_0)
                                      injection ea_ with ea_ en_ ec_
                                      subst ea_
                                      subst ec_
                                      clear en_
                                      have p221 : 0 ≤ (1 : Int) := (by omega)
                                      have q221 : 1 < ((rd_L2 t204 x12_2).length : Int) := of_decide_eq_true (by first | (with_reducible assumption) | assumption)
                                      obtain ⟨ad221, e221, hx221_0⟩ := Kd.at_int (by repeat (first | (with_reducible exact HR220_0.out) | (with_reducible refine Kd.C_alloc ?_ _) | (with_reducible refine Kd.C_drewN ?_ _) | (with_reducible refine Kd.C_drew ?_) | exact HR220_0.out)) 1 p221 q221
                                      cases e221
                                      (try simp only [show (1 : Int).toNat = 1 from rfl, Nat.reduceMul, Nat.reduceEqDiff, Go.Addr.add, ↓reduceIte] at hx221_0)
                                      have qi221 : (1 < (rd_L2 t204 x12_2).length) = True := eq_true (by omega)
                                      (try rw [show ((1 : Int)).toNat = 1 from rfl] at hx221_0)
                                      replace p221 := eq_true p221
                                      replace q221 := eq_true q221
                                      have p222 : 0 ≤ ((ji38) : Int) := of_decide_eq_true (by first | (with_reducible assumption) | assumption)
                                      have q222 : (ji38) < (t204.length : Int) := of_decide_eq_true (by first | (with_reducible assumption) | assumption)
                                      obtain ⟨ad222, A222_0, c222_0, e222, hx222_0, hl222_0, hi222_0⟩ := at_L2 (Kd.N_reads' HO_10.out).2.2 (ji38) p222 q222
                                      obtain rfl : ad211 = ad222 := (by injection e222)
                                      obtain ⟨ce222, hce222, hMe222, hcc222⟩ := Kd.N_get HO_10.out [] (ji38) p222 (by first | exact q222 | exact of_decide_eq_true (by first | (with_reducible assumption) | assumption) | (have e_ := (Kd.N_reads' HO_10.out).1; omega))
                                      obtain ⟨ua222_0, uc222_0, rfl, ul222_0, ge222_0⟩ := Kd.FK_slice_open hMe222
                                      have hv222_0 := hcc222 0 _ rfl
                                      rw [Nat.add_zero, show ((Kd.slice 5 (Kd.int .u8))).sz = 1 from rfl, Nat.mul_one] at hv222_0
                                      replace hv222_0 := Option.some.inj (hv222_0.symm.trans hx222_0)
                                      injection hv222_0 with hva_ hvn_ hvc_
                                      rw [hva_] at ge222_0
                                      rw [hvc_] at ul222_0
                                      have HL222_0 := Aside0.mk (show Kd.V (Kd.int .u8) 5 _ w.heap.size _ _ (rd_L2 t204 (ji38)) from Kd.V_mk ul222_0 ge222_0)
                                      clear hva_ hvn_ hvc_ ge222_0 ul222_0
                                      clear hcc222 hce222
                                      have HR222_0 := Aside0.mk hi222_0
                                      have HC222_0 := Aside0.mk hl222_0
                                      clear hi222_0 hl222_0
                                      replace p222 := eq_true p222
                                      replace q222 := eq_true q222
                                      have ea_ := Option.some.inj (hx214_0.symm.trans hx222_0)
                                      injection ea_ with ea_ en_ ec_
                                      subst ea_
                                      subst ec_
                                      clear en_
                                      have p223 : 0 ≤ (1 : Int) := (by omega)
                                      have q223 : 1 < ((rd_L2 t204 (ji38)).length : Int) := of_decide_eq_true (by first | (with_reducible assumption) | assumption)
                                      obtain ⟨ad223, e223, hx223_0⟩ := Kd.at_int (by repeat (first | (with_reducible exact HR222_0.out) | (with_reducible refine Kd.C_alloc ?_ _) | (with_reducible refine Kd.C_drewN ?_ _) | (with_reducible refine Kd.C_drew ?_) | exact HR222_0.out)) 1 p223 q223
                                      cases e223
                                      (try simp only [show (1 : Int).toNat = 1 from rfl, Nat.reduceMul, Nat.reduceEqDiff, Go.Addr.add, ↓reduceIte] at hx223_0)
                                      have qi223 : (1 < (rd_L2 t204 (ji38)).length) = True := eq_true (by omega)
                                      (try rw [show ((1 : Int)).toNat = 1 from rfl] at hx223_0)
                                      replace p223 := eq_true p223
                                      replace q223 := eq_true q223
                                      go_wp2
                                      repeat (go_quiet (fail); try go_wp2)
                                      go_meet
                                      case rel => exact ⟨_, (decide ((rd (rd_L2 t204 x12_2) 1) ≤ (rd (rd_L2 t204 (ji38)) 1))), (by first | rfl | (simp; done) | (simp only [← hji38] <;> (first | rfl | simp)) | (simp [*]; done)), H', ⟨by have := HK1.out; have := HK2.out; first | omega | exact Nat.le_refl _⟩, ⟨by (with_reducible repeat (first | apply Kd.N_alloc | apply Kd.N_drewN | apply Kd.N_drew)); exact HO_10.out⟩, ⟨by (with_reducible repeat (first | apply Kd.N_alloc | apply Kd.N_drewN | apply Kd.N_drew)); exact HO_11.out⟩, ⟨by repeat (first | (with_reducible first | exact HB.out | apply below_alloc | apply pw_below_drewN | apply below_drew1) | exact HB.out)⟩⟩
                                    · rw [if_neg c45] at H
                                      exact absurd H (by simp)
                                  · rw [if_neg c44] at H
                                    exact absurd H (by simp)
                                · rw [if_neg c43] at H
                                  have c43b0 : ((rd (rd_L2 t204 x12_2) 0) == (rd (rd_L2 t204 (ji38)) 0)) = false := beq_eq_false_iff_ne.mpr c43
                                  have c43b1 : ((rd (rd_L2 t204 x12_2) 0) != (rd (rd_L2 t204 (ji38)) 0)) = true := bne_iff_ne.mpr c43
                                  have H' := Aside0.mk H
                                  clear H
                                  have p211 : 0 ≤ (x12_2 : Int) := of_decide_eq_true (by first | (with_reducible assumption) | assumption)
                                  have q211 : x12_2 < (t204.length : Int) := of_decide_eq_true (by first | (with_reducible assumption) | assumption)
                                  obtain ⟨ad211, A211_0, c211_0, e211, hx211_0, hl211_0, hi211_0⟩ := at_L2 (Kd.N_reads' HO_10.out).2.2 x12_2 p211 q211
                                  cases e211
                                  obtain ⟨ce211, hce211, hMe211, hcc211⟩ := Kd.N_get HO_10.out [] x12_2 p211 (by first | exact q211 | exact of_decide_eq_true (by first | (with_reducible assumption) | assumption) | (have e_ := (Kd.N_reads' HO_10.out).1; omega))
                                  obtain ⟨ua211_0, uc211_0, rfl, ul211_0, ge211_0⟩ := Kd.FK_slice_open hMe211
                                  have hv211_0 := hcc211 0 _ rfl
                                  rw [Nat.add_zero, show ((Kd.slice 5 (Kd.int .u8))).sz = 1 from rfl, Nat.mul_one] at hv211_0
                                  replace hv211_0 := Option.some.inj (hv211_0.symm.trans hx211_0)
                                  injection hv211_0 with hva_ hvn_ hvc_
                                  rw [hva_] at ge211_0
                                  rw [hvc_] at ul211_0
                                  have HL211_0 := Aside0.mk (show Kd.V (Kd.int .u8) 5 _ w.heap.size _ _ (rd_L2 t204 x12_2) from Kd.V_mk ul211_0 ge211_0)
                                  clear hva_ hvn_ hvc_ ge211_0 ul211_0
                                  clear hcc211 hce211
                                  have HR211_0 := Aside0.mk hi211_0
                                  have HC211_0 := Aside0.mk hl211_0
                                  clear hi211_0 hl211_0
                                  replace p211 := eq_true p211
                                  replace q211 := eq_true q211
                                  have p212 : 0 ≤ (x12_2 : Int) := of_decide_eq_true (by first | (with_reducible assumption) | assumption)
                                  have q212 : x12_2 < (t204.length : Int) := of_decide_eq_true (by first | (with_reducible assumption) | assumption)
                                  obtain ⟨ad212, A212_0, c212_0, e212, hx212_0, hl212_0, hi212_0⟩ := at_L2 (Kd.N_reads' HO_10.out).2.2 x12_2 p212 q212
                                  obtain rfl : ad211 = ad212 := (by injection e212)
                                  obtain ⟨ce212, hce212, hMe212, hcc212⟩ := Kd.N_get HO_10.out [] x12_2 p212 (by first | exact q212 | exact of_decide_eq_true (by first | (with_reducible assumption) | assumption) | (have e_ := (Kd.N_reads' HO_10.out).1; omega))
                                  obtain ⟨ua212_0, uc212_0, rfl, ul212_0, ge212_0⟩ := Kd.FK_slice_open hMe212
                                  have hv212_0 := hcc212 0 _ rfl
                                  rw [Nat.add_zero, show ((Kd.slice 5 (Kd.int .u8))).sz = 1 from rfl, Nat.mul_one] at hv212_0
                                  replace hv212_0 := Option.some.inj (hv212_0.symm.trans hx212_0)
                                  injection hv212_0 with hva_ hvn_ hvc_
                                  rw [hva_] at ge212_0
                                  rw [hvc_] at ul212_0
                                  have HL212_0 := Aside0.mk (show Kd.V (Kd.int .u8) 5 _ w.heap.size _ _ (rd_L2 t204 x12_2) from Kd.V_mk ul212_0 ge212_0)
                                  clear hva_ hvn_ hvc_ ge212_0 ul212_0
                                  clear hcc212 hce212
                                  have HR212_0 := Aside0.mk hi212_0
                                  have HC212_0 := Aside0.mk hl212_0
                                  clear hi212_0 hl212_0
                                  replace p212 := eq_true p212
                                  replace q212 := eq_true q212
                                  have ea_ := Option.some.inj (hx211_0.symm.trans hx212_0)
                                  injection ea_ with ea_ en_ ec_
                                  subst ea_
                                  subst ec_
                                  clear en_
                                  have p213 : 0 ≤ (0 : Int) := (by omega)
                                  have q213 : 0 < ((rd_L2 t204 x12_2).length : Int) := of_decide_eq_true (by first | (with_reducible assumption) | assumption)
                                  obtain ⟨ad213, e213, hx213_0⟩ := Kd.at_int (by repeat (first | (with_reducible exact HR212_0.out) | (with_reducible refine Kd.C_alloc ?_ _) | (with_reducible refine Kd.C_drewN ?_ _) | (with_reducible refine Kd.C_drew ?_) | exact HR212_0.out)) 0 p213 q213
                                  cases e213
                                  have qi213 : (0 < (rd_L2 t204 x12_2).length) = True := eq_true (by omega)
                                  (try rw [show ((0 : Int)).toNat = 0 from rfl] at hx213_0)
                                  (try rw [Addr.add_zero'] at hx213_0)
                                  replace p213 := eq_true p213
                                  replace q213 := eq_true q213
                                  have p214 : 0 ≤ ((ji38) : Int) := of_decide_eq_true (by first | (with_reducible assumption) | assumption)
                                  have q214 : (ji38) < (t204.length : Int) := of_decide_eq_true (by first | (with_reducible assumption) | assumption)
                                  obtain ⟨ad214, A214_0, c214_0, e214, hx214_0, hl214_0, hi214_0⟩ := at_L2 (Kd.N_reads' HO_10.out).2.2 (ji38) p214 q214
                                  obtain rfl : ad211 = ad214 := (by injection e214)
                                  obtain ⟨ce214, hce214, hMe214, hcc214⟩ := Kd.N_get HO_10.out [] (ji38) p214 (by first | exact q214 | exact of_decide_eq_true (by first | (with_reducible assumption) | assumption) | (have e_ := (Kd.N_reads' HO_10.out).1; omega))
                                  obtain ⟨ua214_0, uc214_0, rfl, ul214_0, ge214_0⟩ := Kd.FK_slice_open hMe214
                                  have hv214_0 := hcc214 0 _ rfl
                                  rw [Nat.add_zero, show ((Kd.slice 5 (Kd.int .u8))).sz = 1 from rfl, Nat.mul_one] at hv214_0
                                  replace hv214_0 := Option.some.inj (hv214_0.symm.trans hx214_0)
                                  injection hv214_0 with hva_ hvn_ hvc_
                                  rw [hva_] at ge214_0
                                  rw [hvc_] at ul214_0
                                  have HL214_0 := Aside0.mk (show Kd.V (Kd.int .u8) 5 _ w.heap.size _ _ (rd_L2 t204 (ji38)) from Kd.V_mk ul214_0 ge214_0)
                                  clear hva_ hvn_ hvc_ ge214_0 ul214_0
                                  clear hcc214 hce214
                                  have HR214_0 := Aside0.mk hi214_0
                                  have HC214_0 := Aside0.mk hl214_0
                                  clear hi214_0 hl214_0
                                  replace p214 := eq_true p214
                                  replace q214 := eq_true q214
                                  have p215 : 0 ≤ (0 : Int) := (by omega)
                                  have q215 : 0 < ((rd_L2 t204 (ji38)).length : Int) := of_decide_eq_true (by first | (with_reducible assumption) | assumption)
                                  obtain ⟨ad215, e215, hx215_0⟩ := Kd.at_int (by repeat (first | (with_reducible exact HR214_0.out) | (with_reducible refine Kd.C_alloc ?_ _) | (with_reducible refine Kd.C_drewN ?_ _) | (with_reducible refine Kd.C_drew ?_) | exact HR214_0.out)) 0 p215 q215
                                  cases e215
                                  have qi215 : (0 < (rd_L2 t204 (ji38)).length) = True := eq_true (by omega)
                                  (try rw [show ((0 : Int)).toNat = 0 from rfl] at hx215_0)
                                  (try rw [Addr.add_zero'] at hx215_0)
                                  replace p215 := eq_true p215
                                  replace q215 := eq_true q215
                                  have p216 : 0 ≤ (x12_2 : Int) := of_decide_eq_true (by first | (with_reducible assumption) | assumption)
                                  have q216 : x12_2 < (t204.length : Int) := of_decide_eq_true (by first | (with_reducible assumption) | assumption)
                                  obtain ⟨ad216, A216_0, c216_0, e216, hx216_0, hl216_0, hi216_0⟩ := at_L2 (Kd.N_reads' HO_10.out).2.2 x12_2 p216 q216
                                  obtain rfl : ad211 = ad216 := (by injection e216)
                                  obtain ⟨ce216, hce216, hMe216, hcc216⟩ := Kd.N_get HO_10.out [] x12_2 p216 (by first | exact q216 | exact of_decide_eq_true (by first | (with_reducible assumption) | assumption) | (have e_ := (Kd.N_reads' HO_10.out).1; omega))
                                  obtain ⟨ua216_0, uc216_0, rfl, ul216_0, ge216_0⟩ := Kd.FK_slice_open hMe216
                                  have hv216_0 := hcc216 0 _ rfl
                                  rw [Nat.add_zero, show ((Kd.slice 5 (Kd.int .u8))).sz = 1 from rfl, Nat.mul_one] at hv216_0
                                  replace hv216_0 := Option.some.inj (hv216_0.symm.trans hx216_0)
                                  injection hv216_0 with hva_ hvn_ hvc_
                                  rw [hva_] at ge216_0
                                  rw [hvc_] at ul216_0
                                  have HL216_0 := Aside0.mk (show Kd.V (Kd.int .u8) 5 _ w.heap.size _ _ (rd_L2 t204 x12_2) from Kd.V_mk ul216_0 ge216_0)
                                  clear hva_ hvn_ hvc_ ge216_0 ul216_0
                                  clear hcc216 hce216
                                  have HR216_0 := Aside0.mk hi216_0
                                  have HC216_0 := Aside0.mk hl216_0
                                  clear hi216_0 hl216_0
                                  replace p216 := eq_true p216
                                  replace q216 := eq_true q216
                                  have ea_ := Option.some.inj (hx211_0.symm.trans hx216_0)
                                  injection ea_ with ea_ en_ ec_
                                  subst ea_
                                  subst ec_
                                  clear en_
                                  have p217 : 0 ≤ (0 : Int) := (by omega)
                                  have q217 : 0 < ((rd_L2 t204 x12_2).length : Int) := of_decide_eq_true (by first | (with_reducible assumption) | assumption)
                                  obtain ⟨ad217, e217, hx217_0⟩ := Kd.at_int (by repeat (first | (with_reducible exact HR216_0.out) | (with_reducible refine Kd.C_alloc ?_ _) | (with_reducible refine Kd.C_drewN ?_ _) | (with_reducible refine Kd.C_drew ?_) | exact HR216_0.out)) 0 p217 q217
                                  cases e217
                                  have qi217 : (0 < (rd_L2 t204 x12_2).length) = True := eq_true (by omega)
                                  (try rw [show ((0 : Int)).toNat = 0 from rfl] at hx217_0)
                                  (try rw [Addr.add_zero'] at hx217_0)
                                  replace p217 := eq_true p217
                                  replace q217 := eq_true q217
                                  have p218 : 0 ≤ ((ji38) : Int) := of_decide_eq_true (by first | (with_reducible assumption) | assumption)
                                  have q218 : (ji38) < (t204.length : Int) := of_decide_eq_true (by first | (with_reducible assumption) | assumption)
                                  obtain ⟨ad218, A218_0, c218_0, e218, hx218_0, hl218_0, hi218_0⟩ := at_L2 (Kd.N_reads' HO_10.out).2.2 (ji38) p218 q218
                                  obtain rfl : ad211 = ad218 := (by injection e218)
                                  obtain ⟨ce218, hce218, hMe218, hcc218⟩ := Kd.N_get HO_10.out [] (ji38) p218 (by first | exact q218 | exact of_decide_eq_true (by first | (with_reducible assumption) | assumption) | (have e_ := (Kd.N_reads' HO_10.out).1; omega))
                                  obtain ⟨ua218_0, uc218_0, rfl, ul218_0, ge218_0⟩ := Kd.FK_slice_open hMe218
                                  have hv218_0 := hcc218 0 _ rfl
                                  rw [Nat.add_zero, show ((Kd.slice 5 (Kd.int .u8))).sz = 1 from rfl, Nat.mul_one] at hv218_0
                                  replace hv218_0 := Option.some.inj (hv218_0.symm.trans hx218_0)
                                  injection hv218_0 with hva_ hvn_ hvc_
                                  rw [hva_] at ge218_0
                                  rw [hvc_] at ul218_0
                                  have HL218_0 := Aside0.mk (show Kd.V (Kd.int .u8) 5 _ w.heap.size _ _ (rd_L2 t204 (ji38)) from Kd.V_mk ul218_0 ge218_0)
                                  clear hva_ hvn_ hvc_ ge218_0 ul218_0
                                  clear hcc218 hce218
                                  have HR218_0 := Aside0.mk hi218_0
                                  have HC218_0 := Aside0.mk hl218_0
                                  clear hi218_0 hl218_0
                                  replace p218 := eq_true p218
                                  replace q218 := eq_true q218
                                  have ea_ := Option.some.inj (hx214_0.symm.trans hx218_0)
                                  injection ea_ with ea_ en_ ec_
                                  subst ea_
                                  subst ec_
                                  clear en_
                                  have p219 : 0 ≤ (0 : Int) := (by omega)
                                  have q219 : 0 < ((rd_L2 t204 (ji38)).length : Int) := of_decide_eq_true (by first | (with_reducible assumption) | assumption)
                                  obtain ⟨ad219, e219, hx219_0⟩ := Kd.at_int (by repeat (first | (with_reducible exact HR218_0.out) | (with_reducible refine Kd.C_alloc ?_ _) | (with_reducible refine Kd.C_drewN ?_ _) | (with_reducible refine Kd.C_drew ?_) | exact HR218_0.out)) 0 p219 q219
                                  cases e219
                                  have qi219 : (0 < (rd_L2 t204 (ji38)).length) = True := eq_true (by omega)
                                  (try rw [show ((0 : Int)).toNat = 0 from rfl] at hx219_0)
                                  (try rw [Addr.add_zero'] at hx219_0)
                                  replace p219 := eq_true p219
                                  replace q219 := eq_true q219
                                  go_wp2
                                  repeat (go_quiet (fail); try go_wp2)
                                  go_meet
                                  case rel => exact ⟨_, (false), (by first | rfl | (simp; done) | (simp [*]; done)), H', ⟨by have := HK1.out; have := HK2.out; first | omega | exact Nat.le_refl _⟩, ⟨by (with_reducible repeat (first | apply Kd.N_alloc | apply Kd.N_drewN | apply Kd.N_drew)); exact HO_10.out⟩, ⟨by (with_reducible repeat (first | apply Kd.N_alloc | apply Kd.N_drewN | apply Kd.N_drew)); exact HO_11.out⟩, ⟨by repeat (first | (with_reducible first | exact HB.out | apply below_alloc | apply pw_below_drewN | apply below_drew1) | exact HB.out)⟩⟩
                            · rw [if_neg c41] at H
                              exact absurd H (by simp)
                          · rw [if_neg c40] at H
                            exact absurd H (by simp)
                        · rw [if_neg c39] at H
                          exact absurd H (by simp)
                      · rw [if_neg c37] at H
                        exact absurd H (by simp)
                    · rw [if_neg c36] at H
                      have c36b0 : decide (0 < x12_2) = false := decide_eq_false c36
                      clear c36
                      have H' := Aside0.mk H
                      clear H
                      have p211 : 0 ≤ (x12_2 : Int) := of_decide_eq_true (by first | (with_reducible assumption) | assumption)
                      have q211 : x12_2 < (t204.length : Int) := of_decide_eq_true (by first | (with_reducible assumption) | assumption)
                      obtain ⟨ad211, A211_0, c211_0, e211, hx211_0, hl211_0, hi211_0⟩ := at_L2 (Kd.N_reads' HO_10.out).2.2 x12_2 p211 q211
                      cases e211
                      obtain ⟨ce211, hce211, hMe211, hcc211⟩ := Kd.N_get HO_10.out [] x12_2 p211 (by first | exact q211 | exact of_decide_eq_true (by first | (with_reducible assumption) | assumption) | (have e_ := (Kd.N_reads' HO_10.out).1; omega))
                      obtain ⟨ua211_0, uc211_0, rfl, ul211_0, ge211_0⟩ := Kd.FK_slice_open hMe211
                      have hv211_0 := hcc211 0 _ rfl
                      rw [Nat.add_zero, show ((Kd.slice 5 (Kd.int .u8))).sz = 1 from rfl, Nat.mul_one] at hv211_0
                      replace hv211_0 := Option.some.inj (hv211_0.symm.trans hx211_0)
                      injection hv211_0 with hva_ hvn_ hvc_
                      rw [hva_] at ge211_0
                      rw [hvc_] at ul211_0
                      have HL211_0 := Aside0.mk (show Kd.V (Kd.int .u8) 5 _ w.heap.size _ _ (rd_L2 t204 x12_2) from Kd.V_mk ul211_0 ge211_0)
                      clear hva_ hvn_ hvc_ ge211_0 ul211_0
                      clear hcc211 hce211
                      have HR211_0 := Aside0.mk hi211_0
                      have HC211_0 := Aside0.mk hl211_0
                      clear hi211_0 hl211_0
                      replace p211 := eq_true p211
                      replace q211 := eq_true q211
                      go_wp2
                      repeat (go_quiet (fail); try go_wp2)
                      go_meet
                      case rel => exact ⟨_, (false), (by first | rfl | (simp; done) | (simp [*]; done)), H', ⟨by have := HK1.out; have := HK2.out; first | omega | exact Nat.le_refl _⟩, ⟨by (with_reducible repeat (first | apply Kd.N_alloc | apply Kd.N_drewN | apply Kd.N_drew)); exact HO_10.out⟩, ⟨by (with_reducible repeat (first | apply Kd.N_alloc | apply Kd.N_drewN | apply Kd.N_drew)); exact HO_11.out⟩, ⟨by repeat (first | (with_reducible first | exact HB.out | apply below_alloc | apply pw_below_drewN | apply below_drew1) | exact HB.out)⟩⟩
                  · rw [if_neg c35] at H
                    have c35b0 : (((rd_L2 t204 x12_2).length : Int) == 2) = false := beq_eq_false_iff_ne.mpr c35
                    have c35b1 : (((rd_L2 t204 x12_2).length : Int) != 2) = true := bne_iff_ne.mpr c35
                    have H' := Aside0.mk H
                    clear H
                    have p211 : 0 ≤ (x12_2 : Int) := of_decide_eq_true (by first | (with_reducible assumption) | assumption)
                    have q211 : x12_2 < (t204.length : Int) := of_decide_eq_true (by first | (with_reducible assumption) | assumption)
                    obtain ⟨ad211, A211_0, c211_0, e211, hx211_0, hl211_0, hi211_0⟩ := at_L2 (Kd.N_reads' HO_10.out).2.2 x12_2 p211 q211
                    cases e211
                    obtain ⟨ce211, hce211, hMe211, hcc211⟩ := Kd.N_get HO_10.out [] x12_2 p211 (by first | exact q211 | exact of_decide_eq_true (by first | (with_reducible assumption) | assumption) | (have e_ := (Kd.N_reads' HO_10.out).1; omega))
                    obtain ⟨ua211_0, uc211_0, rfl, ul211_0, ge211_0⟩ := Kd.FK_slice_open hMe211
                    have hv211_0 := hcc211 0 _ rfl
                    rw [Nat.add_zero, show ((Kd.slice 5 (Kd.int .u8))).sz = 1 from rfl, Nat.mul_one] at hv211_0
                    replace hv211_0 := Option.some.inj (hv211_0.symm.trans hx211_0)
                    injection hv211_0 with hva_ hvn_ hvc_
                    rw [hva_] at ge211_0
                    rw [hvc_] at ul211_0
                    have HL211_0 := Aside0.mk (show Kd.V (Kd.int .u8) 5 _ w.heap.size _ _ (rd_L2 t204 x12_2) from Kd.V_mk ul211_0 ge211_0)
                    clear hva_ hvn_ hvc_ ge211_0 ul211_0
                    clear hcc211 hce211
                    have HR211_0 := Aside0.mk hi211_0
                    have HC211_0 := Aside0.mk hl211_0
                    clear hi211_0 hl211_0
                    replace p211 := eq_true p211
                    replace q211 := eq_true q211
                    go_wp2
                    repeat (go_quiet (fail); try go_wp2)
                    go_meet
                    case rel => exact ⟨_, (true), (by first | rfl | (simp; done) | (simp [*]; done)), H', ⟨by have := HK1.out; have := HK2.out; first | omega | exact Nat.le_refl _⟩, ⟨by (with_reducible repeat (first | apply Kd.N_alloc | apply Kd.N_drewN | apply Kd.N_drew)); exact HO_10.out⟩, ⟨by (with_reducible repeat (first | apply Kd.N_alloc | apply Kd.N_drewN | apply Kd.N_drew)); exact HO_11.out⟩, ⟨by repeat (first | (with_reducible first | exact HB.out | apply below_alloc | apply pw_below_drewN | apply below_drew1) | exact HB.out)⟩⟩
                · rw [if_neg c34] at H
                  exact absurd H (by simp)
              case rest =>
                clear HC32
                try clear c2
                try clear p2
                try clear q2
                try clear hx2
                try clear qi2
                try clear c3
                try clear c4
                try clear p6
                try clear c21
                try clear p21
                try clear q21
                try clear hx21
                try clear qi21
                try clear c22
                try clear p22
                try clear q22
                try clear hx22
                try clear qi22
                try clear c34
                try clear c35
                try clear c35b0
                try clear c35b1
                try clear c36
                try clear c36b0
                try clear c37
                try clear c37b0
                try clear c37b1
                try clear c39
                try clear c39b0
                try clear c40
                try clear c40b0
                try clear c41
                try clear c41b0
                try clear c41b1
                try clear c42
                try clear c42b0
                try clear c43
                try clear c43b0
                try clear c43b1
                try clear c44
                try clear c44b0
                try clear c44b1
                try clear c45
                try clear c45b0
                try clear c45b1
                try clear hx211_0
                try clear hx212_0
                try clear hx213_0
                try clear hx214_0
                try clear hx215_0
                try clear hx216_0
                try clear hx217_0
                try clear hx218_0
                try clear hx219_0
                try clear hx220_0
                try clear hx221_0
                try clear hx222_0
                try clear hx223_0
                try clear p211
                try clear p212
                try clear p213
                try clear p214
                try clear p215
                try clear p216
                try clear p217
                try clear p218
                try clear p219
                try clear p220
                try clear p221
                try clear p222
                try clear p223
                try clear q211
                try clear q212
                try clear q213
                try clear q214
                try clear q215
                try clear q216
                try clear q217
                try clear q218
                try clear q219
                try clear q220
                try clear q221
                try clear q222
                try clear q223
                obtain ⟨kq, x113_31, rfl, HA, HJ31, HO_10, HO_11, HB⟩ := hcut
                cases kq with
                | zero => exact absurd HA.out (by simp [debuggerlaw34_LinkOrder.j2])
                | succ kj31 =>
                  have H := HA.out
                  clear HA
                  simp only [debuggerlaw34_LinkOrder.j2] at H
                  by_cases c46 : x113_31 = true
                  · subst c46
                    have H1 : (some false) = some r := by rw [if_pos rfl] at H; exact H
                    clear H
                    have H := H1
                    clear H1
                    obtain rfl := Option.some.inj H
                    go_wp2
                    repeat (go_quiet (fail); try go_wp2)
                    go_ret
                    exact ⟨by first | rfl | (simp [errW_none, errW_some] <;> rfl) | (simp [*, errW_none, errW_some] <;> rfl), by repeat (first | (with_reducible first | exact HB.out | apply below_alloc | apply pw_below_drewN | apply below_drew1) | exact HB.out)⟩
                  · replace c46 := Bool.eq_false_iff.mpr c46
                    subst c46
                    have H1 : (debuggerlaw34_LinkOrder.l1 kj31 t182 t204 t207 (wrap64 (x12_2 + 1))) = some r := by rw [if_neg (show ¬ (false = true) by decide)] at H; exact H
                    clear H
                    have H := H1
                    clear H1
                    have H' := Aside0.mk H
                    clear H
                    go_wp2
                    repeat (go_quiet (fail); try go_wp2)
                    go_roundg kj31
                    case measure => have := HK1.out; have := HK2.out; have := HJ31.out; omega
                    case rel => exact ⟨(wrap64 (x12_2 + 1)), (by first | rfl | (simp; done) | (simp [*]; done)), H', ⟨by have := HK1.out; have := HK2.out; have := HJ31.out; omega⟩, ⟨by (with_reducible repeat (first | apply Kd.N_alloc | apply Kd.N_drewN | apply Kd.N_drew)); exact HO_10.out⟩, ⟨by (with_reducible repeat (first | apply Kd.N_alloc | apply Kd.N_drewN | apply Kd.N_drew)); exact HO_11.out⟩, ⟨by repeat (first | (with_reducible first | exact HB.out | apply below_alloc | apply pw_below_drewN | apply below_drew1) | exact HB.out)⟩⟩
            · rw [if_neg c31] at H
              have c31b0 : decide (x12_2 < (t204.length : Int)) = false := decide_eq_false c31
              clear c31
              by_cases c47 : (t204.length : Int) = t182
              · rw [if_pos c47] at H
                have c47b0 : ((t204.length : Int) == t182) = true := beq_iff_eq.mpr c47
                have c47b1 : ((t204.length : Int) != t182) = false := bne_eq_false_iff_eq.mpr c47
                clear c47
                by_cases c48 : (t207.length : Int) = 0
                · rw [if_pos c48] at H
                  have c48b0 : ((t207.length : Int) == 0) = true := beq_iff_eq.mpr c48
                  have c48b1 : ((t207.length : Int) != 0) = false := bne_eq_false_iff_eq.mpr c48
                  clear c48
                  replace H := Option.bind_eq_some_iff.mp H
                  obtain ⟨t210, A490, H⟩ := H
                  replace H : (some t210) = some r := H
                  have A49 := Aside0.mk A490
                  clear A490
                  obtain rfl := Option.some.inj H
                  obtain ⟨Ao50, co50, eo50⟩ := Kd.N_slice HO_10.out
                  subst eo50
                  obtain ⟨Ao51, co51, eo51⟩ := Kd.N_slice HO_11.out
                  subst eo51
                  go_wp2_with (first | (go_at_call 9; (with_reducible refine (debuggerlaw34_awake.calls k2  t210 _ A49.out).mono ?_); rintro e w52 ⟨rfl, hb⟩; have n0_ := Aside0.mk (Kd.N_below (by (with_reducible repeat (first | apply Kd.N_alloc | apply Kd.N_drewN | apply Kd.N_drew)); exact HO_10.out) hb); have n1_ := Aside0.mk (Kd.N_below (by (with_reducible repeat (first | apply Kd.N_alloc | apply Kd.N_drewN | apply Kd.N_drew)); exact HO_11.out) hb); have n2_ := Aside0.mk (below_step (by repeat (first | (with_reducible first | exact HB.out | apply below_alloc | apply pw_below_drewN | apply below_drew1) | exact HB.out)) hb); clear HO_10; clear HO_11; clear HB; have HO_10 := n0_; have HO_11 := n1_; have HB := n2_; clear n0_ n1_ n2_; (try clear hb); (try clear hb2); (try clear hk); (try clear hi)))
                  repeat (go_quiet (first | (go_at_call 9; (with_reducible refine (debuggerlaw34_awake.calls k2  t210 _ A49.out).mono ?_); rintro e w52 ⟨rfl, hb⟩; have n0_ := Aside0.mk (Kd.N_below (by (with_reducible repeat (first | apply Kd.N_alloc | apply Kd.N_drewN | apply Kd.N_drew)); exact HO_10.out) hb); have n1_ := Aside0.mk (Kd.N_below (by (with_reducible repeat (first | apply Kd.N_alloc | apply Kd.N_drewN | apply Kd.N_drew)); exact HO_11.out) hb); have n2_ := Aside0.mk (below_step (by repeat (first | (with_reducible first | exact HB.out | apply below_alloc | apply pw_below_drewN | apply below_drew1) | exact HB.out)) hb); clear HO_10; clear HO_11; clear HB; have HO_10 := n0_; have HO_11 := n1_; have HB := n2_; clear n0_ n1_ n2_; (try clear hb); (try clear hb2); (try clear hk); (try clear hi))); try go_wp2_with (first | (go_at_call 9; (with_reducible refine (debuggerlaw34_awake.calls k2  t210 _ A49.out).mono ?_); rintro e w52 ⟨rfl, hb⟩; have n0_ := Aside0.mk (Kd.N_below (by (with_reducible repeat (first | apply Kd.N_alloc | apply Kd.N_drewN | apply Kd.N_drew)); exact HO_10.out) hb); have n1_ := Aside0.mk (Kd.N_below (by (with_reducible repeat (first | apply Kd.N_alloc | apply Kd.N_drewN | apply Kd.N_drew)); exact HO_11.out) hb); have n2_ := Aside0.mk (below_step (by repeat (first | (with_reducible first | exact HB.out | apply below_alloc | apply pw_below_drewN | apply below_drew1) | exact HB.out)) hb); clear HO_10; clear HO_11; clear HB; have HO_10 := n0_; have HO_11 := n1_; have HB := n2_; clear n0_ n1_ n2_; (try clear hb); (try clear hb2); (try clear hk); (try clear hi))))
                  go_ret
                  exact ⟨by first | rfl | (simp [errW_none, errW_some] <;> rfl) | (simp [*, errW_none, errW_some] <;> rfl), by repeat (first | (with_reducible first | exact HB.out | apply below_alloc | apply pw_below_drewN | apply below_drew1) | exact HB.out)⟩
                · rw [if_neg c48] at H
                  have c48b0 : ((t207.length : Int) == 0) = false := beq_eq_false_iff_ne.mpr c48
                  have c48b1 : ((t207.length : Int) != 0) = true := bne_iff_ne.mpr c48
                  have c48b2 : ¬ (t207 = []) := fun h_ => c48 (by rw [h_]; rfl)
                  obtain rfl := Option.some.inj H
                  obtain ⟨Ao53, co53, eo53⟩ := Kd.N_slice HO_10.out
                  subst eo53
                  obtain ⟨Ao54, co54, eo54⟩ := Kd.N_slice HO_11.out
                  subst eo54
                  go_wp2
                  repeat (go_quiet (fail); try go_wp2)
                  go_ret
                  exact ⟨by first | rfl | (simp [errW_none, errW_some] <;> rfl) | (simp [*, errW_none, errW_some] <;> rfl), by repeat (first | (with_reducible first | exact HB.out | apply below_alloc | apply pw_below_drewN | apply below_drew1) | exact HB.out)⟩
              · rw [if_neg c47] at H
                have c47b0 : ((t204.length : Int) == t182) = false := beq_eq_false_iff_ne.mpr c47
                have c47b1 : ((t204.length : Int) != t182) = true := bne_iff_ne.mpr c47
                obtain rfl := Option.some.inj H
                obtain ⟨Ao55, co55, eo55⟩ := Kd.N_slice HO_10.out
                subst eo55
                go_wp2
                repeat (go_quiet (fail); try go_wp2)
                go_ret
                exact ⟨by first | rfl | (simp [errW_none, errW_some] <;> rfl) | (simp [*, errW_none, errW_some] <;> rfl), by repeat (first | (with_reducible first | exact HB.out | apply below_alloc | apply pw_below_drewN | apply below_drew1) | exact HB.out)⟩

end Go.Proofs.Ytipkcbpilkoflaa.QLinkOrder
