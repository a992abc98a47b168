-- Written by a program of this session (wip/printer.py of the repo) out of the translation.
import Derived.Test.YtipkcbpilkoflaaQLinkSendsx0
import Derived.Test.YtipkcbpilkoflaaQLinkSendsx1
import Derived.Test.YtipkcbpilkoflaaQLinkSendsx4
import Derived.Test.YtipkcbpilkoflaaQLinkSendsx5
import Derived.Test.YtipkcbpilkoflaaQLinkSendsx16
import Derived.Test.YtipkcbpilkoflaaQLinkSendsx17
import Derived.Test.YtipkcbpilkoflaaQLinkSendsx18
import Derived.Test.YtipkcbpilkoflaaQLinkSendsx20
import Derived.Test.YtipkcbpilkoflaaQLinkSendsx21
import Derived.Test.YtipkcbpilkoflaaQLinkSendsx22
namespace Go.Proofs.Ytipkcbpilkoflaa.QLinkSends
open Go.RowKit Go.Proofs.YtipkcbpilkoflaaW.PrintWords Go.Proofs.YtipkcbpilkoflaaW.PrintLast Go.Proofs.YtipkcbpilkoflaaW.PrintMore
attribute [local go_sem] max2_int min2_int max_two min_two max_three min_three max_four min_four   -- for this text's walks alone
set_option linter.unusedVariables false
set_option linter.unusedSimpArgs false

/-! ### debuggerlaw34_LinkSends: function 3 -/
mutual
def debuggerlaw34_LinkSends.j0 : Nat → List (S37) → List (S25) → List Int → Int → Int → Int → Bool → List Int → Int → Int → Option (Bool)
  | 0, _, _, _, _, _, _, _, _, _, _ => none
  | k + 1, x0, x2, x3, x4, x5, x6, x36, x233000, x233001, x233002 => if x36 = true then ((debuggerlaw34_awake.f k).bind fun t234 => (some t234)) else ((debuggerkit_Mod.f x6 1073741824).bind fun t235 => ((debuggerkit_Mod.f x5 (wrap64 ((x3.length : Int) + 3))).bind fun t237 => (debuggerlaw34_LinkSends.j1 k x0 x2 x3 x4 t235 x233000 x233001 x233002 x233000 (wrap64 (t237 - 2)) x233002)))
def debuggerlaw34_LinkSends.j1 : Nat → List (S37) → List (S25) → List Int → Int → Int → List Int → Int → Int → List Int → Int → Int → Option (Bool)
  | 0, _, _, _, _, _, _, _, _, _, _, _ => none
  | k + 1, x0, x2, x3, x4, x6, x233000, x233001, x233002, x237000, x237001, x237002 => (some (([(⟨x233000, x233001, x233002⟩ : S25), (⟨x237000, x237001, x237002⟩ : S25)] : List (S25)) : List (S25))).bind fun y238 => (debuggerlaw34_LinkSends.l0 k x0 x2 x3 x4 x6 y238 (y238.length : Int) 0)
def debuggerlaw34_LinkSends.l0 : Nat → List (S37) → List (S25) → List Int → Int → Int → List (S25) → Int → Int → Option (Bool)
  | 0, _, _, _, _, _, _, _, _ => none
  | k + 1, x0, x2, x3, x4, x6, x50, x51, x52 => if x52 < x51 then (if 0 ≤ x52 then (if x52 < (x50.length : Int) then ((link_Send.f k x0 ((rd_T25 x50 x52).f0) ((rd_T25 x50 x52).f1) ((rd_T25 x50 x52).f2) x3 x6).bind fun t243 => ((debuggerref34_Send.f k x0 ((rd_T25 x50 x52).f0) ((rd_T25 x50 x52).f1) ((rd_T25 x50 x52).f2) x3 x6).bind fun t246 => ((debuggerref34_Same.f k t243 t246).bind fun t249 => (if t249 = true then (debuggerlaw34_LinkSends.l0 k x0 x2 x3 x4 x6 x50 x51 (wrap64 (x52 + 1))) else (some false))))) else (none)) else (none)) else ((debuggerkit_Mod.f x4 (wrap64 ((x2.length : Int) + 2))).bind fun t250 => ((link_FateOf.f x2 x4).bind fun bt251 => ((debuggerref34_FateOf.f x2 x4).bind fun bt256 => ((debuggerlaw34_fates.f k bt251.1 bt251.2.1 bt251.2.2 bt256.1 bt256.2.1 bt256.2.2).bind fun t261 => (if t261 = true then ((link_FateOf.f x2 t250).bind fun bt262 => ((debuggerref34_FateOf.f x2 t250).bind fun bt267 => ((debuggerlaw34_fates.f k bt262.1 bt262.2.1 bt262.2.2 bt267.1 bt267.2.1 bt267.2.2).bind fun t272 => (if t272 = true then ((debuggerlaw34_awake.f k).bind fun t273 => (some t273)) else (some false))))) else (some false))))))
end
def debuggerlaw34_LinkSends.f (k : Nat) (l0 : List (S37)) (l1_0 : List Int) (a1_1 : Int) (a1_2 : Int) (l2 : List (S25)) (l3 : List Int) (a4 : Int) (a5 : Int) (a6 : Int) : Option (Bool) := (debuggerlaw34_large.f k l0).bind fun t233 => (if t233 = true then (debuggerlaw34_LinkSends.j0 k l0 l2 l3 a4 a5 a6 true l1_0 a1_1 a1_2) else (if (l3.length : Int) > 300 then (debuggerlaw34_LinkSends.j0 k l0 l2 l3 a4 a5 a6 true l1_0 a1_1 a1_2) else (if (l1_0.length : Int) > 50 then (debuggerlaw34_LinkSends.j0 k l0 l2 l3 a4 a5 a6 true l1_0 a1_1 a1_2) else (debuggerlaw34_LinkSends.j0 k l0 l2 l3 a4 a5 a6 (decide ((l2.length : Int) > 50)) l1_0 a1_1 a1_2))))
theorem debuggerlaw34_LinkSends.mono_l : ∀ k, (∀ y0 y1 y2 y3 y4 y5 y6 y7 y8 y9, LeO (debuggerlaw34_LinkSends.j0 k y0 y1 y2 y3 y4 y5 y6 y7 y8 y9) (debuggerlaw34_LinkSends.j0 (k + 1) y0 y1 y2 y3 y4 y5 y6 y7 y8 y9)) ∧ (∀ y0 y1 y2 y3 y4 y5 y6 y7 y8 y9 y10, LeO (debuggerlaw34_LinkSends.j1 k y0 y1 y2 y3 y4 y5 y6 y7 y8 y9 y10) (debuggerlaw34_LinkSends.j1 (k + 1) y0 y1 y2 y3 y4 y5 y6 y7 y8 y9 y10)) ∧ (∀ y0 y1 y2 y3 y4 y5 y6 y7, LeO (debuggerlaw34_LinkSends.l0 k y0 y1 y2 y3 y4 y5 y6 y7) (debuggerlaw34_LinkSends.l0 (k + 1) y0 y1 y2 y3 y4 y5 y6 y7))
  | 0 => ⟨fun _ _ _ _ _ _ _ _ _ _ r h => by simp [debuggerlaw34_LinkSends.j0] at h, fun _ _ _ _ _ _ _ _ _ _ _ r h => by simp [debuggerlaw34_LinkSends.j1] at h, fun _ _ _ _ _ _ _ _ r h => by simp [debuggerlaw34_LinkSends.l0] at h⟩
  | k + 1 => by
    obtain ⟨ih0, ih1, ih2⟩ := debuggerlaw34_LinkSends.mono_l k
    refine ⟨?_, ?_, ?_⟩
    · intro y0 y1 y2 y3 y4 y5 y6 y7 y8 y9
      unfold debuggerlaw34_LinkSends.j0
      repeat' first
      | (with_reducible exact ih0 _ _ _ _ _ _ _ _ _ _)
      | (with_reducible exact ih1 _ _ _ _ _ _ _ _ _ _ _)
      | (with_reducible exact ih2 _ _ _ _ _ _ _ _)
      | (with_reducible exact debuggerlaw34_awake.mono _)
      | (with_reducible exact debuggerlaw34_fates.mono _ _ _ _ _ _ _)
      | (with_reducible exact debuggerlaw34_large.mono _ _)
      | (with_reducible exact debuggerref34_Same.mono _ _ _)
      | (with_reducible exact debuggerref34_Send.mono _ _ _ _ _ _ _)
      | (with_reducible exact link_Send.mono _ _ _ _ _ _ _)
      | (with_reducible exact LeO.refl _)
      | (with_reducible exact LeO.none _)
      | (with_reducible refine LeO.ite ?_ ?_)
      | (with_reducible refine LeO.bind ?_ (fun _ => ?_))
      | exact ih0 _ _ _ _ _ _ _ _ _ _
      | exact ih1 _ _ _ _ _ _ _ _ _ _ _
      | exact ih2 _ _ _ _ _ _ _ _
      | exact debuggerlaw34_awake.mono _
      | exact debuggerlaw34_fates.mono _ _ _ _ _ _ _
      | exact debuggerlaw34_large.mono _ _
      | exact debuggerref34_Same.mono _ _ _
      | exact debuggerref34_Send.mono _ _ _ _ _ _ _
      | exact link_Send.mono _ _ _ _ _ _ _
      | exact LeO.none _
      | refine LeO.ite ?_ ?_
      | refine LeO.bind ?_ (fun _ => ?_)
    · intro y0 y1 y2 y3 y4 y5 y6 y7 y8 y9 y10
      unfold debuggerlaw34_LinkSends.j1
      repeat' first
      | (with_reducible exact ih0 _ _ _ _ _ _ _ _ _ _)
      | (with_reducible exact ih1 _ _ _ _ _ _ _ _ _ _ _)
      | (with_reducible exact ih2 _ _ _ _ _ _ _ _)
      | (with_reducible exact debuggerlaw34_awake.mono _)
      | (with_reducible exact debuggerlaw34_fates.mono _ _ _ _ _ _ _)
      | (with_reducible exact debuggerlaw34_large.mono _ _)
      | (with_reducible exact debuggerref34_Same.mono _ _ _)
      | (with_reducible exact debuggerref34_Send.mono _ _ _ _ _ _ _)
      | (with_reducible exact link_Send.mono _ _ _ _ _ _ _)
      | (with_reducible exact LeO.refl _)
      | (with_reducible exact LeO.none _)
      | (with_reducible refine LeO.ite ?_ ?_)
      | (with_reducible refine LeO.bind ?_ (fun _ => ?_))
      | exact ih0 _ _ _ _ _ _ _ _ _ _
      | exact ih1 _ _ _ _ _ _ _ _ _ _ _
      | exact ih2 _ _ _ _ _ _ _ _
      | exact debuggerlaw34_awake.mono _
      | exact debuggerlaw34_fates.mono _ _ _ _ _ _ _
      | exact debuggerlaw34_large.mono _ _
      | exact debuggerref34_Same.mono _ _ _
      | exact debuggerref34_Send.mono _ _ _ _ _ _ _
      | exact link_Send.mono _ _ _ _ _ _ _
      | exact LeO.none _
      | refine LeO.ite ?_ ?_
      | refine LeO.bind ?_ (fun _ => ?_)
    · intro y0 y1 y2 y3 y4 y5 y6 y7
      unfold debuggerlaw34_LinkSends.l0
      repeat' first
      | (with_reducible exact ih0 _ _ _ _ _ _ _ _ _ _)
      | (with_reducible exact ih1 _ _ _ _ _ _ _ _ _ _ _)
      | (with_reducible exact ih2 _ _ _ _ _ _ _ _)
      | (with_reducible exact debuggerlaw34_awake.mono _)
      | (with_reducible exact debuggerlaw34_fates.mono _ _ _ _ _ _ _)
      | (with_reducible exact debuggerlaw34_large.mono _ _)
      | (with_reducible exact debuggerref34_Same.mono _ _ _)
      | (with_reducible exact debuggerref34_Send.mono _ _ _ _ _ _ _)
      | (with_reducible exact link_Send.mono _ _ _ _ _ _ _)
      | (with_reducible exact LeO.refl _)
      | (with_reducible exact LeO.none _)
      | (with_reducible refine LeO.ite ?_ ?_)
      | (with_reducible refine LeO.bind ?_ (fun _ => ?_))
      | exact ih0 _ _ _ _ _ _ _ _ _ _
      | exact ih1 _ _ _ _ _ _ _ _ _ _ _
      | exact ih2 _ _ _ _ _ _ _ _
      | exact debuggerlaw34_awake.mono _
      | exact debuggerlaw34_fates.mono _ _ _ _ _ _ _
      | exact debuggerlaw34_large.mono _ _
      | exact debuggerref34_Same.mono _ _ _
      | exact debuggerref34_Send.mono _ _ _ _ _ _ _
      | exact link_Send.mono _ _ _ _ _ _ _
      | exact LeO.none _
      | refine LeO.ite ?_ ?_
      | refine LeO.bind ?_ (fun _ => ?_)
theorem debuggerlaw34_LinkSends.mono : ∀ a0 a1 a2 a3 a4 a5 a6 a7 a8 k, LeO (debuggerlaw34_LinkSends.f k a0 a1 a2 a3 a4 a5 a6 a7 a8) (debuggerlaw34_LinkSends.f (k + 1) a0 a1 a2 a3 a4 a5 a6 a7 a8) := by
  intro a0 a1 a2 a3 a4 a5 a6 a7 a8 k
  obtain ⟨ih0, ih1, ih2⟩ := debuggerlaw34_LinkSends.mono_l k
  unfold debuggerlaw34_LinkSends.f
  repeat' first
      | (with_reducible exact ih0 _ _ _ _ _ _ _ _ _ _)
      | (with_reducible exact ih1 _ _ _ _ _ _ _ _ _ _ _)
      | (with_reducible exact ih2 _ _ _ _ _ _ _ _)
      | (with_reducible exact debuggerlaw34_awake.mono _)
      | (with_reducible exact debuggerlaw34_fates.mono _ _ _ _ _ _ _)
      | (with_reducible exact debuggerlaw34_large.mono _ _)
      | (with_reducible exact debuggerref34_Same.mono _ _ _)
      | (with_reducible exact debuggerref34_Send.mono _ _ _ _ _ _ _)
      | (with_reducible exact link_Send.mono _ _ _ _ _ _ _)
      | (with_reducible exact LeO.refl _)
      | (with_reducible exact LeO.none _)
      | (with_reducible refine LeO.ite ?_ ?_)
      | (with_reducible refine LeO.bind ?_ (fun _ => ?_))
      | exact ih0 _ _ _ _ _ _ _ _ _ _
      | exact ih1 _ _ _ _ _ _ _ _ _ _ _
      | exact ih2 _ _ _ _ _ _ _ _
      | exact debuggerlaw34_awake.mono _
      | exact debuggerlaw34_fates.mono _ _ _ _ _ _ _
      | exact debuggerlaw34_large.mono _ _
      | exact debuggerref34_Same.mono _ _ _
      | exact debuggerref34_Send.mono _ _ _ _ _ _ _
      | exact link_Send.mono _ _ _ _ _ _ _
      | exact LeO.none _
      | refine LeO.ite ?_ ?_
      | refine LeO.bind ?_ (fun _ => ?_)
def debuggerlaw34_LinkSends.T9 : Bool × List (List Nat × List Nat) := (true, [([], []), ([], []), ([], []), ([], []), ([0, 1, 2, 3], [0, 1, 2, 3]), ([], []), ([], []), ([], []), ([], []), ([5, 6, 7, 8, 4], [5, 6, 7, 8]), ([4, 9, 9], [4, 9]), ([10], [10])])
def debuggerlaw34_LinkSends.B9 : List Nat := [0, 0, 0, 0, 15, 0, 0, 0, 0, 511, 1023, 2047]
theorem debuggerlaw34_LinkSends.tab9 : rtab .any (opsOf Try.f3 9) = debuggerlaw34_LinkSends.T9 := by kernel_rfl
theorem debuggerlaw34_LinkSends.bits9 : waitsOk debuggerlaw34_LinkSends.T9.2 debuggerlaw34_LinkSends.B9 = true := by kernel_rfl
set_option maxHeartbeats 8000000 in
set_option maxRecDepth 100000 in
theorem debuggerlaw34_LinkSends.calls (k : Nat) (P0_ : Nat → Prop) (A0 : Option Addr) (c0 : Nat) (l0 : List (S37)) (P1_0_ : Nat → Prop) (A1_0 : Option Addr) (c1_0 : Nat) (l1_0 : List Int) (a1_1 : Int) (a1_2 : Int) (A2 : Option Addr) (c2 : Nat) (l2 : List (S25)) (A3 : Option Addr) (c3 : Nat) (l3 : List Int) (a4 : Int) (a5 : Int) (a6 : Int) (r : Bool) (w : World) (hs0 : Kd.V k37 37 w w.heap.size (fun k_ => P0_ k_) (.slice A0 l0.length c0) l0) (hs1_0 : Kd.V (Kd.int .i64) 3 w w.heap.size (fun k_ => P1_0_ k_) (.slice A1_0 l1_0.length c1_0) l1_0) (hr2 : Kd.C k25 w A2 l2.length l2) (hc2 : l2.length ≤ c2) (hr3 : Kd.C (Kd.int .u8) w A3 l3.length l3) (hc3 : l3.length ≤ c3) (h : debuggerlaw34_LinkSends.f k l0 l1_0 a1_1 a1_2 l2 l3 a4 a5 a6 = some r) :
    Calls Try.prog 3 #[.slice A0 l0.length c0, .agg #[.slice A1_0 l1_0.length c1_0, .int .i64 a1_1, .int .i64 a1_2], .slice A2 l2.length c2, .slice A3 l3.length c3, .int .i64 a4, .int .i64 a5, .int .i64 a6] w fun e w' => e = .returned (.bool r) ∧ Below w.heap.size w w' := by
  have hu25 := Try.underlying25
  have HO0 := Aside0.mk (show Kd.V k37 37 w w.heap.size (fun k_ => ((P0_ k_ ∨ P1_0_ k_) ∨ w.heap.size ≤ k_)) (.slice A0 l0.length c0) l0 from Kd.V_mono hs0 (fun k_ hk => .inl (.inl hk)))
  have HO1_0 := Aside0.mk (show Kd.V (Kd.int .i64) 3 w w.heap.size (fun k_ => ((P0_ k_ ∨ P1_0_ k_) ∨ w.heap.size ≤ k_)) (.slice A1_0 l1_0.length c1_0) l1_0 from Kd.V_mono hs1_0 (fun k_ hk => .inl (.inr hk)))
  have HR2 := Aside0.mk hr2
  have HC2 := Aside0.mk hc2
  clear hr2 hc2
  have HR3 := Aside0.mk hr3
  have HC3 := Aside0.mk hc3
  clear hr3 hc3
  have HB := Aside0.mk (Below.refl w.heap.size w)
  have H : ((debuggerlaw34_large.f k l0).bind fun t233 => (if t233 = true then (debuggerlaw34_LinkSends.j0 k l0 l2 l3 a4 a5 a6 true l1_0 a1_1 a1_2) else (if (l3.length : Int) > 300 then (debuggerlaw34_LinkSends.j0 k l0 l2 l3 a4 a5 a6 true l1_0 a1_1 a1_2) else (if (l1_0.length : Int) > 50 then (debuggerlaw34_LinkSends.j0 k l0 l2 l3 a4 a5 a6 true l1_0 a1_1 a1_2) else (debuggerlaw34_LinkSends.j0 k l0 l2 l3 a4 a5 a6 (decide ((l2.length : Int) > 50)) l1_0 a1_1 a1_2))))) = some r := h
  clear h
  have HC8 := Aside0.mk H
  clear H
  go_enter Try.func3, Try.ntmps3
  go_upto_region 1 with (first | ((with_reducible refine gate_dst (N := 8) rfl ?_); (try (refine gate_guard (by rfl) ?_; dsimp only)); refine box_event ?hg (N := 8) ?hd (cs := #[.slice A1_0 l1_0.length c1_0, .int .i64 a1_1, .int .i64 a1_2]) (t := 25) ?hr ?_; (case hd => rfl); (case hg => rfl); (case hr => first | (go_simp; done) | (go_simp; rfl)); intro gb232 hg w9 hbox hb; have n0_ := Aside0.mk (Kd.V_below (Kd.V_elderB (by (with_reducible repeat (first | apply Kd.V_alloc | apply Kd.V_drewN | apply Kd.V_drew)); exact HO0.out) gb232 (Nat.le_of_eq hg.symm)) hb); have n1_ := Aside0.mk (Kd.V_below (Kd.V_elderB (by (with_reducible repeat (first | apply Kd.V_alloc | apply Kd.V_drewN | apply Kd.V_drew)); exact HO1_0.out) gb232 (Nat.le_of_eq hg.symm)) hb); have n2_ := Aside0.mk (below_step (by repeat (first | (with_reducible first | exact HB.out | apply below_alloc | apply pw_below_drewN | apply below_drew1) | exact HB.out)) hb); have n3_ := Aside0.mk (hbox); have n4_ := Aside0.mk ((by rw [hg]; exact (below_size (by repeat (first | (with_reducible first | exact HB.out | apply below_alloc | apply pw_below_drewN | apply below_drew1) | exact HB.out))) : w.heap.size ≤ gb232)); have n5_ := Aside0.mk ((by rw [hg]; exact (below_size (by repeat (first | (with_reducible first | exact HB.out | apply below_alloc | apply pw_below_drewN | apply below_drew1) | exact HB.out))) : w.heap.size ≤ gb232)); clear HO0; clear HO1_0; clear HB; have HO0 := n0_; have HO1_0 := n1_; have HB := n2_; have BK232 := n3_; have GW232 := n4_; have GE232 := n5_; clear n0_ n1_ n2_ n3_ n4_ n5_; clear hb hbox hg))
  (try simp only [Act.put, List.setIfInBounds_toArray, List.set_cons_zero, List.set_cons_succ])
  go_cut [36] (fun v36 wc => ∃ (kq : Nat) (x36_7 : Bool), v36 = .bool x36_7 ∧ Aside0 (debuggerlaw34_LinkSends.j0 kq l0 l2 l3 a4 a5 a6 x36_7 l1_0 a1_1 a1_2 = some r) ∧ Aside0 (kq ≤ k) ∧ Aside0 (Kd.V k37 37 wc w.heap.size (fun k_ => ((P0_ k_ ∨ P1_0_ k_) ∨ w.heap.size ≤ k_) ∧ k_ ≠ gb232) (.slice A0 l0.length c0) l0) ∧ Aside0 (Kd.V (Kd.int .i64) 3 wc w.heap.size (fun k_ => ((P0_ k_ ∨ P1_0_ k_) ∨ w.heap.size ≤ k_) ∧ k_ ≠ gb232) (.slice A1_0 l1_0.length c1_0) l1_0) ∧ Aside0 (wc.heap[gb232]? = some (.cells #[(.slice A1_0 l1_0.length c1_0), .int .i64 a1_1, .int .i64 a1_2] 25 (0, 0))) ∧ Aside0 (Below w.heap.size w wc))
  case first =>
    have H := HC8.out
    clear HC8
    replace H := Option.bind_eq_some_iff.mp H
    obtain ⟨t233, A100, H⟩ := H
    replace H : (if t233 = true then (debuggerlaw34_LinkSends.j0 k l0 l2 l3 a4 a5 a6 true l1_0 a1_1 a1_2) else (if (l3.length : Int) > 300 then (debuggerlaw34_LinkSends.j0 k l0 l2 l3 a4 a5 a6 true l1_0 a1_1 a1_2) else (if (l1_0.length : Int) > 50 then (debuggerlaw34_LinkSends.j0 k l0 l2 l3 a4 a5 a6 true l1_0 a1_1 a1_2) else (debuggerlaw34_LinkSends.j0 k l0 l2 l3 a4 a5 a6 (decide ((l2.length : Int) > 50)) l1_0 a1_1 a1_2)))) = some r := H
    have A10 := Aside0.mk A100
    clear A100
    by_cases c11 : t233 = true
    · subst c11
      have H1 : (debuggerlaw34_LinkSends.j0 k l0 l2 l3 a4 a5 a6 true l1_0 a1_1 a1_2) = some r := by rw [if_pos rfl] at H; exact H
      clear H
      have H := H1
      clear H1
      have H' := Aside0.mk H
      clear H
      go_wp2_with (first | ((with_reducible refine gate_callee (f := 8) rfl ?_); refine goesL_ (some 20) rfl rfl Try.func8 (by kernel_rfl) rfl #[.slice A0 l0.length c0] rfl (by (try simp only [List.map_toArray, List.map_cons, List.map_nil]); first | done | rfl | (simp only [List.length_drop, List.length_take]; rfl)) ?_; (with_reducible refine (debuggerlaw34_large.calls k _ _ l0 true _ ?side1 ?side2 A10.out).mono ?_); (case side1 => repeat (first | exact (Kd.V_reads' HO0.out).2.2 | (with_reducible refine Kd.C_alloc ?_ _) | (with_reducible refine Kd.C_drewN ?_ _) | (with_reducible refine Kd.C_drew ?_))); (case side2 => exact (Kd.V_reads' HO0.out).2.1); rintro e w' ⟨rfl, ⟨nd, rfl⟩⟩; refine ⟨_, rfl, ?_⟩))
      go_meet
      case rel => exact ⟨_, (true), (by first | rfl | (simp; done) | (simp [*]; done)), H', ⟨by first | omega | exact Nat.le_refl _⟩, ⟨by (with_reducible repeat (first | apply Kd.V_alloc | apply Kd.V_drewN | apply Kd.V_drew)); exact HO0.out⟩, ⟨by (with_reducible repeat (first | apply Kd.V_alloc | apply Kd.V_drewN | apply Kd.V_drew)); exact HO1_0.out⟩, ⟨by (with_reducible repeat (first | refine blk_drewN ?_ _ | refine blk_drew ?_ | refine blk_alloc ?_ _)); exact BK232.out⟩, ⟨by repeat (first | (with_reducible first | exact HB.out | apply below_alloc | apply pw_below_drewN | apply below_drew1 | refine below_set ?_ GE232.out) | exact HB.out)⟩⟩
    · replace c11 := Bool.eq_false_iff.mpr c11
      subst c11
      have H1 : (if (l3.length : Int) > 300 then (debuggerlaw34_LinkSends.j0 k l0 l2 l3 a4 a5 a6 true l1_0 a1_1 a1_2) else (if (l1_0.length : Int) > 50 then (debuggerlaw34_LinkSends.j0 k l0 l2 l3 a4 a5 a6 true l1_0 a1_1 a1_2) else (debuggerlaw34_LinkSends.j0 k l0 l2 l3 a4 a5 a6 (decide ((l2.length : Int) > 50)) l1_0 a1_1 a1_2))) = some r := by rw [if_neg (show ¬ (false = true) by decide)] at H; exact H
      clear H
      have H := H1
      clear H1
      by_cases c12 : (l3.length : Int) > 300
      · rw [if_pos c12] at H
        have c12b0 : decide (300 < (l3.length : Int)) = true := decide_eq_true c12
        have c12b1 : decide (300 < l3.length) = true := decide_eq_true (by omega)
        clear c12
        (first | rw [c12b0] | (simp only [i64_w, i32_w]; rw [c12b0]) | skip)
        have H' := Aside0.mk H
        clear H
        go_wp2_with (first | ((with_reducible refine gate_callee (f := 8) rfl ?_); refine goesL_ (some 20) rfl rfl Try.func8 (by kernel_rfl) rfl #[.slice A0 l0.length c0] rfl (by (try simp only [List.map_toArray, List.map_cons, List.map_nil]); first | done | rfl | (simp only [List.length_drop, List.length_take]; rfl)) ?_; (with_reducible refine (debuggerlaw34_large.calls k _ _ l0 false _ ?side1 ?side2 A10.out).mono ?_); (case side1 => repeat (first | exact (Kd.V_reads' HO0.out).2.2 | (with_reducible refine Kd.C_alloc ?_ _) | (with_reducible refine Kd.C_drewN ?_ _) | (with_reducible refine Kd.C_drew ?_))); (case side2 => exact (Kd.V_reads' HO0.out).2.1); rintro e w' ⟨rfl, ⟨nd, rfl⟩⟩; refine ⟨_, rfl, ?_⟩))
        go_meet
        case rel => exact ⟨_, (true), (by first | rfl | (simp; done) | (simp [*]; done)), H', ⟨by first | omega | exact Nat.le_refl _⟩, ⟨by (with_reducible repeat (first | apply Kd.V_alloc | apply Kd.V_drewN | apply Kd.V_drew)); exact HO0.out⟩, ⟨by (with_reducible repeat (first | apply Kd.V_alloc | apply Kd.V_drewN | apply Kd.V_drew)); exact HO1_0.out⟩, ⟨by (with_reducible repeat (first | refine blk_drewN ?_ _ | refine blk_drew ?_ | refine blk_alloc ?_ _)); exact BK232.out⟩, ⟨by repeat (first | (with_reducible first | exact HB.out | apply below_alloc | apply pw_below_drewN | apply below_drew1 | refine below_set ?_ GE232.out) | exact HB.out)⟩⟩
      · rw [if_neg c12] at H
        have c12b0 : decide (300 < (l3.length : Int)) = false := decide_eq_false c12
        have c12b1 : decide (300 < l3.length) = false := decide_eq_false (by omega)
        clear c12
        (first | rw [c12b0] | (simp only [i64_w, i32_w]; rw [c12b0]) | skip)
        by_cases c13 : (l1_0.length : Int) > 50
        · rw [if_pos c13] at H
          have c13b0 : decide (50 < (l1_0.length : Int)) = true := decide_eq_true c13
          have c13b1 : decide (50 < l1_0.length) = true := decide_eq_true (by omega)
          clear c13
          have H' := Aside0.mk H
          clear H
          go_wp2_with (first | ((with_reducible refine gate_callee (f := 8) rfl ?_); refine goesL_ (some 20) rfl rfl Try.func8 (by kernel_rfl) rfl #[.slice A0 l0.length c0] rfl (by (try simp only [List.map_toArray, List.map_cons, List.map_nil]); first | done | rfl | (simp only [List.length_drop, List.length_take]; rfl)) ?_; (with_reducible refine (debuggerlaw34_large.calls k _ _ l0 false _ ?side1 ?side2 A10.out).mono ?_); (case side1 => repeat (first | exact (Kd.V_reads' HO0.out).2.2 | (with_reducible refine Kd.C_alloc ?_ _) | (with_reducible refine Kd.C_drewN ?_ _) | (with_reducible refine Kd.C_drew ?_))); (case side2 => exact (Kd.V_reads' HO0.out).2.1); rintro e w' ⟨rfl, ⟨nd, rfl⟩⟩; refine ⟨_, rfl, ?_⟩; have hcz14_0 : w9.cell? ⟨gb232, 0, none⟩ = some (.slice A1_0 l1_0.length c1_0) := (blk_cell BK232.out 0).trans rfl; have hcz14_1 : w9.cell? ⟨gb232, 1, none⟩ = some (.int .i64 a1_1) := (blk_cell BK232.out 1).trans rfl; have hcz14_2 : w9.cell? ⟨gb232, 2, none⟩ = some (.int .i64 a1_2) := (blk_cell BK232.out 2).trans rfl; have hfz14_0 := blk_frozen BK232.out 0; have hfz14_1 := blk_frozen BK232.out 1; have hfz14_2 := blk_frozen BK232.out 2))
          go_meet
          case rel => exact ⟨_, (true), (by first | rfl | (simp; done) | (simp [*]; done)), H', ⟨by first | omega | exact Nat.le_refl _⟩, ⟨by (with_reducible repeat (first | apply Kd.V_alloc | apply Kd.V_drewN | apply Kd.V_drew)); exact HO0.out⟩, ⟨by (with_reducible repeat (first | apply Kd.V_alloc | apply Kd.V_drewN | apply Kd.V_drew)); exact HO1_0.out⟩, ⟨by (with_reducible repeat (first | refine blk_drewN ?_ _ | refine blk_drew ?_ | refine blk_alloc ?_ _)); exact BK232.out⟩, ⟨by repeat (first | (with_reducible first | exact HB.out | apply below_alloc | apply pw_below_drewN | apply below_drew1 | refine below_set ?_ GE232.out) | exact HB.out)⟩⟩
        · rw [if_neg c13] at H
          have c13b0 : decide (50 < (l1_0.length : Int)) = false := decide_eq_false c13
          have c13b1 : decide (50 < l1_0.length) = false := decide_eq_false (by omega)
          clear c13
          have H' := Aside0.mk H
          clear H
          go_wp2_with (first | ((with_reducible refine gate_callee (f := 8) rfl ?_); refine goesL_ (some 20) rfl rfl Try.func8 (by kernel_rfl) rfl #[.slice A0 l0.length c0] rfl (by (try simp only [List.map_toArray, List.map_cons, List.map_nil]); first | done | rfl | (simp only [List.length_drop, List.length_take]; rfl)) ?_; (with_reducible refine (debuggerlaw34_large.calls k _ _ l0 false _ ?side1 ?side2 A10.out).mono ?_); (case side1 => repeat (first | exact (Kd.V_reads' HO0.out).2.2 | (with_reducible refine Kd.C_alloc ?_ _) | (with_reducible refine Kd.C_drewN ?_ _) | (with_reducible refine Kd.C_drew ?_))); (case side2 => exact (Kd.V_reads' HO0.out).2.1); rintro e w' ⟨rfl, ⟨nd, rfl⟩⟩; refine ⟨_, rfl, ?_⟩; have hcz15_0 : w9.cell? ⟨gb232, 0, none⟩ = some (.slice A1_0 l1_0.length c1_0) := (blk_cell BK232.out 0).trans rfl; have hcz15_1 : w9.cell? ⟨gb232, 1, none⟩ = some (.int .i64 a1_1) := (blk_cell BK232.out 1).trans rfl; have hcz15_2 : w9.cell? ⟨gb232, 2, none⟩ = some (.int .i64 a1_2) := (blk_cell BK232.out 2).trans rfl; have hfz15_0 := blk_frozen BK232.out 0; have hfz15_1 := blk_frozen BK232.out 1; have hfz15_2 := blk_frozen BK232.out 2))
          go_meet
          case rel => exact ⟨_, (decide ((l2.length : Int) > 50)), (by first | rfl | (simp; done) | (simp [*]; done)), H', ⟨by first | omega | exact Nat.le_refl _⟩, ⟨by (with_reducible repeat (first | apply Kd.V_alloc | apply Kd.V_drewN | apply Kd.V_drew)); exact HO0.out⟩, ⟨by (with_reducible repeat (first | apply Kd.V_alloc | apply Kd.V_drewN | apply Kd.V_drew)); exact HO1_0.out⟩, ⟨by (with_reducible repeat (first | refine blk_drewN ?_ _ | refine blk_drew ?_ | refine blk_alloc ?_ _)); exact BK232.out⟩, ⟨by repeat (first | (with_reducible first | exact HB.out | apply below_alloc | apply pw_below_drewN | apply below_drew1 | refine below_set ?_ GE232.out) | exact HB.out)⟩⟩
  case rest =>
    clear HC8
    try clear c1
    try clear c2
    try clear p2
    try clear c3
    try clear c8
    try clear c11
    try clear c12
    try clear c12b0
    try clear c12b1
    try clear c13
    try clear c13b0
    try clear c13b1
    try clear hcz14_0
    try clear hcz14_1
    try clear hcz14_2
    try clear hcz15_0
    try clear hcz15_1
    try clear hcz15_2
    try clear hfz14_0
    try clear hfz14_1
    try clear hfz14_2
    try clear hfz15_0
    try clear hfz15_1
    try clear hfz15_2
    obtain ⟨kq, x36_7, rfl, HA, HJ7, HO_0, HO_233000, BK232, HB⟩ := hcut
    cases kq with
    | zero => exact absurd HA.out (by simp [debuggerlaw34_LinkSends.j0])
    | succ kj7 =>
      have H := HA.out
      clear HA
      simp only [debuggerlaw34_LinkSends.j0] at H
      by_cases c16 : x36_7 = true
      · subst c16
        have H1 : ((debuggerlaw34_awake.f kj7).bind fun t234 => (some t234)) = some r := by rw [if_pos rfl] at H; exact H
        clear H
        have H := H1
        clear H1
        replace H := Option.bind_eq_some_iff.mp H
        obtain ⟨t234, A170, H⟩ := H
        replace H : (some t234) = some r := H
        have A17 := Aside0.mk A170
        clear A170
        obtain rfl := Option.some.inj H
        go_wp2_with (first | ((with_reducible refine gate_callee (f := 9) rfl ?_); refine goesL_ (some 37) rfl rfl Try.func9 (by kernel_rfl) rfl #[] rfl (by (try simp only [List.map_toArray, List.map_cons, List.map_nil]); first | done | rfl | (simp only [List.length_drop, List.length_take]; rfl)) ?_; (with_reducible refine (debuggerlaw34_awake.calls kj7  t234 _ A17.out).mono ?_); rintro e w18 ⟨rfl, hb⟩; refine ⟨_, rfl, ?_⟩; have n0_ := Aside0.mk (Kd.V_below (by (with_reducible repeat (first | apply Kd.V_alloc | apply Kd.V_drewN | apply Kd.V_drew)); exact HO_0.out) hb); have n1_ := Aside0.mk (Kd.V_below (by (with_reducible repeat (first | apply Kd.V_alloc | apply Kd.V_drewN | apply Kd.V_drew)); exact HO_233000.out) hb); have n2_ := Aside0.mk (blk_below (g := gb232) (o := .cells #[.slice A1_0 l1_0.length c1_0, .int .i64 a1_1, .int .i64 a1_2] 25 (0, 0)) (by (with_reducible repeat (first | refine blk_drewN ?_ _ | refine blk_drew ?_ | refine blk_alloc ?_ _)); exact BK232.out) hb); have n3_ := Aside0.mk (below_step (by repeat (first | (with_reducible first | exact HB.out | apply below_alloc | apply pw_below_drewN | apply below_drew1 | refine below_set ?_ GE232.out) | exact HB.out)) hb); clear HO_0; clear HO_233000; clear BK232; clear HB; have HO_0 := n0_; have HO_233000 := n1_; have BK232 := n2_; have HB := n3_; clear n0_ n1_ n2_ n3_; (try clear hb); (try clear hb2); (try clear hk); (try clear hi)))
        go_ret
        exact ⟨by first | rfl | (simp [errW_none, errW_some] <;> rfl) | (simp [*, errW_none, errW_some] <;> rfl), by repeat (first | (with_reducible first | exact HB.out | apply below_alloc | apply pw_below_drewN | apply below_drew1 | refine below_set ?_ GE232.out) | exact HB.out)⟩
      · replace c16 := Bool.eq_false_iff.mpr c16
        subst c16
        have H1 : ((debuggerkit_Mod.f a6 1073741824).bind fun t235 => ((debuggerkit_Mod.f a5 (wrap64 ((l3.length : Int) + 3))).bind fun t237 => (debuggerlaw34_LinkSends.j1 kj7 l0 l2 l3 a4 t235 l1_0 a1_1 a1_2 l1_0 (wrap64 (t237 - 2)) a1_2))) = some r := by rw [if_neg (show ¬ (false = true) by decide)] at H; exact H
        clear H
        have H := H1
        clear H1
        replace H := Option.bind_eq_some_iff.mp H
        obtain ⟨t235, A190, H⟩ := H
        replace H : ((debuggerkit_Mod.f a5 (wrap64 ((l3.length : Int) + 3))).bind fun t237 => (debuggerlaw34_LinkSends.j1 kj7 l0 l2 l3 a4 t235 l1_0 a1_1 a1_2 l1_0 (wrap64 (t237 - 2)) a1_2)) = some r := H
        have A19 := Aside0.mk A190
        clear A190
        have HC20 := Aside0.mk H
        clear H
        go_upto_region 5 with (first | ((with_reducible refine gate_callee (f := 10) rfl ?_); refine goesL_ (some 39) rfl rfl Try.func10 (by kernel_rfl) rfl #[.int .i64 a6, .int .i64 1073741824] rfl (by (try simp only [List.map_toArray, List.map_cons, List.map_nil]); first | done | rfl | (simp only [List.length_drop, List.length_take]; rfl)) ?_; (with_reducible refine (debuggerkit_Mod.calls a6 1073741824 t235 _ A19.out).mono ?_); rintro e w' ⟨rfl, ⟨nd, rfl⟩⟩; refine ⟨_, rfl, ?_⟩; (try (rw [drewN_self wc]; generalize hq_ : World.drewN wc _ = wc; have n0_ : Aside0 (Kd.V k37 37 wc w.heap.size (fun k_ => ((P0_ k_ ∨ P1_0_ k_) ∨ w.heap.size ≤ k_) ∧ k_ ≠ gb232) (.slice A0 l0.length c0) l0) := ⟨by rw [← hq_]; exact (by (with_reducible repeat (first | apply Kd.V_alloc | apply Kd.V_drewN | apply Kd.V_drew)); exact HO_0.out)⟩; have n1_ : Aside0 (Kd.V (Kd.int .i64) 3 wc w.heap.size (fun k_ => ((P0_ k_ ∨ P1_0_ k_) ∨ w.heap.size ≤ k_) ∧ k_ ≠ gb232) (.slice A1_0 l1_0.length c1_0) l1_0) := ⟨by rw [← hq_]; exact (by (with_reducible repeat (first | apply Kd.V_alloc | apply Kd.V_drewN | apply Kd.V_drew)); exact HO_233000.out)⟩; have n2_ : Aside0 (wc.heap[gb232]? = some (.cells #[.slice A1_0 l1_0.length c1_0, .int .i64 a1_1, .int .i64 a1_2] 25 (0, 0))) := ⟨by rw [← hq_]; exact (by (with_reducible repeat (first | refine blk_drewN ?_ _ | refine blk_drew ?_ | refine blk_alloc ?_ _)); exact BK232.out)⟩; have n3_ : Aside0 (Below w.heap.size w wc) := ⟨by rw [← hq_]; exact (by repeat (first | (with_reducible first | exact HB.out | apply below_alloc | apply pw_below_drewN | apply below_drew1 | refine below_set ?_ GE232.out) | exact HB.out))⟩; clear HO_0 HO_233000 BK232 HB hq_; have HO_0 := n0_; have HO_233000 := n1_; have BK232 := n2_; have HB := n3_; clear n0_ n1_ n2_ n3_)); have hcz21_0 : wc.cell? ⟨gb232, 0, none⟩ = some (.slice A1_0 l1_0.length c1_0) := (blk_cell BK232.out 0).trans rfl; have hcz21_1 : wc.cell? ⟨gb232, 1, none⟩ = some (.int .i64 a1_1) := (blk_cell BK232.out 1).trans rfl; have hcz21_2 : wc.cell? ⟨gb232, 2, none⟩ = some (.int .i64 a1_2) := (blk_cell BK232.out 2).trans rfl; have hfz21_0 := blk_frozen BK232.out 0; have hfz21_1 := blk_frozen BK232.out 1; have hfz21_2 := blk_frozen BK232.out 2) | ((with_reducible refine gate_dst (N := 15) rfl ?_); (try (refine gate_guard (by rfl) ?_; dsimp only)); refine box_event ?hg (N := 15) ?hd (cs := #[.slice none 0 0, .int .i64 0, .int .i64 0]) (t := 25) ?hr ?_; (case hd => rfl); (case hg => rfl); (case hr => first | (go_simp; done) | (go_simp; rfl)); intro gb236 hg w22 hbox hb; have n0_ := Aside0.mk (Kd.V_below (Kd.V_elderB (by (with_reducible repeat (first | apply Kd.V_alloc | apply Kd.V_drewN | apply Kd.V_drew)); exact HO_0.out) gb236 (Nat.le_of_eq hg.symm)) hb); have n1_ := Aside0.mk (Kd.V_below (Kd.V_elderB (by (with_reducible repeat (first | apply Kd.V_alloc | apply Kd.V_drewN | apply Kd.V_drew)); exact HO_233000.out) gb236 (Nat.le_of_eq hg.symm)) hb); have n2_ := Aside0.mk (blk_below (g := gb232) (o := .cells #[.slice A1_0 l1_0.length c1_0, .int .i64 a1_1, .int .i64 a1_2] 25 (0, 0)) (by (with_reducible repeat (first | refine blk_drewN ?_ _ | refine blk_drew ?_ | refine blk_alloc ?_ _)); exact BK232.out) hb); have n3_ := Aside0.mk (below_step (by repeat (first | (with_reducible first | exact HB.out | apply below_alloc | apply pw_below_drewN | apply below_drew1 | refine below_set ?_ GE232.out) | exact HB.out)) hb); have n4_ := Aside0.mk (hbox); have n5_ := Aside0.mk ((by rw [hg]; exact (below_size (by repeat (first | (with_reducible first | exact HB.out | apply below_alloc | apply pw_below_drewN | apply below_drew1 | refine below_set ?_ GE232.out) | exact HB.out))) : w.heap.size ≤ gb236)); have n6_ := Aside0.mk ((by rw [hg]; exact (below_size (by repeat (first | (with_reducible first | exact HB.out | apply below_alloc | apply pw_below_drewN | apply below_drew1 | refine below_set ?_ GE232.out) | exact HB.out))) : w.heap.size ≤ gb236)); have n7_ := Aside0.mk ((by rw [hg]; exact Nat.ne_of_lt (blk_lt (g := gb232) (o := .cells #[.slice A1_0 l1_0.length c1_0, .int .i64 a1_1, .int .i64 a1_2] 25 (0, 0)) (by (with_reducible repeat (first | refine blk_drewN ?_ _ | refine blk_drew ?_ | refine blk_alloc ?_ _)); exact BK232.out)) : gb232 ≠ gb236)); have n8_ := Aside0.mk ((by rw [hg]; exact Nat.ne_of_gt (blk_lt (g := gb232) (o := .cells #[.slice A1_0 l1_0.length c1_0, .int .i64 a1_1, .int .i64 a1_2] 25 (0, 0)) (by (with_reducible repeat (first | refine blk_drewN ?_ _ | refine blk_drew ?_ | refine blk_alloc ?_ _)); exact BK232.out)) : gb236 ≠ gb232)); clear HO_0; clear HO_233000; clear BK232; clear HB; have HO_0 := n0_; have HO_233000 := n1_; have BK232 := n2_; have HB := n3_; have BK236 := n4_; have GW236 := n5_; have GE236 := n6_; have NB232_236 := n7_; have NB236_232 := n8_; clear n0_ n1_ n2_ n3_ n4_ n5_ n6_ n7_ n8_; clear hb hbox hg; have hnb23 := NB236_232.out; have hnc23 := NB232_236.out; have hcz24_0 : w22.cell? ⟨gb236, 0, none⟩ = some (.slice none 0 0) := (blk_cell BK236.out 0).trans rfl; have hcz24_1 : w22.cell? ⟨gb236, 1, none⟩ = some (.int .i64 0) := (blk_cell BK236.out 1).trans rfl; have hcz24_2 : w22.cell? ⟨gb236, 2, none⟩ = some (.int .i64 0) := (blk_cell BK236.out 2).trans rfl; have hfz24_0 := blk_frozen BK236.out 0; have hfz24_1 := blk_frozen BK236.out 1; have hfz24_2 := blk_frozen BK236.out 2))
        (try simp only [Act.put, List.setIfInBounds_toArray, List.set_cons_zero, List.set_cons_succ])
        go_cut [] (fun wc => ∃ (kq : Nat) (x237001_19 : Int), Aside0 (debuggerlaw34_LinkSends.j1 kq l0 l2 l3 a4 t235 l1_0 a1_1 a1_2 l1_0 x237001_19 a1_2 = some r) ∧ Aside0 (kq ≤ kj7) ∧ Aside0 (Kd.V k37 37 wc w.heap.size (fun k_ => ((P0_ k_ ∨ P1_0_ k_) ∨ w.heap.size ≤ k_) ∧ k_ ≠ gb232 ∧ k_ ≠ gb236) (.slice A0 l0.length c0) l0) ∧ Aside0 (Kd.V (Kd.int .i64) 3 wc w.heap.size (fun k_ => ((P0_ k_ ∨ P1_0_ k_) ∨ w.heap.size ≤ k_) ∧ k_ ≠ gb232 ∧ k_ ≠ gb236) (.slice A1_0 l1_0.length c1_0) l1_0) ∧ Aside0 (Kd.V (Kd.int .i64) 3 wc w.heap.size (fun k_ => ((P0_ k_ ∨ P1_0_ k_) ∨ w.heap.size ≤ k_) ∧ k_ ≠ gb232 ∧ k_ ≠ gb236) (.slice A1_0 l1_0.length c1_0) l1_0) ∧ Aside0 (wc.heap[gb232]? = some (.cells #[(.slice A1_0 l1_0.length c1_0), .int .i64 a1_1, .int .i64 a1_2] 25 (0, 0))) ∧ Aside0 (wc.heap[gb236]? = some (.cells #[(.slice A1_0 l1_0.length c1_0), .int .i64 x237001_19, .int .i64 a1_2] 25 (0, 0))) ∧ Aside0 (Below w.heap.size w wc))
        case first =>
          have H := HC20.out
          clear HC20
          replace H := Option.bind_eq_some_iff.mp H
          obtain ⟨t237, A250, H⟩ := H
          replace H : (debuggerlaw34_LinkSends.j1 kj7 l0 l2 l3 a4 t235 l1_0 a1_1 a1_2 l1_0 (wrap64 (t237 - 2)) a1_2) = some r := H
          have A25 := Aside0.mk A250
          clear A250
          have H' := Aside0.mk H
          clear H
          go_wp2_with (first | ((with_reducible refine gate_callee (f := 10) rfl ?_); refine goesL_ (some 45) rfl rfl Try.func10 (by kernel_rfl) rfl #[.int .i64 a5, .int .i64 (wrap64 ((l3.length : Int) + 3))] rfl (by (try simp only [List.map_toArray, List.map_cons, List.map_nil]); first | done | rfl | (simp only [List.length_drop, List.length_take]; rfl)) ?_; (with_reducible refine (debuggerkit_Mod.calls a5 (wrap64 ((l3.length : Int) + 3)) t237 _ A25.out).mono ?_); rintro e w' ⟨rfl, ⟨nd, rfl⟩⟩; refine ⟨_, rfl, ?_⟩; have hnb26 := NB236_232.out; have hnc26 := NB232_236.out; have hcz27_0 : w22.cell? ⟨gb236, 0, none⟩ = some (.slice none 0 0) := (blk_cell BK236.out 0).trans rfl; have hcz27_1 : w22.cell? ⟨gb236, 1, none⟩ = some (.int .i64 0) := (blk_cell BK236.out 1).trans rfl; have hcz27_2 : w22.cell? ⟨gb236, 2, none⟩ = some (.int .i64 0) := (blk_cell BK236.out 2).trans rfl; have hfz27_0 := blk_frozen BK236.out 0; have hfz27_1 := blk_frozen BK236.out 1; have hfz27_2 := blk_frozen BK236.out 2))
          go_meet
          case rel => exact ⟨_, (wrap64 (t237 - 2)), H', ⟨by have := HJ7.out; first | omega | exact Nat.le_refl _⟩, ⟨by (with_reducible repeat (first | apply Kd.V_alloc | apply Kd.V_drewN | apply Kd.V_drew)); exact Kd.V_mono (Kd.V_far (p := ⟨gb236, 1, none⟩) (Kd.V_far (p := ⟨gb236, 2, none⟩) (Kd.V_far (p := ⟨gb236, 1, none⟩) (Kd.V_far (p := ⟨gb236, 0, none⟩) (Kd.V_mono HO_0.out (fun k_ hk => (⟨hk, hk.2⟩ : _ ∧ k_ ≠ gb236))) (fun _ hk => hk.2) (.slice A1_0 l1_0.length c1_0)) (fun _ hk => hk.2) (.int .i64 a1_1)) (fun _ hk => hk.2) (.int .i64 a1_2)) (fun _ hk => hk.2) (.int .i64 (wrap64 (t237 - 2)))) (fun _ hk => ⟨hk.1.1.1, ⟨hk.1.1.2, hk.1.2⟩⟩)⟩, ⟨by (with_reducible repeat (first | apply Kd.V_alloc | apply Kd.V_drewN | apply Kd.V_drew)); exact Kd.V_mono (Kd.V_far (p := ⟨gb236, 1, none⟩) (Kd.V_far (p := ⟨gb236, 2, none⟩) (Kd.V_far (p := ⟨gb236, 1, none⟩) (Kd.V_far (p := ⟨gb236, 0, none⟩) (Kd.V_mono HO_233000.out (fun k_ hk => (⟨hk, hk.2⟩ : _ ∧ k_ ≠ gb236))) (fun _ hk => hk.2) (.slice A1_0 l1_0.length c1_0)) (fun _ hk => hk.2) (.int .i64 a1_1)) (fun _ hk => hk.2) (.int .i64 a1_2)) (fun _ hk => hk.2) (.int .i64 (wrap64 (t237 - 2)))) (fun _ hk => ⟨hk.1.1.1, ⟨hk.1.1.2, hk.1.2⟩⟩)⟩, ⟨by (with_reducible repeat (first | apply Kd.V_alloc | apply Kd.V_drewN | apply Kd.V_drew)); exact Kd.V_mono (Kd.V_far (p := ⟨gb236, 1, none⟩) (Kd.V_far (p := ⟨gb236, 2, none⟩) (Kd.V_far (p := ⟨gb236, 1, none⟩) (Kd.V_far (p := ⟨gb236, 0, none⟩) (Kd.V_mono HO_233000.out (fun k_ hk => (⟨hk, hk.2⟩ : _ ∧ k_ ≠ gb236))) (fun _ hk => hk.2) (.slice A1_0 l1_0.length c1_0)) (fun _ hk => hk.2) (.int .i64 a1_1)) (fun _ hk => hk.2) (.int .i64 a1_2)) (fun _ hk => hk.2) (.int .i64 (wrap64 (t237 - 2)))) (fun _ hk => ⟨hk.1.1.1, ⟨hk.1.1.2, hk.1.2⟩⟩)⟩, ⟨by (with_reducible repeat (first | refine blk_drewN ?_ _ | refine blk_drew ?_ | refine blk_alloc ?_ _)); refine blk_far ?_ NB232_236.out _; (with_reducible repeat (first | refine blk_drewN ?_ _ | refine blk_drew ?_ | refine blk_alloc ?_ _)); refine blk_far ?_ NB232_236.out _; (with_reducible repeat (first | refine blk_drewN ?_ _ | refine blk_drew ?_ | refine blk_alloc ?_ _)); refine blk_far ?_ NB232_236.out _; (with_reducible repeat (first | refine blk_drewN ?_ _ | refine blk_drew ?_ | refine blk_alloc ?_ _)); refine blk_far ?_ NB232_236.out _; (with_reducible repeat (first | refine blk_drewN ?_ _ | refine blk_drew ?_ | refine blk_alloc ?_ _)); exact BK232.out⟩, ⟨by (with_reducible repeat (first | refine blk_drewN ?_ _ | refine blk_drew ?_ | refine blk_alloc ?_ _)); refine blk_put (cs := #[.slice A1_0 l1_0.length c1_0, .int .i64 a1_1, .int .i64 a1_2]) ?_ 1 _ rfl; (with_reducible repeat (first | refine blk_drewN ?_ _ | refine blk_drew ?_ | refine blk_alloc ?_ _)); refine blk_put (cs := #[.slice A1_0 l1_0.length c1_0, .int .i64 a1_1, .int .i64 0]) ?_ 2 _ rfl; (with_reducible repeat (first | refine blk_drewN ?_ _ | refine blk_drew ?_ | refine blk_alloc ?_ _)); refine blk_put (cs := #[.slice A1_0 l1_0.length c1_0, .int .i64 0, .int .i64 0]) ?_ 1 _ rfl; (with_reducible repeat (first | refine blk_drewN ?_ _ | refine blk_drew ?_ | refine blk_alloc ?_ _)); refine blk_put (cs := #[.slice none 0 0, .int .i64 0, .int .i64 0]) ?_ 0 _ rfl; (with_reducible repeat (first | refine blk_drewN ?_ _ | refine blk_drew ?_ | refine blk_alloc ?_ _)); exact BK236.out⟩, ⟨by repeat (first | (with_reducible first | exact HB.out | apply below_alloc | apply pw_below_drewN | apply below_drew1 | refine below_set ?_ GE232.out | refine below_set ?_ GE236.out) | exact HB.out)⟩⟩
        case rest =>
          clear HC20
          try clear c1
          try clear c2
          try clear p2
          try clear c3
          try clear p6
          try clear c8
          try clear c9
          try clear c10
          try clear c11
          try clear c12
          try clear c12b0
          try clear c12b1
          try clear c13
          try clear c13b0
          try clear c13b1
          try clear c16
          try clear c23
          try clear c26
          try clear hcz14_0
          try clear hcz14_1
          try clear hcz14_2
          try clear hcz15_0
          try clear hcz15_1
          try clear hcz15_2
          try clear hcz21_0
          try clear hcz21_1
          try clear hcz21_2
          try clear hcz24_0
          try clear hcz24_1
          try clear hcz24_2
          try clear hcz27_0
          try clear hcz27_1
          try clear hcz27_2
          try clear hfz14_0
          try clear hfz14_1
          try clear hfz14_2
          try clear hfz15_0
          try clear hfz15_1
          try clear hfz15_2
          try clear hfz21_0
          try clear hfz21_1
          try clear hfz21_2
          try clear hfz24_0
          try clear hfz24_1
          try clear hfz24_2
          try clear hfz27_0
          try clear hfz27_1
          try clear hfz27_2
          try clear p2
          obtain ⟨kq, x237001_19, HA, HJ19, HO_0, HO_233000, HO_237000, BK232, BK236, HB⟩ := hcut
          cases kq with
          | zero => exact absurd HA.out (by simp [debuggerlaw34_LinkSends.j1])
          | succ kj19 =>
            have H := HA.out
            clear HA
            simp only [debuggerlaw34_LinkSends.j1] at H
            obtain ⟨y238, hy238⟩ : ∃ y_ : List (S25), y_ = (([(⟨l1_0, a1_1, a1_2⟩ : S25), (⟨l1_0, x237001_19, a1_2⟩ : S25)] : List (S25))) := ⟨_, rfl⟩
            replace H : (debuggerlaw34_LinkSends.l0 kj19 l0 l2 l3 a4 t235 y238 (y238.length : Int) 0) = some r := by first | (rw [hy238]; with_reducible exact H) | (have H2_ := (Option.bind_some _ _).symm.trans H; rw [hy238]; with_reducible exact H2_) | (have H2_ := (Option.bind_some _ _).symm.trans H; with_reducible exact H2_) | with_reducible exact H | (rw [hy238]; exact H) | exact H
            have Ny238 := Aside0.mk hy238
            clear hy238
            have H' := Aside0.mk H
            clear H
            have hnb28 := NB232_236.out
            have hnc28 := NB236_232.out
            have hcz29_0 : wc.cell? ⟨gb232, 0, none⟩ = some (.slice A1_0 l1_0.length c1_0) := (blk_cell BK232.out 0).trans rfl
            have hcz29_1 : wc.cell? ⟨gb232, 1, none⟩ = some (.int .i64 a1_1) := (blk_cell BK232.out 1).trans rfl
            have hcz29_2 : wc.cell? ⟨gb232, 2, none⟩ = some (.int .i64 a1_2) := (blk_cell BK232.out 2).trans rfl
            have hfz29_0 := blk_frozen BK232.out 0
            have hfz29_1 := blk_frozen BK232.out 1
            have hfz29_2 := blk_frozen BK232.out 2
            have hcz30_0 : wc.cell? ⟨gb236, 0, none⟩ = some (.slice A1_0 l1_0.length c1_0) := (blk_cell BK236.out 0).trans rfl
            have hcz30_1 : wc.cell? ⟨gb236, 1, none⟩ = some (.int .i64 x237001_19) := (blk_cell BK236.out 1).trans rfl
            have hcz30_2 : wc.cell? ⟨gb236, 2, none⟩ = some (.int .i64 a1_2) := (blk_cell BK236.out 2).trans rfl
            have hfz30_0 := blk_frozen BK236.out 0
            have hfz30_1 := blk_frozen BK236.out 1
            have hfz30_2 := blk_frozen BK236.out 2
            go_wp2_with (first | ((with_reducible refine gate_dst (N := 50) rfl ?_); (try (refine gate_guard (by rfl) ?_; dsimp only)); refine Kd.N_lit k25 _ 25 ?hg (N' := 50) ?hd (xs := ([(⟨l1_0, a1_1, a1_2⟩ : S25), (⟨l1_0, x237001_19, a1_2⟩ : S25)] : List (S25))) (inner := [.slice A1_0 l1_0.length c1_0, .int .i64 a1_1, .int .i64 a1_2, .slice A1_0 l1_0.length c1_0, .int .i64 x237001_19, .int .i64 a1_2]) (ok := (fun k_ => ((P0_ k_ ∨ P1_0_ k_) ∨ w.heap.size ≤ k_) ∧ k_ ≠ gb232 ∧ k_ ≠ gb236)) (okp := (fun k_ => ((P0_ k_ ∨ P1_0_ k_) ∨ w.heap.size ≤ k_) ∧ k_ ≠ gb232 ∧ k_ ≠ gb236)) ?hr ?hp (fun _ hk => hk) ((show ∀ k_, wc.heap.size ≤ k_ → (fun k_ => ((P0_ k_ ∨ P1_0_ k_) ∨ w.heap.size ≤ k_) ∧ k_ ≠ gb232 ∧ k_ ≠ gb236) k_ from fun k_ hk => ⟨(.inr (Nat.le_trans (below_size (by repeat (first | (with_reducible first | exact HB.out | apply below_alloc | apply pw_below_drewN | apply below_drew1 | refine below_set ?_ GE232.out | refine below_set ?_ GE236.out) | exact HB.out))) hk)), Kd.freshB (g := gb232) (o := .cells #[.slice A1_0 l1_0.length c1_0, .int .i64 a1_1, .int .i64 a1_2] 25 (0, 0)) (by (with_reducible repeat (first | refine blk_drewN ?_ _ | refine blk_drew ?_ | refine blk_alloc ?_ _)); exact BK232.out) k_ hk, Kd.freshB (g := gb236) (o := .cells #[.slice A1_0 l1_0.length c1_0, .int .i64 x237001_19, .int .i64 a1_2] 25 (0, 0)) (by (with_reducible repeat (first | refine blk_drewN ?_ _ | refine blk_drew ?_ | refine blk_alloc ?_ _)); exact BK236.out) k_ hk⟩) _ (Nat.le_refl _)) (Below.refl _ _) (Nat.le_refl _) (by simp) ?_; (case hd => rfl); (case hg => rfl); (case hr => first | (go_simp; done) | (go_simp; rfl)); (case hp => exact (Reps.c3 (show Kd.FK k25 _ _ (⟨l1_0, a1_1, a1_2⟩ : S25) [.slice A1_0 l1_0.length c1_0, .int .i64 a1_1, .int .i64 a1_2] from (k25_mkF _ _ (⟨l1_0, a1_1, a1_2⟩ : S25) (Kd.V_reads' (Kd.V_mono (ok' := (fun k_ => ((P0_ k_ ∨ P1_0_ k_) ∨ w.heap.size ≤ k_) ∧ k_ ≠ gb232 ∧ k_ ≠ gb236)) (HO_233000.out) (fun k_ hk => ⟨hk.1, ⟨hk.2.1, hk.2.2⟩⟩))).2.1 (Kd.V_F (Kd.V_mono (ok' := (fun k_ => ((P0_ k_ ∨ P1_0_ k_) ∨ w.heap.size ≤ k_) ∧ k_ ≠ gb232 ∧ k_ ≠ gb236)) (HO_233000.out) (fun k_ hk => ⟨hk.1, ⟨hk.2.1, hk.2.2⟩⟩))))) (Reps.c3 (show Kd.FK k25 _ _ (⟨l1_0, x237001_19, a1_2⟩ : S25) [.slice A1_0 l1_0.length c1_0, .int .i64 x237001_19, .int .i64 a1_2] from (k25_mkF _ _ (⟨l1_0, x237001_19, a1_2⟩ : S25) (Kd.V_reads' (Kd.V_mono (ok' := (fun k_ => ((P0_ k_ ∨ P1_0_ k_) ∨ w.heap.size ≤ k_) ∧ k_ ≠ gb232 ∧ k_ ≠ gb236)) (HO_237000.out) (fun k_ hk => ⟨hk.1, ⟨hk.2.1, hk.2.2⟩⟩))).2.1 (Kd.V_F (Kd.V_mono (ok' := (fun k_ => ((P0_ k_ ∨ P1_0_ k_) ∨ w.heap.size ≤ k_) ∧ k_ ≠ gb232 ∧ k_ ≠ gb236)) (HO_237000.out) (fun k_ hk => ⟨hk.1, ⟨hk.2.1, hk.2.2⟩⟩))))) (Reps.none _ _)))); intro v239 w31 ho32 hb hg_ hnew_; clear hg_ hnew_; (first | rw [← Ny238.out] at ho32 | (simp only [Int.reduceToNat] at ho32; rw [← Ny238.out] at ho32)); have n0_ := Aside0.mk (Kd.V_elder' (by (with_reducible repeat (first | apply Kd.V_alloc | apply Kd.V_drewN | apply Kd.V_drew)); exact HO_0.out) (by first | (with_reducible exact Kd.N_base ho32) | (with_reducible exact Kd.S_base ho32) | (with_reducible exact Kd.R_base ho32) | exact Kd.N_base ho32) hb); have n1_ := Aside0.mk (Kd.V_elder' (by (with_reducible repeat (first | apply Kd.V_alloc | apply Kd.V_drewN | apply Kd.V_drew)); exact HO_233000.out) (by first | (with_reducible exact Kd.N_base ho32) | (with_reducible exact Kd.S_base ho32) | (with_reducible exact Kd.R_base ho32) | exact Kd.N_base ho32) hb); have n2_ := Aside0.mk (Kd.V_elder' (by (with_reducible repeat (first | apply Kd.V_alloc | apply Kd.V_drewN | apply Kd.V_drew)); exact HO_237000.out) (by first | (with_reducible exact Kd.N_base ho32) | (with_reducible exact Kd.S_base ho32) | (with_reducible exact Kd.R_base ho32) | exact Kd.N_base ho32) hb); have n3_ := Aside0.mk (Kd.N_lower ho32 (below_size (by repeat (first | (with_reducible first | exact HB.out | apply below_alloc | apply pw_below_drewN | apply below_drew1 | refine below_set ?_ GE232.out | refine below_set ?_ GE236.out) | exact HB.out)))); have n4_ := Aside0.mk (blk_below (g := gb232) (o := .cells #[.slice A1_0 l1_0.length c1_0, .int .i64 a1_1, .int .i64 a1_2] 25 (0, 0)) (by (with_reducible repeat (first | refine blk_drewN ?_ _ | refine blk_drew ?_ | refine blk_alloc ?_ _)); exact BK232.out) hb); have n5_ := Aside0.mk (blk_below (g := gb236) (o := .cells #[.slice A1_0 l1_0.length c1_0, .int .i64 x237001_19, .int .i64 a1_2] 25 (0, 0)) (by (with_reducible repeat (first | refine blk_drewN ?_ _ | refine blk_drew ?_ | refine blk_alloc ?_ _)); exact BK236.out) hb); have n6_ := Aside0.mk (below_step (by repeat (first | (with_reducible first | exact HB.out | apply below_alloc | apply pw_below_drewN | apply below_drew1 | refine below_set ?_ GE232.out | refine below_set ?_ GE236.out) | exact HB.out)) hb); clear HO_0; clear HO_233000; clear HO_237000; clear BK232; clear BK236; clear HB; have HO_0 := n0_; have HO_233000 := n1_; have HO_237000 := n2_; have HO240 := n3_; have BK232 := n4_; have BK236 := n5_; have HB := n6_; clear n0_ n1_ n2_ n3_ n4_ n5_ n6_; clear hb ho32; obtain ⟨Ao33, co33, eo33⟩ := Kd.N_slice HO240.out; subst eo33))
            go_loopg [52] kj19 (fun kq v52 w' => ∃ (x52_3 : Int), v52 = .int .i64 x52_3 ∧ Aside0 (debuggerlaw34_LinkSends.l0 kq l0 l2 l3 a4 t235 y238 (y238.length : Int) x52_3 = some r) ∧ Aside0 (kq ≤ kj19) ∧ Aside0 (Kd.V k37 37 w' w.heap.size (fun k_ => ((P0_ k_ ∨ P1_0_ k_) ∨ w.heap.size ≤ k_) ∧ some k_ ≠ ((.slice Ao33 y238.length co33) : Value).ownBlock ∧ k_ ≠ gb232 ∧ k_ ≠ gb236) (.slice A0 l0.length c0) l0) ∧ Aside0 (Kd.N k25 25 w' w.heap.size (fun k_ => ((P0_ k_ ∨ P1_0_ k_) ∨ w.heap.size ≤ k_) ∧ k_ ≠ gb232 ∧ k_ ≠ gb236) (.slice Ao33 y238.length co33) y238) ∧ Aside0 (Kd.V (Kd.int .i64) 3 w' w.heap.size (fun k_ => ((P0_ k_ ∨ P1_0_ k_) ∨ w.heap.size ≤ k_) ∧ some k_ ≠ ((.slice Ao33 y238.length co33) : Value).ownBlock ∧ k_ ≠ gb232 ∧ k_ ≠ gb236) (.slice A1_0 l1_0.length c1_0) l1_0) ∧ Aside0 (Kd.V (Kd.int .i64) 3 w' w.heap.size (fun k_ => ((P0_ k_ ∨ P1_0_ k_) ∨ w.heap.size ≤ k_) ∧ some k_ ≠ ((.slice Ao33 y238.length co33) : Value).ownBlock ∧ k_ ≠ gb232 ∧ k_ ≠ gb236) (.slice A1_0 l1_0.length c1_0) l1_0) ∧ Aside0 (w'.heap[gb232]? = some (.cells #[(.slice A1_0 l1_0.length c1_0), .int .i64 a1_1, .int .i64 a1_2] 25 (0, 0))) ∧ Aside0 (w'.heap[gb236]? = some (.cells #[(.slice A1_0 l1_0.length c1_0), .int .i64 x237001_19, .int .i64 a1_2] 25 (0, 0))) ∧ Aside0 (Below w.heap.size w w'))
            case atStart => exact ⟨(0), (by first | rfl | (simp; done) | (simp [*]; done)), H', ⟨Nat.le_refl _⟩, ⟨by (with_reducible repeat (first | apply Kd.V_alloc | apply Kd.V_drewN | apply Kd.V_drew)); exact Kd.V_mono HO_0.out (fun _ hk => ⟨hk.1.1, ⟨hk.2, ⟨hk.1.2.1, hk.1.2.2⟩⟩⟩)⟩, ⟨by (with_reducible repeat (first | apply Kd.N_alloc | apply Kd.N_drewN | apply Kd.N_drew)); exact HO240.out⟩, ⟨by (with_reducible repeat (first | apply Kd.V_alloc | apply Kd.V_drewN | apply Kd.V_drew)); exact Kd.V_mono HO_233000.out (fun _ hk => ⟨hk.1.1, ⟨hk.2, ⟨hk.1.2.1, hk.1.2.2⟩⟩⟩)⟩, ⟨by (with_reducible repeat (first | apply Kd.V_alloc | apply Kd.V_drewN | apply Kd.V_drew)); exact Kd.V_mono HO_237000.out (fun _ hk => ⟨hk.1.1, ⟨hk.2, ⟨hk.1.2.1, hk.1.2.2⟩⟩⟩)⟩, ⟨by (with_reducible repeat (first | refine blk_drewN ?_ _ | refine blk_drew ?_ | refine blk_alloc ?_ _)); exact BK232.out⟩, ⟨by (with_reducible repeat (first | refine blk_drewN ?_ _ | refine blk_drew ?_ | refine blk_alloc ?_ _)); exact BK236.out⟩, ⟨by repeat (first | (with_reducible first | exact HB.out | apply below_alloc | apply pw_below_drewN | apply below_drew1 | refine below_set ?_ GE232.out | refine below_set ?_ GE236.out) | exact HB.out)⟩⟩
            case round =>
              clear H'
              try clear c1
              try clear c2
              try clear p2
              try clear c3
              try clear p6
              try clear c8
              try clear c9
              try clear c10
              try clear c11
              try clear c12
              try clear c12b0
              try clear c12b1
              try clear c13
              try clear c13b0
              try clear c13b1
              try clear c16
              try clear c23
              try clear c26
              try clear c28
              try clear hcz14_0
              try clear hcz14_1
              try clear hcz14_2
              try clear hcz15_0
              try clear hcz15_1
              try clear hcz15_2
              try clear hcz21_0
              try clear hcz21_1
              try clear hcz21_2
              try clear hcz24_0
              try clear hcz24_1
              try clear hcz24_2
              try clear hcz27_0
              try clear hcz27_1
              try clear hcz27_2
              try clear hcz29_0
              try clear hcz29_1
              try clear hcz29_2
              try clear hcz30_0
              try clear hcz30_1
              try clear hcz30_2
              try clear hfz14_0
              try clear hfz14_1
              try clear hfz14_2
              try clear hfz15_0
              try clear hfz15_1
              try clear hfz15_2
              try clear hfz21_0
              try clear hfz21_1
              try clear hfz21_2
              try clear hfz24_0
              try clear hfz24_1
              try clear hfz24_2
              try clear hfz27_0
              try clear hfz27_1
              try clear hfz27_2
              try clear hfz29_0
              try clear hfz29_1
              try clear hfz29_2
              try clear hfz30_0
              try clear hfz30_1
              try clear hfz30_2
              try clear p2
              try clear p6
              obtain ⟨x52_3, rfl, HA, HK3, HO_0, HO_50, HO_233000, HO_237000, BK232, BK236, HB⟩ := hrel
              cases gk with
              | zero => exact absurd HA.out (by simp [debuggerlaw34_LinkSends.l0])
              | succ k3 =>
                have H := HA.out
                clear HA
                simp only [debuggerlaw34_LinkSends.l0] at H
                by_cases c34 : x52_3 < (y238.length : Int)
                · rw [if_pos c34] at H
                  have c34b0 : decide (x52_3 < (y238.length : Int)) = true := decide_eq_true c34
                  clear c34
                  by_cases c35 : 0 ≤ x52_3
                  · rw [if_pos c35] at H
                    have c35b0 : decide (0 ≤ x52_3) = true := decide_eq_true c35
                    clear c35
                    by_cases c36 : x52_3 < (y238.length : Int)
                    · rw [if_pos c36] at H
                      have c36b0 : decide (x52_3 < (y238.length : Int)) = true := decide_eq_true c36
                      clear c36
                      replace H := Option.bind_eq_some_iff.mp H
                      obtain ⟨t243, A370, H⟩ := H
                      replace H : ((debuggerref34_Send.f k3 l0 ((rd_T25 y238 x52_3).f0) ((rd_T25 y238 x52_3).f1) ((rd_T25 y238 x52_3).f2) l3 t235).bind fun t246 => ((debuggerref34_Same.f k3 t243 t246).bind fun t249 => (if t249 = true then (debuggerlaw34_LinkSends.l0 k3 l0 l2 l3 a4 t235 y238 (y238.length : Int) (wrap64 (x52_3 + 1))) else (some false)))) = some r := H
                      have A37 := Aside0.mk A370
                      clear A370
                      replace H := Option.bind_eq_some_iff.mp H
                      obtain ⟨t246, A380, H⟩ := H
                      replace H : ((debuggerref34_Same.f k3 t243 t246).bind fun t249 => (if t249 = true then (debuggerlaw34_LinkSends.l0 k3 l0 l2 l3 a4 t235 y238 (y238.length : Int) (wrap64 (x52_3 + 1))) else (some false))) = some r := H
                      have A38 := Aside0.mk A380
                      clear A380
                      replace H := Option.bind_eq_some_iff.mp H
                      obtain ⟨t249, A390, H⟩ := H
                      replace H : (if t249 = true then (debuggerlaw34_LinkSends.l0 k3 l0 l2 l3 a4 t235 y238 (y238.length : Int) (wrap64 (x52_3 + 1))) else (some false)) = some r := H
                      have A39 := Aside0.mk A390
                      clear A390
                      by_cases c40 : t249 = true
                      · subst c40
                        have H1 : (debuggerlaw34_LinkSends.l0 k3 l0 l2 l3 a4 t235 y238 (y238.length : Int) (wrap64 (x52_3 + 1))) = some r := by rw [if_pos rfl] at H; exact H
                        clear H
                        have H := H1
                        clear H1
                        have H' := Aside0.mk H
                        clear H
                        have p241 : 0 ≤ (x52_3 : Int) := of_decide_eq_true (by first | (with_reducible assumption) | assumption)
                        have q241 : x52_3 < (y238.length : Int) := of_decide_eq_true (by first | (with_reducible assumption) | assumption)
                        obtain ⟨ad241, A241_0, c241_0, e241, hx241_0, hx241_1, hx241_2, hl241_0, hi241_0⟩ := at_T25 (Kd.N_reads' HO_50.out).2.2 x52_3 p241 q241
                        cases e241
                        obtain ⟨ce241, hce241, hMe241, hcc241⟩ := Kd.N_get HO_50.out z25 x52_3 p241 (by first | exact q241 | exact of_decide_eq_true (by first | (with_reducible assumption) | assumption) | (have e_ := (Kd.N_reads' HO_50.out).1; omega))
                        obtain ⟨ua241_0, uc241_0, rfl, ul241_0, ge241_0⟩ := k25_openF hMe241
                        have hv241_0 := hcc241 0 _ rfl
                        rw [Nat.add_zero] at hv241_0
                        replace hv241_0 := Option.some.inj (hv241_0.symm.trans hx241_0)
                        injection hv241_0 with hva_ hvn_ hvc_
                        rw [hva_] at ge241_0
                        rw [hvc_] at ul241_0
                        have HL241_0 := Aside0.mk (show Kd.V (Kd.int .i64) 3 _ w.heap.size _ _ ((rd_T25 y238 x52_3).f0) from Kd.V_mk ul241_0 ge241_0)
                        clear hva_ hvn_ hvc_ ge241_0 ul241_0
                        clear hcc241 hce241
                        have HR241_0 := Aside0.mk hi241_0
                        have HC241_0 := Aside0.mk hl241_0
                        clear hi241_0 hl241_0
                        replace p241 := eq_true p241
                        replace q241 := eq_true q241
                        try go_wp2_with (first | ((with_reducible refine gate_dst (N := 17) rfl ?_); (try (refine gate_guard (by rfl) ?_; dsimp only)); refine box_event ?hg (N := 17) ?hd (cs := #[.slice none 0 0, .int .i64 0, .int .i64 0]) (t := 25) ?hr ?_; (case hd => rfl); (case hg => rfl); (case hr => first | (go_simp; done) | (go_simp; rfl)); intro gb242 hg w41 hbox hb; have n0_ := Aside0.mk (Kd.V_below (Kd.V_elderB (by (with_reducible repeat (first | apply Kd.V_alloc | apply Kd.V_drewN | apply Kd.V_drew)); exact HO_0.out) gb242 (Nat.le_of_eq hg.symm)) hb); have n1_ := Aside0.mk (Kd.N_below (Kd.N_elderB (by (with_reducible repeat (first | apply Kd.N_alloc | apply Kd.N_drewN | apply Kd.N_drew)); exact HO_50.out) gb242 (Nat.le_of_eq hg.symm)) hb); have n2_ := Aside0.mk (Kd.V_below (Kd.V_elderB (by (with_reducible repeat (first | apply Kd.V_alloc | apply Kd.V_drewN | apply Kd.V_drew)); exact HO_233000.out) gb242 (Nat.le_of_eq hg.symm)) hb); have n3_ := Aside0.mk (Kd.V_below (Kd.V_elderB (by (with_reducible repeat (first | apply Kd.V_alloc | apply Kd.V_drewN | apply Kd.V_drew)); exact HO_237000.out) gb242 (Nat.le_of_eq hg.symm)) hb); have n4_ := Aside0.mk (Kd.V_below (Kd.V_elderB (by (with_reducible repeat (first | apply Kd.V_alloc | apply Kd.V_drewN | apply Kd.V_drew)); exact HL241_0.out) gb242 (Nat.le_of_eq hg.symm)) hb); have n5_ := Aside0.mk (blk_below (g := gb232) (o := .cells #[.slice A1_0 l1_0.length c1_0, .int .i64 a1_1, .int .i64 a1_2] 25 (0, 0)) (by (with_reducible repeat (first | refine blk_drewN ?_ _ | refine blk_drew ?_ | refine blk_alloc ?_ _)); exact BK232.out) hb); have n6_ := Aside0.mk (blk_below (g := gb236) (o := .cells #[.slice A1_0 l1_0.length c1_0, .int .i64 x237001_19, .int .i64 a1_2] 25 (0, 0)) (by (with_reducible repeat (first | refine blk_drewN ?_ _ | refine blk_drew ?_ | refine blk_alloc ?_ _)); exact BK236.out) hb); have n7_ := Aside0.mk (Kd.C_below (by repeat (first | (with_reducible exact HR241_0.out) | (with_reducible refine Kd.C_alloc ?_ _) | (with_reducible refine Kd.C_drewN ?_ _) | (with_reducible refine Kd.C_drew ?_) | exact HR241_0.out)) hb); have n8_ := Aside0.mk (below_step (by repeat (first | (with_reducible first | exact HB.out | apply below_alloc | apply pw_below_drewN | apply below_drew1 | refine below_set ?_ GE232.out | refine below_set ?_ GE236.out) | exact HB.out)) hb); have n9_ := Aside0.mk (hbox); have n10_ := Aside0.mk ((by rw [hg]; exact (below_size (by repeat (first | (with_reducible first | exact HB.out | apply below_alloc | apply pw_below_drewN | apply below_drew1 | refine below_set ?_ GE232.out | refine below_set ?_ GE236.out) | exact HB.out))) : w.heap.size ≤ gb242)); have n11_ := Aside0.mk ((by rw [hg]; exact (below_size (by repeat (first | (with_reducible first | exact HB.out | apply below_alloc | apply pw_below_drewN | apply below_drew1 | refine below_set ?_ GE232.out | refine below_set ?_ GE236.out) | exact HB.out))) : w.heap.size ≤ gb242)); have n12_ := Aside0.mk ((by rw [hg]; exact Nat.ne_of_lt (blk_lt (g := gb232) (o := .cells #[.slice A1_0 l1_0.length c1_0, .int .i64 a1_1, .int .i64 a1_2] 25 (0, 0)) (by (with_reducible repeat (first | refine blk_drewN ?_ _ | refine blk_drew ?_ | refine blk_alloc ?_ _)); exact BK232.out)) : gb232 ≠ gb242)); have n13_ := Aside0.mk ((by rw [hg]; exact Nat.ne_of_gt (blk_lt (g := gb232) (o := .cells #[.slice A1_0 l1_0.length c1_0, .int .i64 a1_1, .int .i64 a1_2] 25 (0, 0)) (by (with_reducible repeat (first | refine blk_drewN ?_ _ | refine blk_drew ?_ | refine blk_alloc ?_ _)); exact BK232.out)) : gb242 ≠ gb232)); have n14_ := Aside0.mk ((by rw [hg]; exact Nat.ne_of_lt (blk_lt (g := gb236) (o := .cells #[.slice A1_0 l1_0.length c1_0, .int .i64 x237001_19, .int .i64 a1_2] 25 (0, 0)) (by (with_reducible repeat (first | refine blk_drewN ?_ _ | refine blk_drew ?_ | refine blk_alloc ?_ _)); exact BK236.out)) : gb236 ≠ gb242)); have n15_ := Aside0.mk ((by rw [hg]; exact Nat.ne_of_gt (blk_lt (g := gb236) (o := .cells #[.slice A1_0 l1_0.length c1_0, .int .i64 x237001_19, .int .i64 a1_2] 25 (0, 0)) (by (with_reducible repeat (first | refine blk_drewN ?_ _ | refine blk_drew ?_ | refine blk_alloc ?_ _)); exact BK236.out)) : gb242 ≠ gb236)); clear HO_0; clear HO_50; clear HO_233000; clear HO_237000; clear HL241_0; clear BK232; clear BK236; clear HR241_0; clear HB; have HO_0 := n0_; have HO_50 := n1_; have HO_233000 := n2_; have HO_237000 := n3_; have HL241_0 := n4_; have BK232 := n5_; have BK236 := n6_; have HR241_0 := n7_; have HB := n8_; have BK242 := n9_; have GW242 := n10_; have GE242 := n11_; have NB232_242 := n12_; have NB242_232 := n13_; have NB236_242 := n14_; have NB242_236 := n15_; clear n0_ n1_ n2_ n3_ n4_ n5_ n6_ n7_ n8_ n9_ n10_ n11_ n12_ n13_ n14_ n15_; clear hb hbox hg; have hnb42 := NB242_232.out; have hnc42 := NB232_242.out; have hnb43 := NB242_236.out; have hnc43 := NB236_242.out; have hcz44_0 : w41.cell? ⟨gb242, 0, none⟩ = some (.slice none 0 0) := (blk_cell BK242.out 0).trans rfl; have hcz44_1 : w41.cell? ⟨gb242, 1, none⟩ = some (.int .i64 0) := (blk_cell BK242.out 1).trans rfl; have hcz44_2 : w41.cell? ⟨gb242, 2, none⟩ = some (.int .i64 0) := (blk_cell BK242.out 2).trans rfl; have hfz44_0 := blk_frozen BK242.out 0; have hfz44_1 := blk_frozen BK242.out 1; have hfz44_2 := blk_frozen BK242.out 2))
                        have n0_ : Aside0 (Kd.V k37 37 (((w41.setCell ⟨gb242, 0, none⟩ (.slice A241_0 ((rd_T25 y238 x52_3).f0).length c241_0)).setCell ⟨gb242, 1, none⟩ (.int .i64 ((rd_T25 y238 x52_3).f1))).setCell ⟨gb242, 2, none⟩ (.int .i64 ((rd_T25 y238 x52_3).f2))) w.heap.size (fun k_ => ((P0_ k_ ∨ P1_0_ k_) ∨ w.heap.size ≤ k_) ∧ some k_ ≠ (.slice (some ad241) y238.length co33 : Value).ownBlock ∧ k_ ≠ gb232 ∧ k_ ≠ gb236 ∧ k_ ≠ gb242) (.slice A0 l0.length c0) l0) := ⟨by (with_reducible repeat (first | apply Kd.V_alloc | apply Kd.V_drewN | apply Kd.V_drew)); exact Kd.V_mono (Kd.V_far (p := ⟨gb242, 2, none⟩) (Kd.V_far (p := ⟨gb242, 1, none⟩) (Kd.V_far (p := ⟨gb242, 0, none⟩) (Kd.V_mono HO_0.out (fun k_ hk => (⟨hk, hk.2⟩ : _ ∧ k_ ≠ gb242))) (fun _ hk => hk.2) (.slice A241_0 ((rd_T25 y238 x52_3).f0).length c241_0)) (fun _ hk => hk.2) (.int .i64 ((rd_T25 y238 x52_3).f1))) (fun _ hk => hk.2) (.int .i64 ((rd_T25 y238 x52_3).f2))) (fun _ hk => ⟨hk.1.1.1, ⟨hk.1.1.2.1, ⟨hk.1.1.2.2.1, ⟨hk.1.1.2.2.2, hk.1.2⟩⟩⟩⟩)⟩
                        have n1_ : Aside0 (Kd.N k25 25 (((w41.setCell ⟨gb242, 0, none⟩ (.slice A241_0 ((rd_T25 y238 x52_3).f0).length c241_0)).setCell ⟨gb242, 1, none⟩ (.int .i64 ((rd_T25 y238 x52_3).f1))).setCell ⟨gb242, 2, none⟩ (.int .i64 ((rd_T25 y238 x52_3).f2))) w.heap.size (fun k_ => ((P0_ k_ ∨ P1_0_ k_) ∨ w.heap.size ≤ k_) ∧ k_ ≠ gb232 ∧ k_ ≠ gb236 ∧ k_ ≠ gb242) (.slice (some ad241) y238.length co33) y238) := ⟨by (with_reducible repeat (first | apply Kd.N_alloc | apply Kd.N_drewN | apply Kd.N_drew)); exact Kd.N_mono (Kd.N_far (p := ⟨gb242, 2, none⟩) (Kd.N_far (p := ⟨gb242, 1, none⟩) (Kd.N_far (p := ⟨gb242, 0, none⟩) (Kd.N_mono HO_50.out (fun k_ hk => (⟨hk, hk.2⟩ : _ ∧ k_ ≠ gb242))) (fun _ hk => hk.2) (.slice A241_0 ((rd_T25 y238 x52_3).f0).length c241_0)) (fun _ hk => hk.2) (.int .i64 ((rd_T25 y238 x52_3).f1))) (fun _ hk => hk.2) (.int .i64 ((rd_T25 y238 x52_3).f2))) (fun _ hk => ⟨hk.1.1.1, ⟨hk.1.1.2.1, ⟨hk.1.1.2.2, hk.1.2⟩⟩⟩)⟩
                        have n2_ : Aside0 (Kd.V (Kd.int .i64) 3 (((w41.setCell ⟨gb242, 0, none⟩ (.slice A241_0 ((rd_T25 y238 x52_3).f0).length c241_0)).setCell ⟨gb242, 1, none⟩ (.int .i64 ((rd_T25 y238 x52_3).f1))).setCell ⟨gb242, 2, none⟩ (.int .i64 ((rd_T25 y238 x52_3).f2))) w.heap.size (fun k_ => ((P0_ k_ ∨ P1_0_ k_) ∨ w.heap.size ≤ k_) ∧ some k_ ≠ (.slice (some ad241) y238.length co33 : Value).ownBlock ∧ k_ ≠ gb232 ∧ k_ ≠ gb236 ∧ k_ ≠ gb242) (.slice A1_0 l1_0.length c1_0) l1_0) := ⟨by (with_reducible repeat (first | apply Kd.V_alloc | apply Kd.V_drewN | apply Kd.V_drew)); exact Kd.V_mono (Kd.V_far (p := ⟨gb242, 2, none⟩) (Kd.V_far (p := ⟨gb242, 1, none⟩) (Kd.V_far (p := ⟨gb242, 0, none⟩) (Kd.V_mono HO_233000.out (fun k_ hk => (⟨hk, hk.2⟩ : _ ∧ k_ ≠ gb242))) (fun _ hk => hk.2) (.slice A241_0 ((rd_T25 y238 x52_3).f0).length c241_0)) (fun _ hk => hk.2) (.int .i64 ((rd_T25 y238 x52_3).f1))) (fun _ hk => hk.2) (.int .i64 ((rd_T25 y238 x52_3).f2))) (fun _ hk => ⟨hk.1.1.1, ⟨hk.1.1.2.1, ⟨hk.1.1.2.2.1, ⟨hk.1.1.2.2.2, hk.1.2⟩⟩⟩⟩)⟩
                        have n3_ : Aside0 (Kd.V (Kd.int .i64) 3 (((w41.setCell ⟨gb242, 0, none⟩ (.slice A241_0 ((rd_T25 y238 x52_3).f0).length c241_0)).setCell ⟨gb242, 1, none⟩ (.int .i64 ((rd_T25 y238 x52_3).f1))).setCell ⟨gb242, 2, none⟩ (.int .i64 ((rd_T25 y238 x52_3).f2))) w.heap.size (fun k_ => ((P0_ k_ ∨ P1_0_ k_) ∨ w.heap.size ≤ k_) ∧ some k_ ≠ (.slice (some ad241) y238.length co33 : Value).ownBlock ∧ k_ ≠ gb232 ∧ k_ ≠ gb236 ∧ k_ ≠ gb242) (.slice A1_0 l1_0.length c1_0) l1_0) := ⟨by (with_reducible repeat (first | apply Kd.V_alloc | apply Kd.V_drewN | apply Kd.V_drew)); exact Kd.V_mono (Kd.V_far (p := ⟨gb242, 2, none⟩) (Kd.V_far (p := ⟨gb242, 1, none⟩) (Kd.V_far (p := ⟨gb242, 0, none⟩) (Kd.V_mono HO_237000.out (fun k_ hk => (⟨hk, hk.2⟩ : _ ∧ k_ ≠ gb242))) (fun _ hk => hk.2) (.slice A241_0 ((rd_T25 y238 x52_3).f0).length c241_0)) (fun _ hk => hk.2) (.int .i64 ((rd_T25 y238 x52_3).f1))) (fun _ hk => hk.2) (.int .i64 ((rd_T25 y238 x52_3).f2))) (fun _ hk => ⟨hk.1.1.1, ⟨hk.1.1.2.1, ⟨hk.1.1.2.2.1, ⟨hk.1.1.2.2.2, hk.1.2⟩⟩⟩⟩)⟩
                        have n4_ : Aside0 (Kd.V (Kd.int .i64) 3 (((w41.setCell ⟨gb242, 0, none⟩ (.slice A241_0 ((rd_T25 y238 x52_3).f0).length c241_0)).setCell ⟨gb242, 1, none⟩ (.int .i64 ((rd_T25 y238 x52_3).f1))).setCell ⟨gb242, 2, none⟩ (.int .i64 ((rd_T25 y238 x52_3).f2))) w.heap.size (fun k_ => ((P0_ k_ ∨ P1_0_ k_) ∨ w.heap.size ≤ k_) ∧ some k_ ≠ (.slice (some ad241) y238.length co33 : Value).ownBlock ∧ k_ ≠ gb232 ∧ k_ ≠ gb236 ∧ k_ ≠ gb242) (.slice A241_0 ((rd_T25 y238 x52_3).f0).length c241_0) ((rd_T25 y238 x52_3).f0)) := ⟨by (with_reducible repeat (first | apply Kd.V_alloc | apply Kd.V_drewN | apply Kd.V_drew)); exact Kd.V_mono (Kd.V_far (p := ⟨gb242, 2, none⟩) (Kd.V_far (p := ⟨gb242, 1, none⟩) (Kd.V_far (p := ⟨gb242, 0, none⟩) (Kd.V_mono HL241_0.out (fun k_ hk => (⟨hk, hk.2⟩ : _ ∧ k_ ≠ gb242))) (fun _ hk => hk.2) (.slice A241_0 ((rd_T25 y238 x52_3).f0).length c241_0)) (fun _ hk => hk.2) (.int .i64 ((rd_T25 y238 x52_3).f1))) (fun _ hk => hk.2) (.int .i64 ((rd_T25 y238 x52_3).f2))) (fun _ hk => ⟨hk.1.1.1.1, ⟨hk.1.1.2, ⟨hk.1.1.1.2.1, ⟨hk.1.1.1.2.2, hk.1.2⟩⟩⟩⟩)⟩
                        have n5_ : Aside0 ((((w41.setCell ⟨gb242, 0, none⟩ (.slice A241_0 ((rd_T25 y238 x52_3).f0).length c241_0)).setCell ⟨gb242, 1, none⟩ (.int .i64 ((rd_T25 y238 x52_3).f1))).setCell ⟨gb242, 2, none⟩ (.int .i64 ((rd_T25 y238 x52_3).f2))).heap[gb232]? = some (.cells #[.slice A1_0 l1_0.length c1_0, .int .i64 a1_1, .int .i64 a1_2] 25 (0, 0))) := ⟨by (with_reducible repeat (first | refine blk_drewN ?_ _ | refine blk_drew ?_ | refine blk_alloc ?_ _)); refine blk_far ?_ NB232_242.out _; (with_reducible repeat (first | refine blk_drewN ?_ _ | refine blk_drew ?_ | refine blk_alloc ?_ _)); refine blk_far ?_ NB232_242.out _; (with_reducible repeat (first | refine blk_drewN ?_ _ | refine blk_drew ?_ | refine blk_alloc ?_ _)); refine blk_far ?_ NB232_242.out _; (with_reducible repeat (first | refine blk_drewN ?_ _ | refine blk_drew ?_ | refine blk_alloc ?_ _)); exact BK232.out⟩
                        have n6_ : Aside0 ((((w41.setCell ⟨gb242, 0, none⟩ (.slice A241_0 ((rd_T25 y238 x52_3).f0).length c241_0)).setCell ⟨gb242, 1, none⟩ (.int .i64 ((rd_T25 y238 x52_3).f1))).setCell ⟨gb242, 2, none⟩ (.int .i64 ((rd_T25 y238 x52_3).f2))).heap[gb236]? = some (.cells #[.slice A1_0 l1_0.length c1_0, .int .i64 x237001_19, .int .i64 a1_2] 25 (0, 0))) := ⟨by (with_reducible repeat (first | refine blk_drewN ?_ _ | refine blk_drew ?_ | refine blk_alloc ?_ _)); refine blk_far ?_ NB236_242.out _; (with_reducible repeat (first | refine blk_drewN ?_ _ | refine blk_drew ?_ | refine blk_alloc ?_ _)); refine blk_far ?_ NB236_242.out _; (with_reducible repeat (first | refine blk_drewN ?_ _ | refine blk_drew ?_ | refine blk_alloc ?_ _)); refine blk_far ?_ NB236_242.out _; (with_reducible repeat (first | refine blk_drewN ?_ _ | refine blk_drew ?_ | refine blk_alloc ?_ _)); exact BK236.out⟩
                        have n7_ : Aside0 ((((w41.setCell ⟨gb242, 0, none⟩ (.slice A241_0 ((rd_T25 y238 x52_3).f0).length c241_0)).setCell ⟨gb242, 1, none⟩ (.int .i64 ((rd_T25 y238 x52_3).f1))).setCell ⟨gb242, 2, none⟩ (.int .i64 ((rd_T25 y238 x52_3).f2))).heap[gb242]? = some (.cells #[.slice A241_0 ((rd_T25 y238 x52_3).f0).length c241_0, .int .i64 ((rd_T25 y238 x52_3).f1), .int .i64 ((rd_T25 y238 x52_3).f2)] 25 (0, 0))) := ⟨by (with_reducible repeat (first | refine blk_drewN ?_ _ | refine blk_drew ?_ | refine blk_alloc ?_ _)); refine blk_put (cs := #[.slice A241_0 ((rd_T25 y238 x52_3).f0).length c241_0, .int .i64 ((rd_T25 y238 x52_3).f1), .int .i64 0]) ?_ 2 _ rfl; (with_reducible repeat (first | refine blk_drewN ?_ _ | refine blk_drew ?_ | refine blk_alloc ?_ _)); refine blk_put (cs := #[.slice A241_0 ((rd_T25 y238 x52_3).f0).length c241_0, .int .i64 0, .int .i64 0]) ?_ 1 _ rfl; (with_reducible repeat (first | refine blk_drewN ?_ _ | refine blk_drew ?_ | refine blk_alloc ?_ _)); refine blk_put (cs := #[.slice none 0 0, .int .i64 0, .int .i64 0]) ?_ 0 _ rfl; (with_reducible repeat (first | refine blk_drewN ?_ _ | refine blk_drew ?_ | refine blk_alloc ?_ _)); exact BK242.out⟩
                        have n8_ : Aside0 (Below w.heap.size w (((w41.setCell ⟨gb242, 0, none⟩ (.slice A241_0 ((rd_T25 y238 x52_3).f0).length c241_0)).setCell ⟨gb242, 1, none⟩ (.int .i64 ((rd_T25 y238 x52_3).f1))).setCell ⟨gb242, 2, none⟩ (.int .i64 ((rd_T25 y238 x52_3).f2)))) := ⟨by repeat (first | (with_reducible first | exact HB.out | apply below_alloc | apply pw_below_drewN | apply below_drew1 | refine below_set ?_ GE232.out | refine below_set ?_ GE236.out | refine below_set ?_ GE242.out) | exact HB.out)⟩
                        (try clear HO_0)
                        (try clear HO_50)
                        (try clear HO_233000)
                        (try clear HO_237000)
                        (try clear HL241_0)
                        (try clear BK232)
                        (try clear BK236)
                        (try clear BK242)
                        (try clear HB)
                        generalize (((w41.setCell ⟨gb242, 0, none⟩ (.slice A241_0 ((rd_T25 y238 x52_3).f0).length c241_0)).setCell ⟨gb242, 1, none⟩ (.int .i64 ((rd_T25 y238 x52_3).f1))).setCell ⟨gb242, 2, none⟩ (.int .i64 ((rd_T25 y238 x52_3).f2))) = w45 at n0_ n1_ n2_ n3_ n4_ n5_ n6_ n7_ n8_ ⊢
                        have HO_0 := n0_
                        have HO_50 := n1_
                        have HO_233000 := n2_
                        have HO_237000 := n3_
                        have HL241_0 := n4_
                        have BK232 := n5_
                        have BK236 := n6_
                        have BK242 := n7_
                        have HB := n8_
                        clear n0_ n1_ n2_ n3_ n4_ n5_ n6_ n7_ n8_
                        have n0_ := Aside0.mk (Kd.V_drew HO_0.out)
                        have n1_ := Aside0.mk (Kd.N_drew HO_50.out)
                        have n2_ := Aside0.mk (Kd.V_drew HO_233000.out)
                        have n3_ := Aside0.mk (Kd.V_drew HO_237000.out)
                        have n4_ := Aside0.mk (Kd.V_drew HL241_0.out)
                        have n5_ := Aside0.mk (blk_drew BK232.out)
                        have n6_ := Aside0.mk (blk_drew BK236.out)
                        have n7_ := Aside0.mk (blk_drew BK242.out)
                        have n8_ := Aside0.mk (below_drew1 HB.out)
                        clear HO_0
                        clear HO_50
                        clear HO_233000
                        clear HO_237000
                        clear HL241_0
                        clear BK232
                        clear BK236
                        clear BK242
                        clear HB
                        have HO_0 := n0_
                        have HO_50 := n1_
                        have HO_233000 := n2_
                        have HO_237000 := n3_
                        have HL241_0 := n4_
                        have BK232 := n5_
                        have BK236 := n6_
                        have BK242 := n7_
                        have HB := n8_
                        clear n0_ n1_ n2_ n3_ n4_ n5_ n6_ n7_ n8_
                        refine start_ (n := 12) (S := fun w' => w'.cell? ⟨gb242, 0, none⟩ = some (.slice A241_0 ((rd_T25 y238 x52_3).f0).length c241_0) ∧ w'.cell? ⟨gb242, 1, none⟩ = some (.int .i64 ((rd_T25 y238 x52_3).f1)) ∧ w'.cell? ⟨gb242, 2, none⟩ = some (.int .i64 ((rd_T25 y238 x52_3).f2))) (ds := []) #[false, false, false, false, false, false, false, false, false, false, false, false] (by kernel_rfl) rfl rfl ⟨(blk_cell BK242.out 0).trans rfl, (blk_cell BK242.out 1).trans rfl, (blk_cell BK242.out 2).trans rfl⟩ (fun hHeld => ?_); refine with_tabW debuggerlaw34_LinkSends.tab9 debuggerlaw34_LinkSends.bits9 (fun HT_ HW_ => ?_)
                        generalize w45.drew = w46 at HO_0 HO_50 HO_233000 HO_237000 HL241_0 BK232 BK236 BK242 HB hHeld ⊢
                        refine pure_ (i := 0) (N := some 56) (v := ?_) (a' := ?_) #[true, false, false, false, false, false, false, false, false, false, false, false] rfl rfl (any_of HT_.out (by kernel_rfl)) (fun _ _ _ h => h) (Or.inl ⟨by rfl, ?_⟩) ?_ ?_
                        rotate_left
                        · intro w'
                          go_simp
                          with_reducible rfl
                        rotate_left
                        · simp only [Act.put, List.setIfInBounds_toArray, List.set_cons_zero, List.set_cons_succ, i64_w, i32_w]
                          rfl
                        refine pure_ (i := 2) (N := some 58) (v := ?_) (a' := ?_) #[true, false, true, false, false, false, false, false, false, false, false, false] rfl rfl (any_of HT_.out (by kernel_rfl)) (fun _ _ _ h => h) (Or.inl ⟨by rfl, ?_⟩) ?_ ?_
                        rotate_left
                        · intro w'
                          go_simp
                          with_reducible rfl
                        rotate_left
                        · simp only [Act.put, List.setIfInBounds_toArray, List.set_cons_zero, List.set_cons_succ, i64_w, i32_w]
                          rfl
                        refine pure_ (i := 3) (N := some 59) (v := ?_) (a' := ?_) #[true, false, true, true, false, false, false, false, false, false, false, false] rfl rfl (any_of HT_.out (by kernel_rfl)) (fun _ _ _ h => h) (Or.inl ⟨by rfl, ?_⟩) ?_ ?_
                        rotate_left
                        · intro w'
                          go_simp
                          with_reducible rfl
                        rotate_left
                        · simp only [Act.put, List.setIfInBounds_toArray, List.set_cons_zero, List.set_cons_succ, i64_w, i32_w]
                          rfl
                        refine pure_ (i := 5) (N := some 61) (v := ?_) (a' := ?_) #[true, false, true, true, false, true, false, false, false, false, false, false] rfl rfl (any_of HT_.out (by kernel_rfl)) (fun _ _ _ h => h) (Or.inl ⟨by rfl, ?_⟩) ?_ ?_
                        rotate_left
                        · intro w'
                          go_simp
                          with_reducible rfl
                        rotate_left
                        · simp only [Act.put, List.setIfInBounds_toArray, List.set_cons_zero, List.set_cons_succ, i64_w, i32_w]
                          rfl
                        refine pure_ (i := 7) (N := some 63) (v := ?_) (a' := ?_) #[true, false, true, true, false, true, false, true, false, false, false, false] rfl rfl (any_of HT_.out (by kernel_rfl)) (fun _ _ _ h => h) (Or.inl ⟨by rfl, ?_⟩) ?_ ?_
                        rotate_left
                        · intro w'
                          go_simp
                          with_reducible rfl
                        rotate_left
                        · simp only [Act.put, List.setIfInBounds_toArray, List.set_cons_zero, List.set_cons_succ, i64_w, i32_w]
                          rfl
                        refine pure_ (i := 8) (N := some 64) (v := ?_) (a' := ?_) #[true, false, true, true, false, true, false, true, true, false, false, false] rfl rfl (any_of HT_.out (by kernel_rfl)) (fun _ _ _ h => h) (Or.inl ⟨by rfl, ?_⟩) ?_ ?_
                        rotate_left
                        · intro w'
                          go_simp
                          with_reducible rfl
                        rotate_left
                        · simp only [Act.put, List.setIfInBounds_toArray, List.set_cons_zero, List.set_cons_succ, i64_w, i32_w]
                          rfl
                        refine take_ (i := 1) (N := some 57) (v := ?_) (a' := ?_) #[true, true, true, true, false, true, false, true, true, false, false, false] rfl rfl (take_ofW HT_.out HW_.out (by kernel_rfl)) (fun _ _ _ h => h) (Or.inl ⟨by rfl, ?_⟩) hHeld ?_ ?_
                        rotate_left
                        · rintro w' ⟨s0, s1, s2⟩
                          go_simp
                          with_reducible rfl
                        rotate_left
                        · simp only [Act.put, List.setIfInBounds_toArray, List.set_cons_zero, List.set_cons_succ, i64_w, i32_w]
                          rfl
                        refine take_ (i := 6) (N := some 62) (v := ?_) (a' := ?_) #[true, true, true, true, false, true, true, true, true, false, false, false] rfl rfl (take_ofW HT_.out HW_.out (by kernel_rfl)) (fun _ _ _ h => h) (Or.inl ⟨by rfl, ?_⟩) hHeld ?_ ?_
                        rotate_left
                        · rintro w' ⟨s0, s1, s2⟩
                          go_simp
                          with_reducible rfl
                        rotate_left
                        · simp only [Act.put, List.setIfInBounds_toArray, List.set_cons_zero, List.set_cons_succ, i64_w, i32_w]
                          rfl
                        refine one_ (i := 4) (N := some 60) #[true, true, true, true, true, true, true, true, true, false, false, false] rfl rfl (one_of HT_.out (by kernel_rfl)) (by decide) (fun K hK => ?_)
                        refine goes_ Try.func12 (by kernel_rfl) rfl #[.slice A0 l0.length c0, .agg #[.slice A241_0 ((rd_T25 y238 x52_3).f0).length c241_0, .int .i64 ((rd_T25 y238 x52_3).f1), .int .i64 ((rd_T25 y238 x52_3).f2)], .slice A3 l3.length c3, .int .i64 t235] (by rfl) rfl rfl (by (try simp only [List.map_toArray, List.map_cons, List.map_nil]); first | done | rfl | (simp only [List.length_drop, List.length_take]; rfl)) ?_
                        with_reducible refine (link_Send.calls k3 _ _ l0 _ _ ((rd_T25 y238 x52_3).f0) ((rd_T25 y238 x52_3).f1) ((rd_T25 y238 x52_3).f2) _ _ l3 t235 t243 _ ?side1 ?side2 ?side3 ?side4 ?side5 ?side6 A37.out).mono ?_
                        (case side1 => repeat (first | exact (Kd.V_reads' HO_0.out).2.2 | (with_reducible refine Kd.C_alloc ?_ _) | (with_reducible refine Kd.C_drewN ?_ _) | (with_reducible refine Kd.C_drew ?_)))
                        (case side2 => exact (Kd.V_reads' HO_0.out).2.1)
                        (case side3 => repeat (first | exact ((Kd.V_reads' (by (with_reducible repeat (first | apply Kd.V_alloc | apply Kd.V_drewN | apply Kd.V_drew)); exact HL241_0.out)).2.2) | (with_reducible refine Kd.C_alloc ?_ _) | (with_reducible refine Kd.C_drewN ?_ _) | (with_reducible refine Kd.C_drew ?_)))
                        (case side4 => exact HC241_0.out)
                        (case side5 => repeat (first | exact (Kd.C_below HR3.out HB.out) | (with_reducible refine Kd.C_alloc ?_ _) | (with_reducible refine Kd.C_drewN ?_ _) | (with_reducible refine Kd.C_drew ?_)))
                        (case side6 => exact HC3.out)
                        rintro e w47 ⟨v244, rfl, ho0, hb⟩
                        refine ⟨_, rfl, ?_⟩
                        have n0_ := Aside0.mk (Kd.V_elder' (by (with_reducible repeat (first | apply Kd.V_alloc | apply Kd.V_drewN | apply Kd.V_drew)); exact HO_0.out) (by first | (with_reducible exact Kd.N_base ho0) | (with_reducible exact Kd.S_base ho0) | (with_reducible exact Kd.R_base ho0) | exact Kd.N_base ho0) hb)
                        have n1_ := Aside0.mk (Kd.N_elder' (by (with_reducible repeat (first | apply Kd.N_alloc | apply Kd.N_drewN | apply Kd.N_drew)); exact HO_50.out) (by first | (with_reducible exact Kd.N_base ho0) | (with_reducible exact Kd.S_base ho0) | (with_reducible exact Kd.R_base ho0) | exact Kd.N_base ho0) hb)
                        have n2_ := Aside0.mk (Kd.V_elder' (by (with_reducible repeat (first | apply Kd.V_alloc | apply Kd.V_drewN | apply Kd.V_drew)); exact HO_233000.out) (by first | (with_reducible exact Kd.N_base ho0) | (with_reducible exact Kd.S_base ho0) | (with_reducible exact Kd.R_base ho0) | exact Kd.N_base ho0) hb)
                        have n3_ := Aside0.mk (Kd.V_elder' (by (with_reducible repeat (first | apply Kd.V_alloc | apply Kd.V_drewN | apply Kd.V_drew)); exact HO_237000.out) (by first | (with_reducible exact Kd.N_base ho0) | (with_reducible exact Kd.S_base ho0) | (with_reducible exact Kd.R_base ho0) | exact Kd.N_base ho0) hb)
                        have n4_ := Aside0.mk (Kd.V_elder' (by (with_reducible repeat (first | apply Kd.V_alloc | apply Kd.V_drewN | apply Kd.V_drew)); exact HL241_0.out) (by first | (with_reducible exact Kd.N_base ho0) | (with_reducible exact Kd.S_base ho0) | (with_reducible exact Kd.R_base ho0) | exact Kd.N_base ho0) hb)
                        have n5_ := Aside0.mk (Kd.N_lower (Kd.N_mono (ok' := fun k_ => ((P0_ k_ ∨ P1_0_ k_) ∨ w.heap.size ≤ k_) ∧ some k_ ≠ (.slice (some ad241) y238.length co33 : Value).ownBlock ∧ k_ ≠ gb232 ∧ k_ ≠ gb236 ∧ k_ ≠ gb242) (Kd.S_N (Kd.S_bound ho0)) (fun k_ hk_ => ⟨(.inr (Nat.le_trans (below_size (by repeat (first | (with_reducible first | exact HB.out | apply below_alloc | apply pw_below_drewN | apply below_drew1 | refine below_set ?_ GE232.out | refine below_set ?_ GE236.out | refine below_set ?_ GE242.out) | exact HB.out))) hk_.2.1)), (Kd.fresh' (Kd.N_lt (by (with_reducible repeat (first | apply Kd.N_alloc | apply Kd.N_drewN | apply Kd.N_drew)); exact HO_50.out)) k_ hk_.2.1), (Kd.freshB (g := gb232) (o := .cells #[.slice A1_0 l1_0.length c1_0, .int .i64 a1_1, .int .i64 a1_2] 25 (0, 0)) (by (with_reducible repeat (first | refine blk_drewN ?_ _ | refine blk_drew ?_ | refine blk_alloc ?_ _)); exact BK232.out) k_ hk_.2.1), (Kd.freshB (g := gb236) (o := .cells #[.slice A1_0 l1_0.length c1_0, .int .i64 x237001_19, .int .i64 a1_2] 25 (0, 0)) (by (with_reducible repeat (first | refine blk_drewN ?_ _ | refine blk_drew ?_ | refine blk_alloc ?_ _)); exact BK236.out) k_ hk_.2.1), (Kd.freshB (g := gb242) (o := .cells #[.slice A241_0 ((rd_T25 y238 x52_3).f0).length c241_0, .int .i64 ((rd_T25 y238 x52_3).f1), .int .i64 ((rd_T25 y238 x52_3).f2)] 25 (0, 0)) (by (with_reducible repeat (first | refine blk_drewN ?_ _ | refine blk_drew ?_ | refine blk_alloc ?_ _)); exact BK242.out) k_ hk_.2.1)⟩)) (below_size (by repeat (first | (with_reducible first | exact HB.out | apply below_alloc | apply pw_below_drewN | apply below_drew1 | refine below_set ?_ GE232.out | refine below_set ?_ GE236.out | refine below_set ?_ GE242.out) | exact HB.out))))
                        have n6_ := Aside0.mk (blk_below (g := gb232) (o := .cells #[.slice A1_0 l1_0.length c1_0, .int .i64 a1_1, .int .i64 a1_2] 25 (0, 0)) (by (with_reducible repeat (first | refine blk_drewN ?_ _ | refine blk_drew ?_ | refine blk_alloc ?_ _)); exact BK232.out) hb)
                        have n7_ := Aside0.mk (blk_below (g := gb236) (o := .cells #[.slice A1_0 l1_0.length c1_0, .int .i64 x237001_19, .int .i64 a1_2] 25 (0, 0)) (by (with_reducible repeat (first | refine blk_drewN ?_ _ | refine blk_drew ?_ | refine blk_alloc ?_ _)); exact BK236.out) hb)
                        have n8_ := Aside0.mk (blk_below (g := gb242) (o := .cells #[.slice A241_0 ((rd_T25 y238 x52_3).f0).length c241_0, .int .i64 ((rd_T25 y238 x52_3).f1), .int .i64 ((rd_T25 y238 x52_3).f2)] 25 (0, 0)) (by (with_reducible repeat (first | refine blk_drewN ?_ _ | refine blk_drew ?_ | refine blk_alloc ?_ _)); exact BK242.out) hb)
                        have n9_ := Aside0.mk (below_step (by repeat (first | (with_reducible first | exact HB.out | apply below_alloc | apply pw_below_drewN | apply below_drew1 | refine below_set ?_ GE232.out | refine below_set ?_ GE236.out | refine below_set ?_ GE242.out) | exact HB.out)) hb)
                        clear HO_0
                        clear HO_50
                        clear HO_233000
                        clear HO_237000
                        clear HL241_0
                        clear BK232
                        clear BK236
                        clear BK242
                        clear HB
                        have HO_0 := n0_
                        have HO_50 := n1_
                        have HO_233000 := n2_
                        have HO_237000 := n3_
                        have HL241_0 := n4_
                        have HO245 := n5_
                        have BK232 := n6_
                        have BK236 := n7_
                        have BK242 := n8_
                        have HB := n9_
                        clear n0_ n1_ n2_ n3_ n4_ n5_ n6_ n7_ n8_ n9_
                        (try clear hb)
                        (try clear hb2)
                        (try clear hk)
                        (try clear hi)
                        (try clear ho0)
                        refine hK.out _ _ ⟨(blk_cell BK242.out 0).trans rfl, (blk_cell BK242.out 1).trans rfl, (blk_cell BK242.out 2).trans rfl⟩ (fun hHeld => ?_)
                        clear hK K
                        refine norm_ (a' := ?_) ?_ ?_
                        rotate_left
                        · show Act.put _ (some 60) _ = _
                          simp only [Act.put, List.setIfInBounds_toArray, List.set_cons_zero, List.set_cons_succ, i64_w, i32_w]
                          rfl
                        refine one_ (i := 9) (N := some 65) #[true, true, true, true, true, true, true, true, true, true, false, false] rfl rfl (one_of HT_.out (by kernel_rfl)) (by decide) (fun K hK => ?_)
                        refine goes_ Try.func13 (by kernel_rfl) rfl #[.slice A0 l0.length c0, .agg #[.slice A241_0 ((rd_T25 y238 x52_3).f0).length c241_0, .int .i64 ((rd_T25 y238 x52_3).f1), .int .i64 ((rd_T25 y238 x52_3).f2)], .slice A3 l3.length c3, .int .i64 t235] (by rfl) rfl rfl (by (try simp only [List.map_toArray, List.map_cons, List.map_nil]); first | done | rfl | (simp only [List.length_drop, List.length_take]; rfl)) ?_
                        with_reducible refine (debuggerref34_Send.calls k3 (fun k_ => ((((P0_ k_ ∨ P1_0_ k_) ∨ w.heap.size ≤ k_) ∧ (some k_ ≠ (.slice (some ad241) y238.length co33 : Value).ownBlock ∧ (k_ ≠ gb232 ∧ (k_ ≠ gb236 ∧ k_ ≠ gb242)))) ∧ some k_ ≠ (v244 : Value).ownBlock)) _ _ l0 _ _ ((rd_T25 y238 x52_3).f0) ((rd_T25 y238 x52_3).f1) ((rd_T25 y238 x52_3).f2) _ _ l3 t235 t246 _ ?side1 ?side2 ?side3 ?side4 ?side5 A38.out).mono ?_
                        (case side1 => exact HO_0.out)
                        (case side2 => repeat (first | exact ((Kd.V_reads' (by (with_reducible repeat (first | apply Kd.V_alloc | apply Kd.V_drewN | apply Kd.V_drew)); exact HL241_0.out)).2.2) | (with_reducible refine Kd.C_alloc ?_ _) | (with_reducible refine Kd.C_drewN ?_ _) | (with_reducible refine Kd.C_drew ?_)))
                        (case side3 => exact HC241_0.out)
                        (case side4 => repeat (first | exact (Kd.C_below HR3.out HB.out) | (with_reducible refine Kd.C_alloc ?_ _) | (with_reducible refine Kd.C_drewN ?_ _) | (with_reducible refine Kd.C_drew ?_)))
                        (case side5 => exact HC3.out)
                        rintro e w48 ⟨v247, rfl, ho0, hb⟩
                        refine ⟨_, rfl, ?_⟩
                        have n0_ := Aside0.mk (Kd.V_elder' (by (with_reducible repeat (first | apply Kd.V_alloc | apply Kd.V_drewN | apply Kd.V_drew)); exact HO_0.out) (by first | (with_reducible exact Kd.N_base ho0) | (with_reducible exact Kd.S_base ho0) | (with_reducible exact Kd.R_base ho0) | exact Kd.N_base ho0) hb)
                        have n1_ := Aside0.mk (Kd.N_elder' (by (with_reducible repeat (first | apply Kd.N_alloc | apply Kd.N_drewN | apply Kd.N_drew)); exact HO_50.out) (by first | (with_reducible exact Kd.N_base ho0) | (with_reducible exact Kd.S_base ho0) | (with_reducible exact Kd.R_base ho0) | exact Kd.N_base ho0) hb)
                        have n2_ := Aside0.mk (Kd.V_elder' (by (with_reducible repeat (first | apply Kd.V_alloc | apply Kd.V_drewN | apply Kd.V_drew)); exact HO_233000.out) (by first | (with_reducible exact Kd.N_base ho0) | (with_reducible exact Kd.S_base ho0) | (with_reducible exact Kd.R_base ho0) | exact Kd.N_base ho0) hb)
                        have n3_ := Aside0.mk (Kd.V_elder' (by (with_reducible repeat (first | apply Kd.V_alloc | apply Kd.V_drewN | apply Kd.V_drew)); exact HO_237000.out) (by first | (with_reducible exact Kd.N_base ho0) | (with_reducible exact Kd.S_base ho0) | (with_reducible exact Kd.R_base ho0) | exact Kd.N_base ho0) hb)
                        have n4_ := Aside0.mk (Kd.V_elder' (by (with_reducible repeat (first | apply Kd.V_alloc | apply Kd.V_drewN | apply Kd.V_drew)); exact HL241_0.out) (by first | (with_reducible exact Kd.N_base ho0) | (with_reducible exact Kd.S_base ho0) | (with_reducible exact Kd.R_base ho0) | exact Kd.N_base ho0) hb)
                        have n5_ := Aside0.mk (Kd.N_elder' (by (with_reducible repeat (first | apply Kd.N_alloc | apply Kd.N_drewN | apply Kd.N_drew)); exact HO245.out) (by first | (with_reducible exact Kd.N_base ho0) | (with_reducible exact Kd.S_base ho0) | (with_reducible exact Kd.R_base ho0) | exact Kd.N_base ho0) hb)
                        have n6_ := Aside0.mk (Kd.N_lower (Kd.N_mono (ok' := fun k_ => ((P0_ k_ ∨ P1_0_ k_) ∨ w.heap.size ≤ k_) ∧ some k_ ≠ (.slice (some ad241) y238.length co33 : Value).ownBlock ∧ some k_ ≠ (v244 : Value).ownBlock ∧ k_ ≠ gb232 ∧ k_ ≠ gb236 ∧ k_ ≠ gb242) ho0 (fun k_ hk_ => ⟨Or.elim hk_ (fun hs_ => hs_.1.1) (fun hn_ => (.inr (Nat.le_trans (below_size (by repeat (first | (with_reducible first | exact HB.out | apply below_alloc | apply pw_below_drewN | apply below_drew1 | refine below_set ?_ GE232.out | refine below_set ?_ GE236.out | refine below_set ?_ GE242.out) | exact HB.out))) hn_))), Or.elim hk_ (fun hs_ => hs_.1.2.1) (fun hn_ => (Kd.fresh' (Kd.N_lt (by (with_reducible repeat (first | apply Kd.N_alloc | apply Kd.N_drewN | apply Kd.N_drew)); exact HO_50.out)) k_ hn_)), Or.elim hk_ (fun hs_ => hs_.2) (fun hn_ => (Kd.fresh' (Kd.N_lt (by (with_reducible repeat (first | apply Kd.N_alloc | apply Kd.N_drewN | apply Kd.N_drew)); exact HO245.out)) k_ hn_)), Or.elim hk_ (fun hs_ => hs_.1.2.2.1) (fun hn_ => (Kd.freshB (g := gb232) (o := .cells #[.slice A1_0 l1_0.length c1_0, .int .i64 a1_1, .int .i64 a1_2] 25 (0, 0)) (by (with_reducible repeat (first | refine blk_drewN ?_ _ | refine blk_drew ?_ | refine blk_alloc ?_ _)); exact BK232.out) k_ hn_)), Or.elim hk_ (fun hs_ => hs_.1.2.2.2.1) (fun hn_ => (Kd.freshB (g := gb236) (o := .cells #[.slice A1_0 l1_0.length c1_0, .int .i64 x237001_19, .int .i64 a1_2] 25 (0, 0)) (by (with_reducible repeat (first | refine blk_drewN ?_ _ | refine blk_drew ?_ | refine blk_alloc ?_ _)); exact BK236.out) k_ hn_)), Or.elim hk_ (fun hs_ => hs_.1.2.2.2.2) (fun hn_ => (Kd.freshB (g := gb242) (o := .cells #[.slice A241_0 ((rd_T25 y238 x52_3).f0).length c241_0, .int .i64 ((rd_T25 y238 x52_3).f1), .int .i64 ((rd_T25 y238 x52_3).f2)] 25 (0, 0)) (by (with_reducible repeat (first | refine blk_drewN ?_ _ | refine blk_drew ?_ | refine blk_alloc ?_ _)); exact BK242.out) k_ hn_))⟩)) (below_size (by repeat (first | (with_reducible first | exact HB.out | apply below_alloc | apply pw_below_drewN | apply below_drew1 | refine below_set ?_ GE232.out | refine below_set ?_ GE236.out | refine below_set ?_ GE242.out) | exact HB.out))))
                        have n7_ := Aside0.mk (blk_below (g := gb232) (o := .cells #[.slice A1_0 l1_0.length c1_0, .int .i64 a1_1, .int .i64 a1_2] 25 (0, 0)) (by (with_reducible repeat (first | refine blk_drewN ?_ _ | refine blk_drew ?_ | refine blk_alloc ?_ _)); exact BK232.out) hb)
                        have n8_ := Aside0.mk (blk_below (g := gb236) (o := .cells #[.slice A1_0 l1_0.length c1_0, .int .i64 x237001_19, .int .i64 a1_2] 25 (0, 0)) (by (with_reducible repeat (first | refine blk_drewN ?_ _ | refine blk_drew ?_ | refine blk_alloc ?_ _)); exact BK236.out) hb)
                        have n9_ := Aside0.mk (blk_below (g := gb242) (o := .cells #[.slice A241_0 ((rd_T25 y238 x52_3).f0).length c241_0, .int .i64 ((rd_T25 y238 x52_3).f1), .int .i64 ((rd_T25 y238 x52_3).f2)] 25 (0, 0)) (by (with_reducible repeat (first | refine blk_drewN ?_ _ | refine blk_drew ?_ | refine blk_alloc ?_ _)); exact BK242.out) hb)
                        have n10_ := Aside0.mk (below_step (by repeat (first | (with_reducible first | exact HB.out | apply below_alloc | apply pw_below_drewN | apply below_drew1 | refine below_set ?_ GE232.out | refine below_set ?_ GE236.out | refine below_set ?_ GE242.out) | exact HB.out)) hb)
                        clear HO_0
                        clear HO_50
                        clear HO_233000
                        clear HO_237000
                        clear HL241_0
                        clear HO245
                        clear BK232
                        clear BK236
                        clear BK242
                        clear HB
                        have HO_0 := n0_
                        have HO_50 := n1_
                        have HO_233000 := n2_
                        have HO_237000 := n3_
                        have HL241_0 := n4_
                        have HO245 := n5_
                        have HO248 := n6_
                        have BK232 := n7_
                        have BK236 := n8_
                        have BK242 := n9_
                        have HB := n10_
                        clear n0_ n1_ n2_ n3_ n4_ n5_ n6_ n7_ n8_ n9_ n10_
                        (try clear hb)
                        (try clear hb2)
                        (try clear hk)
                        (try clear hi)
                        (try clear ho0)
                        obtain ⟨Ao49, co49, eo49⟩ := Kd.N_slice HO245.out
                        (first | subst eo49 | (injection eo49 with f1_ f2_ f3_; have f4_ := f1_.symm; have f5_ := f3_.symm; clear f1_ f2_ f3_; subst f4_; subst f5_))
                        obtain ⟨Ao50, co50, eo50⟩ := Kd.N_slice HO248.out
                        (first | subst eo50 | (injection eo50 with f1_ f2_ f3_; have f4_ := f1_.symm; have f5_ := f3_.symm; clear f1_ f2_ f3_; subst f4_; subst f5_))
                        refine hK.out _ _ ⟨(blk_cell BK242.out 0).trans rfl, (blk_cell BK242.out 1).trans rfl, (blk_cell BK242.out 2).trans rfl⟩ (fun hHeld => ?_)
                        clear hK K
                        refine norm_ (a' := ?_) ?_ ?_
                        rotate_left
                        · show Act.put _ (some 65) _ = _
                          simp only [Act.put, List.setIfInBounds_toArray, List.set_cons_zero, List.set_cons_succ, i64_w, i32_w]
                          rfl
                        refine one_ (i := 10) (N := some 66) #[true, true, true, true, true, true, true, true, true, true, true, false] rfl rfl (one_of HT_.out (by kernel_rfl)) (by decide) (fun K hK => ?_)
                        refine goes_ Try.func11 (by kernel_rfl) rfl #[.slice Ao49 t243.length co49, .slice Ao50 t246.length co50] (by rfl) rfl rfl (by (try simp only [List.map_toArray, List.map_cons, List.map_nil]); first | done | rfl | (simp only [List.length_drop, List.length_take]; rfl)) ?_
                        with_reducible refine (debuggerref34_Same.calls k3 _ _ t243 _ _ t246 true _ ?side1 ?side2 ?side3 ?side4 A39.out).mono ?_
                        (case side1 => repeat (first | exact (Kd.N_reads' HO245.out).2.2 | (with_reducible refine Kd.C_alloc ?_ _) | (with_reducible refine Kd.C_drewN ?_ _) | (with_reducible refine Kd.C_drew ?_)))
                        (case side2 => exact (Kd.N_reads' HO245.out).2.1)
                        (case side3 => repeat (first | exact (Kd.N_reads' HO248.out).2.2 | (with_reducible refine Kd.C_alloc ?_ _) | (with_reducible refine Kd.C_drewN ?_ _) | (with_reducible refine Kd.C_drew ?_)))
                        (case side4 => exact (Kd.N_reads' HO248.out).2.1)
                        rintro e w' ⟨rfl, ⟨nd, rfl⟩⟩
                        refine ⟨_, rfl, ?_⟩
                        refine hK.out _ _ ⟨(blk_cell BK242.out 0).trans rfl, (blk_cell BK242.out 1).trans rfl, (blk_cell BK242.out 2).trans rfl⟩ (fun hHeld => ?_)
                        clear hK K
                        refine norm_ (a' := ?_) ?_ ?_
                        rotate_left
                        · show Act.put _ (some 66) _ = _
                          simp only [Act.put, List.setIfInBounds_toArray, List.set_cons_zero, List.set_cons_succ, i64_w, i32_w]
                          rfl
                        refine pure_ (i := 11) (N := some 67) (v := ?_) (a' := ?_) #[true, true, true, true, true, true, true, true, true, true, true, true] rfl rfl (any_of HT_.out (by kernel_rfl)) (fun _ _ _ h => h) (Or.inl ⟨by rfl, ?_⟩) ?_ ?_
                        rotate_left
                        · intro w'
                          go_simp
                          with_reducible rfl
                        rotate_left
                        · simp only [Act.put, List.setIfInBounds_toArray, List.set_cons_zero, List.set_cons_succ, i64_w, i32_w]
                          rfl
                        refine done_ (done_of HT_.out (by kernel_rfl)) ?_
                        try go_wp2
                        go_roundg k3
                        case measure => have := HJ7.out; have := HJ19.out; have := HK3.out; omega
                        case rel => exact ⟨(wrap64 (x52_3 + 1)), (by first | rfl | (simp; done) | (simp [*]; done)), H', ⟨by have := HJ7.out; have := HJ19.out; have := HK3.out; omega⟩, ⟨by (with_reducible repeat (first | apply Kd.V_alloc | apply Kd.V_drewN | apply Kd.V_drew)); exact Kd.V_mono HO_0.out (fun _ hk => ⟨hk.1.1.1, ⟨hk.1.1.2.1, ⟨hk.1.1.2.2.1, hk.1.1.2.2.2.1⟩⟩⟩)⟩, ⟨by (with_reducible repeat (first | apply Kd.N_alloc | apply Kd.N_drewN | apply Kd.N_drew)); exact Kd.N_mono HO_50.out (fun _ hk => ⟨hk.1.1.1, ⟨hk.1.1.2.1, hk.1.1.2.2.1⟩⟩)⟩, ⟨by (with_reducible repeat (first | apply Kd.V_alloc | apply Kd.V_drewN | apply Kd.V_drew)); exact Kd.V_mono HO_233000.out (fun _ hk => ⟨hk.1.1.1, ⟨hk.1.1.2.1, ⟨hk.1.1.2.2.1, hk.1.1.2.2.2.1⟩⟩⟩)⟩, ⟨by (with_reducible repeat (first | apply Kd.V_alloc | apply Kd.V_drewN | apply Kd.V_drew)); exact Kd.V_mono HO_237000.out (fun _ hk => ⟨hk.1.1.1, ⟨hk.1.1.2.1, ⟨hk.1.1.2.2.1, hk.1.1.2.2.2.1⟩⟩⟩)⟩, ⟨by (with_reducible repeat (first | refine blk_drewN ?_ _ | refine blk_drew ?_ | refine blk_alloc ?_ _)); exact BK232.out⟩, ⟨by (with_reducible repeat (first | refine blk_drewN ?_ _ | refine blk_drew ?_ | refine blk_alloc ?_ _)); exact BK236.out⟩, ⟨by repeat (first | (with_reducible first | exact HB.out | apply below_alloc | apply pw_below_drewN | apply below_drew1 | refine below_set ?_ GE232.out | refine below_set ?_ GE236.out | refine below_set ?_ GE242.out) | exact HB.out)⟩⟩
                      · replace c40 := Bool.eq_false_iff.mpr c40
                        subst c40
                        have H1 : (some false) = some r := by rw [if_neg (show ¬ (false = true) by decide)] at H; exact H
                        clear H
                        have H := H1
                        clear H1
                        obtain rfl := Option.some.inj H
                        have p241 : 0 ≤ (x52_3 : Int) := of_decide_eq_true (by first | (with_reducible assumption) | assumption)
                        have q241 : x52_3 < (y238.length : Int) := of_decide_eq_true (by first | (with_reducible assumption) | assumption)
                        obtain ⟨ad241, A241_0, c241_0, e241, hx241_0, hx241_1, hx241_2, hl241_0, hi241_0⟩ := at_T25 (Kd.N_reads' HO_50.out).2.2 x52_3 p241 q241
                        cases e241
                        obtain ⟨ce241, hce241, hMe241, hcc241⟩ := Kd.N_get HO_50.out z25 x52_3 p241 (by first | exact q241 | exact of_decide_eq_true (by first | (with_reducible assumption) | assumption) | (have e_ := (Kd.N_reads' HO_50.out).1; omega))
                        obtain ⟨ua241_0, uc241_0, rfl, ul241_0, ge241_0⟩ := k25_openF hMe241
                        have hv241_0 := hcc241 0 _ rfl
                        rw [Nat.add_zero] at hv241_0
                        replace hv241_0 := Option.some.inj (hv241_0.symm.trans hx241_0)
                        injection hv241_0 with hva_ hvn_ hvc_
                        rw [hva_] at ge241_0
                        rw [hvc_] at ul241_0
                        have HL241_0 := Aside0.mk (show Kd.V (Kd.int .i64) 3 _ w.heap.size _ _ ((rd_T25 y238 x52_3).f0) from Kd.V_mk ul241_0 ge241_0)
                        clear hva_ hvn_ hvc_ ge241_0 ul241_0
                        clear hcc241 hce241
                        have HR241_0 := Aside0.mk hi241_0
                        have HC241_0 := Aside0.mk hl241_0
                        clear hi241_0 hl241_0
                        replace p241 := eq_true p241
                        replace q241 := eq_true q241
                        try go_wp2_with (first | ((with_reducible refine gate_dst (N := 17) rfl ?_); (try (refine gate_guard (by rfl) ?_; dsimp only)); refine box_event ?hg (N := 17) ?hd (cs := #[.slice none 0 0, .int .i64 0, .int .i64 0]) (t := 25) ?hr ?_; (case hd => rfl); (case hg => rfl); (case hr => first | (go_simp; done) | (go_simp; rfl)); intro gb242 hg w51 hbox hb; have n0_ := Aside0.mk (Kd.V_below (Kd.V_elderB (by (with_reducible repeat (first | apply Kd.V_alloc | apply Kd.V_drewN | apply Kd.V_drew)); exact HO_0.out) gb242 (Nat.le_of_eq hg.symm)) hb); have n1_ := Aside0.mk (Kd.N_below (Kd.N_elderB (by (with_reducible repeat (first | apply Kd.N_alloc | apply Kd.N_drewN | apply Kd.N_drew)); exact HO_50.out) gb242 (Nat.le_of_eq hg.symm)) hb); have n2_ := Aside0.mk (Kd.V_below (Kd.V_elderB (by (with_reducible repeat (first | apply Kd.V_alloc | apply Kd.V_drewN | apply Kd.V_drew)); exact HO_233000.out) gb242 (Nat.le_of_eq hg.symm)) hb); have n3_ := Aside0.mk (Kd.V_below (Kd.V_elderB (by (with_reducible repeat (first | apply Kd.V_alloc | apply Kd.V_drewN | apply Kd.V_drew)); exact HO_237000.out) gb242 (Nat.le_of_eq hg.symm)) hb); have n4_ := Aside0.mk (Kd.V_below (Kd.V_elderB (by (with_reducible repeat (first | apply Kd.V_alloc | apply Kd.V_drewN | apply Kd.V_drew)); exact HL241_0.out) gb242 (Nat.le_of_eq hg.symm)) hb); have n5_ := Aside0.mk (blk_below (g := gb232) (o := .cells #[.slice A1_0 l1_0.length c1_0, .int .i64 a1_1, .int .i64 a1_2] 25 (0, 0)) (by (with_reducible repeat (first | refine blk_drewN ?_ _ | refine blk_drew ?_ | refine blk_alloc ?_ _)); exact BK232.out) hb); have n6_ := Aside0.mk (blk_below (g := gb236) (o := .cells #[.slice A1_0 l1_0.length c1_0, .int .i64 x237001_19, .int .i64 a1_2] 25 (0, 0)) (by (with_reducible repeat (first | refine blk_drewN ?_ _ | refine blk_drew ?_ | refine blk_alloc ?_ _)); exact BK236.out) hb); have n7_ := Aside0.mk (Kd.C_below (by repeat (first | (with_reducible exact HR241_0.out) | (with_reducible refine Kd.C_alloc ?_ _) | (with_reducible refine Kd.C_drewN ?_ _) | (with_reducible refine Kd.C_drew ?_) | exact HR241_0.out)) hb); have n8_ := Aside0.mk (below_step (by repeat (first | (with_reducible first | exact HB.out | apply below_alloc | apply pw_below_drewN | apply below_drew1 | refine below_set ?_ GE232.out | refine below_set ?_ GE236.out) | exact HB.out)) hb); have n9_ := Aside0.mk (hbox); have n10_ := Aside0.mk ((by rw [hg]; exact (below_size (by repeat (first | (with_reducible first | exact HB.out | apply below_alloc | apply pw_below_drewN | apply below_drew1 | refine below_set ?_ GE232.out | refine below_set ?_ GE236.out) | exact HB.out))) : w.heap.size ≤ gb242)); have n11_ := Aside0.mk ((by rw [hg]; exact (below_size (by repeat (first | (with_reducible first | exact HB.out | apply below_alloc | apply pw_below_drewN | apply below_drew1 | refine below_set ?_ GE232.out | refine below_set ?_ GE236.out) | exact HB.out))) : w.heap.size ≤ gb242)); have n12_ := Aside0.mk ((by rw [hg]; exact Nat.ne_of_lt (blk_lt (g := gb232) (o := .cells #[.slice A1_0 l1_0.length c1_0, .int .i64 a1_1, .int .i64 a1_2] 25 (0, 0)) (by (with_reducible repeat (first | refine blk_drewN ?_ _ | refine blk_drew ?_ | refine blk_alloc ?_ _)); exact BK232.out)) : gb232 ≠ gb242)); have n13_ := Aside0.mk ((by rw [hg]; exact Nat.ne_of_gt (blk_lt (g := gb232) (o := .cells #[.slice A1_0 l1_0.length c1_0, .int .i64 a1_1, .int .i64 a1_2] 25 (0, 0)) (by (with_reducible repeat (first | refine blk_drewN ?_ _ | refine blk_drew ?_ | refine blk_alloc ?_ _)); exact BK232.out)) : gb242 ≠ gb232)); have n14_ := Aside0.mk ((by rw [hg]; exact Nat.ne_of_lt (blk_lt (g := gb236) (o := .cells #[.slice A1_0 l1_0.length c1_0, .int .i64 x237001_19, .int .i64 a1_2] 25 (0, 0)) (by (with_reducible repeat (first | refine blk_drewN ?_ _ | refine blk_drew ?_ | refine blk_alloc ?_ _)); exact BK236.out)) : gb236 ≠ gb242)); have n15_ := Aside0.mk ((by rw [hg]; exact Nat.ne_of_gt (blk_lt (g := gb236) (o := .cells #[.slice A1_0 l1_0.length c1_0, .int .i64 x237001_19, .int .i64 a1_2] 25 (0, 0)) (by (with_reducible repeat (first | refine blk_drewN ?_ _ | refine blk_drew ?_ | refine blk_alloc ?_ _)); exact BK236.out)) : gb242 ≠ gb236)); clear HO_0; clear HO_50; clear HO_233000; clear HO_237000; clear HL241_0; clear BK232; clear BK236; clear HR241_0; clear HB; have HO_0 := n0_; have HO_50 := n1_; have HO_233000 := n2_; have HO_237000 := n3_; have HL241_0 := n4_; have BK232 := n5_; have BK236 := n6_; have HR241_0 := n7_; have HB := n8_; have BK242 := n9_; have GW242 := n10_; have GE242 := n11_; have NB232_242 := n12_; have NB242_232 := n13_; have NB236_242 := n14_; have NB242_236 := n15_; clear n0_ n1_ n2_ n3_ n4_ n5_ n6_ n7_ n8_ n9_ n10_ n11_ n12_ n13_ n14_ n15_; clear hb hbox hg; have hnb52 := NB242_232.out; have hnc52 := NB232_242.out; have hnb53 := NB242_236.out; have hnc53 := NB236_242.out; have hcz54_0 : w51.cell? ⟨gb242, 0, none⟩ = some (.slice none 0 0) := (blk_cell BK242.out 0).trans rfl; have hcz54_1 : w51.cell? ⟨gb242, 1, none⟩ = some (.int .i64 0) := (blk_cell BK242.out 1).trans rfl; have hcz54_2 : w51.cell? ⟨gb242, 2, none⟩ = some (.int .i64 0) := (blk_cell BK242.out 2).trans rfl; have hfz54_0 := blk_frozen BK242.out 0; have hfz54_1 := blk_frozen BK242.out 1; have hfz54_2 := blk_frozen BK242.out 2))
                        have n0_ : Aside0 (Kd.V k37 37 (((w51.setCell ⟨gb242, 0, none⟩ (.slice A241_0 ((rd_T25 y238 x52_3).f0).length c241_0)).setCell ⟨gb242, 1, none⟩ (.int .i64 ((rd_T25 y238 x52_3).f1))).setCell ⟨gb242, 2, none⟩ (.int .i64 ((rd_T25 y238 x52_3).f2))) w.heap.size (fun k_ => ((P0_ k_ ∨ P1_0_ k_) ∨ w.heap.size ≤ k_) ∧ some k_ ≠ (.slice (some ad241) y238.length co33 : Value).ownBlock ∧ k_ ≠ gb232 ∧ k_ ≠ gb236 ∧ k_ ≠ gb242) (.slice A0 l0.length c0) l0) := ⟨by (with_reducible repeat (first | apply Kd.V_alloc | apply Kd.V_drewN | apply Kd.V_drew)); exact Kd.V_mono (Kd.V_far (p := ⟨gb242, 2, none⟩) (Kd.V_far (p := ⟨gb242, 1, none⟩) (Kd.V_far (p := ⟨gb242, 0, none⟩) (Kd.V_mono HO_0.out (fun k_ hk => (⟨hk, hk.2⟩ : _ ∧ k_ ≠ gb242))) (fun _ hk => hk.2) (.slice A241_0 ((rd_T25 y238 x52_3).f0).length c241_0)) (fun _ hk => hk.2) (.int .i64 ((rd_T25 y238 x52_3).f1))) (fun _ hk => hk.2) (.int .i64 ((rd_T25 y238 x52_3).f2))) (fun _ hk => ⟨hk.1.1.1, ⟨hk.1.1.2.1, ⟨hk.1.1.2.2.1, ⟨hk.1.1.2.2.2, hk.1.2⟩⟩⟩⟩)⟩
                        have n1_ : Aside0 (Kd.N k25 25 (((w51.setCell ⟨gb242, 0, none⟩ (.slice A241_0 ((rd_T25 y238 x52_3).f0).length c241_0)).setCell ⟨gb242, 1, none⟩ (.int .i64 ((rd_T25 y238 x52_3).f1))).setCell ⟨gb242, 2, none⟩ (.int .i64 ((rd_T25 y238 x52_3).f2))) w.heap.size (fun k_ => ((P0_ k_ ∨ P1_0_ k_) ∨ w.heap.size ≤ k_) ∧ k_ ≠ gb232 ∧ k_ ≠ gb236 ∧ k_ ≠ gb242) (.slice (some ad241) y238.length co33) y238) := ⟨by (with_reducible repeat (first | apply Kd.N_alloc | apply Kd.N_drewN | apply Kd.N_drew)); exact Kd.N_mono (Kd.N_far (p := ⟨gb242, 2, none⟩) (Kd.N_far (p := ⟨gb242, 1, none⟩) (Kd.N_far (p := ⟨gb242, 0, none⟩) (Kd.N_mono HO_50.out (fun k_ hk => (⟨hk, hk.2⟩ : _ ∧ k_ ≠ gb242))) (fun _ hk => hk.2) (.slice A241_0 ((rd_T25 y238 x52_3).f0).length c241_0)) (fun _ hk => hk.2) (.int .i64 ((rd_T25 y238 x52_3).f1))) (fun _ hk => hk.2) (.int .i64 ((rd_T25 y238 x52_3).f2))) (fun _ hk => ⟨hk.1.1.1, ⟨hk.1.1.2.1, ⟨hk.1.1.2.2, hk.1.2⟩⟩⟩)⟩
                        have n2_ : Aside0 (Kd.V (Kd.int .i64) 3 (((w51.setCell ⟨gb242, 0, none⟩ (.slice A241_0 ((rd_T25 y238 x52_3).f0).length c241_0)).setCell ⟨gb242, 1, none⟩ (.int .i64 ((rd_T25 y238 x52_3).f1))).setCell ⟨gb242, 2, none⟩ (.int .i64 ((rd_T25 y238 x52_3).f2))) w.heap.size (fun k_ => ((P0_ k_ ∨ P1_0_ k_) ∨ w.heap.size ≤ k_) ∧ some k_ ≠ (.slice (some ad241) y238.length co33 : Value).ownBlock ∧ k_ ≠ gb232 ∧ k_ ≠ gb236 ∧ k_ ≠ gb242) (.slice A1_0 l1_0.length c1_0) l1_0) := ⟨by (with_reducible repeat (first | apply Kd.V_alloc | apply Kd.V_drewN | apply Kd.V_drew)); exact Kd.V_mono (Kd.V_far (p := ⟨gb242, 2, none⟩) (Kd.V_far (p := ⟨gb242, 1, none⟩) (Kd.V_far (p := ⟨gb242, 0, none⟩) (Kd.V_mono HO_233000.out (fun k_ hk => (⟨hk, hk.2⟩ : _ ∧ k_ ≠ gb242))) (fun _ hk => hk.2) (.slice A241_0 ((rd_T25 y238 x52_3).f0).length c241_0)) (fun _ hk => hk.2) (.int .i64 ((rd_T25 y238 x52_3).f1))) (fun _ hk => hk.2) (.int .i64 ((rd_T25 y238 x52_3).f2))) (fun _ hk => ⟨hk.1.1.1, ⟨hk.1.1.2.1, ⟨hk.1.1.2.2.1, ⟨hk.1.1.2.2.2, hk.1.2⟩⟩⟩⟩)⟩
                        have n3_ : Aside0 (Kd.V (Kd.int .i64) 3 (((w51.setCell ⟨gb242, 0, none⟩ (.slice A241_0 ((rd_T25 y238 x52_3).f0).length c241_0)).setCell ⟨gb242, 1, none⟩ (.int .i64 ((rd_T25 y238 x52_3).f1))).setCell ⟨gb242, 2, none⟩ (.int .i64 ((rd_T25 y238 x52_3).f2))) w.heap.size (fun k_ => ((P0_ k_ ∨ P1_0_ k_) ∨ w.heap.size ≤ k_) ∧ some k_ ≠ (.slice (some ad241) y238.length co33 : Value).ownBlock ∧ k_ ≠ gb232 ∧ k_ ≠ gb236 ∧ k_ ≠ gb242) (.slice A1_0 l1_0.length c1_0) l1_0) := ⟨by (with_reducible repeat (first | apply Kd.V_alloc | apply Kd.V_drewN | apply Kd.V_drew)); exact Kd.V_mono (Kd.V_far (p := ⟨gb242, 2, none⟩) (Kd.V_far (p := ⟨gb242, 1, none⟩) (Kd.V_far (p := ⟨gb242, 0, none⟩) (Kd.V_mono HO_237000.out (fun k_ hk => (⟨hk, hk.2⟩ : _ ∧ k_ ≠ gb242))) (fun _ hk => hk.2) (.slice A241_0 ((rd_T25 y238 x52_3).f0).length c241_0)) (fun _ hk => hk.2) (.int .i64 ((rd_T25 y238 x52_3).f1))) (fun _ hk => hk.2) (.int .i64 ((rd_T25 y238 x52_3).f2))) (fun _ hk => ⟨hk.1.1.1, ⟨hk.1.1.2.1, ⟨hk.1.1.2.2.1, ⟨hk.1.1.2.2.2, hk.1.2⟩⟩⟩⟩)⟩
                        have n4_ : Aside0 (Kd.V (Kd.int .i64) 3 (((w51.setCell ⟨gb242, 0, none⟩ (.slice A241_0 ((rd_T25 y238 x52_3).f0).length c241_0)).setCell ⟨gb242, 1, none⟩ (.int .i64 ((rd_T25 y238 x52_3).f1))).setCell ⟨gb242, 2, none⟩ (.int .i64 ((rd_T25 y238 x52_3).f2))) w.heap.size (fun k_ => ((P0_ k_ ∨ P1_0_ k_) ∨ w.heap.size ≤ k_) ∧ some k_ ≠ (.slice (some ad241) y238.length co33 : Value).ownBlock ∧ k_ ≠ gb232 ∧ k_ ≠ gb236 ∧ k_ ≠ gb242) (.slice A241_0 ((rd_T25 y238 x52_3).f0).length c241_0) ((rd_T25 y238 x52_3).f0)) := ⟨by (with_reducible repeat (first | apply Kd.V_alloc | apply Kd.V_drewN | apply Kd.V_drew)); exact Kd.V_mono (Kd.V_far (p := ⟨gb242, 2, none⟩) (Kd.V_far (p := ⟨gb242, 1, none⟩) (Kd.V_far (p := ⟨gb242, 0, none⟩) (Kd.V_mono HL241_0.out (fun k_ hk => (⟨hk, hk.2⟩ : _ ∧ k_ ≠ gb242))) (fun _ hk => hk.2) (.slice A241_0 ((rd_T25 y238 x52_3).f0).length c241_0)) (fun _ hk => hk.2) (.int .i64 ((rd_T25 y238 x52_3).f1))) (fun _ hk => hk.2) (.int .i64 ((rd_T25 y238 x52_3).f2))) (fun _ hk => ⟨hk.1.1.1.1, ⟨hk.1.1.2, ⟨hk.1.1.1.2.1, ⟨hk.1.1.1.2.2, hk.1.2⟩⟩⟩⟩)⟩
                        have n5_ : Aside0 ((((w51.setCell ⟨gb242, 0, none⟩ (.slice A241_0 ((rd_T25 y238 x52_3).f0).length c241_0)).setCell ⟨gb242, 1, none⟩ (.int .i64 ((rd_T25 y238 x52_3).f1))).setCell ⟨gb242, 2, none⟩ (.int .i64 ((rd_T25 y238 x52_3).f2))).heap[gb232]? = some (.cells #[.slice A1_0 l1_0.length c1_0, .int .i64 a1_1, .int .i64 a1_2] 25 (0, 0))) := ⟨by (with_reducible repeat (first | refine blk_drewN ?_ _ | refine blk_drew ?_ | refine blk_alloc ?_ _)); refine blk_far ?_ NB232_242.out _; (with_reducible repeat (first | refine blk_drewN ?_ _ | refine blk_drew ?_ | refine blk_alloc ?_ _)); refine blk_far ?_ NB232_242.out _; (with_reducible repeat (first | refine blk_drewN ?_ _ | refine blk_drew ?_ | refine blk_alloc ?_ _)); refine blk_far ?_ NB232_242.out _; (with_reducible repeat (first | refine blk_drewN ?_ _ | refine blk_drew ?_ | refine blk_alloc ?_ _)); exact BK232.out⟩
                        have n6_ : Aside0 ((((w51.setCell ⟨gb242, 0, none⟩ (.slice A241_0 ((rd_T25 y238 x52_3).f0).length c241_0)).setCell ⟨gb242, 1, none⟩ (.int .i64 ((rd_T25 y238 x52_3).f1))).setCell ⟨gb242, 2, none⟩ (.int .i64 ((rd_T25 y238 x52_3).f2))).heap[gb236]? = some (.cells #[.slice A1_0 l1_0.length c1_0, .int .i64 x237001_19, .int .i64 a1_2] 25 (0, 0))) := ⟨by (with_reducible repeat (first | refine blk_drewN ?_ _ | refine blk_drew ?_ | refine blk_alloc ?_ _)); refine blk_far ?_ NB236_242.out _; (with_reducible repeat (first | refine blk_drewN ?_ _ | refine blk_drew ?_ | refine blk_alloc ?_ _)); refine blk_far ?_ NB236_242.out _; (with_reducible repeat (first | refine blk_drewN ?_ _ | refine blk_drew ?_ | refine blk_alloc ?_ _)); refine blk_far ?_ NB236_242.out _; (with_reducible repeat (first | refine blk_drewN ?_ _ | refine blk_drew ?_ | refine blk_alloc ?_ _)); exact BK236.out⟩
                        have n7_ : Aside0 ((((w51.setCell ⟨gb242, 0, none⟩ (.slice A241_0 ((rd_T25 y238 x52_3).f0).length c241_0)).setCell ⟨gb242, 1, none⟩ (.int .i64 ((rd_T25 y238 x52_3).f1))).setCell ⟨gb242, 2, none⟩ (.int .i64 ((rd_T25 y238 x52_3).f2))).heap[gb242]? = some (.cells #[.slice A241_0 ((rd_T25 y238 x52_3).f0).length c241_0, .int .i64 ((rd_T25 y238 x52_3).f1), .int .i64 ((rd_T25 y238 x52_3).f2)] 25 (0, 0))) := ⟨by (with_reducible repeat (first | refine blk_drewN ?_ _ | refine blk_drew ?_ | refine blk_alloc ?_ _)); refine blk_put (cs := #[.slice A241_0 ((rd_T25 y238 x52_3).f0).length c241_0, .int .i64 ((rd_T25 y238 x52_3).f1), .int .i64 0]) ?_ 2 _ rfl; (with_reducible repeat (first | refine blk_drewN ?_ _ | refine blk_drew ?_ | refine blk_alloc ?_ _)); refine blk_put (cs := #[.slice A241_0 ((rd_T25 y238 x52_3).f0).length c241_0, .int .i64 0, .int .i64 0]) ?_ 1 _ rfl; (with_reducible repeat (first | refine blk_drewN ?_ _ | refine blk_drew ?_ | refine blk_alloc ?_ _)); refine blk_put (cs := #[.slice none 0 0, .int .i64 0, .int .i64 0]) ?_ 0 _ rfl; (with_reducible repeat (first | refine blk_drewN ?_ _ | refine blk_drew ?_ | refine blk_alloc ?_ _)); exact BK242.out⟩
                        have n8_ : Aside0 (Below w.heap.size w (((w51.setCell ⟨gb242, 0, none⟩ (.slice A241_0 ((rd_T25 y238 x52_3).f0).length c241_0)).setCell ⟨gb242, 1, none⟩ (.int .i64 ((rd_T25 y238 x52_3).f1))).setCell ⟨gb242, 2, none⟩ (.int .i64 ((rd_T25 y238 x52_3).f2)))) := ⟨by repeat (first | (with_reducible first | exact HB.out | apply below_alloc | apply pw_below_drewN | apply below_drew1 | refine below_set ?_ GE232.out | refine below_set ?_ GE236.out | refine below_set ?_ GE242.out) | exact HB.out)⟩
                        (try clear HO_0)
                        (try clear HO_50)
                        (try clear HO_233000)
                        (try clear HO_237000)
                        (try clear HL241_0)
                        (try clear BK232)
                        (try clear BK236)
                        (try clear BK242)
                        (try clear HB)
                        generalize (((w51.setCell ⟨gb242, 0, none⟩ (.slice A241_0 ((rd_T25 y238 x52_3).f0).length c241_0)).setCell ⟨gb242, 1, none⟩ (.int .i64 ((rd_T25 y238 x52_3).f1))).setCell ⟨gb242, 2, none⟩ (.int .i64 ((rd_T25 y238 x52_3).f2))) = w55 at n0_ n1_ n2_ n3_ n4_ n5_ n6_ n7_ n8_ ⊢
                        have HO_0 := n0_
                        have HO_50 := n1_
                        have HO_233000 := n2_
                        have HO_237000 := n3_
                        have HL241_0 := n4_
                        have BK232 := n5_
                        have BK236 := n6_
                        have BK242 := n7_
                        have HB := n8_
                        clear n0_ n1_ n2_ n3_ n4_ n5_ n6_ n7_ n8_
                        have n0_ := Aside0.mk (Kd.V_drew HO_0.out)
                        have n1_ := Aside0.mk (Kd.N_drew HO_50.out)
                        have n2_ := Aside0.mk (Kd.V_drew HO_233000.out)
                        have n3_ := Aside0.mk (Kd.V_drew HO_237000.out)
                        have n4_ := Aside0.mk (Kd.V_drew HL241_0.out)
                        have n5_ := Aside0.mk (blk_drew BK232.out)
                        have n6_ := Aside0.mk (blk_drew BK236.out)
                        have n7_ := Aside0.mk (blk_drew BK242.out)
                        have n8_ := Aside0.mk (below_drew1 HB.out)
                        clear HO_0
                        clear HO_50
                        clear HO_233000
                        clear HO_237000
                        clear HL241_0
                        clear BK232
                        clear BK236
                        clear BK242
                        clear HB
                        have HO_0 := n0_
                        have HO_50 := n1_
                        have HO_233000 := n2_
                        have HO_237000 := n3_
                        have HL241_0 := n4_
                        have BK232 := n5_
                        have BK236 := n6_
                        have BK242 := n7_
                        have HB := n8_
                        clear n0_ n1_ n2_ n3_ n4_ n5_ n6_ n7_ n8_
                        refine start_ (n := 12) (S := fun w' => w'.cell? ⟨gb242, 0, none⟩ = some (.slice A241_0 ((rd_T25 y238 x52_3).f0).length c241_0) ∧ w'.cell? ⟨gb242, 1, none⟩ = some (.int .i64 ((rd_T25 y238 x52_3).f1)) ∧ w'.cell? ⟨gb242, 2, none⟩ = some (.int .i64 ((rd_T25 y238 x52_3).f2))) (ds := []) #[false, false, false, false, false, false, false, false, false, false, false, false] (by kernel_rfl) rfl rfl ⟨(blk_cell BK242.out 0).trans rfl, (blk_cell BK242.out 1).trans rfl, (blk_cell BK242.out 2).trans rfl⟩ (fun hHeld => ?_); refine with_tabW debuggerlaw34_LinkSends.tab9 debuggerlaw34_LinkSends.bits9 (fun HT_ HW_ => ?_)
                        generalize w55.drew = w56 at HO_0 HO_50 HO_233000 HO_237000 HL241_0 BK232 BK236 BK242 HB hHeld ⊢
                        refine pure_ (i := 0) (N := some 56) (v := ?_) (a' := ?_) #[true, false, false, false, false, false, false, false, false, false, false, false] rfl rfl (any_of HT_.out (by kernel_rfl)) (fun _ _ _ h => h) (Or.inl ⟨by rfl, ?_⟩) ?_ ?_
                        rotate_left
                        · intro w'
                          go_simp
                          with_reducible rfl
                        rotate_left
                        · simp only [Act.put, List.setIfInBounds_toArray, List.set_cons_zero, List.set_cons_succ, i64_w, i32_w]
                          rfl
                        refine pure_ (i := 2) (N := some 58) (v := ?_) (a' := ?_) #[true, false, true, false, false, false, false, false, false, false, false, false] rfl rfl (any_of HT_.out (by kernel_rfl)) (fun _ _ _ h => h) (Or.inl ⟨by rfl, ?_⟩) ?_ ?_
                        rotate_left
                        · intro w'
                          go_simp
                          with_reducible rfl
                        rotate_left
                        · simp only [Act.put, List.setIfInBounds_toArray, List.set_cons_zero, List.set_cons_succ, i64_w, i32_w]
                          rfl
                        refine pure_ (i := 3) (N := some 59) (v := ?_) (a' := ?_) #[true, false, true, true, false, false, false, false, false, false, false, false] rfl rfl (any_of HT_.out (by kernel_rfl)) (fun _ _ _ h => h) (Or.inl ⟨by rfl, ?_⟩) ?_ ?_
                        rotate_left
                        · intro w'
                          go_simp
                          with_reducible rfl
                        rotate_left
                        · simp only [Act.put, List.setIfInBounds_toArray, List.set_cons_zero, List.set_cons_succ, i64_w, i32_w]
                          rfl
                        refine pure_ (i := 5) (N := some 61) (v := ?_) (a' := ?_) #[true, false, true, true, false, true, false, false, false, false, false, false] rfl rfl (any_of HT_.out (by kernel_rfl)) (fun _ _ _ h => h) (Or.inl ⟨by rfl, ?_⟩) ?_ ?_
                        rotate_left
                        · intro w'
                          go_simp
                          with_reducible rfl
                        rotate_left
                        · simp only [Act.put, List.setIfInBounds_toArray, List.set_cons_zero, List.set_cons_succ, i64_w, i32_w]
                          rfl
                        refine pure_ (i := 7) (N := some 63) (v := ?_) (a' := ?_) #[true, false, true, true, false, true, false, true, false, false, false, false] rfl rfl (any_of HT_.out (by kernel_rfl)) (fun _ _ _ h => h) (Or.inl ⟨by rfl, ?_⟩) ?_ ?_
                        rotate_left
                        · intro w'
                          go_simp
                          with_reducible rfl
                        rotate_left
                        · simp only [Act.put, List.setIfInBounds_toArray, List.set_cons_zero, List.set_cons_succ, i64_w, i32_w]
                          rfl
                        refine pure_ (i := 8) (N := some 64) (v := ?_) (a' := ?_) #[true, false, true, true, false, true, false, true, true, false, false, false] rfl rfl (any_of HT_.out (by kernel_rfl)) (fun _ _ _ h => h) (Or.inl ⟨by rfl, ?_⟩) ?_ ?_
                        rotate_left
                        · intro w'
                          go_simp
                          with_reducible rfl
                        rotate_left
                        · simp only [Act.put, List.setIfInBounds_toArray, List.set_cons_zero, List.set_cons_succ, i64_w, i32_w]
                          rfl
                        refine take_ (i := 1) (N := some 57) (v := ?_) (a' := ?_) #[true, true, true, true, false, true, false, true, true, false, false, false] rfl rfl (take_ofW HT_.out HW_.out (by kernel_rfl)) (fun _ _ _ h => h) (Or.inl ⟨by rfl, ?_⟩) hHeld ?_ ?_
                        rotate_left
                        · rintro w' ⟨s0, s1, s2⟩
                          go_simp
                          with_reducible rfl
                        rotate_left
                        · simp only [Act.put, List.setIfInBounds_toArray, List.set_cons_zero, List.set_cons_succ, i64_w, i32_w]
                          rfl
                        refine take_ (i := 6) (N := some 62) (v := ?_) (a' := ?_) #[true, true, true, true, false, true, true, true, true, false, false, false] rfl rfl (take_ofW HT_.out HW_.out (by kernel_rfl)) (fun _ _ _ h => h) (Or.inl ⟨by rfl, ?_⟩) hHeld ?_ ?_
                        rotate_left
                        · rintro w' ⟨s0, s1, s2⟩
                          go_simp
                          with_reducible rfl
                        rotate_left
                        · simp only [Act.put, List.setIfInBounds_toArray, List.set_cons_zero, List.set_cons_succ, i64_w, i32_w]
                          rfl
                        refine one_ (i := 4) (N := some 60) #[true, true, true, true, true, true, true, true, true, false, false, false] rfl rfl (one_of HT_.out (by kernel_rfl)) (by decide) (fun K hK => ?_)
                        refine goes_ Try.func12 (by kernel_rfl) rfl #[.slice A0 l0.length c0, .agg #[.slice A241_0 ((rd_T25 y238 x52_3).f0).length c241_0, .int .i64 ((rd_T25 y238 x52_3).f1), .int .i64 ((rd_T25 y238 x52_3).f2)], .slice A3 l3.length c3, .int .i64 t235] (by rfl) rfl rfl (by (try simp only [List.map_toArray, List.map_cons, List.map_nil]); first | done | rfl | (simp only [List.length_drop, List.length_take]; rfl)) ?_
                        with_reducible refine (link_Send.calls k3 _ _ l0 _ _ ((rd_T25 y238 x52_3).f0) ((rd_T25 y238 x52_3).f1) ((rd_T25 y238 x52_3).f2) _ _ l3 t235 t243 _ ?side1 ?side2 ?side3 ?side4 ?side5 ?side6 A37.out).mono ?_
                        (case side1 => repeat (first | exact (Kd.V_reads' HO_0.out).2.2 | (with_reducible refine Kd.C_alloc ?_ _) | (with_reducible refine Kd.C_drewN ?_ _) | (with_reducible refine Kd.C_drew ?_)))
                        (case side2 => exact (Kd.V_reads' HO_0.out).2.1)
                        (case side3 => repeat (first | exact ((Kd.V_reads' (by (with_reducible repeat (first | apply Kd.V_alloc | apply Kd.V_drewN | apply Kd.V_drew)); exact HL241_0.out)).2.2) | (with_reducible refine Kd.C_alloc ?_ _) | (with_reducible refine Kd.C_drewN ?_ _) | (with_reducible refine Kd.C_drew ?_)))
                        (case side4 => exact HC241_0.out)
                        (case side5 => repeat (first | exact (Kd.C_below HR3.out HB.out) | (with_reducible refine Kd.C_alloc ?_ _) | (with_reducible refine Kd.C_drewN ?_ _) | (with_reducible refine Kd.C_drew ?_)))
                        (case side6 => exact HC3.out)
                        rintro e w57 ⟨v244, rfl, ho0, hb⟩
                        refine ⟨_, rfl, ?_⟩
                        have n0_ := Aside0.mk (Kd.V_elder' (by (with_reducible repeat (first | apply Kd.V_alloc | apply Kd.V_drewN | apply Kd.V_drew)); exact HO_0.out) (by first | (with_reducible exact Kd.N_base ho0) | (with_reducible exact Kd.S_base ho0) | (with_reducible exact Kd.R_base ho0) | exact Kd.N_base ho0) hb)
                        have n1_ := Aside0.mk (Kd.N_elder' (by (with_reducible repeat (first | apply Kd.N_alloc | apply Kd.N_drewN | apply Kd.N_drew)); exact HO_50.out) (by first | (with_reducible exact Kd.N_base ho0) | (with_reducible exact Kd.S_base ho0) | (with_reducible exact Kd.R_base ho0) | exact Kd.N_base ho0) hb)
                        have n2_ := Aside0.mk (Kd.V_elder' (by (with_reducible repeat (first | apply Kd.V_alloc | apply Kd.V_drewN | apply Kd.V_drew)); exact HO_233000.out) (by first | (with_reducible exact Kd.N_base ho0) | (with_reducible exact Kd.S_base ho0) | (with_reducible exact Kd.R_base ho0) | exact Kd.N_base ho0) hb)
                        have n3_ := Aside0.mk (Kd.V_elder' (by (with_reducible repeat (first | apply Kd.V_alloc | apply Kd.V_drewN | apply Kd.V_drew)); exact HO_237000.out) (by first | (with_reducible exact Kd.N_base ho0) | (with_reducible exact Kd.S_base ho0) | (with_reducible exact Kd.R_base ho0) | exact Kd.N_base ho0) hb)
                        have n4_ := Aside0.mk (Kd.V_elder' (by (with_reducible repeat (first | apply Kd.V_alloc | apply Kd.V_drewN | apply Kd.V_drew)); exact HL241_0.out) (by first | (with_reducible exact Kd.N_base ho0) | (with_reducible exact Kd.S_base ho0) | (with_reducible exact Kd.R_base ho0) | exact Kd.N_base ho0) hb)
                        have n5_ := Aside0.mk (Kd.N_lower (Kd.N_mono (ok' := fun k_ => ((P0_ k_ ∨ P1_0_ k_) ∨ w.heap.size ≤ k_) ∧ some k_ ≠ (.slice (some ad241) y238.length co33 : Value).ownBlock ∧ k_ ≠ gb232 ∧ k_ ≠ gb236 ∧ k_ ≠ gb242) (Kd.S_N (Kd.S_bound ho0)) (fun k_ hk_ => ⟨(.inr (Nat.le_trans (below_size (by repeat (first | (with_reducible first | exact HB.out | apply below_alloc | apply pw_below_drewN | apply below_drew1 | refine below_set ?_ GE232.out | refine below_set ?_ GE236.out | refine below_set ?_ GE242.out) | exact HB.out))) hk_.2.1)), (Kd.fresh' (Kd.N_lt (by (with_reducible repeat (first | apply Kd.N_alloc | apply Kd.N_drewN | apply Kd.N_drew)); exact HO_50.out)) k_ hk_.2.1), (Kd.freshB (g := gb232) (o := .cells #[.slice A1_0 l1_0.length c1_0, .int .i64 a1_1, .int .i64 a1_2] 25 (0, 0)) (by (with_reducible repeat (first | refine blk_drewN ?_ _ | refine blk_drew ?_ | refine blk_alloc ?_ _)); exact BK232.out) k_ hk_.2.1), (Kd.freshB (g := gb236) (o := .cells #[.slice A1_0 l1_0.length c1_0, .int .i64 x237001_19, .int .i64 a1_2] 25 (0, 0)) (by (with_reducible repeat (first | refine blk_drewN ?_ _ | refine blk_drew ?_ | refine blk_alloc ?_ _)); exact BK236.out) k_ hk_.2.1), (Kd.freshB (g := gb242) (o := .cells #[.slice A241_0 ((rd_T25 y238 x52_3).f0).length c241_0, .int .i64 ((rd_T25 y238 x52_3).f1), .int .i64 ((rd_T25 y238 x52_3).f2)] 25 (0, 0)) (by (with_reducible repeat (first | refine blk_drewN ?_ _ | refine blk_drew ?_ | refine blk_alloc ?_ _)); exact BK242.out) k_ hk_.2.1)⟩)) (below_size (by repeat (first | (with_reducible first | exact HB.out | apply below_alloc | apply pw_below_drewN | apply below_drew1 | refine below_set ?_ GE232.out | refine below_set ?_ GE236.out | refine below_set ?_ GE242.out) | exact HB.out))))
                        have n6_ := Aside0.mk (blk_below (g := gb232) (o := .cells #[.slice A1_0 l1_0.length c1_0, .int .i64 a1_1, .int .i64 a1_2] 25 (0, 0)) (by (with_reducible repeat (first | refine blk_drewN ?_ _ | refine blk_drew ?_ | refine blk_alloc ?_ _)); exact BK232.out) hb)
                        have n7_ := Aside0.mk (blk_below (g := gb236) (o := .cells #[.slice A1_0 l1_0.length c1_0, .int .i64 x237001_19, .int .i64 a1_2] 25 (0, 0)) (by (with_reducible repeat (first | refine blk_drewN ?_ _ | refine blk_drew ?_ | refine blk_alloc ?_ _)); exact BK236.out) hb)
                        have n8_ := Aside0.mk (blk_below (g := gb242) (o := .cells #[.slice A241_0 ((rd_T25 y238 x52_3).f0).length c241_0, .int .i64 ((rd_T25 y238 x52_3).f1), .int .i64 ((rd_T25 y238 x52_3).f2)] 25 (0, 0)) (by (with_reducible repeat (first | refine blk_drewN ?_ _ | refine blk_drew ?_ | refine blk_alloc ?_ _)); exact BK242.out) hb)
                        have n9_ := Aside0.mk (below_step (by repeat (first | (with_reducible first | exact HB.out | apply below_alloc | apply pw_below_drewN | apply below_drew1 | refine below_set ?_ GE232.out | refine below_set ?_ GE236.out | refine below_set ?_ GE242.out) | exact HB.out)) hb)
                        clear HO_0
                        clear HO_50
                        clear HO_233000
                        clear HO_237000
                        clear HL241_0
                        clear BK232
                        clear BK236
                        clear BK242
                        clear HB
                        have HO_0 := n0_
                        have HO_50 := n1_
                        have HO_233000 := n2_
                        have HO_237000 := n3_
                        have HL241_0 := n4_
                        have HO245 := n5_
                        have BK232 := n6_
                        have BK236 := n7_
                        have BK242 := n8_
                        have HB := n9_
                        clear n0_ n1_ n2_ n3_ n4_ n5_ n6_ n7_ n8_ n9_
                        (try clear hb)
                        (try clear hb2)
                        (try clear hk)
                        (try clear hi)
                        (try clear ho0)
                        refine hK.out _ _ ⟨(blk_cell BK242.out 0).trans rfl, (blk_cell BK242.out 1).trans rfl, (blk_cell BK242.out 2).trans rfl⟩ (fun hHeld => ?_)
                        clear hK K
                        refine norm_ (a' := ?_) ?_ ?_
                        rotate_left
                        · show Act.put _ (some 60) _ = _
                          simp only [Act.put, List.setIfInBounds_toArray, List.set_cons_zero, List.set_cons_succ, i64_w, i32_w]
                          rfl
                        refine one_ (i := 9) (N := some 65) #[true, true, true, true, true, true, true, true, true, true, false, false] rfl rfl (one_of HT_.out (by kernel_rfl)) (by decide) (fun K hK => ?_)
                        refine goes_ Try.func13 (by kernel_rfl) rfl #[.slice A0 l0.length c0, .agg #[.slice A241_0 ((rd_T25 y238 x52_3).f0).length c241_0, .int .i64 ((rd_T25 y238 x52_3).f1), .int .i64 ((rd_T25 y238 x52_3).f2)], .slice A3 l3.length c3, .int .i64 t235] (by rfl) rfl rfl (by (try simp only [List.map_toArray, List.map_cons, List.map_nil]); first | done | rfl | (simp only [List.length_drop, List.length_take]; rfl)) ?_
                        with_reducible refine (debuggerref34_Send.calls k3 (fun k_ => ((((P0_ k_ ∨ P1_0_ k_) ∨ w.heap.size ≤ k_) ∧ (some k_ ≠ (.slice (some ad241) y238.length co33 : Value).ownBlock ∧ (k_ ≠ gb232 ∧ (k_ ≠ gb236 ∧ k_ ≠ gb242)))) ∧ some k_ ≠ (v244 : Value).ownBlock)) _ _ l0 _ _ ((rd_T25 y238 x52_3).f0) ((rd_T25 y238 x52_3).f1) ((rd_T25 y238 x52_3).f2) _ _ l3 t235 t246 _ ?side1 ?side2 ?side3 ?side4 ?side5 A38.out).mono ?_
                        (case side1 => exact HO_0.out)
                        (case side2 => repeat (first | exact ((Kd.V_reads' (by (with_reducible repeat (first | apply Kd.V_alloc | apply Kd.V_drewN | apply Kd.V_drew)); exact HL241_0.out)).2.2) | (with_reducible refine Kd.C_alloc ?_ _) | (with_reducible refine Kd.C_drewN ?_ _) | (with_reducible refine Kd.C_drew ?_)))
                        (case side3 => exact HC241_0.out)
                        (case side4 => repeat (first | exact (Kd.C_below HR3.out HB.out) | (with_reducible refine Kd.C_alloc ?_ _) | (with_reducible refine Kd.C_drewN ?_ _) | (with_reducible refine Kd.C_drew ?_)))
                        (case side5 => exact HC3.out)
                        rintro e w58 ⟨v247, rfl, ho0, hb⟩
                        refine ⟨_, rfl, ?_⟩
                        have n0_ := Aside0.mk (Kd.V_elder' (by (with_reducible repeat (first | apply Kd.V_alloc | apply Kd.V_drewN | apply Kd.V_drew)); exact HO_0.out) (by first | (with_reducible exact Kd.N_base ho0) | (with_reducible exact Kd.S_base ho0) | (with_reducible exact Kd.R_base ho0) | exact Kd.N_base ho0) hb)
                        have n1_ := Aside0.mk (Kd.N_elder' (by (with_reducible repeat (first | apply Kd.N_alloc | apply Kd.N_drewN | apply Kd.N_drew)); exact HO_50.out) (by first | (with_reducible exact Kd.N_base ho0) | (with_reducible exact Kd.S_base ho0) | (with_reducible exact Kd.R_base ho0) | exact Kd.N_base ho0) hb)
                        have n2_ := Aside0.mk (Kd.V_elder' (by (with_reducible repeat (first | apply Kd.V_alloc | apply Kd.V_drewN | apply Kd.V_drew)); exact HO_233000.out) (by first | (with_reducible exact Kd.N_base ho0) | (with_reducible exact Kd.S_base ho0) | (with_reducible exact Kd.R_base ho0) | exact Kd.N_base ho0) hb)
                        have n3_ := Aside0.mk (Kd.V_elder' (by (with_reducible repeat (first | apply Kd.V_alloc | apply Kd.V_drewN | apply Kd.V_drew)); exact HO_237000.out) (by first | (with_reducible exact Kd.N_base ho0) | (with_reducible exact Kd.S_base ho0) | (with_reducible exact Kd.R_base ho0) | exact Kd.N_base ho0) hb)
                        have n4_ := Aside0.mk (Kd.V_elder' (by (with_reducible repeat (first | apply Kd.V_alloc | apply Kd.V_drewN | apply Kd.V_drew)); exact HL241_0.out) (by first | (with_reducible exact Kd.N_base ho0) | (with_reducible exact Kd.S_base ho0) | (with_reducible exact Kd.R_base ho0) | exact Kd.N_base ho0) hb)
                        have n5_ := Aside0.mk (Kd.N_elder' (by (with_reducible repeat (first | apply Kd.N_alloc | apply Kd.N_drewN | apply Kd.N_drew)); exact HO245.out) (by first | (with_reducible exact Kd.N_base ho0) | (with_reducible exact Kd.S_base ho0) | (with_reducible exact Kd.R_base ho0) | exact Kd.N_base ho0) hb)
                        have n6_ := Aside0.mk (Kd.N_lower (Kd.N_mono (ok' := fun k_ => ((P0_ k_ ∨ P1_0_ k_) ∨ w.heap.size ≤ k_) ∧ some k_ ≠ (.slice (some ad241) y238.length co33 : Value).ownBlock ∧ some k_ ≠ (v244 : Value).ownBlock ∧ k_ ≠ gb232 ∧ k_ ≠ gb236 ∧ k_ ≠ gb242) ho0 (fun k_ hk_ => ⟨Or.elim hk_ (fun hs_ => hs_.1.1) (fun hn_ => (.inr (Nat.le_trans (below_size (by repeat (first | (with_reducible first | exact HB.out | apply below_alloc | apply pw_below_drewN | apply below_drew1 | refine below_set ?_ GE232.out | refine below_set ?_ GE236.out | refine below_set ?_ GE242.out) | exact HB.out))) hn_))), Or.elim hk_ (fun hs_ => hs_.1.2.1) (fun hn_ => (Kd.fresh' (Kd.N_lt (by (with_reducible repeat (first | apply Kd.N_alloc | apply Kd.N_drewN | apply Kd.N_drew)); exact HO_50.out)) k_ hn_)), Or.elim hk_ (fun hs_ => hs_.2) (fun hn_ => (Kd.fresh' (Kd.N_lt (by (with_reducible repeat (first | apply Kd.N_alloc | apply Kd.N_drewN | apply Kd.N_drew)); exact HO245.out)) k_ hn_)), Or.elim hk_ (fun hs_ => hs_.1.2.2.1) (fun hn_ => (Kd.freshB (g := gb232) (o := .cells #[.slice A1_0 l1_0.length c1_0, .int .i64 a1_1, .int .i64 a1_2] 25 (0, 0)) (by (with_reducible repeat (first | refine blk_drewN ?_ _ | refine blk_drew ?_ | refine blk_alloc ?_ _)); exact BK232.out) k_ hn_)), Or.elim hk_ (fun hs_ => hs_.1.2.2.2.1) (fun hn_ => (Kd.freshB (g := gb236) (o := .cells #[.slice A1_0 l1_0.length c1_0, .int .i64 x237001_19, .int .i64 a1_2] 25 (0, 0)) (by (with_reducible repeat (first | refine blk_drewN ?_ _ | refine blk_drew ?_ | refine blk_alloc ?_ _)); exact BK236.out) k_ hn_)), Or.elim hk_ (fun hs_ => hs_.1.2.2.2.2) (fun hn_ => (Kd.freshB (g := gb242) (o := .cells #[.slice A241_0 ((rd_T25 y238 x52_3).f0).length c241_0, .int .i64 ((rd_T25 y238 x52_3).f1), .int .i64 ((rd_T25 y238 x52_3).f2)] 25 (0, 0)) (by (with_reducible repeat (first | refine blk_drewN ?_ _ | refine blk_drew ?_ | refine blk_alloc ?_ _)); exact BK242.out) k_ hn_))⟩)) (below_size (by repeat (first | (with_reducible first | exact HB.out | apply below_alloc | apply pw_below_drewN | apply below_drew1 | refine below_set ?_ GE232.out | refine below_set ?_ GE236.out | refine below_set ?_ GE242.out) | exact HB.out))))
                        have n7_ := Aside0.mk (blk_below (g := gb232) (o := .cells #[.slice A1_0 l1_0.length c1_0, .int .i64 a1_1, .int .i64 a1_2] 25 (0, 0)) (by (with_reducible repeat (first | refine blk_drewN ?_ _ | refine blk_drew ?_ | refine blk_alloc ?_ _)); exact BK232.out) hb)
                        have n8_ := Aside0.mk (blk_below (g := gb236) (o := .cells #[.slice A1_0 l1_0.length c1_0, .int .i64 x237001_19, .int .i64 a1_2] 25 (0, 0)) (by (with_reducible repeat (first | refine blk_drewN ?_ _ | refine blk_drew ?_ | refine blk_alloc ?_ _)); exact BK236.out) hb)
                        have n9_ := Aside0.mk (blk_below (g := gb242) (o := .cells #[.slice A241_0 ((rd_T25 y238 x52_3).f0).length c241_0, .int .i64 ((rd_T25 y238 x52_3).f1), .int .i64 ((rd_T25 y238 x52_3).f2)] 25 (0, 0)) (by (with_reducible repeat (first | refine blk_drewN ?_ _ | refine blk_drew ?_ | refine blk_alloc ?_ _)); exact BK242.out) hb)
                        have n10_ := Aside0.mk (below_step (by repeat (first | (with_reducible first | exact HB.out | apply below_alloc | apply pw_below_drewN | apply below_drew1 | refine below_set ?_ GE232.out | refine below_set ?_ GE236.out | refine below_set ?_ GE242.out) | exact HB.out)) hb)
                        clear HO_0
                        clear HO_50
                        clear HO_233000
                        clear HO_237000
                        clear HL241_0
                        clear HO245
                        clear BK232
                        clear BK236
                        clear BK242
                        clear HB
                        have HO_0 := n0_
                        have HO_50 := n1_
                        have HO_233000 := n2_
                        have HO_237000 := n3_
                        have HL241_0 := n4_
                        have HO245 := n5_
                        have HO248 := n6_
                        have BK232 := n7_
                        have BK236 := n8_
                        have BK242 := n9_
                        have HB := n10_
                        clear n0_ n1_ n2_ n3_ n4_ n5_ n6_ n7_ n8_ n9_ n10_
                        (try clear hb)
                        (try clear hb2)
                        (try clear hk)
                        (try clear hi)
                        (try clear ho0)
                        obtain ⟨Ao59, co59, eo59⟩ := Kd.N_slice HO245.out
                        (first | subst eo59 | (injection eo59 with f1_ f2_ f3_; have f4_ := f1_.symm; have f5_ := f3_.symm; clear f1_ f2_ f3_; subst f4_; subst f5_))
                        obtain ⟨Ao60, co60, eo60⟩ := Kd.N_slice HO248.out
                        (first | subst eo60 | (injection eo60 with f1_ f2_ f3_; have f4_ := f1_.symm; have f5_ := f3_.symm; clear f1_ f2_ f3_; subst f4_; subst f5_))
                        refine hK.out _ _ ⟨(blk_cell BK242.out 0).trans rfl, (blk_cell BK242.out 1).trans rfl, (blk_cell BK242.out 2).trans rfl⟩ (fun hHeld => ?_)
                        clear hK K
                        refine norm_ (a' := ?_) ?_ ?_
                        rotate_left
                        · show Act.put _ (some 65) _ = _
                          simp only [Act.put, List.setIfInBounds_toArray, List.set_cons_zero, List.set_cons_succ, i64_w, i32_w]
                          rfl
                        refine one_ (i := 10) (N := some 66) #[true, true, true, true, true, true, true, true, true, true, true, false] rfl rfl (one_of HT_.out (by kernel_rfl)) (by decide) (fun K hK => ?_)
                        refine goes_ Try.func11 (by kernel_rfl) rfl #[.slice Ao59 t243.length co59, .slice Ao60 t246.length co60] (by rfl) rfl rfl (by (try simp only [List.map_toArray, List.map_cons, List.map_nil]); first | done | rfl | (simp only [List.length_drop, List.length_take]; rfl)) ?_
                        with_reducible refine (debuggerref34_Same.calls k3 _ _ t243 _ _ t246 false _ ?side1 ?side2 ?side3 ?side4 A39.out).mono ?_
                        (case side1 => repeat (first | exact (Kd.N_reads' HO245.out).2.2 | (with_reducible refine Kd.C_alloc ?_ _) | (with_reducible refine Kd.C_drewN ?_ _) | (with_reducible refine Kd.C_drew ?_)))
                        (case side2 => exact (Kd.N_reads' HO245.out).2.1)
                        (case side3 => repeat (first | exact (Kd.N_reads' HO248.out).2.2 | (with_reducible refine Kd.C_alloc ?_ _) | (with_reducible refine Kd.C_drewN ?_ _) | (with_reducible refine Kd.C_drew ?_)))
                        (case side4 => exact (Kd.N_reads' HO248.out).2.1)
                        rintro e w' ⟨rfl, ⟨nd, rfl⟩⟩
                        refine ⟨_, rfl, ?_⟩
                        refine hK.out _ _ ⟨(blk_cell BK242.out 0).trans rfl, (blk_cell BK242.out 1).trans rfl, (blk_cell BK242.out 2).trans rfl⟩ (fun hHeld => ?_)
                        clear hK K
                        refine norm_ (a' := ?_) ?_ ?_
                        rotate_left
                        · show Act.put _ (some 66) _ = _
                          simp only [Act.put, List.setIfInBounds_toArray, List.set_cons_zero, List.set_cons_succ, i64_w, i32_w]
                          rfl
                        refine pure_ (i := 11) (N := some 67) (v := ?_) (a' := ?_) #[true, true, true, true, true, true, true, true, true, true, true, true] rfl rfl (any_of HT_.out (by kernel_rfl)) (fun _ _ _ h => h) (Or.inl ⟨by rfl, ?_⟩) ?_ ?_
                        rotate_left
                        · intro w'
                          go_simp
                          with_reducible rfl
                        rotate_left
                        · simp only [Act.put, List.setIfInBounds_toArray, List.set_cons_zero, List.set_cons_succ, i64_w, i32_w]
                          rfl
                        refine done_ (done_of HT_.out (by kernel_rfl)) ?_
                        try go_wp2
                        go_ret
                        exact ⟨by first | rfl | (simp [errW_none, errW_some] <;> rfl) | (simp [*, errW_none, errW_some] <;> rfl), by repeat (first | (with_reducible first | exact HB.out | apply below_alloc | apply pw_below_drewN | apply below_drew1 | refine below_set ?_ GE232.out | refine below_set ?_ GE236.out | refine below_set ?_ GE242.out) | exact HB.out)⟩
                    · rw [if_neg c36] at H
                      exact absurd H (by simp)
                  · rw [if_neg c35] at H
                    exact absurd H (by simp)
                · rw [if_neg c34] at H
                  have c34b0 : decide (x52_3 < (y238.length : Int)) = false := decide_eq_false c34
                  clear c34
                  replace H := Option.bind_eq_some_iff.mp H
                  obtain ⟨t250, A610, H⟩ := H
                  replace H : ((link_FateOf.f l2 a4).bind fun bt251 => ((debuggerref34_FateOf.f l2 a4).bind fun bt256 => ((debuggerlaw34_fates.f k3 bt251.1 bt251.2.1 bt251.2.2 bt256.1 bt256.2.1 bt256.2.2).bind fun t261 => (if t261 = true then ((link_FateOf.f l2 t250).bind fun bt262 => ((debuggerref34_FateOf.f l2 t250).bind fun bt267 => ((debuggerlaw34_fates.f k3 bt262.1 bt262.2.1 bt262.2.2 bt267.1 bt267.2.1 bt267.2.2).bind fun t272 => (if t272 = true then ((debuggerlaw34_awake.f k3).bind fun t273 => (some t273)) else (some false))))) else (some false))))) = some r := H
                  have A61 := Aside0.mk A610
                  clear A610
                  replace H := Option.bind_eq_some_iff.mp H
                  obtain ⟨⟨t251, t254, t255⟩, A620, H⟩ := H
                  replace H : ((debuggerref34_FateOf.f l2 a4).bind fun bt256 => ((debuggerlaw34_fates.f k3 t251 t254 t255 bt256.1 bt256.2.1 bt256.2.2).bind fun t261 => (if t261 = true then ((link_FateOf.f l2 t250).bind fun bt262 => ((debuggerref34_FateOf.f l2 t250).bind fun bt267 => ((debuggerlaw34_fates.f k3 bt262.1 bt262.2.1 bt262.2.2 bt267.1 bt267.2.1 bt267.2.2).bind fun t272 => (if t272 = true then ((debuggerlaw34_awake.f k3).bind fun t273 => (some t273)) else (some false))))) else (some false)))) = some r := H
                  have A62 := Aside0.mk A620
                  clear A620
                  replace H := Option.bind_eq_some_iff.mp H
                  obtain ⟨⟨t256, t259, t260⟩, A630, H⟩ := H
                  replace H : ((debuggerlaw34_fates.f k3 t251 t254 t255 t256 t259 t260).bind fun t261 => (if t261 = true then ((link_FateOf.f l2 t250).bind fun bt262 => ((debuggerref34_FateOf.f l2 t250).bind fun bt267 => ((debuggerlaw34_fates.f k3 bt262.1 bt262.2.1 bt262.2.2 bt267.1 bt267.2.1 bt267.2.2).bind fun t272 => (if t272 = true then ((debuggerlaw34_awake.f k3).bind fun t273 => (some t273)) else (some false))))) else (some false))) = some r := H
                  have A63 := Aside0.mk A630
                  clear A630
                  replace H := Option.bind_eq_some_iff.mp H
                  obtain ⟨t261, A640, H⟩ := H
                  replace H : (if t261 = true then ((link_FateOf.f l2 t250).bind fun bt262 => ((debuggerref34_FateOf.f l2 t250).bind fun bt267 => ((debuggerlaw34_fates.f k3 bt262.1 bt262.2.1 bt262.2.2 bt267.1 bt267.2.1 bt267.2.2).bind fun t272 => (if t272 = true then ((debuggerlaw34_awake.f k3).bind fun t273 => (some t273)) else (some false))))) else (some false)) = some r := H
                  have A64 := Aside0.mk A640
                  clear A640
                  by_cases c65 : t261 = true
                  · subst c65
                    have H1 : ((link_FateOf.f l2 t250).bind fun bt262 => ((debuggerref34_FateOf.f l2 t250).bind fun bt267 => ((debuggerlaw34_fates.f k3 bt262.1 bt262.2.1 bt262.2.2 bt267.1 bt267.2.1 bt267.2.2).bind fun t272 => (if t272 = true then ((debuggerlaw34_awake.f k3).bind fun t273 => (some t273)) else (some false))))) = some r := by rw [if_pos rfl] at H; exact H
                    clear H
                    have H := H1
                    clear H1
                    replace H := Option.bind_eq_some_iff.mp H
                    obtain ⟨⟨t262, t265, t266⟩, A660, H⟩ := H
                    replace H : ((debuggerref34_FateOf.f l2 t250).bind fun bt267 => ((debuggerlaw34_fates.f k3 t262 t265 t266 bt267.1 bt267.2.1 bt267.2.2).bind fun t272 => (if t272 = true then ((debuggerlaw34_awake.f k3).bind fun t273 => (some t273)) else (some false)))) = some r := H
                    have A66 := Aside0.mk A660
                    clear A660
                    replace H := Option.bind_eq_some_iff.mp H
                    obtain ⟨⟨t267, t270, t271⟩, A670, H⟩ := H
                    replace H : ((debuggerlaw34_fates.f k3 t262 t265 t266 t267 t270 t271).bind fun t272 => (if t272 = true then ((debuggerlaw34_awake.f k3).bind fun t273 => (some t273)) else (some false))) = some r := H
                    have A67 := Aside0.mk A670
                    clear A670
                    replace H := Option.bind_eq_some_iff.mp H
                    obtain ⟨t272, A680, H⟩ := H
                    replace H : (if t272 = true then ((debuggerlaw34_awake.f k3).bind fun t273 => (some t273)) else (some false)) = some r := H
                    have A68 := Aside0.mk A680
                    clear A680
                    by_cases c69 : t272 = true
                    · subst c69
                      have H1 : ((debuggerlaw34_awake.f k3).bind fun t273 => (some t273)) = some r := by rw [if_pos rfl] at H; exact H
                      clear H
                      have H := H1
                      clear H1
                      replace H := Option.bind_eq_some_iff.mp H
                      obtain ⟨t273, A700, H⟩ := H
                      replace H : (some t273) = some r := H
                      have A70 := Aside0.mk A700
                      clear A700
                      obtain rfl := Option.some.inj H
                      go_wp2_with (first | ((with_reducible refine gate_callee (f := 10) rfl ?_); refine goesL_ (some 73) rfl rfl Try.func10 (by kernel_rfl) rfl #[.int .i64 a4, .int .i64 (wrap64 ((l2.length : Int) + 2))] rfl (by (try simp only [List.map_toArray, List.map_cons, List.map_nil]); first | done | rfl | (simp only [List.length_drop, List.length_take]; rfl)) ?_; (with_reducible refine (debuggerkit_Mod.calls a4 (wrap64 ((l2.length : Int) + 2)) t250 _ A61.out).mono ?_); rintro e w' ⟨rfl, ⟨nd, rfl⟩⟩; refine ⟨_, rfl, ?_⟩) | ((with_reducible refine gate_callee (f := 15) rfl ?_); refine goesL_ (some 76) rfl rfl Try.func15 (by kernel_rfl) rfl #[.slice A2 l2.length c2, .int .i64 a4] rfl (by (try simp only [List.map_toArray, List.map_cons, List.map_nil]); first | done | rfl | (simp only [List.length_drop, List.length_take]; rfl)) ?_; (with_reducible refine (link_FateOf.calls _ _ l2 a4 t251 t254 t255 _ ?side1 ?side2 A62.out).mono ?_); (case side1 => repeat (first | exact (Kd.C_below HR2.out (by repeat (first | (with_reducible first | exact HB.out | apply below_alloc | apply pw_below_drewN | apply below_drew1 | refine below_set ?_ GE232.out | refine below_set ?_ GE236.out) | exact HB.out))) | (with_reducible refine Kd.C_alloc ?_ _) | (with_reducible refine Kd.C_drewN ?_ _) | (with_reducible refine Kd.C_drew ?_))); (case side2 => exact HC2.out); rintro e w71 ⟨v252, rfl, ho0, hb⟩; refine ⟨_, rfl, ?_⟩; have n0_ := Aside0.mk (Kd.V_elder' (by (with_reducible repeat (first | apply Kd.V_alloc | apply Kd.V_drewN | apply Kd.V_drew)); exact HO_0.out) (by first | (with_reducible exact Kd.R_base ho0) | (with_reducible exact Kd.S_base ho0) | (with_reducible exact Kd.R_base ho0) | exact Kd.R_base ho0) hb); have n1_ := Aside0.mk (Kd.N_elder' (by (with_reducible repeat (first | apply Kd.N_alloc | apply Kd.N_drewN | apply Kd.N_drew)); exact HO_50.out) (by first | (with_reducible exact Kd.R_base ho0) | (with_reducible exact Kd.S_base ho0) | (with_reducible exact Kd.R_base ho0) | exact Kd.R_base ho0) hb); have n2_ := Aside0.mk (Kd.V_elder' (by (with_reducible repeat (first | apply Kd.V_alloc | apply Kd.V_drewN | apply Kd.V_drew)); exact HO_233000.out) (by first | (with_reducible exact Kd.R_base ho0) | (with_reducible exact Kd.S_base ho0) | (with_reducible exact Kd.R_base ho0) | exact Kd.R_base ho0) hb); have n3_ := Aside0.mk (Kd.V_elder' (by (with_reducible repeat (first | apply Kd.V_alloc | apply Kd.V_drewN | apply Kd.V_drew)); exact HO_237000.out) (by first | (with_reducible exact Kd.R_base ho0) | (with_reducible exact Kd.S_base ho0) | (with_reducible exact Kd.R_base ho0) | exact Kd.R_base ho0) hb); have n4_ := Aside0.mk (Kd.R_lower (Kd.R_newM (M := fun k_ => (w.heap.size ≤ k_)) ho0 (below_size (by repeat (first | (with_reducible first | exact HB.out | apply below_alloc | apply pw_below_drewN | apply below_drew1 | refine below_set ?_ GE232.out | refine below_set ?_ GE236.out) | exact HB.out))) (fun k_ h_ => h_)) (below_size (by repeat (first | (with_reducible first | exact HB.out | apply below_alloc | apply pw_below_drewN | apply below_drew1 | refine below_set ?_ GE232.out | refine below_set ?_ GE236.out) | exact HB.out)))); have n5_ := Aside0.mk (blk_below (g := gb232) (o := .cells #[.slice A1_0 l1_0.length c1_0, .int .i64 a1_1, .int .i64 a1_2] 25 (0, 0)) (by (with_reducible repeat (first | refine blk_drewN ?_ _ | refine blk_drew ?_ | refine blk_alloc ?_ _)); exact BK232.out) hb); have n6_ := Aside0.mk (blk_below (g := gb236) (o := .cells #[.slice A1_0 l1_0.length c1_0, .int .i64 x237001_19, .int .i64 a1_2] 25 (0, 0)) (by (with_reducible repeat (first | refine blk_drewN ?_ _ | refine blk_drew ?_ | refine blk_alloc ?_ _)); exact BK236.out) hb); have n7_ := Aside0.mk (below_step (by repeat (first | (with_reducible first | exact HB.out | apply below_alloc | apply pw_below_drewN | apply below_drew1 | refine below_set ?_ GE232.out | refine below_set ?_ GE236.out) | exact HB.out)) hb); clear HO_0; clear HO_50; clear HO_233000; clear HO_237000; clear BK232; clear BK236; clear HB; have HO_0 := n0_; have HO_50 := n1_; have HO_233000 := n2_; have HO_237000 := n3_; have HO253 := n4_; have BK232 := n5_; have BK236 := n6_; have HB := n7_; clear n0_ n1_ n2_ n3_ n4_ n5_ n6_ n7_; (try clear hb); (try clear hb2); (try clear hk); (try clear hi); (try clear ho0)) | ((with_reducible refine gate_callee (f := 16) rfl ?_); refine goesL_ (some 79) rfl rfl Try.func16 (by kernel_rfl) rfl #[.slice A2 l2.length c2, .int .i64 a4] rfl (by (try simp only [List.map_toArray, List.map_cons, List.map_nil]); first | done | rfl | (simp only [List.length_drop, List.length_take]; rfl)) ?_; (with_reducible refine (debuggerref34_FateOf.calls _ _ l2 a4 t256 t259 t260 _ ?side1 ?side2 A63.out).mono ?_); (case side1 => repeat (first | exact (Kd.C_below HR2.out HB.out) | (with_reducible refine Kd.C_alloc ?_ _) | (with_reducible refine Kd.C_drewN ?_ _) | (with_reducible refine Kd.C_drew ?_))); (case side2 => exact HC2.out); rintro e w72 ⟨v257, rfl, ho0, hb⟩; refine ⟨_, rfl, ?_⟩; have n0_ := Aside0.mk (Kd.V_elder' (by (with_reducible repeat (first | apply Kd.V_alloc | apply Kd.V_drewN | apply Kd.V_drew)); exact HO_0.out) (by first | (with_reducible exact Kd.R_base ho0) | (with_reducible exact Kd.S_base ho0) | (with_reducible exact Kd.R_base ho0) | exact Kd.R_base ho0) hb); have n1_ := Aside0.mk (Kd.N_elder' (by (with_reducible repeat (first | apply Kd.N_alloc | apply Kd.N_drewN | apply Kd.N_drew)); exact HO_50.out) (by first | (with_reducible exact Kd.R_base ho0) | (with_reducible exact Kd.S_base ho0) | (with_reducible exact Kd.R_base ho0) | exact Kd.R_base ho0) hb); have n2_ := Aside0.mk (Kd.V_elder' (by (with_reducible repeat (first | apply Kd.V_alloc | apply Kd.V_drewN | apply Kd.V_drew)); exact HO_233000.out) (by first | (with_reducible exact Kd.R_base ho0) | (with_reducible exact Kd.S_base ho0) | (with_reducible exact Kd.R_base ho0) | exact Kd.R_base ho0) hb); have n3_ := Aside0.mk (Kd.V_elder' (by (with_reducible repeat (first | apply Kd.V_alloc | apply Kd.V_drewN | apply Kd.V_drew)); exact HO_237000.out) (by first | (with_reducible exact Kd.R_base ho0) | (with_reducible exact Kd.S_base ho0) | (with_reducible exact Kd.R_base ho0) | exact Kd.R_base ho0) hb); have n4_ := Aside0.mk (Kd.R_elder' (by (with_reducible repeat (first | apply Kd.R_alloc | apply Kd.R_drewN | apply Kd.R_drew)); exact HO253.out) (by first | (with_reducible exact Kd.R_base ho0) | (with_reducible exact Kd.S_base ho0) | (with_reducible exact Kd.R_base ho0) | exact Kd.R_base ho0) hb); have n5_ := Aside0.mk (Kd.R_lower (Kd.R_new' (Kd.R_newM (M := fun k_ => (w.heap.size ≤ k_)) ho0 (below_size (by repeat (first | (with_reducible first | exact HB.out | apply below_alloc | apply pw_below_drewN | apply below_drew1 | refine below_set ?_ GE232.out | refine below_set ?_ GE236.out) | exact HB.out))) (fun k_ h_ => h_)) (Kd.R_lt (by (with_reducible repeat (first | apply Kd.R_alloc | apply Kd.R_drewN | apply Kd.R_drew)); exact HO253.out))) (below_size (by repeat (first | (with_reducible first | exact HB.out | apply below_alloc | apply pw_below_drewN | apply below_drew1 | refine below_set ?_ GE232.out | refine below_set ?_ GE236.out) | exact HB.out)))); have n6_ := Aside0.mk (blk_below (g := gb232) (o := .cells #[.slice A1_0 l1_0.length c1_0, .int .i64 a1_1, .int .i64 a1_2] 25 (0, 0)) (by (with_reducible repeat (first | refine blk_drewN ?_ _ | refine blk_drew ?_ | refine blk_alloc ?_ _)); exact BK232.out) hb); have n7_ := Aside0.mk (blk_below (g := gb236) (o := .cells #[.slice A1_0 l1_0.length c1_0, .int .i64 x237001_19, .int .i64 a1_2] 25 (0, 0)) (by (with_reducible repeat (first | refine blk_drewN ?_ _ | refine blk_drew ?_ | refine blk_alloc ?_ _)); exact BK236.out) hb); have n8_ := Aside0.mk (below_step (by repeat (first | (with_reducible first | exact HB.out | apply below_alloc | apply pw_below_drewN | apply below_drew1 | refine below_set ?_ GE232.out | refine below_set ?_ GE236.out) | exact HB.out)) hb); clear HO_0; clear HO_50; clear HO_233000; clear HO_237000; clear HO253; clear BK232; clear BK236; clear HB; have HO_0 := n0_; have HO_50 := n1_; have HO_233000 := n2_; have HO_237000 := n3_; have HO253 := n4_; have HO258 := n5_; have BK232 := n6_; have BK236 := n7_; have HB := n8_; clear n0_ n1_ n2_ n3_ n4_ n5_ n6_ n7_ n8_; (try clear hb); (try clear hb2); (try clear hk); (try clear hi); (try clear ho0); obtain ⟨Ao73, co73, eo73⟩ := Kd.R_slice HO253.out; subst eo73; obtain ⟨Ao74, co74, eo74⟩ := Kd.R_slice HO258.out; subst eo74) | ((with_reducible refine gate_callee (f := 14) rfl ?_); refine goesL_ (some 80) rfl rfl Try.func14 (by kernel_rfl) rfl #[.agg #[.slice Ao73 t251.length co73, .int .i64 t254, .int .i64 t255], .agg #[.slice Ao74 t256.length co74, .int .i64 t259, .int .i64 t260]] rfl (by (try simp only [List.map_toArray, List.map_cons, List.map_nil]); first | done | rfl | (simp only [List.length_drop, List.length_take]; rfl)) ?_; (with_reducible refine (debuggerlaw34_fates.calls k3 _ _ t251 t254 t255 _ _ t256 t259 t260 true _ ?side1 ?side2 ?side3 ?side4 A64.out).mono ?_); (case side1 => repeat (first | exact (Kd.R_reads' HO253.out).2.2 | (with_reducible refine Kd.C_alloc ?_ _) | (with_reducible refine Kd.C_drewN ?_ _) | (with_reducible refine Kd.C_drew ?_))); (case side2 => exact (Kd.R_reads' HO253.out).2.1); (case side3 => repeat (first | exact (Kd.R_reads' HO258.out).2.2 | (with_reducible refine Kd.C_alloc ?_ _) | (with_reducible refine Kd.C_drewN ?_ _) | (with_reducible refine Kd.C_drew ?_))); (case side4 => exact (Kd.R_reads' HO258.out).2.1); rintro e w75 ⟨rfl, hb⟩; refine ⟨_, rfl, ?_⟩; have n0_ := Aside0.mk (Kd.V_below (by (with_reducible repeat (first | apply Kd.V_alloc | apply Kd.V_drewN | apply Kd.V_drew)); exact HO_0.out) hb); have n1_ := Aside0.mk (Kd.N_below (by (with_reducible repeat (first | apply Kd.N_alloc | apply Kd.N_drewN | apply Kd.N_drew)); exact HO_50.out) hb); have n2_ := Aside0.mk (Kd.V_below (by (with_reducible repeat (first | apply Kd.V_alloc | apply Kd.V_drewN | apply Kd.V_drew)); exact HO_233000.out) hb); have n3_ := Aside0.mk (Kd.V_below (by (with_reducible repeat (first | apply Kd.V_alloc | apply Kd.V_drewN | apply Kd.V_drew)); exact HO_237000.out) hb); have n4_ := Aside0.mk (Kd.R_below (by (with_reducible repeat (first | apply Kd.R_alloc | apply Kd.R_drewN | apply Kd.R_drew)); exact HO253.out) hb); have n5_ := Aside0.mk (Kd.R_below (by (with_reducible repeat (first | apply Kd.R_alloc | apply Kd.R_drewN | apply Kd.R_drew)); exact HO258.out) hb); have n6_ := Aside0.mk (blk_below (g := gb232) (o := .cells #[.slice A1_0 l1_0.length c1_0, .int .i64 a1_1, .int .i64 a1_2] 25 (0, 0)) (by (with_reducible repeat (first | refine blk_drewN ?_ _ | refine blk_drew ?_ | refine blk_alloc ?_ _)); exact BK232.out) hb); have n7_ := Aside0.mk (blk_below (g := gb236) (o := .cells #[.slice A1_0 l1_0.length c1_0, .int .i64 x237001_19, .int .i64 a1_2] 25 (0, 0)) (by (with_reducible repeat (first | refine blk_drewN ?_ _ | refine blk_drew ?_ | refine blk_alloc ?_ _)); exact BK236.out) hb); have n8_ := Aside0.mk (below_step (by repeat (first | (with_reducible first | exact HB.out | apply below_alloc | apply pw_below_drewN | apply below_drew1 | refine below_set ?_ GE232.out | refine below_set ?_ GE236.out) | exact HB.out)) hb); clear HO_0; clear HO_50; clear HO_233000; clear HO_237000; clear HO253; clear HO258; clear BK232; clear BK236; clear HB; have HO_0 := n0_; have HO_50 := n1_; have HO_233000 := n2_; have HO_237000 := n3_; have HO253 := n4_; have HO258 := n5_; have BK232 := n6_; have BK236 := n7_; have HB := n8_; clear n0_ n1_ n2_ n3_ n4_ n5_ n6_ n7_ n8_; (try clear hb); (try clear hb2); (try clear hk); (try clear hi)) | (go_at_call 15; (with_reducible refine (link_FateOf.calls _ _ l2 t250 t262 t265 t266 _ ?side1 ?side2 A66.out).mono ?_); (case side1 => repeat (first | exact (Kd.C_below HR2.out HB.out) | (with_reducible refine Kd.C_alloc ?_ _) | (with_reducible refine Kd.C_drewN ?_ _) | (with_reducible refine Kd.C_drew ?_))); (case side2 => exact HC2.out); rintro e w76 ⟨v263, rfl, ho0, hb⟩; have n0_ := Aside0.mk (Kd.V_elder' (by (with_reducible repeat (first | apply Kd.V_alloc | apply Kd.V_drewN | apply Kd.V_drew)); exact HO_0.out) (by first | (with_reducible exact Kd.R_base ho0) | (with_reducible exact Kd.S_base ho0) | (with_reducible exact Kd.R_base ho0) | exact Kd.R_base ho0) hb); have n1_ := Aside0.mk (Kd.N_elder' (by (with_reducible repeat (first | apply Kd.N_alloc | apply Kd.N_drewN | apply Kd.N_drew)); exact HO_50.out) (by first | (with_reducible exact Kd.R_base ho0) | (with_reducible exact Kd.S_base ho0) | (with_reducible exact Kd.R_base ho0) | exact Kd.R_base ho0) hb); have n2_ := Aside0.mk (Kd.V_elder' (by (with_reducible repeat (first | apply Kd.V_alloc | apply Kd.V_drewN | apply Kd.V_drew)); exact HO_233000.out) (by first | (with_reducible exact Kd.R_base ho0) | (with_reducible exact Kd.S_base ho0) | (with_reducible exact Kd.R_base ho0) | exact Kd.R_base ho0) hb); have n3_ := Aside0.mk (Kd.V_elder' (by (with_reducible repeat (first | apply Kd.V_alloc | apply Kd.V_drewN | apply Kd.V_drew)); exact HO_237000.out) (by first | (with_reducible exact Kd.R_base ho0) | (with_reducible exact Kd.S_base ho0) | (with_reducible exact Kd.R_base ho0) | exact Kd.R_base ho0) hb); have n4_ := Aside0.mk (Kd.R_elder' (by (with_reducible repeat (first | apply Kd.R_alloc | apply Kd.R_drewN | apply Kd.R_drew)); exact HO253.out) (by first | (with_reducible exact Kd.R_base ho0) | (with_reducible exact Kd.S_base ho0) | (with_reducible exact Kd.R_base ho0) | exact Kd.R_base ho0) hb); have n5_ := Aside0.mk (Kd.R_elder' (by (with_reducible repeat (first | apply Kd.R_alloc | apply Kd.R_drewN | apply Kd.R_drew)); exact HO258.out) (by first | (with_reducible exact Kd.R_base ho0) | (with_reducible exact Kd.S_base ho0) | (with_reducible exact Kd.R_base ho0) | exact Kd.R_base ho0) hb); have n6_ := Aside0.mk (Kd.R_lower (Kd.R_new' (Kd.R_new' (Kd.R_newM (M := fun k_ => (w.heap.size ≤ k_)) ho0 (below_size (by repeat (first | (with_reducible first | exact HB.out | apply below_alloc | apply pw_below_drewN | apply below_drew1 | refine below_set ?_ GE232.out | refine below_set ?_ GE236.out) | exact HB.out))) (fun k_ h_ => h_)) (Kd.R_lt (by (with_reducible repeat (first | apply Kd.R_alloc | apply Kd.R_drewN | apply Kd.R_drew)); exact HO253.out))) (Kd.R_lt (by (with_reducible repeat (first | apply Kd.R_alloc | apply Kd.R_drewN | apply Kd.R_drew)); exact HO258.out))) (below_size (by repeat (first | (with_reducible first | exact HB.out | apply below_alloc | apply pw_below_drewN | apply below_drew1 | refine below_set ?_ GE232.out | refine below_set ?_ GE236.out) | exact HB.out)))); have n7_ := Aside0.mk (blk_below (g := gb232) (o := .cells #[.slice A1_0 l1_0.length c1_0, .int .i64 a1_1, .int .i64 a1_2] 25 (0, 0)) (by (with_reducible repeat (first | refine blk_drewN ?_ _ | refine blk_drew ?_ | refine blk_alloc ?_ _)); exact BK232.out) hb); have n8_ := Aside0.mk (blk_below (g := gb236) (o := .cells #[.slice A1_0 l1_0.length c1_0, .int .i64 x237001_19, .int .i64 a1_2] 25 (0, 0)) (by (with_reducible repeat (first | refine blk_drewN ?_ _ | refine blk_drew ?_ | refine blk_alloc ?_ _)); exact BK236.out) hb); have n9_ := Aside0.mk (below_step (by repeat (first | (with_reducible first | exact HB.out | apply below_alloc | apply pw_below_drewN | apply below_drew1 | refine below_set ?_ GE232.out | refine below_set ?_ GE236.out) | exact HB.out)) hb); clear HO_0; clear HO_50; clear HO_233000; clear HO_237000; clear HO253; clear HO258; clear BK232; clear BK236; clear HB; have HO_0 := n0_; have HO_50 := n1_; have HO_233000 := n2_; have HO_237000 := n3_; have HO253 := n4_; have HO258 := n5_; have HO264 := n6_; have BK232 := n7_; have BK236 := n8_; have HB := n9_; clear n0_ n1_ n2_ n3_ n4_ n5_ n6_ n7_ n8_ n9_; (try clear hb); (try clear hb2); (try clear hk); (try clear hi); (try clear ho0)) | (go_at_call 16; (with_reducible refine (debuggerref34_FateOf.calls _ _ l2 t250 t267 t270 t271 _ ?side1 ?side2 A67.out).mono ?_); (case side1 => repeat (first | exact (Kd.C_below HR2.out HB.out) | (with_reducible refine Kd.C_alloc ?_ _) | (with_reducible refine Kd.C_drewN ?_ _) | (with_reducible refine Kd.C_drew ?_))); (case side2 => exact HC2.out); rintro e w77 ⟨v268, rfl, ho0, hb⟩; have n0_ := Aside0.mk (Kd.V_elder' (by (with_reducible repeat (first | apply Kd.V_alloc | apply Kd.V_drewN | apply Kd.V_drew)); exact HO_0.out) (by first | (with_reducible exact Kd.R_base ho0) | (with_reducible exact Kd.S_base ho0) | (with_reducible exact Kd.R_base ho0) | exact Kd.R_base ho0) hb); have n1_ := Aside0.mk (Kd.N_elder' (by (with_reducible repeat (first | apply Kd.N_alloc | apply Kd.N_drewN | apply Kd.N_drew)); exact HO_50.out) (by first | (with_reducible exact Kd.R_base ho0) | (with_reducible exact Kd.S_base ho0) | (with_reducible exact Kd.R_base ho0) | exact Kd.R_base ho0) hb); have n2_ := Aside0.mk (Kd.V_elder' (by (with_reducible repeat (first | apply Kd.V_alloc | apply Kd.V_drewN | apply Kd.V_drew)); exact HO_233000.out) (by first | (with_reducible exact Kd.R_base ho0) | (with_reducible exact Kd.S_base ho0) | (with_reducible exact Kd.R_base ho0) | exact Kd.R_base ho0) hb); have n3_ := Aside0.mk (Kd.V_elder' (by (with_reducible repeat (first | apply Kd.V_alloc | apply Kd.V_drewN | apply Kd.V_drew)); exact HO_237000.out) (by first | (with_reducible exact Kd.R_base ho0) | (with_reducible exact Kd.S_base ho0) | (with_reducible exact Kd.R_base ho0) | exact Kd.R_base ho0) hb); have n4_ := Aside0.mk (Kd.R_elder' (by (with_reducible repeat (first | apply Kd.R_alloc | apply Kd.R_drewN | apply Kd.R_drew)); exact HO253.out) (by first | (with_reducible exact Kd.R_base ho0) | (with_reducible exact Kd.S_base ho0) | (with_reducible exact Kd.R_base ho0) | exact Kd.R_base ho0) hb); have n5_ := Aside0.mk (Kd.R_elder' (by (with_reducible repeat (first | apply Kd.R_alloc | apply Kd.R_drewN | apply Kd.R_drew)); exact HO258.out) (by first | (with_reducible exact Kd.R_base ho0) | (with_reducible exact Kd.S_base ho0) | (with_reducible exact Kd.R_base ho0) | exact Kd.R_base ho0) hb); have n6_ := Aside0.mk (Kd.R_elder' (by (with_reducible repeat (first | apply Kd.R_alloc | apply Kd.R_drewN | apply Kd.R_drew)); exact HO264.out) (by first | (with_reducible exact Kd.R_base ho0) | (with_reducible exact Kd.S_base ho0) | (with_reducible exact Kd.R_base ho0) | exact Kd.R_base ho0) hb); have n7_ := Aside0.mk (Kd.R_lower (Kd.R_new' (Kd.R_new' (Kd.R_new' (Kd.R_newM (M := fun k_ => (w.heap.size ≤ k_)) ho0 (below_size (by repeat (first | (with_reducible first | exact HB.out | apply below_alloc | apply pw_below_drewN | apply below_drew1 | refine below_set ?_ GE232.out | refine below_set ?_ GE236.out) | exact HB.out))) (fun k_ h_ => h_)) (Kd.R_lt (by (with_reducible repeat (first | apply Kd.R_alloc | apply Kd.R_drewN | apply Kd.R_drew)); exact HO253.out))) (Kd.R_lt (by (with_reducible repeat (first | apply Kd.R_alloc | apply Kd.R_drewN | apply Kd.R_drew)); exact HO258.out))) (Kd.R_lt (by (with_reducible repeat (first | apply Kd.R_alloc | apply Kd.R_drewN | apply Kd.R_drew)); exact HO264.out))) (below_size (by repeat (first | (with_reducible first | exact HB.out | apply below_alloc | apply pw_below_drewN | apply below_drew1 | refine below_set ?_ GE232.out | refine below_set ?_ GE236.out) | exact HB.out)))); have n8_ := Aside0.mk (blk_below (g := gb232) (o := .cells #[.slice A1_0 l1_0.length c1_0, .int .i64 a1_1, .int .i64 a1_2] 25 (0, 0)) (by (with_reducible repeat (first | refine blk_drewN ?_ _ | refine blk_drew ?_ | refine blk_alloc ?_ _)); exact BK232.out) hb); have n9_ := Aside0.mk (blk_below (g := gb236) (o := .cells #[.slice A1_0 l1_0.length c1_0, .int .i64 x237001_19, .int .i64 a1_2] 25 (0, 0)) (by (with_reducible repeat (first | refine blk_drewN ?_ _ | refine blk_drew ?_ | refine blk_alloc ?_ _)); exact BK236.out) hb); have n10_ := Aside0.mk (below_step (by repeat (first | (with_reducible first | exact HB.out | apply below_alloc | apply pw_below_drewN | apply below_drew1 | refine below_set ?_ GE232.out | refine below_set ?_ GE236.out) | exact HB.out)) hb); clear HO_0; clear HO_50; clear HO_233000; clear HO_237000; clear HO253; clear HO258; clear HO264; clear BK232; clear BK236; clear HB; have HO_0 := n0_; have HO_50 := n1_; have HO_233000 := n2_; have HO_237000 := n3_; have HO253 := n4_; have HO258 := n5_; have HO264 := n6_; have HO269 := n7_; have BK232 := n8_; have BK236 := n9_; have HB := n10_; clear n0_ n1_ n2_ n3_ n4_ n5_ n6_ n7_ n8_ n9_ n10_; (try clear hb); (try clear hb2); (try clear hk); (try clear hi); (try clear ho0); obtain ⟨Ao78, co78, eo78⟩ := Kd.R_slice HO264.out; subst eo78; obtain ⟨Ao79, co79, eo79⟩ := Kd.R_slice HO269.out; subst eo79) | (go_at_call 14; (with_reducible refine (debuggerlaw34_fates.calls k3 _ _ t262 t265 t266 _ _ t267 t270 t271 true _ ?side1 ?side2 ?side3 ?side4 A68.out).mono ?_); (case side1 => repeat (first | exact (Kd.R_reads' HO264.out).2.2 | (with_reducible refine Kd.C_alloc ?_ _) | (with_reducible refine Kd.C_drewN ?_ _) | (with_reducible refine Kd.C_drew ?_))); (case side2 => exact (Kd.R_reads' HO264.out).2.1); (case side3 => repeat (first | exact (Kd.R_reads' HO269.out).2.2 | (with_reducible refine Kd.C_alloc ?_ _) | (with_reducible refine Kd.C_drewN ?_ _) | (with_reducible refine Kd.C_drew ?_))); (case side4 => exact (Kd.R_reads' HO269.out).2.1); rintro e w80 ⟨rfl, hb⟩; have n0_ := Aside0.mk (Kd.V_below (by (with_reducible repeat (first | apply Kd.V_alloc | apply Kd.V_drewN | apply Kd.V_drew)); exact HO_0.out) hb); have n1_ := Aside0.mk (Kd.N_below (by (with_reducible repeat (first | apply Kd.N_alloc | apply Kd.N_drewN | apply Kd.N_drew)); exact HO_50.out) hb); have n2_ := Aside0.mk (Kd.V_below (by (with_reducible repeat (first | apply Kd.V_alloc | apply Kd.V_drewN | apply Kd.V_drew)); exact HO_233000.out) hb); have n3_ := Aside0.mk (Kd.V_below (by (with_reducible repeat (first | apply Kd.V_alloc | apply Kd.V_drewN | apply Kd.V_drew)); exact HO_237000.out) hb); have n4_ := Aside0.mk (Kd.R_below (by (with_reducible repeat (first | apply Kd.R_alloc | apply Kd.R_drewN | apply Kd.R_drew)); exact HO253.out) hb); have n5_ := Aside0.mk (Kd.R_below (by (with_reducible repeat (first | apply Kd.R_alloc | apply Kd.R_drewN | apply Kd.R_drew)); exact HO258.out) hb); have n6_ := Aside0.mk (Kd.R_below (by (with_reducible repeat (first | apply Kd.R_alloc | apply Kd.R_drewN | apply Kd.R_drew)); exact HO264.out) hb); have n7_ := Aside0.mk (Kd.R_below (by (with_reducible repeat (first | apply Kd.R_alloc | apply Kd.R_drewN | apply Kd.R_drew)); exact HO269.out) hb); have n8_ := Aside0.mk (blk_below (g := gb232) (o := .cells #[.slice A1_0 l1_0.length c1_0, .int .i64 a1_1, .int .i64 a1_2] 25 (0, 0)) (by (with_reducible repeat (first | refine blk_drewN ?_ _ | refine blk_drew ?_ | refine blk_alloc ?_ _)); exact BK232.out) hb); have n9_ := Aside0.mk (blk_below (g := gb236) (o := .cells #[.slice A1_0 l1_0.length c1_0, .int .i64 x237001_19, .int .i64 a1_2] 25 (0, 0)) (by (with_reducible repeat (first | refine blk_drewN ?_ _ | refine blk_drew ?_ | refine blk_alloc ?_ _)); exact BK236.out) hb); have n10_ := Aside0.mk (below_step (by repeat (first | (with_reducible first | exact HB.out | apply below_alloc | apply pw_below_drewN | apply below_drew1 | refine below_set ?_ GE232.out | refine below_set ?_ GE236.out) | exact HB.out)) hb); clear HO_0; clear HO_50; clear HO_233000; clear HO_237000; clear HO253; clear HO258; clear HO264; clear HO269; clear BK232; clear BK236; clear HB; have HO_0 := n0_; have HO_50 := n1_; have HO_233000 := n2_; have HO_237000 := n3_; have HO253 := n4_; have HO258 := n5_; have HO264 := n6_; have HO269 := n7_; have BK232 := n8_; have BK236 := n9_; have HB := n10_; clear n0_ n1_ n2_ n3_ n4_ n5_ n6_ n7_ n8_ n9_ n10_; (try clear hb); (try clear hb2); (try clear hk); (try clear hi)) | (go_at_call 9; (with_reducible refine (debuggerlaw34_awake.calls k3  t273 _ A70.out).mono ?_); rintro e w81 ⟨rfl, hb⟩; have n0_ := Aside0.mk (Kd.V_below (by (with_reducible repeat (first | apply Kd.V_alloc | apply Kd.V_drewN | apply Kd.V_drew)); exact HO_0.out) hb); have n1_ := Aside0.mk (Kd.N_below (by (with_reducible repeat (first | apply Kd.N_alloc | apply Kd.N_drewN | apply Kd.N_drew)); exact HO_50.out) hb); have n2_ := Aside0.mk (Kd.V_below (by (with_reducible repeat (first | apply Kd.V_alloc | apply Kd.V_drewN | apply Kd.V_drew)); exact HO_233000.out) hb); have n3_ := Aside0.mk (Kd.V_below (by (with_reducible repeat (first | apply Kd.V_alloc | apply Kd.V_drewN | apply Kd.V_drew)); exact HO_237000.out) hb); have n4_ := Aside0.mk (Kd.R_below (by (with_reducible repeat (first | apply Kd.R_alloc | apply Kd.R_drewN | apply Kd.R_drew)); exact HO253.out) hb); have n5_ := Aside0.mk (Kd.R_below (by (with_reducible repeat (first | apply Kd.R_alloc | apply Kd.R_drewN | apply Kd.R_drew)); exact HO258.out) hb); have n6_ := Aside0.mk (Kd.R_below (by (with_reducible repeat (first | apply Kd.R_alloc | apply Kd.R_drewN | apply Kd.R_drew)); exact HO264.out) hb); have n7_ := Aside0.mk (Kd.R_below (by (with_reducible repeat (first | apply Kd.R_alloc | apply Kd.R_drewN | apply Kd.R_drew)); exact HO269.out) hb); have n8_ := Aside0.mk (blk_below (g := gb232) (o := .cells #[.slice A1_0 l1_0.length c1_0, .int .i64 a1_1, .int .i64 a1_2] 25 (0, 0)) (by (with_reducible repeat (first | refine blk_drewN ?_ _ | refine blk_drew ?_ | refine blk_alloc ?_ _)); exact BK232.out) hb); have n9_ := Aside0.mk (blk_below (g := gb236) (o := .cells #[.slice A1_0 l1_0.length c1_0, .int .i64 x237001_19, .int .i64 a1_2] 25 (0, 0)) (by (with_reducible repeat (first | refine blk_drewN ?_ _ | refine blk_drew ?_ | refine blk_alloc ?_ _)); exact BK236.out) hb); have n10_ := Aside0.mk (below_step (by repeat (first | (with_reducible first | exact HB.out | apply below_alloc | apply pw_below_drewN | apply below_drew1 | refine below_set ?_ GE232.out | refine below_set ?_ GE236.out) | exact HB.out)) hb); clear HO_0; clear HO_50; clear HO_233000; clear HO_237000; clear HO253; clear HO258; clear HO264; clear HO269; clear BK232; clear BK236; clear HB; have HO_0 := n0_; have HO_50 := n1_; have HO_233000 := n2_; have HO_237000 := n3_; have HO253 := n4_; have HO258 := n5_; have HO264 := n6_; have HO269 := n7_; have BK232 := n8_; have BK236 := n9_; have HB := n10_; clear n0_ n1_ n2_ n3_ n4_ n5_ n6_ n7_ n8_ n9_ n10_; (try clear hb); (try clear hb2); (try clear hk); (try clear hi)))
                      go_ret
                      exact ⟨by first | rfl | (simp [errW_none, errW_some] <;> rfl) | (simp [*, errW_none, errW_some] <;> rfl), by repeat (first | (with_reducible first | exact HB.out | apply below_alloc | apply pw_below_drewN | apply below_drew1 | refine below_set ?_ GE232.out | refine below_set ?_ GE236.out) | exact HB.out)⟩
                    · replace c69 := Bool.eq_false_iff.mpr c69
                      subst c69
                      have H1 : (some false) = some r := by rw [if_neg (show ¬ (false = true) by decide)] at H; exact H
                      clear H
                      have H := H1
                      clear H1
                      obtain rfl := Option.some.inj H
                      go_wp2_with (first | ((with_reducible refine gate_callee (f := 10) rfl ?_); refine goesL_ (some 73) rfl rfl Try.func10 (by kernel_rfl) rfl #[.int .i64 a4, .int .i64 (wrap64 ((l2.length : Int) + 2))] rfl (by (try simp only [List.map_toArray, List.map_cons, List.map_nil]); first | done | rfl | (simp only [List.length_drop, List.length_take]; rfl)) ?_; (with_reducible refine (debuggerkit_Mod.calls a4 (wrap64 ((l2.length : Int) + 2)) t250 _ A61.out).mono ?_); rintro e w' ⟨rfl, ⟨nd, rfl⟩⟩; refine ⟨_, rfl, ?_⟩) | ((with_reducible refine gate_callee (f := 15) rfl ?_); refine goesL_ (some 76) rfl rfl Try.func15 (by kernel_rfl) rfl #[.slice A2 l2.length c2, .int .i64 a4] rfl (by (try simp only [List.map_toArray, List.map_cons, List.map_nil]); first | done | rfl | (simp only [List.length_drop, List.length_take]; rfl)) ?_; (with_reducible refine (link_FateOf.calls _ _ l2 a4 t251 t254 t255 _ ?side1 ?side2 A62.out).mono ?_); (case side1 => repeat (first | exact (Kd.C_below HR2.out (by repeat (first | (with_reducible first | exact HB.out | apply below_alloc | apply pw_below_drewN | apply below_drew1 | refine below_set ?_ GE232.out | refine below_set ?_ GE236.out) | exact HB.out))) | (with_reducible refine Kd.C_alloc ?_ _) | (with_reducible refine Kd.C_drewN ?_ _) | (with_reducible refine Kd.C_drew ?_))); (case side2 => exact HC2.out); rintro e w82 ⟨v252, rfl, ho0, hb⟩; refine ⟨_, rfl, ?_⟩; have n0_ := Aside0.mk (Kd.V_elder' (by (with_reducible repeat (first | apply Kd.V_alloc | apply Kd.V_drewN | apply Kd.V_drew)); exact HO_0.out) (by first | (with_reducible exact Kd.R_base ho0) | (with_reducible exact Kd.S_base ho0) | (with_reducible exact Kd.R_base ho0) | exact Kd.R_base ho0) hb); have n1_ := Aside0.mk (Kd.N_elder' (by (with_reducible repeat (first | apply Kd.N_alloc | apply Kd.N_drewN | apply Kd.N_drew)); exact HO_50.out) (by first | (with_reducible exact Kd.R_base ho0) | (with_reducible exact Kd.S_base ho0) | (with_reducible exact Kd.R_base ho0) | exact Kd.R_base ho0) hb); have n2_ := Aside0.mk (Kd.V_elder' (by (with_reducible repeat (first | apply Kd.V_alloc | apply Kd.V_drewN | apply Kd.V_drew)); exact HO_233000.out) (by first | (with_reducible exact Kd.R_base ho0) | (with_reducible exact Kd.S_base ho0) | (with_reducible exact Kd.R_base ho0) | exact Kd.R_base ho0) hb); have n3_ := Aside0.mk (Kd.V_elder' (by (with_reducible repeat (first | apply Kd.V_alloc | apply Kd.V_drewN | apply Kd.V_drew)); exact HO_237000.out) (by first | (with_reducible exact Kd.R_base ho0) | (with_reducible exact Kd.S_base ho0) | (with_reducible exact Kd.R_base ho0) | exact Kd.R_base ho0) hb); have n4_ := Aside0.mk (Kd.R_lower (Kd.R_newM (M := fun k_ => (w.heap.size ≤ k_)) ho0 (below_size (by repeat (first | (with_reducible first | exact HB.out | apply below_alloc | apply pw_below_drewN | apply below_drew1 | refine below_set ?_ GE232.out | refine below_set ?_ GE236.out) | exact HB.out))) (fun k_ h_ => h_)) (below_size (by repeat (first | (with_reducible first | exact HB.out | apply below_alloc | apply pw_below_drewN | apply below_drew1 | refine below_set ?_ GE232.out | refine below_set ?_ GE236.out) | exact HB.out)))); have n5_ := Aside0.mk (blk_below (g := gb232) (o := .cells #[.slice A1_0 l1_0.length c1_0, .int .i64 a1_1, .int .i64 a1_2] 25 (0, 0)) (by (with_reducible repeat (first | refine blk_drewN ?_ _ | refine blk_drew ?_ | refine blk_alloc ?_ _)); exact BK232.out) hb); have n6_ := Aside0.mk (blk_below (g := gb236) (o := .cells #[.slice A1_0 l1_0.length c1_0, .int .i64 x237001_19, .int .i64 a1_2] 25 (0, 0)) (by (with_reducible repeat (first | refine blk_drewN ?_ _ | refine blk_drew ?_ | refine blk_alloc ?_ _)); exact BK236.out) hb); have n7_ := Aside0.mk (below_step (by repeat (first | (with_reducible first | exact HB.out | apply below_alloc | apply pw_below_drewN | apply below_drew1 | refine below_set ?_ GE232.out | refine below_set ?_ GE236.out) | exact HB.out)) hb); clear HO_0; clear HO_50; clear HO_233000; clear HO_237000; clear BK232; clear BK236; clear HB; have HO_0 := n0_; have HO_50 := n1_; have HO_233000 := n2_; have HO_237000 := n3_; have HO253 := n4_; have BK232 := n5_; have BK236 := n6_; have HB := n7_; clear n0_ n1_ n2_ n3_ n4_ n5_ n6_ n7_; (try clear hb); (try clear hb2); (try clear hk); (try clear hi); (try clear ho0)) | ((with_reducible refine gate_callee (f := 16) rfl ?_); refine goesL_ (some 79) rfl rfl Try.func16 (by kernel_rfl) rfl #[.slice A2 l2.length c2, .int .i64 a4] rfl (by (try simp only [List.map_toArray, List.map_cons, List.map_nil]); first | done | rfl | (simp only [List.length_drop, List.length_take]; rfl)) ?_; (with_reducible refine (debuggerref34_FateOf.calls _ _ l2 a4 t256 t259 t260 _ ?side1 ?side2 A63.out).mono ?_); (case side1 => repeat (first | exact (Kd.C_below HR2.out HB.out) | (with_reducible refine Kd.C_alloc ?_ _) | (with_reducible refine Kd.C_drewN ?_ _) | (with_reducible refine Kd.C_drew ?_))); (case side2 => exact HC2.out); rintro e w83 ⟨v257, rfl, ho0, hb⟩; refine ⟨_, rfl, ?_⟩; have n0_ := Aside0.mk (Kd.V_elder' (by (with_reducible repeat (first | apply Kd.V_alloc | apply Kd.V_drewN | apply Kd.V_drew)); exact HO_0.out) (by first | (with_reducible exact Kd.R_base ho0) | (with_reducible exact Kd.S_base ho0) | (with_reducible exact Kd.R_base ho0) | exact Kd.R_base ho0) hb); have n1_ := Aside0.mk (Kd.N_elder' (by (with_reducible repeat (first | apply Kd.N_alloc | apply Kd.N_drewN | apply Kd.N_drew)); exact HO_50.out) (by first | (with_reducible exact Kd.R_base ho0) | (with_reducible exact Kd.S_base ho0) | (with_reducible exact Kd.R_base ho0) | exact Kd.R_base ho0) hb); have n2_ := Aside0.mk (Kd.V_elder' (by (with_reducible repeat (first | apply Kd.V_alloc | apply Kd.V_drewN | apply Kd.V_drew)); exact HO_233000.out) (by first | (with_reducible exact Kd.R_base ho0) | (with_reducible exact Kd.S_base ho0) | (with_reducible exact Kd.R_base ho0) | exact Kd.R_base ho0) hb); have n3_ := Aside0.mk (Kd.V_elder' (by (with_reducible repeat (first | apply Kd.V_alloc | apply Kd.V_drewN | apply Kd.V_drew)); exact HO_237000.out) (by first | (with_reducible exact Kd.R_base ho0) | (with_reducible exact Kd.S_base ho0) | (with_reducible exact Kd.R_base ho0) | exact Kd.R_base ho0) hb); have n4_ := Aside0.mk (Kd.R_elder' (by (with_reducible repeat (first | apply Kd.R_alloc | apply Kd.R_drewN | apply Kd.R_drew)); exact HO253.out) (by first | (with_reducible exact Kd.R_base ho0) | (with_reducible exact Kd.S_base ho0) | (with_reducible exact Kd.R_base ho0) | exact Kd.R_base ho0) hb); have n5_ := Aside0.mk (Kd.R_lower (Kd.R_new' (Kd.R_newM (M := fun k_ => (w.heap.size ≤ k_)) ho0 (below_size (by repeat (first | (with_reducible first | exact HB.out | apply below_alloc | apply pw_below_drewN | apply below_drew1 | refine below_set ?_ GE232.out | refine below_set ?_ GE236.out) | exact HB.out))) (fun k_ h_ => h_)) (Kd.R_lt (by (with_reducible repeat (first | apply Kd.R_alloc | apply Kd.R_drewN | apply Kd.R_drew)); exact HO253.out))) (below_size (by repeat (first | (with_reducible first | exact HB.out | apply below_alloc | apply pw_below_drewN | apply below_drew1 | refine below_set ?_ GE232.out | refine below_set ?_ GE236.out) | exact HB.out)))); have n6_ := Aside0.mk (blk_below (g := gb232) (o := .cells #[.slice A1_0 l1_0.length c1_0, .int .i64 a1_1, .int .i64 a1_2] 25 (0, 0)) (by (with_reducible repeat (first | refine blk_drewN ?_ _ | refine blk_drew ?_ | refine blk_alloc ?_ _)); exact BK232.out) hb); have n7_ := Aside0.mk (blk_below (g := gb236) (o := .cells #[.slice A1_0 l1_0.length c1_0, .int .i64 x237001_19, .int .i64 a1_2] 25 (0, 0)) (by (with_reducible repeat (first | refine blk_drewN ?_ _ | refine blk_drew ?_ | refine blk_alloc ?_ _)); exact BK236.out) hb); have n8_ := Aside0.mk (below_step (by repeat (first | (with_reducible first | exact HB.out | apply below_alloc | apply pw_below_drewN | apply below_drew1 | refine below_set ?_ GE232.out | refine below_set ?_ GE236.out) | exact HB.out)) hb); clear HO_0; clear HO_50; clear HO_233000; clear HO_237000; clear HO253; clear BK232; clear BK236; clear HB; have HO_0 := n0_; have HO_50 := n1_; have HO_233000 := n2_; have HO_237000 := n3_; have HO253 := n4_; have HO258 := n5_; have BK232 := n6_; have BK236 := n7_; have HB := n8_; clear n0_ n1_ n2_ n3_ n4_ n5_ n6_ n7_ n8_; (try clear hb); (try clear hb2); (try clear hk); (try clear hi); (try clear ho0); obtain ⟨Ao84, co84, eo84⟩ := Kd.R_slice HO253.out; subst eo84; obtain ⟨Ao85, co85, eo85⟩ := Kd.R_slice HO258.out; subst eo85) | ((with_reducible refine gate_callee (f := 14) rfl ?_); refine goesL_ (some 80) rfl rfl Try.func14 (by kernel_rfl) rfl #[.agg #[.slice Ao84 t251.length co84, .int .i64 t254, .int .i64 t255], .agg #[.slice Ao85 t256.length co85, .int .i64 t259, .int .i64 t260]] rfl (by (try simp only [List.map_toArray, List.map_cons, List.map_nil]); first | done | rfl | (simp only [List.length_drop, List.length_take]; rfl)) ?_; (with_reducible refine (debuggerlaw34_fates.calls k3 _ _ t251 t254 t255 _ _ t256 t259 t260 true _ ?side1 ?side2 ?side3 ?side4 A64.out).mono ?_); (case side1 => repeat (first | exact (Kd.R_reads' HO253.out).2.2 | (with_reducible refine Kd.C_alloc ?_ _) | (with_reducible refine Kd.C_drewN ?_ _) | (with_reducible refine Kd.C_drew ?_))); (case side2 => exact (Kd.R_reads' HO253.out).2.1); (case side3 => repeat (first | exact (Kd.R_reads' HO258.out).2.2 | (with_reducible refine Kd.C_alloc ?_ _) | (with_reducible refine Kd.C_drewN ?_ _) | (with_reducible refine Kd.C_drew ?_))); (case side4 => exact (Kd.R_reads' HO258.out).2.1); rintro e w86 ⟨rfl, hb⟩; refine ⟨_, rfl, ?_⟩; have n0_ := Aside0.mk (Kd.V_below (by (with_reducible repeat (first | apply Kd.V_alloc | apply Kd.V_drewN | apply Kd.V_drew)); exact HO_0.out) hb); have n1_ := Aside0.mk (Kd.N_below (by (with_reducible repeat (first | apply Kd.N_alloc | apply Kd.N_drewN | apply Kd.N_drew)); exact HO_50.out) hb); have n2_ := Aside0.mk (Kd.V_below (by (with_reducible repeat (first | apply Kd.V_alloc | apply Kd.V_drewN | apply Kd.V_drew)); exact HO_233000.out) hb); have n3_ := Aside0.mk (Kd.V_below (by (with_reducible repeat (first | apply Kd.V_alloc | apply Kd.V_drewN | apply Kd.V_drew)); exact HO_237000.out) hb); have n4_ := Aside0.mk (Kd.R_below (by (with_reducible repeat (first | apply Kd.R_alloc | apply Kd.R_drewN | apply Kd.R_drew)); exact HO253.out) hb); have n5_ := Aside0.mk (Kd.R_below (by (with_reducible repeat (first | apply Kd.R_alloc | apply Kd.R_drewN | apply Kd.R_drew)); exact HO258.out) hb); have n6_ := Aside0.mk (blk_below (g := gb232) (o := .cells #[.slice A1_0 l1_0.length c1_0, .int .i64 a1_1, .int .i64 a1_2] 25 (0, 0)) (by (with_reducible repeat (first | refine blk_drewN ?_ _ | refine blk_drew ?_ | refine blk_alloc ?_ _)); exact BK232.out) hb); have n7_ := Aside0.mk (blk_below (g := gb236) (o := .cells #[.slice A1_0 l1_0.length c1_0, .int .i64 x237001_19, .int .i64 a1_2] 25 (0, 0)) (by (with_reducible repeat (first | refine blk_drewN ?_ _ | refine blk_drew ?_ | refine blk_alloc ?_ _)); exact BK236.out) hb); have n8_ := Aside0.mk (below_step (by repeat (first | (with_reducible first | exact HB.out | apply below_alloc | apply pw_below_drewN | apply below_drew1 | refine below_set ?_ GE232.out | refine below_set ?_ GE236.out) | exact HB.out)) hb); clear HO_0; clear HO_50; clear HO_233000; clear HO_237000; clear HO253; clear HO258; clear BK232; clear BK236; clear HB; have HO_0 := n0_; have HO_50 := n1_; have HO_233000 := n2_; have HO_237000 := n3_; have HO253 := n4_; have HO258 := n5_; have BK232 := n6_; have BK236 := n7_; have HB := n8_; clear n0_ n1_ n2_ n3_ n4_ n5_ n6_ n7_ n8_; (try clear hb); (try clear hb2); (try clear hk); (try clear hi)) | (go_at_call 15; (with_reducible refine (link_FateOf.calls _ _ l2 t250 t262 t265 t266 _ ?side1 ?side2 A66.out).mono ?_); (case side1 => repeat (first | exact (Kd.C_below HR2.out HB.out) | (with_reducible refine Kd.C_alloc ?_ _) | (with_reducible refine Kd.C_drewN ?_ _) | (with_reducible refine Kd.C_drew ?_))); (case side2 => exact HC2.out); rintro e w87 ⟨v263, rfl, ho0, hb⟩; have n0_ := Aside0.mk (Kd.V_elder' (by (with_reducible repeat (first | apply Kd.V_alloc | apply Kd.V_drewN | apply Kd.V_drew)); exact HO_0.out) (by first | (with_reducible exact Kd.R_base ho0) | (with_reducible exact Kd.S_base ho0) | (with_reducible exact Kd.R_base ho0) | exact Kd.R_base ho0) hb); have n1_ := Aside0.mk (Kd.N_elder' (by (with_reducible repeat (first | apply Kd.N_alloc | apply Kd.N_drewN | apply Kd.N_drew)); exact HO_50.out) (by first | (with_reducible exact Kd.R_base ho0) | (with_reducible exact Kd.S_base ho0) | (with_reducible exact Kd.R_base ho0) | exact Kd.R_base ho0) hb); have n2_ := Aside0.mk (Kd.V_elder' (by (with_reducible repeat (first | apply Kd.V_alloc | apply Kd.V_drewN | apply Kd.V_drew)); exact HO_233000.out) (by first | (with_reducible exact Kd.R_base ho0) | (with_reducible exact Kd.S_base ho0) | (with_reducible exact Kd.R_base ho0) | exact Kd.R_base ho0) hb); have n3_ := Aside0.mk (Kd.V_elder' (by (with_reducible repeat (first | apply Kd.V_alloc | apply Kd.V_drewN | apply Kd.V_drew)); exact HO_237000.out) (by first | (with_reducible exact Kd.R_base ho0) | (with_reducible exact Kd.S_base ho0) | (with_reducible exact Kd.R_base ho0) | exact Kd.R_base ho0) hb); have n4_ := Aside0.mk (Kd.R_elder' (by (with_reducible repeat (first | apply Kd.R_alloc | apply Kd.R_drewN | apply Kd.R_drew)); exact HO253.out) (by first | (with_reducible exact Kd.R_base ho0) | (with_reducible exact Kd.S_base ho0) | (with_reducible exact Kd.R_base ho0) | exact Kd.R_base ho0) hb); have n5_ := Aside0.mk (Kd.R_elder' (by (with_reducible repeat (first | apply Kd.R_alloc | apply Kd.R_drewN | apply Kd.R_drew)); exact HO258.out) (by first | (with_reducible exact Kd.R_base ho0) | (with_reducible exact Kd.S_base ho0) | (with_reducible exact Kd.R_base ho0) | exact Kd.R_base ho0) hb); have n6_ := Aside0.mk (Kd.R_lower (Kd.R_new' (Kd.R_new' (Kd.R_newM (M := fun k_ => (w.heap.size ≤ k_)) ho0 (below_size (by repeat (first | (with_reducible first | exact HB.out | apply below_alloc | apply pw_below_drewN | apply below_drew1 | refine below_set ?_ GE232.out | refine below_set ?_ GE236.out) | exact HB.out))) (fun k_ h_ => h_)) (Kd.R_lt (by (with_reducible repeat (first | apply Kd.R_alloc | apply Kd.R_drewN | apply Kd.R_drew)); exact HO253.out))) (Kd.R_lt (by (with_reducible repeat (first | apply Kd.R_alloc | apply Kd.R_drewN | apply Kd.R_drew)); exact HO258.out))) (below_size (by repeat (first | (with_reducible first | exact HB.out | apply below_alloc | apply pw_below_drewN | apply below_drew1 | refine below_set ?_ GE232.out | refine below_set ?_ GE236.out) | exact HB.out)))); have n7_ := Aside0.mk (blk_below (g := gb232) (o := .cells #[.slice A1_0 l1_0.length c1_0, .int .i64 a1_1, .int .i64 a1_2] 25 (0, 0)) (by (with_reducible repeat (first | refine blk_drewN ?_ _ | refine blk_drew ?_ | refine blk_alloc ?_ _)); exact BK232.out) hb); have n8_ := Aside0.mk (blk_below (g := gb236) (o := .cells #[.slice A1_0 l1_0.length c1_0, .int .i64 x237001_19, .int .i64 a1_2] 25 (0, 0)) (by (with_reducible repeat (first | refine blk_drewN ?_ _ | refine blk_drew ?_ | refine blk_alloc ?_ _)); exact BK236.out) hb); have n9_ := Aside0.mk (below_step (by repeat (first | (with_reducible first | exact HB.out | apply below_alloc | apply pw_below_drewN | apply below_drew1 | refine below_set ?_ GE232.out | refine below_set ?_ GE236.out) | exact HB.out)) hb); clear HO_0; clear HO_50; clear HO_233000; clear HO_237000; clear HO253; clear HO258; clear BK232; clear BK236; clear HB; have HO_0 := n0_; have HO_50 := n1_; have HO_233000 := n2_; have HO_237000 := n3_; have HO253 := n4_; have HO258 := n5_; have HO264 := n6_; have BK232 := n7_; have BK236 := n8_; have HB := n9_; clear n0_ n1_ n2_ n3_ n4_ n5_ n6_ n7_ n8_ n9_; (try clear hb); (try clear hb2); (try clear hk); (try clear hi); (try clear ho0)) | (go_at_call 16; (with_reducible refine (debuggerref34_FateOf.calls _ _ l2 t250 t267 t270 t271 _ ?side1 ?side2 A67.out).mono ?_); (case side1 => repeat (first | exact (Kd.C_below HR2.out HB.out) | (with_reducible refine Kd.C_alloc ?_ _) | (with_reducible refine Kd.C_drewN ?_ _) | (with_reducible refine Kd.C_drew ?_))); (case side2 => exact HC2.out); rintro e w88 ⟨v268, rfl, ho0, hb⟩; have n0_ := Aside0.mk (Kd.V_elder' (by (with_reducible repeat (first | apply Kd.V_alloc | apply Kd.V_drewN | apply Kd.V_drew)); exact HO_0.out) (by first | (with_reducible exact Kd.R_base ho0) | (with_reducible exact Kd.S_base ho0) | (with_reducible exact Kd.R_base ho0) | exact Kd.R_base ho0) hb); have n1_ := Aside0.mk (Kd.N_elder' (by (with_reducible repeat (first | apply Kd.N_alloc | apply Kd.N_drewN | apply Kd.N_drew)); exact HO_50.out) (by first | (with_reducible exact Kd.R_base ho0) | (with_reducible exact Kd.S_base ho0) | (with_reducible exact Kd.R_base ho0) | exact Kd.R_base ho0) hb); have n2_ := Aside0.mk (Kd.V_elder' (by (with_reducible repeat (first | apply Kd.V_alloc | apply Kd.V_drewN | apply Kd.V_drew)); exact HO_233000.out) (by first | (with_reducible exact Kd.R_base ho0) | (with_reducible exact Kd.S_base ho0) | (with_reducible exact Kd.R_base ho0) | exact Kd.R_base ho0) hb); have n3_ := Aside0.mk (Kd.V_elder' (by (with_reducible repeat (first | apply Kd.V_alloc | apply Kd.V_drewN | apply Kd.V_drew)); exact HO_237000.out) (by first | (with_reducible exact Kd.R_base ho0) | (with_reducible exact Kd.S_base ho0) | (with_reducible exact Kd.R_base ho0) | exact Kd.R_base ho0) hb); have n4_ := Aside0.mk (Kd.R_elder' (by (with_reducible repeat (first | apply Kd.R_alloc | apply Kd.R_drewN | apply Kd.R_drew)); exact HO253.out) (by first | (with_reducible exact Kd.R_base ho0) | (with_reducible exact Kd.S_base ho0) | (with_reducible exact Kd.R_base ho0) | exact Kd.R_base ho0) hb); have n5_ := Aside0.mk (Kd.R_elder' (by (with_reducible repeat (first | apply Kd.R_alloc | apply Kd.R_drewN | apply Kd.R_drew)); exact HO258.out) (by first | (with_reducible exact Kd.R_base ho0) | (with_reducible exact Kd.S_base ho0) | (with_reducible exact Kd.R_base ho0) | exact Kd.R_base ho0) hb); have n6_ := Aside0.mk (Kd.R_elder' (by (with_reducible repeat (first | apply Kd.R_alloc | apply Kd.R_drewN | apply Kd.R_drew)); exact HO264.out) (by first | (with_reducible exact Kd.R_base ho0) | (with_reducible exact Kd.S_base ho0) | (with_reducible exact Kd.R_base ho0) | exact Kd.R_base ho0) hb); have n7_ := Aside0.mk (Kd.R_lower (Kd.R_new' (Kd.R_new' (Kd.R_new' (Kd.R_newM (M := fun k_ => (w.heap.size ≤ k_)) ho0 (below_size (by repeat (first | (with_reducible first | exact HB.out | apply below_alloc | apply pw_below_drewN | apply below_drew1 | refine below_set ?_ GE232.out | refine below_set ?_ GE236.out) | exact HB.out))) (fun k_ h_ => h_)) (Kd.R_lt (by (with_reducible repeat (first | apply Kd.R_alloc | apply Kd.R_drewN | apply Kd.R_drew)); exact HO253.out))) (Kd.R_lt (by (with_reducible repeat (first | apply Kd.R_alloc | apply Kd.R_drewN | apply Kd.R_drew)); exact HO258.out))) (Kd.R_lt (by (with_reducible repeat (first | apply Kd.R_alloc | apply Kd.R_drewN | apply Kd.R_drew)); exact HO264.out))) (below_size (by repeat (first | (with_reducible first | exact HB.out | apply below_alloc | apply pw_below_drewN | apply below_drew1 | refine below_set ?_ GE232.out | refine below_set ?_ GE236.out) | exact HB.out)))); have n8_ := Aside0.mk (blk_below (g := gb232) (o := .cells #[.slice A1_0 l1_0.length c1_0, .int .i64 a1_1, .int .i64 a1_2] 25 (0, 0)) (by (with_reducible repeat (first | refine blk_drewN ?_ _ | refine blk_drew ?_ | refine blk_alloc ?_ _)); exact BK232.out) hb); have n9_ := Aside0.mk (blk_below (g := gb236) (o := .cells #[.slice A1_0 l1_0.length c1_0, .int .i64 x237001_19, .int .i64 a1_2] 25 (0, 0)) (by (with_reducible repeat (first | refine blk_drewN ?_ _ | refine blk_drew ?_ | refine blk_alloc ?_ _)); exact BK236.out) hb); have n10_ := Aside0.mk (below_step (by repeat (first | (with_reducible first | exact HB.out | apply below_alloc | apply pw_below_drewN | apply below_drew1 | refine below_set ?_ GE232.out | refine below_set ?_ GE236.out) | exact HB.out)) hb); clear HO_0; clear HO_50; clear HO_233000; clear HO_237000; clear HO253; clear HO258; clear HO264; clear BK232; clear BK236; clear HB; have HO_0 := n0_; have HO_50 := n1_; have HO_233000 := n2_; have HO_237000 := n3_; have HO253 := n4_; have HO258 := n5_; have HO264 := n6_; have HO269 := n7_; have BK232 := n8_; have BK236 := n9_; have HB := n10_; clear n0_ n1_ n2_ n3_ n4_ n5_ n6_ n7_ n8_ n9_ n10_; (try clear hb); (try clear hb2); (try clear hk); (try clear hi); (try clear ho0); obtain ⟨Ao89, co89, eo89⟩ := Kd.R_slice HO264.out; subst eo89; obtain ⟨Ao90, co90, eo90⟩ := Kd.R_slice HO269.out; subst eo90) | (go_at_call 14; (with_reducible refine (debuggerlaw34_fates.calls k3 _ _ t262 t265 t266 _ _ t267 t270 t271 false _ ?side1 ?side2 ?side3 ?side4 A68.out).mono ?_); (case side1 => repeat (first | exact (Kd.R_reads' HO264.out).2.2 | (with_reducible refine Kd.C_alloc ?_ _) | (with_reducible refine Kd.C_drewN ?_ _) | (with_reducible refine Kd.C_drew ?_))); (case side2 => exact (Kd.R_reads' HO264.out).2.1); (case side3 => repeat (first | exact (Kd.R_reads' HO269.out).2.2 | (with_reducible refine Kd.C_alloc ?_ _) | (with_reducible refine Kd.C_drewN ?_ _) | (with_reducible refine Kd.C_drew ?_))); (case side4 => exact (Kd.R_reads' HO269.out).2.1); rintro e w91 ⟨rfl, hb⟩; have n0_ := Aside0.mk (Kd.V_below (by (with_reducible repeat (first | apply Kd.V_alloc | apply Kd.V_drewN | apply Kd.V_drew)); exact HO_0.out) hb); have n1_ := Aside0.mk (Kd.N_below (by (with_reducible repeat (first | apply Kd.N_alloc | apply Kd.N_drewN | apply Kd.N_drew)); exact HO_50.out) hb); have n2_ := Aside0.mk (Kd.V_below (by (with_reducible repeat (first | apply Kd.V_alloc | apply Kd.V_drewN | apply Kd.V_drew)); exact HO_233000.out) hb); have n3_ := Aside0.mk (Kd.V_below (by (with_reducible repeat (first | apply Kd.V_alloc | apply Kd.V_drewN | apply Kd.V_drew)); exact HO_237000.out) hb); have n4_ := Aside0.mk (Kd.R_below (by (with_reducible repeat (first | apply Kd.R_alloc | apply Kd.R_drewN | apply Kd.R_drew)); exact HO253.out) hb); have n5_ := Aside0.mk (Kd.R_below (by (with_reducible repeat (first | apply Kd.R_alloc | apply Kd.R_drewN | apply Kd.R_drew)); exact HO258.out) hb); have n6_ := Aside0.mk (Kd.R_below (by (with_reducible repeat (first | apply Kd.R_alloc | apply Kd.R_drewN | apply Kd.R_drew)); exact HO264.out) hb); have n7_ := Aside0.mk (Kd.R_below (by (with_reducible repeat (first | apply Kd.R_alloc | apply Kd.R_drewN | apply Kd.R_drew)); exact HO269.out) hb); have n8_ := Aside0.mk (blk_below (g := gb232) (o := .cells #[.slice A1_0 l1_0.length c1_0, .int .i64 a1_1, .int .i64 a1_2] 25 (0, 0)) (by (with_reducible repeat (first | refine blk_drewN ?_ _ | refine blk_drew ?_ | refine blk_alloc ?_ _)); exact BK232.out) hb); have n9_ := Aside0.mk (blk_below (g := gb236) (o := .cells #[.slice A1_0 l1_0.length c1_0, .int .i64 x237001_19, .int .i64 a1_2] 25 (0, 0)) (by (with_reducible repeat (first | refine blk_drewN ?_ _ | refine blk_drew ?_ | refine blk_alloc ?_ _)); exact BK236.out) hb); have n10_ := Aside0.mk (below_step (by repeat (first | (with_reducible first | exact HB.out | apply below_alloc | apply pw_below_drewN | apply below_drew1 | refine below_set ?_ GE232.out | refine below_set ?_ GE236.out) | exact HB.out)) hb); clear HO_0; clear HO_50; clear HO_233000; clear HO_237000; clear HO253; clear HO258; clear HO264; clear HO269; clear BK232; clear BK236; clear HB; have HO_0 := n0_; have HO_50 := n1_; have HO_233000 := n2_; have HO_237000 := n3_; have HO253 := n4_; have HO258 := n5_; have HO264 := n6_; have HO269 := n7_; have BK232 := n8_; have BK236 := n9_; have HB := n10_; clear n0_ n1_ n2_ n3_ n4_ n5_ n6_ n7_ n8_ n9_ n10_; (try clear hb); (try clear hb2); (try clear hk); (try clear hi)))
                      go_ret
                      exact ⟨by first | rfl | (simp [errW_none, errW_some] <;> rfl) | (simp [*, errW_none, errW_some] <;> rfl), by repeat (first | (with_reducible first | exact HB.out | apply below_alloc | apply pw_below_drewN | apply below_drew1 | refine below_set ?_ GE232.out | refine below_set ?_ GE236.out) | exact HB.out)⟩
                  · replace c65 := Bool.eq_false_iff.mpr c65
                    subst c65
                    have H1 : (some false) = some r := by rw [if_neg (show ¬ (false = true) by decide)] at H; exact H
                    clear H
                    have H := H1
                    clear H1
                    obtain rfl := Option.some.inj H
                    go_wp2_with (first | ((with_reducible refine gate_callee (f := 10) rfl ?_); refine goesL_ (some 73) rfl rfl Try.func10 (by kernel_rfl) rfl #[.int .i64 a4, .int .i64 (wrap64 ((l2.length : Int) + 2))] rfl (by (try simp only [List.map_toArray, List.map_cons, List.map_nil]); first | done | rfl | (simp only [List.length_drop, List.length_take]; rfl)) ?_; (with_reducible refine (debuggerkit_Mod.calls a4 (wrap64 ((l2.length : Int) + 2)) t250 _ A61.out).mono ?_); rintro e w' ⟨rfl, ⟨nd, rfl⟩⟩; refine ⟨_, rfl, ?_⟩) | ((with_reducible refine gate_callee (f := 15) rfl ?_); refine goesL_ (some 76) rfl rfl Try.func15 (by kernel_rfl) rfl #[.slice A2 l2.length c2, .int .i64 a4] rfl (by (try simp only [List.map_toArray, List.map_cons, List.map_nil]); first | done | rfl | (simp only [List.length_drop, List.length_take]; rfl)) ?_; (with_reducible refine (link_FateOf.calls _ _ l2 a4 t251 t254 t255 _ ?side1 ?side2 A62.out).mono ?_); (case side1 => repeat (first | exact (Kd.C_below HR2.out (by repeat (first | (with_reducible first | exact HB.out | apply below_alloc | apply pw_below_drewN | apply below_drew1 | refine below_set ?_ GE232.out | refine below_set ?_ GE236.out) | exact HB.out))) | (with_reducible refine Kd.C_alloc ?_ _) | (with_reducible refine Kd.C_drewN ?_ _) | (with_reducible refine Kd.C_drew ?_))); (case side2 => exact HC2.out); rintro e w92 ⟨v252, rfl, ho0, hb⟩; refine ⟨_, rfl, ?_⟩; have n0_ := Aside0.mk (Kd.V_elder' (by (with_reducible repeat (first | apply Kd.V_alloc | apply Kd.V_drewN | apply Kd.V_drew)); exact HO_0.out) (by first | (with_reducible exact Kd.R_base ho0) | (with_reducible exact Kd.S_base ho0) | (with_reducible exact Kd.R_base ho0) | exact Kd.R_base ho0) hb); have n1_ := Aside0.mk (Kd.N_elder' (by (with_reducible repeat (first | apply Kd.N_alloc | apply Kd.N_drewN | apply Kd.N_drew)); exact HO_50.out) (by first | (with_reducible exact Kd.R_base ho0) | (with_reducible exact Kd.S_base ho0) | (with_reducible exact Kd.R_base ho0) | exact Kd.R_base ho0) hb); have n2_ := Aside0.mk (Kd.V_elder' (by (with_reducible repeat (first | apply Kd.V_alloc | apply Kd.V_drewN | apply Kd.V_drew)); exact HO_233000.out) (by first | (with_reducible exact Kd.R_base ho0) | (with_reducible exact Kd.S_base ho0) | (with_reducible exact Kd.R_base ho0) | exact Kd.R_base ho0) hb); have n3_ := Aside0.mk (Kd.V_elder' (by (with_reducible repeat (first | apply Kd.V_alloc | apply Kd.V_drewN | apply Kd.V_drew)); exact HO_237000.out) (by first | (with_reducible exact Kd.R_base ho0) | (with_reducible exact Kd.S_base ho0) | (with_reducible exact Kd.R_base ho0) | exact Kd.R_base ho0) hb); have n4_ := Aside0.mk (Kd.R_lower (Kd.R_newM (M := fun k_ => (w.heap.size ≤ k_)) ho0 (below_size (by repeat (first | (with_reducible first | exact HB.out | apply below_alloc | apply pw_below_drewN | apply below_drew1 | refine below_set ?_ GE232.out | refine below_set ?_ GE236.out) | exact HB.out))) (fun k_ h_ => h_)) (below_size (by repeat (first | (with_reducible first | exact HB.out | apply below_alloc | apply pw_below_drewN | apply below_drew1 | refine below_set ?_ GE232.out | refine below_set ?_ GE236.out) | exact HB.out)))); have n5_ := Aside0.mk (blk_below (g := gb232) (o := .cells #[.slice A1_0 l1_0.length c1_0, .int .i64 a1_1, .int .i64 a1_2] 25 (0, 0)) (by (with_reducible repeat (first | refine blk_drewN ?_ _ | refine blk_drew ?_ | refine blk_alloc ?_ _)); exact BK232.out) hb); have n6_ := Aside0.mk (blk_below (g := gb236) (o := .cells #[.slice A1_0 l1_0.length c1_0, .int .i64 x237001_19, .int .i64 a1_2] 25 (0, 0)) (by (with_reducible repeat (first | refine blk_drewN ?_ _ | refine blk_drew ?_ | refine blk_alloc ?_ _)); exact BK236.out) hb); have n7_ := Aside0.mk (below_step (by repeat (first | (with_reducible first | exact HB.out | apply below_alloc | apply pw_below_drewN | apply below_drew1 | refine below_set ?_ GE232.out | refine below_set ?_ GE236.out) | exact HB.out)) hb); clear HO_0; clear HO_50; clear HO_233000; clear HO_237000; clear BK232; clear BK236; clear HB; have HO_0 := n0_; have HO_50 := n1_; have HO_233000 := n2_; have HO_237000 := n3_; have HO253 := n4_; have BK232 := n5_; have BK236 := n6_; have HB := n7_; clear n0_ n1_ n2_ n3_ n4_ n5_ n6_ n7_; (try clear hb); (try clear hb2); (try clear hk); (try clear hi); (try clear ho0)) | ((with_reducible refine gate_callee (f := 16) rfl ?_); refine goesL_ (some 79) rfl rfl Try.func16 (by kernel_rfl) rfl #[.slice A2 l2.length c2, .int .i64 a4] rfl (by (try simp only [List.map_toArray, List.map_cons, List.map_nil]); first | done | rfl | (simp only [List.length_drop, List.length_take]; rfl)) ?_; (with_reducible refine (debuggerref34_FateOf.calls _ _ l2 a4 t256 t259 t260 _ ?side1 ?side2 A63.out).mono ?_); (case side1 => repeat (first | exact (Kd.C_below HR2.out HB.out) | (with_reducible refine Kd.C_alloc ?_ _) | (with_reducible refine Kd.C_drewN ?_ _) | (with_reducible refine Kd.C_drew ?_))); (case side2 => exact HC2.out); rintro e w93 ⟨v257, rfl, ho0, hb⟩; refine ⟨_, rfl, ?_⟩; have n0_ := Aside0.mk (Kd.V_elder' (by (with_reducible repeat (first | apply Kd.V_alloc | apply Kd.V_drewN | apply Kd.V_drew)); exact HO_0.out) (by first | (with_reducible exact Kd.R_base ho0) | (with_reducible exact Kd.S_base ho0) | (with_reducible exact Kd.R_base ho0) | exact Kd.R_base ho0) hb); have n1_ := Aside0.mk (Kd.N_elder' (by (with_reducible repeat (first | apply Kd.N_alloc | apply Kd.N_drewN | apply Kd.N_drew)); exact HO_50.out) (by first | (with_reducible exact Kd.R_base ho0) | (with_reducible exact Kd.S_base ho0) | (with_reducible exact Kd.R_base ho0) | exact Kd.R_base ho0) hb); have n2_ := Aside0.mk (Kd.V_elder' (by (with_reducible repeat (first | apply Kd.V_alloc | apply Kd.V_drewN | apply Kd.V_drew)); exact HO_233000.out) (by first | (with_reducible exact Kd.R_base ho0) | (with_reducible exact Kd.S_base ho0) | (with_reducible exact Kd.R_base ho0) | exact Kd.R_base ho0) hb); have n3_ := Aside0.mk (Kd.V_elder' (by (with_reducible repeat (first | apply Kd.V_alloc | apply Kd.V_drewN | apply Kd.V_drew)); exact HO_237000.out) (by first | (with_reducible exact Kd.R_base ho0) | (with_reducible exact Kd.S_base ho0) | (with_reducible exact Kd.R_base ho0) | exact Kd.R_base ho0) hb); have n4_ := Aside0.mk (Kd.R_elder' (by (with_reducible repeat (first | apply Kd.R_alloc | apply Kd.R_drewN | apply Kd.R_drew)); exact HO253.out) (by first | (with_reducible exact Kd.R_base ho0) | (with_reducible exact Kd.S_base ho0) | (with_reducible exact Kd.R_base ho0) | exact Kd.R_base ho0) hb); have n5_ := Aside0.mk (Kd.R_lower (Kd.R_new' (Kd.R_newM (M := fun k_ => (w.heap.size ≤ k_)) ho0 (below_size (by repeat (first | (with_reducible first | exact HB.out | apply below_alloc | apply pw_below_drewN | apply below_drew1 | refine below_set ?_ GE232.out | refine below_set ?_ GE236.out) | exact HB.out))) (fun k_ h_ => h_)) (Kd.R_lt (by (with_reducible repeat (first | apply Kd.R_alloc | apply Kd.R_drewN | apply Kd.R_drew)); exact HO253.out))) (below_size (by repeat (first | (with_reducible first | exact HB.out | apply below_alloc | apply pw_below_drewN | apply below_drew1 | refine below_set ?_ GE232.out | refine below_set ?_ GE236.out) | exact HB.out)))); have n6_ := Aside0.mk (blk_below (g := gb232) (o := .cells #[.slice A1_0 l1_0.length c1_0, .int .i64 a1_1, .int .i64 a1_2] 25 (0, 0)) (by (with_reducible repeat (first | refine blk_drewN ?_ _ | refine blk_drew ?_ | refine blk_alloc ?_ _)); exact BK232.out) hb); have n7_ := Aside0.mk (blk_below (g := gb236) (o := .cells #[.slice A1_0 l1_0.length c1_0, .int .i64 x237001_19, .int .i64 a1_2] 25 (0, 0)) (by (with_reducible repeat (first | refine blk_drewN ?_ _ | refine blk_drew ?_ | refine blk_alloc ?_ _)); exact BK236.out) hb); have n8_ := Aside0.mk (below_step (by repeat (first | (with_reducible first | exact HB.out | apply below_alloc | apply pw_below_drewN | apply below_drew1 | refine below_set ?_ GE232.out | refine below_set ?_ GE236.out) | exact HB.out)) hb); clear HO_0; clear HO_50; clear HO_233000; clear HO_237000; clear HO253; clear BK232; clear BK236; clear HB; have HO_0 := n0_; have HO_50 := n1_; have HO_233000 := n2_; have HO_237000 := n3_; have HO253 := n4_; have HO258 := n5_; have BK232 := n6_; have BK236 := n7_; have HB := n8_; clear n0_ n1_ n2_ n3_ n4_ n5_ n6_ n7_ n8_; (try clear hb); (try clear hb2); (try clear hk); (try clear hi); (try clear ho0); obtain ⟨Ao94, co94, eo94⟩ := Kd.R_slice HO253.out; subst eo94; obtain ⟨Ao95, co95, eo95⟩ := Kd.R_slice HO258.out; subst eo95) | ((with_reducible refine gate_callee (f := 14) rfl ?_); refine goesL_ (some 80) rfl rfl Try.func14 (by kernel_rfl) rfl #[.agg #[.slice Ao94 t251.length co94, .int .i64 t254, .int .i64 t255], .agg #[.slice Ao95 t256.length co95, .int .i64 t259, .int .i64 t260]] rfl (by (try simp only [List.map_toArray, List.map_cons, List.map_nil]); first | done | rfl | (simp only [List.length_drop, List.length_take]; rfl)) ?_; (with_reducible refine (debuggerlaw34_fates.calls k3 _ _ t251 t254 t255 _ _ t256 t259 t260 false _ ?side1 ?side2 ?side3 ?side4 A64.out).mono ?_); (case side1 => repeat (first | exact (Kd.R_reads' HO253.out).2.2 | (with_reducible refine Kd.C_alloc ?_ _) | (with_reducible refine Kd.C_drewN ?_ _) | (with_reducible refine Kd.C_drew ?_))); (case side2 => exact (Kd.R_reads' HO253.out).2.1); (case side3 => repeat (first | exact (Kd.R_reads' HO258.out).2.2 | (with_reducible refine Kd.C_alloc ?_ _) | (with_reducible refine Kd.C_drewN ?_ _) | (with_reducible refine Kd.C_drew ?_))); (case side4 => exact (Kd.R_reads' HO258.out).2.1); rintro e w96 ⟨rfl, hb⟩; refine ⟨_, rfl, ?_⟩; have n0_ := Aside0.mk (Kd.V_below (by (with_reducible repeat (first | apply Kd.V_alloc | apply Kd.V_drewN | apply Kd.V_drew)); exact HO_0.out) hb); have n1_ := Aside0.mk (Kd.N_below (by (with_reducible repeat (first | apply Kd.N_alloc | apply Kd.N_drewN | apply Kd.N_drew)); exact HO_50.out) hb); have n2_ := Aside0.mk (Kd.V_below (by (with_reducible repeat (first | apply Kd.V_alloc | apply Kd.V_drewN | apply Kd.V_drew)); exact HO_233000.out) hb); have n3_ := Aside0.mk (Kd.V_below (by (with_reducible repeat (first | apply Kd.V_alloc | apply Kd.V_drewN | apply Kd.V_drew)); exact HO_237000.out) hb); have n4_ := Aside0.mk (Kd.R_below (by (with_reducible repeat (first | apply Kd.R_alloc | apply Kd.R_drewN | apply Kd.R_drew)); exact HO253.out) hb); have n5_ := Aside0.mk (Kd.R_below (by (with_reducible repeat (first | apply Kd.R_alloc | apply Kd.R_drewN | apply Kd.R_drew)); exact HO258.out) hb); have n6_ := Aside0.mk (blk_below (g := gb232) (o := .cells #[.slice A1_0 l1_0.length c1_0, .int .i64 a1_1, .int .i64 a1_2] 25 (0, 0)) (by (with_reducible repeat (first | refine blk_drewN ?_ _ | refine blk_drew ?_ | refine blk_alloc ?_ _)); exact BK232.out) hb); have n7_ := Aside0.mk (blk_below (g := gb236) (o := .cells #[.slice A1_0 l1_0.length c1_0, .int .i64 x237001_19, .int .i64 a1_2] 25 (0, 0)) (by (with_reducible repeat (first | refine blk_drewN ?_ _ | refine blk_drew ?_ | refine blk_alloc ?_ _)); exact BK236.out) hb); have n8_ := Aside0.mk (below_step (by repeat (first | (with_reducible first | exact HB.out | apply below_alloc | apply pw_below_drewN | apply below_drew1 | refine below_set ?_ GE232.out | refine below_set ?_ GE236.out) | exact HB.out)) hb); clear HO_0; clear HO_50; clear HO_233000; clear HO_237000; clear HO253; clear HO258; clear BK232; clear BK236; clear HB; have HO_0 := n0_; have HO_50 := n1_; have HO_233000 := n2_; have HO_237000 := n3_; have HO253 := n4_; have HO258 := n5_; have BK232 := n6_; have BK236 := n7_; have HB := n8_; clear n0_ n1_ n2_ n3_ n4_ n5_ n6_ n7_ n8_; (try clear hb); (try clear hb2); (try clear hk); (try clear hi)))
                    go_ret
                    exact ⟨by first | rfl | (simp [errW_none, errW_some] <;> rfl) | (simp [*, errW_none, errW_some] <;> rfl), by repeat (first | (with_reducible first | exact HB.out | apply below_alloc | apply pw_below_drewN | apply below_drew1 | refine below_set ?_ GE232.out | refine below_set ?_ GE236.out) | exact HB.out)⟩

end Go.Proofs.Ytipkcbpilkoflaa.QLinkSends
