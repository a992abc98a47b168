-- Written by a program of this session (wip/printer.py of the repo) out of the translation.
import Derived.Test.YtjcghbgcnofchaaQSteppingImpliesx0
import Derived.Test.YtjcghbgcnofchaaQSteppingImpliesx2
import Derived.Test.YtjcghbgcnofchaaQSteppingImpliesx3
import Derived.Test.YtjcghbgcnofchaaQSteppingImpliesx5
import Derived.Test.YtjcghbgcnofchaaQSteppingImpliesx6
namespace Go.Proofs.Ytjcghbgcnofchaa.QSteppingImplies
open Go.RowKit Go.Proofs.YtjcghbgcnofchaaW.PrintWords Go.Proofs.YtjcghbgcnofchaaW.PrintLast Go.Proofs.YtjcghbgcnofchaaW.PrintMore
attribute [local go_sem] max2_int min2_int max_two min_two max_three min_three max_four min_four   -- for this text's walks alone
set_option linter.unusedVariables false
set_option linter.unusedSimpArgs false

/-! ### debuggerlaw42_SteppingImplies: function 5 -/
mutual
def debuggerlaw42_SteppingImplies.l0 : Nat → List (S31) → Int → Int → Int → Int → List (S71) → List (S73) → List (S51) → Option (Bool)
  | 0, _, _, _, _, _, _, _, _ => none
  | k + 1, x23, x24, x25, x159000, x159001, x159002, x159003, x159004 => if x25 < x24 then (if 0 ≤ x25 then (if x25 < (x23.length : Int) then ((stepping_Stops.f k x159000 x159001 x159002 x159003 x159004 3 ((rd_T31 x23 x25).f0.f0) ((rd_T31 x23 x25).f0.f1) ((rd_T31 x23 x25).f0.f2) ((rd_T31 x23 x25).f1.f0) ((rd_T31 x23 x25).f1.f1) ((rd_T31 x23 x25).f1.f2)).bind fun t171 => ((stepping_Stops.f k x159000 x159001 x159002 x159003 x159004 2 ((rd_T31 x23 x25).f0.f0) ((rd_T31 x23 x25).f0.f1) ((rd_T31 x23 x25).f0.f2) ((rd_T31 x23 x25).f1.f0) ((rd_T31 x23 x25).f1.f1) ((rd_T31 x23 x25).f1.f2)).bind fun t172 => ((stepping_Stops.f k x159000 x159001 x159002 x159003 x159004 1 ((rd_T31 x23 x25).f0.f0) ((rd_T31 x23 x25).f0.f1) ((rd_T31 x23 x25).f0.f2) ((rd_T31 x23 x25).f1.f0) ((rd_T31 x23 x25).f1.f1) ((rd_T31 x23 x25).f1.f2)).bind fun t173 => (if t171 = true then (if t172 = true then (if t173 = true then (debuggerlaw42_SteppingImplies.j1 k x23 x24 x25 (!t173) x159000 x159001 x159002 x159003 x159004) else (debuggerlaw42_SteppingImplies.j1 k x23 x24 x25 true x159000 x159001 x159002 x159003 x159004)) else (debuggerlaw42_SteppingImplies.j1 k x23 x24 x25 true x159000 x159001 x159002 x159003 x159004)) else (if t172 = true then (if t173 = true then (debuggerlaw42_SteppingImplies.j1 k x23 x24 x25 (!t173) x159000 x159001 x159002 x159003 x159004) else (debuggerlaw42_SteppingImplies.j1 k x23 x24 x25 true x159000 x159001 x159002 x159003 x159004)) else (debuggerlaw42_SteppingImplies.j1 k x23 x24 x25 (!t173) x159000 x159001 x159002 x159003 x159004)))))) else (none)) else (none)) else ((debuggerlaw42_awake.f k).bind fun t168 => (some t168))
def debuggerlaw42_SteppingImplies.j1 : Nat → List (S31) → Int → Int → Bool → Int → Int → List (S71) → List (S73) → List (S51) → Option (Bool)
  | 0, _, _, _, _, _, _, _, _, _ => none
  | k + 1, x23, x24, x25, x62, x159000, x159001, x159002, x159003, x159004 => if x62 = true then (some false) else (debuggerlaw42_SteppingImplies.l0 k x23 x24 (wrap64 (x25 + 1)) x159000 x159001 x159002 x159003 x159004)
end
def debuggerlaw42_SteppingImplies.f (k : Nat) (l0 : List Int) (a1_0 : Int) (a1_1 : Int) (a1_2 : Int) (a2_0 : Int) (a2_1 : Int) (a2_2 : Int) : Option (Bool) := (debuggerlaw42_contexts.f k l0).bind fun bt147 => ((debuggerlaw42_near.f a1_0 a1_1 a1_2).bind fun bt159 => ((debuggerlaw42_near.f a2_0 a2_1 a2_2).bind fun bt162 => ((some (([(⟨(⟨a1_0, a1_1, a1_2⟩ : S24), (⟨a2_0, a2_1, a2_2⟩ : S24)⟩ : S31), (⟨(⟨bt159.1, bt159.2.1, bt159.2.2⟩ : S24), (⟨bt162.1, bt162.2.1, bt162.2.2⟩ : S24)⟩ : S31)] : List (S31)) : List (S31))).bind fun y165 => (debuggerlaw42_SteppingImplies.l0 k y165 (y165.length : Int) 0 bt147.1 bt147.2.1 bt147.2.2.1 bt147.2.2.2.1 bt147.2.2.2.2))))
theorem debuggerlaw42_SteppingImplies.mono_l : ∀ k, (∀ y0 y1 y2 y3 y4 y5 y6 y7, LeO (debuggerlaw42_SteppingImplies.l0 k y0 y1 y2 y3 y4 y5 y6 y7) (debuggerlaw42_SteppingImplies.l0 (k + 1) y0 y1 y2 y3 y4 y5 y6 y7)) ∧ (∀ y0 y1 y2 y3 y4 y5 y6 y7 y8, LeO (debuggerlaw42_SteppingImplies.j1 k y0 y1 y2 y3 y4 y5 y6 y7 y8) (debuggerlaw42_SteppingImplies.j1 (k + 1) y0 y1 y2 y3 y4 y5 y6 y7 y8))
  | 0 => ⟨fun _ _ _ _ _ _ _ _ r h => by simp [debuggerlaw42_SteppingImplies.l0] at h, fun _ _ _ _ _ _ _ _ _ r h => by simp [debuggerlaw42_SteppingImplies.j1] at h⟩
  | k + 1 => by
    obtain ⟨ih0, ih1⟩ := debuggerlaw42_SteppingImplies.mono_l k
    refine ⟨?_, ?_⟩
    · intro y0 y1 y2 y3 y4 y5 y6 y7
      unfold debuggerlaw42_SteppingImplies.l0
      repeat' first
      | (with_reducible exact ih0 _ _ _ _ _ _ _ _)
      | (with_reducible exact ih1 _ _ _ _ _ _ _ _ _)
      | (with_reducible exact debuggerlaw42_awake.mono _)
      | (with_reducible exact debuggerlaw42_contexts.mono _ _)
      | (with_reducible exact stepping_Stops.mono _ _ _ _ _ _ _ _ _ _ _ _ _)
      | (with_reducible exact LeO.refl _)
      | (with_reducible exact LeO.none _)
      | (with_reducible refine LeO.ite ?_ ?_)
      | (with_reducible refine LeO.bind ?_ (fun _ => ?_))
      | exact ih0 _ _ _ _ _ _ _ _
      | exact ih1 _ _ _ _ _ _ _ _ _
      | exact debuggerlaw42_awake.mono _
      | exact debuggerlaw42_contexts.mono _ _
      | exact stepping_Stops.mono _ _ _ _ _ _ _ _ _ _ _ _ _
      | exact LeO.none _
      | refine LeO.ite ?_ ?_
      | refine LeO.bind ?_ (fun _ => ?_)
    · intro y0 y1 y2 y3 y4 y5 y6 y7 y8
      unfold debuggerlaw42_SteppingImplies.j1
      repeat' first
      | (with_reducible exact ih0 _ _ _ _ _ _ _ _)
      | (with_reducible exact ih1 _ _ _ _ _ _ _ _ _)
      | (with_reducible exact debuggerlaw42_awake.mono _)
      | (with_reducible exact debuggerlaw42_contexts.mono _ _)
      | (with_reducible exact stepping_Stops.mono _ _ _ _ _ _ _ _ _ _ _ _ _)
      | (with_reducible exact LeO.refl _)
      | (with_reducible exact LeO.none _)
      | (with_reducible refine LeO.ite ?_ ?_)
      | (with_reducible refine LeO.bind ?_ (fun _ => ?_))
      | exact ih0 _ _ _ _ _ _ _ _
      | exact ih1 _ _ _ _ _ _ _ _ _
      | exact debuggerlaw42_awake.mono _
      | exact debuggerlaw42_contexts.mono _ _
      | exact stepping_Stops.mono _ _ _ _ _ _ _ _ _ _ _ _ _
      | exact LeO.none _
      | refine LeO.ite ?_ ?_
      | refine LeO.bind ?_ (fun _ => ?_)
theorem debuggerlaw42_SteppingImplies.mono : ∀ a0 a1 a2 a3 a4 a5 a6 k, LeO (debuggerlaw42_SteppingImplies.f k a0 a1 a2 a3 a4 a5 a6) (debuggerlaw42_SteppingImplies.f (k + 1) a0 a1 a2 a3 a4 a5 a6) := by
  intro a0 a1 a2 a3 a4 a5 a6 k
  obtain ⟨ih0, ih1⟩ := debuggerlaw42_SteppingImplies.mono_l k
  unfold debuggerlaw42_SteppingImplies.f
  repeat' first
      | (with_reducible exact ih0 _ _ _ _ _ _ _ _)
      | (with_reducible exact ih1 _ _ _ _ _ _ _ _ _)
      | (with_reducible exact debuggerlaw42_awake.mono _)
      | (with_reducible exact debuggerlaw42_contexts.mono _ _)
      | (with_reducible exact stepping_Stops.mono _ _ _ _ _ _ _ _ _ _ _ _ _)
      | (with_reducible exact LeO.refl _)
      | (with_reducible exact LeO.none _)
      | (with_reducible refine LeO.ite ?_ ?_)
      | (with_reducible refine LeO.bind ?_ (fun _ => ?_))
      | exact ih0 _ _ _ _ _ _ _ _
      | exact ih1 _ _ _ _ _ _ _ _ _
      | exact debuggerlaw42_awake.mono _
      | exact debuggerlaw42_contexts.mono _ _
      | exact stepping_Stops.mono _ _ _ _ _ _ _ _ _ _ _ _ _
      | exact LeO.none _
      | refine LeO.ite ?_ ?_
      | refine LeO.bind ?_ (fun _ => ?_)
def debuggerlaw42_SteppingImplies.T2 : Bool × List (List Nat × List Nat) := (true, [([], []), ([], []), ([0, 1], [0, 1]), ([], []), ([3], [3]), ([], []), ([5, 4], [5]), ([4, 6], [4, 6]), ([2, 7], [2, 7]), ([8], [8]), ([], [])])
def debuggerlaw42_SteppingImplies.B2 : List Nat := [0, 0, 3, 0, 8, 0, 56, 120, 255, 511, 0]
theorem debuggerlaw42_SteppingImplies.tab2 : rtab .any (opsOf Try.f5 2) = debuggerlaw42_SteppingImplies.T2 := by kernel_rfl
theorem debuggerlaw42_SteppingImplies.bits2 : waitsOk debuggerlaw42_SteppingImplies.T2.2 debuggerlaw42_SteppingImplies.B2 = true := by kernel_rfl
def debuggerlaw42_SteppingImplies.T5 : Bool × List (List Nat × List Nat) := (true, [([], []), ([], []), ([1], [1]), ([], []), ([3], [3]), ([0, 2, 4], [0, 2, 4]), ([], []), ([], []), ([7], [7]), ([], []), ([9], [9]), ([6, 8, 10, 5], [6, 8, 10]), ([], []), ([], []), ([13], [13]), ([], []), ([15], [15]), ([12, 14, 16, 11], [12, 14, 16]), ([5, 17, 0, 1, 2, 3, 4, 5], [5]), ([11, 18, 0, 1, 2, 3, 4, 5, 6, 7, 8, 9, 10, 11, 18], [11]), ([17, 19, 0, 1, 2, 3, 4, 5, 6, 7, 8, 9, 10, 11, 12, 13, 14, 15, 16, 17, 18, 19], [17])])
def debuggerlaw42_SteppingImplies.B5 : List Nat := [0, 0, 2, 0, 8, 31, 0, 0, 128, 0, 512, 2047, 0, 0, 8192, 0, 32768, 131071, 262143, 524287, 1048575]
theorem debuggerlaw42_SteppingImplies.tab5 : rtab .any (opsOf Try.f5 5) = debuggerlaw42_SteppingImplies.T5 := by kernel_rfl
theorem debuggerlaw42_SteppingImplies.bits5 : waitsOk debuggerlaw42_SteppingImplies.T5.2 debuggerlaw42_SteppingImplies.B5 = true := by kernel_rfl
set_option maxHeartbeats 8000000 in
set_option maxRecDepth 100000 in
theorem debuggerlaw42_SteppingImplies.calls (k : Nat) (A0 : Option Addr) (c0 : Nat) (l0 : List Int) (a1_0 : Int) (a1_1 : Int) (a1_2 : Int) (a2_0 : Int) (a2_1 : Int) (a2_2 : Int) (r : Bool) (w : World) (hr0 : Kd.C (Kd.int .i64) w A0 l0.length l0) (hc0 : l0.length ≤ c0) (h : debuggerlaw42_SteppingImplies.f k l0 a1_0 a1_1 a1_2 a2_0 a2_1 a2_2 = some r) :
    Calls Try.prog 5 #[.slice A0 l0.length c0, .agg #[.int .i64 a1_0, .int .i64 a1_1, .int .i64 a1_2], .agg #[.int .i64 a2_0, .int .i64 a2_1, .int .i64 a2_2]] w fun e w' => e = .returned (.bool r) ∧ Below w.heap.size w w' := by
  have hu24 := Try.underlying24
  have hu29 := Try.underlying29
  have hu31 := Try.underlying31
  have HR0 := Aside0.mk hr0
  have HC0 := Aside0.mk hc0
  clear hr0 hc0
  have HB := Aside0.mk (Below.refl w.heap.size w)
  have H : ((debuggerlaw42_contexts.f k l0).bind fun bt147 => ((debuggerlaw42_near.f a1_0 a1_1 a1_2).bind fun bt159 => ((debuggerlaw42_near.f a2_0 a2_1 a2_2).bind fun bt162 => ((some (([(⟨(⟨a1_0, a1_1, a1_2⟩ : S24), (⟨a2_0, a2_1, a2_2⟩ : S24)⟩ : S31), (⟨(⟨bt159.1, bt159.2.1, bt159.2.2⟩ : S24), (⟨bt162.1, bt162.2.1, bt162.2.2⟩ : S24)⟩ : S31)] : List (S31)) : List (S31))).bind fun y165 => (debuggerlaw42_SteppingImplies.l0 k y165 (y165.length : Int) 0 bt147.1 bt147.2.1 bt147.2.2.1 bt147.2.2.2.1 bt147.2.2.2.2))))) = some r := h
  clear h
  replace H := Option.bind_eq_some_iff.mp H
  obtain ⟨⟨t147, t148, t149, t152, t155⟩, A40, H⟩ := H
  replace H : ((debuggerlaw42_near.f a1_0 a1_1 a1_2).bind fun bt159 => ((debuggerlaw42_near.f a2_0 a2_1 a2_2).bind fun bt162 => ((some (([(⟨(⟨a1_0, a1_1, a1_2⟩ : S24), (⟨a2_0, a2_1, a2_2⟩ : S24)⟩ : S31), (⟨(⟨bt159.1, bt159.2.1, bt159.2.2⟩ : S24), (⟨bt162.1, bt162.2.1, bt162.2.2⟩ : S24)⟩ : S31)] : List (S31)) : List (S31))).bind fun y165 => (debuggerlaw42_SteppingImplies.l0 k y165 (y165.length : Int) 0 t147 t148 t149 t152 t155)))) = some r := H
  have A4 := Aside0.mk A40
  clear A40
  replace H := Option.bind_eq_some_iff.mp H
  obtain ⟨⟨t159, t160, t161⟩, A50, H⟩ := H
  replace H : ((debuggerlaw42_near.f a2_0 a2_1 a2_2).bind fun bt162 => ((some (([(⟨(⟨a1_0, a1_1, a1_2⟩ : S24), (⟨a2_0, a2_1, a2_2⟩ : S24)⟩ : S31), (⟨(⟨t159, t160, t161⟩ : S24), (⟨bt162.1, bt162.2.1, bt162.2.2⟩ : S24)⟩ : S31)] : List (S31)) : List (S31))).bind fun y165 => (debuggerlaw42_SteppingImplies.l0 k y165 (y165.length : Int) 0 t147 t148 t149 t152 t155))) = some r := H
  have A5 := Aside0.mk A50
  clear A50
  replace H := Option.bind_eq_some_iff.mp H
  obtain ⟨⟨t162, t163, t164⟩, A60, H⟩ := H
  replace H : ((some (([(⟨(⟨a1_0, a1_1, a1_2⟩ : S24), (⟨a2_0, a2_1, a2_2⟩ : S24)⟩ : S31), (⟨(⟨t159, t160, t161⟩ : S24), (⟨t162, t163, t164⟩ : S24)⟩ : S31)] : List (S31)) : List (S31))).bind fun y165 => (debuggerlaw42_SteppingImplies.l0 k y165 (y165.length : Int) 0 t147 t148 t149 t152 t155)) = some r := H
  have A6 := Aside0.mk A60
  clear A60
  obtain ⟨y165, hy165⟩ : ∃ y_ : List (S31), y_ = (([(⟨(⟨a1_0, a1_1, a1_2⟩ : S24), (⟨a2_0, a2_1, a2_2⟩ : S24)⟩ : S31), (⟨(⟨t159, t160, t161⟩ : S24), (⟨t162, t163, t164⟩ : S24)⟩ : S31)] : List (S31))) := ⟨_, rfl⟩
  replace H : (debuggerlaw42_SteppingImplies.l0 k y165 (y165.length : Int) 0 t147 t148 t149 t152 t155) = some r := by first | (rw [hy165]; with_reducible exact H) | (have H2_ := (Option.bind_some _ _).symm.trans H; rw [hy165]; with_reducible exact H2_) | (have H2_ := (Option.bind_some _ _).symm.trans H; with_reducible exact H2_) | with_reducible exact H | (rw [hy165]; exact H) | exact H
  have Ny165 := Aside0.mk hy165
  clear hy165
  have H' := Aside0.mk H
  clear H
  go_enter Try.func5, Try.ntmps5
  try go_wp2_with (first | ((with_reducible refine gate_dst (N := 4) rfl ?_); refine box_event ?hg (N := 4) ?hd (cs := #[.int .i64 a1_0, .int .i64 a1_1, .int .i64 a1_2]) (t := 24) ?hr ?_; (case hd => rfl); (case hg => rfl); (case hr => first | (go_simp; done) | (go_simp; rfl)); intro gb145 hg w7 hbox hb; have n0_ := Aside0.mk (below_step (by repeat (first | (with_reducible first | exact HB.out | apply below_alloc | apply pw_below_drewN | apply below_drew1) | exact HB.out)) hb); have n1_ := Aside0.mk (hbox); have n2_ := Aside0.mk ((by rw [hg]; exact (below_size (by repeat (first | (with_reducible first | exact HB.out | apply below_alloc | apply pw_below_drewN | apply below_drew1) | exact HB.out))) : w.heap.size ≤ gb145)); have n3_ := Aside0.mk ((by rw [hg]; exact (below_size (by repeat (first | (with_reducible first | exact HB.out | apply below_alloc | apply pw_below_drewN | apply below_drew1) | exact HB.out))) : w.heap.size ≤ gb145)); clear HB; have HB := n0_; have BK145 := n1_; have GW145 := n2_; have GE145 := n3_; clear n0_ n1_ n2_ n3_; clear hb hbox hg) | ((with_reducible refine gate_dst (N := 5) rfl ?_); refine box_event ?hg (N := 5) ?hd (cs := #[.int .i64 a2_0, .int .i64 a2_1, .int .i64 a2_2]) (t := 24) ?hr ?_; (case hd => rfl); (case hg => rfl); (case hr => first | (go_simp; done) | (go_simp; rfl)); intro gb146 hg w8 hbox hb; have n0_ := Aside0.mk (blk_below (g := gb145) (o := .cells #[.int .i64 a1_0, .int .i64 a1_1, .int .i64 a1_2] 24 (0, 0)) (by (with_reducible repeat (first | refine blk_drewN ?_ _ | refine blk_drew ?_ | refine blk_alloc ?_ _)); exact BK145.out) hb); have n1_ := Aside0.mk (below_step (by repeat (first | (with_reducible first | exact HB.out | apply below_alloc | apply pw_below_drewN | apply below_drew1 | refine below_set ?_ GE145.out) | exact HB.out)) hb); have n2_ := Aside0.mk (hbox); have n3_ := Aside0.mk ((by rw [hg]; exact (below_size (by repeat (first | (with_reducible first | exact HB.out | apply below_alloc | apply pw_below_drewN | apply below_drew1 | refine below_set ?_ GE145.out) | exact HB.out))) : w.heap.size ≤ gb146)); have n4_ := Aside0.mk ((by rw [hg]; exact (below_size (by repeat (first | (with_reducible first | exact HB.out | apply below_alloc | apply pw_below_drewN | apply below_drew1 | refine below_set ?_ GE145.out) | exact HB.out))) : w.heap.size ≤ gb146)); have n5_ := Aside0.mk ((by rw [hg]; exact Nat.ne_of_lt (blk_lt (g := gb145) (o := .cells #[.int .i64 a1_0, .int .i64 a1_1, .int .i64 a1_2] 24 (0, 0)) (by (with_reducible repeat (first | refine blk_drewN ?_ _ | refine blk_drew ?_ | refine blk_alloc ?_ _)); exact BK145.out)) : gb145 ≠ gb146)); have n6_ := Aside0.mk ((by rw [hg]; exact Nat.ne_of_gt (blk_lt (g := gb145) (o := .cells #[.int .i64 a1_0, .int .i64 a1_1, .int .i64 a1_2] 24 (0, 0)) (by (with_reducible repeat (first | refine blk_drewN ?_ _ | refine blk_drew ?_ | refine blk_alloc ?_ _)); exact BK145.out)) : gb146 ≠ gb145)); clear BK145; clear HB; have BK145 := n0_; have HB := n1_; have BK146 := n2_; have GW146 := n3_; have GE146 := n4_; have NB145_146 := n5_; have NB146_145 := n6_; clear n0_ n1_ n2_ n3_ n4_ n5_ n6_; clear hb hbox hg) | ((with_reducible refine gate_callee (f := 6) rfl ?_); refine goesL_ (some 14) rfl rfl Try.func6 (by kernel_rfl) rfl #[.slice A0 l0.length c0] rfl (by (try simp only [List.map_toArray, List.map_cons, List.map_nil]); first | done | rfl | (simp only [List.length_drop, List.length_take]; rfl)) ?_; (with_reducible refine (debuggerlaw42_contexts.calls k _ _ l0 t147 t148 t149 t152 t155 _ ?side1 ?side2 A4.out).mono ?_); (case side1 => repeat (first | exact (Kd.C_below HR0.out HB.out) | (with_reducible refine Kd.C_alloc ?_ _) | (with_reducible refine Kd.C_drewN ?_ _) | (with_reducible refine Kd.C_drew ?_))); (case side2 => exact HC0.out); rintro e w9 ⟨v150, v153, v156, rfl, ho0, ho1, ho2, hb⟩; refine ⟨_, rfl, ?_⟩; have n0_ := Aside0.mk (Kd.N_lower (Kd.N_mono (ok' := fun k_ => some k_ ≠ (v153 : Value).ownBlock ∧ some k_ ≠ (v156 : Value).ownBlock ∧ k_ ≠ gb145 ∧ k_ ≠ gb146) ho0 (fun k_ hk_ => ⟨hk_.2.1, hk_.2.2, (Kd.freshB (g := gb145) (o := .cells #[.int .i64 a1_0, .int .i64 a1_1, .int .i64 a1_2] 24 (0, 0)) (by (with_reducible repeat (first | refine blk_drewN ?_ _ | refine blk_drew ?_ | refine blk_alloc ?_ _)); exact BK145.out) k_ hk_.1), (Kd.freshB (g := gb146) (o := .cells #[.int .i64 a2_0, .int .i64 a2_1, .int .i64 a2_2] 24 (0, 0)) (by (with_reducible repeat (first | refine blk_drewN ?_ _ | refine blk_drew ?_ | refine blk_alloc ?_ _)); exact BK146.out) k_ hk_.1)⟩)) (below_size (by repeat (first | (with_reducible first | exact HB.out | apply below_alloc | apply pw_below_drewN | apply below_drew1 | refine below_set ?_ GE145.out | refine below_set ?_ GE146.out) | exact HB.out)))); have n1_ := Aside0.mk (Kd.R_lower (Kd.R_mono (ok' := fun k_ => True) ho1 (fun _ hk_ => trivial)) (below_size (by repeat (first | (with_reducible first | exact HB.out | apply below_alloc | apply pw_below_drewN | apply below_drew1 | refine below_set ?_ GE145.out | refine below_set ?_ GE146.out) | exact HB.out)))); have n2_ := Aside0.mk (Kd.N_lower (Kd.N_mono (ok' := fun k_ => some k_ ≠ (v150 : Value).ownBlock ∧ some k_ ≠ (v153 : Value).ownBlock ∧ k_ ≠ gb145 ∧ k_ ≠ gb146) ho2 (fun k_ hk_ => ⟨hk_.2.1, hk_.2.2, (Kd.freshB (g := gb145) (o := .cells #[.int .i64 a1_0, .int .i64 a1_1, .int .i64 a1_2] 24 (0, 0)) (by (with_reducible repeat (first | refine blk_drewN ?_ _ | refine blk_drew ?_ | refine blk_alloc ?_ _)); exact BK145.out) k_ hk_.1), (Kd.freshB (g := gb146) (o := .cells #[.int .i64 a2_0, .int .i64 a2_1, .int .i64 a2_2] 24 (0, 0)) (by (with_reducible repeat (first | refine blk_drewN ?_ _ | refine blk_drew ?_ | refine blk_alloc ?_ _)); exact BK146.out) k_ hk_.1)⟩)) (below_size (by repeat (first | (with_reducible first | exact HB.out | apply below_alloc | apply pw_below_drewN | apply below_drew1 | refine below_set ?_ GE145.out | refine below_set ?_ GE146.out) | exact HB.out)))); have n3_ := Aside0.mk (blk_below (g := gb145) (o := .cells #[.int .i64 a1_0, .int .i64 a1_1, .int .i64 a1_2] 24 (0, 0)) (by (with_reducible repeat (first | refine blk_drewN ?_ _ | refine blk_drew ?_ | refine blk_alloc ?_ _)); exact BK145.out) hb); have n4_ := Aside0.mk (blk_below (g := gb146) (o := .cells #[.int .i64 a2_0, .int .i64 a2_1, .int .i64 a2_2] 24 (0, 0)) (by (with_reducible repeat (first | refine blk_drewN ?_ _ | refine blk_drew ?_ | refine blk_alloc ?_ _)); exact BK146.out) hb); have n5_ := Aside0.mk (below_step (by repeat (first | (with_reducible first | exact HB.out | apply below_alloc | apply pw_below_drewN | apply below_drew1 | refine below_set ?_ GE145.out | refine below_set ?_ GE146.out) | exact HB.out)) hb); clear BK145; clear BK146; clear HB; have HO151 := n0_; have HO154 := n1_; have HO157 := n2_; have BK145 := n3_; have BK146 := n4_; have HB := n5_; clear n0_ n1_ n2_ n3_ n4_ n5_; (try clear hb); (try clear hb2); (try clear hk); (try clear hi); (try clear ho0); (try clear ho1); (try clear ho2)) | ((with_reducible refine gate_dst (N := 7) rfl ?_); refine box_event ?hg (N := 7) ?hd (cs := #[.int .i64 0, .int .i64 0, .slice none 0 0, .slice none 0 0, .slice none 0 0]) (t := 29) ?hr ?_; (case hd => rfl); (case hg => rfl); (case hr => first | (go_simp; done) | (go_simp; rfl)); intro gb158 hg w10 hbox hb; have n0_ := Aside0.mk (Kd.N_below (Kd.N_elderB (by (with_reducible repeat (first | apply Kd.N_alloc | apply Kd.N_drewN | apply Kd.N_drew)); exact HO151.out) gb158 (Nat.le_of_eq hg.symm)) hb); have n1_ := Aside0.mk (Kd.R_below (by (with_reducible repeat (first | apply Kd.R_alloc | apply Kd.R_drewN | apply Kd.R_drew)); exact HO154.out) hb); have n2_ := Aside0.mk (Kd.N_below (Kd.N_elderB (by (with_reducible repeat (first | apply Kd.N_alloc | apply Kd.N_drewN | apply Kd.N_drew)); exact HO157.out) gb158 (Nat.le_of_eq hg.symm)) hb); have n3_ := Aside0.mk (blk_below (g := gb145) (o := .cells #[.int .i64 a1_0, .int .i64 a1_1, .int .i64 a1_2] 24 (0, 0)) (by (with_reducible repeat (first | refine blk_drewN ?_ _ | refine blk_drew ?_ | refine blk_alloc ?_ _)); exact BK145.out) hb); have n4_ := Aside0.mk (blk_below (g := gb146) (o := .cells #[.int .i64 a2_0, .int .i64 a2_1, .int .i64 a2_2] 24 (0, 0)) (by (with_reducible repeat (first | refine blk_drewN ?_ _ | refine blk_drew ?_ | refine blk_alloc ?_ _)); exact BK146.out) hb); have n5_ := Aside0.mk (below_step (by repeat (first | (with_reducible first | exact HB.out | apply below_alloc | apply pw_below_drewN | apply below_drew1 | refine below_set ?_ GE145.out | refine below_set ?_ GE146.out) | exact HB.out)) hb); have n6_ := Aside0.mk (hbox); have n7_ := Aside0.mk ((by rw [hg]; exact (below_size (by repeat (first | (with_reducible first | exact HB.out | apply below_alloc | apply pw_below_drewN | apply below_drew1 | refine below_set ?_ GE145.out | refine below_set ?_ GE146.out) | exact HB.out))) : w.heap.size ≤ gb158)); have n8_ := Aside0.mk ((by rw [hg]; exact (below_size (by repeat (first | (with_reducible first | exact HB.out | apply below_alloc | apply pw_below_drewN | apply below_drew1 | refine below_set ?_ GE145.out | refine below_set ?_ GE146.out) | exact HB.out))) : w.heap.size ≤ gb158)); have n9_ := Aside0.mk ((by rw [hg]; exact Nat.ne_of_lt (blk_lt (g := gb145) (o := .cells #[.int .i64 a1_0, .int .i64 a1_1, .int .i64 a1_2] 24 (0, 0)) (by (with_reducible repeat (first | refine blk_drewN ?_ _ | refine blk_drew ?_ | refine blk_alloc ?_ _)); exact BK145.out)) : gb145 ≠ gb158)); have n10_ := Aside0.mk ((by rw [hg]; exact Nat.ne_of_gt (blk_lt (g := gb145) (o := .cells #[.int .i64 a1_0, .int .i64 a1_1, .int .i64 a1_2] 24 (0, 0)) (by (with_reducible repeat (first | refine blk_drewN ?_ _ | refine blk_drew ?_ | refine blk_alloc ?_ _)); exact BK145.out)) : gb158 ≠ gb145)); have n11_ := Aside0.mk ((by rw [hg]; exact Nat.ne_of_lt (blk_lt (g := gb146) (o := .cells #[.int .i64 a2_0, .int .i64 a2_1, .int .i64 a2_2] 24 (0, 0)) (by (with_reducible repeat (first | refine blk_drewN ?_ _ | refine blk_drew ?_ | refine blk_alloc ?_ _)); exact BK146.out)) : gb146 ≠ gb158)); have n12_ := Aside0.mk ((by rw [hg]; exact Nat.ne_of_gt (blk_lt (g := gb146) (o := .cells #[.int .i64 a2_0, .int .i64 a2_1, .int .i64 a2_2] 24 (0, 0)) (by (with_reducible repeat (first | refine blk_drewN ?_ _ | refine blk_drew ?_ | refine blk_alloc ?_ _)); exact BK146.out)) : gb158 ≠ gb146)); clear HO151; clear HO154; clear HO157; clear BK145; clear BK146; clear HB; have HO151 := n0_; have HO154 := n1_; have HO157 := n2_; have BK145 := n3_; have BK146 := n4_; have HB := n5_; have BK158 := n6_; have GW158 := n7_; have GE158 := n8_; have NB145_158 := n9_; have NB158_145 := n10_; have NB146_158 := n11_; have NB158_146 := n12_; clear n0_ n1_ n2_ n3_ n4_ n5_ n6_ n7_ n8_ n9_ n10_ n11_ n12_; clear hb hbox hg; have hnb11 := NB158_145.out; have hnc11 := NB145_158.out; have hnb12 := NB158_146.out; have hnc12 := NB146_158.out; have hcz13_0 : w10.cell? ⟨gb158, 0, none⟩ = some (.int .i64 0) := (blk_cell BK158.out 0).trans rfl; have hcz13_1 : w10.cell? ⟨gb158, 1, none⟩ = some (.int .i64 0) := (blk_cell BK158.out 1).trans rfl; have hcz13_2 : w10.cell? ⟨gb158, 2, none⟩ = some (.slice none 0 0) := (blk_cell BK158.out 2).trans rfl; have hcz13_3 : w10.cell? ⟨gb158, 3, none⟩ = some (.slice none 0 0) := (blk_cell BK158.out 3).trans rfl; have hcz13_4 : w10.cell? ⟨gb158, 4, none⟩ = some (.slice none 0 0) := (blk_cell BK158.out 4).trans rfl; have hfz13_0 := blk_frozen BK158.out 0; have hfz13_1 := blk_frozen BK158.out 1; have hfz13_2 := blk_frozen BK158.out 2; have hfz13_3 := blk_frozen BK158.out 3; have hfz13_4 := blk_frozen BK158.out 4; obtain ⟨Ao14, co14, eo14⟩ := Kd.N_slice HO151.out; subst eo14; obtain ⟨Ao15, co15, eo15⟩ := Kd.R_slice HO154.out; subst eo15; obtain ⟨Ao16, co16, eo16⟩ := Kd.N_slice HO157.out; subst eo16))
  have n0_ : Aside0 (Kd.N k71 71 (((((w10.setCell ⟨gb158, 0, none⟩ (.int .i64 t147)).setCell ⟨gb158, 1, none⟩ (.int .i64 t148)).setCell ⟨gb158, 2, none⟩ (.slice Ao14 t149.length co14)).setCell ⟨gb158, 3, none⟩ (.slice Ao15 t152.length co15)).setCell ⟨gb158, 4, none⟩ (.slice Ao16 t155.length co16)) w.heap.size (fun k_ => some k_ ≠ (.slice Ao15 t152.length co15 : Value).ownBlock ∧ some k_ ≠ (.slice Ao16 t155.length co16 : Value).ownBlock ∧ k_ ≠ gb145 ∧ k_ ≠ gb146 ∧ k_ ≠ gb158) (.slice Ao14 t149.length co14) t149) := ⟨by (with_reducible repeat (first | apply Kd.N_alloc | apply Kd.N_drewN | apply Kd.N_drew)); exact Kd.N_mono (Kd.N_far (p := ⟨gb158, 4, none⟩) (Kd.N_far (p := ⟨gb158, 3, none⟩) (Kd.N_far (p := ⟨gb158, 2, none⟩) (Kd.N_far (p := ⟨gb158, 1, none⟩) (Kd.N_far (p := ⟨gb158, 0, none⟩) (Kd.N_mono HO151.out (fun k_ hk => (⟨hk, hk.2⟩ : _ ∧ k_ ≠ gb158))) (fun _ hk => hk.2) (.int .i64 t147)) (fun _ hk => hk.2) (.int .i64 t148)) (fun _ hk => hk.2) (.slice Ao14 t149.length co14)) (fun _ hk => hk.2) (.slice Ao15 t152.length co15)) (fun _ hk => hk.2) (.slice Ao16 t155.length co16)) (fun _ hk => ⟨hk.1.1.1, ⟨hk.1.1.2.1, ⟨hk.1.1.2.2.1, ⟨hk.1.1.2.2.2, hk.1.2⟩⟩⟩⟩)⟩
  have n1_ : Aside0 (Kd.R k73 73 (((((w10.setCell ⟨gb158, 0, none⟩ (.int .i64 t147)).setCell ⟨gb158, 1, none⟩ (.int .i64 t148)).setCell ⟨gb158, 2, none⟩ (.slice Ao14 t149.length co14)).setCell ⟨gb158, 3, none⟩ (.slice Ao15 t152.length co15)).setCell ⟨gb158, 4, none⟩ (.slice Ao16 t155.length co16)) w.heap.size (fun _ => True) (.slice Ao15 t152.length co15) t152) := ⟨by (with_reducible repeat (first | apply Kd.R_alloc | apply Kd.R_drewN | apply Kd.R_drew)); exact Kd.R_mono (Kd.R_far (p := ⟨gb158, 4, none⟩) (Kd.R_far (p := ⟨gb158, 3, none⟩) (Kd.R_far (p := ⟨gb158, 2, none⟩) (Kd.R_far (p := ⟨gb158, 1, none⟩) (Kd.R_far (p := ⟨gb158, 0, none⟩) (Kd.R_types HO154.out BK158.out (by decide)) (fun _ hk => hk.2) (.int .i64 t147)) (fun _ hk => hk.2) (.int .i64 t148)) (fun _ hk => hk.2) (.slice Ao14 t149.length co14)) (fun _ hk => hk.2) (.slice Ao15 t152.length co15)) (fun _ hk => hk.2) (.slice Ao16 t155.length co16)) (fun _ hk => trivial)⟩
  have n2_ : Aside0 (Kd.N k51 51 (((((w10.setCell ⟨gb158, 0, none⟩ (.int .i64 t147)).setCell ⟨gb158, 1, none⟩ (.int .i64 t148)).setCell ⟨gb158, 2, none⟩ (.slice Ao14 t149.length co14)).setCell ⟨gb158, 3, none⟩ (.slice Ao15 t152.length co15)).setCell ⟨gb158, 4, none⟩ (.slice Ao16 t155.length co16)) w.heap.size (fun k_ => some k_ ≠ (.slice Ao14 t149.length co14 : Value).ownBlock ∧ some k_ ≠ (.slice Ao15 t152.length co15 : Value).ownBlock ∧ k_ ≠ gb145 ∧ k_ ≠ gb146 ∧ k_ ≠ gb158) (.slice Ao16 t155.length co16) t155) := ⟨by (with_reducible repeat (first | apply Kd.N_alloc | apply Kd.N_drewN | apply Kd.N_drew)); exact Kd.N_mono (Kd.N_far (p := ⟨gb158, 4, none⟩) (Kd.N_far (p := ⟨gb158, 3, none⟩) (Kd.N_far (p := ⟨gb158, 2, none⟩) (Kd.N_far (p := ⟨gb158, 1, none⟩) (Kd.N_far (p := ⟨gb158, 0, none⟩) (Kd.N_mono HO157.out (fun k_ hk => (⟨hk, hk.2⟩ : _ ∧ k_ ≠ gb158))) (fun _ hk => hk.2) (.int .i64 t147)) (fun _ hk => hk.2) (.int .i64 t148)) (fun _ hk => hk.2) (.slice Ao14 t149.length co14)) (fun _ hk => hk.2) (.slice Ao15 t152.length co15)) (fun _ hk => hk.2) (.slice Ao16 t155.length co16)) (fun _ hk => ⟨hk.1.1.1, ⟨hk.1.1.2.1, ⟨hk.1.1.2.2.1, ⟨hk.1.1.2.2.2, hk.1.2⟩⟩⟩⟩)⟩
  have n3_ : Aside0 ((((((w10.setCell ⟨gb158, 0, none⟩ (.int .i64 t147)).setCell ⟨gb158, 1, none⟩ (.int .i64 t148)).setCell ⟨gb158, 2, none⟩ (.slice Ao14 t149.length co14)).setCell ⟨gb158, 3, none⟩ (.slice Ao15 t152.length co15)).setCell ⟨gb158, 4, none⟩ (.slice Ao16 t155.length co16)).heap[gb145]? = some (.cells #[.int .i64 a1_0, .int .i64 a1_1, .int .i64 a1_2] 24 (0, 0))) := ⟨by (with_reducible repeat (first | refine blk_drewN ?_ _ | refine blk_drew ?_ | refine blk_alloc ?_ _)); refine blk_far ?_ NB145_158.out _; (with_reducible repeat (first | refine blk_drewN ?_ _ | refine blk_drew ?_ | refine blk_alloc ?_ _)); refine blk_far ?_ NB145_158.out _; (with_reducible repeat (first | refine blk_drewN ?_ _ | refine blk_drew ?_ | refine blk_alloc ?_ _)); refine blk_far ?_ NB145_158.out _; (with_reducible repeat (first | refine blk_drewN ?_ _ | refine blk_drew ?_ | refine blk_alloc ?_ _)); refine blk_far ?_ NB145_158.out _; (with_reducible repeat (first | refine blk_drewN ?_ _ | refine blk_drew ?_ | refine blk_alloc ?_ _)); refine blk_far ?_ NB145_158.out _; (with_reducible repeat (first | refine blk_drewN ?_ _ | refine blk_drew ?_ | refine blk_alloc ?_ _)); exact BK145.out⟩
  have n4_ : Aside0 ((((((w10.setCell ⟨gb158, 0, none⟩ (.int .i64 t147)).setCell ⟨gb158, 1, none⟩ (.int .i64 t148)).setCell ⟨gb158, 2, none⟩ (.slice Ao14 t149.length co14)).setCell ⟨gb158, 3, none⟩ (.slice Ao15 t152.length co15)).setCell ⟨gb158, 4, none⟩ (.slice Ao16 t155.length co16)).heap[gb146]? = some (.cells #[.int .i64 a2_0, .int .i64 a2_1, .int .i64 a2_2] 24 (0, 0))) := ⟨by (with_reducible repeat (first | refine blk_drewN ?_ _ | refine blk_drew ?_ | refine blk_alloc ?_ _)); refine blk_far ?_ NB146_158.out _; (with_reducible repeat (first | refine blk_drewN ?_ _ | refine blk_drew ?_ | refine blk_alloc ?_ _)); refine blk_far ?_ NB146_158.out _; (with_reducible repeat (first | refine blk_drewN ?_ _ | refine blk_drew ?_ | refine blk_alloc ?_ _)); refine blk_far ?_ NB146_158.out _; (with_reducible repeat (first | refine blk_drewN ?_ _ | refine blk_drew ?_ | refine blk_alloc ?_ _)); refine blk_far ?_ NB146_158.out _; (with_reducible repeat (first | refine blk_drewN ?_ _ | refine blk_drew ?_ | refine blk_alloc ?_ _)); refine blk_far ?_ NB146_158.out _; (with_reducible repeat (first | refine blk_drewN ?_ _ | refine blk_drew ?_ | refine blk_alloc ?_ _)); exact BK146.out⟩
  have n5_ : Aside0 ((((((w10.setCell ⟨gb158, 0, none⟩ (.int .i64 t147)).setCell ⟨gb158, 1, none⟩ (.int .i64 t148)).setCell ⟨gb158, 2, none⟩ (.slice Ao14 t149.length co14)).setCell ⟨gb158, 3, none⟩ (.slice Ao15 t152.length co15)).setCell ⟨gb158, 4, none⟩ (.slice Ao16 t155.length co16)).heap[gb158]? = some (.cells #[.int .i64 t147, .int .i64 t148, .slice Ao14 t149.length co14, .slice Ao15 t152.length co15, .slice Ao16 t155.length co16] 29 (0, 0))) := ⟨by (with_reducible repeat (first | refine blk_drewN ?_ _ | refine blk_drew ?_ | refine blk_alloc ?_ _)); refine blk_put (cs := #[.int .i64 t147, .int .i64 t148, .slice Ao14 t149.length co14, .slice Ao15 t152.length co15, .slice none 0 0]) ?_ 4 _ rfl; (with_reducible repeat (first | refine blk_drewN ?_ _ | refine blk_drew ?_ | refine blk_alloc ?_ _)); refine blk_put (cs := #[.int .i64 t147, .int .i64 t148, .slice Ao14 t149.length co14, .slice none 0 0, .slice none 0 0]) ?_ 3 _ rfl; (with_reducible repeat (first | refine blk_drewN ?_ _ | refine blk_drew ?_ | refine blk_alloc ?_ _)); refine blk_put (cs := #[.int .i64 t147, .int .i64 t148, .slice none 0 0, .slice none 0 0, .slice none 0 0]) ?_ 2 _ rfl; (with_reducible repeat (first | refine blk_drewN ?_ _ | refine blk_drew ?_ | refine blk_alloc ?_ _)); refine blk_put (cs := #[.int .i64 t147, .int .i64 0, .slice none 0 0, .slice none 0 0, .slice none 0 0]) ?_ 1 _ rfl; (with_reducible repeat (first | refine blk_drewN ?_ _ | refine blk_drew ?_ | refine blk_alloc ?_ _)); refine blk_put (cs := #[.int .i64 0, .int .i64 0, .slice none 0 0, .slice none 0 0, .slice none 0 0]) ?_ 0 _ rfl; (with_reducible repeat (first | refine blk_drewN ?_ _ | refine blk_drew ?_ | refine blk_alloc ?_ _)); exact BK158.out⟩
  have n6_ : Aside0 (Below w.heap.size w (((((w10.setCell ⟨gb158, 0, none⟩ (.int .i64 t147)).setCell ⟨gb158, 1, none⟩ (.int .i64 t148)).setCell ⟨gb158, 2, none⟩ (.slice Ao14 t149.length co14)).setCell ⟨gb158, 3, none⟩ (.slice Ao15 t152.length co15)).setCell ⟨gb158, 4, none⟩ (.slice Ao16 t155.length co16))) := ⟨by repeat (first | (with_reducible first | exact HB.out | apply below_alloc | apply pw_below_drewN | apply below_drew1 | refine below_set ?_ GE145.out | refine below_set ?_ GE146.out | refine below_set ?_ GE158.out) | exact HB.out)⟩
  (try clear HO151)
  (try clear HO154)
  (try clear HO157)
  (try clear BK145)
  (try clear BK146)
  (try clear BK158)
  (try clear HB)
  generalize (((((w10.setCell ⟨gb158, 0, none⟩ (.int .i64 t147)).setCell ⟨gb158, 1, none⟩ (.int .i64 t148)).setCell ⟨gb158, 2, none⟩ (.slice Ao14 t149.length co14)).setCell ⟨gb158, 3, none⟩ (.slice Ao15 t152.length co15)).setCell ⟨gb158, 4, none⟩ (.slice Ao16 t155.length co16)) = w17 at n0_ n1_ n2_ n3_ n4_ n5_ n6_ ⊢
  have HO151 := n0_
  have HO154 := n1_
  have HO157 := n2_
  have BK145 := n3_
  have BK146 := n4_
  have BK158 := n5_
  have HB := n6_
  clear n0_ n1_ n2_ n3_ n4_ n5_ n6_
  have n0_ := Aside0.mk (Kd.N_drew HO151.out)
  have n1_ := Aside0.mk (Kd.R_drew HO154.out)
  have n2_ := Aside0.mk (Kd.N_drew HO157.out)
  have n3_ := Aside0.mk (blk_drew BK145.out)
  have n4_ := Aside0.mk (blk_drew BK146.out)
  have n5_ := Aside0.mk (blk_drew BK158.out)
  have n6_ := Aside0.mk (below_drew1 HB.out)
  clear HO151
  clear HO154
  clear HO157
  clear BK145
  clear BK146
  clear BK158
  clear HB
  have HO151 := n0_
  have HO154 := n1_
  have HO157 := n2_
  have BK145 := n3_
  have BK146 := n4_
  have BK158 := n5_
  have HB := n6_
  clear n0_ n1_ n2_ n3_ n4_ n5_ n6_
  refine start_ (n := 11) (S := fun w' => w'.cell? ⟨gb145, 0, none⟩ = some (.int .i64 a1_0) ∧ w'.cell? ⟨gb145, 1, none⟩ = some (.int .i64 a1_1) ∧ w'.cell? ⟨gb145, 2, none⟩ = some (.int .i64 a1_2) ∧ w'.cell? ⟨gb146, 0, none⟩ = some (.int .i64 a2_0) ∧ w'.cell? ⟨gb146, 1, none⟩ = some (.int .i64 a2_1) ∧ w'.cell? ⟨gb146, 2, none⟩ = some (.int .i64 a2_2)) (ds := []) #[false, false, false, false, false, false, false, false, false, false, false] (by kernel_rfl) rfl rfl ⟨(blk_cell BK145.out 0).trans rfl, (blk_cell BK145.out 1).trans rfl, (blk_cell BK145.out 2).trans rfl, (blk_cell BK146.out 0).trans rfl, (blk_cell BK146.out 1).trans rfl, (blk_cell BK146.out 2).trans rfl⟩ (fun hHeld => ?_); refine with_tabW debuggerlaw42_SteppingImplies.tab2 debuggerlaw42_SteppingImplies.bits2 (fun HT_ HW_ => ?_)
  generalize w17.drew = w18 at HO151 HO154 HO157 BK145 BK146 BK158 HB hHeld ⊢
  refine pure_ (i := 10) (N := some 25) (v := ?_) (a' := ?_) #[false, false, false, false, false, false, false, false, false, false, true] rfl rfl (any_of HT_.out (by kernel_rfl)) (fun _ _ _ h => h) (Or.inl ⟨by rfl, ?_⟩) ?_ ?_
  rotate_left
  · intro w'
    go_simp
    with_reducible rfl
  rotate_left
  · simp only [Act.put, List.setIfInBounds_toArray, List.set_cons_zero, List.set_cons_succ, i64_w, i32_w]
    rfl
  refine take_ (i := 0) (N := some 15) (v := ?_) (a' := ?_) #[true, false, false, false, false, false, false, false, false, false, true] rfl rfl (take_ofW HT_.out HW_.out (by kernel_rfl)) (fun _ _ _ h => h) (Or.inl ⟨by rfl, ?_⟩) hHeld ?_ ?_
  rotate_left
  · rintro w' ⟨s0, s1, s2, s3, s4, s5⟩
    go_simp
    with_reducible rfl
  rotate_left
  · simp only [Act.put, List.setIfInBounds_toArray, List.set_cons_zero, List.set_cons_succ, i64_w, i32_w]
    rfl
  refine take_ (i := 1) (N := some 16) (v := ?_) (a' := ?_) #[true, true, false, false, false, false, false, false, false, false, true] rfl rfl (take_ofW HT_.out HW_.out (by kernel_rfl)) (fun _ _ _ h => h) (Or.inl ⟨by rfl, ?_⟩) hHeld ?_ ?_
  rotate_left
  · rintro w' ⟨s0, s1, s2, s3, s4, s5⟩
    go_simp
    with_reducible rfl
  rotate_left
  · simp only [Act.put, List.setIfInBounds_toArray, List.set_cons_zero, List.set_cons_succ, i64_w, i32_w]
    rfl
  refine pure_ (i := 2) (N := some 17) (v := ?_) (a' := ?_) #[true, true, true, false, false, false, false, false, false, false, true] rfl rfl (any_of HT_.out (by kernel_rfl)) (fun _ _ _ h => h) (Or.inl ⟨by rfl, ?_⟩) ?_ ?_
  rotate_left
  · intro w'
    go_simp
    with_reducible rfl
  rotate_left
  · simp only [Act.put, List.setIfInBounds_toArray, List.set_cons_zero, List.set_cons_succ, i64_w, i32_w]
    rfl
  refine take_ (i := 3) (N := some 18) (v := ?_) (a' := ?_) #[true, true, true, true, false, false, false, false, false, false, true] rfl rfl (take_ofW HT_.out HW_.out (by kernel_rfl)) (fun _ _ _ h => h) (Or.inl ⟨by rfl, ?_⟩) hHeld ?_ ?_
  rotate_left
  · rintro w' ⟨s0, s1, s2, s3, s4, s5⟩
    go_simp
    with_reducible rfl
  rotate_left
  · simp only [Act.put, List.setIfInBounds_toArray, List.set_cons_zero, List.set_cons_succ, i64_w, i32_w]
    rfl
  refine take_ (i := 5) (N := some 20) (v := ?_) (a' := ?_) #[true, true, true, true, false, true, false, false, false, false, true] rfl rfl (take_ofW HT_.out HW_.out (by kernel_rfl)) (fun _ _ _ h => h) (Or.inl ⟨by rfl, ?_⟩) hHeld ?_ ?_
  rotate_left
  · rintro w' ⟨s0, s1, s2, s3, s4, s5⟩
    go_simp
    with_reducible rfl
  rotate_left
  · simp only [Act.put, List.setIfInBounds_toArray, List.set_cons_zero, List.set_cons_succ, i64_w, i32_w]
    rfl
  refine one_ (i := 4) (N := some 19) #[true, true, true, true, true, true, false, false, false, false, true] rfl rfl (one_of HT_.out (by kernel_rfl)) (by decide) (fun K hK => ?_)
  refine goes_ Try.func7 (by kernel_rfl) rfl #[.agg #[.int .i64 a1_0, .int .i64 a1_1, .int .i64 a1_2]] (by rfl) rfl rfl (by (try simp only [List.map_toArray, List.map_cons, List.map_nil]); first | done | rfl | (simp only [List.length_drop, List.length_take]; rfl)) ?_
  with_reducible refine (debuggerlaw42_near.calls a1_0 a1_1 a1_2 t159 t160 t161 _ A5.out).mono ?_
  rintro e w19 ⟨rfl, hb⟩
  refine ⟨_, rfl, ?_⟩
  have n0_ := Aside0.mk (Kd.N_below (by (with_reducible repeat (first | apply Kd.N_alloc | apply Kd.N_drewN | apply Kd.N_drew)); exact HO151.out) hb)
  have n1_ := Aside0.mk (Kd.R_below (by (with_reducible repeat (first | apply Kd.R_alloc | apply Kd.R_drewN | apply Kd.R_drew)); exact HO154.out) hb)
  have n2_ := Aside0.mk (Kd.N_below (by (with_reducible repeat (first | apply Kd.N_alloc | apply Kd.N_drewN | apply Kd.N_drew)); exact HO157.out) hb)
  have n3_ := Aside0.mk (blk_below (g := gb145) (o := .cells #[.int .i64 a1_0, .int .i64 a1_1, .int .i64 a1_2] 24 (0, 0)) (by (with_reducible repeat (first | refine blk_drewN ?_ _ | refine blk_drew ?_ | refine blk_alloc ?_ _)); exact BK145.out) hb)
  have n4_ := Aside0.mk (blk_below (g := gb146) (o := .cells #[.int .i64 a2_0, .int .i64 a2_1, .int .i64 a2_2] 24 (0, 0)) (by (with_reducible repeat (first | refine blk_drewN ?_ _ | refine blk_drew ?_ | refine blk_alloc ?_ _)); exact BK146.out) hb)
  have n5_ := Aside0.mk (blk_below (g := gb158) (o := .cells #[.int .i64 t147, .int .i64 t148, .slice Ao14 t149.length co14, .slice Ao15 t152.length co15, .slice Ao16 t155.length co16] 29 (0, 0)) (by (with_reducible repeat (first | refine blk_drewN ?_ _ | refine blk_drew ?_ | refine blk_alloc ?_ _)); exact BK158.out) hb)
  have n6_ := Aside0.mk (below_step (by repeat (first | (with_reducible first | exact HB.out | apply below_alloc | apply pw_below_drewN | apply below_drew1 | refine below_set ?_ GE145.out | refine below_set ?_ GE146.out | refine below_set ?_ GE158.out) | exact HB.out)) hb)
  clear HO151
  clear HO154
  clear HO157
  clear BK145
  clear BK146
  clear BK158
  clear HB
  have HO151 := n0_
  have HO154 := n1_
  have HO157 := n2_
  have BK145 := n3_
  have BK146 := n4_
  have BK158 := n5_
  have HB := n6_
  clear n0_ n1_ n2_ n3_ n4_ n5_ n6_
  (try clear hb)
  (try clear hb2)
  (try clear hk)
  (try clear hi)
  refine hK.out _ _ ⟨(blk_cell BK145.out 0).trans rfl, (blk_cell BK145.out 1).trans rfl, (blk_cell BK145.out 2).trans rfl, (blk_cell BK146.out 0).trans rfl, (blk_cell BK146.out 1).trans rfl, (blk_cell BK146.out 2).trans rfl⟩ (fun hHeld => ?_)
  clear hK K
  refine norm_ (a' := ?_) ?_ ?_
  rotate_left
  · show Act.put _ (some 19) _ = _
    simp only [Act.put, List.setIfInBounds_toArray, List.set_cons_zero, List.set_cons_succ, i64_w, i32_w]
    rfl
  refine one_ (i := 6) (N := some 21) #[true, true, true, true, true, true, true, false, false, false, true] rfl rfl (one_of HT_.out (by kernel_rfl)) (by decide) (fun K hK => ?_)
  refine goes_ Try.func7 (by kernel_rfl) rfl #[.agg #[.int .i64 a2_0, .int .i64 a2_1, .int .i64 a2_2]] (by rfl) rfl rfl (by (try simp only [List.map_toArray, List.map_cons, List.map_nil]); first | done | rfl | (simp only [List.length_drop, List.length_take]; rfl)) ?_
  with_reducible refine (debuggerlaw42_near.calls a2_0 a2_1 a2_2 t162 t163 t164 _ A6.out).mono ?_
  rintro e w20 ⟨rfl, hb⟩
  refine ⟨_, rfl, ?_⟩
  have n0_ := Aside0.mk (Kd.N_below (by (with_reducible repeat (first | apply Kd.N_alloc | apply Kd.N_drewN | apply Kd.N_drew)); exact HO151.out) hb)
  have n1_ := Aside0.mk (Kd.R_below (by (with_reducible repeat (first | apply Kd.R_alloc | apply Kd.R_drewN | apply Kd.R_drew)); exact HO154.out) hb)
  have n2_ := Aside0.mk (Kd.N_below (by (with_reducible repeat (first | apply Kd.N_alloc | apply Kd.N_drewN | apply Kd.N_drew)); exact HO157.out) hb)
  have n3_ := Aside0.mk (blk_below (g := gb145) (o := .cells #[.int .i64 a1_0, .int .i64 a1_1, .int .i64 a1_2] 24 (0, 0)) (by (with_reducible repeat (first | refine blk_drewN ?_ _ | refine blk_drew ?_ | refine blk_alloc ?_ _)); exact BK145.out) hb)
  have n4_ := Aside0.mk (blk_below (g := gb146) (o := .cells #[.int .i64 a2_0, .int .i64 a2_1, .int .i64 a2_2] 24 (0, 0)) (by (with_reducible repeat (first | refine blk_drewN ?_ _ | refine blk_drew ?_ | refine blk_alloc ?_ _)); exact BK146.out) hb)
  have n5_ := Aside0.mk (blk_below (g := gb158) (o := .cells #[.int .i64 t147, .int .i64 t148, .slice Ao14 t149.length co14, .slice Ao15 t152.length co15, .slice Ao16 t155.length co16] 29 (0, 0)) (by (with_reducible repeat (first | refine blk_drewN ?_ _ | refine blk_drew ?_ | refine blk_alloc ?_ _)); exact BK158.out) hb)
  have n6_ := Aside0.mk (below_step (by repeat (first | (with_reducible first | exact HB.out | apply below_alloc | apply pw_below_drewN | apply below_drew1 | refine below_set ?_ GE145.out | refine below_set ?_ GE146.out | refine below_set ?_ GE158.out) | exact HB.out)) hb)
  clear HO151
  clear HO154
  clear HO157
  clear BK145
  clear BK146
  clear BK158
  clear HB
  have HO151 := n0_
  have HO154 := n1_
  have HO157 := n2_
  have BK145 := n3_
  have BK146 := n4_
  have BK158 := n5_
  have HB := n6_
  clear n0_ n1_ n2_ n3_ n4_ n5_ n6_
  (try clear hb)
  (try clear hb2)
  (try clear hk)
  (try clear hi)
  refine hK.out _ _ ⟨(blk_cell BK145.out 0).trans rfl, (blk_cell BK145.out 1).trans rfl, (blk_cell BK145.out 2).trans rfl, (blk_cell BK146.out 0).trans rfl, (blk_cell BK146.out 1).trans rfl, (blk_cell BK146.out 2).trans rfl⟩ (fun hHeld => ?_)
  clear hK K
  refine norm_ (a' := ?_) ?_ ?_
  rotate_left
  · show Act.put _ (some 21) _ = _
    simp only [Act.put, List.setIfInBounds_toArray, List.set_cons_zero, List.set_cons_succ, i64_w, i32_w]
    rfl
  refine pure_ (i := 7) (N := some 22) (v := ?_) (a' := ?_) #[true, true, true, true, true, true, true, true, false, false, true] rfl rfl (any_of HT_.out (by kernel_rfl)) (fun _ _ _ h => h) (Or.inl ⟨by rfl, ?_⟩) ?_ ?_
  rotate_left
  · intro w'
    go_simp
    with_reducible rfl
  rotate_left
  · simp only [Act.put, List.setIfInBounds_toArray, List.set_cons_zero, List.set_cons_succ, i64_w, i32_w]
    rfl
  refine one_ (i := 8) (N := some 23) #[true, true, true, true, true, true, true, true, true, false, true] rfl rfl (one_of HT_.out (by kernel_rfl)) (by decide) (fun K hK => ?_)
  refine Kd.R_lit_step k31 _ 31 ?hg (N := 23) ?hd (xs := ([(⟨(⟨a1_0, a1_1, a1_2⟩ : S24), (⟨a2_0, a2_1, a2_2⟩ : S24)⟩ : S31), (⟨(⟨t159, t160, t161⟩ : S24), (⟨t162, t163, t164⟩ : S24)⟩ : S31)] : List (S31))) (inner := [.int .i64 a1_0, .int .i64 a1_1, .int .i64 a1_2, .int .i64 a2_0, .int .i64 a2_1, .int .i64 a2_2, .int .i64 t159, .int .i64 t160, .int .i64 t161, .int .i64 t162, .int .i64 t163, .int .i64 t164]) (ok := fun _ => True) (okp := fun _ => True) ?hr ?hp (fun _ hk => hk) trivial (Below.refl _ _) (Nat.le_refl _) (by simp) ?_; (case hd => rfl); (case hg => rfl); (case hr => first | (go_simp; done) | (go_simp; rfl)); (case hp => exact (Reps.c6 (show Kd.M k31 _ _ _ (⟨(⟨a1_0, a1_1, a1_2⟩ : S24), (⟨a2_0, a2_1, a2_2⟩ : S24)⟩ : S31) [.int .i64 a1_0, .int .i64 a1_1, .int .i64 a1_2, .int .i64 a2_0, .int .i64 a2_1, .int .i64 a2_2] from (k31_mkM _ _ _ (⟨(⟨a1_0, a1_1, a1_2⟩ : S24), (⟨a2_0, a2_1, a2_2⟩ : S24)⟩ : S31) )) (Reps.c6 (show Kd.M k31 _ _ _ (⟨(⟨t159, t160, t161⟩ : S24), (⟨t162, t163, t164⟩ : S24)⟩ : S31) [.int .i64 t159, .int .i64 t160, .int .i64 t161, .int .i64 t162, .int .i64 t163, .int .i64 t164] from (k31_mkM _ _ _ (⟨(⟨t159, t160, t161⟩ : S24), (⟨t162, t163, t164⟩ : S24)⟩ : S31) )) (Reps.none _ _))))
  intro v166 w21 ho22 hb hg_ hnew_
  clear hg_ hnew_
  (first | rw [← Ny165.out] at ho22 | (simp only [Int.reduceToNat] at ho22; rw [← Ny165.out] at ho22))
  have n0_ := Aside0.mk (Kd.N_elder' (by (with_reducible repeat (first | apply Kd.N_alloc | apply Kd.N_drewN | apply Kd.N_drew)); exact HO151.out) (Kd.R_base ho22) hb)
  have n1_ := Aside0.mk (Kd.R_below (by (with_reducible repeat (first | apply Kd.R_alloc | apply Kd.R_drewN | apply Kd.R_drew)); exact HO154.out) hb)
  have n2_ := Aside0.mk (Kd.N_elder' (by (with_reducible repeat (first | apply Kd.N_alloc | apply Kd.N_drewN | apply Kd.N_drew)); exact HO157.out) (Kd.R_base ho22) hb)
  have n3_ := Aside0.mk (Kd.R_lower ho22 (below_size (by repeat (first | (with_reducible first | exact HB.out | apply below_alloc | apply pw_below_drewN | apply below_drew1 | refine below_set ?_ GE145.out | refine below_set ?_ GE146.out | refine below_set ?_ GE158.out) | exact HB.out))))
  have n4_ := Aside0.mk (blk_below (g := gb145) (o := .cells #[.int .i64 a1_0, .int .i64 a1_1, .int .i64 a1_2] 24 (0, 0)) (by (with_reducible repeat (first | refine blk_drewN ?_ _ | refine blk_drew ?_ | refine blk_alloc ?_ _)); exact BK145.out) hb)
  have n5_ := Aside0.mk (blk_below (g := gb146) (o := .cells #[.int .i64 a2_0, .int .i64 a2_1, .int .i64 a2_2] 24 (0, 0)) (by (with_reducible repeat (first | refine blk_drewN ?_ _ | refine blk_drew ?_ | refine blk_alloc ?_ _)); exact BK146.out) hb)
  have n6_ := Aside0.mk (blk_below (g := gb158) (o := .cells #[.int .i64 t147, .int .i64 t148, .slice Ao14 t149.length co14, .slice Ao15 t152.length co15, .slice Ao16 t155.length co16] 29 (0, 0)) (by (with_reducible repeat (first | refine blk_drewN ?_ _ | refine blk_drew ?_ | refine blk_alloc ?_ _)); exact BK158.out) hb)
  have n7_ := Aside0.mk (below_step (by repeat (first | (with_reducible first | exact HB.out | apply below_alloc | apply pw_below_drewN | apply below_drew1 | refine below_set ?_ GE145.out | refine below_set ?_ GE146.out | refine below_set ?_ GE158.out) | exact HB.out)) hb)
  clear HO151
  clear HO154
  clear HO157
  clear BK145
  clear BK146
  clear BK158
  clear HB
  have HO151 := n0_
  have HO154 := n1_
  have HO157 := n2_
  have HO167 := n3_
  have BK145 := n4_
  have BK146 := n5_
  have BK158 := n6_
  have HB := n7_
  clear n0_ n1_ n2_ n3_ n4_ n5_ n6_ n7_
  clear hb ho22
  obtain ⟨Ao23, co23, eo23⟩ := Kd.R_slice HO167.out
  (first | subst eo23 | (injection eo23 with f1_ f2_ f3_; have f4_ := f1_.symm; have f5_ := f3_.symm; clear f1_ f2_ f3_; subst f4_; subst f5_))
  refine hK.out _ _ ⟨(blk_cell BK145.out 0).trans rfl, (blk_cell BK145.out 1).trans rfl, (blk_cell BK145.out 2).trans rfl, (blk_cell BK146.out 0).trans rfl, (blk_cell BK146.out 1).trans rfl, (blk_cell BK146.out 2).trans rfl⟩ (fun hHeld => ?_)
  clear hK K
  refine norm_ (a' := ?_) ?_ ?_
  rotate_left
  · show Act.put _ (some 23) _ = _
    simp only [Act.put, List.setIfInBounds_toArray, List.set_cons_zero, List.set_cons_succ, i64_w, i32_w]
    rfl
  refine pure_ (i := 9) (N := some 24) (v := ?_) (a' := ?_) #[true, true, true, true, true, true, true, true, true, true, true] rfl rfl (any_of HT_.out (by kernel_rfl)) (fun _ _ _ h => h) (Or.inl ⟨by rfl, ?_⟩) ?_ ?_
  rotate_left
  · intro w'
    go_simp
    with_reducible rfl
  rotate_left
  · simp only [Act.put, List.setIfInBounds_toArray, List.set_cons_zero, List.set_cons_succ, i64_w, i32_w]
    rfl
  refine done_ (done_of HT_.out (by kernel_rfl)) ?_
  try go_wp2
  go_loopg [25] k (fun kq v25 w' => ∃ (x25_1 : Int), v25 = .int .i64 x25_1 ∧ Aside0 (debuggerlaw42_SteppingImplies.l0 kq y165 (y165.length : Int) x25_1 t147 t148 t149 t152 t155 = some r) ∧ Aside0 (kq ≤ k) ∧ Aside0 (Kd.R k31 31 w' w.heap.size (fun _ => True) (.slice Ao23 y165.length co23) y165) ∧ Aside0 (Kd.N k71 71 w' w.heap.size (fun k_ => some k_ ≠ ((.slice Ao23 y165.length co23) : Value).ownBlock ∧ some k_ ≠ ((.slice Ao15 t152.length co15) : Value).ownBlock ∧ some k_ ≠ ((.slice Ao16 t155.length co16) : Value).ownBlock ∧ k_ ≠ gb145 ∧ k_ ≠ gb146 ∧ k_ ≠ gb158) (.slice Ao14 t149.length co14) t149) ∧ Aside0 (Kd.R k73 73 w' w.heap.size (fun _ => True) (.slice Ao15 t152.length co15) t152) ∧ Aside0 (Kd.N k51 51 w' w.heap.size (fun k_ => some k_ ≠ ((.slice Ao23 y165.length co23) : Value).ownBlock ∧ some k_ ≠ ((.slice Ao14 t149.length co14) : Value).ownBlock ∧ some k_ ≠ ((.slice Ao15 t152.length co15) : Value).ownBlock ∧ k_ ≠ gb145 ∧ k_ ≠ gb146 ∧ k_ ≠ gb158) (.slice Ao16 t155.length co16) t155) ∧ Aside0 (w'.heap[gb145]? = some (.cells #[.int .i64 a1_0, .int .i64 a1_1, .int .i64 a1_2] 24 (0, 0))) ∧ Aside0 (w'.heap[gb146]? = some (.cells #[.int .i64 a2_0, .int .i64 a2_1, .int .i64 a2_2] 24 (0, 0))) ∧ Aside0 (w'.heap[gb158]? = some (.cells #[.int .i64 t147, .int .i64 t148, (.slice Ao14 t149.length co14), (.slice Ao15 t152.length co15), (.slice Ao16 t155.length co16)] 29 (0, 0))) ∧ Aside0 (Below w.heap.size w w'))
  case atStart => exact ⟨(0), (by first | rfl | (simp; done) | (simp [*]; done)), H', ⟨Nat.le_refl _⟩, ⟨by (with_reducible repeat (first | apply Kd.R_alloc | apply Kd.R_drewN | apply Kd.R_drew)); exact HO167.out⟩, ⟨by (with_reducible repeat (first | apply Kd.N_alloc | apply Kd.N_drewN | apply Kd.N_drew)); exact Kd.N_mono HO151.out (fun _ hk => ⟨hk.2, ⟨hk.1.1, ⟨hk.1.2.1, ⟨hk.1.2.2.1, ⟨hk.1.2.2.2.1, hk.1.2.2.2.2⟩⟩⟩⟩⟩)⟩, ⟨by (with_reducible repeat (first | apply Kd.R_alloc | apply Kd.R_drewN | apply Kd.R_drew)); exact HO154.out⟩, ⟨by (with_reducible repeat (first | apply Kd.N_alloc | apply Kd.N_drewN | apply Kd.N_drew)); exact Kd.N_mono HO157.out (fun _ hk => ⟨hk.2, ⟨hk.1.1, ⟨hk.1.2.1, ⟨hk.1.2.2.1, ⟨hk.1.2.2.2.1, hk.1.2.2.2.2⟩⟩⟩⟩⟩)⟩, ⟨by (with_reducible repeat (first | refine blk_drewN ?_ _ | refine blk_drew ?_ | refine blk_alloc ?_ _)); exact BK145.out⟩, ⟨by (with_reducible repeat (first | refine blk_drewN ?_ _ | refine blk_drew ?_ | refine blk_alloc ?_ _)); exact BK146.out⟩, ⟨by (with_reducible repeat (first | refine blk_drewN ?_ _ | refine blk_drew ?_ | refine blk_alloc ?_ _)); exact BK158.out⟩, ⟨by repeat (first | (with_reducible first | exact HB.out | apply below_alloc | apply pw_below_drewN | apply below_drew1 | refine below_set ?_ GE145.out | refine below_set ?_ GE146.out | refine below_set ?_ GE158.out) | exact HB.out)⟩⟩
  case round =>
    clear H'
    try clear c1
    try clear p2
    try clear c5
    try clear c6
    try clear c7
    try clear c11
    try clear c12
    try clear hcz13_0
    try clear hcz13_1
    try clear hcz13_2
    try clear hcz13_3
    try clear hcz13_4
    try clear hfz13_0
    try clear hfz13_1
    try clear hfz13_2
    try clear hfz13_3
    try clear hfz13_4
    obtain ⟨x25_1, rfl, HA, HK1, HO_23, HO_159002, HO_159003, HO_159004, BK145, BK146, BK158, HB⟩ := hrel
    cases gk with
    | zero => exact absurd HA.out (by simp [debuggerlaw42_SteppingImplies.l0])
    | succ k1 =>
      have H := HA.out
      clear HA
      simp only [debuggerlaw42_SteppingImplies.l0] at H
      by_cases c24 : x25_1 < (y165.length : Int)
      · rw [if_pos c24] at H
        have c24b0 : decide (x25_1 < (y165.length : Int)) = true := decide_eq_true c24
        clear c24
        by_cases c25 : 0 ≤ x25_1
        · rw [if_pos c25] at H
          have c25b0 : decide (0 ≤ x25_1) = true := decide_eq_true c25
          clear c25
          by_cases c26 : x25_1 < (y165.length : Int)
          · rw [if_pos c26] at H
            have c26b0 : decide (x25_1 < (y165.length : Int)) = true := decide_eq_true c26
            clear c26
            replace H := Option.bind_eq_some_iff.mp H
            obtain ⟨t171, A270, H⟩ := H
            replace H : ((stepping_Stops.f k1 t147 t148 t149 t152 t155 2 ((rd_T31 y165 x25_1).f0.f0) ((rd_T31 y165 x25_1).f0.f1) ((rd_T31 y165 x25_1).f0.f2) ((rd_T31 y165 x25_1).f1.f0) ((rd_T31 y165 x25_1).f1.f1) ((rd_T31 y165 x25_1).f1.f2)).bind fun t172 => ((stepping_Stops.f k1 t147 t148 t149 t152 t155 1 ((rd_T31 y165 x25_1).f0.f0) ((rd_T31 y165 x25_1).f0.f1) ((rd_T31 y165 x25_1).f0.f2) ((rd_T31 y165 x25_1).f1.f0) ((rd_T31 y165 x25_1).f1.f1) ((rd_T31 y165 x25_1).f1.f2)).bind fun t173 => (if t171 = true then (if t172 = true then (if t173 = true then (debuggerlaw42_SteppingImplies.j1 k1 y165 (y165.length : Int) x25_1 (!t173) t147 t148 t149 t152 t155) else (debuggerlaw42_SteppingImplies.j1 k1 y165 (y165.length : Int) x25_1 true t147 t148 t149 t152 t155)) else (debuggerlaw42_SteppingImplies.j1 k1 y165 (y165.length : Int) x25_1 true t147 t148 t149 t152 t155)) else (if t172 = true then (if t173 = true then (debuggerlaw42_SteppingImplies.j1 k1 y165 (y165.length : Int) x25_1 (!t173) t147 t148 t149 t152 t155) else (debuggerlaw42_SteppingImplies.j1 k1 y165 (y165.length : Int) x25_1 true t147 t148 t149 t152 t155)) else (debuggerlaw42_SteppingImplies.j1 k1 y165 (y165.length : Int) x25_1 (!t173) t147 t148 t149 t152 t155))))) = some r := H
            have A27 := Aside0.mk A270
            clear A270
            replace H := Option.bind_eq_some_iff.mp H
            obtain ⟨t172, A280, H⟩ := H
            replace H : ((stepping_Stops.f k1 t147 t148 t149 t152 t155 1 ((rd_T31 y165 x25_1).f0.f0) ((rd_T31 y165 x25_1).f0.f1) ((rd_T31 y165 x25_1).f0.f2) ((rd_T31 y165 x25_1).f1.f0) ((rd_T31 y165 x25_1).f1.f1) ((rd_T31 y165 x25_1).f1.f2)).bind fun t173 => (if t171 = true then (if t172 = true then (if t173 = true then (debuggerlaw42_SteppingImplies.j1 k1 y165 (y165.length : Int) x25_1 (!t173) t147 t148 t149 t152 t155) else (debuggerlaw42_SteppingImplies.j1 k1 y165 (y165.length : Int) x25_1 true t147 t148 t149 t152 t155)) else (debuggerlaw42_SteppingImplies.j1 k1 y165 (y165.length : Int) x25_1 true t147 t148 t149 t152 t155)) else (if t172 = true then (if t173 = true then (debuggerlaw42_SteppingImplies.j1 k1 y165 (y165.length : Int) x25_1 (!t173) t147 t148 t149 t152 t155) else (debuggerlaw42_SteppingImplies.j1 k1 y165 (y165.length : Int) x25_1 true t147 t148 t149 t152 t155)) else (debuggerlaw42_SteppingImplies.j1 k1 y165 (y165.length : Int) x25_1 (!t173) t147 t148 t149 t152 t155)))) = some r := H
            have A28 := Aside0.mk A280
            clear A280
            replace H := Option.bind_eq_some_iff.mp H
            obtain ⟨t173, A290, H⟩ := H
            replace H : (if t171 = true then (if t172 = true then (if t173 = true then (debuggerlaw42_SteppingImplies.j1 k1 y165 (y165.length : Int) x25_1 (!t173) t147 t148 t149 t152 t155) else (debuggerlaw42_SteppingImplies.j1 k1 y165 (y165.length : Int) x25_1 true t147 t148 t149 t152 t155)) else (debuggerlaw42_SteppingImplies.j1 k1 y165 (y165.length : Int) x25_1 true t147 t148 t149 t152 t155)) else (if t172 = true then (if t173 = true then (debuggerlaw42_SteppingImplies.j1 k1 y165 (y165.length : Int) x25_1 (!t173) t147 t148 t149 t152 t155) else (debuggerlaw42_SteppingImplies.j1 k1 y165 (y165.length : Int) x25_1 true t147 t148 t149 t152 t155)) else (debuggerlaw42_SteppingImplies.j1 k1 y165 (y165.length : Int) x25_1 (!t173) t147 t148 t149 t152 t155))) = some r := H
            have A29 := Aside0.mk A290
            clear A290
            have HC30 := Aside0.mk H
            clear H
            have p169 : 0 ≤ (x25_1 : Int) := of_decide_eq_true (by first | (with_reducible assumption) | assumption)
            have q169 : x25_1 < (y165.length : Int) := of_decide_eq_true (by first | (with_reducible assumption) | assumption)
            obtain ⟨ad169, e169, hx169_0, hx169_1, hx169_2, hx169_3, hx169_4, hx169_5⟩ := at_T31 (Kd.R_reads' HO_23.out).2.2 x25_1 p169 q169
            cases e169
            replace p169 := eq_true p169
            replace q169 := eq_true q169
            try go_wp2_with (first | ((with_reducible refine gate_dst (N := 9) rfl ?_); refine box_event ?hg (N := 9) ?hd (cs := #[.int .i64 0, .int .i64 0, .int .i64 0, .int .i64 0, .int .i64 0, .int .i64 0]) (t := 31) ?hr ?_; (case hd => rfl); (case hg => rfl); (case hr => first | (go_simp; done) | (go_simp; rfl)); intro gb170 hg w31 hbox hb; have n0_ := Aside0.mk (Kd.R_below (Kd.R_elderB (by (with_reducible repeat (first | apply Kd.R_alloc | apply Kd.R_drewN | apply Kd.R_drew)); exact HO_23.out) gb170 (Nat.le_of_eq hg.symm)) hb); have n1_ := Aside0.mk (Kd.N_below (Kd.N_elderB (by (with_reducible repeat (first | apply Kd.N_alloc | apply Kd.N_drewN | apply Kd.N_drew)); exact HO_159002.out) gb170 (Nat.le_of_eq hg.symm)) hb); have n2_ := Aside0.mk (Kd.R_below (by (with_reducible repeat (first | apply Kd.R_alloc | apply Kd.R_drewN | apply Kd.R_drew)); exact HO_159003.out) hb); have n3_ := Aside0.mk (Kd.N_below (Kd.N_elderB (by (with_reducible repeat (first | apply Kd.N_alloc | apply Kd.N_drewN | apply Kd.N_drew)); exact HO_159004.out) gb170 (Nat.le_of_eq hg.symm)) hb); have n4_ := Aside0.mk (blk_below (g := gb145) (o := .cells #[.int .i64 a1_0, .int .i64 a1_1, .int .i64 a1_2] 24 (0, 0)) (by (with_reducible repeat (first | refine blk_drewN ?_ _ | refine blk_drew ?_ | refine blk_alloc ?_ _)); exact BK145.out) hb); have n5_ := Aside0.mk (blk_below (g := gb146) (o := .cells #[.int .i64 a2_0, .int .i64 a2_1, .int .i64 a2_2] 24 (0, 0)) (by (with_reducible repeat (first | refine blk_drewN ?_ _ | refine blk_drew ?_ | refine blk_alloc ?_ _)); exact BK146.out) hb); have n6_ := Aside0.mk (blk_below (g := gb158) (o := .cells #[.int .i64 t147, .int .i64 t148, .slice Ao14 t149.length co14, .slice Ao15 t152.length co15, .slice Ao16 t155.length co16] 29 (0, 0)) (by (with_reducible repeat (first | refine blk_drewN ?_ _ | refine blk_drew ?_ | refine blk_alloc ?_ _)); exact BK158.out) hb); have n7_ := Aside0.mk (below_step (by repeat (first | (with_reducible first | exact HB.out | apply below_alloc | apply pw_below_drewN | apply below_drew1 | refine below_set ?_ GE145.out | refine below_set ?_ GE146.out | refine below_set ?_ GE158.out) | exact HB.out)) hb); have n8_ := Aside0.mk (hbox); have n9_ := Aside0.mk ((by rw [hg]; exact (below_size (by repeat (first | (with_reducible first | exact HB.out | apply below_alloc | apply pw_below_drewN | apply below_drew1 | refine below_set ?_ GE145.out | refine below_set ?_ GE146.out | refine below_set ?_ GE158.out) | exact HB.out))) : w.heap.size ≤ gb170)); have n10_ := Aside0.mk ((by rw [hg]; exact (below_size (by repeat (first | (with_reducible first | exact HB.out | apply below_alloc | apply pw_below_drewN | apply below_drew1 | refine below_set ?_ GE145.out | refine below_set ?_ GE146.out | refine below_set ?_ GE158.out) | exact HB.out))) : w.heap.size ≤ gb170)); have n11_ := Aside0.mk ((by rw [hg]; exact Nat.ne_of_lt (blk_lt (g := gb145) (o := .cells #[.int .i64 a1_0, .int .i64 a1_1, .int .i64 a1_2] 24 (0, 0)) (by (with_reducible repeat (first | refine blk_drewN ?_ _ | refine blk_drew ?_ | refine blk_alloc ?_ _)); exact BK145.out)) : gb145 ≠ gb170)); have n12_ := Aside0.mk ((by rw [hg]; exact Nat.ne_of_gt (blk_lt (g := gb145) (o := .cells #[.int .i64 a1_0, .int .i64 a1_1, .int .i64 a1_2] 24 (0, 0)) (by (with_reducible repeat (first | refine blk_drewN ?_ _ | refine blk_drew ?_ | refine blk_alloc ?_ _)); exact BK145.out)) : gb170 ≠ gb145)); have n13_ := Aside0.mk ((by rw [hg]; exact Nat.ne_of_lt (blk_lt (g := gb146) (o := .cells #[.int .i64 a2_0, .int .i64 a2_1, .int .i64 a2_2] 24 (0, 0)) (by (with_reducible repeat (first | refine blk_drewN ?_ _ | refine blk_drew ?_ | refine blk_alloc ?_ _)); exact BK146.out)) : gb146 ≠ gb170)); have n14_ := Aside0.mk ((by rw [hg]; exact Nat.ne_of_gt (blk_lt (g := gb146) (o := .cells #[.int .i64 a2_0, .int .i64 a2_1, .int .i64 a2_2] 24 (0, 0)) (by (with_reducible repeat (first | refine blk_drewN ?_ _ | refine blk_drew ?_ | refine blk_alloc ?_ _)); exact BK146.out)) : gb170 ≠ gb146)); have n15_ := Aside0.mk ((by rw [hg]; exact Nat.ne_of_lt (blk_lt (g := gb158) (o := .cells #[.int .i64 t147, .int .i64 t148, .slice Ao14 t149.length co14, .slice Ao15 t152.length co15, .slice Ao16 t155.length co16] 29 (0, 0)) (by (with_reducible repeat (first | refine blk_drewN ?_ _ | refine blk_drew ?_ | refine blk_alloc ?_ _)); exact BK158.out)) : gb158 ≠ gb170)); have n16_ := Aside0.mk ((by rw [hg]; exact Nat.ne_of_gt (blk_lt (g := gb158) (o := .cells #[.int .i64 t147, .int .i64 t148, .slice Ao14 t149.length co14, .slice Ao15 t152.length co15, .slice Ao16 t155.length co16] 29 (0, 0)) (by (with_reducible repeat (first | refine blk_drewN ?_ _ | refine blk_drew ?_ | refine blk_alloc ?_ _)); exact BK158.out)) : gb170 ≠ gb158)); clear HO_23; clear HO_159002; clear HO_159003; clear HO_159004; clear BK145; clear BK146; clear BK158; clear HB; have HO_23 := n0_; have HO_159002 := n1_; have HO_159003 := n2_; have HO_159004 := n3_; have BK145 := n4_; have BK146 := n5_; have BK158 := n6_; have HB := n7_; have BK170 := n8_; have GW170 := n9_; have GE170 := n10_; have NB145_170 := n11_; have NB170_145 := n12_; have NB146_170 := n13_; have NB170_146 := n14_; have NB158_170 := n15_; have NB170_158 := n16_; clear n0_ n1_ n2_ n3_ n4_ n5_ n6_ n7_ n8_ n9_ n10_ n11_ n12_ n13_ n14_ n15_ n16_; clear hb hbox hg; have hnb32 := NB170_145.out; have hnc32 := NB145_170.out; have hnb33 := NB170_146.out; have hnc33 := NB146_170.out; have hnb34 := NB170_158.out; have hnc34 := NB158_170.out; have hcz35_0 : w31.cell? ⟨gb170, 0, none⟩ = some (.int .i64 0) := (blk_cell BK170.out 0).trans rfl; have hcz35_1 : w31.cell? ⟨gb170, 1, none⟩ = some (.int .i64 0) := (blk_cell BK170.out 1).trans rfl; have hcz35_2 : w31.cell? ⟨gb170, 2, none⟩ = some (.int .i64 0) := (blk_cell BK170.out 2).trans rfl; have hcz35_3 : w31.cell? ⟨gb170, 3, none⟩ = some (.int .i64 0) := (blk_cell BK170.out 3).trans rfl; have hcz35_4 : w31.cell? ⟨gb170, 4, none⟩ = some (.int .i64 0) := (blk_cell BK170.out 4).trans rfl; have hcz35_5 : w31.cell? ⟨gb170, 5, none⟩ = some (.int .i64 0) := (blk_cell BK170.out 5).trans rfl; have hfz35_0 := blk_frozen BK170.out 0; have hfz35_1 := blk_frozen BK170.out 1; have hfz35_2 := blk_frozen BK170.out 2; have hfz35_3 := blk_frozen BK170.out 3; have hfz35_4 := blk_frozen BK170.out 4; have hfz35_5 := blk_frozen BK170.out 5))
            have n0_ : Aside0 (Kd.R k31 31 ((((((w31.setCell ⟨gb170, 0, none⟩ (.int .i64 ((rd_T31 y165 x25_1).f0.f0))).setCell ⟨gb170, 1, none⟩ (.int .i64 ((rd_T31 y165 x25_1).f0.f1))).setCell ⟨gb170, 2, none⟩ (.int .i64 ((rd_T31 y165 x25_1).f0.f2))).setCell ⟨gb170, 3, none⟩ (.int .i64 ((rd_T31 y165 x25_1).f1.f0))).setCell ⟨gb170, 4, none⟩ (.int .i64 ((rd_T31 y165 x25_1).f1.f1))).setCell ⟨gb170, 5, none⟩ (.int .i64 ((rd_T31 y165 x25_1).f1.f2))) w.heap.size (fun k_ => k_ ≠ gb170) (.slice (some ad169) y165.length co23) y165) := ⟨by (with_reducible repeat (first | apply Kd.R_alloc | apply Kd.R_drewN | apply Kd.R_drew)); exact Kd.R_mono (Kd.R_far (p := ⟨gb170, 5, none⟩) (Kd.R_far (p := ⟨gb170, 4, none⟩) (Kd.R_far (p := ⟨gb170, 3, none⟩) (Kd.R_far (p := ⟨gb170, 2, none⟩) (Kd.R_far (p := ⟨gb170, 1, none⟩) (Kd.R_far (p := ⟨gb170, 0, none⟩) (Kd.R_mono HO_23.out (fun k_ hk => (⟨hk, hk.2⟩ : _ ∧ k_ ≠ gb170))) (fun _ hk => hk.2) (.int .i64 ((rd_T31 y165 x25_1).f0.f0))) (fun _ hk => hk.2) (.int .i64 ((rd_T31 y165 x25_1).f0.f1))) (fun _ hk => hk.2) (.int .i64 ((rd_T31 y165 x25_1).f0.f2))) (fun _ hk => hk.2) (.int .i64 ((rd_T31 y165 x25_1).f1.f0))) (fun _ hk => hk.2) (.int .i64 ((rd_T31 y165 x25_1).f1.f1))) (fun _ hk => hk.2) (.int .i64 ((rd_T31 y165 x25_1).f1.f2))) (fun _ hk => hk.1.2)⟩
            have n1_ : Aside0 (Kd.N k71 71 ((((((w31.setCell ⟨gb170, 0, none⟩ (.int .i64 ((rd_T31 y165 x25_1).f0.f0))).setCell ⟨gb170, 1, none⟩ (.int .i64 ((rd_T31 y165 x25_1).f0.f1))).setCell ⟨gb170, 2, none⟩ (.int .i64 ((rd_T31 y165 x25_1).f0.f2))).setCell ⟨gb170, 3, none⟩ (.int .i64 ((rd_T31 y165 x25_1).f1.f0))).setCell ⟨gb170, 4, none⟩ (.int .i64 ((rd_T31 y165 x25_1).f1.f1))).setCell ⟨gb170, 5, none⟩ (.int .i64 ((rd_T31 y165 x25_1).f1.f2))) w.heap.size (fun k_ => some k_ ≠ (.slice (some ad169) y165.length co23 : Value).ownBlock ∧ some k_ ≠ (.slice Ao15 t152.length co15 : Value).ownBlock ∧ some k_ ≠ (.slice Ao16 t155.length co16 : Value).ownBlock ∧ k_ ≠ gb145 ∧ k_ ≠ gb146 ∧ k_ ≠ gb158 ∧ k_ ≠ gb170) (.slice Ao14 t149.length co14) t149) := ⟨by (with_reducible repeat (first | apply Kd.N_alloc | apply Kd.N_drewN | apply Kd.N_drew)); exact Kd.N_mono (Kd.N_far (p := ⟨gb170, 5, none⟩) (Kd.N_far (p := ⟨gb170, 4, none⟩) (Kd.N_far (p := ⟨gb170, 3, none⟩) (Kd.N_far (p := ⟨gb170, 2, none⟩) (Kd.N_far (p := ⟨gb170, 1, none⟩) (Kd.N_far (p := ⟨gb170, 0, none⟩) (Kd.N_mono HO_159002.out (fun k_ hk => (⟨hk, hk.2⟩ : _ ∧ k_ ≠ gb170))) (fun _ hk => hk.2) (.int .i64 ((rd_T31 y165 x25_1).f0.f0))) (fun _ hk => hk.2) (.int .i64 ((rd_T31 y165 x25_1).f0.f1))) (fun _ hk => hk.2) (.int .i64 ((rd_T31 y165 x25_1).f0.f2))) (fun _ hk => hk.2) (.int .i64 ((rd_T31 y165 x25_1).f1.f0))) (fun _ hk => hk.2) (.int .i64 ((rd_T31 y165 x25_1).f1.f1))) (fun _ hk => hk.2) (.int .i64 ((rd_T31 y165 x25_1).f1.f2))) (fun _ hk => ⟨hk.1.1.1, ⟨hk.1.1.2.1, ⟨hk.1.1.2.2.1, ⟨hk.1.1.2.2.2.1, ⟨hk.1.1.2.2.2.2.1, ⟨hk.1.1.2.2.2.2.2, hk.1.2⟩⟩⟩⟩⟩⟩)⟩
            have n2_ : Aside0 (Kd.R k73 73 ((((((w31.setCell ⟨gb170, 0, none⟩ (.int .i64 ((rd_T31 y165 x25_1).f0.f0))).setCell ⟨gb170, 1, none⟩ (.int .i64 ((rd_T31 y165 x25_1).f0.f1))).setCell ⟨gb170, 2, none⟩ (.int .i64 ((rd_T31 y165 x25_1).f0.f2))).setCell ⟨gb170, 3, none⟩ (.int .i64 ((rd_T31 y165 x25_1).f1.f0))).setCell ⟨gb170, 4, none⟩ (.int .i64 ((rd_T31 y165 x25_1).f1.f1))).setCell ⟨gb170, 5, none⟩ (.int .i64 ((rd_T31 y165 x25_1).f1.f2))) w.heap.size (fun _ => True) (.slice Ao15 t152.length co15) t152) := ⟨by (with_reducible repeat (first | apply Kd.R_alloc | apply Kd.R_drewN | apply Kd.R_drew)); exact Kd.R_mono (Kd.R_far (p := ⟨gb170, 5, none⟩) (Kd.R_far (p := ⟨gb170, 4, none⟩) (Kd.R_far (p := ⟨gb170, 3, none⟩) (Kd.R_far (p := ⟨gb170, 2, none⟩) (Kd.R_far (p := ⟨gb170, 1, none⟩) (Kd.R_far (p := ⟨gb170, 0, none⟩) (Kd.R_types HO_159003.out BK170.out (by decide)) (fun _ hk => hk.2) (.int .i64 ((rd_T31 y165 x25_1).f0.f0))) (fun _ hk => hk.2) (.int .i64 ((rd_T31 y165 x25_1).f0.f1))) (fun _ hk => hk.2) (.int .i64 ((rd_T31 y165 x25_1).f0.f2))) (fun _ hk => hk.2) (.int .i64 ((rd_T31 y165 x25_1).f1.f0))) (fun _ hk => hk.2) (.int .i64 ((rd_T31 y165 x25_1).f1.f1))) (fun _ hk => hk.2) (.int .i64 ((rd_T31 y165 x25_1).f1.f2))) (fun _ hk => trivial)⟩
            have n3_ : Aside0 (Kd.N k51 51 ((((((w31.setCell ⟨gb170, 0, none⟩ (.int .i64 ((rd_T31 y165 x25_1).f0.f0))).setCell ⟨gb170, 1, none⟩ (.int .i64 ((rd_T31 y165 x25_1).f0.f1))).setCell ⟨gb170, 2, none⟩ (.int .i64 ((rd_T31 y165 x25_1).f0.f2))).setCell ⟨gb170, 3, none⟩ (.int .i64 ((rd_T31 y165 x25_1).f1.f0))).setCell ⟨gb170, 4, none⟩ (.int .i64 ((rd_T31 y165 x25_1).f1.f1))).setCell ⟨gb170, 5, none⟩ (.int .i64 ((rd_T31 y165 x25_1).f1.f2))) w.heap.size (fun k_ => some k_ ≠ (.slice (some ad169) y165.length co23 : Value).ownBlock ∧ some k_ ≠ (.slice Ao14 t149.length co14 : Value).ownBlock ∧ some k_ ≠ (.slice Ao15 t152.length co15 : Value).ownBlock ∧ k_ ≠ gb145 ∧ k_ ≠ gb146 ∧ k_ ≠ gb158 ∧ k_ ≠ gb170) (.slice Ao16 t155.length co16) t155) := ⟨by (with_reducible repeat (first | apply Kd.N_alloc | apply Kd.N_drewN | apply Kd.N_drew)); exact Kd.N_mono (Kd.N_far (p := ⟨gb170, 5, none⟩) (Kd.N_far (p := ⟨gb170, 4, none⟩) (Kd.N_far (p := ⟨gb170, 3, none⟩) (Kd.N_far (p := ⟨gb170, 2, none⟩) (Kd.N_far (p := ⟨gb170, 1, none⟩) (Kd.N_far (p := ⟨gb170, 0, none⟩) (Kd.N_mono HO_159004.out (fun k_ hk => (⟨hk, hk.2⟩ : _ ∧ k_ ≠ gb170))) (fun _ hk => hk.2) (.int .i64 ((rd_T31 y165 x25_1).f0.f0))) (fun _ hk => hk.2) (.int .i64 ((rd_T31 y165 x25_1).f0.f1))) (fun _ hk => hk.2) (.int .i64 ((rd_T31 y165 x25_1).f0.f2))) (fun _ hk => hk.2) (.int .i64 ((rd_T31 y165 x25_1).f1.f0))) (fun _ hk => hk.2) (.int .i64 ((rd_T31 y165 x25_1).f1.f1))) (fun _ hk => hk.2) (.int .i64 ((rd_T31 y165 x25_1).f1.f2))) (fun _ hk => ⟨hk.1.1.1, ⟨hk.1.1.2.1, ⟨hk.1.1.2.2.1, ⟨hk.1.1.2.2.2.1, ⟨hk.1.1.2.2.2.2.1, ⟨hk.1.1.2.2.2.2.2, hk.1.2⟩⟩⟩⟩⟩⟩)⟩
            have n4_ : Aside0 (((((((w31.setCell ⟨gb170, 0, none⟩ (.int .i64 ((rd_T31 y165 x25_1).f0.f0))).setCell ⟨gb170, 1, none⟩ (.int .i64 ((rd_T31 y165 x25_1).f0.f1))).setCell ⟨gb170, 2, none⟩ (.int .i64 ((rd_T31 y165 x25_1).f0.f2))).setCell ⟨gb170, 3, none⟩ (.int .i64 ((rd_T31 y165 x25_1).f1.f0))).setCell ⟨gb170, 4, none⟩ (.int .i64 ((rd_T31 y165 x25_1).f1.f1))).setCell ⟨gb170, 5, none⟩ (.int .i64 ((rd_T31 y165 x25_1).f1.f2))).heap[gb145]? = some (.cells #[.int .i64 a1_0, .int .i64 a1_1, .int .i64 a1_2] 24 (0, 0))) := ⟨by (with_reducible repeat (first | refine blk_drewN ?_ _ | refine blk_drew ?_ | refine blk_alloc ?_ _)); refine blk_far ?_ NB145_170.out _; (with_reducible repeat (first | refine blk_drewN ?_ _ | refine blk_drew ?_ | refine blk_alloc ?_ _)); refine blk_far ?_ NB145_170.out _; (with_reducible repeat (first | refine blk_drewN ?_ _ | refine blk_drew ?_ | refine blk_alloc ?_ _)); refine blk_far ?_ NB145_170.out _; (with_reducible repeat (first | refine blk_drewN ?_ _ | refine blk_drew ?_ | refine blk_alloc ?_ _)); refine blk_far ?_ NB145_170.out _; (with_reducible repeat (first | refine blk_drewN ?_ _ | refine blk_drew ?_ | refine blk_alloc ?_ _)); refine blk_far ?_ NB145_170.out _; (with_reducible repeat (first | refine blk_drewN ?_ _ | refine blk_drew ?_ | refine blk_alloc ?_ _)); refine blk_far ?_ NB145_170.out _; (with_reducible repeat (first | refine blk_drewN ?_ _ | refine blk_drew ?_ | refine blk_alloc ?_ _)); exact BK145.out⟩
            have n5_ : Aside0 (((((((w31.setCell ⟨gb170, 0, none⟩ (.int .i64 ((rd_T31 y165 x25_1).f0.f0))).setCell ⟨gb170, 1, none⟩ (.int .i64 ((rd_T31 y165 x25_1).f0.f1))).setCell ⟨gb170, 2, none⟩ (.int .i64 ((rd_T31 y165 x25_1).f0.f2))).setCell ⟨gb170, 3, none⟩ (.int .i64 ((rd_T31 y165 x25_1).f1.f0))).setCell ⟨gb170, 4, none⟩ (.int .i64 ((rd_T31 y165 x25_1).f1.f1))).setCell ⟨gb170, 5, none⟩ (.int .i64 ((rd_T31 y165 x25_1).f1.f2))).heap[gb146]? = some (.cells #[.int .i64 a2_0, .int .i64 a2_1, .int .i64 a2_2] 24 (0, 0))) := ⟨by (with_reducible repeat (first | refine blk_drewN ?_ _ | refine blk_drew ?_ | refine blk_alloc ?_ _)); refine blk_far ?_ NB146_170.out _; (with_reducible repeat (first | refine blk_drewN ?_ _ | refine blk_drew ?_ | refine blk_alloc ?_ _)); refine blk_far ?_ NB146_170.out _; (with_reducible repeat (first | refine blk_drewN ?_ _ | refine blk_drew ?_ | refine blk_alloc ?_ _)); refine blk_far ?_ NB146_170.out _; (with_reducible repeat (first | refine blk_drewN ?_ _ | refine blk_drew ?_ | refine blk_alloc ?_ _)); refine blk_far ?_ NB146_170.out _; (with_reducible repeat (first | refine blk_drewN ?_ _ | refine blk_drew ?_ | refine blk_alloc ?_ _)); refine blk_far ?_ NB146_170.out _; (with_reducible repeat (first | refine blk_drewN ?_ _ | refine blk_drew ?_ | refine blk_alloc ?_ _)); refine blk_far ?_ NB146_170.out _; (with_reducible repeat (first | refine blk_drewN ?_ _ | refine blk_drew ?_ | refine blk_alloc ?_ _)); exact BK146.out⟩
            have n6_ : Aside0 (((((((w31.setCell ⟨gb170, 0, none⟩ (.int .i64 ((rd_T31 y165 x25_1).f0.f0))).setCell ⟨gb170, 1, none⟩ (.int .i64 ((rd_T31 y165 x25_1).f0.f1))).setCell ⟨gb170, 2, none⟩ (.int .i64 ((rd_T31 y165 x25_1).f0.f2))).setCell ⟨gb170, 3, none⟩ (.int .i64 ((rd_T31 y165 x25_1).f1.f0))).setCell ⟨gb170, 4, none⟩ (.int .i64 ((rd_T31 y165 x25_1).f1.f1))).setCell ⟨gb170, 5, none⟩ (.int .i64 ((rd_T31 y165 x25_1).f1.f2))).heap[gb158]? = some (.cells #[.int .i64 t147, .int .i64 t148, .slice Ao14 t149.length co14, .slice Ao15 t152.length co15, .slice Ao16 t155.length co16] 29 (0, 0))) := ⟨by (with_reducible repeat (first | refine blk_drewN ?_ _ | refine blk_drew ?_ | refine blk_alloc ?_ _)); refine blk_far ?_ NB158_170.out _; (with_reducible repeat (first | refine blk_drewN ?_ _ | refine blk_drew ?_ | refine blk_alloc ?_ _)); refine blk_far ?_ NB158_170.out _; (with_reducible repeat (first | refine blk_drewN ?_ _ | refine blk_drew ?_ | refine blk_alloc ?_ _)); refine blk_far ?_ NB158_170.out _; (with_reducible repeat (first | refine blk_drewN ?_ _ | refine blk_drew ?_ | refine blk_alloc ?_ _)); refine blk_far ?_ NB158_170.out _; (with_reducible repeat (first | refine blk_drewN ?_ _ | refine blk_drew ?_ | refine blk_alloc ?_ _)); refine blk_far ?_ NB158_170.out _; (with_reducible repeat (first | refine blk_drewN ?_ _ | refine blk_drew ?_ | refine blk_alloc ?_ _)); refine blk_far ?_ NB158_170.out _; (with_reducible repeat (first | refine blk_drewN ?_ _ | refine blk_drew ?_ | refine blk_alloc ?_ _)); exact BK158.out⟩
            have n7_ : Aside0 (((((((w31.setCell ⟨gb170, 0, none⟩ (.int .i64 ((rd_T31 y165 x25_1).f0.f0))).setCell ⟨gb170, 1, none⟩ (.int .i64 ((rd_T31 y165 x25_1).f0.f1))).setCell ⟨gb170, 2, none⟩ (.int .i64 ((rd_T31 y165 x25_1).f0.f2))).setCell ⟨gb170, 3, none⟩ (.int .i64 ((rd_T31 y165 x25_1).f1.f0))).setCell ⟨gb170, 4, none⟩ (.int .i64 ((rd_T31 y165 x25_1).f1.f1))).setCell ⟨gb170, 5, none⟩ (.int .i64 ((rd_T31 y165 x25_1).f1.f2))).heap[gb170]? = some (.cells #[.int .i64 ((rd_T31 y165 x25_1).f0.f0), .int .i64 ((rd_T31 y165 x25_1).f0.f1), .int .i64 ((rd_T31 y165 x25_1).f0.f2), .int .i64 ((rd_T31 y165 x25_1).f1.f0), .int .i64 ((rd_T31 y165 x25_1).f1.f1), .int .i64 ((rd_T31 y165 x25_1).f1.f2)] 31 (0, 0))) := ⟨by (with_reducible repeat (first | refine blk_drewN ?_ _ | refine blk_drew ?_ | refine blk_alloc ?_ _)); refine blk_put (cs := #[.int .i64 ((rd_T31 y165 x25_1).f0.f0), .int .i64 ((rd_T31 y165 x25_1).f0.f1), .int .i64 ((rd_T31 y165 x25_1).f0.f2), .int .i64 ((rd_T31 y165 x25_1).f1.f0), .int .i64 ((rd_T31 y165 x25_1).f1.f1), .int .i64 0]) ?_ 5 _ rfl; (with_reducible repeat (first | refine blk_drewN ?_ _ | refine blk_drew ?_ | refine blk_alloc ?_ _)); refine blk_put (cs := #[.int .i64 ((rd_T31 y165 x25_1).f0.f0), .int .i64 ((rd_T31 y165 x25_1).f0.f1), .int .i64 ((rd_T31 y165 x25_1).f0.f2), .int .i64 ((rd_T31 y165 x25_1).f1.f0), .int .i64 0, .int .i64 0]) ?_ 4 _ rfl; (with_reducible repeat (first | refine blk_drewN ?_ _ | refine blk_drew ?_ | refine blk_alloc ?_ _)); refine blk_put (cs := #[.int .i64 ((rd_T31 y165 x25_1).f0.f0), .int .i64 ((rd_T31 y165 x25_1).f0.f1), .int .i64 ((rd_T31 y165 x25_1).f0.f2), .int .i64 0, .int .i64 0, .int .i64 0]) ?_ 3 _ rfl; (with_reducible repeat (first | refine blk_drewN ?_ _ | refine blk_drew ?_ | refine blk_alloc ?_ _)); refine blk_put (cs := #[.int .i64 ((rd_T31 y165 x25_1).f0.f0), .int .i64 ((rd_T31 y165 x25_1).f0.f1), .int .i64 0, .int .i64 0, .int .i64 0, .int .i64 0]) ?_ 2 _ rfl; (with_reducible repeat (first | refine blk_drewN ?_ _ | refine blk_drew ?_ | refine blk_alloc ?_ _)); refine blk_put (cs := #[.int .i64 ((rd_T31 y165 x25_1).f0.f0), .int .i64 0, .int .i64 0, .int .i64 0, .int .i64 0, .int .i64 0]) ?_ 1 _ rfl; (with_reducible repeat (first | refine blk_drewN ?_ _ | refine blk_drew ?_ | refine blk_alloc ?_ _)); refine blk_put (cs := #[.int .i64 0, .int .i64 0, .int .i64 0, .int .i64 0, .int .i64 0, .int .i64 0]) ?_ 0 _ rfl; (with_reducible repeat (first | refine blk_drewN ?_ _ | refine blk_drew ?_ | refine blk_alloc ?_ _)); exact BK170.out⟩
            have n8_ : Aside0 (Below w.heap.size w ((((((w31.setCell ⟨gb170, 0, none⟩ (.int .i64 ((rd_T31 y165 x25_1).f0.f0))).setCell ⟨gb170, 1, none⟩ (.int .i64 ((rd_T31 y165 x25_1).f0.f1))).setCell ⟨gb170, 2, none⟩ (.int .i64 ((rd_T31 y165 x25_1).f0.f2))).setCell ⟨gb170, 3, none⟩ (.int .i64 ((rd_T31 y165 x25_1).f1.f0))).setCell ⟨gb170, 4, none⟩ (.int .i64 ((rd_T31 y165 x25_1).f1.f1))).setCell ⟨gb170, 5, none⟩ (.int .i64 ((rd_T31 y165 x25_1).f1.f2)))) := ⟨by repeat (first | (with_reducible first | exact HB.out | apply below_alloc | apply pw_below_drewN | apply below_drew1 | refine below_set ?_ GE145.out | refine below_set ?_ GE146.out | refine below_set ?_ GE158.out | refine below_set ?_ GE170.out) | exact HB.out)⟩
            (try clear HO_23)
            (try clear HO_159002)
            (try clear HO_159003)
            (try clear HO_159004)
            (try clear BK145)
            (try clear BK146)
            (try clear BK158)
            (try clear BK170)
            (try clear HB)
            generalize ((((((w31.setCell ⟨gb170, 0, none⟩ (.int .i64 ((rd_T31 y165 x25_1).f0.f0))).setCell ⟨gb170, 1, none⟩ (.int .i64 ((rd_T31 y165 x25_1).f0.f1))).setCell ⟨gb170, 2, none⟩ (.int .i64 ((rd_T31 y165 x25_1).f0.f2))).setCell ⟨gb170, 3, none⟩ (.int .i64 ((rd_T31 y165 x25_1).f1.f0))).setCell ⟨gb170, 4, none⟩ (.int .i64 ((rd_T31 y165 x25_1).f1.f1))).setCell ⟨gb170, 5, none⟩ (.int .i64 ((rd_T31 y165 x25_1).f1.f2))) = w36 at n0_ n1_ n2_ n3_ n4_ n5_ n6_ n7_ n8_ ⊢
            have HO_23 := n0_
            have HO_159002 := n1_
            have HO_159003 := n2_
            have HO_159004 := n3_
            have BK145 := n4_
            have BK146 := n5_
            have BK158 := n6_
            have BK170 := n7_
            have HB := n8_
            clear n0_ n1_ n2_ n3_ n4_ n5_ n6_ n7_ n8_
            have n0_ := Aside0.mk (Kd.R_drew HO_23.out)
            have n1_ := Aside0.mk (Kd.N_drew HO_159002.out)
            have n2_ := Aside0.mk (Kd.R_drew HO_159003.out)
            have n3_ := Aside0.mk (Kd.N_drew HO_159004.out)
            have n4_ := Aside0.mk (blk_drew BK145.out)
            have n5_ := Aside0.mk (blk_drew BK146.out)
            have n6_ := Aside0.mk (blk_drew BK158.out)
            have n7_ := Aside0.mk (blk_drew BK170.out)
            have n8_ := Aside0.mk (below_drew1 HB.out)
            clear HO_23
            clear HO_159002
            clear HO_159003
            clear HO_159004
            clear BK145
            clear BK146
            clear BK158
            clear BK170
            clear HB
            have HO_23 := n0_
            have HO_159002 := n1_
            have HO_159003 := n2_
            have HO_159004 := n3_
            have BK145 := n4_
            have BK146 := n5_
            have BK158 := n6_
            have BK170 := n7_
            have HB := n8_
            clear n0_ n1_ n2_ n3_ n4_ n5_ n6_ n7_ n8_
            refine start_ (n := 21) (S := fun w' => w'.cell? ⟨gb158, 0, none⟩ = some (.int .i64 t147) ∧ w'.cell? ⟨gb158, 1, none⟩ = some (.int .i64 t148) ∧ w'.cell? ⟨gb158, 2, none⟩ = some (.slice Ao14 t149.length co14) ∧ w'.cell? ⟨gb158, 3, none⟩ = some (.slice Ao15 t152.length co15) ∧ w'.cell? ⟨gb158, 4, none⟩ = some (.slice Ao16 t155.length co16) ∧ w'.cell? ⟨gb170, 0, none⟩ = some (.int .i64 ((rd_T31 y165 x25_1).f0.f0)) ∧ w'.cell? ⟨gb170, 1, none⟩ = some (.int .i64 ((rd_T31 y165 x25_1).f0.f1)) ∧ w'.cell? ⟨gb170, 2, none⟩ = some (.int .i64 ((rd_T31 y165 x25_1).f0.f2)) ∧ w'.cell? ⟨gb170, 3, none⟩ = some (.int .i64 ((rd_T31 y165 x25_1).f1.f0)) ∧ w'.cell? ⟨gb170, 4, none⟩ = some (.int .i64 ((rd_T31 y165 x25_1).f1.f1)) ∧ w'.cell? ⟨gb170, 5, none⟩ = some (.int .i64 ((rd_T31 y165 x25_1).f1.f2))) (ds := []) #[false, false, false, false, false, false, false, false, false, false, false, false, false, false, false, false, false, false, false, false, false] (by kernel_rfl) rfl rfl ⟨(blk_cell BK158.out 0).trans rfl, (blk_cell BK158.out 1).trans rfl, (blk_cell BK158.out 2).trans rfl, (blk_cell BK158.out 3).trans rfl, (blk_cell BK158.out 4).trans rfl, (blk_cell BK170.out 0).trans rfl, (blk_cell BK170.out 1).trans rfl, (blk_cell BK170.out 2).trans rfl, (blk_cell BK170.out 3).trans rfl, (blk_cell BK170.out 4).trans rfl, (blk_cell BK170.out 5).trans rfl⟩ (fun hHeld => ?_); refine with_tabW debuggerlaw42_SteppingImplies.tab5 debuggerlaw42_SteppingImplies.bits5 (fun HT_ HW_ => ?_)
            generalize w36.drew = w37 at HO_23 HO_159002 HO_159003 HO_159004 BK145 BK146 BK158 BK170 HB hHeld ⊢
            refine pure_ (i := 1) (N := some 30) (v := ?_) (a' := ?_) #[false, true, false, false, false, false, false, false, false, false, false, false, false, false, false, false, false, false, false, false, false] rfl rfl (any_of HT_.out (by kernel_rfl)) (fun _ _ _ h => h) (Or.inl ⟨by rfl, ?_⟩) ?_ ?_
            rotate_left
            · intro w'
              go_simp
              with_reducible rfl
            rotate_left
            · simp only [Act.put, List.setIfInBounds_toArray, List.set_cons_zero, List.set_cons_succ, i64_w, i32_w]
              rfl
            refine pure_ (i := 3) (N := some 32) (v := ?_) (a' := ?_) #[false, true, false, true, false, false, false, false, false, false, false, false, false, false, false, false, false, false, false, false, false] rfl rfl (any_of HT_.out (by kernel_rfl)) (fun _ _ _ h => h) (Or.inl ⟨by rfl, ?_⟩) ?_ ?_
            rotate_left
            · intro w'
              go_simp
              with_reducible rfl
            rotate_left
            · simp only [Act.put, List.setIfInBounds_toArray, List.set_cons_zero, List.set_cons_succ, i64_w, i32_w]
              rfl
            refine pure_ (i := 7) (N := some 36) (v := ?_) (a' := ?_) #[false, true, false, true, false, false, false, true, false, false, false, false, false, false, false, false, false, false, false, false, false] rfl rfl (any_of HT_.out (by kernel_rfl)) (fun _ _ _ h => h) (Or.inl ⟨by rfl, ?_⟩) ?_ ?_
            rotate_left
            · intro w'
              go_simp
              with_reducible rfl
            rotate_left
            · simp only [Act.put, List.setIfInBounds_toArray, List.set_cons_zero, List.set_cons_succ, i64_w, i32_w]
              rfl
            refine pure_ (i := 9) (N := some 38) (v := ?_) (a' := ?_) #[false, true, false, true, false, false, false, true, false, true, false, false, false, false, false, false, false, false, false, false, false] rfl rfl (any_of HT_.out (by kernel_rfl)) (fun _ _ _ h => h) (Or.inl ⟨by rfl, ?_⟩) ?_ ?_
            rotate_left
            · intro w'
              go_simp
              with_reducible rfl
            rotate_left
            · simp only [Act.put, List.setIfInBounds_toArray, List.set_cons_zero, List.set_cons_succ, i64_w, i32_w]
              rfl
            refine pure_ (i := 13) (N := some 42) (v := ?_) (a' := ?_) #[false, true, false, true, false, false, false, true, false, true, false, false, false, true, false, false, false, false, false, false, false] rfl rfl (any_of HT_.out (by kernel_rfl)) (fun _ _ _ h => h) (Or.inl ⟨by rfl, ?_⟩) ?_ ?_
            rotate_left
            · intro w'
              go_simp
              with_reducible rfl
            rotate_left
            · simp only [Act.put, List.setIfInBounds_toArray, List.set_cons_zero, List.set_cons_succ, i64_w, i32_w]
              rfl
            refine pure_ (i := 15) (N := some 44) (v := ?_) (a' := ?_) #[false, true, false, true, false, false, false, true, false, true, false, false, false, true, false, true, false, false, false, false, false] rfl rfl (any_of HT_.out (by kernel_rfl)) (fun _ _ _ h => h) (Or.inl ⟨by rfl, ?_⟩) ?_ ?_
            rotate_left
            · intro w'
              go_simp
              with_reducible rfl
            rotate_left
            · simp only [Act.put, List.setIfInBounds_toArray, List.set_cons_zero, List.set_cons_succ, i64_w, i32_w]
              rfl
            refine take_ (i := 0) (N := some 29) (v := ?_) (a' := ?_) #[true, true, false, true, false, false, false, true, false, true, false, false, false, true, false, true, false, false, false, false, false] rfl rfl (take_ofW HT_.out HW_.out (by kernel_rfl)) (fun _ _ _ h => h) (Or.inl ⟨by rfl, ?_⟩) hHeld ?_ ?_
            rotate_left
            · rintro w' ⟨s0, s1, s2, s3, s4, s5, s6, s7, s8, s9, s10⟩
              go_simp
              with_reducible rfl
            rotate_left
            · simp only [Act.put, List.setIfInBounds_toArray, List.set_cons_zero, List.set_cons_succ, i64_w, i32_w]
              rfl
            refine take_ (i := 2) (N := some 31) (v := ?_) (a' := ?_) #[true, true, true, true, false, false, false, true, false, true, false, false, false, true, false, true, false, false, false, false, false] rfl rfl (take_ofW HT_.out HW_.out (by kernel_rfl)) (fun _ _ _ h => h) (Or.inl ⟨by rfl, ?_⟩) hHeld ?_ ?_
            rotate_left
            · rintro w' ⟨s0, s1, s2, s3, s4, s5, s6, s7, s8, s9, s10⟩
              go_simp
              with_reducible rfl
            rotate_left
            · simp only [Act.put, List.setIfInBounds_toArray, List.set_cons_zero, List.set_cons_succ, i64_w, i32_w]
              rfl
            refine take_ (i := 4) (N := some 33) (v := ?_) (a' := ?_) #[true, true, true, true, true, false, false, true, false, true, false, false, false, true, false, true, false, false, false, false, false] rfl rfl (take_ofW HT_.out HW_.out (by kernel_rfl)) (fun _ _ _ h => h) (Or.inl ⟨by rfl, ?_⟩) hHeld ?_ ?_
            rotate_left
            · rintro w' ⟨s0, s1, s2, s3, s4, s5, s6, s7, s8, s9, s10⟩
              go_simp
              with_reducible rfl
            rotate_left
            · simp only [Act.put, List.setIfInBounds_toArray, List.set_cons_zero, List.set_cons_succ, i64_w, i32_w]
              rfl
            refine take_ (i := 6) (N := some 35) (v := ?_) (a' := ?_) #[true, true, true, true, true, false, true, true, false, true, false, false, false, true, false, true, false, false, false, false, false] rfl rfl (take_ofW HT_.out HW_.out (by kernel_rfl)) (fun _ _ _ h => h) (Or.inl ⟨by rfl, ?_⟩) hHeld ?_ ?_
            rotate_left
            · rintro w' ⟨s0, s1, s2, s3, s4, s5, s6, s7, s8, s9, s10⟩
              go_simp
              with_reducible rfl
            rotate_left
            · simp only [Act.put, List.setIfInBounds_toArray, List.set_cons_zero, List.set_cons_succ, i64_w, i32_w]
              rfl
            refine take_ (i := 8) (N := some 37) (v := ?_) (a' := ?_) #[true, true, true, true, true, false, true, true, true, true, false, false, false, true, false, true, false, false, false, false, false] rfl rfl (take_ofW HT_.out HW_.out (by kernel_rfl)) (fun _ _ _ h => h) (Or.inl ⟨by rfl, ?_⟩) hHeld ?_ ?_
            rotate_left
            · rintro w' ⟨s0, s1, s2, s3, s4, s5, s6, s7, s8, s9, s10⟩
              go_simp
              with_reducible rfl
            rotate_left
            · simp only [Act.put, List.setIfInBounds_toArray, List.set_cons_zero, List.set_cons_succ, i64_w, i32_w]
              rfl
            refine take_ (i := 10) (N := some 39) (v := ?_) (a' := ?_) #[true, true, true, true, true, false, true, true, true, true, true, false, false, true, false, true, false, false, false, false, false] rfl rfl (take_ofW HT_.out HW_.out (by kernel_rfl)) (fun _ _ _ h => h) (Or.inl ⟨by rfl, ?_⟩) hHeld ?_ ?_
            rotate_left
            · rintro w' ⟨s0, s1, s2, s3, s4, s5, s6, s7, s8, s9, s10⟩
              go_simp
              with_reducible rfl
            rotate_left
            · simp only [Act.put, List.setIfInBounds_toArray, List.set_cons_zero, List.set_cons_succ, i64_w, i32_w]
              rfl
            refine take_ (i := 12) (N := some 41) (v := ?_) (a' := ?_) #[true, true, true, true, true, false, true, true, true, true, true, false, true, true, false, true, false, false, false, false, false] rfl rfl (take_ofW HT_.out HW_.out (by kernel_rfl)) (fun _ _ _ h => h) (Or.inl ⟨by rfl, ?_⟩) hHeld ?_ ?_
            rotate_left
            · rintro w' ⟨s0, s1, s2, s3, s4, s5, s6, s7, s8, s9, s10⟩
              go_simp
              with_reducible rfl
            rotate_left
            · simp only [Act.put, List.setIfInBounds_toArray, List.set_cons_zero, List.set_cons_succ, i64_w, i32_w]
              rfl
            refine take_ (i := 14) (N := some 43) (v := ?_) (a' := ?_) #[true, true, true, true, true, false, true, true, true, true, true, false, true, true, true, true, false, false, false, false, false] rfl rfl (take_ofW HT_.out HW_.out (by kernel_rfl)) (fun _ _ _ h => h) (Or.inl ⟨by rfl, ?_⟩) hHeld ?_ ?_
            rotate_left
            · rintro w' ⟨s0, s1, s2, s3, s4, s5, s6, s7, s8, s9, s10⟩
              go_simp
              with_reducible rfl
            rotate_left
            · simp only [Act.put, List.setIfInBounds_toArray, List.set_cons_zero, List.set_cons_succ, i64_w, i32_w]
              rfl
            refine take_ (i := 16) (N := some 45) (v := ?_) (a' := ?_) #[true, true, true, true, true, false, true, true, true, true, true, false, true, true, true, true, true, false, false, false, false] rfl rfl (take_ofW HT_.out HW_.out (by kernel_rfl)) (fun _ _ _ h => h) (Or.inl ⟨by rfl, ?_⟩) hHeld ?_ ?_
            rotate_left
            · rintro w' ⟨s0, s1, s2, s3, s4, s5, s6, s7, s8, s9, s10⟩
              go_simp
              with_reducible rfl
            rotate_left
            · simp only [Act.put, List.setIfInBounds_toArray, List.set_cons_zero, List.set_cons_succ, i64_w, i32_w]
              rfl
            refine one_ (i := 5) (N := some 34) #[true, true, true, true, true, true, true, true, true, true, true, false, true, true, true, true, true, false, false, false, false] rfl rfl (one_of HT_.out (by kernel_rfl)) (by decide) (fun K hK => ?_)
            refine goes_ Try.func11 (by kernel_rfl) rfl #[.agg #[.int .i64 t147, .int .i64 t148, .slice Ao14 t149.length co14, .slice Ao15 t152.length co15, .slice Ao16 t155.length co16], .int .i64 3, .agg #[.int .i64 ((rd_T31 y165 x25_1).f0.f0), .int .i64 ((rd_T31 y165 x25_1).f0.f1), .int .i64 ((rd_T31 y165 x25_1).f0.f2)], .agg #[.int .i64 ((rd_T31 y165 x25_1).f1.f0), .int .i64 ((rd_T31 y165 x25_1).f1.f1), .int .i64 ((rd_T31 y165 x25_1).f1.f2)]] (by rfl) rfl rfl (by (try simp only [List.map_toArray, List.map_cons, List.map_nil]); first | done | rfl | (simp only [List.length_drop, List.length_take]; rfl)) ?_
            with_reducible refine (stepping_Stops.calls k1 t147 t148 _ _ t149 _ _ t152 _ _ t155 3 ((rd_T31 y165 x25_1).f0.f0) ((rd_T31 y165 x25_1).f0.f1) ((rd_T31 y165 x25_1).f0.f2) ((rd_T31 y165 x25_1).f1.f0) ((rd_T31 y165 x25_1).f1.f1) ((rd_T31 y165 x25_1).f1.f2) t171 _ ?side1 ?side2 ?side3 ?side4 ?side5 ?side6 A27.out).mono ?_
            (case side1 => repeat (first | exact (Kd.N_reads' HO_159002.out).2.2 | (with_reducible refine Kd.C_alloc ?_ _) | (with_reducible refine Kd.C_drewN ?_ _) | (with_reducible refine Kd.C_drew ?_)))
            (case side2 => exact (Kd.N_reads' HO_159002.out).2.1)
            (case side3 => repeat (first | exact (Kd.R_reads' HO_159003.out).2.2 | (with_reducible refine Kd.C_alloc ?_ _) | (with_reducible refine Kd.C_drewN ?_ _) | (with_reducible refine Kd.C_drew ?_)))
            (case side4 => exact (Kd.R_reads' HO_159003.out).2.1)
            (case side5 => repeat (first | exact (Kd.N_reads' HO_159004.out).2.2 | (with_reducible refine Kd.C_alloc ?_ _) | (with_reducible refine Kd.C_drewN ?_ _) | (with_reducible refine Kd.C_drew ?_)))
            (case side6 => exact (Kd.N_reads' HO_159004.out).2.1)
            rintro e w38 ⟨rfl, hb⟩
            refine ⟨_, rfl, ?_⟩
            have n0_ := Aside0.mk (Kd.R_below (by (with_reducible repeat (first | apply Kd.R_alloc | apply Kd.R_drewN | apply Kd.R_drew)); exact HO_23.out) hb)
            have n1_ := Aside0.mk (Kd.N_below (by (with_reducible repeat (first | apply Kd.N_alloc | apply Kd.N_drewN | apply Kd.N_drew)); exact HO_159002.out) hb)
            have n2_ := Aside0.mk (Kd.R_below (by (with_reducible repeat (first | apply Kd.R_alloc | apply Kd.R_drewN | apply Kd.R_drew)); exact HO_159003.out) hb)
            have n3_ := Aside0.mk (Kd.N_below (by (with_reducible repeat (first | apply Kd.N_alloc | apply Kd.N_drewN | apply Kd.N_drew)); exact HO_159004.out) hb)
            have n4_ := Aside0.mk (blk_below (g := gb145) (o := .cells #[.int .i64 a1_0, .int .i64 a1_1, .int .i64 a1_2] 24 (0, 0)) (by (with_reducible repeat (first | refine blk_drewN ?_ _ | refine blk_drew ?_ | refine blk_alloc ?_ _)); exact BK145.out) hb)
            have n5_ := Aside0.mk (blk_below (g := gb146) (o := .cells #[.int .i64 a2_0, .int .i64 a2_1, .int .i64 a2_2] 24 (0, 0)) (by (with_reducible repeat (first | refine blk_drewN ?_ _ | refine blk_drew ?_ | refine blk_alloc ?_ _)); exact BK146.out) hb)
            have n6_ := Aside0.mk (blk_below (g := gb158) (o := .cells #[.int .i64 t147, .int .i64 t148, .slice Ao14 t149.length co14, .slice Ao15 t152.length co15, .slice Ao16 t155.length co16] 29 (0, 0)) (by (with_reducible repeat (first | refine blk_drewN ?_ _ | refine blk_drew ?_ | refine blk_alloc ?_ _)); exact BK158.out) hb)
            have n7_ := Aside0.mk (blk_below (g := gb170) (o := .cells #[.int .i64 ((rd_T31 y165 x25_1).f0.f0), .int .i64 ((rd_T31 y165 x25_1).f0.f1), .int .i64 ((rd_T31 y165 x25_1).f0.f2), .int .i64 ((rd_T31 y165 x25_1).f1.f0), .int .i64 ((rd_T31 y165 x25_1).f1.f1), .int .i64 ((rd_T31 y165 x25_1).f1.f2)] 31 (0, 0)) (by (with_reducible repeat (first | refine blk_drewN ?_ _ | refine blk_drew ?_ | refine blk_alloc ?_ _)); exact BK170.out) hb)
            have n8_ := Aside0.mk (below_step (by repeat (first | (with_reducible first | exact HB.out | apply below_alloc | apply pw_below_drewN | apply below_drew1 | refine below_set ?_ GE145.out | refine below_set ?_ GE146.out | refine below_set ?_ GE158.out | refine below_set ?_ GE170.out) | exact HB.out)) hb)
            clear HO_23
            clear HO_159002
            clear HO_159003
            clear HO_159004
            clear BK145
            clear BK146
            clear BK158
            clear BK170
            clear HB
            have HO_23 := n0_
            have HO_159002 := n1_
            have HO_159003 := n2_
            have HO_159004 := n3_
            have BK145 := n4_
            have BK146 := n5_
            have BK158 := n6_
            have BK170 := n7_
            have HB := n8_
            clear n0_ n1_ n2_ n3_ n4_ n5_ n6_ n7_ n8_
            (try clear hb)
            (try clear hb2)
            (try clear hk)
            (try clear hi)
            refine hK.out _ _ ⟨(blk_cell BK158.out 0).trans rfl, (blk_cell BK158.out 1).trans rfl, (blk_cell BK158.out 2).trans rfl, (blk_cell BK158.out 3).trans rfl, (blk_cell BK158.out 4).trans rfl, (blk_cell BK170.out 0).trans rfl, (blk_cell BK170.out 1).trans rfl, (blk_cell BK170.out 2).trans rfl, (blk_cell BK170.out 3).trans rfl, (blk_cell BK170.out 4).trans rfl, (blk_cell BK170.out 5).trans rfl⟩ (fun hHeld => ?_)
            clear hK K
            refine norm_ (a' := ?_) ?_ ?_
            rotate_left
            · show Act.put _ (some 34) _ = _
              simp only [Act.put, List.setIfInBounds_toArray, List.set_cons_zero, List.set_cons_succ, i64_w, i32_w]
              rfl
            refine one_ (i := 11) (N := some 40) #[true, true, true, true, true, true, true, true, true, true, true, true, true, true, true, true, true, false, false, false, false] rfl rfl (one_of HT_.out (by kernel_rfl)) (by decide) (fun K hK => ?_)
            refine goes_ Try.func11 (by kernel_rfl) rfl #[.agg #[.int .i64 t147, .int .i64 t148, .slice Ao14 t149.length co14, .slice Ao15 t152.length co15, .slice Ao16 t155.length co16], .int .i64 2, .agg #[.int .i64 ((rd_T31 y165 x25_1).f0.f0), .int .i64 ((rd_T31 y165 x25_1).f0.f1), .int .i64 ((rd_T31 y165 x25_1).f0.f2)], .agg #[.int .i64 ((rd_T31 y165 x25_1).f1.f0), .int .i64 ((rd_T31 y165 x25_1).f1.f1), .int .i64 ((rd_T31 y165 x25_1).f1.f2)]] (by rfl) rfl rfl (by (try simp only [List.map_toArray, List.map_cons, List.map_nil]); first | done | rfl | (simp only [List.length_drop, List.length_take]; rfl)) ?_
            with_reducible refine (stepping_Stops.calls k1 t147 t148 _ _ t149 _ _ t152 _ _ t155 2 ((rd_T31 y165 x25_1).f0.f0) ((rd_T31 y165 x25_1).f0.f1) ((rd_T31 y165 x25_1).f0.f2) ((rd_T31 y165 x25_1).f1.f0) ((rd_T31 y165 x25_1).f1.f1) ((rd_T31 y165 x25_1).f1.f2) t172 _ ?side1 ?side2 ?side3 ?side4 ?side5 ?side6 A28.out).mono ?_
            (case side1 => repeat (first | exact (Kd.N_reads' HO_159002.out).2.2 | (with_reducible refine Kd.C_alloc ?_ _) | (with_reducible refine Kd.C_drewN ?_ _) | (with_reducible refine Kd.C_drew ?_)))
            (case side2 => exact (Kd.N_reads' HO_159002.out).2.1)
            (case side3 => repeat (first | exact (Kd.R_reads' HO_159003.out).2.2 | (with_reducible refine Kd.C_alloc ?_ _) | (with_reducible refine Kd.C_drewN ?_ _) | (with_reducible refine Kd.C_drew ?_)))
            (case side4 => exact (Kd.R_reads' HO_159003.out).2.1)
            (case side5 => repeat (first | exact (Kd.N_reads' HO_159004.out).2.2 | (with_reducible refine Kd.C_alloc ?_ _) | (with_reducible refine Kd.C_drewN ?_ _) | (with_reducible refine Kd.C_drew ?_)))
            (case side6 => exact (Kd.N_reads' HO_159004.out).2.1)
            rintro e w39 ⟨rfl, hb⟩
            refine ⟨_, rfl, ?_⟩
            have n0_ := Aside0.mk (Kd.R_below (by (with_reducible repeat (first | apply Kd.R_alloc | apply Kd.R_drewN | apply Kd.R_drew)); exact HO_23.out) hb)
            have n1_ := Aside0.mk (Kd.N_below (by (with_reducible repeat (first | apply Kd.N_alloc | apply Kd.N_drewN | apply Kd.N_drew)); exact HO_159002.out) hb)
            have n2_ := Aside0.mk (Kd.R_below (by (with_reducible repeat (first | apply Kd.R_alloc | apply Kd.R_drewN | apply Kd.R_drew)); exact HO_159003.out) hb)
            have n3_ := Aside0.mk (Kd.N_below (by (with_reducible repeat (first | apply Kd.N_alloc | apply Kd.N_drewN | apply Kd.N_drew)); exact HO_159004.out) hb)
            have n4_ := Aside0.mk (blk_below (g := gb145) (o := .cells #[.int .i64 a1_0, .int .i64 a1_1, .int .i64 a1_2] 24 (0, 0)) (by (with_reducible repeat (first | refine blk_drewN ?_ _ | refine blk_drew ?_ | refine blk_alloc ?_ _)); exact BK145.out) hb)
            have n5_ := Aside0.mk (blk_below (g := gb146) (o := .cells #[.int .i64 a2_0, .int .i64 a2_1, .int .i64 a2_2] 24 (0, 0)) (by (with_reducible repeat (first | refine blk_drewN ?_ _ | refine blk_drew ?_ | refine blk_alloc ?_ _)); exact BK146.out) hb)
            have n6_ := Aside0.mk (blk_below (g := gb158) (o := .cells #[.int .i64 t147, .int .i64 t148, .slice Ao14 t149.length co14, .slice Ao15 t152.length co15, .slice Ao16 t155.length co16] 29 (0, 0)) (by (with_reducible repeat (first | refine blk_drewN ?_ _ | refine blk_drew ?_ | refine blk_alloc ?_ _)); exact BK158.out) hb)
            have n7_ := Aside0.mk (blk_below (g := gb170) (o := .cells #[.int .i64 ((rd_T31 y165 x25_1).f0.f0), .int .i64 ((rd_T31 y165 x25_1).f0.f1), .int .i64 ((rd_T31 y165 x25_1).f0.f2), .int .i64 ((rd_T31 y165 x25_1).f1.f0), .int .i64 ((rd_T31 y165 x25_1).f1.f1), .int .i64 ((rd_T31 y165 x25_1).f1.f2)] 31 (0, 0)) (by (with_reducible repeat (first | refine blk_drewN ?_ _ | refine blk_drew ?_ | refine blk_alloc ?_ _)); exact BK170.out) hb)
            have n8_ := Aside0.mk (below_step (by repeat (first | (with_reducible first | exact HB.out | apply below_alloc | apply pw_below_drewN | apply below_drew1 | refine below_set ?_ GE145.out | refine below_set ?_ GE146.out | refine below_set ?_ GE158.out | refine below_set ?_ GE170.out) | exact HB.out)) hb)
            clear HO_23
            clear HO_159002
            clear HO_159003
            clear HO_159004
            clear BK145
            clear BK146
            clear BK158
            clear BK170
            clear HB
            have HO_23 := n0_
            have HO_159002 := n1_
            have HO_159003 := n2_
            have HO_159004 := n3_
            have BK145 := n4_
            have BK146 := n5_
            have BK158 := n6_
            have BK170 := n7_
            have HB := n8_
            clear n0_ n1_ n2_ n3_ n4_ n5_ n6_ n7_ n8_
            (try clear hb)
            (try clear hb2)
            (try clear hk)
            (try clear hi)
            refine hK.out _ _ ⟨(blk_cell BK158.out 0).trans rfl, (blk_cell BK158.out 1).trans rfl, (blk_cell BK158.out 2).trans rfl, (blk_cell BK158.out 3).trans rfl, (blk_cell BK158.out 4).trans rfl, (blk_cell BK170.out 0).trans rfl, (blk_cell BK170.out 1).trans rfl, (blk_cell BK170.out 2).trans rfl, (blk_cell BK170.out 3).trans rfl, (blk_cell BK170.out 4).trans rfl, (blk_cell BK170.out 5).trans rfl⟩ (fun hHeld => ?_)
            clear hK K
            refine norm_ (a' := ?_) ?_ ?_
            rotate_left
            · show Act.put _ (some 40) _ = _
              simp only [Act.put, List.setIfInBounds_toArray, List.set_cons_zero, List.set_cons_succ, i64_w, i32_w]
              rfl
            refine one_ (i := 17) (N := some 46) #[true, true, true, true, true, true, true, true, true, true, true, true, true, true, true, true, true, true, false, false, false] rfl rfl (one_of HT_.out (by kernel_rfl)) (by decide) (fun K hK => ?_)
            refine goes_ Try.func11 (by kernel_rfl) rfl #[.agg #[.int .i64 t147, .int .i64 t148, .slice Ao14 t149.length co14, .slice Ao15 t152.length co15, .slice Ao16 t155.length co16], .int .i64 1, .agg #[.int .i64 ((rd_T31 y165 x25_1).f0.f0), .int .i64 ((rd_T31 y165 x25_1).f0.f1), .int .i64 ((rd_T31 y165 x25_1).f0.f2)], .agg #[.int .i64 ((rd_T31 y165 x25_1).f1.f0), .int .i64 ((rd_T31 y165 x25_1).f1.f1), .int .i64 ((rd_T31 y165 x25_1).f1.f2)]] (by rfl) rfl rfl (by (try simp only [List.map_toArray, List.map_cons, List.map_nil]); first | done | rfl | (simp only [List.length_drop, List.length_take]; rfl)) ?_
            with_reducible refine (stepping_Stops.calls k1 t147 t148 _ _ t149 _ _ t152 _ _ t155 1 ((rd_T31 y165 x25_1).f0.f0) ((rd_T31 y165 x25_1).f0.f1) ((rd_T31 y165 x25_1).f0.f2) ((rd_T31 y165 x25_1).f1.f0) ((rd_T31 y165 x25_1).f1.f1) ((rd_T31 y165 x25_1).f1.f2) t173 _ ?side1 ?side2 ?side3 ?side4 ?side5 ?side6 A29.out).mono ?_
            (case side1 => repeat (first | exact (Kd.N_reads' HO_159002.out).2.2 | (with_reducible refine Kd.C_alloc ?_ _) | (with_reducible refine Kd.C_drewN ?_ _) | (with_reducible refine Kd.C_drew ?_)))
            (case side2 => exact (Kd.N_reads' HO_159002.out).2.1)
            (case side3 => repeat (first | exact (Kd.R_reads' HO_159003.out).2.2 | (with_reducible refine Kd.C_alloc ?_ _) | (with_reducible refine Kd.C_drewN ?_ _) | (with_reducible refine Kd.C_drew ?_)))
            (case side4 => exact (Kd.R_reads' HO_159003.out).2.1)
            (case side5 => repeat (first | exact (Kd.N_reads' HO_159004.out).2.2 | (with_reducible refine Kd.C_alloc ?_ _) | (with_reducible refine Kd.C_drewN ?_ _) | (with_reducible refine Kd.C_drew ?_)))
            (case side6 => exact (Kd.N_reads' HO_159004.out).2.1)
            rintro e w40 ⟨rfl, hb⟩
            refine ⟨_, rfl, ?_⟩
            have n0_ := Aside0.mk (Kd.R_below (by (with_reducible repeat (first | apply Kd.R_alloc | apply Kd.R_drewN | apply Kd.R_drew)); exact HO_23.out) hb)
            have n1_ := Aside0.mk (Kd.N_below (by (with_reducible repeat (first | apply Kd.N_alloc | apply Kd.N_drewN | apply Kd.N_drew)); exact HO_159002.out) hb)
            have n2_ := Aside0.mk (Kd.R_below (by (with_reducible repeat (first | apply Kd.R_alloc | apply Kd.R_drewN | apply Kd.R_drew)); exact HO_159003.out) hb)
            have n3_ := Aside0.mk (Kd.N_below (by (with_reducible repeat (first | apply Kd.N_alloc | apply Kd.N_drewN | apply Kd.N_drew)); exact HO_159004.out) hb)
            have n4_ := Aside0.mk (blk_below (g := gb145) (o := .cells #[.int .i64 a1_0, .int .i64 a1_1, .int .i64 a1_2] 24 (0, 0)) (by (with_reducible repeat (first | refine blk_drewN ?_ _ | refine blk_drew ?_ | refine blk_alloc ?_ _)); exact BK145.out) hb)
            have n5_ := Aside0.mk (blk_below (g := gb146) (o := .cells #[.int .i64 a2_0, .int .i64 a2_1, .int .i64 a2_2] 24 (0, 0)) (by (with_reducible repeat (first | refine blk_drewN ?_ _ | refine blk_drew ?_ | refine blk_alloc ?_ _)); exact BK146.out) hb)
            have n6_ := Aside0.mk (blk_below (g := gb158) (o := .cells #[.int .i64 t147, .int .i64 t148, .slice Ao14 t149.length co14, .slice Ao15 t152.length co15, .slice Ao16 t155.length co16] 29 (0, 0)) (by (with_reducible repeat (first | refine blk_drewN ?_ _ | refine blk_drew ?_ | refine blk_alloc ?_ _)); exact BK158.out) hb)
            have n7_ := Aside0.mk (blk_below (g := gb170) (o := .cells #[.int .i64 ((rd_T31 y165 x25_1).f0.f0), .int .i64 ((rd_T31 y165 x25_1).f0.f1), .int .i64 ((rd_T31 y165 x25_1).f0.f2), .int .i64 ((rd_T31 y165 x25_1).f1.f0), .int .i64 ((rd_T31 y165 x25_1).f1.f1), .int .i64 ((rd_T31 y165 x25_1).f1.f2)] 31 (0, 0)) (by (with_reducible repeat (first | refine blk_drewN ?_ _ | refine blk_drew ?_ | refine blk_alloc ?_ _)); exact BK170.out) hb)
            have n8_ := Aside0.mk (below_step (by repeat (first | (with_reducible first | exact HB.out | apply below_alloc | apply pw_below_drewN | apply below_drew1 | refine below_set ?_ GE145.out | refine below_set ?_ GE146.out | refine below_set ?_ GE158.out | refine below_set ?_ GE170.out) | exact HB.out)) hb)
            clear HO_23
            clear HO_159002
            clear HO_159003
            clear HO_159004
            clear BK145
            clear BK146
            clear BK158
            clear BK170
            clear HB
            have HO_23 := n0_
            have HO_159002 := n1_
            have HO_159003 := n2_
            have HO_159004 := n3_
            have BK145 := n4_
            have BK146 := n5_
            have BK158 := n6_
            have BK170 := n7_
            have HB := n8_
            clear n0_ n1_ n2_ n3_ n4_ n5_ n6_ n7_ n8_
            (try clear hb)
            (try clear hb2)
            (try clear hk)
            (try clear hi)
            refine hK.out _ _ ⟨(blk_cell BK158.out 0).trans rfl, (blk_cell BK158.out 1).trans rfl, (blk_cell BK158.out 2).trans rfl, (blk_cell BK158.out 3).trans rfl, (blk_cell BK158.out 4).trans rfl, (blk_cell BK170.out 0).trans rfl, (blk_cell BK170.out 1).trans rfl, (blk_cell BK170.out 2).trans rfl, (blk_cell BK170.out 3).trans rfl, (blk_cell BK170.out 4).trans rfl, (blk_cell BK170.out 5).trans rfl⟩ (fun hHeld => ?_)
            clear hK K
            refine norm_ (a' := ?_) ?_ ?_
            rotate_left
            · show Act.put _ (some 46) _ = _
              simp only [Act.put, List.setIfInBounds_toArray, List.set_cons_zero, List.set_cons_succ, i64_w, i32_w]
              rfl
            refine pure_ (i := 18) (N := some 10) (v := ?_) (a' := ?_) #[true, true, true, true, true, true, true, true, true, true, true, true, true, true, true, true, true, true, true, false, false] rfl rfl (any_of HT_.out (by kernel_rfl)) (fun _ _ _ h => h) (Or.inl ⟨by rfl, ?_⟩) ?_ ?_
            rotate_left
            · intro w'
              go_simp
              with_reducible rfl
            rotate_left
            · simp only [Act.put, List.setIfInBounds_toArray, List.set_cons_zero, List.set_cons_succ, i64_w, i32_w]
              rfl
            refine pure_ (i := 19) (N := some 11) (v := ?_) (a' := ?_) #[true, true, true, true, true, true, true, true, true, true, true, true, true, true, true, true, true, true, true, true, false] rfl rfl (any_of HT_.out (by kernel_rfl)) (fun _ _ _ h => h) (Or.inl ⟨by rfl, ?_⟩) ?_ ?_
            rotate_left
            · intro w'
              go_simp
              with_reducible rfl
            rotate_left
            · simp only [Act.put, List.setIfInBounds_toArray, List.set_cons_zero, List.set_cons_succ, i64_w, i32_w]
              rfl
            refine pure_ (i := 20) (N := some 12) (v := ?_) (a' := ?_) #[true, true, true, true, true, true, true, true, true, true, true, true, true, true, true, true, true, true, true, true, true] rfl rfl (any_of HT_.out (by kernel_rfl)) (fun _ _ _ h => h) (Or.inl ⟨by rfl, ?_⟩) ?_ ?_
            rotate_left
            · intro w'
              go_simp
              with_reducible rfl
            rotate_left
            · simp only [Act.put, List.setIfInBounds_toArray, List.set_cons_zero, List.set_cons_succ, i64_w, i32_w]
              rfl
            refine done_ (done_of HT_.out (by kernel_rfl)) ?_
            go_upto_region 6 with (fail)
            go_cut [62] (fun v62 wc => ∃ (kq : Nat) (x62_29 : Bool), v62 = .bool x62_29 ∧ Aside0 (debuggerlaw42_SteppingImplies.j1 kq y165 (y165.length : Int) x25_1 x62_29 t147 t148 t149 t152 t155 = some r) ∧ Aside0 (kq ≤ k1) ∧ Aside0 (Kd.R k31 31 wc w.heap.size (fun k_ => k_ ≠ gb170) (.slice (some ad169) y165.length co23) y165) ∧ Aside0 (Kd.N k71 71 wc w.heap.size (fun k_ => some k_ ≠ ((.slice (some ad169) y165.length co23) : Value).ownBlock ∧ some k_ ≠ ((.slice Ao15 t152.length co15) : Value).ownBlock ∧ some k_ ≠ ((.slice Ao16 t155.length co16) : Value).ownBlock ∧ k_ ≠ gb145 ∧ k_ ≠ gb146 ∧ k_ ≠ gb158 ∧ k_ ≠ gb170) (.slice Ao14 t149.length co14) t149) ∧ Aside0 (Kd.R k73 73 wc w.heap.size (fun _ => True) (.slice Ao15 t152.length co15) t152) ∧ Aside0 (Kd.N k51 51 wc w.heap.size (fun k_ => some k_ ≠ ((.slice (some ad169) y165.length co23) : Value).ownBlock ∧ some k_ ≠ ((.slice Ao14 t149.length co14) : Value).ownBlock ∧ some k_ ≠ ((.slice Ao15 t152.length co15) : Value).ownBlock ∧ k_ ≠ gb145 ∧ k_ ≠ gb146 ∧ k_ ≠ gb158 ∧ k_ ≠ gb170) (.slice Ao16 t155.length co16) t155) ∧ Aside0 (wc.heap[gb145]? = some (.cells #[.int .i64 a1_0, .int .i64 a1_1, .int .i64 a1_2] 24 (0, 0))) ∧ Aside0 (wc.heap[gb146]? = some (.cells #[.int .i64 a2_0, .int .i64 a2_1, .int .i64 a2_2] 24 (0, 0))) ∧ Aside0 (wc.heap[gb158]? = some (.cells #[.int .i64 t147, .int .i64 t148, (.slice Ao14 t149.length co14), (.slice Ao15 t152.length co15), (.slice Ao16 t155.length co16)] 29 (0, 0))) ∧ Aside0 (wc.heap[gb170]? = some (.cells #[.int .i64 ((rd_T31 y165 x25_1).f0.f0), .int .i64 ((rd_T31 y165 x25_1).f0.f1), .int .i64 ((rd_T31 y165 x25_1).f0.f2), .int .i64 ((rd_T31 y165 x25_1).f1.f0), .int .i64 ((rd_T31 y165 x25_1).f1.f1), .int .i64 ((rd_T31 y165 x25_1).f1.f2)] 31 (0, 0))) ∧ Aside0 (Below w.heap.size w wc))
            case first =>
              have H := HC30.out
              clear HC30
              by_cases c41 : t171 = true
              · subst c41
                have H1 : (if t172 = true then (if t173 = true then (debuggerlaw42_SteppingImplies.j1 k1 y165 (y165.length : Int) x25_1 (!t173) t147 t148 t149 t152 t155) else (debuggerlaw42_SteppingImplies.j1 k1 y165 (y165.length : Int) x25_1 true t147 t148 t149 t152 t155)) else (debuggerlaw42_SteppingImplies.j1 k1 y165 (y165.length : Int) x25_1 true t147 t148 t149 t152 t155)) = some r := by rw [if_pos rfl] at H; exact H
                clear H
                have H := H1
                clear H1
                by_cases c42 : t172 = true
                · subst c42
                  have H1 : (if t173 = true then (debuggerlaw42_SteppingImplies.j1 k1 y165 (y165.length : Int) x25_1 (!t173) t147 t148 t149 t152 t155) else (debuggerlaw42_SteppingImplies.j1 k1 y165 (y165.length : Int) x25_1 true t147 t148 t149 t152 t155)) = some r := by rw [if_pos rfl] at H; exact H
                  clear H
                  have H := H1
                  clear H1
                  by_cases c43 : t173 = true
                  · subst c43
                    have H1 : (debuggerlaw42_SteppingImplies.j1 k1 y165 (y165.length : Int) x25_1 (!true) t147 t148 t149 t152 t155) = some r := by rw [if_pos rfl] at H; exact H
                    clear H
                    have H := H1
                    clear H1
                    have H' := Aside0.mk H
                    clear H
                    go_wp2
                    go_meet
                    case rel => exact ⟨_, (!true), (by first | rfl | (simp; done) | (simp [*]; done)), H', ⟨by have := HK1.out; first | omega | exact Nat.le_refl _⟩, ⟨by (with_reducible repeat (first | apply Kd.R_alloc | apply Kd.R_drewN | apply Kd.R_drew)); exact HO_23.out⟩, ⟨by (with_reducible repeat (first | apply Kd.N_alloc | apply Kd.N_drewN | apply Kd.N_drew)); exact HO_159002.out⟩, ⟨by (with_reducible repeat (first | apply Kd.R_alloc | apply Kd.R_drewN | apply Kd.R_drew)); exact HO_159003.out⟩, ⟨by (with_reducible repeat (first | apply Kd.N_alloc | apply Kd.N_drewN | apply Kd.N_drew)); exact HO_159004.out⟩, ⟨by (with_reducible repeat (first | refine blk_drewN ?_ _ | refine blk_drew ?_ | refine blk_alloc ?_ _)); exact BK145.out⟩, ⟨by (with_reducible repeat (first | refine blk_drewN ?_ _ | refine blk_drew ?_ | refine blk_alloc ?_ _)); exact BK146.out⟩, ⟨by (with_reducible repeat (first | refine blk_drewN ?_ _ | refine blk_drew ?_ | refine blk_alloc ?_ _)); exact BK158.out⟩, ⟨by (with_reducible repeat (first | refine blk_drewN ?_ _ | refine blk_drew ?_ | refine blk_alloc ?_ _)); exact BK170.out⟩, ⟨by repeat (first | (with_reducible first | exact HB.out | apply below_alloc | apply pw_below_drewN | apply below_drew1 | refine below_set ?_ GE145.out | refine below_set ?_ GE146.out | refine below_set ?_ GE158.out | refine below_set ?_ GE170.out) | exact HB.out)⟩⟩
                  · replace c43 := Bool.eq_false_iff.mpr c43
                    subst c43
                    have H1 : (debuggerlaw42_SteppingImplies.j1 k1 y165 (y165.length : Int) x25_1 true t147 t148 t149 t152 t155) = some r := by rw [if_neg (show ¬ (false = true) by decide)] at H; exact H
                    clear H
                    have H := H1
                    clear H1
                    have H' := Aside0.mk H
                    clear H
                    go_wp2
                    go_meet
                    case rel => exact ⟨_, (true), (by first | rfl | (simp; done) | (simp [*]; done)), H', ⟨by have := HK1.out; first | omega | exact Nat.le_refl _⟩, ⟨by (with_reducible repeat (first | apply Kd.R_alloc | apply Kd.R_drewN | apply Kd.R_drew)); exact HO_23.out⟩, ⟨by (with_reducible repeat (first | apply Kd.N_alloc | apply Kd.N_drewN | apply Kd.N_drew)); exact HO_159002.out⟩, ⟨by (with_reducible repeat (first | apply Kd.R_alloc | apply Kd.R_drewN | apply Kd.R_drew)); exact HO_159003.out⟩, ⟨by (with_reducible repeat (first | apply Kd.N_alloc | apply Kd.N_drewN | apply Kd.N_drew)); exact HO_159004.out⟩, ⟨by (with_reducible repeat (first | refine blk_drewN ?_ _ | refine blk_drew ?_ | refine blk_alloc ?_ _)); exact BK145.out⟩, ⟨by (with_reducible repeat (first | refine blk_drewN ?_ _ | refine blk_drew ?_ | refine blk_alloc ?_ _)); exact BK146.out⟩, ⟨by (with_reducible repeat (first | refine blk_drewN ?_ _ | refine blk_drew ?_ | refine blk_alloc ?_ _)); exact BK158.out⟩, ⟨by (with_reducible repeat (first | refine blk_drewN ?_ _ | refine blk_drew ?_ | refine blk_alloc ?_ _)); exact BK170.out⟩, ⟨by repeat (first | (with_reducible first | exact HB.out | apply below_alloc | apply pw_below_drewN | apply below_drew1 | refine below_set ?_ GE145.out | refine below_set ?_ GE146.out | refine below_set ?_ GE158.out | refine below_set ?_ GE170.out) | exact HB.out)⟩⟩
                · replace c42 := Bool.eq_false_iff.mpr c42
                  subst c42
                  have H1 : (debuggerlaw42_SteppingImplies.j1 k1 y165 (y165.length : Int) x25_1 true t147 t148 t149 t152 t155) = some r := by rw [if_neg (show ¬ (false = true) by decide)] at H; exact H
                  clear H
                  have H := H1
                  clear H1
                  have H' := Aside0.mk H
                  clear H
                  go_wp2
                  go_meet
                  case rel => exact ⟨_, (true), (by first | rfl | (simp; done) | (simp [*]; done)), H', ⟨by have := HK1.out; first | omega | exact Nat.le_refl _⟩, ⟨by (with_reducible repeat (first | apply Kd.R_alloc | apply Kd.R_drewN | apply Kd.R_drew)); exact HO_23.out⟩, ⟨by (with_reducible repeat (first | apply Kd.N_alloc | apply Kd.N_drewN | apply Kd.N_drew)); exact HO_159002.out⟩, ⟨by (with_reducible repeat (first | apply Kd.R_alloc | apply Kd.R_drewN | apply Kd.R_drew)); exact HO_159003.out⟩, ⟨by (with_reducible repeat (first | apply Kd.N_alloc | apply Kd.N_drewN | apply Kd.N_drew)); exact HO_159004.out⟩, ⟨by (with_reducible repeat (first | refine blk_drewN ?_ _ | refine blk_drew ?_ | refine blk_alloc ?_ _)); exact BK145.out⟩, ⟨by (with_reducible repeat (first | refine blk_drewN ?_ _ | refine blk_drew ?_ | refine blk_alloc ?_ _)); exact BK146.out⟩, ⟨by (with_reducible repeat (first | refine blk_drewN ?_ _ | refine blk_drew ?_ | refine blk_alloc ?_ _)); exact BK158.out⟩, ⟨by (with_reducible repeat (first | refine blk_drewN ?_ _ | refine blk_drew ?_ | refine blk_alloc ?_ _)); exact BK170.out⟩, ⟨by repeat (first | (with_reducible first | exact HB.out | apply below_alloc | apply pw_below_drewN | apply below_drew1 | refine below_set ?_ GE145.out | refine below_set ?_ GE146.out | refine below_set ?_ GE158.out | refine below_set ?_ GE170.out) | exact HB.out)⟩⟩
              · replace c41 := Bool.eq_false_iff.mpr c41
                subst c41
                have H1 : (if t172 = true then (if t173 = true then (debuggerlaw42_SteppingImplies.j1 k1 y165 (y165.length : Int) x25_1 (!t173) t147 t148 t149 t152 t155) else (debuggerlaw42_SteppingImplies.j1 k1 y165 (y165.length : Int) x25_1 true t147 t148 t149 t152 t155)) else (debuggerlaw42_SteppingImplies.j1 k1 y165 (y165.length : Int) x25_1 (!t173) t147 t148 t149 t152 t155)) = some r := by rw [if_neg (show ¬ (false = true) by decide)] at H; exact H
                clear H
                have H := H1
                clear H1
                by_cases c44 : t172 = true
                · subst c44
                  have H1 : (if t173 = true then (debuggerlaw42_SteppingImplies.j1 k1 y165 (y165.length : Int) x25_1 (!t173) t147 t148 t149 t152 t155) else (debuggerlaw42_SteppingImplies.j1 k1 y165 (y165.length : Int) x25_1 true t147 t148 t149 t152 t155)) = some r := by rw [if_pos rfl] at H; exact H
                  clear H
                  have H := H1
                  clear H1
                  by_cases c45 : t173 = true
                  · subst c45
                    have H1 : (debuggerlaw42_SteppingImplies.j1 k1 y165 (y165.length : Int) x25_1 (!true) t147 t148 t149 t152 t155) = some r := by rw [if_pos rfl] at H; exact H
                    clear H
                    have H := H1
                    clear H1
                    have H' := Aside0.mk H
                    clear H
                    go_wp2
                    go_meet
                    case rel => exact ⟨_, (!true), (by first | rfl | (simp; done) | (simp [*]; done)), H', ⟨by have := HK1.out; first | omega | exact Nat.le_refl _⟩, ⟨by (with_reducible repeat (first | apply Kd.R_alloc | apply Kd.R_drewN | apply Kd.R_drew)); exact HO_23.out⟩, ⟨by (with_reducible repeat (first | apply Kd.N_alloc | apply Kd.N_drewN | apply Kd.N_drew)); exact HO_159002.out⟩, ⟨by (with_reducible repeat (first | apply Kd.R_alloc | apply Kd.R_drewN | apply Kd.R_drew)); exact HO_159003.out⟩, ⟨by (with_reducible repeat (first | apply Kd.N_alloc | apply Kd.N_drewN | apply Kd.N_drew)); exact HO_159004.out⟩, ⟨by (with_reducible repeat (first | refine blk_drewN ?_ _ | refine blk_drew ?_ | refine blk_alloc ?_ _)); exact BK145.out⟩, ⟨by (with_reducible repeat (first | refine blk_drewN ?_ _ | refine blk_drew ?_ | refine blk_alloc ?_ _)); exact BK146.out⟩, ⟨by (with_reducible repeat (first | refine blk_drewN ?_ _ | refine blk_drew ?_ | refine blk_alloc ?_ _)); exact BK158.out⟩, ⟨by (with_reducible repeat (first | refine blk_drewN ?_ _ | refine blk_drew ?_ | refine blk_alloc ?_ _)); exact BK170.out⟩, ⟨by repeat (first | (with_reducible first | exact HB.out | apply below_alloc | apply pw_below_drewN | apply below_drew1 | refine below_set ?_ GE145.out | refine below_set ?_ GE146.out | refine below_set ?_ GE158.out | refine below_set ?_ GE170.out) | exact HB.out)⟩⟩
                  · replace c45 := Bool.eq_false_iff.mpr c45
                    subst c45
                    have H1 : (debuggerlaw42_SteppingImplies.j1 k1 y165 (y165.length : Int) x25_1 true t147 t148 t149 t152 t155) = some r := by rw [if_neg (show ¬ (false = true) by decide)] at H; exact H
                    clear H
                    have H := H1
                    clear H1
                    have H' := Aside0.mk H
                    clear H
                    go_wp2
                    go_meet
                    case rel => exact ⟨_, (true), (by first | rfl | (simp; done) | (simp [*]; done)), H', ⟨by have := HK1.out; first | omega | exact Nat.le_refl _⟩, ⟨by (with_reducible repeat (first | apply Kd.R_alloc | apply Kd.R_drewN | apply Kd.R_drew)); exact HO_23.out⟩, ⟨by (with_reducible repeat (first | apply Kd.N_alloc | apply Kd.N_drewN | apply Kd.N_drew)); exact HO_159002.out⟩, ⟨by (with_reducible repeat (first | apply Kd.R_alloc | apply Kd.R_drewN | apply Kd.R_drew)); exact HO_159003.out⟩, ⟨by (with_reducible repeat (first | apply Kd.N_alloc | apply Kd.N_drewN | apply Kd.N_drew)); exact HO_159004.out⟩, ⟨by (with_reducible repeat (first | refine blk_drewN ?_ _ | refine blk_drew ?_ | refine blk_alloc ?_ _)); exact BK145.out⟩, ⟨by (with_reducible repeat (first | refine blk_drewN ?_ _ | refine blk_drew ?_ | refine blk_alloc ?_ _)); exact BK146.out⟩, ⟨by (with_reducible repeat (first | refine blk_drewN ?_ _ | refine blk_drew ?_ | refine blk_alloc ?_ _)); exact BK158.out⟩, ⟨by (with_reducible repeat (first | refine blk_drewN ?_ _ | refine blk_drew ?_ | refine blk_alloc ?_ _)); exact BK170.out⟩, ⟨by repeat (first | (with_reducible first | exact HB.out | apply below_alloc | apply pw_below_drewN | apply below_drew1 | refine below_set ?_ GE145.out | refine below_set ?_ GE146.out | refine below_set ?_ GE158.out | refine below_set ?_ GE170.out) | exact HB.out)⟩⟩
                · replace c44 := Bool.eq_false_iff.mpr c44
                  subst c44
                  have H1 : (debuggerlaw42_SteppingImplies.j1 k1 y165 (y165.length : Int) x25_1 (!t173) t147 t148 t149 t152 t155) = some r := by rw [if_neg (show ¬ (false = true) by decide)] at H; exact H
                  clear H
                  have H := H1
                  clear H1
                  have H' := Aside0.mk H
                  clear H
                  go_wp2
                  go_meet
                  case rel => exact ⟨_, (!t173), (by first | rfl | (simp; done) | (simp [*]; done)), H', ⟨by have := HK1.out; first | omega | exact Nat.le_refl _⟩, ⟨by (with_reducible repeat (first | apply Kd.R_alloc | apply Kd.R_drewN | apply Kd.R_drew)); exact HO_23.out⟩, ⟨by (with_reducible repeat (first | apply Kd.N_alloc | apply Kd.N_drewN | apply Kd.N_drew)); exact HO_159002.out⟩, ⟨by (with_reducible repeat (first | apply Kd.R_alloc | apply Kd.R_drewN | apply Kd.R_drew)); exact HO_159003.out⟩, ⟨by (with_reducible repeat (first | apply Kd.N_alloc | apply Kd.N_drewN | apply Kd.N_drew)); exact HO_159004.out⟩, ⟨by (with_reducible repeat (first | refine blk_drewN ?_ _ | refine blk_drew ?_ | refine blk_alloc ?_ _)); exact BK145.out⟩, ⟨by (with_reducible repeat (first | refine blk_drewN ?_ _ | refine blk_drew ?_ | refine blk_alloc ?_ _)); exact BK146.out⟩, ⟨by (with_reducible repeat (first | refine blk_drewN ?_ _ | refine blk_drew ?_ | refine blk_alloc ?_ _)); exact BK158.out⟩, ⟨by (with_reducible repeat (first | refine blk_drewN ?_ _ | refine blk_drew ?_ | refine blk_alloc ?_ _)); exact BK170.out⟩, ⟨by repeat (first | (with_reducible first | exact HB.out | apply below_alloc | apply pw_below_drewN | apply below_drew1 | refine below_set ?_ GE145.out | refine below_set ?_ GE146.out | refine below_set ?_ GE158.out | refine below_set ?_ GE170.out) | exact HB.out)⟩⟩
            case rest =>
              clear HC30
              try clear c1
              try clear p1
              try clear q1
              try clear hx1
              try clear c2
              try clear p2
              try clear c3
              try clear c4
              try clear c5
              try clear c6
              try clear c7
              try clear c11
              try clear c12
              try clear p16
              try clear q16
              try clear hx16
              try clear c24
              try clear c24b0
              try clear c25
              try clear c25b0
              try clear c26
              try clear c26b0
              try clear c32
              try clear c33
              try clear c34
              try clear c41
              try clear c42
              try clear c43
              try clear c44
              try clear c45
              try clear hcz13_0
              try clear hcz13_1
              try clear hcz13_2
              try clear hcz13_3
              try clear hcz13_4
              try clear hcz35_0
              try clear hcz35_1
              try clear hcz35_2
              try clear hcz35_3
              try clear hcz35_4
              try clear hcz35_5
              try clear hfz13_0
              try clear hfz13_1
              try clear hfz13_2
              try clear hfz13_3
              try clear hfz13_4
              try clear hfz35_0
              try clear hfz35_1
              try clear hfz35_2
              try clear hfz35_3
              try clear hfz35_4
              try clear hfz35_5
              try clear hx169_0
              try clear hx169_1
              try clear hx169_2
              try clear hx169_3
              try clear hx169_4
              try clear hx169_5
              try clear p169
              try clear p2
              try clear q169
              obtain ⟨kq, x62_29, rfl, HA, HJ29, HO_23, HO_159002, HO_159003, HO_159004, BK145, BK146, BK158, BK170, HB⟩ := hcut
              cases kq with
              | zero => exact absurd HA.out (by simp [debuggerlaw42_SteppingImplies.j1])
              | succ kj29 =>
                have H := HA.out
                clear HA
                simp only [debuggerlaw42_SteppingImplies.j1] at H
                by_cases c46 : x62_29 = true
                · subst c46
                  have H1 : (some false) = some r := by rw [if_pos rfl] at H; exact H
                  clear H
                  have H := H1
                  clear H1
                  obtain rfl := Option.some.inj H
                  go_wp2
                  go_ret
                  exact ⟨by first | rfl | (simp [errW_none, errW_some] <;> rfl) | (simp [*, errW_none, errW_some] <;> rfl), by repeat (first | (with_reducible first | exact HB.out | apply below_alloc | apply pw_below_drewN | apply below_drew1 | refine below_set ?_ GE145.out | refine below_set ?_ GE146.out | refine below_set ?_ GE158.out | refine below_set ?_ GE170.out) | exact HB.out)⟩
                · replace c46 := Bool.eq_false_iff.mpr c46
                  subst c46
                  have H1 : (debuggerlaw42_SteppingImplies.l0 kj29 y165 (y165.length : Int) (wrap64 (x25_1 + 1)) t147 t148 t149 t152 t155) = some r := by rw [if_neg (show ¬ (false = true) by decide)] at H; exact H
                  clear H
                  have H := H1
                  clear H1
                  have H' := Aside0.mk H
                  clear H
                  go_wp2
                  go_roundg kj29
                  case measure => have := HK1.out; have := HJ29.out; omega
                  case rel => exact ⟨(wrap64 (x25_1 + 1)), (by first | rfl | (simp; done) | (simp [*]; done)), H', ⟨by have := HK1.out; have := HJ29.out; omega⟩, ⟨by (with_reducible repeat (first | apply Kd.R_alloc | apply Kd.R_drewN | apply Kd.R_drew)); exact Kd.R_mono HO_23.out (fun _ hk => trivial)⟩, ⟨by (with_reducible repeat (first | apply Kd.N_alloc | apply Kd.N_drewN | apply Kd.N_drew)); exact Kd.N_mono HO_159002.out (fun _ hk => ⟨hk.1, ⟨hk.2.1, ⟨hk.2.2.1, ⟨hk.2.2.2.1, ⟨hk.2.2.2.2.1, hk.2.2.2.2.2.1⟩⟩⟩⟩⟩)⟩, ⟨by (with_reducible repeat (first | apply Kd.R_alloc | apply Kd.R_drewN | apply Kd.R_drew)); exact HO_159003.out⟩, ⟨by (with_reducible repeat (first | apply Kd.N_alloc | apply Kd.N_drewN | apply Kd.N_drew)); exact Kd.N_mono HO_159004.out (fun _ hk => ⟨hk.1, ⟨hk.2.1, ⟨hk.2.2.1, ⟨hk.2.2.2.1, ⟨hk.2.2.2.2.1, hk.2.2.2.2.2.1⟩⟩⟩⟩⟩)⟩, ⟨by (with_reducible repeat (first | refine blk_drewN ?_ _ | refine blk_drew ?_ | refine blk_alloc ?_ _)); exact BK145.out⟩, ⟨by (with_reducible repeat (first | refine blk_drewN ?_ _ | refine blk_drew ?_ | refine blk_alloc ?_ _)); exact BK146.out⟩, ⟨by (with_reducible repeat (first | refine blk_drewN ?_ _ | refine blk_drew ?_ | refine blk_alloc ?_ _)); exact BK158.out⟩, ⟨by repeat (first | (with_reducible first | exact HB.out | apply below_alloc | apply pw_below_drewN | apply below_drew1 | refine below_set ?_ GE145.out | refine below_set ?_ GE146.out | refine below_set ?_ GE158.out | refine below_set ?_ GE170.out) | exact HB.out)⟩⟩
          · rw [if_neg c26] at H
            exact absurd H (by simp)
        · rw [if_neg c25] at H
          exact absurd H (by simp)
      · rw [if_neg c24] at H
        have c24b0 : decide (x25_1 < (y165.length : Int)) = false := decide_eq_false c24
        clear c24
        replace H := Option.bind_eq_some_iff.mp H
        obtain ⟨t168, A470, H⟩ := H
        replace H : (some t168) = some r := H
        have A47 := Aside0.mk A470
        clear A470
        obtain rfl := Option.some.inj H
        go_wp2_with (first | ((with_reducible refine gate_callee (f := 13) rfl ?_); refine goesL_ (some 64) rfl rfl Try.func13 (by kernel_rfl) rfl #[] rfl (by (try simp only [List.map_toArray, List.map_cons, List.map_nil]); first | done | rfl | (simp only [List.length_drop, List.length_take]; rfl)) ?_; (with_reducible refine (debuggerlaw42_awake.calls k1  t168 _ A47.out).mono ?_); rintro e w48 ⟨rfl, hb⟩; refine ⟨_, rfl, ?_⟩; have n0_ := Aside0.mk (Kd.R_below (by (with_reducible repeat (first | apply Kd.R_alloc | apply Kd.R_drewN | apply Kd.R_drew)); exact HO_23.out) hb); have n1_ := Aside0.mk (Kd.N_below (by (with_reducible repeat (first | apply Kd.N_alloc | apply Kd.N_drewN | apply Kd.N_drew)); exact HO_159002.out) hb); have n2_ := Aside0.mk (Kd.R_below (by (with_reducible repeat (first | apply Kd.R_alloc | apply Kd.R_drewN | apply Kd.R_drew)); exact HO_159003.out) hb); have n3_ := Aside0.mk (Kd.N_below (by (with_reducible repeat (first | apply Kd.N_alloc | apply Kd.N_drewN | apply Kd.N_drew)); exact HO_159004.out) hb); have n4_ := Aside0.mk (blk_below (g := gb145) (o := .cells #[.int .i64 a1_0, .int .i64 a1_1, .int .i64 a1_2] 24 (0, 0)) (by (with_reducible repeat (first | refine blk_drewN ?_ _ | refine blk_drew ?_ | refine blk_alloc ?_ _)); exact BK145.out) hb); have n5_ := Aside0.mk (blk_below (g := gb146) (o := .cells #[.int .i64 a2_0, .int .i64 a2_1, .int .i64 a2_2] 24 (0, 0)) (by (with_reducible repeat (first | refine blk_drewN ?_ _ | refine blk_drew ?_ | refine blk_alloc ?_ _)); exact BK146.out) hb); have n6_ := Aside0.mk (blk_below (g := gb158) (o := .cells #[.int .i64 t147, .int .i64 t148, .slice Ao14 t149.length co14, .slice Ao15 t152.length co15, .slice Ao16 t155.length co16] 29 (0, 0)) (by (with_reducible repeat (first | refine blk_drewN ?_ _ | refine blk_drew ?_ | refine blk_alloc ?_ _)); exact BK158.out) hb); have n7_ := Aside0.mk (below_step (by repeat (first | (with_reducible first | exact HB.out | apply below_alloc | apply pw_below_drewN | apply below_drew1 | refine below_set ?_ GE145.out | refine below_set ?_ GE146.out | refine below_set ?_ GE158.out) | exact HB.out)) hb); clear HO_23; clear HO_159002; clear HO_159003; clear HO_159004; clear BK145; clear BK146; clear BK158; clear HB; have HO_23 := n0_; have HO_159002 := n1_; have HO_159003 := n2_; have HO_159004 := n3_; have BK145 := n4_; have BK146 := n5_; have BK158 := n6_; have HB := n7_; clear n0_ n1_ n2_ n3_ n4_ n5_ n6_ n7_; (try clear hb); (try clear hb2); (try clear hk); (try clear hi)))
        go_ret
        exact ⟨by first | rfl | (simp [errW_none, errW_some] <;> rfl) | (simp [*, errW_none, errW_some] <;> rfl), by repeat (first | (with_reducible first | exact HB.out | apply below_alloc | apply pw_below_drewN | apply below_drew1 | refine below_set ?_ GE145.out | refine below_set ?_ GE146.out | refine below_set ?_ GE158.out) | exact HB.out)⟩

end Go.Proofs.Ytjcghbgcnofchaa.QSteppingImplies
