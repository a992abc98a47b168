-- Written by a program of this session (wip/printer.py of the repo) out of the translation.
import Derived.Test.YtjcghbgcnofchaaQSteppingComparesx0
import Derived.Test.YtjcghbgcnofchaaQSteppingComparesx1
import Derived.Test.YtjcghbgcnofchaaQSteppingComparesx2
import Derived.Test.YtjcghbgcnofchaaQSteppingComparesx3
import Derived.Test.YtjcghbgcnofchaaQSteppingComparesx4
import Derived.Test.YtjcghbgcnofchaaQSteppingComparesx6
import Derived.Test.YtjcghbgcnofchaaQSteppingComparesx7
import Derived.Test.YtjcghbgcnofchaaQSteppingComparesx8
import Derived.Test.YtjcghbgcnofchaaQSteppingComparesx9
namespace Go.Proofs.Ytjcghbgcnofchaa.QSteppingCompares
open Go.RowKit Go.Proofs.YtjcghbgcnofchaaW.PrintWords Go.Proofs.YtjcghbgcnofchaaW.PrintLast Go.Proofs.YtjcghbgcnofchaaW.PrintMore
attribute [local go_sem] max2_int min2_int max_two min_two max_three min_three max_four min_four   -- for this text's walks alone
set_option linter.unusedVariables false
set_option linter.unusedSimpArgs false

/-! ### debuggerlaw42_SteppingCompares: function 3 -/
mutual
def debuggerlaw42_SteppingCompares.l0 : Nat → Int → List (S31) → Int → Int → Int → Int → List (S71) → List (S73) → List (S51) → Option (Bool)
  | 0, _, _, _, _, _, _, _, _, _ => none
  | k + 1, x3, x29, x30, x31, x171000, x171001, x171002, x171003, x171004 => if x31 < x30 then (if 0 ≤ x31 then (if x31 < (x29.length : Int) then ((debuggerkit_Mod.f x3 3).bind fun t189 => ((some (([x3, wrap64 (1 + t189)] : List Int) : List Int)).bind fun y190 => (debuggerlaw42_SteppingCompares.l1 k x3 x29 x30 x31 y190 (y190.length : Int) 0 x171000 x171001 x171002 x171003 x171004 ((rd_T31 x29 x31).f0.f0) ((rd_T31 x29 x31).f0.f1) ((rd_T31 x29 x31).f0.f2) ((rd_T31 x29 x31).f1.f0) ((rd_T31 x29 x31).f1.f1) ((rd_T31 x29 x31).f1.f2)))) else (none)) else (none)) else ((debuggerlaw42_awake.f k).bind fun t186 => (some t186))
def debuggerlaw42_SteppingCompares.l1 : Nat → Int → List (S31) → Int → Int → List Int → Int → Int → Int → Int → List (S71) → List (S73) → List (S51) → Int → Int → Int → Int → Int → Int → Option (Bool)
  | 0, _, _, _, _, _, _, _, _, _, _, _, _, _, _, _, _, _, _ => none
  | k + 1, x3, x29, x30, x31, x39, x40, x41, x171000, x171001, x171002, x171003, x171004, x189000, x189001, x189002, x189003, x189004, x189005 => if x41 < x40 then (if 0 ≤ x41 then (if x41 < (x39.length : Int) then ((stepping_Nested.f k x171000 x171001 x171002 x171003 x171004 x189000 x189001 x189002 x189003 x189004 x189005).bind fun t194 => ((debuggerref42_Nested.f k x171000 x171001 x171002 x171003 x171004 x189000 x189001 x189002 x189003 x189004 x189005).bind fun t195 => (if (t194 != t195) = true then (some false) else ((stepping_Stops.f k x171000 x171001 x171002 x171003 x171004 (rd x39 x41) x189000 x189001 x189002 x189003 x189004 x189005).bind fun t196 => ((debuggerref42_Stops.f k x171000 x171001 x171002 x171003 x171004 (rd x39 x41) x189000 x189001 x189002 x189003 x189004 x189005).bind fun t197 => (if (t196 != t197) = true then (some false) else (debuggerlaw42_SteppingCompares.l1 k x3 x29 x30 x31 x39 x40 (wrap64 (x41 + 1)) x171000 x171001 x171002 x171003 x171004 x189000 x189001 x189002 x189003 x189004 x189005))))))) else (none)) else (none)) else (debuggerlaw42_SteppingCompares.l0 k x3 x29 x30 (wrap64 (x31 + 1)) x171000 x171001 x171002 x171003 x171004)
end
def debuggerlaw42_SteppingCompares.f (k : Nat) (l0 : List Int) (a1_0 : Int) (a1_1 : Int) (a1_2 : Int) (a2_0 : Int) (a2_1 : Int) (a2_2 : Int) (a3 : Int) : Option (Bool) := (debuggerlaw42_contexts.f k l0).bind fun bt159 => ((debuggerlaw42_near.f a1_0 a1_1 a1_2).bind fun bt171 => ((debuggerlaw42_near.f a2_0 a2_1 a2_2).bind fun bt174 => ((debuggerlaw42_near.f a2_0 a2_1 a2_2).bind fun bt177 => ((debuggerlaw42_near.f a1_0 a1_1 a1_2).bind fun bt180 => ((some (([(⟨(⟨a1_0, a1_1, a1_2⟩ : S24), (⟨a2_0, a2_1, a2_2⟩ : S24)⟩ : S31), (⟨(⟨bt171.1, bt171.2.1, bt171.2.2⟩ : S24), (⟨bt174.1, bt174.2.1, bt174.2.2⟩ : S24)⟩ : S31), (⟨(⟨bt177.1, bt177.2.1, bt177.2.2⟩ : S24), (⟨bt180.1, bt180.2.1, bt180.2.2⟩ : S24)⟩ : S31)] : List (S31)) : List (S31))).bind fun y183 => (debuggerlaw42_SteppingCompares.l0 k a3 y183 (y183.length : Int) 0 bt159.1 bt159.2.1 bt159.2.2.1 bt159.2.2.2.1 bt159.2.2.2.2))))))
theorem debuggerlaw42_SteppingCompares.mono_l : ∀ k, (∀ y0 y1 y2 y3 y4 y5 y6 y7 y8, LeO (debuggerlaw42_SteppingCompares.l0 k y0 y1 y2 y3 y4 y5 y6 y7 y8) (debuggerlaw42_SteppingCompares.l0 (k + 1) y0 y1 y2 y3 y4 y5 y6 y7 y8)) ∧ (∀ y0 y1 y2 y3 y4 y5 y6 y7 y8 y9 y10 y11 y12 y13 y14 y15 y16 y17, LeO (debuggerlaw42_SteppingCompares.l1 k y0 y1 y2 y3 y4 y5 y6 y7 y8 y9 y10 y11 y12 y13 y14 y15 y16 y17) (debuggerlaw42_SteppingCompares.l1 (k + 1) y0 y1 y2 y3 y4 y5 y6 y7 y8 y9 y10 y11 y12 y13 y14 y15 y16 y17))
  | 0 => ⟨fun _ _ _ _ _ _ _ _ _ r h => by simp [debuggerlaw42_SteppingCompares.l0] at h, fun _ _ _ _ _ _ _ _ _ _ _ _ _ _ _ _ _ _ r h => by simp [debuggerlaw42_SteppingCompares.l1] at h⟩
  | k + 1 => by
    obtain ⟨ih0, ih1⟩ := debuggerlaw42_SteppingCompares.mono_l k
    refine ⟨?_, ?_⟩
    · intro y0 y1 y2 y3 y4 y5 y6 y7 y8
      unfold debuggerlaw42_SteppingCompares.l0
      repeat' first
      | (with_reducible exact ih0 _ _ _ _ _ _ _ _ _)
      | (with_reducible exact ih1 _ _ _ _ _ _ _ _ _ _ _ _ _ _ _ _ _ _)
      | (with_reducible exact debuggerlaw42_awake.mono _)
      | (with_reducible exact debuggerlaw42_contexts.mono _ _)
      | (with_reducible exact debuggerref42_Nested.mono _ _ _ _ _ _ _ _ _ _ _ _)
      | (with_reducible exact debuggerref42_Stops.mono _ _ _ _ _ _ _ _ _ _ _ _ _)
      | (with_reducible exact stepping_Nested.mono _ _ _ _ _ _ _ _ _ _ _ _)
      | (with_reducible exact stepping_Stops.mono _ _ _ _ _ _ _ _ _ _ _ _ _)
      | (with_reducible exact LeO.refl _)
      | (with_reducible exact LeO.none _)
      | (with_reducible refine LeO.ite ?_ ?_)
      | (with_reducible refine LeO.bind ?_ (fun _ => ?_))
      | exact ih0 _ _ _ _ _ _ _ _ _
      | exact ih1 _ _ _ _ _ _ _ _ _ _ _ _ _ _ _ _ _ _
      | exact debuggerlaw42_awake.mono _
      | exact debuggerlaw42_contexts.mono _ _
      | exact debuggerref42_Nested.mono _ _ _ _ _ _ _ _ _ _ _ _
      | exact debuggerref42_Stops.mono _ _ _ _ _ _ _ _ _ _ _ _ _
      | exact stepping_Nested.mono _ _ _ _ _ _ _ _ _ _ _ _
      | exact stepping_Stops.mono _ _ _ _ _ _ _ _ _ _ _ _ _
      | exact LeO.none _
      | refine LeO.ite ?_ ?_
      | refine LeO.bind ?_ (fun _ => ?_)
    · intro y0 y1 y2 y3 y4 y5 y6 y7 y8 y9 y10 y11 y12 y13 y14 y15 y16 y17
      unfold debuggerlaw42_SteppingCompares.l1
      repeat' first
      | (with_reducible exact ih0 _ _ _ _ _ _ _ _ _)
      | (with_reducible exact ih1 _ _ _ _ _ _ _ _ _ _ _ _ _ _ _ _ _ _)
      | (with_reducible exact debuggerlaw42_awake.mono _)
      | (with_reducible exact debuggerlaw42_contexts.mono _ _)
      | (with_reducible exact debuggerref42_Nested.mono _ _ _ _ _ _ _ _ _ _ _ _)
      | (with_reducible exact debuggerref42_Stops.mono _ _ _ _ _ _ _ _ _ _ _ _ _)
      | (with_reducible exact stepping_Nested.mono _ _ _ _ _ _ _ _ _ _ _ _)
      | (with_reducible exact stepping_Stops.mono _ _ _ _ _ _ _ _ _ _ _ _ _)
      | (with_reducible exact LeO.refl _)
      | (with_reducible exact LeO.none _)
      | (with_reducible refine LeO.ite ?_ ?_)
      | (with_reducible refine LeO.bind ?_ (fun _ => ?_))
      | exact ih0 _ _ _ _ _ _ _ _ _
      | exact ih1 _ _ _ _ _ _ _ _ _ _ _ _ _ _ _ _ _ _
      | exact debuggerlaw42_awake.mono _
      | exact debuggerlaw42_contexts.mono _ _
      | exact debuggerref42_Nested.mono _ _ _ _ _ _ _ _ _ _ _ _
      | exact debuggerref42_Stops.mono _ _ _ _ _ _ _ _ _ _ _ _ _
      | exact stepping_Nested.mono _ _ _ _ _ _ _ _ _ _ _ _
      | exact stepping_Stops.mono _ _ _ _ _ _ _ _ _ _ _ _ _
      | exact LeO.none _
      | refine LeO.ite ?_ ?_
      | refine LeO.bind ?_ (fun _ => ?_)
theorem debuggerlaw42_SteppingCompares.mono : ∀ a0 a1 a2 a3 a4 a5 a6 a7 k, LeO (debuggerlaw42_SteppingCompares.f k a0 a1 a2 a3 a4 a5 a6 a7) (debuggerlaw42_SteppingCompares.f (k + 1) a0 a1 a2 a3 a4 a5 a6 a7) := by
  intro a0 a1 a2 a3 a4 a5 a6 a7 k
  obtain ⟨ih0, ih1⟩ := debuggerlaw42_SteppingCompares.mono_l k
  unfold debuggerlaw42_SteppingCompares.f
  repeat' first
      | (with_reducible exact ih0 _ _ _ _ _ _ _ _ _)
      | (with_reducible exact ih1 _ _ _ _ _ _ _ _ _ _ _ _ _ _ _ _ _ _)
      | (with_reducible exact debuggerlaw42_awake.mono _)
      | (with_reducible exact debuggerlaw42_contexts.mono _ _)
      | (with_reducible exact debuggerref42_Nested.mono _ _ _ _ _ _ _ _ _ _ _ _)
      | (with_reducible exact debuggerref42_Stops.mono _ _ _ _ _ _ _ _ _ _ _ _ _)
      | (with_reducible exact stepping_Nested.mono _ _ _ _ _ _ _ _ _ _ _ _)
      | (with_reducible exact stepping_Stops.mono _ _ _ _ _ _ _ _ _ _ _ _ _)
      | (with_reducible exact LeO.refl _)
      | (with_reducible exact LeO.none _)
      | (with_reducible refine LeO.ite ?_ ?_)
      | (with_reducible refine LeO.bind ?_ (fun _ => ?_))
      | exact ih0 _ _ _ _ _ _ _ _ _
      | exact ih1 _ _ _ _ _ _ _ _ _ _ _ _ _ _ _ _ _ _
      | exact debuggerlaw42_awake.mono _
      | exact debuggerlaw42_contexts.mono _ _
      | exact debuggerref42_Nested.mono _ _ _ _ _ _ _ _ _ _ _ _
      | exact debuggerref42_Stops.mono _ _ _ _ _ _ _ _ _ _ _ _ _
      | exact stepping_Nested.mono _ _ _ _ _ _ _ _ _ _ _ _
      | exact stepping_Stops.mono _ _ _ _ _ _ _ _ _ _ _ _ _
      | exact LeO.none _
      | refine LeO.ite ?_ ?_
      | refine LeO.bind ?_ (fun _ => ?_)
def debuggerlaw42_SteppingCompares.T2 : Bool × List (List Nat × List Nat) := (true, [([], []), ([], []), ([0, 1], [0, 1]), ([], []), ([3], [3]), ([], []), ([5, 4], [5]), ([4, 6], [4, 6]), ([], []), ([8, 6], [8]), ([], []), ([10, 9], [10]), ([9, 11], [9, 11]), ([2, 7, 12], [2, 7, 12]), ([13], [13]), ([], [])])
def debuggerlaw42_SteppingCompares.B2 : List Nat := [0, 0, 3, 0, 8, 0, 56, 120, 0, 376, 0, 1912, 3960, 8191, 16383, 0]
theorem debuggerlaw42_SteppingCompares.tab2 : rtab .any (opsOf Try.f3 2) = debuggerlaw42_SteppingCompares.T2 := by kernel_rfl
theorem debuggerlaw42_SteppingCompares.bits2 : waitsOk debuggerlaw42_SteppingCompares.T2.2 debuggerlaw42_SteppingCompares.B2 = true := by kernel_rfl
def debuggerlaw42_SteppingCompares.T8 : Bool × List (List Nat × List Nat) := (true, [([], []), ([], []), ([1], [1]), ([], []), ([3], [3]), ([0, 2, 4], [0, 2, 4]), ([], []), ([], []), ([7], [7]), ([], []), ([9], [9]), ([6, 8, 10, 5], [6, 8, 10]), ([5, 11], [5, 11]), ([12, 11], [12]), ([13], [13]), ([13], [13]), ([13], [13]), ([16, 13], [13, 16]), ([13], [13]), ([18, 13], [13, 18]), ([14, 15, 17, 19, 13, 13], [13, 14, 15, 17, 19]), ([13], [13]), ([13], [13]), ([13], [13]), ([23, 13], [13, 23]), ([13], [13]), ([25, 13], [13, 25]), ([21, 22, 24, 26, 20, 13], [13, 21, 22, 24, 26]), ([20, 27, 13], [13, 20, 27]), ([13, 28], [13, 28])])
def debuggerlaw42_SteppingCompares.B8 : List Nat := [0, 0, 2, 0, 8, 31, 0, 0, 128, 0, 512, 2047, 4095, 8191, 16383, 16383, 16383, 81919, 16383, 278527, 1048575, 16383, 16383, 16383, 8404991, 16383, 33570815, 134217727, 268435455, 536870911]
theorem debuggerlaw42_SteppingCompares.tab8 : rtab .any (opsOf Try.f3 8) = debuggerlaw42_SteppingCompares.T8 := by kernel_rfl
theorem debuggerlaw42_SteppingCompares.bits8 : waitsOk debuggerlaw42_SteppingCompares.T8.2 debuggerlaw42_SteppingCompares.B8 = true := by kernel_rfl
set_option maxHeartbeats 8000000 in
set_option maxRecDepth 100000 in
theorem debuggerlaw42_SteppingCompares.calls (k : Nat) (A0 : Option Addr) (c0 : Nat) (l0 : List Int) (a1_0 : Int) (a1_1 : Int) (a1_2 : Int) (a2_0 : Int) (a2_1 : Int) (a2_2 : Int) (a3 : Int) (r : Bool) (w : World) (hr0 : Kd.C (Kd.int .i64) w A0 l0.length l0) (hc0 : l0.length ≤ c0) (h : debuggerlaw42_SteppingCompares.f k l0 a1_0 a1_1 a1_2 a2_0 a2_1 a2_2 a3 = some r) :
    Calls Try.prog 3 #[.slice A0 l0.length c0, .agg #[.int .i64 a1_0, .int .i64 a1_1, .int .i64 a1_2], .agg #[.int .i64 a2_0, .int .i64 a2_1, .int .i64 a2_2], .int .i64 a3] w fun e w' => e = .returned (.bool r) ∧ Below w.heap.size w w' := by
  have hu24 := Try.underlying24
  have hu29 := Try.underlying29
  have hu31 := Try.underlying31
  have HR0 := Aside0.mk hr0
  have HC0 := Aside0.mk hc0
  clear hr0 hc0
  have HB := Aside0.mk (Below.refl w.heap.size w)
  have H : ((debuggerlaw42_contexts.f k l0).bind fun bt159 => ((debuggerlaw42_near.f a1_0 a1_1 a1_2).bind fun bt171 => ((debuggerlaw42_near.f a2_0 a2_1 a2_2).bind fun bt174 => ((debuggerlaw42_near.f a2_0 a2_1 a2_2).bind fun bt177 => ((debuggerlaw42_near.f a1_0 a1_1 a1_2).bind fun bt180 => ((some (([(⟨(⟨a1_0, a1_1, a1_2⟩ : S24), (⟨a2_0, a2_1, a2_2⟩ : S24)⟩ : S31), (⟨(⟨bt171.1, bt171.2.1, bt171.2.2⟩ : S24), (⟨bt174.1, bt174.2.1, bt174.2.2⟩ : S24)⟩ : S31), (⟨(⟨bt177.1, bt177.2.1, bt177.2.2⟩ : S24), (⟨bt180.1, bt180.2.1, bt180.2.2⟩ : S24)⟩ : S31)] : List (S31)) : List (S31))).bind fun y183 => (debuggerlaw42_SteppingCompares.l0 k a3 y183 (y183.length : Int) 0 bt159.1 bt159.2.1 bt159.2.2.1 bt159.2.2.2.1 bt159.2.2.2.2))))))) = some r := h
  clear h
  replace H := Option.bind_eq_some_iff.mp H
  obtain ⟨⟨t159, t160, t161, t164, t167⟩, A50, H⟩ := H
  replace H : ((debuggerlaw42_near.f a1_0 a1_1 a1_2).bind fun bt171 => ((debuggerlaw42_near.f a2_0 a2_1 a2_2).bind fun bt174 => ((debuggerlaw42_near.f a2_0 a2_1 a2_2).bind fun bt177 => ((debuggerlaw42_near.f a1_0 a1_1 a1_2).bind fun bt180 => ((some (([(⟨(⟨a1_0, a1_1, a1_2⟩ : S24), (⟨a2_0, a2_1, a2_2⟩ : S24)⟩ : S31), (⟨(⟨bt171.1, bt171.2.1, bt171.2.2⟩ : S24), (⟨bt174.1, bt174.2.1, bt174.2.2⟩ : S24)⟩ : S31), (⟨(⟨bt177.1, bt177.2.1, bt177.2.2⟩ : S24), (⟨bt180.1, bt180.2.1, bt180.2.2⟩ : S24)⟩ : S31)] : List (S31)) : List (S31))).bind fun y183 => (debuggerlaw42_SteppingCompares.l0 k a3 y183 (y183.length : Int) 0 t159 t160 t161 t164 t167)))))) = some r := H
  have A5 := Aside0.mk A50
  clear A50
  replace H := Option.bind_eq_some_iff.mp H
  obtain ⟨⟨t171, t172, t173⟩, A60, H⟩ := H
  replace H : ((debuggerlaw42_near.f a2_0 a2_1 a2_2).bind fun bt174 => ((debuggerlaw42_near.f a2_0 a2_1 a2_2).bind fun bt177 => ((debuggerlaw42_near.f a1_0 a1_1 a1_2).bind fun bt180 => ((some (([(⟨(⟨a1_0, a1_1, a1_2⟩ : S24), (⟨a2_0, a2_1, a2_2⟩ : S24)⟩ : S31), (⟨(⟨t171, t172, t173⟩ : S24), (⟨bt174.1, bt174.2.1, bt174.2.2⟩ : S24)⟩ : S31), (⟨(⟨bt177.1, bt177.2.1, bt177.2.2⟩ : S24), (⟨bt180.1, bt180.2.1, bt180.2.2⟩ : S24)⟩ : S31)] : List (S31)) : List (S31))).bind fun y183 => (debuggerlaw42_SteppingCompares.l0 k a3 y183 (y183.length : Int) 0 t159 t160 t161 t164 t167))))) = some r := H
  have A6 := Aside0.mk A60
  clear A60
  replace H := Option.bind_eq_some_iff.mp H
  obtain ⟨⟨t174, t175, t176⟩, A70, H⟩ := H
  replace H : ((debuggerlaw42_near.f a2_0 a2_1 a2_2).bind fun bt177 => ((debuggerlaw42_near.f a1_0 a1_1 a1_2).bind fun bt180 => ((some (([(⟨(⟨a1_0, a1_1, a1_2⟩ : S24), (⟨a2_0, a2_1, a2_2⟩ : S24)⟩ : S31), (⟨(⟨t171, t172, t173⟩ : S24), (⟨t174, t175, t176⟩ : S24)⟩ : S31), (⟨(⟨bt177.1, bt177.2.1, bt177.2.2⟩ : S24), (⟨bt180.1, bt180.2.1, bt180.2.2⟩ : S24)⟩ : S31)] : List (S31)) : List (S31))).bind fun y183 => (debuggerlaw42_SteppingCompares.l0 k a3 y183 (y183.length : Int) 0 t159 t160 t161 t164 t167)))) = some r := H
  have A7 := Aside0.mk A70
  clear A70
  replace H := Option.bind_eq_some_iff.mp H
  obtain ⟨⟨t177, t178, t179⟩, A80, H⟩ := H
  replace H : ((debuggerlaw42_near.f a1_0 a1_1 a1_2).bind fun bt180 => ((some (([(⟨(⟨a1_0, a1_1, a1_2⟩ : S24), (⟨a2_0, a2_1, a2_2⟩ : S24)⟩ : S31), (⟨(⟨t171, t172, t173⟩ : S24), (⟨t174, t175, t176⟩ : S24)⟩ : S31), (⟨(⟨t177, t178, t179⟩ : S24), (⟨bt180.1, bt180.2.1, bt180.2.2⟩ : S24)⟩ : S31)] : List (S31)) : List (S31))).bind fun y183 => (debuggerlaw42_SteppingCompares.l0 k a3 y183 (y183.length : Int) 0 t159 t160 t161 t164 t167))) = some r := H
  have A8 := Aside0.mk A80
  clear A80
  replace H := Option.bind_eq_some_iff.mp H
  obtain ⟨⟨t180, t181, t182⟩, A90, H⟩ := H
  replace H : ((some (([(⟨(⟨a1_0, a1_1, a1_2⟩ : S24), (⟨a2_0, a2_1, a2_2⟩ : S24)⟩ : S31), (⟨(⟨t171, t172, t173⟩ : S24), (⟨t174, t175, t176⟩ : S24)⟩ : S31), (⟨(⟨t177, t178, t179⟩ : S24), (⟨t180, t181, t182⟩ : S24)⟩ : S31)] : List (S31)) : List (S31))).bind fun y183 => (debuggerlaw42_SteppingCompares.l0 k a3 y183 (y183.length : Int) 0 t159 t160 t161 t164 t167)) = some r := H
  have A9 := Aside0.mk A90
  clear A90
  obtain ⟨y183, hy183⟩ : ∃ y_ : List (S31), y_ = (([(⟨(⟨a1_0, a1_1, a1_2⟩ : S24), (⟨a2_0, a2_1, a2_2⟩ : S24)⟩ : S31), (⟨(⟨t171, t172, t173⟩ : S24), (⟨t174, t175, t176⟩ : S24)⟩ : S31), (⟨(⟨t177, t178, t179⟩ : S24), (⟨t180, t181, t182⟩ : S24)⟩ : S31)] : List (S31))) := ⟨_, rfl⟩
  replace H : (debuggerlaw42_SteppingCompares.l0 k a3 y183 (y183.length : Int) 0 t159 t160 t161 t164 t167) = some r := by first | (rw [hy183]; with_reducible exact H) | (have H2_ := (Option.bind_some _ _).symm.trans H; rw [hy183]; with_reducible exact H2_) | (have H2_ := (Option.bind_some _ _).symm.trans H; with_reducible exact H2_) | with_reducible exact H | (rw [hy183]; exact H) | exact H
  have Ny183 := Aside0.mk hy183
  clear hy183
  have H' := Aside0.mk H
  clear H
  go_enter Try.func3, Try.ntmps3
  try go_wp2_with (first | ((with_reducible refine gate_dst (N := 5) rfl ?_); refine box_event ?hg (N := 5) ?hd (cs := #[.int .i64 a1_0, .int .i64 a1_1, .int .i64 a1_2]) (t := 24) ?hr ?_; (case hd => rfl); (case hg => rfl); (case hr => first | (go_simp; done) | (go_simp; rfl)); intro gb157 hg w10 hbox hb; have n0_ := Aside0.mk (below_step (by repeat (first | (with_reducible first | exact HB.out | apply below_alloc | apply pw_below_drewN | apply below_drew1) | exact HB.out)) hb); have n1_ := Aside0.mk (hbox); have n2_ := Aside0.mk ((by rw [hg]; exact (below_size (by repeat (first | (with_reducible first | exact HB.out | apply below_alloc | apply pw_below_drewN | apply below_drew1) | exact HB.out))) : w.heap.size ≤ gb157)); have n3_ := Aside0.mk ((by rw [hg]; exact (below_size (by repeat (first | (with_reducible first | exact HB.out | apply below_alloc | apply pw_below_drewN | apply below_drew1) | exact HB.out))) : w.heap.size ≤ gb157)); clear HB; have HB := n0_; have BK157 := n1_; have GW157 := n2_; have GE157 := n3_; clear n0_ n1_ n2_ n3_; clear hb hbox hg) | ((with_reducible refine gate_dst (N := 6) rfl ?_); refine box_event ?hg (N := 6) ?hd (cs := #[.int .i64 a2_0, .int .i64 a2_1, .int .i64 a2_2]) (t := 24) ?hr ?_; (case hd => rfl); (case hg => rfl); (case hr => first | (go_simp; done) | (go_simp; rfl)); intro gb158 hg w11 hbox hb; have n0_ := Aside0.mk (blk_below (g := gb157) (o := .cells #[.int .i64 a1_0, .int .i64 a1_1, .int .i64 a1_2] 24 (0, 0)) (by (with_reducible repeat (first | refine blk_drewN ?_ _ | refine blk_drew ?_ | refine blk_alloc ?_ _)); exact BK157.out) hb); have n1_ := Aside0.mk (below_step (by repeat (first | (with_reducible first | exact HB.out | apply below_alloc | apply pw_below_drewN | apply below_drew1 | refine below_set ?_ GE157.out) | exact HB.out)) hb); have n2_ := Aside0.mk (hbox); have n3_ := Aside0.mk ((by rw [hg]; exact (below_size (by repeat (first | (with_reducible first | exact HB.out | apply below_alloc | apply pw_below_drewN | apply below_drew1 | refine below_set ?_ GE157.out) | exact HB.out))) : w.heap.size ≤ gb158)); have n4_ := Aside0.mk ((by rw [hg]; exact (below_size (by repeat (first | (with_reducible first | exact HB.out | apply below_alloc | apply pw_below_drewN | apply below_drew1 | refine below_set ?_ GE157.out) | exact HB.out))) : w.heap.size ≤ gb158)); have n5_ := Aside0.mk ((by rw [hg]; exact Nat.ne_of_lt (blk_lt (g := gb157) (o := .cells #[.int .i64 a1_0, .int .i64 a1_1, .int .i64 a1_2] 24 (0, 0)) (by (with_reducible repeat (first | refine blk_drewN ?_ _ | refine blk_drew ?_ | refine blk_alloc ?_ _)); exact BK157.out)) : gb157 ≠ gb158)); have n6_ := Aside0.mk ((by rw [hg]; exact Nat.ne_of_gt (blk_lt (g := gb157) (o := .cells #[.int .i64 a1_0, .int .i64 a1_1, .int .i64 a1_2] 24 (0, 0)) (by (with_reducible repeat (first | refine blk_drewN ?_ _ | refine blk_drew ?_ | refine blk_alloc ?_ _)); exact BK157.out)) : gb158 ≠ gb157)); clear BK157; clear HB; have BK157 := n0_; have HB := n1_; have BK158 := n2_; have GW158 := n3_; have GE158 := n4_; have NB157_158 := n5_; have NB158_157 := n6_; clear n0_ n1_ n2_ n3_ n4_ n5_ n6_; clear hb hbox hg) | ((with_reducible refine gate_callee (f := 6) rfl ?_); refine goesL_ (some 15) rfl rfl Try.func6 (by kernel_rfl) rfl #[.slice A0 l0.length c0] rfl (by (try simp only [List.map_toArray, List.map_cons, List.map_nil]); first | done | rfl | (simp only [List.length_drop, List.length_take]; rfl)) ?_; (with_reducible refine (debuggerlaw42_contexts.calls k _ _ l0 t159 t160 t161 t164 t167 _ ?side1 ?side2 A5.out).mono ?_); (case side1 => repeat (first | exact (Kd.C_below HR0.out HB.out) | (with_reducible refine Kd.C_alloc ?_ _) | (with_reducible refine Kd.C_drewN ?_ _) | (with_reducible refine Kd.C_drew ?_))); (case side2 => exact HC0.out); rintro e w12 ⟨v162, v165, v168, rfl, ho0, ho1, ho2, hb⟩; refine ⟨_, rfl, ?_⟩; have n0_ := Aside0.mk (Kd.N_lower (Kd.N_mono (ok' := fun k_ => some k_ ≠ (v165 : Value).ownBlock ∧ some k_ ≠ (v168 : Value).ownBlock ∧ k_ ≠ gb157 ∧ k_ ≠ gb158) ho0 (fun k_ hk_ => ⟨hk_.2.1, hk_.2.2, (Kd.freshB (g := gb157) (o := .cells #[.int .i64 a1_0, .int .i64 a1_1, .int .i64 a1_2] 24 (0, 0)) (by (with_reducible repeat (first | refine blk_drewN ?_ _ | refine blk_drew ?_ | refine blk_alloc ?_ _)); exact BK157.out) k_ hk_.1), (Kd.freshB (g := gb158) (o := .cells #[.int .i64 a2_0, .int .i64 a2_1, .int .i64 a2_2] 24 (0, 0)) (by (with_reducible repeat (first | refine blk_drewN ?_ _ | refine blk_drew ?_ | refine blk_alloc ?_ _)); exact BK158.out) k_ hk_.1)⟩)) (below_size (by repeat (first | (with_reducible first | exact HB.out | apply below_alloc | apply pw_below_drewN | apply below_drew1 | refine below_set ?_ GE157.out | refine below_set ?_ GE158.out) | exact HB.out)))); have n1_ := Aside0.mk (Kd.R_lower (Kd.R_mono (ok' := fun k_ => True) ho1 (fun _ hk_ => trivial)) (below_size (by repeat (first | (with_reducible first | exact HB.out | apply below_alloc | apply pw_below_drewN | apply below_drew1 | refine below_set ?_ GE157.out | refine below_set ?_ GE158.out) | exact HB.out)))); have n2_ := Aside0.mk (Kd.N_lower (Kd.N_mono (ok' := fun k_ => some k_ ≠ (v162 : Value).ownBlock ∧ some k_ ≠ (v165 : Value).ownBlock ∧ k_ ≠ gb157 ∧ k_ ≠ gb158) ho2 (fun k_ hk_ => ⟨hk_.2.1, hk_.2.2, (Kd.freshB (g := gb157) (o := .cells #[.int .i64 a1_0, .int .i64 a1_1, .int .i64 a1_2] 24 (0, 0)) (by (with_reducible repeat (first | refine blk_drewN ?_ _ | refine blk_drew ?_ | refine blk_alloc ?_ _)); exact BK157.out) k_ hk_.1), (Kd.freshB (g := gb158) (o := .cells #[.int .i64 a2_0, .int .i64 a2_1, .int .i64 a2_2] 24 (0, 0)) (by (with_reducible repeat (first | refine blk_drewN ?_ _ | refine blk_drew ?_ | refine blk_alloc ?_ _)); exact BK158.out) k_ hk_.1)⟩)) (below_size (by repeat (first | (with_reducible first | exact HB.out | apply below_alloc | apply pw_below_drewN | apply below_drew1 | refine below_set ?_ GE157.out | refine below_set ?_ GE158.out) | exact HB.out)))); have n3_ := Aside0.mk (blk_below (g := gb157) (o := .cells #[.int .i64 a1_0, .int .i64 a1_1, .int .i64 a1_2] 24 (0, 0)) (by (with_reducible repeat (first | refine blk_drewN ?_ _ | refine blk_drew ?_ | refine blk_alloc ?_ _)); exact BK157.out) hb); have n4_ := Aside0.mk (blk_below (g := gb158) (o := .cells #[.int .i64 a2_0, .int .i64 a2_1, .int .i64 a2_2] 24 (0, 0)) (by (with_reducible repeat (first | refine blk_drewN ?_ _ | refine blk_drew ?_ | refine blk_alloc ?_ _)); exact BK158.out) hb); have n5_ := Aside0.mk (below_step (by repeat (first | (with_reducible first | exact HB.out | apply below_alloc | apply pw_below_drewN | apply below_drew1 | refine below_set ?_ GE157.out | refine below_set ?_ GE158.out) | exact HB.out)) hb); clear BK157; clear BK158; clear HB; have HO163 := n0_; have HO166 := n1_; have HO169 := n2_; have BK157 := n3_; have BK158 := n4_; have HB := n5_; clear n0_ n1_ n2_ n3_ n4_ n5_; (try clear hb); (try clear hb2); (try clear hk); (try clear hi); (try clear ho0); (try clear ho1); (try clear ho2)) | ((with_reducible refine gate_dst (N := 9) rfl ?_); refine box_event ?hg (N := 9) ?hd (cs := #[.int .i64 0, .int .i64 0, .slice none 0 0, .slice none 0 0, .slice none 0 0]) (t := 29) ?hr ?_; (case hd => rfl); (case hg => rfl); (case hr => first | (go_simp; done) | (go_simp; rfl)); intro gb170 hg w13 hbox hb; have n0_ := Aside0.mk (Kd.N_below (Kd.N_elderB (by (with_reducible repeat (first | apply Kd.N_alloc | apply Kd.N_drewN | apply Kd.N_drew)); exact HO163.out) gb170 (Nat.le_of_eq hg.symm)) hb); have n1_ := Aside0.mk (Kd.R_below (by (with_reducible repeat (first | apply Kd.R_alloc | apply Kd.R_drewN | apply Kd.R_drew)); exact HO166.out) hb); have n2_ := Aside0.mk (Kd.N_below (Kd.N_elderB (by (with_reducible repeat (first | apply Kd.N_alloc | apply Kd.N_drewN | apply Kd.N_drew)); exact HO169.out) gb170 (Nat.le_of_eq hg.symm)) hb); have n3_ := Aside0.mk (blk_below (g := gb157) (o := .cells #[.int .i64 a1_0, .int .i64 a1_1, .int .i64 a1_2] 24 (0, 0)) (by (with_reducible repeat (first | refine blk_drewN ?_ _ | refine blk_drew ?_ | refine blk_alloc ?_ _)); exact BK157.out) hb); have n4_ := Aside0.mk (blk_below (g := gb158) (o := .cells #[.int .i64 a2_0, .int .i64 a2_1, .int .i64 a2_2] 24 (0, 0)) (by (with_reducible repeat (first | refine blk_drewN ?_ _ | refine blk_drew ?_ | refine blk_alloc ?_ _)); exact BK158.out) hb); have n5_ := Aside0.mk (below_step (by repeat (first | (with_reducible first | exact HB.out | apply below_alloc | apply pw_below_drewN | apply below_drew1 | refine below_set ?_ GE157.out | refine below_set ?_ GE158.out) | exact HB.out)) hb); have n6_ := Aside0.mk (hbox); have n7_ := Aside0.mk ((by rw [hg]; exact (below_size (by repeat (first | (with_reducible first | exact HB.out | apply below_alloc | apply pw_below_drewN | apply below_drew1 | refine below_set ?_ GE157.out | refine below_set ?_ GE158.out) | exact HB.out))) : w.heap.size ≤ gb170)); have n8_ := Aside0.mk ((by rw [hg]; exact (below_size (by repeat (first | (with_reducible first | exact HB.out | apply below_alloc | apply pw_below_drewN | apply below_drew1 | refine below_set ?_ GE157.out | refine below_set ?_ GE158.out) | exact HB.out))) : w.heap.size ≤ gb170)); have n9_ := Aside0.mk ((by rw [hg]; exact Nat.ne_of_lt (blk_lt (g := gb157) (o := .cells #[.int .i64 a1_0, .int .i64 a1_1, .int .i64 a1_2] 24 (0, 0)) (by (with_reducible repeat (first | refine blk_drewN ?_ _ | refine blk_drew ?_ | refine blk_alloc ?_ _)); exact BK157.out)) : gb157 ≠ gb170)); have n10_ := Aside0.mk ((by rw [hg]; exact Nat.ne_of_gt (blk_lt (g := gb157) (o := .cells #[.int .i64 a1_0, .int .i64 a1_1, .int .i64 a1_2] 24 (0, 0)) (by (with_reducible repeat (first | refine blk_drewN ?_ _ | refine blk_drew ?_ | refine blk_alloc ?_ _)); exact BK157.out)) : gb170 ≠ gb157)); have n11_ := Aside0.mk ((by rw [hg]; exact Nat.ne_of_lt (blk_lt (g := gb158) (o := .cells #[.int .i64 a2_0, .int .i64 a2_1, .int .i64 a2_2] 24 (0, 0)) (by (with_reducible repeat (first | refine blk_drewN ?_ _ | refine blk_drew ?_ | refine blk_alloc ?_ _)); exact BK158.out)) : gb158 ≠ gb170)); have n12_ := Aside0.mk ((by rw [hg]; exact Nat.ne_of_gt (blk_lt (g := gb158) (o := .cells #[.int .i64 a2_0, .int .i64 a2_1, .int .i64 a2_2] 24 (0, 0)) (by (with_reducible repeat (first | refine blk_drewN ?_ _ | refine blk_drew ?_ | refine blk_alloc ?_ _)); exact BK158.out)) : gb170 ≠ gb158)); clear HO163; clear HO166; clear HO169; clear BK157; clear BK158; clear HB; have HO163 := n0_; have HO166 := n1_; have HO169 := n2_; have BK157 := n3_; have BK158 := n4_; have HB := n5_; have BK170 := n6_; have GW170 := n7_; have GE170 := n8_; have NB157_170 := n9_; have NB170_157 := n10_; have NB158_170 := n11_; have NB170_158 := n12_; clear n0_ n1_ n2_ n3_ n4_ n5_ n6_ n7_ n8_ n9_ n10_ n11_ n12_; clear hb hbox hg; have hnb14 := NB170_157.out; have hnc14 := NB157_170.out; have hnb15 := NB170_158.out; have hnc15 := NB158_170.out; have hcz16_0 : w13.cell? ⟨gb170, 0, none⟩ = some (.int .i64 0) := (blk_cell BK170.out 0).trans rfl; have hcz16_1 : w13.cell? ⟨gb170, 1, none⟩ = some (.int .i64 0) := (blk_cell BK170.out 1).trans rfl; have hcz16_2 : w13.cell? ⟨gb170, 2, none⟩ = some (.slice none 0 0) := (blk_cell BK170.out 2).trans rfl; have hcz16_3 : w13.cell? ⟨gb170, 3, none⟩ = some (.slice none 0 0) := (blk_cell BK170.out 3).trans rfl; have hcz16_4 : w13.cell? ⟨gb170, 4, none⟩ = some (.slice none 0 0) := (blk_cell BK170.out 4).trans rfl; have hfz16_0 := blk_frozen BK170.out 0; have hfz16_1 := blk_frozen BK170.out 1; have hfz16_2 := blk_frozen BK170.out 2; have hfz16_3 := blk_frozen BK170.out 3; have hfz16_4 := blk_frozen BK170.out 4; obtain ⟨Ao17, co17, eo17⟩ := Kd.N_slice HO163.out; subst eo17; obtain ⟨Ao18, co18, eo18⟩ := Kd.R_slice HO166.out; subst eo18; obtain ⟨Ao19, co19, eo19⟩ := Kd.N_slice HO169.out; subst eo19))
  have n0_ : Aside0 (Kd.N k71 71 (((((w13.setCell ⟨gb170, 0, none⟩ (.int .i64 t159)).setCell ⟨gb170, 1, none⟩ (.int .i64 t160)).setCell ⟨gb170, 2, none⟩ (.slice Ao17 t161.length co17)).setCell ⟨gb170, 3, none⟩ (.slice Ao18 t164.length co18)).setCell ⟨gb170, 4, none⟩ (.slice Ao19 t167.length co19)) w.heap.size (fun k_ => some k_ ≠ (.slice Ao18 t164.length co18 : Value).ownBlock ∧ some k_ ≠ (.slice Ao19 t167.length co19 : Value).ownBlock ∧ k_ ≠ gb157 ∧ k_ ≠ gb158 ∧ k_ ≠ gb170) (.slice Ao17 t161.length co17) t161) := ⟨by (with_reducible repeat (first | apply Kd.N_alloc | apply Kd.N_drewN | apply Kd.N_drew)); exact Kd.N_mono (Kd.N_far (p := ⟨gb170, 4, none⟩) (Kd.N_far (p := ⟨gb170, 3, none⟩) (Kd.N_far (p := ⟨gb170, 2, none⟩) (Kd.N_far (p := ⟨gb170, 1, none⟩) (Kd.N_far (p := ⟨gb170, 0, none⟩) (Kd.N_mono HO163.out (fun k_ hk => (⟨hk, hk.2⟩ : _ ∧ k_ ≠ gb170))) (fun _ hk => hk.2) (.int .i64 t159)) (fun _ hk => hk.2) (.int .i64 t160)) (fun _ hk => hk.2) (.slice Ao17 t161.length co17)) (fun _ hk => hk.2) (.slice Ao18 t164.length co18)) (fun _ hk => hk.2) (.slice Ao19 t167.length co19)) (fun _ hk => ⟨hk.1.1.1, ⟨hk.1.1.2.1, ⟨hk.1.1.2.2.1, ⟨hk.1.1.2.2.2, hk.1.2⟩⟩⟩⟩)⟩
  have n1_ : Aside0 (Kd.R k73 73 (((((w13.setCell ⟨gb170, 0, none⟩ (.int .i64 t159)).setCell ⟨gb170, 1, none⟩ (.int .i64 t160)).setCell ⟨gb170, 2, none⟩ (.slice Ao17 t161.length co17)).setCell ⟨gb170, 3, none⟩ (.slice Ao18 t164.length co18)).setCell ⟨gb170, 4, none⟩ (.slice Ao19 t167.length co19)) w.heap.size (fun _ => True) (.slice Ao18 t164.length co18) t164) := ⟨by (with_reducible repeat (first | apply Kd.R_alloc | apply Kd.R_drewN | apply Kd.R_drew)); exact Kd.R_mono (Kd.R_far (p := ⟨gb170, 4, none⟩) (Kd.R_far (p := ⟨gb170, 3, none⟩) (Kd.R_far (p := ⟨gb170, 2, none⟩) (Kd.R_far (p := ⟨gb170, 1, none⟩) (Kd.R_far (p := ⟨gb170, 0, none⟩) (Kd.R_types HO166.out BK170.out (by decide)) (fun _ hk => hk.2) (.int .i64 t159)) (fun _ hk => hk.2) (.int .i64 t160)) (fun _ hk => hk.2) (.slice Ao17 t161.length co17)) (fun _ hk => hk.2) (.slice Ao18 t164.length co18)) (fun _ hk => hk.2) (.slice Ao19 t167.length co19)) (fun _ hk => trivial)⟩
  have n2_ : Aside0 (Kd.N k51 51 (((((w13.setCell ⟨gb170, 0, none⟩ (.int .i64 t159)).setCell ⟨gb170, 1, none⟩ (.int .i64 t160)).setCell ⟨gb170, 2, none⟩ (.slice Ao17 t161.length co17)).setCell ⟨gb170, 3, none⟩ (.slice Ao18 t164.length co18)).setCell ⟨gb170, 4, none⟩ (.slice Ao19 t167.length co19)) w.heap.size (fun k_ => some k_ ≠ (.slice Ao17 t161.length co17 : Value).ownBlock ∧ some k_ ≠ (.slice Ao18 t164.length co18 : Value).ownBlock ∧ k_ ≠ gb157 ∧ k_ ≠ gb158 ∧ k_ ≠ gb170) (.slice Ao19 t167.length co19) t167) := ⟨by (with_reducible repeat (first | apply Kd.N_alloc | apply Kd.N_drewN | apply Kd.N_drew)); exact Kd.N_mono (Kd.N_far (p := ⟨gb170, 4, none⟩) (Kd.N_far (p := ⟨gb170, 3, none⟩) (Kd.N_far (p := ⟨gb170, 2, none⟩) (Kd.N_far (p := ⟨gb170, 1, none⟩) (Kd.N_far (p := ⟨gb170, 0, none⟩) (Kd.N_mono HO169.out (fun k_ hk => (⟨hk, hk.2⟩ : _ ∧ k_ ≠ gb170))) (fun _ hk => hk.2) (.int .i64 t159)) (fun _ hk => hk.2) (.int .i64 t160)) (fun _ hk => hk.2) (.slice Ao17 t161.length co17)) (fun _ hk => hk.2) (.slice Ao18 t164.length co18)) (fun _ hk => hk.2) (.slice Ao19 t167.length co19)) (fun _ hk => ⟨hk.1.1.1, ⟨hk.1.1.2.1, ⟨hk.1.1.2.2.1, ⟨hk.1.1.2.2.2, hk.1.2⟩⟩⟩⟩)⟩
  have n3_ : Aside0 ((((((w13.setCell ⟨gb170, 0, none⟩ (.int .i64 t159)).setCell ⟨gb170, 1, none⟩ (.int .i64 t160)).setCell ⟨gb170, 2, none⟩ (.slice Ao17 t161.length co17)).setCell ⟨gb170, 3, none⟩ (.slice Ao18 t164.length co18)).setCell ⟨gb170, 4, none⟩ (.slice Ao19 t167.length co19)).heap[gb157]? = some (.cells #[.int .i64 a1_0, .int .i64 a1_1, .int .i64 a1_2] 24 (0, 0))) := ⟨by (with_reducible repeat (first | refine blk_drewN ?_ _ | refine blk_drew ?_ | refine blk_alloc ?_ _)); refine blk_far ?_ NB157_170.out _; (with_reducible repeat (first | refine blk_drewN ?_ _ | refine blk_drew ?_ | refine blk_alloc ?_ _)); refine blk_far ?_ NB157_170.out _; (with_reducible repeat (first | refine blk_drewN ?_ _ | refine blk_drew ?_ | refine blk_alloc ?_ _)); refine blk_far ?_ NB157_170.out _; (with_reducible repeat (first | refine blk_drewN ?_ _ | refine blk_drew ?_ | refine blk_alloc ?_ _)); refine blk_far ?_ NB157_170.out _; (with_reducible repeat (first | refine blk_drewN ?_ _ | refine blk_drew ?_ | refine blk_alloc ?_ _)); refine blk_far ?_ NB157_170.out _; (with_reducible repeat (first | refine blk_drewN ?_ _ | refine blk_drew ?_ | refine blk_alloc ?_ _)); exact BK157.out⟩
  have n4_ : Aside0 ((((((w13.setCell ⟨gb170, 0, none⟩ (.int .i64 t159)).setCell ⟨gb170, 1, none⟩ (.int .i64 t160)).setCell ⟨gb170, 2, none⟩ (.slice Ao17 t161.length co17)).setCell ⟨gb170, 3, none⟩ (.slice Ao18 t164.length co18)).setCell ⟨gb170, 4, none⟩ (.slice Ao19 t167.length co19)).heap[gb158]? = some (.cells #[.int .i64 a2_0, .int .i64 a2_1, .int .i64 a2_2] 24 (0, 0))) := ⟨by (with_reducible repeat (first | refine blk_drewN ?_ _ | refine blk_drew ?_ | refine blk_alloc ?_ _)); refine blk_far ?_ NB158_170.out _; (with_reducible repeat (first | refine blk_drewN ?_ _ | refine blk_drew ?_ | refine blk_alloc ?_ _)); refine blk_far ?_ NB158_170.out _; (with_reducible repeat (first | refine blk_drewN ?_ _ | refine blk_drew ?_ | refine blk_alloc ?_ _)); refine blk_far ?_ NB158_170.out _; (with_reducible repeat (first | refine blk_drewN ?_ _ | refine blk_drew ?_ | refine blk_alloc ?_ _)); refine blk_far ?_ NB158_170.out _; (with_reducible repeat (first | refine blk_drewN ?_ _ | refine blk_drew ?_ | refine blk_alloc ?_ _)); refine blk_far ?_ NB158_170.out _; (with_reducible repeat (first | refine blk_drewN ?_ _ | refine blk_drew ?_ | refine blk_alloc ?_ _)); exact BK158.out⟩
  have n5_ : Aside0 ((((((w13.setCell ⟨gb170, 0, none⟩ (.int .i64 t159)).setCell ⟨gb170, 1, none⟩ (.int .i64 t160)).setCell ⟨gb170, 2, none⟩ (.slice Ao17 t161.length co17)).setCell ⟨gb170, 3, none⟩ (.slice Ao18 t164.length co18)).setCell ⟨gb170, 4, none⟩ (.slice Ao19 t167.length co19)).heap[gb170]? = some (.cells #[.int .i64 t159, .int .i64 t160, .slice Ao17 t161.length co17, .slice Ao18 t164.length co18, .slice Ao19 t167.length co19] 29 (0, 0))) := ⟨by (with_reducible repeat (first | refine blk_drewN ?_ _ | refine blk_drew ?_ | refine blk_alloc ?_ _)); refine blk_put (cs := #[.int .i64 t159, .int .i64 t160, .slice Ao17 t161.length co17, .slice Ao18 t164.length co18, .slice none 0 0]) ?_ 4 _ rfl; (with_reducible repeat (first | refine blk_drewN ?_ _ | refine blk_drew ?_ | refine blk_alloc ?_ _)); refine blk_put (cs := #[.int .i64 t159, .int .i64 t160, .slice Ao17 t161.length co17, .slice none 0 0, .slice none 0 0]) ?_ 3 _ rfl; (with_reducible repeat (first | refine blk_drewN ?_ _ | refine blk_drew ?_ | refine blk_alloc ?_ _)); refine blk_put (cs := #[.int .i64 t159, .int .i64 t160, .slice none 0 0, .slice none 0 0, .slice none 0 0]) ?_ 2 _ rfl; (with_reducible repeat (first | refine blk_drewN ?_ _ | refine blk_drew ?_ | refine blk_alloc ?_ _)); refine blk_put (cs := #[.int .i64 t159, .int .i64 0, .slice none 0 0, .slice none 0 0, .slice none 0 0]) ?_ 1 _ rfl; (with_reducible repeat (first | refine blk_drewN ?_ _ | refine blk_drew ?_ | refine blk_alloc ?_ _)); refine blk_put (cs := #[.int .i64 0, .int .i64 0, .slice none 0 0, .slice none 0 0, .slice none 0 0]) ?_ 0 _ rfl; (with_reducible repeat (first | refine blk_drewN ?_ _ | refine blk_drew ?_ | refine blk_alloc ?_ _)); exact BK170.out⟩
  have n6_ : Aside0 (Below w.heap.size w (((((w13.setCell ⟨gb170, 0, none⟩ (.int .i64 t159)).setCell ⟨gb170, 1, none⟩ (.int .i64 t160)).setCell ⟨gb170, 2, none⟩ (.slice Ao17 t161.length co17)).setCell ⟨gb170, 3, none⟩ (.slice Ao18 t164.length co18)).setCell ⟨gb170, 4, none⟩ (.slice Ao19 t167.length co19))) := ⟨by repeat (first | (with_reducible first | exact HB.out | apply below_alloc | apply pw_below_drewN | apply below_drew1 | refine below_set ?_ GE157.out | refine below_set ?_ GE158.out | refine below_set ?_ GE170.out) | exact HB.out)⟩
  (try clear HO163)
  (try clear HO166)
  (try clear HO169)
  (try clear BK157)
  (try clear BK158)
  (try clear BK170)
  (try clear HB)
  generalize (((((w13.setCell ⟨gb170, 0, none⟩ (.int .i64 t159)).setCell ⟨gb170, 1, none⟩ (.int .i64 t160)).setCell ⟨gb170, 2, none⟩ (.slice Ao17 t161.length co17)).setCell ⟨gb170, 3, none⟩ (.slice Ao18 t164.length co18)).setCell ⟨gb170, 4, none⟩ (.slice Ao19 t167.length co19)) = w20 at n0_ n1_ n2_ n3_ n4_ n5_ n6_ ⊢
  have HO163 := n0_
  have HO166 := n1_
  have HO169 := n2_
  have BK157 := n3_
  have BK158 := n4_
  have BK170 := n5_
  have HB := n6_
  clear n0_ n1_ n2_ n3_ n4_ n5_ n6_
  have n0_ := Aside0.mk (Kd.N_drew HO163.out)
  have n1_ := Aside0.mk (Kd.R_drew HO166.out)
  have n2_ := Aside0.mk (Kd.N_drew HO169.out)
  have n3_ := Aside0.mk (blk_drew BK157.out)
  have n4_ := Aside0.mk (blk_drew BK158.out)
  have n5_ := Aside0.mk (blk_drew BK170.out)
  have n6_ := Aside0.mk (below_drew1 HB.out)
  clear HO163
  clear HO166
  clear HO169
  clear BK157
  clear BK158
  clear BK170
  clear HB
  have HO163 := n0_
  have HO166 := n1_
  have HO169 := n2_
  have BK157 := n3_
  have BK158 := n4_
  have BK170 := n5_
  have HB := n6_
  clear n0_ n1_ n2_ n3_ n4_ n5_ n6_
  refine start_ (n := 16) (S := fun w' => w'.cell? ⟨gb157, 0, none⟩ = some (.int .i64 a1_0) ∧ w'.cell? ⟨gb157, 1, none⟩ = some (.int .i64 a1_1) ∧ w'.cell? ⟨gb157, 2, none⟩ = some (.int .i64 a1_2) ∧ w'.cell? ⟨gb158, 0, none⟩ = some (.int .i64 a2_0) ∧ w'.cell? ⟨gb158, 1, none⟩ = some (.int .i64 a2_1) ∧ w'.cell? ⟨gb158, 2, none⟩ = some (.int .i64 a2_2)) (ds := []) #[false, false, false, false, false, false, false, false, false, false, false, false, false, false, false, false] (by kernel_rfl) rfl rfl ⟨(blk_cell BK157.out 0).trans rfl, (blk_cell BK157.out 1).trans rfl, (blk_cell BK157.out 2).trans rfl, (blk_cell BK158.out 0).trans rfl, (blk_cell BK158.out 1).trans rfl, (blk_cell BK158.out 2).trans rfl⟩ (fun hHeld => ?_); refine with_tabW debuggerlaw42_SteppingCompares.tab2 debuggerlaw42_SteppingCompares.bits2 (fun HT_ HW_ => ?_)
  generalize w20.drew = w21 at HO163 HO166 HO169 BK157 BK158 BK170 HB hHeld ⊢
  refine pure_ (i := 15) (N := some 31) (v := ?_) (a' := ?_) #[false, false, false, false, false, false, false, false, false, false, false, false, false, false, false, true] rfl rfl (any_of HT_.out (by kernel_rfl)) (fun _ _ _ h => h) (Or.inl ⟨by rfl, ?_⟩) ?_ ?_
  rotate_left
  · intro w'
    go_simp
    with_reducible rfl
  rotate_left
  · simp only [Act.put, List.setIfInBounds_toArray, List.set_cons_zero, List.set_cons_succ, i64_w, i32_w]
    rfl
  refine take_ (i := 0) (N := some 16) (v := ?_) (a' := ?_) #[true, false, false, false, false, false, false, false, false, false, false, false, false, false, false, true] rfl rfl (take_ofW HT_.out HW_.out (by kernel_rfl)) (fun _ _ _ h => h) (Or.inl ⟨by rfl, ?_⟩) hHeld ?_ ?_
  rotate_left
  · rintro w' ⟨s0, s1, s2, s3, s4, s5⟩
    go_simp
    with_reducible rfl
  rotate_left
  · simp only [Act.put, List.setIfInBounds_toArray, List.set_cons_zero, List.set_cons_succ, i64_w, i32_w]
    rfl
  refine take_ (i := 1) (N := some 17) (v := ?_) (a' := ?_) #[true, true, false, false, false, false, false, false, false, false, false, false, false, false, false, true] rfl rfl (take_ofW HT_.out HW_.out (by kernel_rfl)) (fun _ _ _ h => h) (Or.inl ⟨by rfl, ?_⟩) hHeld ?_ ?_
  rotate_left
  · rintro w' ⟨s0, s1, s2, s3, s4, s5⟩
    go_simp
    with_reducible rfl
  rotate_left
  · simp only [Act.put, List.setIfInBounds_toArray, List.set_cons_zero, List.set_cons_succ, i64_w, i32_w]
    rfl
  refine pure_ (i := 2) (N := some 18) (v := ?_) (a' := ?_) #[true, true, true, false, false, false, false, false, false, false, false, false, false, false, false, true] rfl rfl (any_of HT_.out (by kernel_rfl)) (fun _ _ _ h => h) (Or.inl ⟨by rfl, ?_⟩) ?_ ?_
  rotate_left
  · intro w'
    go_simp
    with_reducible rfl
  rotate_left
  · simp only [Act.put, List.setIfInBounds_toArray, List.set_cons_zero, List.set_cons_succ, i64_w, i32_w]
    rfl
  refine take_ (i := 3) (N := some 19) (v := ?_) (a' := ?_) #[true, true, true, true, false, false, false, false, false, false, false, false, false, false, false, true] rfl rfl (take_ofW HT_.out HW_.out (by kernel_rfl)) (fun _ _ _ h => h) (Or.inl ⟨by rfl, ?_⟩) hHeld ?_ ?_
  rotate_left
  · rintro w' ⟨s0, s1, s2, s3, s4, s5⟩
    go_simp
    with_reducible rfl
  rotate_left
  · simp only [Act.put, List.setIfInBounds_toArray, List.set_cons_zero, List.set_cons_succ, i64_w, i32_w]
    rfl
  refine take_ (i := 5) (N := some 21) (v := ?_) (a' := ?_) #[true, true, true, true, false, true, false, false, false, false, false, false, false, false, false, true] rfl rfl (take_ofW HT_.out HW_.out (by kernel_rfl)) (fun _ _ _ h => h) (Or.inl ⟨by rfl, ?_⟩) hHeld ?_ ?_
  rotate_left
  · rintro w' ⟨s0, s1, s2, s3, s4, s5⟩
    go_simp
    with_reducible rfl
  rotate_left
  · simp only [Act.put, List.setIfInBounds_toArray, List.set_cons_zero, List.set_cons_succ, i64_w, i32_w]
    rfl
  refine take_ (i := 8) (N := some 24) (v := ?_) (a' := ?_) #[true, true, true, true, false, true, false, false, true, false, false, false, false, false, false, true] rfl rfl (take_ofW HT_.out HW_.out (by kernel_rfl)) (fun _ _ _ h => h) (Or.inl ⟨by rfl, ?_⟩) hHeld ?_ ?_
  rotate_left
  · rintro w' ⟨s0, s1, s2, s3, s4, s5⟩
    go_simp
    with_reducible rfl
  rotate_left
  · simp only [Act.put, List.setIfInBounds_toArray, List.set_cons_zero, List.set_cons_succ, i64_w, i32_w]
    rfl
  refine take_ (i := 10) (N := some 26) (v := ?_) (a' := ?_) #[true, true, true, true, false, true, false, false, true, false, true, false, false, false, false, true] rfl rfl (take_ofW HT_.out HW_.out (by kernel_rfl)) (fun _ _ _ h => h) (Or.inl ⟨by rfl, ?_⟩) hHeld ?_ ?_
  rotate_left
  · rintro w' ⟨s0, s1, s2, s3, s4, s5⟩
    go_simp
    with_reducible rfl
  rotate_left
  · simp only [Act.put, List.setIfInBounds_toArray, List.set_cons_zero, List.set_cons_succ, i64_w, i32_w]
    rfl
  refine one_ (i := 4) (N := some 20) #[true, true, true, true, true, true, false, false, true, false, true, false, false, false, false, true] rfl rfl (one_of HT_.out (by kernel_rfl)) (by decide) (fun K hK => ?_)
  refine goes_ Try.func7 (by kernel_rfl) rfl #[.agg #[.int .i64 a1_0, .int .i64 a1_1, .int .i64 a1_2]] (by rfl) rfl rfl (by (try simp only [List.map_toArray, List.map_cons, List.map_nil]); first | done | rfl | (simp only [List.length_drop, List.length_take]; rfl)) ?_
  with_reducible refine (debuggerlaw42_near.calls a1_0 a1_1 a1_2 t171 t172 t173 _ A6.out).mono ?_
  rintro e w22 ⟨rfl, hb⟩
  refine ⟨_, rfl, ?_⟩
  have n0_ := Aside0.mk (Kd.N_below (by (with_reducible repeat (first | apply Kd.N_alloc | apply Kd.N_drewN | apply Kd.N_drew)); exact HO163.out) hb)
  have n1_ := Aside0.mk (Kd.R_below (by (with_reducible repeat (first | apply Kd.R_alloc | apply Kd.R_drewN | apply Kd.R_drew)); exact HO166.out) hb)
  have n2_ := Aside0.mk (Kd.N_below (by (with_reducible repeat (first | apply Kd.N_alloc | apply Kd.N_drewN | apply Kd.N_drew)); exact HO169.out) hb)
  have n3_ := Aside0.mk (blk_below (g := gb157) (o := .cells #[.int .i64 a1_0, .int .i64 a1_1, .int .i64 a1_2] 24 (0, 0)) (by (with_reducible repeat (first | refine blk_drewN ?_ _ | refine blk_drew ?_ | refine blk_alloc ?_ _)); exact BK157.out) hb)
  have n4_ := Aside0.mk (blk_below (g := gb158) (o := .cells #[.int .i64 a2_0, .int .i64 a2_1, .int .i64 a2_2] 24 (0, 0)) (by (with_reducible repeat (first | refine blk_drewN ?_ _ | refine blk_drew ?_ | refine blk_alloc ?_ _)); exact BK158.out) hb)
  have n5_ := Aside0.mk (blk_below (g := gb170) (o := .cells #[.int .i64 t159, .int .i64 t160, .slice Ao17 t161.length co17, .slice Ao18 t164.length co18, .slice Ao19 t167.length co19] 29 (0, 0)) (by (with_reducible repeat (first | refine blk_drewN ?_ _ | refine blk_drew ?_ | refine blk_alloc ?_ _)); exact BK170.out) hb)
  have n6_ := Aside0.mk (below_step (by repeat (first | (with_reducible first | exact HB.out | apply below_alloc | apply pw_below_drewN | apply below_drew1 | refine below_set ?_ GE157.out | refine below_set ?_ GE158.out | refine below_set ?_ GE170.out) | exact HB.out)) hb)
  clear HO163
  clear HO166
  clear HO169
  clear BK157
  clear BK158
  clear BK170
  clear HB
  have HO163 := n0_
  have HO166 := n1_
  have HO169 := n2_
  have BK157 := n3_
  have BK158 := n4_
  have BK170 := n5_
  have HB := n6_
  clear n0_ n1_ n2_ n3_ n4_ n5_ n6_
  (try clear hb)
  (try clear hb2)
  (try clear hk)
  (try clear hi)
  refine hK.out _ _ ⟨(blk_cell BK157.out 0).trans rfl, (blk_cell BK157.out 1).trans rfl, (blk_cell BK157.out 2).trans rfl, (blk_cell BK158.out 0).trans rfl, (blk_cell BK158.out 1).trans rfl, (blk_cell BK158.out 2).trans rfl⟩ (fun hHeld => ?_)
  clear hK K
  refine norm_ (a' := ?_) ?_ ?_
  rotate_left
  · show Act.put _ (some 20) _ = _
    simp only [Act.put, List.setIfInBounds_toArray, List.set_cons_zero, List.set_cons_succ, i64_w, i32_w]
    rfl
  refine one_ (i := 6) (N := some 22) #[true, true, true, true, true, true, true, false, true, false, true, false, false, false, false, true] rfl rfl (one_of HT_.out (by kernel_rfl)) (by decide) (fun K hK => ?_)
  refine goes_ Try.func7 (by kernel_rfl) rfl #[.agg #[.int .i64 a2_0, .int .i64 a2_1, .int .i64 a2_2]] (by rfl) rfl rfl (by (try simp only [List.map_toArray, List.map_cons, List.map_nil]); first | done | rfl | (simp only [List.length_drop, List.length_take]; rfl)) ?_
  with_reducible refine (debuggerlaw42_near.calls a2_0 a2_1 a2_2 t174 t175 t176 _ A7.out).mono ?_
  rintro e w23 ⟨rfl, hb⟩
  refine ⟨_, rfl, ?_⟩
  have n0_ := Aside0.mk (Kd.N_below (by (with_reducible repeat (first | apply Kd.N_alloc | apply Kd.N_drewN | apply Kd.N_drew)); exact HO163.out) hb)
  have n1_ := Aside0.mk (Kd.R_below (by (with_reducible repeat (first | apply Kd.R_alloc | apply Kd.R_drewN | apply Kd.R_drew)); exact HO166.out) hb)
  have n2_ := Aside0.mk (Kd.N_below (by (with_reducible repeat (first | apply Kd.N_alloc | apply Kd.N_drewN | apply Kd.N_drew)); exact HO169.out) hb)
  have n3_ := Aside0.mk (blk_below (g := gb157) (o := .cells #[.int .i64 a1_0, .int .i64 a1_1, .int .i64 a1_2] 24 (0, 0)) (by (with_reducible repeat (first | refine blk_drewN ?_ _ | refine blk_drew ?_ | refine blk_alloc ?_ _)); exact BK157.out) hb)
  have n4_ := Aside0.mk (blk_below (g := gb158) (o := .cells #[.int .i64 a2_0, .int .i64 a2_1, .int .i64 a2_2] 24 (0, 0)) (by (with_reducible repeat (first | refine blk_drewN ?_ _ | refine blk_drew ?_ | refine blk_alloc ?_ _)); exact BK158.out) hb)
  have n5_ := Aside0.mk (blk_below (g := gb170) (o := .cells #[.int .i64 t159, .int .i64 t160, .slice Ao17 t161.length co17, .slice Ao18 t164.length co18, .slice Ao19 t167.length co19] 29 (0, 0)) (by (with_reducible repeat (first | refine blk_drewN ?_ _ | refine blk_drew ?_ | refine blk_alloc ?_ _)); exact BK170.out) hb)
  have n6_ := Aside0.mk (below_step (by repeat (first | (with_reducible first | exact HB.out | apply below_alloc | apply pw_below_drewN | apply below_drew1 | refine below_set ?_ GE157.out | refine below_set ?_ GE158.out | refine below_set ?_ GE170.out) | exact HB.out)) hb)
  clear HO163
  clear HO166
  clear HO169
  clear BK157
  clear BK158
  clear BK170
  clear HB
  have HO163 := n0_
  have HO166 := n1_
  have HO169 := n2_
  have BK157 := n3_
  have BK158 := n4_
  have BK170 := n5_
  have HB := n6_
  clear n0_ n1_ n2_ n3_ n4_ n5_ n6_
  (try clear hb)
  (try clear hb2)
  (try clear hk)
  (try clear hi)
  refine hK.out _ _ ⟨(blk_cell BK157.out 0).trans rfl, (blk_cell BK157.out 1).trans rfl, (blk_cell BK157.out 2).trans rfl, (blk_cell BK158.out 0).trans rfl, (blk_cell BK158.out 1).trans rfl, (blk_cell BK158.out 2).trans rfl⟩ (fun hHeld => ?_)
  clear hK K
  refine norm_ (a' := ?_) ?_ ?_
  rotate_left
  · show Act.put _ (some 22) _ = _
    simp only [Act.put, List.setIfInBounds_toArray, List.set_cons_zero, List.set_cons_succ, i64_w, i32_w]
    rfl
  refine pure_ (i := 7) (N := some 23) (v := ?_) (a' := ?_) #[true, true, true, true, true, true, true, true, true, false, true, false, false, false, false, true] rfl rfl (any_of HT_.out (by kernel_rfl)) (fun _ _ _ h => h) (Or.inl ⟨by rfl, ?_⟩) ?_ ?_
  rotate_left
  · intro w'
    go_simp
    with_reducible rfl
  rotate_left
  · simp only [Act.put, List.setIfInBounds_toArray, List.set_cons_zero, List.set_cons_succ, i64_w, i32_w]
    rfl
  refine one_ (i := 9) (N := some 25) #[true, true, true, true, true, true, true, true, true, true, true, false, false, false, false, true] rfl rfl (one_of HT_.out (by kernel_rfl)) (by decide) (fun K hK => ?_)
  refine goes_ Try.func7 (by kernel_rfl) rfl #[.agg #[.int .i64 a2_0, .int .i64 a2_1, .int .i64 a2_2]] (by rfl) rfl rfl (by (try simp only [List.map_toArray, List.map_cons, List.map_nil]); first | done | rfl | (simp only [List.length_drop, List.length_take]; rfl)) ?_
  with_reducible refine (debuggerlaw42_near.calls a2_0 a2_1 a2_2 t177 t178 t179 _ A8.out).mono ?_
  rintro e w24 ⟨rfl, hb⟩
  refine ⟨_, rfl, ?_⟩
  have n0_ := Aside0.mk (Kd.N_below (by (with_reducible repeat (first | apply Kd.N_alloc | apply Kd.N_drewN | apply Kd.N_drew)); exact HO163.out) hb)
  have n1_ := Aside0.mk (Kd.R_below (by (with_reducible repeat (first | apply Kd.R_alloc | apply Kd.R_drewN | apply Kd.R_drew)); exact HO166.out) hb)
  have n2_ := Aside0.mk (Kd.N_below (by (with_reducible repeat (first | apply Kd.N_alloc | apply Kd.N_drewN | apply Kd.N_drew)); exact HO169.out) hb)
  have n3_ := Aside0.mk (blk_below (g := gb157) (o := .cells #[.int .i64 a1_0, .int .i64 a1_1, .int .i64 a1_2] 24 (0, 0)) (by (with_reducible repeat (first | refine blk_drewN ?_ _ | refine blk_drew ?_ | refine blk_alloc ?_ _)); exact BK157.out) hb)
  have n4_ := Aside0.mk (blk_below (g := gb158) (o := .cells #[.int .i64 a2_0, .int .i64 a2_1, .int .i64 a2_2] 24 (0, 0)) (by (with_reducible repeat (first | refine blk_drewN ?_ _ | refine blk_drew ?_ | refine blk_alloc ?_ _)); exact BK158.out) hb)
  have n5_ := Aside0.mk (blk_below (g := gb170) (o := .cells #[.int .i64 t159, .int .i64 t160, .slice Ao17 t161.length co17, .slice Ao18 t164.length co18, .slice Ao19 t167.length co19] 29 (0, 0)) (by (with_reducible repeat (first | refine blk_drewN ?_ _ | refine blk_drew ?_ | refine blk_alloc ?_ _)); exact BK170.out) hb)
  have n6_ := Aside0.mk (below_step (by repeat (first | (with_reducible first | exact HB.out | apply below_alloc | apply pw_below_drewN | apply below_drew1 | refine below_set ?_ GE157.out | refine below_set ?_ GE158.out | refine below_set ?_ GE170.out) | exact HB.out)) hb)
  clear HO163
  clear HO166
  clear HO169
  clear BK157
  clear BK158
  clear BK170
  clear HB
  have HO163 := n0_
  have HO166 := n1_
  have HO169 := n2_
  have BK157 := n3_
  have BK158 := n4_
  have BK170 := n5_
  have HB := n6_
  clear n0_ n1_ n2_ n3_ n4_ n5_ n6_
  (try clear hb)
  (try clear hb2)
  (try clear hk)
  (try clear hi)
  refine hK.out _ _ ⟨(blk_cell BK157.out 0).trans rfl, (blk_cell BK157.out 1).trans rfl, (blk_cell BK157.out 2).trans rfl, (blk_cell BK158.out 0).trans rfl, (blk_cell BK158.out 1).trans rfl, (blk_cell BK158.out 2).trans rfl⟩ (fun hHeld => ?_)
  clear hK K
  refine norm_ (a' := ?_) ?_ ?_
  rotate_left
  · show Act.put _ (some 25) _ = _
    simp only [Act.put, List.setIfInBounds_toArray, List.set_cons_zero, List.set_cons_succ, i64_w, i32_w]
    rfl
  refine one_ (i := 11) (N := some 27) #[true, true, true, true, true, true, true, true, true, true, true, true, false, false, false, true] rfl rfl (one_of HT_.out (by kernel_rfl)) (by decide) (fun K hK => ?_)
  refine goes_ Try.func7 (by kernel_rfl) rfl #[.agg #[.int .i64 a1_0, .int .i64 a1_1, .int .i64 a1_2]] (by rfl) rfl rfl (by (try simp only [List.map_toArray, List.map_cons, List.map_nil]); first | done | rfl | (simp only [List.length_drop, List.length_take]; rfl)) ?_
  with_reducible refine (debuggerlaw42_near.calls a1_0 a1_1 a1_2 t180 t181 t182 _ A9.out).mono ?_
  rintro e w25 ⟨rfl, hb⟩
  refine ⟨_, rfl, ?_⟩
  have n0_ := Aside0.mk (Kd.N_below (by (with_reducible repeat (first | apply Kd.N_alloc | apply Kd.N_drewN | apply Kd.N_drew)); exact HO163.out) hb)
  have n1_ := Aside0.mk (Kd.R_below (by (with_reducible repeat (first | apply Kd.R_alloc | apply Kd.R_drewN | apply Kd.R_drew)); exact HO166.out) hb)
  have n2_ := Aside0.mk (Kd.N_below (by (with_reducible repeat (first | apply Kd.N_alloc | apply Kd.N_drewN | apply Kd.N_drew)); exact HO169.out) hb)
  have n3_ := Aside0.mk (blk_below (g := gb157) (o := .cells #[.int .i64 a1_0, .int .i64 a1_1, .int .i64 a1_2] 24 (0, 0)) (by (with_reducible repeat (first | refine blk_drewN ?_ _ | refine blk_drew ?_ | refine blk_alloc ?_ _)); exact BK157.out) hb)
  have n4_ := Aside0.mk (blk_below (g := gb158) (o := .cells #[.int .i64 a2_0, .int .i64 a2_1, .int .i64 a2_2] 24 (0, 0)) (by (with_reducible repeat (first | refine blk_drewN ?_ _ | refine blk_drew ?_ | refine blk_alloc ?_ _)); exact BK158.out) hb)
  have n5_ := Aside0.mk (blk_below (g := gb170) (o := .cells #[.int .i64 t159, .int .i64 t160, .slice Ao17 t161.length co17, .slice Ao18 t164.length co18, .slice Ao19 t167.length co19] 29 (0, 0)) (by (with_reducible repeat (first | refine blk_drewN ?_ _ | refine blk_drew ?_ | refine blk_alloc ?_ _)); exact BK170.out) hb)
  have n6_ := Aside0.mk (below_step (by repeat (first | (with_reducible first | exact HB.out | apply below_alloc | apply pw_below_drewN | apply below_drew1 | refine below_set ?_ GE157.out | refine below_set ?_ GE158.out | refine below_set ?_ GE170.out) | exact HB.out)) hb)
  clear HO163
  clear HO166
  clear HO169
  clear BK157
  clear BK158
  clear BK170
  clear HB
  have HO163 := n0_
  have HO166 := n1_
  have HO169 := n2_
  have BK157 := n3_
  have BK158 := n4_
  have BK170 := n5_
  have HB := n6_
  clear n0_ n1_ n2_ n3_ n4_ n5_ n6_
  (try clear hb)
  (try clear hb2)
  (try clear hk)
  (try clear hi)
  refine hK.out _ _ ⟨(blk_cell BK157.out 0).trans rfl, (blk_cell BK157.out 1).trans rfl, (blk_cell BK157.out 2).trans rfl, (blk_cell BK158.out 0).trans rfl, (blk_cell BK158.out 1).trans rfl, (blk_cell BK158.out 2).trans rfl⟩ (fun hHeld => ?_)
  clear hK K
  refine norm_ (a' := ?_) ?_ ?_
  rotate_left
  · show Act.put _ (some 27) _ = _
    simp only [Act.put, List.setIfInBounds_toArray, List.set_cons_zero, List.set_cons_succ, i64_w, i32_w]
    rfl
  refine pure_ (i := 12) (N := some 28) (v := ?_) (a' := ?_) #[true, true, true, true, true, true, true, true, true, true, true, true, true, false, false, true] rfl rfl (any_of HT_.out (by kernel_rfl)) (fun _ _ _ h => h) (Or.inl ⟨by rfl, ?_⟩) ?_ ?_
  rotate_left
  · intro w'
    go_simp
    with_reducible rfl
  rotate_left
  · simp only [Act.put, List.setIfInBounds_toArray, List.set_cons_zero, List.set_cons_succ, i64_w, i32_w]
    rfl
  refine one_ (i := 13) (N := some 29) #[true, true, true, true, true, true, true, true, true, true, true, true, true, true, false, true] rfl rfl (one_of HT_.out (by kernel_rfl)) (by decide) (fun K hK => ?_)
  refine Kd.R_lit_step k31 _ 31 ?hg (N := 29) ?hd (xs := ([(⟨(⟨a1_0, a1_1, a1_2⟩ : S24), (⟨a2_0, a2_1, a2_2⟩ : S24)⟩ : S31), (⟨(⟨t171, t172, t173⟩ : S24), (⟨t174, t175, t176⟩ : S24)⟩ : S31), (⟨(⟨t177, t178, t179⟩ : S24), (⟨t180, t181, t182⟩ : S24)⟩ : S31)] : List (S31))) (inner := [.int .i64 a1_0, .int .i64 a1_1, .int .i64 a1_2, .int .i64 a2_0, .int .i64 a2_1, .int .i64 a2_2, .int .i64 t171, .int .i64 t172, .int .i64 t173, .int .i64 t174, .int .i64 t175, .int .i64 t176, .int .i64 t177, .int .i64 t178, .int .i64 t179, .int .i64 t180, .int .i64 t181, .int .i64 t182]) (ok := fun _ => True) (okp := fun _ => True) ?hr ?hp (fun _ hk => hk) trivial (Below.refl _ _) (Nat.le_refl _) (by simp) ?_; (case hd => rfl); (case hg => rfl); (case hr => first | (go_simp; done) | (go_simp; rfl)); (case hp => exact (Reps.c6 (show Kd.M k31 _ _ _ (⟨(⟨a1_0, a1_1, a1_2⟩ : S24), (⟨a2_0, a2_1, a2_2⟩ : S24)⟩ : S31) [.int .i64 a1_0, .int .i64 a1_1, .int .i64 a1_2, .int .i64 a2_0, .int .i64 a2_1, .int .i64 a2_2] from (k31_mkM _ _ _ (⟨(⟨a1_0, a1_1, a1_2⟩ : S24), (⟨a2_0, a2_1, a2_2⟩ : S24)⟩ : S31) )) (Reps.c6 (show Kd.M k31 _ _ _ (⟨(⟨t171, t172, t173⟩ : S24), (⟨t174, t175, t176⟩ : S24)⟩ : S31) [.int .i64 t171, .int .i64 t172, .int .i64 t173, .int .i64 t174, .int .i64 t175, .int .i64 t176] from (k31_mkM _ _ _ (⟨(⟨t171, t172, t173⟩ : S24), (⟨t174, t175, t176⟩ : S24)⟩ : S31) )) (Reps.c6 (show Kd.M k31 _ _ _ (⟨(⟨t177, t178, t179⟩ : S24), (⟨t180, t181, t182⟩ : S24)⟩ : S31) [.int .i64 t177, .int .i64 t178, .int .i64 t179, .int .i64 t180, .int .i64 t181, .int .i64 t182] from (k31_mkM _ _ _ (⟨(⟨t177, t178, t179⟩ : S24), (⟨t180, t181, t182⟩ : S24)⟩ : S31) )) (Reps.none _ _)))))
  intro v184 w26 ho27 hb hg_ hnew_
  clear hg_ hnew_
  (first | rw [← Ny183.out] at ho27 | (simp only [Int.reduceToNat] at ho27; rw [← Ny183.out] at ho27))
  have n0_ := Aside0.mk (Kd.N_elder' (by (with_reducible repeat (first | apply Kd.N_alloc | apply Kd.N_drewN | apply Kd.N_drew)); exact HO163.out) (Kd.R_base ho27) hb)
  have n1_ := Aside0.mk (Kd.R_below (by (with_reducible repeat (first | apply Kd.R_alloc | apply Kd.R_drewN | apply Kd.R_drew)); exact HO166.out) hb)
  have n2_ := Aside0.mk (Kd.N_elder' (by (with_reducible repeat (first | apply Kd.N_alloc | apply Kd.N_drewN | apply Kd.N_drew)); exact HO169.out) (Kd.R_base ho27) hb)
  have n3_ := Aside0.mk (Kd.R_lower ho27 (below_size (by repeat (first | (with_reducible first | exact HB.out | apply below_alloc | apply pw_below_drewN | apply below_drew1 | refine below_set ?_ GE157.out | refine below_set ?_ GE158.out | refine below_set ?_ GE170.out) | exact HB.out))))
  have n4_ := Aside0.mk (blk_below (g := gb157) (o := .cells #[.int .i64 a1_0, .int .i64 a1_1, .int .i64 a1_2] 24 (0, 0)) (by (with_reducible repeat (first | refine blk_drewN ?_ _ | refine blk_drew ?_ | refine blk_alloc ?_ _)); exact BK157.out) hb)
  have n5_ := Aside0.mk (blk_below (g := gb158) (o := .cells #[.int .i64 a2_0, .int .i64 a2_1, .int .i64 a2_2] 24 (0, 0)) (by (with_reducible repeat (first | refine blk_drewN ?_ _ | refine blk_drew ?_ | refine blk_alloc ?_ _)); exact BK158.out) hb)
  have n6_ := Aside0.mk (blk_below (g := gb170) (o := .cells #[.int .i64 t159, .int .i64 t160, .slice Ao17 t161.length co17, .slice Ao18 t164.length co18, .slice Ao19 t167.length co19] 29 (0, 0)) (by (with_reducible repeat (first | refine blk_drewN ?_ _ | refine blk_drew ?_ | refine blk_alloc ?_ _)); exact BK170.out) hb)
  have n7_ := Aside0.mk (below_step (by repeat (first | (with_reducible first | exact HB.out | apply below_alloc | apply pw_below_drewN | apply below_drew1 | refine below_set ?_ GE157.out | refine below_set ?_ GE158.out | refine below_set ?_ GE170.out) | exact HB.out)) hb)
  clear HO163
  clear HO166
  clear HO169
  clear BK157
  clear BK158
  clear BK170
  clear HB
  have HO163 := n0_
  have HO166 := n1_
  have HO169 := n2_
  have HO185 := n3_
  have BK157 := n4_
  have BK158 := n5_
  have BK170 := n6_
  have HB := n7_
  clear n0_ n1_ n2_ n3_ n4_ n5_ n6_ n7_
  clear hb ho27
  obtain ⟨Ao28, co28, eo28⟩ := Kd.R_slice HO185.out
  (first | subst eo28 | (injection eo28 with f1_ f2_ f3_; have f4_ := f1_.symm; have f5_ := f3_.symm; clear f1_ f2_ f3_; subst f4_; subst f5_))
  refine hK.out _ _ ⟨(blk_cell BK157.out 0).trans rfl, (blk_cell BK157.out 1).trans rfl, (blk_cell BK157.out 2).trans rfl, (blk_cell BK158.out 0).trans rfl, (blk_cell BK158.out 1).trans rfl, (blk_cell BK158.out 2).trans rfl⟩ (fun hHeld => ?_)
  clear hK K
  refine norm_ (a' := ?_) ?_ ?_
  rotate_left
  · show Act.put _ (some 29) _ = _
    simp only [Act.put, List.setIfInBounds_toArray, List.set_cons_zero, List.set_cons_succ, i64_w, i32_w]
    rfl
  refine pure_ (i := 14) (N := some 30) (v := ?_) (a' := ?_) #[true, true, true, true, true, true, true, true, true, true, true, true, true, true, true, true] rfl rfl (any_of HT_.out (by kernel_rfl)) (fun _ _ _ h => h) (Or.inl ⟨by rfl, ?_⟩) ?_ ?_
  rotate_left
  · intro w'
    go_simp
    with_reducible rfl
  rotate_left
  · simp only [Act.put, List.setIfInBounds_toArray, List.set_cons_zero, List.set_cons_succ, i64_w, i32_w]
    rfl
  refine done_ (done_of HT_.out (by kernel_rfl)) ?_
  try go_wp2
  go_loopg [31] k (fun kq v31 w' => ∃ (x31_1 : Int), v31 = .int .i64 x31_1 ∧ Aside0 (debuggerlaw42_SteppingCompares.l0 kq a3 y183 (y183.length : Int) x31_1 t159 t160 t161 t164 t167 = some r) ∧ Aside0 (kq ≤ k) ∧ Aside0 (Kd.R k31 31 w' w.heap.size (fun _ => True) (.slice Ao28 y183.length co28) y183) ∧ Aside0 (Kd.N k71 71 w' w.heap.size (fun k_ => some k_ ≠ ((.slice Ao28 y183.length co28) : Value).ownBlock ∧ some k_ ≠ ((.slice Ao18 t164.length co18) : Value).ownBlock ∧ some k_ ≠ ((.slice Ao19 t167.length co19) : Value).ownBlock ∧ k_ ≠ gb157 ∧ k_ ≠ gb158 ∧ k_ ≠ gb170) (.slice Ao17 t161.length co17) t161) ∧ Aside0 (Kd.R k73 73 w' w.heap.size (fun _ => True) (.slice Ao18 t164.length co18) t164) ∧ Aside0 (Kd.N k51 51 w' w.heap.size (fun k_ => some k_ ≠ ((.slice Ao28 y183.length co28) : Value).ownBlock ∧ some k_ ≠ ((.slice Ao17 t161.length co17) : Value).ownBlock ∧ some k_ ≠ ((.slice Ao18 t164.length co18) : Value).ownBlock ∧ k_ ≠ gb157 ∧ k_ ≠ gb158 ∧ k_ ≠ gb170) (.slice Ao19 t167.length co19) t167) ∧ Aside0 (w'.heap[gb157]? = some (.cells #[.int .i64 a1_0, .int .i64 a1_1, .int .i64 a1_2] 24 (0, 0))) ∧ Aside0 (w'.heap[gb158]? = some (.cells #[.int .i64 a2_0, .int .i64 a2_1, .int .i64 a2_2] 24 (0, 0))) ∧ Aside0 (w'.heap[gb170]? = some (.cells #[.int .i64 t159, .int .i64 t160, (.slice Ao17 t161.length co17), (.slice Ao18 t164.length co18), (.slice Ao19 t167.length co19)] 29 (0, 0))) ∧ Aside0 (Below w.heap.size w w'))
  case atStart => exact ⟨(0), (by first | rfl | (simp; done) | (simp [*]; done)), H', ⟨Nat.le_refl _⟩, ⟨by (with_reducible repeat (first | apply Kd.R_alloc | apply Kd.R_drewN | apply Kd.R_drew)); exact HO185.out⟩, ⟨by (with_reducible repeat (first | apply Kd.N_alloc | apply Kd.N_drewN | apply Kd.N_drew)); exact Kd.N_mono HO163.out (fun _ hk => ⟨hk.2, ⟨hk.1.1, ⟨hk.1.2.1, ⟨hk.1.2.2.1, ⟨hk.1.2.2.2.1, hk.1.2.2.2.2⟩⟩⟩⟩⟩)⟩, ⟨by (with_reducible repeat (first | apply Kd.R_alloc | apply Kd.R_drewN | apply Kd.R_drew)); exact HO166.out⟩, ⟨by (with_reducible repeat (first | apply Kd.N_alloc | apply Kd.N_drewN | apply Kd.N_drew)); exact Kd.N_mono HO169.out (fun _ hk => ⟨hk.2, ⟨hk.1.1, ⟨hk.1.2.1, ⟨hk.1.2.2.1, ⟨hk.1.2.2.2.1, hk.1.2.2.2.2⟩⟩⟩⟩⟩)⟩, ⟨by (with_reducible repeat (first | refine blk_drewN ?_ _ | refine blk_drew ?_ | refine blk_alloc ?_ _)); exact BK157.out⟩, ⟨by (with_reducible repeat (first | refine blk_drewN ?_ _ | refine blk_drew ?_ | refine blk_alloc ?_ _)); exact BK158.out⟩, ⟨by (with_reducible repeat (first | refine blk_drewN ?_ _ | refine blk_drew ?_ | refine blk_alloc ?_ _)); exact BK170.out⟩, ⟨by repeat (first | (with_reducible first | exact HB.out | apply below_alloc | apply pw_below_drewN | apply below_drew1 | refine below_set ?_ GE157.out | refine below_set ?_ GE158.out | refine below_set ?_ GE170.out) | exact HB.out)⟩⟩
  case round =>
    clear H'
    try clear c1
    try clear p2
    try clear c3
    try clear c6
    try clear c7
    try clear c14
    try clear c15
    try clear hcz16_0
    try clear hcz16_1
    try clear hcz16_2
    try clear hcz16_3
    try clear hcz16_4
    try clear hfz16_0
    try clear hfz16_1
    try clear hfz16_2
    try clear hfz16_3
    try clear hfz16_4
    obtain ⟨x31_1, rfl, HA, HK1, HO_29, HO_171002, HO_171003, HO_171004, BK157, BK158, BK170, HB⟩ := hrel
    cases gk with
    | zero => exact absurd HA.out (by simp [debuggerlaw42_SteppingCompares.l0])
    | succ k1 =>
      have H := HA.out
      clear HA
      simp only [debuggerlaw42_SteppingCompares.l0] at H
      by_cases c29 : x31_1 < (y183.length : Int)
      · rw [if_pos c29] at H
        have c29b0 : decide (x31_1 < (y183.length : Int)) = true := decide_eq_true c29
        clear c29
        by_cases c30 : 0 ≤ x31_1
        · rw [if_pos c30] at H
          have c30b0 : decide (0 ≤ x31_1) = true := decide_eq_true c30
          clear c30
          by_cases c31 : x31_1 < (y183.length : Int)
          · rw [if_pos c31] at H
            have c31b0 : decide (x31_1 < (y183.length : Int)) = true := decide_eq_true c31
            clear c31
            replace H := Option.bind_eq_some_iff.mp H
            obtain ⟨t189, A320, H⟩ := H
            replace H : ((some (([a3, wrap64 (1 + t189)] : List Int) : List Int)).bind fun y190 => (debuggerlaw42_SteppingCompares.l1 k1 a3 y183 (y183.length : Int) x31_1 y190 (y190.length : Int) 0 t159 t160 t161 t164 t167 ((rd_T31 y183 x31_1).f0.f0) ((rd_T31 y183 x31_1).f0.f1) ((rd_T31 y183 x31_1).f0.f2) ((rd_T31 y183 x31_1).f1.f0) ((rd_T31 y183 x31_1).f1.f1) ((rd_T31 y183 x31_1).f1.f2))) = some r := H
            have A32 := Aside0.mk A320
            clear A320
            obtain ⟨y190, hy190⟩ : ∃ y_ : List Int, y_ = (([a3, wrap64 (1 + t189)] : List Int)) := ⟨_, rfl⟩
            replace H : (debuggerlaw42_SteppingCompares.l1 k1 a3 y183 (y183.length : Int) x31_1 y190 (y190.length : Int) 0 t159 t160 t161 t164 t167 ((rd_T31 y183 x31_1).f0.f0) ((rd_T31 y183 x31_1).f0.f1) ((rd_T31 y183 x31_1).f0.f2) ((rd_T31 y183 x31_1).f1.f0) ((rd_T31 y183 x31_1).f1.f1) ((rd_T31 y183 x31_1).f1.f2)) = some r := by first | (rw [hy190]; with_reducible exact H) | (have H2_ := (Option.bind_some _ _).symm.trans H; rw [hy190]; with_reducible exact H2_) | (have H2_ := (Option.bind_some _ _).symm.trans H; with_reducible exact H2_) | with_reducible exact H | (rw [hy190]; exact H) | exact H
            have Ny190 := Aside0.mk hy190
            clear hy190
            have H' := Aside0.mk H
            clear H
            have p187 : 0 ≤ (x31_1 : Int) := of_decide_eq_true (by first | (with_reducible assumption) | assumption)
            have q187 : x31_1 < (y183.length : Int) := of_decide_eq_true (by first | (with_reducible assumption) | assumption)
            obtain ⟨ad187, e187, hx187_0, hx187_1, hx187_2, hx187_3, hx187_4, hx187_5⟩ := at_T31 (Kd.R_reads' HO_29.out).2.2 x31_1 p187 q187
            cases e187
            replace p187 := eq_true p187
            replace q187 := eq_true q187
            go_wp2_with (first | ((with_reducible refine gate_dst (N := 11) rfl ?_); refine box_event ?hg (N := 11) ?hd (cs := #[.int .i64 0, .int .i64 0, .int .i64 0, .int .i64 0, .int .i64 0, .int .i64 0]) (t := 31) ?hr ?_; (case hd => rfl); (case hg => rfl); (case hr => first | (go_simp; done) | (go_simp; rfl)); intro gb188 hg w33 hbox hb; have n0_ := Aside0.mk (Kd.R_below (Kd.R_elderB (by (with_reducible repeat (first | apply Kd.R_alloc | apply Kd.R_drewN | apply Kd.R_drew)); exact HO_29.out) gb188 (Nat.le_of_eq hg.symm)) hb); have n1_ := Aside0.mk (Kd.N_below (Kd.N_elderB (by (with_reducible repeat (first | apply Kd.N_alloc | apply Kd.N_drewN | apply Kd.N_drew)); exact HO_171002.out) gb188 (Nat.le_of_eq hg.symm)) hb); have n2_ := Aside0.mk (Kd.R_below (by (with_reducible repeat (first | apply Kd.R_alloc | apply Kd.R_drewN | apply Kd.R_drew)); exact HO_171003.out) hb); have n3_ := Aside0.mk (Kd.N_below (Kd.N_elderB (by (with_reducible repeat (first | apply Kd.N_alloc | apply Kd.N_drewN | apply Kd.N_drew)); exact HO_171004.out) gb188 (Nat.le_of_eq hg.symm)) hb); have n4_ := Aside0.mk (blk_below (g := gb157) (o := .cells #[.int .i64 a1_0, .int .i64 a1_1, .int .i64 a1_2] 24 (0, 0)) (by (with_reducible repeat (first | refine blk_drewN ?_ _ | refine blk_drew ?_ | refine blk_alloc ?_ _)); exact BK157.out) hb); have n5_ := Aside0.mk (blk_below (g := gb158) (o := .cells #[.int .i64 a2_0, .int .i64 a2_1, .int .i64 a2_2] 24 (0, 0)) (by (with_reducible repeat (first | refine blk_drewN ?_ _ | refine blk_drew ?_ | refine blk_alloc ?_ _)); exact BK158.out) hb); have n6_ := Aside0.mk (blk_below (g := gb170) (o := .cells #[.int .i64 t159, .int .i64 t160, .slice Ao17 t161.length co17, .slice Ao18 t164.length co18, .slice Ao19 t167.length co19] 29 (0, 0)) (by (with_reducible repeat (first | refine blk_drewN ?_ _ | refine blk_drew ?_ | refine blk_alloc ?_ _)); exact BK170.out) hb); have n7_ := Aside0.mk (below_step (by repeat (first | (with_reducible first | exact HB.out | apply below_alloc | apply pw_below_drewN | apply below_drew1 | refine below_set ?_ GE157.out | refine below_set ?_ GE158.out | refine below_set ?_ GE170.out) | exact HB.out)) hb); have n8_ := Aside0.mk (hbox); have n9_ := Aside0.mk ((by rw [hg]; exact (below_size (by repeat (first | (with_reducible first | exact HB.out | apply below_alloc | apply pw_below_drewN | apply below_drew1 | refine below_set ?_ GE157.out | refine below_set ?_ GE158.out | refine below_set ?_ GE170.out) | exact HB.out))) : w.heap.size ≤ gb188)); have n10_ := Aside0.mk ((by rw [hg]; exact (below_size (by repeat (first | (with_reducible first | exact HB.out | apply below_alloc | apply pw_below_drewN | apply below_drew1 | refine below_set ?_ GE157.out | refine below_set ?_ GE158.out | refine below_set ?_ GE170.out) | exact HB.out))) : w.heap.size ≤ gb188)); have n11_ := Aside0.mk ((by rw [hg]; exact Nat.ne_of_lt (blk_lt (g := gb157) (o := .cells #[.int .i64 a1_0, .int .i64 a1_1, .int .i64 a1_2] 24 (0, 0)) (by (with_reducible repeat (first | refine blk_drewN ?_ _ | refine blk_drew ?_ | refine blk_alloc ?_ _)); exact BK157.out)) : gb157 ≠ gb188)); have n12_ := Aside0.mk ((by rw [hg]; exact Nat.ne_of_gt (blk_lt (g := gb157) (o := .cells #[.int .i64 a1_0, .int .i64 a1_1, .int .i64 a1_2] 24 (0, 0)) (by (with_reducible repeat (first | refine blk_drewN ?_ _ | refine blk_drew ?_ | refine blk_alloc ?_ _)); exact BK157.out)) : gb188 ≠ gb157)); have n13_ := Aside0.mk ((by rw [hg]; exact Nat.ne_of_lt (blk_lt (g := gb158) (o := .cells #[.int .i64 a2_0, .int .i64 a2_1, .int .i64 a2_2] 24 (0, 0)) (by (with_reducible repeat (first | refine blk_drewN ?_ _ | refine blk_drew ?_ | refine blk_alloc ?_ _)); exact BK158.out)) : gb158 ≠ gb188)); have n14_ := Aside0.mk ((by rw [hg]; exact Nat.ne_of_gt (blk_lt (g := gb158) (o := .cells #[.int .i64 a2_0, .int .i64 a2_1, .int .i64 a2_2] 24 (0, 0)) (by (with_reducible repeat (first | refine blk_drewN ?_ _ | refine blk_drew ?_ | refine blk_alloc ?_ _)); exact BK158.out)) : gb188 ≠ gb158)); have n15_ := Aside0.mk ((by rw [hg]; exact Nat.ne_of_lt (blk_lt (g := gb170) (o := .cells #[.int .i64 t159, .int .i64 t160, .slice Ao17 t161.length co17, .slice Ao18 t164.length co18, .slice Ao19 t167.length co19] 29 (0, 0)) (by (with_reducible repeat (first | refine blk_drewN ?_ _ | refine blk_drew ?_ | refine blk_alloc ?_ _)); exact BK170.out)) : gb170 ≠ gb188)); have n16_ := Aside0.mk ((by rw [hg]; exact Nat.ne_of_gt (blk_lt (g := gb170) (o := .cells #[.int .i64 t159, .int .i64 t160, .slice Ao17 t161.length co17, .slice Ao18 t164.length co18, .slice Ao19 t167.length co19] 29 (0, 0)) (by (with_reducible repeat (first | refine blk_drewN ?_ _ | refine blk_drew ?_ | refine blk_alloc ?_ _)); exact BK170.out)) : gb188 ≠ gb170)); clear HO_29; clear HO_171002; clear HO_171003; clear HO_171004; clear BK157; clear BK158; clear BK170; clear HB; have HO_29 := n0_; have HO_171002 := n1_; have HO_171003 := n2_; have HO_171004 := n3_; have BK157 := n4_; have BK158 := n5_; have BK170 := n6_; have HB := n7_; have BK188 := n8_; have GW188 := n9_; have GE188 := n10_; have NB157_188 := n11_; have NB188_157 := n12_; have NB158_188 := n13_; have NB188_158 := n14_; have NB170_188 := n15_; have NB188_170 := n16_; clear n0_ n1_ n2_ n3_ n4_ n5_ n6_ n7_ n8_ n9_ n10_ n11_ n12_ n13_ n14_ n15_ n16_; clear hb hbox hg; have hnb34 := NB188_157.out; have hnc34 := NB157_188.out; have hnb35 := NB188_158.out; have hnc35 := NB158_188.out; have hnb36 := NB188_170.out; have hnc36 := NB170_188.out; have hcz37_0 : w33.cell? ⟨gb188, 0, none⟩ = some (.int .i64 0) := (blk_cell BK188.out 0).trans rfl; have hcz37_1 : w33.cell? ⟨gb188, 1, none⟩ = some (.int .i64 0) := (blk_cell BK188.out 1).trans rfl; have hcz37_2 : w33.cell? ⟨gb188, 2, none⟩ = some (.int .i64 0) := (blk_cell BK188.out 2).trans rfl; have hcz37_3 : w33.cell? ⟨gb188, 3, none⟩ = some (.int .i64 0) := (blk_cell BK188.out 3).trans rfl; have hcz37_4 : w33.cell? ⟨gb188, 4, none⟩ = some (.int .i64 0) := (blk_cell BK188.out 4).trans rfl; have hcz37_5 : w33.cell? ⟨gb188, 5, none⟩ = some (.int .i64 0) := (blk_cell BK188.out 5).trans rfl; have hfz37_0 := blk_frozen BK188.out 0; have hfz37_1 := blk_frozen BK188.out 1; have hfz37_2 := blk_frozen BK188.out 2; have hfz37_3 := blk_frozen BK188.out 3; have hfz37_4 := blk_frozen BK188.out 4; have hfz37_5 := blk_frozen BK188.out 5) | ((with_reducible refine gate_callee (f := 8) rfl ?_); refine goesL_ (some 37) rfl rfl Try.func8 (by kernel_rfl) rfl #[.int .i64 a3, .int .i64 3] rfl (by (try simp only [List.map_toArray, List.map_cons, List.map_nil]); first | done | rfl | (simp only [List.length_drop, List.length_take]; rfl)) ?_; (with_reducible refine (debuggerkit_Mod.calls a3 3 t189 _ A32.out).mono ?_); rintro e w' ⟨rfl, ⟨nd, rfl⟩⟩; refine ⟨_, rfl, ?_⟩) | ((with_reducible refine gate_dst (N := 39) rfl ?_); refine Kd.R_lit (Kd.int .i64) _ 3 ?hg (N := 39) ?hd (xs := ([a3, wrap64 (1 + t189)] : List Int)) (inner := [.int .i64 a3, .int .i64 (wrap64 (1 + t189))]) (ok := fun _ => True) (okp := fun _ => True) ?hr ?hp (fun _ hk => hk) trivial (Below.refl _ _) (Nat.le_refl _) (by simp) ?_; (case hd => rfl); (case hg => rfl); (case hr => first | (go_simp; done) | (go_simp; rfl)); (case hp => exact (Reps.one (show Kd.M (Kd.int .i64) _ _ _ a3 [.int .i64 a3] from rfl) (Reps.one (show Kd.M (Kd.int .i64) _ _ _ (wrap64 (1 + t189)) [.int .i64 (wrap64 (1 + t189))] from rfl) (Reps.none _ _)))); intro v191 w38 ho39 hb hg_ hnew_; clear hg_ hnew_; (first | rw [← Ny190.out] at ho39 | (simp only [Int.reduceToNat] at ho39; rw [← Ny190.out] at ho39)); have n0_ := Aside0.mk (Kd.R_below (by (with_reducible repeat (first | apply Kd.R_alloc | apply Kd.R_drewN | apply Kd.R_drew)); exact (Kd.R_mono (Kd.R_far (p := ⟨gb188, 5, none⟩) (Kd.R_far (p := ⟨gb188, 4, none⟩) (Kd.R_far (p := ⟨gb188, 3, none⟩) (Kd.R_far (p := ⟨gb188, 2, none⟩) (Kd.R_far (p := ⟨gb188, 1, none⟩) (Kd.R_far (p := ⟨gb188, 0, none⟩) (Kd.R_mono HO_29.out (fun k_ hk => (⟨hk, hk.2⟩ : _ ∧ k_ ≠ gb188))) (fun _ hk => hk.2) (.int .i64 ((rd_T31 y183 x31_1).f0.f0))) (fun _ hk => hk.2) (.int .i64 ((rd_T31 y183 x31_1).f0.f1))) (fun _ hk => hk.2) (.int .i64 ((rd_T31 y183 x31_1).f0.f2))) (fun _ hk => hk.2) (.int .i64 ((rd_T31 y183 x31_1).f1.f0))) (fun _ hk => hk.2) (.int .i64 ((rd_T31 y183 x31_1).f1.f1))) (fun _ hk => hk.2) (.int .i64 ((rd_T31 y183 x31_1).f1.f2))) (fun _ h_ => h_.1))) hb); have n1_ := Aside0.mk (Kd.N_elder' (by (with_reducible repeat (first | apply Kd.N_alloc | apply Kd.N_drewN | apply Kd.N_drew)); exact (Kd.N_mono (Kd.N_far (p := ⟨gb188, 5, none⟩) (Kd.N_far (p := ⟨gb188, 4, none⟩) (Kd.N_far (p := ⟨gb188, 3, none⟩) (Kd.N_far (p := ⟨gb188, 2, none⟩) (Kd.N_far (p := ⟨gb188, 1, none⟩) (Kd.N_far (p := ⟨gb188, 0, none⟩) (Kd.N_mono HO_171002.out (fun k_ hk => (⟨hk, hk.2⟩ : _ ∧ k_ ≠ gb188))) (fun _ hk => hk.2) (.int .i64 ((rd_T31 y183 x31_1).f0.f0))) (fun _ hk => hk.2) (.int .i64 ((rd_T31 y183 x31_1).f0.f1))) (fun _ hk => hk.2) (.int .i64 ((rd_T31 y183 x31_1).f0.f2))) (fun _ hk => hk.2) (.int .i64 ((rd_T31 y183 x31_1).f1.f0))) (fun _ hk => hk.2) (.int .i64 ((rd_T31 y183 x31_1).f1.f1))) (fun _ hk => hk.2) (.int .i64 ((rd_T31 y183 x31_1).f1.f2))) (fun _ h_ => h_.1))) (Kd.R_base ho39) hb); have n2_ := Aside0.mk (Kd.R_below (by (with_reducible repeat (first | apply Kd.R_alloc | apply Kd.R_drewN | apply Kd.R_drew)); exact (Kd.R_mono (Kd.R_far (p := ⟨gb188, 5, none⟩) (Kd.R_far (p := ⟨gb188, 4, none⟩) (Kd.R_far (p := ⟨gb188, 3, none⟩) (Kd.R_far (p := ⟨gb188, 2, none⟩) (Kd.R_far (p := ⟨gb188, 1, none⟩) (Kd.R_far (p := ⟨gb188, 0, none⟩) (Kd.R_types HO_171003.out BK188.out (by decide)) (fun _ hk => hk.2) (.int .i64 ((rd_T31 y183 x31_1).f0.f0))) (fun _ hk => hk.2) (.int .i64 ((rd_T31 y183 x31_1).f0.f1))) (fun _ hk => hk.2) (.int .i64 ((rd_T31 y183 x31_1).f0.f2))) (fun _ hk => hk.2) (.int .i64 ((rd_T31 y183 x31_1).f1.f0))) (fun _ hk => hk.2) (.int .i64 ((rd_T31 y183 x31_1).f1.f1))) (fun _ hk => hk.2) (.int .i64 ((rd_T31 y183 x31_1).f1.f2))) (fun _ h_ => h_.1))) hb); have n3_ := Aside0.mk (Kd.N_elder' (by (with_reducible repeat (first | apply Kd.N_alloc | apply Kd.N_drewN | apply Kd.N_drew)); exact (Kd.N_mono (Kd.N_far (p := ⟨gb188, 5, none⟩) (Kd.N_far (p := ⟨gb188, 4, none⟩) (Kd.N_far (p := ⟨gb188, 3, none⟩) (Kd.N_far (p := ⟨gb188, 2, none⟩) (Kd.N_far (p := ⟨gb188, 1, none⟩) (Kd.N_far (p := ⟨gb188, 0, none⟩) (Kd.N_mono HO_171004.out (fun k_ hk => (⟨hk, hk.2⟩ : _ ∧ k_ ≠ gb188))) (fun _ hk => hk.2) (.int .i64 ((rd_T31 y183 x31_1).f0.f0))) (fun _ hk => hk.2) (.int .i64 ((rd_T31 y183 x31_1).f0.f1))) (fun _ hk => hk.2) (.int .i64 ((rd_T31 y183 x31_1).f0.f2))) (fun _ hk => hk.2) (.int .i64 ((rd_T31 y183 x31_1).f1.f0))) (fun _ hk => hk.2) (.int .i64 ((rd_T31 y183 x31_1).f1.f1))) (fun _ hk => hk.2) (.int .i64 ((rd_T31 y183 x31_1).f1.f2))) (fun _ h_ => h_.1))) (Kd.R_base ho39) hb); have n4_ := Aside0.mk (Kd.R_lower ho39 (below_size (by repeat (first | (with_reducible first | exact HB.out | apply below_alloc | apply pw_below_drewN | apply below_drew1 | refine below_set ?_ GE157.out | refine below_set ?_ GE158.out | refine below_set ?_ GE170.out | refine below_set ?_ GE188.out) | exact HB.out)))); have n5_ := Aside0.mk (blk_below (g := gb157) (o := .cells #[.int .i64 a1_0, .int .i64 a1_1, .int .i64 a1_2] 24 (0, 0)) (by (with_reducible repeat (first | refine blk_drewN ?_ _ | refine blk_drew ?_ | refine blk_alloc ?_ _)); refine blk_far ?_ NB157_188.out _; (with_reducible repeat (first | refine blk_drewN ?_ _ | refine blk_drew ?_ | refine blk_alloc ?_ _)); refine blk_far ?_ NB157_188.out _; (with_reducible repeat (first | refine blk_drewN ?_ _ | refine blk_drew ?_ | refine blk_alloc ?_ _)); refine blk_far ?_ NB157_188.out _; (with_reducible repeat (first | refine blk_drewN ?_ _ | refine blk_drew ?_ | refine blk_alloc ?_ _)); refine blk_far ?_ NB157_188.out _; (with_reducible repeat (first | refine blk_drewN ?_ _ | refine blk_drew ?_ | refine blk_alloc ?_ _)); refine blk_far ?_ NB157_188.out _; (with_reducible repeat (first | refine blk_drewN ?_ _ | refine blk_drew ?_ | refine blk_alloc ?_ _)); refine blk_far ?_ NB157_188.out _; (with_reducible repeat (first | refine blk_drewN ?_ _ | refine blk_drew ?_ | refine blk_alloc ?_ _)); exact BK157.out) hb); have n6_ := Aside0.mk (blk_below (g := gb158) (o := .cells #[.int .i64 a2_0, .int .i64 a2_1, .int .i64 a2_2] 24 (0, 0)) (by (with_reducible repeat (first | refine blk_drewN ?_ _ | refine blk_drew ?_ | refine blk_alloc ?_ _)); refine blk_far ?_ NB158_188.out _; (with_reducible repeat (first | refine blk_drewN ?_ _ | refine blk_drew ?_ | refine blk_alloc ?_ _)); refine blk_far ?_ NB158_188.out _; (with_reducible repeat (first | refine blk_drewN ?_ _ | refine blk_drew ?_ | refine blk_alloc ?_ _)); refine blk_far ?_ NB158_188.out _; (with_reducible repeat (first | refine blk_drewN ?_ _ | refine blk_drew ?_ | refine blk_alloc ?_ _)); refine blk_far ?_ NB158_188.out _; (with_reducible repeat (first | refine blk_drewN ?_ _ | refine blk_drew ?_ | refine blk_alloc ?_ _)); refine blk_far ?_ NB158_188.out _; (with_reducible repeat (first | refine blk_drewN ?_ _ | refine blk_drew ?_ | refine blk_alloc ?_ _)); refine blk_far ?_ NB158_188.out _; (with_reducible repeat (first | refine blk_drewN ?_ _ | refine blk_drew ?_ | refine blk_alloc ?_ _)); exact BK158.out) hb); have n7_ := Aside0.mk (blk_below (g := gb170) (o := .cells #[.int .i64 t159, .int .i64 t160, .slice Ao17 t161.length co17, .slice Ao18 t164.length co18, .slice Ao19 t167.length co19] 29 (0, 0)) (by (with_reducible repeat (first | refine blk_drewN ?_ _ | refine blk_drew ?_ | refine blk_alloc ?_ _)); refine blk_far ?_ NB170_188.out _; (with_reducible repeat (first | refine blk_drewN ?_ _ | refine blk_drew ?_ | refine blk_alloc ?_ _)); refine blk_far ?_ NB170_188.out _; (with_reducible repeat (first | refine blk_drewN ?_ _ | refine blk_drew ?_ | refine blk_alloc ?_ _)); refine blk_far ?_ NB170_188.out _; (with_reducible repeat (first | refine blk_drewN ?_ _ | refine blk_drew ?_ | refine blk_alloc ?_ _)); refine blk_far ?_ NB170_188.out _; (with_reducible repeat (first | refine blk_drewN ?_ _ | refine blk_drew ?_ | refine blk_alloc ?_ _)); refine blk_far ?_ NB170_188.out _; (with_reducible repeat (first | refine blk_drewN ?_ _ | refine blk_drew ?_ | refine blk_alloc ?_ _)); refine blk_far ?_ NB170_188.out _; (with_reducible repeat (first | refine blk_drewN ?_ _ | refine blk_drew ?_ | refine blk_alloc ?_ _)); exact BK170.out) hb); have n8_ := Aside0.mk (blk_below (g := gb188) (o := .cells #[.int .i64 ((rd_T31 y183 x31_1).f0.f0), .int .i64 ((rd_T31 y183 x31_1).f0.f1), .int .i64 ((rd_T31 y183 x31_1).f0.f2), .int .i64 ((rd_T31 y183 x31_1).f1.f0), .int .i64 ((rd_T31 y183 x31_1).f1.f1), .int .i64 ((rd_T31 y183 x31_1).f1.f2)] 31 (0, 0)) (by (with_reducible repeat (first | refine blk_drewN ?_ _ | refine blk_drew ?_ | refine blk_alloc ?_ _)); refine blk_put (cs := #[.int .i64 ((rd_T31 y183 x31_1).f0.f0), .int .i64 ((rd_T31 y183 x31_1).f0.f1), .int .i64 ((rd_T31 y183 x31_1).f0.f2), .int .i64 ((rd_T31 y183 x31_1).f1.f0), .int .i64 ((rd_T31 y183 x31_1).f1.f1), .int .i64 0]) ?_ 5 _ rfl; (with_reducible repeat (first | refine blk_drewN ?_ _ | refine blk_drew ?_ | refine blk_alloc ?_ _)); refine blk_put (cs := #[.int .i64 ((rd_T31 y183 x31_1).f0.f0), .int .i64 ((rd_T31 y183 x31_1).f0.f1), .int .i64 ((rd_T31 y183 x31_1).f0.f2), .int .i64 ((rd_T31 y183 x31_1).f1.f0), .int .i64 0, .int .i64 0]) ?_ 4 _ rfl; (with_reducible repeat (first | refine blk_drewN ?_ _ | refine blk_drew ?_ | refine blk_alloc ?_ _)); refine blk_put (cs := #[.int .i64 ((rd_T31 y183 x31_1).f0.f0), .int .i64 ((rd_T31 y183 x31_1).f0.f1), .int .i64 ((rd_T31 y183 x31_1).f0.f2), .int .i64 0, .int .i64 0, .int .i64 0]) ?_ 3 _ rfl; (with_reducible repeat (first | refine blk_drewN ?_ _ | refine blk_drew ?_ | refine blk_alloc ?_ _)); refine blk_put (cs := #[.int .i64 ((rd_T31 y183 x31_1).f0.f0), .int .i64 ((rd_T31 y183 x31_1).f0.f1), .int .i64 0, .int .i64 0, .int .i64 0, .int .i64 0]) ?_ 2 _ rfl; (with_reducible repeat (first | refine blk_drewN ?_ _ | refine blk_drew ?_ | refine blk_alloc ?_ _)); refine blk_put (cs := #[.int .i64 ((rd_T31 y183 x31_1).f0.f0), .int .i64 0, .int .i64 0, .int .i64 0, .int .i64 0, .int .i64 0]) ?_ 1 _ rfl; (with_reducible repeat (first | refine blk_drewN ?_ _ | refine blk_drew ?_ | refine blk_alloc ?_ _)); refine blk_put (cs := #[.int .i64 0, .int .i64 0, .int .i64 0, .int .i64 0, .int .i64 0, .int .i64 0]) ?_ 0 _ rfl; (with_reducible repeat (first | refine blk_drewN ?_ _ | refine blk_drew ?_ | refine blk_alloc ?_ _)); exact BK188.out) hb); have n9_ := Aside0.mk (below_step (by repeat (first | (with_reducible first | exact HB.out | apply below_alloc | apply pw_below_drewN | apply below_drew1 | refine below_set ?_ GE157.out | refine below_set ?_ GE158.out | refine below_set ?_ GE170.out | refine below_set ?_ GE188.out) | exact HB.out)) hb); clear HO_29; clear HO_171002; clear HO_171003; clear HO_171004; clear BK157; clear BK158; clear BK170; clear BK188; clear HB; have HO_29 := n0_; have HO_171002 := n1_; have HO_171003 := n2_; have HO_171004 := n3_; have HO192 := n4_; have BK157 := n5_; have BK158 := n6_; have BK170 := n7_; have BK188 := n8_; have HB := n9_; clear n0_ n1_ n2_ n3_ n4_ n5_ n6_ n7_ n8_ n9_; clear hb ho39; obtain ⟨Ao40, co40, eo40⟩ := Kd.R_slice HO192.out; subst eo40))
            go_loopg [41] k1 (fun kq v41 w' => ∃ (x41_2 : Int), v41 = .int .i64 x41_2 ∧ Aside0 (debuggerlaw42_SteppingCompares.l1 kq a3 y183 (y183.length : Int) x31_1 y190 (y190.length : Int) x41_2 t159 t160 t161 t164 t167 ((rd_T31 y183 x31_1).f0.f0) ((rd_T31 y183 x31_1).f0.f1) ((rd_T31 y183 x31_1).f0.f2) ((rd_T31 y183 x31_1).f1.f0) ((rd_T31 y183 x31_1).f1.f1) ((rd_T31 y183 x31_1).f1.f2) = some r) ∧ Aside0 (kq ≤ k1) ∧ Aside0 (Kd.R k31 31 w' w.heap.size (fun k_ => k_ ≠ gb188) (.slice (some ad187) y183.length co28) y183) ∧ Aside0 (Kd.R (Kd.int .i64) 3 w' w.heap.size (fun _ => True) (.slice Ao40 y190.length co40) y190) ∧ Aside0 (Kd.N k71 71 w' w.heap.size (fun k_ => some k_ ≠ ((.slice (some ad187) y183.length co28) : Value).ownBlock ∧ some k_ ≠ ((.slice Ao40 y190.length co40) : Value).ownBlock ∧ some k_ ≠ ((.slice Ao18 t164.length co18) : Value).ownBlock ∧ some k_ ≠ ((.slice Ao19 t167.length co19) : Value).ownBlock ∧ k_ ≠ gb157 ∧ k_ ≠ gb158 ∧ k_ ≠ gb170 ∧ k_ ≠ gb188) (.slice Ao17 t161.length co17) t161) ∧ Aside0 (Kd.R k73 73 w' w.heap.size (fun _ => True) (.slice Ao18 t164.length co18) t164) ∧ Aside0 (Kd.N k51 51 w' w.heap.size (fun k_ => some k_ ≠ ((.slice (some ad187) y183.length co28) : Value).ownBlock ∧ some k_ ≠ ((.slice Ao40 y190.length co40) : Value).ownBlock ∧ some k_ ≠ ((.slice Ao17 t161.length co17) : Value).ownBlock ∧ some k_ ≠ ((.slice Ao18 t164.length co18) : Value).ownBlock ∧ k_ ≠ gb157 ∧ k_ ≠ gb158 ∧ k_ ≠ gb170 ∧ k_ ≠ gb188) (.slice Ao19 t167.length co19) t167) ∧ Aside0 (w'.heap[gb157]? = some (.cells #[.int .i64 a1_0, .int .i64 a1_1, .int .i64 a1_2] 24 (0, 0))) ∧ Aside0 (w'.heap[gb158]? = some (.cells #[.int .i64 a2_0, .int .i64 a2_1, .int .i64 a2_2] 24 (0, 0))) ∧ Aside0 (w'.heap[gb170]? = some (.cells #[.int .i64 t159, .int .i64 t160, (.slice Ao17 t161.length co17), (.slice Ao18 t164.length co18), (.slice Ao19 t167.length co19)] 29 (0, 0))) ∧ Aside0 (w'.heap[gb188]? = some (.cells #[.int .i64 ((rd_T31 y183 x31_1).f0.f0), .int .i64 ((rd_T31 y183 x31_1).f0.f1), .int .i64 ((rd_T31 y183 x31_1).f0.f2), .int .i64 ((rd_T31 y183 x31_1).f1.f0), .int .i64 ((rd_T31 y183 x31_1).f1.f1), .int .i64 ((rd_T31 y183 x31_1).f1.f2)] 31 (0, 0))) ∧ Aside0 (Below w.heap.size w w'))
            case atStart => exact ⟨(0), (by first | rfl | (simp; done) | (simp [*]; done)), H', ⟨Nat.le_refl _⟩, ⟨by (with_reducible repeat (first | apply Kd.R_alloc | apply Kd.R_drewN | apply Kd.R_drew)); exact Kd.R_mono HO_29.out (fun _ hk => hk.2)⟩, ⟨by (with_reducible repeat (first | apply Kd.R_alloc | apply Kd.R_drewN | apply Kd.R_drew)); exact HO192.out⟩, ⟨by (with_reducible repeat (first | apply Kd.N_alloc | apply Kd.N_drewN | apply Kd.N_drew)); exact Kd.N_mono HO_171002.out (fun _ hk => ⟨hk.1.1.1, ⟨hk.2, ⟨hk.1.1.2.1, ⟨hk.1.1.2.2.1, ⟨hk.1.1.2.2.2.1, ⟨hk.1.1.2.2.2.2.1, ⟨hk.1.1.2.2.2.2.2, hk.1.2⟩⟩⟩⟩⟩⟩⟩)⟩, ⟨by (with_reducible repeat (first | apply Kd.R_alloc | apply Kd.R_drewN | apply Kd.R_drew)); exact HO_171003.out⟩, ⟨by (with_reducible repeat (first | apply Kd.N_alloc | apply Kd.N_drewN | apply Kd.N_drew)); exact Kd.N_mono HO_171004.out (fun _ hk => ⟨hk.1.1.1, ⟨hk.2, ⟨hk.1.1.2.1, ⟨hk.1.1.2.2.1, ⟨hk.1.1.2.2.2.1, ⟨hk.1.1.2.2.2.2.1, ⟨hk.1.1.2.2.2.2.2, hk.1.2⟩⟩⟩⟩⟩⟩⟩)⟩, ⟨by (with_reducible repeat (first | refine blk_drewN ?_ _ | refine blk_drew ?_ | refine blk_alloc ?_ _)); exact BK157.out⟩, ⟨by (with_reducible repeat (first | refine blk_drewN ?_ _ | refine blk_drew ?_ | refine blk_alloc ?_ _)); exact BK158.out⟩, ⟨by (with_reducible repeat (first | refine blk_drewN ?_ _ | refine blk_drew ?_ | refine blk_alloc ?_ _)); exact BK170.out⟩, ⟨by (with_reducible repeat (first | refine blk_drewN ?_ _ | refine blk_drew ?_ | refine blk_alloc ?_ _)); exact BK188.out⟩, ⟨by repeat (first | (with_reducible first | exact HB.out | apply below_alloc | apply pw_below_drewN | apply below_drew1 | refine below_set ?_ GE157.out | refine below_set ?_ GE158.out | refine below_set ?_ GE170.out | refine below_set ?_ GE188.out) | exact HB.out)⟩⟩
            case round =>
              clear H'
              try clear c1
              try clear p1
              try clear q1
              try clear hx1
              try clear c2
              try clear p2
              try clear c3
              try clear c6
              try clear p6
              try clear c7
              try clear c8
              try clear c14
              try clear c15
              try clear p18
              try clear q18
              try clear hx18
              try clear c29
              try clear c29b0
              try clear c30
              try clear c30b0
              try clear c31
              try clear c31b0
              try clear c34
              try clear c35
              try clear c36
              try clear hcz16_0
              try clear hcz16_1
              try clear hcz16_2
              try clear hcz16_3
              try clear hcz16_4
              try clear hcz37_0
              try clear hcz37_1
              try clear hcz37_2
              try clear hcz37_3
              try clear hcz37_4
              try clear hcz37_5
              try clear hfz16_0
              try clear hfz16_1
              try clear hfz16_2
              try clear hfz16_3
              try clear hfz16_4
              try clear hfz37_0
              try clear hfz37_1
              try clear hfz37_2
              try clear hfz37_3
              try clear hfz37_4
              try clear hfz37_5
              try clear hx187_0
              try clear hx187_1
              try clear hx187_2
              try clear hx187_3
              try clear hx187_4
              try clear hx187_5
              try clear p187
              try clear p2
              try clear q187
              obtain ⟨x41_2, rfl, HA, HK2, HO_29, HO_39, HO_171002, HO_171003, HO_171004, BK157, BK158, BK170, BK188, HB⟩ := hrel
              cases gk with
              | zero => exact absurd HA.out (by simp [debuggerlaw42_SteppingCompares.l1])
              | succ k2 =>
                have H := HA.out
                clear HA
                simp only [debuggerlaw42_SteppingCompares.l1] at H
                by_cases c41 : x41_2 < (y190.length : Int)
                · rw [if_pos c41] at H
                  have c41b0 : decide (x41_2 < (y190.length : Int)) = true := decide_eq_true c41
                  clear c41
                  by_cases c42 : 0 ≤ x41_2
                  · rw [if_pos c42] at H
                    have c42b0 : decide (0 ≤ x41_2) = true := decide_eq_true c42
                    clear c42
                    by_cases c43 : x41_2 < (y190.length : Int)
                    · rw [if_pos c43] at H
                      have c43b0 : decide (x41_2 < (y190.length : Int)) = true := decide_eq_true c43
                      clear c43
                      replace H := Option.bind_eq_some_iff.mp H
                      obtain ⟨t194, A440, H⟩ := H
                      replace H : ((debuggerref42_Nested.f k2 t159 t160 t161 t164 t167 ((rd_T31 y183 x31_1).f0.f0) ((rd_T31 y183 x31_1).f0.f1) ((rd_T31 y183 x31_1).f0.f2) ((rd_T31 y183 x31_1).f1.f0) ((rd_T31 y183 x31_1).f1.f1) ((rd_T31 y183 x31_1).f1.f2)).bind fun t195 => (if (t194 != t195) = true then (some false) else ((stepping_Stops.f k2 t159 t160 t161 t164 t167 (rd y190 x41_2) ((rd_T31 y183 x31_1).f0.f0) ((rd_T31 y183 x31_1).f0.f1) ((rd_T31 y183 x31_1).f0.f2) ((rd_T31 y183 x31_1).f1.f0) ((rd_T31 y183 x31_1).f1.f1) ((rd_T31 y183 x31_1).f1.f2)).bind fun t196 => ((debuggerref42_Stops.f k2 t159 t160 t161 t164 t167 (rd y190 x41_2) ((rd_T31 y183 x31_1).f0.f0) ((rd_T31 y183 x31_1).f0.f1) ((rd_T31 y183 x31_1).f0.f2) ((rd_T31 y183 x31_1).f1.f0) ((rd_T31 y183 x31_1).f1.f1) ((rd_T31 y183 x31_1).f1.f2)).bind fun t197 => (if (t196 != t197) = true then (some false) else (debuggerlaw42_SteppingCompares.l1 k2 a3 y183 (y183.length : Int) x31_1 y190 (y190.length : Int) (wrap64 (x41_2 + 1)) t159 t160 t161 t164 t167 ((rd_T31 y183 x31_1).f0.f0) ((rd_T31 y183 x31_1).f0.f1) ((rd_T31 y183 x31_1).f0.f2) ((rd_T31 y183 x31_1).f1.f0) ((rd_T31 y183 x31_1).f1.f1) ((rd_T31 y183 x31_1).f1.f2))))))) = some r := H
                      have A44 := Aside0.mk A440
                      clear A440
                      replace H := Option.bind_eq_some_iff.mp H
                      obtain ⟨t195, A450, H⟩ := H
                      replace H : (if (t194 != t195) = true then (some false) else ((stepping_Stops.f k2 t159 t160 t161 t164 t167 (rd y190 x41_2) ((rd_T31 y183 x31_1).f0.f0) ((rd_T31 y183 x31_1).f0.f1) ((rd_T31 y183 x31_1).f0.f2) ((rd_T31 y183 x31_1).f1.f0) ((rd_T31 y183 x31_1).f1.f1) ((rd_T31 y183 x31_1).f1.f2)).bind fun t196 => ((debuggerref42_Stops.f k2 t159 t160 t161 t164 t167 (rd y190 x41_2) ((rd_T31 y183 x31_1).f0.f0) ((rd_T31 y183 x31_1).f0.f1) ((rd_T31 y183 x31_1).f0.f2) ((rd_T31 y183 x31_1).f1.f0) ((rd_T31 y183 x31_1).f1.f1) ((rd_T31 y183 x31_1).f1.f2)).bind fun t197 => (if (t196 != t197) = true then (some false) else (debuggerlaw42_SteppingCompares.l1 k2 a3 y183 (y183.length : Int) x31_1 y190 (y190.length : Int) (wrap64 (x41_2 + 1)) t159 t160 t161 t164 t167 ((rd_T31 y183 x31_1).f0.f0) ((rd_T31 y183 x31_1).f0.f1) ((rd_T31 y183 x31_1).f0.f2) ((rd_T31 y183 x31_1).f1.f0) ((rd_T31 y183 x31_1).f1.f1) ((rd_T31 y183 x31_1).f1.f2)))))) = some r := H
                      have A45 := Aside0.mk A450
                      clear A450
                      by_cases c46 : (t194 != t195) = true
                      · rw [if_pos c46] at H
                        have c46b0 : (t194 != t195) = true := c46
                        (try (have c46b1 : decide (t194 = t195) = false := by simpa using c46))
                        (try (have c46b2 : (t194 == t195) = false := by simpa using c46))
                        (try (have c46b3 : ¬ (t194 = t195) := by simpa using c46))
                        clear c46
                        obtain rfl := Option.some.inj H
                        have p193 : 0 ≤ (x41_2 : Int) := of_decide_eq_true (by first | (with_reducible assumption) | assumption)
                        have q193 : x41_2 < (y190.length : Int) := of_decide_eq_true (by first | (with_reducible assumption) | assumption)
                        obtain ⟨ad193, e193, hx193_0⟩ := Kd.at_int (Kd.R_reads' HO_39.out).2.2 x41_2 p193 q193
                        cases e193
                        replace p193 := eq_true p193
                        replace q193 := eq_true q193
                        try go_wp2
                        have n0_ := Aside0.mk (Kd.R_drew HO_29.out)
                        have n1_ := Aside0.mk (Kd.R_drew HO_39.out)
                        have n2_ := Aside0.mk (Kd.N_drew HO_171002.out)
                        have n3_ := Aside0.mk (Kd.R_drew HO_171003.out)
                        have n4_ := Aside0.mk (Kd.N_drew HO_171004.out)
                        have n5_ := Aside0.mk (blk_drew BK157.out)
                        have n6_ := Aside0.mk (blk_drew BK158.out)
                        have n7_ := Aside0.mk (blk_drew BK170.out)
                        have n8_ := Aside0.mk (blk_drew BK188.out)
                        have n9_ := Aside0.mk (below_drew1 HB.out)
                        clear HO_29
                        clear HO_39
                        clear HO_171002
                        clear HO_171003
                        clear HO_171004
                        clear BK157
                        clear BK158
                        clear BK170
                        clear BK188
                        clear HB
                        have HO_29 := n0_
                        have HO_39 := n1_
                        have HO_171002 := n2_
                        have HO_171003 := n3_
                        have HO_171004 := n4_
                        have BK157 := n5_
                        have BK158 := n6_
                        have BK170 := n7_
                        have BK188 := n8_
                        have HB := n9_
                        clear n0_ n1_ n2_ n3_ n4_ n5_ n6_ n7_ n8_ n9_
                        refine start_ (n := 30) (S := fun w' => w'.cell? ⟨gb170, 0, none⟩ = some (.int .i64 t159) ∧ w'.cell? ⟨gb170, 1, none⟩ = some (.int .i64 t160) ∧ w'.cell? ⟨gb170, 2, none⟩ = some (.slice Ao17 t161.length co17) ∧ w'.cell? ⟨gb170, 3, none⟩ = some (.slice Ao18 t164.length co18) ∧ w'.cell? ⟨gb170, 4, none⟩ = some (.slice Ao19 t167.length co19) ∧ w'.cell? ⟨gb188, 0, none⟩ = some (.int .i64 ((rd_T31 y183 x31_1).f0.f0)) ∧ w'.cell? ⟨gb188, 1, none⟩ = some (.int .i64 ((rd_T31 y183 x31_1).f0.f1)) ∧ w'.cell? ⟨gb188, 2, none⟩ = some (.int .i64 ((rd_T31 y183 x31_1).f0.f2)) ∧ w'.cell? ⟨gb188, 3, none⟩ = some (.int .i64 ((rd_T31 y183 x31_1).f1.f0)) ∧ w'.cell? ⟨gb188, 4, none⟩ = some (.int .i64 ((rd_T31 y183 x31_1).f1.f1)) ∧ w'.cell? ⟨gb188, 5, none⟩ = some (.int .i64 ((rd_T31 y183 x31_1).f1.f2))) (ds := []) #[false, false, false, false, false, false, false, false, false, false, false, false, false, false, false, false, false, false, false, false, false, false, false, false, false, false, false, false, false, false] (by kernel_rfl) rfl rfl ⟨(blk_cell BK170.out 0).trans rfl, (blk_cell BK170.out 1).trans rfl, (blk_cell BK170.out 2).trans rfl, (blk_cell BK170.out 3).trans rfl, (blk_cell BK170.out 4).trans rfl, (blk_cell BK188.out 0).trans rfl, (blk_cell BK188.out 1).trans rfl, (blk_cell BK188.out 2).trans rfl, (blk_cell BK188.out 3).trans rfl, (blk_cell BK188.out 4).trans rfl, (blk_cell BK188.out 5).trans rfl⟩ (fun hHeld => ?_); refine with_tabW debuggerlaw42_SteppingCompares.tab8 debuggerlaw42_SteppingCompares.bits8 (fun HT_ HW_ => ?_)
                        generalize wr.drew = w47 at HO_29 HO_39 HO_171002 HO_171003 HO_171004 BK157 BK158 BK170 BK188 HB hHeld ⊢
                        refine pure_ (i := 1) (N := some 46) (v := ?_) (a' := ?_) #[false, true, false, false, false, false, false, false, false, false, false, false, false, false, false, false, false, false, false, false, false, false, false, false, false, false, false, false, false, false] rfl rfl (any_of HT_.out (by kernel_rfl)) (fun _ _ _ h => h) (Or.inl ⟨by rfl, ?_⟩) ?_ ?_
                        rotate_left
                        · intro w'
                          go_simp
                          with_reducible rfl
                        rotate_left
                        · simp only [Act.put, List.setIfInBounds_toArray, List.set_cons_zero, List.set_cons_succ, i64_w, i32_w]
                          rfl
                        refine pure_ (i := 3) (N := some 48) (v := ?_) (a' := ?_) #[false, true, false, true, false, false, false, false, false, false, false, false, false, false, false, false, false, false, false, false, false, false, false, false, false, false, false, false, false, false] rfl rfl (any_of HT_.out (by kernel_rfl)) (fun _ _ _ h => h) (Or.inl ⟨by rfl, ?_⟩) ?_ ?_
                        rotate_left
                        · intro w'
                          go_simp
                          with_reducible rfl
                        rotate_left
                        · simp only [Act.put, List.setIfInBounds_toArray, List.set_cons_zero, List.set_cons_succ, i64_w, i32_w]
                          rfl
                        refine pure_ (i := 7) (N := some 52) (v := ?_) (a' := ?_) #[false, true, false, true, false, false, false, true, false, false, false, false, false, false, false, false, false, false, false, false, false, false, false, false, false, false, false, false, false, false] rfl rfl (any_of HT_.out (by kernel_rfl)) (fun _ _ _ h => h) (Or.inl ⟨by rfl, ?_⟩) ?_ ?_
                        rotate_left
                        · intro w'
                          go_simp
                          with_reducible rfl
                        rotate_left
                        · simp only [Act.put, List.setIfInBounds_toArray, List.set_cons_zero, List.set_cons_succ, i64_w, i32_w]
                          rfl
                        refine pure_ (i := 9) (N := some 54) (v := ?_) (a' := ?_) #[false, true, false, true, false, false, false, true, false, true, false, false, false, false, false, false, false, false, false, false, false, false, false, false, false, false, false, false, false, false] rfl rfl (any_of HT_.out (by kernel_rfl)) (fun _ _ _ h => h) (Or.inl ⟨by rfl, ?_⟩) ?_ ?_
                        rotate_left
                        · intro w'
                          go_simp
                          with_reducible rfl
                        rotate_left
                        · simp only [Act.put, List.setIfInBounds_toArray, List.set_cons_zero, List.set_cons_succ, i64_w, i32_w]
                          rfl
                        refine take_ (i := 0) (N := some 45) (v := ?_) (a' := ?_) #[true, true, false, true, false, false, false, true, false, true, false, false, false, false, false, false, false, false, false, false, false, false, false, false, false, false, false, false, false, false] rfl rfl (take_ofW HT_.out HW_.out (by kernel_rfl)) (fun _ _ _ h => h) (Or.inl ⟨by rfl, ?_⟩) hHeld ?_ ?_
                        rotate_left
                        · rintro w' ⟨s0, s1, s2, s3, s4, s5, s6, s7, s8, s9, s10⟩
                          go_simp
                          with_reducible rfl
                        rotate_left
                        · simp only [Act.put, List.setIfInBounds_toArray, List.set_cons_zero, List.set_cons_succ, i64_w, i32_w]
                          rfl
                        refine take_ (i := 2) (N := some 47) (v := ?_) (a' := ?_) #[true, true, true, true, false, false, false, true, false, true, false, false, false, false, false, false, false, false, false, false, false, false, false, false, false, false, false, false, false, false] rfl rfl (take_ofW HT_.out HW_.out (by kernel_rfl)) (fun _ _ _ h => h) (Or.inl ⟨by rfl, ?_⟩) hHeld ?_ ?_
                        rotate_left
                        · rintro w' ⟨s0, s1, s2, s3, s4, s5, s6, s7, s8, s9, s10⟩
                          go_simp
                          with_reducible rfl
                        rotate_left
                        · simp only [Act.put, List.setIfInBounds_toArray, List.set_cons_zero, List.set_cons_succ, i64_w, i32_w]
                          rfl
                        refine take_ (i := 4) (N := some 49) (v := ?_) (a' := ?_) #[true, true, true, true, true, false, false, true, false, true, false, false, false, false, false, false, false, false, false, false, false, false, false, false, false, false, false, false, false, false] rfl rfl (take_ofW HT_.out HW_.out (by kernel_rfl)) (fun _ _ _ h => h) (Or.inl ⟨by rfl, ?_⟩) hHeld ?_ ?_
                        rotate_left
                        · rintro w' ⟨s0, s1, s2, s3, s4, s5, s6, s7, s8, s9, s10⟩
                          go_simp
                          with_reducible rfl
                        rotate_left
                        · simp only [Act.put, List.setIfInBounds_toArray, List.set_cons_zero, List.set_cons_succ, i64_w, i32_w]
                          rfl
                        refine take_ (i := 6) (N := some 51) (v := ?_) (a' := ?_) #[true, true, true, true, true, false, true, true, false, true, false, false, false, false, false, false, false, false, false, false, false, false, false, false, false, false, false, false, false, false] rfl rfl (take_ofW HT_.out HW_.out (by kernel_rfl)) (fun _ _ _ h => h) (Or.inl ⟨by rfl, ?_⟩) hHeld ?_ ?_
                        rotate_left
                        · rintro w' ⟨s0, s1, s2, s3, s4, s5, s6, s7, s8, s9, s10⟩
                          go_simp
                          with_reducible rfl
                        rotate_left
                        · simp only [Act.put, List.setIfInBounds_toArray, List.set_cons_zero, List.set_cons_succ, i64_w, i32_w]
                          rfl
                        refine take_ (i := 8) (N := some 53) (v := ?_) (a' := ?_) #[true, true, true, true, true, false, true, true, true, true, false, false, false, false, false, false, false, false, false, false, false, false, false, false, false, false, false, false, false, false] rfl rfl (take_ofW HT_.out HW_.out (by kernel_rfl)) (fun _ _ _ h => h) (Or.inl ⟨by rfl, ?_⟩) hHeld ?_ ?_
                        rotate_left
                        · rintro w' ⟨s0, s1, s2, s3, s4, s5, s6, s7, s8, s9, s10⟩
                          go_simp
                          with_reducible rfl
                        rotate_left
                        · simp only [Act.put, List.setIfInBounds_toArray, List.set_cons_zero, List.set_cons_succ, i64_w, i32_w]
                          rfl
                        refine take_ (i := 10) (N := some 55) (v := ?_) (a' := ?_) #[true, true, true, true, true, false, true, true, true, true, true, false, false, false, false, false, false, false, false, false, false, false, false, false, false, false, false, false, false, false] rfl rfl (take_ofW HT_.out HW_.out (by kernel_rfl)) (fun _ _ _ h => h) (Or.inl ⟨by rfl, ?_⟩) hHeld ?_ ?_
                        rotate_left
                        · rintro w' ⟨s0, s1, s2, s3, s4, s5, s6, s7, s8, s9, s10⟩
                          go_simp
                          with_reducible rfl
                        rotate_left
                        · simp only [Act.put, List.setIfInBounds_toArray, List.set_cons_zero, List.set_cons_succ, i64_w, i32_w]
                          rfl
                        refine one_ (i := 5) (N := some 50) #[true, true, true, true, true, true, true, true, true, true, true, false, false, false, false, false, false, false, false, false, false, false, false, false, false, false, false, false, false, false] rfl rfl (one_of HT_.out (by kernel_rfl)) (by decide) (fun K hK => ?_)
                        refine goes_ Try.func9 (by kernel_rfl) rfl #[.agg #[.int .i64 t159, .int .i64 t160, .slice Ao17 t161.length co17, .slice Ao18 t164.length co18, .slice Ao19 t167.length co19], .agg #[.int .i64 ((rd_T31 y183 x31_1).f0.f0), .int .i64 ((rd_T31 y183 x31_1).f0.f1), .int .i64 ((rd_T31 y183 x31_1).f0.f2)], .agg #[.int .i64 ((rd_T31 y183 x31_1).f1.f0), .int .i64 ((rd_T31 y183 x31_1).f1.f1), .int .i64 ((rd_T31 y183 x31_1).f1.f2)]] (by rfl) rfl rfl (by (try simp only [List.map_toArray, List.map_cons, List.map_nil]); first | done | rfl | (simp only [List.length_drop, List.length_take]; rfl)) ?_
                        with_reducible refine (stepping_Nested.calls k2 t159 t160 _ _ t161 _ _ t164 _ _ t167 ((rd_T31 y183 x31_1).f0.f0) ((rd_T31 y183 x31_1).f0.f1) ((rd_T31 y183 x31_1).f0.f2) ((rd_T31 y183 x31_1).f1.f0) ((rd_T31 y183 x31_1).f1.f1) ((rd_T31 y183 x31_1).f1.f2) t194 _ ?side1 ?side2 ?side3 ?side4 ?side5 ?side6 A44.out).mono ?_
                        (case side1 => repeat (first | exact (Kd.N_reads' HO_171002.out).2.2 | (with_reducible refine Kd.C_alloc ?_ _) | (with_reducible refine Kd.C_drewN ?_ _) | (with_reducible refine Kd.C_drew ?_)))
                        (case side2 => exact (Kd.N_reads' HO_171002.out).2.1)
                        (case side3 => repeat (first | exact (Kd.R_reads' HO_171003.out).2.2 | (with_reducible refine Kd.C_alloc ?_ _) | (with_reducible refine Kd.C_drewN ?_ _) | (with_reducible refine Kd.C_drew ?_)))
                        (case side4 => exact (Kd.R_reads' HO_171003.out).2.1)
                        (case side5 => repeat (first | exact (Kd.N_reads' HO_171004.out).2.2 | (with_reducible refine Kd.C_alloc ?_ _) | (with_reducible refine Kd.C_drewN ?_ _) | (with_reducible refine Kd.C_drew ?_)))
                        (case side6 => exact (Kd.N_reads' HO_171004.out).2.1)
                        rintro e w48 ⟨rfl, hb⟩
                        refine ⟨_, rfl, ?_⟩
                        have n0_ := Aside0.mk (Kd.R_below (by (with_reducible repeat (first | apply Kd.R_alloc | apply Kd.R_drewN | apply Kd.R_drew)); exact HO_29.out) hb)
                        have n1_ := Aside0.mk (Kd.R_below (by (with_reducible repeat (first | apply Kd.R_alloc | apply Kd.R_drewN | apply Kd.R_drew)); exact HO_39.out) hb)
                        have n2_ := Aside0.mk (Kd.N_below (by (with_reducible repeat (first | apply Kd.N_alloc | apply Kd.N_drewN | apply Kd.N_drew)); exact HO_171002.out) hb)
                        have n3_ := Aside0.mk (Kd.R_below (by (with_reducible repeat (first | apply Kd.R_alloc | apply Kd.R_drewN | apply Kd.R_drew)); exact HO_171003.out) hb)
                        have n4_ := Aside0.mk (Kd.N_below (by (with_reducible repeat (first | apply Kd.N_alloc | apply Kd.N_drewN | apply Kd.N_drew)); exact HO_171004.out) hb)
                        have n5_ := Aside0.mk (blk_below (g := gb157) (o := .cells #[.int .i64 a1_0, .int .i64 a1_1, .int .i64 a1_2] 24 (0, 0)) (by (with_reducible repeat (first | refine blk_drewN ?_ _ | refine blk_drew ?_ | refine blk_alloc ?_ _)); exact BK157.out) hb)
                        have n6_ := Aside0.mk (blk_below (g := gb158) (o := .cells #[.int .i64 a2_0, .int .i64 a2_1, .int .i64 a2_2] 24 (0, 0)) (by (with_reducible repeat (first | refine blk_drewN ?_ _ | refine blk_drew ?_ | refine blk_alloc ?_ _)); exact BK158.out) hb)
                        have n7_ := Aside0.mk (blk_below (g := gb170) (o := .cells #[.int .i64 t159, .int .i64 t160, .slice Ao17 t161.length co17, .slice Ao18 t164.length co18, .slice Ao19 t167.length co19] 29 (0, 0)) (by (with_reducible repeat (first | refine blk_drewN ?_ _ | refine blk_drew ?_ | refine blk_alloc ?_ _)); exact BK170.out) hb)
                        have n8_ := Aside0.mk (blk_below (g := gb188) (o := .cells #[.int .i64 ((rd_T31 y183 x31_1).f0.f0), .int .i64 ((rd_T31 y183 x31_1).f0.f1), .int .i64 ((rd_T31 y183 x31_1).f0.f2), .int .i64 ((rd_T31 y183 x31_1).f1.f0), .int .i64 ((rd_T31 y183 x31_1).f1.f1), .int .i64 ((rd_T31 y183 x31_1).f1.f2)] 31 (0, 0)) (by (with_reducible repeat (first | refine blk_drewN ?_ _ | refine blk_drew ?_ | refine blk_alloc ?_ _)); exact BK188.out) hb)
                        have n9_ := Aside0.mk (below_step (by repeat (first | (with_reducible first | exact HB.out | apply below_alloc | apply pw_below_drewN | apply below_drew1 | refine below_set ?_ GE157.out | refine below_set ?_ GE158.out | refine below_set ?_ GE170.out | refine below_set ?_ GE188.out) | exact HB.out)) hb)
                        clear HO_29
                        clear HO_39
                        clear HO_171002
                        clear HO_171003
                        clear HO_171004
                        clear BK157
                        clear BK158
                        clear BK170
                        clear BK188
                        clear HB
                        have HO_29 := n0_
                        have HO_39 := n1_
                        have HO_171002 := n2_
                        have HO_171003 := n3_
                        have HO_171004 := n4_
                        have BK157 := n5_
                        have BK158 := n6_
                        have BK170 := n7_
                        have BK188 := n8_
                        have HB := n9_
                        clear n0_ n1_ n2_ n3_ n4_ n5_ n6_ n7_ n8_ n9_
                        (try clear hb)
                        (try clear hb2)
                        (try clear hk)
                        (try clear hi)
                        refine hK.out _ _ ⟨(blk_cell BK170.out 0).trans rfl, (blk_cell BK170.out 1).trans rfl, (blk_cell BK170.out 2).trans rfl, (blk_cell BK170.out 3).trans rfl, (blk_cell BK170.out 4).trans rfl, (blk_cell BK188.out 0).trans rfl, (blk_cell BK188.out 1).trans rfl, (blk_cell BK188.out 2).trans rfl, (blk_cell BK188.out 3).trans rfl, (blk_cell BK188.out 4).trans rfl, (blk_cell BK188.out 5).trans rfl⟩ (fun hHeld => ?_)
                        clear hK K
                        refine norm_ (a' := ?_) ?_ ?_
                        rotate_left
                        · show Act.put _ (some 50) _ = _
                          simp only [Act.put, List.setIfInBounds_toArray, List.set_cons_zero, List.set_cons_succ, i64_w, i32_w]
                          rfl
                        refine one_ (i := 11) (N := some 56) #[true, true, true, true, true, true, true, true, true, true, true, true, false, false, false, false, false, false, false, false, false, false, false, false, false, false, false, false, false, false] rfl rfl (one_of HT_.out (by kernel_rfl)) (by decide) (fun K hK => ?_)
                        refine goes_ Try.func10 (by kernel_rfl) rfl #[.agg #[.int .i64 t159, .int .i64 t160, .slice Ao17 t161.length co17, .slice Ao18 t164.length co18, .slice Ao19 t167.length co19], .agg #[.int .i64 ((rd_T31 y183 x31_1).f0.f0), .int .i64 ((rd_T31 y183 x31_1).f0.f1), .int .i64 ((rd_T31 y183 x31_1).f0.f2)], .agg #[.int .i64 ((rd_T31 y183 x31_1).f1.f0), .int .i64 ((rd_T31 y183 x31_1).f1.f1), .int .i64 ((rd_T31 y183 x31_1).f1.f2)]] (by rfl) rfl rfl (by (try simp only [List.map_toArray, List.map_cons, List.map_nil]); first | done | rfl | (simp only [List.length_drop, List.length_take]; rfl)) ?_
                        with_reducible refine (debuggerref42_Nested.calls k2 t159 t160 _ _ t161 _ _ t164 _ _ t167 ((rd_T31 y183 x31_1).f0.f0) ((rd_T31 y183 x31_1).f0.f1) ((rd_T31 y183 x31_1).f0.f2) ((rd_T31 y183 x31_1).f1.f0) ((rd_T31 y183 x31_1).f1.f1) ((rd_T31 y183 x31_1).f1.f2) t195 _ ?side1 ?side2 ?side3 ?side4 ?side5 ?side6 A45.out).mono ?_
                        (case side1 => repeat (first | exact (Kd.N_reads' HO_171002.out).2.2 | (with_reducible refine Kd.C_alloc ?_ _) | (with_reducible refine Kd.C_drewN ?_ _) | (with_reducible refine Kd.C_drew ?_)))
                        (case side2 => exact (Kd.N_reads' HO_171002.out).2.1)
                        (case side3 => repeat (first | exact (Kd.R_reads' HO_171003.out).2.2 | (with_reducible refine Kd.C_alloc ?_ _) | (with_reducible refine Kd.C_drewN ?_ _) | (with_reducible refine Kd.C_drew ?_)))
                        (case side4 => exact (Kd.R_reads' HO_171003.out).2.1)
                        (case side5 => repeat (first | exact (Kd.N_reads' HO_171004.out).2.2 | (with_reducible refine Kd.C_alloc ?_ _) | (with_reducible refine Kd.C_drewN ?_ _) | (with_reducible refine Kd.C_drew ?_)))
                        (case side6 => exact (Kd.N_reads' HO_171004.out).2.1)
                        rintro e w49 ⟨rfl, hb⟩
                        refine ⟨_, rfl, ?_⟩
                        have n0_ := Aside0.mk (Kd.R_below (by (with_reducible repeat (first | apply Kd.R_alloc | apply Kd.R_drewN | apply Kd.R_drew)); exact HO_29.out) hb)
                        have n1_ := Aside0.mk (Kd.R_below (by (with_reducible repeat (first | apply Kd.R_alloc | apply Kd.R_drewN | apply Kd.R_drew)); exact HO_39.out) hb)
                        have n2_ := Aside0.mk (Kd.N_below (by (with_reducible repeat (first | apply Kd.N_alloc | apply Kd.N_drewN | apply Kd.N_drew)); exact HO_171002.out) hb)
                        have n3_ := Aside0.mk (Kd.R_below (by (with_reducible repeat (first | apply Kd.R_alloc | apply Kd.R_drewN | apply Kd.R_drew)); exact HO_171003.out) hb)
                        have n4_ := Aside0.mk (Kd.N_below (by (with_reducible repeat (first | apply Kd.N_alloc | apply Kd.N_drewN | apply Kd.N_drew)); exact HO_171004.out) hb)
                        have n5_ := Aside0.mk (blk_below (g := gb157) (o := .cells #[.int .i64 a1_0, .int .i64 a1_1, .int .i64 a1_2] 24 (0, 0)) (by (with_reducible repeat (first | refine blk_drewN ?_ _ | refine blk_drew ?_ | refine blk_alloc ?_ _)); exact BK157.out) hb)
                        have n6_ := Aside0.mk (blk_below (g := gb158) (o := .cells #[.int .i64 a2_0, .int .i64 a2_1, .int .i64 a2_2] 24 (0, 0)) (by (with_reducible repeat (first | refine blk_drewN ?_ _ | refine blk_drew ?_ | refine blk_alloc ?_ _)); exact BK158.out) hb)
                        have n7_ := Aside0.mk (blk_below (g := gb170) (o := .cells #[.int .i64 t159, .int .i64 t160, .slice Ao17 t161.length co17, .slice Ao18 t164.length co18, .slice Ao19 t167.length co19] 29 (0, 0)) (by (with_reducible repeat (first | refine blk_drewN ?_ _ | refine blk_drew ?_ | refine blk_alloc ?_ _)); exact BK170.out) hb)
                        have n8_ := Aside0.mk (blk_below (g := gb188) (o := .cells #[.int .i64 ((rd_T31 y183 x31_1).f0.f0), .int .i64 ((rd_T31 y183 x31_1).f0.f1), .int .i64 ((rd_T31 y183 x31_1).f0.f2), .int .i64 ((rd_T31 y183 x31_1).f1.f0), .int .i64 ((rd_T31 y183 x31_1).f1.f1), .int .i64 ((rd_T31 y183 x31_1).f1.f2)] 31 (0, 0)) (by (with_reducible repeat (first | refine blk_drewN ?_ _ | refine blk_drew ?_ | refine blk_alloc ?_ _)); exact BK188.out) hb)
                        have n9_ := Aside0.mk (below_step (by repeat (first | (with_reducible first | exact HB.out | apply below_alloc | apply pw_below_drewN | apply below_drew1 | refine below_set ?_ GE157.out | refine below_set ?_ GE158.out | refine below_set ?_ GE170.out | refine below_set ?_ GE188.out) | exact HB.out)) hb)
                        clear HO_29
                        clear HO_39
                        clear HO_171002
                        clear HO_171003
                        clear HO_171004
                        clear BK157
                        clear BK158
                        clear BK170
                        clear BK188
                        clear HB
                        have HO_29 := n0_
                        have HO_39 := n1_
                        have HO_171002 := n2_
                        have HO_171003 := n3_
                        have HO_171004 := n4_
                        have BK157 := n5_
                        have BK158 := n6_
                        have BK170 := n7_
                        have BK188 := n8_
                        have HB := n9_
                        clear n0_ n1_ n2_ n3_ n4_ n5_ n6_ n7_ n8_ n9_
                        (try clear hb)
                        (try clear hb2)
                        (try clear hk)
                        (try clear hi)
                        refine hK.out _ _ ⟨(blk_cell BK170.out 0).trans rfl, (blk_cell BK170.out 1).trans rfl, (blk_cell BK170.out 2).trans rfl, (blk_cell BK170.out 3).trans rfl, (blk_cell BK170.out 4).trans rfl, (blk_cell BK188.out 0).trans rfl, (blk_cell BK188.out 1).trans rfl, (blk_cell BK188.out 2).trans rfl, (blk_cell BK188.out 3).trans rfl, (blk_cell BK188.out 4).trans rfl, (blk_cell BK188.out 5).trans rfl⟩ (fun hHeld => ?_)
                        clear hK K
                        refine norm_ (a' := ?_) ?_ ?_
                        rotate_left
                        · show Act.put _ (some 56) _ = _
                          simp only [Act.put, List.setIfInBounds_toArray, List.set_cons_zero, List.set_cons_succ, i64_w, i32_w]
                          rfl
                        refine pure_ (i := 12) (N := some 57) (v := ?_) (a' := ?_) #[true, true, true, true, true, true, true, true, true, true, true, true, true, false, false, false, false, false, false, false, false, false, false, false, false, false, false, false, false, false] rfl rfl (any_of HT_.out (by kernel_rfl)) (fun _ _ _ h => h) (Or.inl ⟨by rfl, ?_⟩) ?_ ?_
                        rotate_left
                        · intro w'
                          go_simp
                          with_reducible rfl
                        rotate_left
                        · simp only [Act.put, List.setIfInBounds_toArray, List.set_cons_zero, List.set_cons_succ, i64_w, i32_w]
                          rfl
                        refine pure_ (i := 13) (N := some 58) (v := ?_) (a' := ?_) #[true, true, true, true, true, true, true, true, true, true, true, true, true, true, false, false, false, false, false, false, false, false, false, false, false, false, false, false, false, false] rfl rfl (any_of HT_.out (by kernel_rfl)) (fun _ _ _ h => h) (Or.inl ⟨by rfl, ?_⟩) ?_ ?_
                        rotate_left
                        · intro w'
                          go_simp
                          with_reducible rfl
                        rotate_left
                        · simp only [Act.put, List.setIfInBounds_toArray, List.set_cons_zero, List.set_cons_succ, i64_w, i32_w]
                          rfl
                        refine pure_ (i := 14) (N := some 59) (v := undef) (a' := ?_) #[true, true, true, true, true, true, true, true, true, true, true, true, true, true, true, false, false, false, false, false, false, false, false, false, false, false, false, false, false, false] rfl rfl (any_of HT_.out (by kernel_rfl)) (fun _ _ _ h => h) (Or.inr ⟨by rfl, rfl⟩) ?_ ?_
                        rotate_left
                        · simp only [Act.put, List.setIfInBounds_toArray, List.set_cons_zero, List.set_cons_succ, i64_w, i32_w]
                          rfl
                        refine pure_ (i := 15) (N := some 60) (v := undef) (a' := ?_) #[true, true, true, true, true, true, true, true, true, true, true, true, true, true, true, true, false, false, false, false, false, false, false, false, false, false, false, false, false, false] rfl rfl (any_of HT_.out (by kernel_rfl)) (fun _ _ _ h => h) (Or.inr ⟨by rfl, rfl⟩) ?_ ?_
                        rotate_left
                        · simp only [Act.put, List.setIfInBounds_toArray, List.set_cons_zero, List.set_cons_succ, i64_w, i32_w]
                          rfl
                        refine pure_ (i := 16) (N := some 61) (v := undef) (a' := ?_) #[true, true, true, true, true, true, true, true, true, true, true, true, true, true, true, true, true, false, false, false, false, false, false, false, false, false, false, false, false, false] rfl rfl (any_of HT_.out (by kernel_rfl)) (fun _ _ _ h => h) (Or.inr ⟨by rfl, rfl⟩) ?_ ?_
                        rotate_left
                        · simp only [Act.put, List.setIfInBounds_toArray, List.set_cons_zero, List.set_cons_succ, i64_w, i32_w]
                          rfl
                        refine pure_ (i := 17) (N := some 62) (v := undef) (a' := ?_) #[true, true, true, true, true, true, true, true, true, true, true, true, true, true, true, true, true, true, false, false, false, false, false, false, false, false, false, false, false, false] rfl rfl (any_of HT_.out (by kernel_rfl)) (fun _ _ _ h => h) (Or.inr ⟨by rfl, rfl⟩) ?_ ?_
                        rotate_left
                        · simp only [Act.put, List.setIfInBounds_toArray, List.set_cons_zero, List.set_cons_succ, i64_w, i32_w]
                          rfl
                        refine pure_ (i := 18) (N := some 63) (v := undef) (a' := ?_) #[true, true, true, true, true, true, true, true, true, true, true, true, true, true, true, true, true, true, true, false, false, false, false, false, false, false, false, false, false, false] rfl rfl (any_of HT_.out (by kernel_rfl)) (fun _ _ _ h => h) (Or.inr ⟨by rfl, rfl⟩) ?_ ?_
                        rotate_left
                        · simp only [Act.put, List.setIfInBounds_toArray, List.set_cons_zero, List.set_cons_succ, i64_w, i32_w]
                          rfl
                        refine pure_ (i := 19) (N := some 64) (v := undef) (a' := ?_) #[true, true, true, true, true, true, true, true, true, true, true, true, true, true, true, true, true, true, true, true, false, false, false, false, false, false, false, false, false, false] rfl rfl (any_of HT_.out (by kernel_rfl)) (fun _ _ _ h => h) (Or.inr ⟨by rfl, rfl⟩) ?_ ?_
                        rotate_left
                        · simp only [Act.put, List.setIfInBounds_toArray, List.set_cons_zero, List.set_cons_succ, i64_w, i32_w]
                          rfl
                        refine pure_ (i := 20) (N := some 65) (v := undef) (a' := ?_) #[true, true, true, true, true, true, true, true, true, true, true, true, true, true, true, true, true, true, true, true, true, false, false, false, false, false, false, false, false, false] rfl rfl (any_of HT_.out (by kernel_rfl)) (fun _ _ _ h => h) (Or.inr ⟨by rfl, rfl⟩) ?_ ?_
                        rotate_left
                        · simp only [Act.put, List.setIfInBounds_toArray, List.set_cons_zero, List.set_cons_succ, i64_w, i32_w]
                          rfl
                        refine pure_ (i := 21) (N := some 66) (v := undef) (a' := ?_) #[true, true, true, true, true, true, true, true, true, true, true, true, true, true, true, true, true, true, true, true, true, true, false, false, false, false, false, false, false, false] rfl rfl (any_of HT_.out (by kernel_rfl)) (fun _ _ _ h => h) (Or.inr ⟨by rfl, rfl⟩) ?_ ?_
                        rotate_left
                        · simp only [Act.put, List.setIfInBounds_toArray, List.set_cons_zero, List.set_cons_succ, i64_w, i32_w]
                          rfl
                        refine pure_ (i := 22) (N := some 67) (v := undef) (a' := ?_) #[true, true, true, true, true, true, true, true, true, true, true, true, true, true, true, true, true, true, true, true, true, true, true, false, false, false, false, false, false, false] rfl rfl (any_of HT_.out (by kernel_rfl)) (fun _ _ _ h => h) (Or.inr ⟨by rfl, rfl⟩) ?_ ?_
                        rotate_left
                        · simp only [Act.put, List.setIfInBounds_toArray, List.set_cons_zero, List.set_cons_succ, i64_w, i32_w]
                          rfl
                        refine pure_ (i := 23) (N := some 68) (v := undef) (a' := ?_) #[true, true, true, true, true, true, true, true, true, true, true, true, true, true, true, true, true, true, true, true, true, true, true, true, false, false, false, false, false, false] rfl rfl (any_of HT_.out (by kernel_rfl)) (fun _ _ _ h => h) (Or.inr ⟨by rfl, rfl⟩) ?_ ?_
                        rotate_left
                        · simp only [Act.put, List.setIfInBounds_toArray, List.set_cons_zero, List.set_cons_succ, i64_w, i32_w]
                          rfl
                        refine pure_ (i := 24) (N := some 69) (v := undef) (a' := ?_) #[true, true, true, true, true, true, true, true, true, true, true, true, true, true, true, true, true, true, true, true, true, true, true, true, true, false, false, false, false, false] rfl rfl (any_of HT_.out (by kernel_rfl)) (fun _ _ _ h => h) (Or.inr ⟨by rfl, rfl⟩) ?_ ?_
                        rotate_left
                        · simp only [Act.put, List.setIfInBounds_toArray, List.set_cons_zero, List.set_cons_succ, i64_w, i32_w]
                          rfl
                        refine pure_ (i := 25) (N := some 70) (v := undef) (a' := ?_) #[true, true, true, true, true, true, true, true, true, true, true, true, true, true, true, true, true, true, true, true, true, true, true, true, true, true, false, false, false, false] rfl rfl (any_of HT_.out (by kernel_rfl)) (fun _ _ _ h => h) (Or.inr ⟨by rfl, rfl⟩) ?_ ?_
                        rotate_left
                        · simp only [Act.put, List.setIfInBounds_toArray, List.set_cons_zero, List.set_cons_succ, i64_w, i32_w]
                          rfl
                        refine pure_ (i := 26) (N := some 71) (v := undef) (a' := ?_) #[true, true, true, true, true, true, true, true, true, true, true, true, true, true, true, true, true, true, true, true, true, true, true, true, true, true, true, false, false, false] rfl rfl (any_of HT_.out (by kernel_rfl)) (fun _ _ _ h => h) (Or.inr ⟨by rfl, rfl⟩) ?_ ?_
                        rotate_left
                        · simp only [Act.put, List.setIfInBounds_toArray, List.set_cons_zero, List.set_cons_succ, i64_w, i32_w]
                          rfl
                        refine pure_ (i := 27) (N := some 72) (v := undef) (a' := ?_) #[true, true, true, true, true, true, true, true, true, true, true, true, true, true, true, true, true, true, true, true, true, true, true, true, true, true, true, true, false, false] rfl rfl (any_of HT_.out (by kernel_rfl)) (fun _ _ _ h => h) (Or.inr ⟨by rfl, rfl⟩) ?_ ?_
                        rotate_left
                        · simp only [Act.put, List.setIfInBounds_toArray, List.set_cons_zero, List.set_cons_succ, i64_w, i32_w]
                          rfl
                        refine pure_ (i := 28) (N := some 73) (v := undef) (a' := ?_) #[true, true, true, true, true, true, true, true, true, true, true, true, true, true, true, true, true, true, true, true, true, true, true, true, true, true, true, true, true, false] rfl rfl (any_of HT_.out (by kernel_rfl)) (fun _ _ _ h => h) (Or.inr ⟨by rfl, rfl⟩) ?_ ?_
                        rotate_left
                        · simp only [Act.put, List.setIfInBounds_toArray, List.set_cons_zero, List.set_cons_succ, i64_w, i32_w]
                          rfl
                        refine pure_ (i := 29) (N := some 74) (v := ?_) (a' := ?_) #[true, true, true, true, true, true, true, true, true, true, true, true, true, true, true, true, true, true, true, true, true, true, true, true, true, true, true, true, true, true] rfl rfl (any_of HT_.out (by kernel_rfl)) (fun _ _ _ h => h) (Or.inl ⟨by rfl, ?_⟩) ?_ ?_
                        rotate_left
                        · intro w'
                          go_simp
                          with_reducible rfl
                        rotate_left
                        · simp only [Act.put, List.setIfInBounds_toArray, List.set_cons_zero, List.set_cons_succ, i64_w, i32_w]
                          rfl
                        refine done_ (done_of HT_.out (by kernel_rfl)) ?_
                        try go_wp2
                        go_ret
                        exact ⟨by first | rfl | (simp [errW_none, errW_some] <;> rfl) | (simp [*, errW_none, errW_some] <;> rfl), by repeat (first | (with_reducible first | exact HB.out | apply below_alloc | apply pw_below_drewN | apply below_drew1 | refine below_set ?_ GE157.out | refine below_set ?_ GE158.out | refine below_set ?_ GE170.out | refine below_set ?_ GE188.out) | exact HB.out)⟩
                      · rw [if_neg c46] at H
                        have c46b0 : (t194 != t195) = false := by simpa using c46
                        (try (have c46b1 : decide (t194 = t195) = true := by simpa using c46))
                        (try (have c46b2 : (t194 == t195) = true := by simpa using c46))
                        clear c46
                        replace H := Option.bind_eq_some_iff.mp H
                        obtain ⟨t196, A500, H⟩ := H
                        replace H : ((debuggerref42_Stops.f k2 t159 t160 t161 t164 t167 (rd y190 x41_2) ((rd_T31 y183 x31_1).f0.f0) ((rd_T31 y183 x31_1).f0.f1) ((rd_T31 y183 x31_1).f0.f2) ((rd_T31 y183 x31_1).f1.f0) ((rd_T31 y183 x31_1).f1.f1) ((rd_T31 y183 x31_1).f1.f2)).bind fun t197 => (if (t196 != t197) = true then (some false) else (debuggerlaw42_SteppingCompares.l1 k2 a3 y183 (y183.length : Int) x31_1 y190 (y190.length : Int) (wrap64 (x41_2 + 1)) t159 t160 t161 t164 t167 ((rd_T31 y183 x31_1).f0.f0) ((rd_T31 y183 x31_1).f0.f1) ((rd_T31 y183 x31_1).f0.f2) ((rd_T31 y183 x31_1).f1.f0) ((rd_T31 y183 x31_1).f1.f1) ((rd_T31 y183 x31_1).f1.f2)))) = some r := H
                        have A50 := Aside0.mk A500
                        clear A500
                        replace H := Option.bind_eq_some_iff.mp H
                        obtain ⟨t197, A510, H⟩ := H
                        replace H : (if (t196 != t197) = true then (some false) else (debuggerlaw42_SteppingCompares.l1 k2 a3 y183 (y183.length : Int) x31_1 y190 (y190.length : Int) (wrap64 (x41_2 + 1)) t159 t160 t161 t164 t167 ((rd_T31 y183 x31_1).f0.f0) ((rd_T31 y183 x31_1).f0.f1) ((rd_T31 y183 x31_1).f0.f2) ((rd_T31 y183 x31_1).f1.f0) ((rd_T31 y183 x31_1).f1.f1) ((rd_T31 y183 x31_1).f1.f2))) = some r := H
                        have A51 := Aside0.mk A510
                        clear A510
                        by_cases c52 : (t196 != t197) = true
                        · rw [if_pos c52] at H
                          have c52b0 : (t196 != t197) = true := c52
                          (try (have c52b1 : decide (t196 = t197) = false := by simpa using c52))
                          (try (have c52b2 : (t196 == t197) = false := by simpa using c52))
                          (try (have c52b3 : ¬ (t196 = t197) := by simpa using c52))
                          clear c52
                          obtain rfl := Option.some.inj H
                          have p193 : 0 ≤ (x41_2 : Int) := of_decide_eq_true (by first | (with_reducible assumption) | assumption)
                          have q193 : x41_2 < (y190.length : Int) := of_decide_eq_true (by first | (with_reducible assumption) | assumption)
                          obtain ⟨ad193, e193, hx193_0⟩ := Kd.at_int (Kd.R_reads' HO_39.out).2.2 x41_2 p193 q193
                          cases e193
                          replace p193 := eq_true p193
                          replace q193 := eq_true q193
                          try go_wp2
                          have n0_ := Aside0.mk (Kd.R_drew HO_29.out)
                          have n1_ := Aside0.mk (Kd.R_drew HO_39.out)
                          have n2_ := Aside0.mk (Kd.N_drew HO_171002.out)
                          have n3_ := Aside0.mk (Kd.R_drew HO_171003.out)
                          have n4_ := Aside0.mk (Kd.N_drew HO_171004.out)
                          have n5_ := Aside0.mk (blk_drew BK157.out)
                          have n6_ := Aside0.mk (blk_drew BK158.out)
                          have n7_ := Aside0.mk (blk_drew BK170.out)
                          have n8_ := Aside0.mk (blk_drew BK188.out)
                          have n9_ := Aside0.mk (below_drew1 HB.out)
                          clear HO_29
                          clear HO_39
                          clear HO_171002
                          clear HO_171003
                          clear HO_171004
                          clear BK157
                          clear BK158
                          clear BK170
                          clear BK188
                          clear HB
                          have HO_29 := n0_
                          have HO_39 := n1_
                          have HO_171002 := n2_
                          have HO_171003 := n3_
                          have HO_171004 := n4_
                          have BK157 := n5_
                          have BK158 := n6_
                          have BK170 := n7_
                          have BK188 := n8_
                          have HB := n9_
                          clear n0_ n1_ n2_ n3_ n4_ n5_ n6_ n7_ n8_ n9_
                          refine start_ (n := 30) (S := fun w' => w'.cell? ⟨gb170, 0, none⟩ = some (.int .i64 t159) ∧ w'.cell? ⟨gb170, 1, none⟩ = some (.int .i64 t160) ∧ w'.cell? ⟨gb170, 2, none⟩ = some (.slice Ao17 t161.length co17) ∧ w'.cell? ⟨gb170, 3, none⟩ = some (.slice Ao18 t164.length co18) ∧ w'.cell? ⟨gb170, 4, none⟩ = some (.slice Ao19 t167.length co19) ∧ w'.cell? ⟨gb188, 0, none⟩ = some (.int .i64 ((rd_T31 y183 x31_1).f0.f0)) ∧ w'.cell? ⟨gb188, 1, none⟩ = some (.int .i64 ((rd_T31 y183 x31_1).f0.f1)) ∧ w'.cell? ⟨gb188, 2, none⟩ = some (.int .i64 ((rd_T31 y183 x31_1).f0.f2)) ∧ w'.cell? ⟨gb188, 3, none⟩ = some (.int .i64 ((rd_T31 y183 x31_1).f1.f0)) ∧ w'.cell? ⟨gb188, 4, none⟩ = some (.int .i64 ((rd_T31 y183 x31_1).f1.f1)) ∧ w'.cell? ⟨gb188, 5, none⟩ = some (.int .i64 ((rd_T31 y183 x31_1).f1.f2))) (ds := []) #[false, false, false, false, false, false, false, false, false, false, false, false, false, false, false, false, false, false, false, false, false, false, false, false, false, false, false, false, false, false] (by kernel_rfl) rfl rfl ⟨(blk_cell BK170.out 0).trans rfl, (blk_cell BK170.out 1).trans rfl, (blk_cell BK170.out 2).trans rfl, (blk_cell BK170.out 3).trans rfl, (blk_cell BK170.out 4).trans rfl, (blk_cell BK188.out 0).trans rfl, (blk_cell BK188.out 1).trans rfl, (blk_cell BK188.out 2).trans rfl, (blk_cell BK188.out 3).trans rfl, (blk_cell BK188.out 4).trans rfl, (blk_cell BK188.out 5).trans rfl⟩ (fun hHeld => ?_); refine with_tabW debuggerlaw42_SteppingCompares.tab8 debuggerlaw42_SteppingCompares.bits8 (fun HT_ HW_ => ?_)
                          generalize wr.drew = w53 at HO_29 HO_39 HO_171002 HO_171003 HO_171004 BK157 BK158 BK170 BK188 HB hHeld ⊢
                          refine pure_ (i := 1) (N := some 46) (v := ?_) (a' := ?_) #[false, true, false, false, false, false, false, false, false, false, false, false, false, false, false, false, false, false, false, false, false, false, false, false, false, false, false, false, false, false] rfl rfl (any_of HT_.out (by kernel_rfl)) (fun _ _ _ h => h) (Or.inl ⟨by rfl, ?_⟩) ?_ ?_
                          rotate_left
                          · intro w'
                            go_simp
                            with_reducible rfl
                          rotate_left
                          · simp only [Act.put, List.setIfInBounds_toArray, List.set_cons_zero, List.set_cons_succ, i64_w, i32_w]
                            rfl
                          refine pure_ (i := 3) (N := some 48) (v := ?_) (a' := ?_) #[false, true, false, true, false, false, false, false, false, false, false, false, false, false, false, false, false, false, false, false, false, false, false, false, false, false, false, false, false, false] rfl rfl (any_of HT_.out (by kernel_rfl)) (fun _ _ _ h => h) (Or.inl ⟨by rfl, ?_⟩) ?_ ?_
                          rotate_left
                          · intro w'
                            go_simp
                            with_reducible rfl
                          rotate_left
                          · simp only [Act.put, List.setIfInBounds_toArray, List.set_cons_zero, List.set_cons_succ, i64_w, i32_w]
                            rfl
                          refine pure_ (i := 7) (N := some 52) (v := ?_) (a' := ?_) #[false, true, false, true, false, false, false, true, false, false, false, false, false, false, false, false, false, false, false, false, false, false, false, false, false, false, false, false, false, false] rfl rfl (any_of HT_.out (by kernel_rfl)) (fun _ _ _ h => h) (Or.inl ⟨by rfl, ?_⟩) ?_ ?_
                          rotate_left
                          · intro w'
                            go_simp
                            with_reducible rfl
                          rotate_left
                          · simp only [Act.put, List.setIfInBounds_toArray, List.set_cons_zero, List.set_cons_succ, i64_w, i32_w]
                            rfl
                          refine pure_ (i := 9) (N := some 54) (v := ?_) (a' := ?_) #[false, true, false, true, false, false, false, true, false, true, false, false, false, false, false, false, false, false, false, false, false, false, false, false, false, false, false, false, false, false] rfl rfl (any_of HT_.out (by kernel_rfl)) (fun _ _ _ h => h) (Or.inl ⟨by rfl, ?_⟩) ?_ ?_
                          rotate_left
                          · intro w'
                            go_simp
                            with_reducible rfl
                          rotate_left
                          · simp only [Act.put, List.setIfInBounds_toArray, List.set_cons_zero, List.set_cons_succ, i64_w, i32_w]
                            rfl
                          refine take_ (i := 0) (N := some 45) (v := ?_) (a' := ?_) #[true, true, false, true, false, false, false, true, false, true, false, false, false, false, false, false, false, false, false, false, false, false, false, false, false, false, false, false, false, false] rfl rfl (take_ofW HT_.out HW_.out (by kernel_rfl)) (fun _ _ _ h => h) (Or.inl ⟨by rfl, ?_⟩) hHeld ?_ ?_
                          rotate_left
                          · rintro w' ⟨s0, s1, s2, s3, s4, s5, s6, s7, s8, s9, s10⟩
                            go_simp
                            with_reducible rfl
                          rotate_left
                          · simp only [Act.put, List.setIfInBounds_toArray, List.set_cons_zero, List.set_cons_succ, i64_w, i32_w]
                            rfl
                          refine take_ (i := 2) (N := some 47) (v := ?_) (a' := ?_) #[true, true, true, true, false, false, false, true, false, true, false, false, false, false, false, false, false, false, false, false, false, false, false, false, false, false, false, false, false, false] rfl rfl (take_ofW HT_.out HW_.out (by kernel_rfl)) (fun _ _ _ h => h) (Or.inl ⟨by rfl, ?_⟩) hHeld ?_ ?_
                          rotate_left
                          · rintro w' ⟨s0, s1, s2, s3, s4, s5, s6, s7, s8, s9, s10⟩
                            go_simp
                            with_reducible rfl
                          rotate_left
                          · simp only [Act.put, List.setIfInBounds_toArray, List.set_cons_zero, List.set_cons_succ, i64_w, i32_w]
                            rfl
                          refine take_ (i := 4) (N := some 49) (v := ?_) (a' := ?_) #[true, true, true, true, true, false, false, true, false, true, false, false, false, false, false, false, false, false, false, false, false, false, false, false, false, false, false, false, false, false] rfl rfl (take_ofW HT_.out HW_.out (by kernel_rfl)) (fun _ _ _ h => h) (Or.inl ⟨by rfl, ?_⟩) hHeld ?_ ?_
                          rotate_left
                          · rintro w' ⟨s0, s1, s2, s3, s4, s5, s6, s7, s8, s9, s10⟩
                            go_simp
                            with_reducible rfl
                          rotate_left
                          · simp only [Act.put, List.setIfInBounds_toArray, List.set_cons_zero, List.set_cons_succ, i64_w, i32_w]
                            rfl
                          refine take_ (i := 6) (N := some 51) (v := ?_) (a' := ?_) #[true, true, true, true, true, false, true, true, false, true, false, false, false, false, false, false, false, false, false, false, false, false, false, false, false, false, false, false, false, false] rfl rfl (take_ofW HT_.out HW_.out (by kernel_rfl)) (fun _ _ _ h => h) (Or.inl ⟨by rfl, ?_⟩) hHeld ?_ ?_
                          rotate_left
                          · rintro w' ⟨s0, s1, s2, s3, s4, s5, s6, s7, s8, s9, s10⟩
                            go_simp
                            with_reducible rfl
                          rotate_left
                          · simp only [Act.put, List.setIfInBounds_toArray, List.set_cons_zero, List.set_cons_succ, i64_w, i32_w]
                            rfl
                          refine take_ (i := 8) (N := some 53) (v := ?_) (a' := ?_) #[true, true, true, true, true, false, true, true, true, true, false, false, false, false, false, false, false, false, false, false, false, false, false, false, false, false, false, false, false, false] rfl rfl (take_ofW HT_.out HW_.out (by kernel_rfl)) (fun _ _ _ h => h) (Or.inl ⟨by rfl, ?_⟩) hHeld ?_ ?_
                          rotate_left
                          · rintro w' ⟨s0, s1, s2, s3, s4, s5, s6, s7, s8, s9, s10⟩
                            go_simp
                            with_reducible rfl
                          rotate_left
                          · simp only [Act.put, List.setIfInBounds_toArray, List.set_cons_zero, List.set_cons_succ, i64_w, i32_w]
                            rfl
                          refine take_ (i := 10) (N := some 55) (v := ?_) (a' := ?_) #[true, true, true, true, true, false, true, true, true, true, true, false, false, false, false, false, false, false, false, false, false, false, false, false, false, false, false, false, false, false] rfl rfl (take_ofW HT_.out HW_.out (by kernel_rfl)) (fun _ _ _ h => h) (Or.inl ⟨by rfl, ?_⟩) hHeld ?_ ?_
                          rotate_left
                          · rintro w' ⟨s0, s1, s2, s3, s4, s5, s6, s7, s8, s9, s10⟩
                            go_simp
                            with_reducible rfl
                          rotate_left
                          · simp only [Act.put, List.setIfInBounds_toArray, List.set_cons_zero, List.set_cons_succ, i64_w, i32_w]
                            rfl
                          refine one_ (i := 5) (N := some 50) #[true, true, true, true, true, true, true, true, true, true, true, false, false, false, false, false, false, false, false, false, false, false, false, false, false, false, false, false, false, false] rfl rfl (one_of HT_.out (by kernel_rfl)) (by decide) (fun K hK => ?_)
                          refine goes_ Try.func9 (by kernel_rfl) rfl #[.agg #[.int .i64 t159, .int .i64 t160, .slice Ao17 t161.length co17, .slice Ao18 t164.length co18, .slice Ao19 t167.length co19], .agg #[.int .i64 ((rd_T31 y183 x31_1).f0.f0), .int .i64 ((rd_T31 y183 x31_1).f0.f1), .int .i64 ((rd_T31 y183 x31_1).f0.f2)], .agg #[.int .i64 ((rd_T31 y183 x31_1).f1.f0), .int .i64 ((rd_T31 y183 x31_1).f1.f1), .int .i64 ((rd_T31 y183 x31_1).f1.f2)]] (by rfl) rfl rfl (by (try simp only [List.map_toArray, List.map_cons, List.map_nil]); first | done | rfl | (simp only [List.length_drop, List.length_take]; rfl)) ?_
                          with_reducible refine (stepping_Nested.calls k2 t159 t160 _ _ t161 _ _ t164 _ _ t167 ((rd_T31 y183 x31_1).f0.f0) ((rd_T31 y183 x31_1).f0.f1) ((rd_T31 y183 x31_1).f0.f2) ((rd_T31 y183 x31_1).f1.f0) ((rd_T31 y183 x31_1).f1.f1) ((rd_T31 y183 x31_1).f1.f2) t194 _ ?side1 ?side2 ?side3 ?side4 ?side5 ?side6 A44.out).mono ?_
                          (case side1 => repeat (first | exact (Kd.N_reads' HO_171002.out).2.2 | (with_reducible refine Kd.C_alloc ?_ _) | (with_reducible refine Kd.C_drewN ?_ _) | (with_reducible refine Kd.C_drew ?_)))
                          (case side2 => exact (Kd.N_reads' HO_171002.out).2.1)
                          (case side3 => repeat (first | exact (Kd.R_reads' HO_171003.out).2.2 | (with_reducible refine Kd.C_alloc ?_ _) | (with_reducible refine Kd.C_drewN ?_ _) | (with_reducible refine Kd.C_drew ?_)))
                          (case side4 => exact (Kd.R_reads' HO_171003.out).2.1)
                          (case side5 => repeat (first | exact (Kd.N_reads' HO_171004.out).2.2 | (with_reducible refine Kd.C_alloc ?_ _) | (with_reducible refine Kd.C_drewN ?_ _) | (with_reducible refine Kd.C_drew ?_)))
                          (case side6 => exact (Kd.N_reads' HO_171004.out).2.1)
                          rintro e w54 ⟨rfl, hb⟩
                          refine ⟨_, rfl, ?_⟩
                          have n0_ := Aside0.mk (Kd.R_below (by (with_reducible repeat (first | apply Kd.R_alloc | apply Kd.R_drewN | apply Kd.R_drew)); exact HO_29.out) hb)
                          have n1_ := Aside0.mk (Kd.R_below (by (with_reducible repeat (first | apply Kd.R_alloc | apply Kd.R_drewN | apply Kd.R_drew)); exact HO_39.out) hb)
                          have n2_ := Aside0.mk (Kd.N_below (by (with_reducible repeat (first | apply Kd.N_alloc | apply Kd.N_drewN | apply Kd.N_drew)); exact HO_171002.out) hb)
                          have n3_ := Aside0.mk (Kd.R_below (by (with_reducible repeat (first | apply Kd.R_alloc | apply Kd.R_drewN | apply Kd.R_drew)); exact HO_171003.out) hb)
                          have n4_ := Aside0.mk (Kd.N_below (by (with_reducible repeat (first | apply Kd.N_alloc | apply Kd.N_drewN | apply Kd.N_drew)); exact HO_171004.out) hb)
                          have n5_ := Aside0.mk (blk_below (g := gb157) (o := .cells #[.int .i64 a1_0, .int .i64 a1_1, .int .i64 a1_2] 24 (0, 0)) (by (with_reducible repeat (first | refine blk_drewN ?_ _ | refine blk_drew ?_ | refine blk_alloc ?_ _)); exact BK157.out) hb)
                          have n6_ := Aside0.mk (blk_below (g := gb158) (o := .cells #[.int .i64 a2_0, .int .i64 a2_1, .int .i64 a2_2] 24 (0, 0)) (by (with_reducible repeat (first | refine blk_drewN ?_ _ | refine blk_drew ?_ | refine blk_alloc ?_ _)); exact BK158.out) hb)
                          have n7_ := Aside0.mk (blk_below (g := gb170) (o := .cells #[.int .i64 t159, .int .i64 t160, .slice Ao17 t161.length co17, .slice Ao18 t164.length co18, .slice Ao19 t167.length co19] 29 (0, 0)) (by (with_reducible repeat (first | refine blk_drewN ?_ _ | refine blk_drew ?_ | refine blk_alloc ?_ _)); exact BK170.out) hb)
                          have n8_ := Aside0.mk (blk_below (g := gb188) (o := .cells #[.int .i64 ((rd_T31 y183 x31_1).f0.f0), .int .i64 ((rd_T31 y183 x31_1).f0.f1), .int .i64 ((rd_T31 y183 x31_1).f0.f2), .int .i64 ((rd_T31 y183 x31_1).f1.f0), .int .i64 ((rd_T31 y183 x31_1).f1.f1), .int .i64 ((rd_T31 y183 x31_1).f1.f2)] 31 (0, 0)) (by (with_reducible repeat (first | refine blk_drewN ?_ _ | refine blk_drew ?_ | refine blk_alloc ?_ _)); exact BK188.out) hb)
                          have n9_ := Aside0.mk (below_step (by repeat (first | (with_reducible first | exact HB.out | apply below_alloc | apply pw_below_drewN | apply below_drew1 | refine below_set ?_ GE157.out | refine below_set ?_ GE158.out | refine below_set ?_ GE170.out | refine below_set ?_ GE188.out) | exact HB.out)) hb)
                          clear HO_29
                          clear HO_39
                          clear HO_171002
                          clear HO_171003
                          clear HO_171004
                          clear BK157
                          clear BK158
                          clear BK170
                          clear BK188
                          clear HB
                          have HO_29 := n0_
                          have HO_39 := n1_
                          have HO_171002 := n2_
                          have HO_171003 := n3_
                          have HO_171004 := n4_
                          have BK157 := n5_
                          have BK158 := n6_
                          have BK170 := n7_
                          have BK188 := n8_
                          have HB := n9_
                          clear n0_ n1_ n2_ n3_ n4_ n5_ n6_ n7_ n8_ n9_
                          (try clear hb)
                          (try clear hb2)
                          (try clear hk)
                          (try clear hi)
                          refine hK.out _ _ ⟨(blk_cell BK170.out 0).trans rfl, (blk_cell BK170.out 1).trans rfl, (blk_cell BK170.out 2).trans rfl, (blk_cell BK170.out 3).trans rfl, (blk_cell BK170.out 4).trans rfl, (blk_cell BK188.out 0).trans rfl, (blk_cell BK188.out 1).trans rfl, (blk_cell BK188.out 2).trans rfl, (blk_cell BK188.out 3).trans rfl, (blk_cell BK188.out 4).trans rfl, (blk_cell BK188.out 5).trans rfl⟩ (fun hHeld => ?_)
                          clear hK K
                          refine norm_ (a' := ?_) ?_ ?_
                          rotate_left
                          · show Act.put _ (some 50) _ = _
                            simp only [Act.put, List.setIfInBounds_toArray, List.set_cons_zero, List.set_cons_succ, i64_w, i32_w]
                            rfl
                          refine one_ (i := 11) (N := some 56) #[true, true, true, true, true, true, true, true, true, true, true, true, false, false, false, false, false, false, false, false, false, false, false, false, false, false, false, false, false, false] rfl rfl (one_of HT_.out (by kernel_rfl)) (by decide) (fun K hK => ?_)
                          refine goes_ Try.func10 (by kernel_rfl) rfl #[.agg #[.int .i64 t159, .int .i64 t160, .slice Ao17 t161.length co17, .slice Ao18 t164.length co18, .slice Ao19 t167.length co19], .agg #[.int .i64 ((rd_T31 y183 x31_1).f0.f0), .int .i64 ((rd_T31 y183 x31_1).f0.f1), .int .i64 ((rd_T31 y183 x31_1).f0.f2)], .agg #[.int .i64 ((rd_T31 y183 x31_1).f1.f0), .int .i64 ((rd_T31 y183 x31_1).f1.f1), .int .i64 ((rd_T31 y183 x31_1).f1.f2)]] (by rfl) rfl rfl (by (try simp only [List.map_toArray, List.map_cons, List.map_nil]); first | done | rfl | (simp only [List.length_drop, List.length_take]; rfl)) ?_
                          with_reducible refine (debuggerref42_Nested.calls k2 t159 t160 _ _ t161 _ _ t164 _ _ t167 ((rd_T31 y183 x31_1).f0.f0) ((rd_T31 y183 x31_1).f0.f1) ((rd_T31 y183 x31_1).f0.f2) ((rd_T31 y183 x31_1).f1.f0) ((rd_T31 y183 x31_1).f1.f1) ((rd_T31 y183 x31_1).f1.f2) t195 _ ?side1 ?side2 ?side3 ?side4 ?side5 ?side6 A45.out).mono ?_
                          (case side1 => repeat (first | exact (Kd.N_reads' HO_171002.out).2.2 | (with_reducible refine Kd.C_alloc ?_ _) | (with_reducible refine Kd.C_drewN ?_ _) | (with_reducible refine Kd.C_drew ?_)))
                          (case side2 => exact (Kd.N_reads' HO_171002.out).2.1)
                          (case side3 => repeat (first | exact (Kd.R_reads' HO_171003.out).2.2 | (with_reducible refine Kd.C_alloc ?_ _) | (with_reducible refine Kd.C_drewN ?_ _) | (with_reducible refine Kd.C_drew ?_)))
                          (case side4 => exact (Kd.R_reads' HO_171003.out).2.1)
                          (case side5 => repeat (first | exact (Kd.N_reads' HO_171004.out).2.2 | (with_reducible refine Kd.C_alloc ?_ _) | (with_reducible refine Kd.C_drewN ?_ _) | (with_reducible refine Kd.C_drew ?_)))
                          (case side6 => exact (Kd.N_reads' HO_171004.out).2.1)
                          rintro e w55 ⟨rfl, hb⟩
                          refine ⟨_, rfl, ?_⟩
                          have n0_ := Aside0.mk (Kd.R_below (by (with_reducible repeat (first | apply Kd.R_alloc | apply Kd.R_drewN | apply Kd.R_drew)); exact HO_29.out) hb)
                          have n1_ := Aside0.mk (Kd.R_below (by (with_reducible repeat (first | apply Kd.R_alloc | apply Kd.R_drewN | apply Kd.R_drew)); exact HO_39.out) hb)
                          have n2_ := Aside0.mk (Kd.N_below (by (with_reducible repeat (first | apply Kd.N_alloc | apply Kd.N_drewN | apply Kd.N_drew)); exact HO_171002.out) hb)
                          have n3_ := Aside0.mk (Kd.R_below (by (with_reducible repeat (first | apply Kd.R_alloc | apply Kd.R_drewN | apply Kd.R_drew)); exact HO_171003.out) hb)
                          have n4_ := Aside0.mk (Kd.N_below (by (with_reducible repeat (first | apply Kd.N_alloc | apply Kd.N_drewN | apply Kd.N_drew)); exact HO_171004.out) hb)
                          have n5_ := Aside0.mk (blk_below (g := gb157) (o := .cells #[.int .i64 a1_0, .int .i64 a1_1, .int .i64 a1_2] 24 (0, 0)) (by (with_reducible repeat (first | refine blk_drewN ?_ _ | refine blk_drew ?_ | refine blk_alloc ?_ _)); exact BK157.out) hb)
                          have n6_ := Aside0.mk (blk_below (g := gb158) (o := .cells #[.int .i64 a2_0, .int .i64 a2_1, .int .i64 a2_2] 24 (0, 0)) (by (with_reducible repeat (first | refine blk_drewN ?_ _ | refine blk_drew ?_ | refine blk_alloc ?_ _)); exact BK158.out) hb)
                          have n7_ := Aside0.mk (blk_below (g := gb170) (o := .cells #[.int .i64 t159, .int .i64 t160, .slice Ao17 t161.length co17, .slice Ao18 t164.length co18, .slice Ao19 t167.length co19] 29 (0, 0)) (by (with_reducible repeat (first | refine blk_drewN ?_ _ | refine blk_drew ?_ | refine blk_alloc ?_ _)); exact BK170.out) hb)
                          have n8_ := Aside0.mk (blk_below (g := gb188) (o := .cells #[.int .i64 ((rd_T31 y183 x31_1).f0.f0), .int .i64 ((rd_T31 y183 x31_1).f0.f1), .int .i64 ((rd_T31 y183 x31_1).f0.f2), .int .i64 ((rd_T31 y183 x31_1).f1.f0), .int .i64 ((rd_T31 y183 x31_1).f1.f1), .int .i64 ((rd_T31 y183 x31_1).f1.f2)] 31 (0, 0)) (by (with_reducible repeat (first | refine blk_drewN ?_ _ | refine blk_drew ?_ | refine blk_alloc ?_ _)); exact BK188.out) hb)
                          have n9_ := Aside0.mk (below_step (by repeat (first | (with_reducible first | exact HB.out | apply below_alloc | apply pw_below_drewN | apply below_drew1 | refine below_set ?_ GE157.out | refine below_set ?_ GE158.out | refine below_set ?_ GE170.out | refine below_set ?_ GE188.out) | exact HB.out)) hb)
                          clear HO_29
                          clear HO_39
                          clear HO_171002
                          clear HO_171003
                          clear HO_171004
                          clear BK157
                          clear BK158
                          clear BK170
                          clear BK188
                          clear HB
                          have HO_29 := n0_
                          have HO_39 := n1_
                          have HO_171002 := n2_
                          have HO_171003 := n3_
                          have HO_171004 := n4_
                          have BK157 := n5_
                          have BK158 := n6_
                          have BK170 := n7_
                          have BK188 := n8_
                          have HB := n9_
                          clear n0_ n1_ n2_ n3_ n4_ n5_ n6_ n7_ n8_ n9_
                          (try clear hb)
                          (try clear hb2)
                          (try clear hk)
                          (try clear hi)
                          refine hK.out _ _ ⟨(blk_cell BK170.out 0).trans rfl, (blk_cell BK170.out 1).trans rfl, (blk_cell BK170.out 2).trans rfl, (blk_cell BK170.out 3).trans rfl, (blk_cell BK170.out 4).trans rfl, (blk_cell BK188.out 0).trans rfl, (blk_cell BK188.out 1).trans rfl, (blk_cell BK188.out 2).trans rfl, (blk_cell BK188.out 3).trans rfl, (blk_cell BK188.out 4).trans rfl, (blk_cell BK188.out 5).trans rfl⟩ (fun hHeld => ?_)
                          clear hK K
                          refine norm_ (a' := ?_) ?_ ?_
                          rotate_left
                          · show Act.put _ (some 56) _ = _
                            simp only [Act.put, List.setIfInBounds_toArray, List.set_cons_zero, List.set_cons_succ, i64_w, i32_w]
                            rfl
                          refine pure_ (i := 12) (N := some 57) (v := ?_) (a' := ?_) #[true, true, true, true, true, true, true, true, true, true, true, true, true, false, false, false, false, false, false, false, false, false, false, false, false, false, false, false, false, false] rfl rfl (any_of HT_.out (by kernel_rfl)) (fun _ _ _ h => h) (Or.inl ⟨by rfl, ?_⟩) ?_ ?_
                          rotate_left
                          · intro w'
                            go_simp
                            with_reducible rfl
                          rotate_left
                          · simp only [Act.put, List.setIfInBounds_toArray, List.set_cons_zero, List.set_cons_succ, i64_w, i32_w]
                            rfl
                          refine pure_ (i := 13) (N := some 58) (v := ?_) (a' := ?_) #[true, true, true, true, true, true, true, true, true, true, true, true, true, true, false, false, false, false, false, false, false, false, false, false, false, false, false, false, false, false] rfl rfl (any_of HT_.out (by kernel_rfl)) (fun _ _ _ h => h) (Or.inl ⟨by rfl, ?_⟩) ?_ ?_
                          rotate_left
                          · intro w'
                            go_simp
                            with_reducible rfl
                          rotate_left
                          · simp only [Act.put, List.setIfInBounds_toArray, List.set_cons_zero, List.set_cons_succ, i64_w, i32_w]
                            rfl
                          refine pure_ (i := 15) (N := some 60) (v := ?_) (a' := ?_) #[true, true, true, true, true, true, true, true, true, true, true, true, true, true, false, true, false, false, false, false, false, false, false, false, false, false, false, false, false, false] rfl rfl (any_of HT_.out (by kernel_rfl)) (fun _ _ _ h => h) (Or.inl ⟨by rfl, ?_⟩) ?_ ?_
                          rotate_left
                          · intro w'
                            go_simp
                            with_reducible rfl
                          rotate_left
                          · simp only [Act.put, List.setIfInBounds_toArray, List.set_cons_zero, List.set_cons_succ, i64_w, i32_w]
                            rfl
                          refine pure_ (i := 16) (N := some 61) (v := ?_) (a' := ?_) #[true, true, true, true, true, true, true, true, true, true, true, true, true, true, false, true, true, false, false, false, false, false, false, false, false, false, false, false, false, false] rfl rfl (any_of HT_.out (by kernel_rfl)) (fun _ _ _ h => h) (Or.inl ⟨by rfl, ?_⟩) ?_ ?_
                          rotate_left
                          · intro w'
                            go_simp
                            with_reducible rfl
                          rotate_left
                          · simp only [Act.put, List.setIfInBounds_toArray, List.set_cons_zero, List.set_cons_succ, i64_w, i32_w]
                            rfl
                          refine pure_ (i := 18) (N := some 63) (v := ?_) (a' := ?_) #[true, true, true, true, true, true, true, true, true, true, true, true, true, true, false, true, true, false, true, false, false, false, false, false, false, false, false, false, false, false] rfl rfl (any_of HT_.out (by kernel_rfl)) (fun _ _ _ h => h) (Or.inl ⟨by rfl, ?_⟩) ?_ ?_
                          rotate_left
                          · intro w'
                            go_simp
                            with_reducible rfl
                          rotate_left
                          · simp only [Act.put, List.setIfInBounds_toArray, List.set_cons_zero, List.set_cons_succ, i64_w, i32_w]
                            rfl
                          refine pure_ (i := 22) (N := some 67) (v := ?_) (a' := ?_) #[true, true, true, true, true, true, true, true, true, true, true, true, true, true, false, true, true, false, true, false, false, false, true, false, false, false, false, false, false, false] rfl rfl (any_of HT_.out (by kernel_rfl)) (fun _ _ _ h => h) (Or.inl ⟨by rfl, ?_⟩) ?_ ?_
                          rotate_left
                          · intro w'
                            go_simp
                            with_reducible rfl
                          rotate_left
                          · simp only [Act.put, List.setIfInBounds_toArray, List.set_cons_zero, List.set_cons_succ, i64_w, i32_w]
                            rfl
                          refine pure_ (i := 23) (N := some 68) (v := ?_) (a' := ?_) #[true, true, true, true, true, true, true, true, true, true, true, true, true, true, false, true, true, false, true, false, false, false, true, true, false, false, false, false, false, false] rfl rfl (any_of HT_.out (by kernel_rfl)) (fun _ _ _ h => h) (Or.inl ⟨by rfl, ?_⟩) ?_ ?_
                          rotate_left
                          · intro w'
                            go_simp
                            with_reducible rfl
                          rotate_left
                          · simp only [Act.put, List.setIfInBounds_toArray, List.set_cons_zero, List.set_cons_succ, i64_w, i32_w]
                            rfl
                          refine pure_ (i := 25) (N := some 70) (v := ?_) (a' := ?_) #[true, true, true, true, true, true, true, true, true, true, true, true, true, true, false, true, true, false, true, false, false, false, true, true, false, true, false, false, false, false] rfl rfl (any_of HT_.out (by kernel_rfl)) (fun _ _ _ h => h) (Or.inl ⟨by rfl, ?_⟩) ?_ ?_
                          rotate_left
                          · intro w'
                            go_simp
                            with_reducible rfl
                          rotate_left
                          · simp only [Act.put, List.setIfInBounds_toArray, List.set_cons_zero, List.set_cons_succ, i64_w, i32_w]
                            rfl
                          refine take_ (i := 14) (N := some 59) (v := ?_) (a' := ?_) #[true, true, true, true, true, true, true, true, true, true, true, true, true, true, true, true, true, false, true, false, false, false, true, true, false, true, false, false, false, false] rfl rfl (take_ofW HT_.out HW_.out (by kernel_rfl)) (fun _ _ _ h => h) (Or.inl ⟨by rfl, ?_⟩) hHeld ?_ ?_
                          rotate_left
                          · rintro w' ⟨s0, s1, s2, s3, s4, s5, s6, s7, s8, s9, s10⟩
                            go_simp
                            with_reducible rfl
                          rotate_left
                          · simp only [Act.put, List.setIfInBounds_toArray, List.set_cons_zero, List.set_cons_succ, i64_w, i32_w]
                            rfl
                          refine take_ (i := 17) (N := some 62) (v := ?_) (a' := ?_) #[true, true, true, true, true, true, true, true, true, true, true, true, true, true, true, true, true, true, true, false, false, false, true, true, false, true, false, false, false, false] rfl rfl (take_ofW HT_.out HW_.out (by kernel_rfl)) (fun _ _ _ h => h) (Or.inl ⟨by rfl, ?_⟩) hHeld ?_ ?_
                          rotate_left
                          · rintro w' ⟨s0, s1, s2, s3, s4, s5, s6, s7, s8, s9, s10⟩
                            go_simp
                            with_reducible rfl
                          rotate_left
                          · simp only [Act.put, List.setIfInBounds_toArray, List.set_cons_zero, List.set_cons_succ, i64_w, i32_w]
                            rfl
                          refine take_ (i := 19) (N := some 64) (v := ?_) (a' := ?_) #[true, true, true, true, true, true, true, true, true, true, true, true, true, true, true, true, true, true, true, true, false, false, true, true, false, true, false, false, false, false] rfl rfl (take_ofW HT_.out HW_.out (by kernel_rfl)) (fun _ _ _ h => h) (Or.inl ⟨by rfl, ?_⟩) hHeld ?_ ?_
                          rotate_left
                          · rintro w' ⟨s0, s1, s2, s3, s4, s5, s6, s7, s8, s9, s10⟩
                            go_simp
                            with_reducible rfl
                          rotate_left
                          · simp only [Act.put, List.setIfInBounds_toArray, List.set_cons_zero, List.set_cons_succ, i64_w, i32_w]
                            rfl
                          refine take_ (i := 21) (N := some 66) (v := ?_) (a' := ?_) #[true, true, true, true, true, true, true, true, true, true, true, true, true, true, true, true, true, true, true, true, false, true, true, true, false, true, false, false, false, false] rfl rfl (take_ofW HT_.out HW_.out (by kernel_rfl)) (fun _ _ _ h => h) (Or.inl ⟨by rfl, ?_⟩) hHeld ?_ ?_
                          rotate_left
                          · rintro w' ⟨s0, s1, s2, s3, s4, s5, s6, s7, s8, s9, s10⟩
                            go_simp
                            with_reducible rfl
                          rotate_left
                          · simp only [Act.put, List.setIfInBounds_toArray, List.set_cons_zero, List.set_cons_succ, i64_w, i32_w]
                            rfl
                          refine take_ (i := 24) (N := some 69) (v := ?_) (a' := ?_) #[true, true, true, true, true, true, true, true, true, true, true, true, true, true, true, true, true, true, true, true, false, true, true, true, true, true, false, false, false, false] rfl rfl (take_ofW HT_.out HW_.out (by kernel_rfl)) (fun _ _ _ h => h) (Or.inl ⟨by rfl, ?_⟩) hHeld ?_ ?_
                          rotate_left
                          · rintro w' ⟨s0, s1, s2, s3, s4, s5, s6, s7, s8, s9, s10⟩
                            go_simp
                            with_reducible rfl
                          rotate_left
                          · simp only [Act.put, List.setIfInBounds_toArray, List.set_cons_zero, List.set_cons_succ, i64_w, i32_w]
                            rfl
                          refine take_ (i := 26) (N := some 71) (v := ?_) (a' := ?_) #[true, true, true, true, true, true, true, true, true, true, true, true, true, true, true, true, true, true, true, true, false, true, true, true, true, true, true, false, false, false] rfl rfl (take_ofW HT_.out HW_.out (by kernel_rfl)) (fun _ _ _ h => h) (Or.inl ⟨by rfl, ?_⟩) hHeld ?_ ?_
                          rotate_left
                          · rintro w' ⟨s0, s1, s2, s3, s4, s5, s6, s7, s8, s9, s10⟩
                            go_simp
                            with_reducible rfl
                          rotate_left
                          · simp only [Act.put, List.setIfInBounds_toArray, List.set_cons_zero, List.set_cons_succ, i64_w, i32_w]
                            rfl
                          refine one_ (i := 20) (N := some 65) #[true, true, true, true, true, true, true, true, true, true, true, true, true, true, true, true, true, true, true, true, true, true, true, true, true, true, true, false, false, false] rfl rfl (one_of HT_.out (by kernel_rfl)) (by decide) (fun K hK => ?_)
                          refine goes_ Try.func11 (by kernel_rfl) rfl #[.agg #[.int .i64 t159, .int .i64 t160, .slice Ao17 t161.length co17, .slice Ao18 t164.length co18, .slice Ao19 t167.length co19], .int .i64 (rd y190 x41_2), .agg #[.int .i64 ((rd_T31 y183 x31_1).f0.f0), .int .i64 ((rd_T31 y183 x31_1).f0.f1), .int .i64 ((rd_T31 y183 x31_1).f0.f2)], .agg #[.int .i64 ((rd_T31 y183 x31_1).f1.f0), .int .i64 ((rd_T31 y183 x31_1).f1.f1), .int .i64 ((rd_T31 y183 x31_1).f1.f2)]] (by rfl) rfl rfl (by (try simp only [List.map_toArray, List.map_cons, List.map_nil]); first | done | rfl | (simp only [List.length_drop, List.length_take]; rfl)) ?_
                          with_reducible refine (stepping_Stops.calls k2 t159 t160 _ _ t161 _ _ t164 _ _ t167 (rd y190 x41_2) ((rd_T31 y183 x31_1).f0.f0) ((rd_T31 y183 x31_1).f0.f1) ((rd_T31 y183 x31_1).f0.f2) ((rd_T31 y183 x31_1).f1.f0) ((rd_T31 y183 x31_1).f1.f1) ((rd_T31 y183 x31_1).f1.f2) t196 _ ?side1 ?side2 ?side3 ?side4 ?side5 ?side6 A50.out).mono ?_
                          (case side1 => repeat (first | exact (Kd.N_reads' HO_171002.out).2.2 | (with_reducible refine Kd.C_alloc ?_ _) | (with_reducible refine Kd.C_drewN ?_ _) | (with_reducible refine Kd.C_drew ?_)))
                          (case side2 => exact (Kd.N_reads' HO_171002.out).2.1)
                          (case side3 => repeat (first | exact (Kd.R_reads' HO_171003.out).2.2 | (with_reducible refine Kd.C_alloc ?_ _) | (with_reducible refine Kd.C_drewN ?_ _) | (with_reducible refine Kd.C_drew ?_)))
                          (case side4 => exact (Kd.R_reads' HO_171003.out).2.1)
                          (case side5 => repeat (first | exact (Kd.N_reads' HO_171004.out).2.2 | (with_reducible refine Kd.C_alloc ?_ _) | (with_reducible refine Kd.C_drewN ?_ _) | (with_reducible refine Kd.C_drew ?_)))
                          (case side6 => exact (Kd.N_reads' HO_171004.out).2.1)
                          rintro e w56 ⟨rfl, hb⟩
                          refine ⟨_, rfl, ?_⟩
                          have n0_ := Aside0.mk (Kd.R_below (by (with_reducible repeat (first | apply Kd.R_alloc | apply Kd.R_drewN | apply Kd.R_drew)); exact HO_29.out) hb)
                          have n1_ := Aside0.mk (Kd.R_below (by (with_reducible repeat (first | apply Kd.R_alloc | apply Kd.R_drewN | apply Kd.R_drew)); exact HO_39.out) hb)
                          have n2_ := Aside0.mk (Kd.N_below (by (with_reducible repeat (first | apply Kd.N_alloc | apply Kd.N_drewN | apply Kd.N_drew)); exact HO_171002.out) hb)
                          have n3_ := Aside0.mk (Kd.R_below (by (with_reducible repeat (first | apply Kd.R_alloc | apply Kd.R_drewN | apply Kd.R_drew)); exact HO_171003.out) hb)
                          have n4_ := Aside0.mk (Kd.N_below (by (with_reducible repeat (first | apply Kd.N_alloc | apply Kd.N_drewN | apply Kd.N_drew)); exact HO_171004.out) hb)
                          have n5_ := Aside0.mk (blk_below (g := gb157) (o := .cells #[.int .i64 a1_0, .int .i64 a1_1, .int .i64 a1_2] 24 (0, 0)) (by (with_reducible repeat (first | refine blk_drewN ?_ _ | refine blk_drew ?_ | refine blk_alloc ?_ _)); exact BK157.out) hb)
                          have n6_ := Aside0.mk (blk_below (g := gb158) (o := .cells #[.int .i64 a2_0, .int .i64 a2_1, .int .i64 a2_2] 24 (0, 0)) (by (with_reducible repeat (first | refine blk_drewN ?_ _ | refine blk_drew ?_ | refine blk_alloc ?_ _)); exact BK158.out) hb)
                          have n7_ := Aside0.mk (blk_below (g := gb170) (o := .cells #[.int .i64 t159, .int .i64 t160, .slice Ao17 t161.length co17, .slice Ao18 t164.length co18, .slice Ao19 t167.length co19] 29 (0, 0)) (by (with_reducible repeat (first | refine blk_drewN ?_ _ | refine blk_drew ?_ | refine blk_alloc ?_ _)); exact BK170.out) hb)
                          have n8_ := Aside0.mk (blk_below (g := gb188) (o := .cells #[.int .i64 ((rd_T31 y183 x31_1).f0.f0), .int .i64 ((rd_T31 y183 x31_1).f0.f1), .int .i64 ((rd_T31 y183 x31_1).f0.f2), .int .i64 ((rd_T31 y183 x31_1).f1.f0), .int .i64 ((rd_T31 y183 x31_1).f1.f1), .int .i64 ((rd_T31 y183 x31_1).f1.f2)] 31 (0, 0)) (by (with_reducible repeat (first | refine blk_drewN ?_ _ | refine blk_drew ?_ | refine blk_alloc ?_ _)); exact BK188.out) hb)
                          have n9_ := Aside0.mk (below_step (by repeat (first | (with_reducible first | exact HB.out | apply below_alloc | apply pw_below_drewN | apply below_drew1 | refine below_set ?_ GE157.out | refine below_set ?_ GE158.out | refine below_set ?_ GE170.out | refine below_set ?_ GE188.out) | exact HB.out)) hb)
                          clear HO_29
                          clear HO_39
                          clear HO_171002
                          clear HO_171003
                          clear HO_171004
                          clear BK157
                          clear BK158
                          clear BK170
                          clear BK188
                          clear HB
                          have HO_29 := n0_
                          have HO_39 := n1_
                          have HO_171002 := n2_
                          have HO_171003 := n3_
                          have HO_171004 := n4_
                          have BK157 := n5_
                          have BK158 := n6_
                          have BK170 := n7_
                          have BK188 := n8_
                          have HB := n9_
                          clear n0_ n1_ n2_ n3_ n4_ n5_ n6_ n7_ n8_ n9_
                          (try clear hb)
                          (try clear hb2)
                          (try clear hk)
                          (try clear hi)
                          refine hK.out _ _ ⟨(blk_cell BK170.out 0).trans rfl, (blk_cell BK170.out 1).trans rfl, (blk_cell BK170.out 2).trans rfl, (blk_cell BK170.out 3).trans rfl, (blk_cell BK170.out 4).trans rfl, (blk_cell BK188.out 0).trans rfl, (blk_cell BK188.out 1).trans rfl, (blk_cell BK188.out 2).trans rfl, (blk_cell BK188.out 3).trans rfl, (blk_cell BK188.out 4).trans rfl, (blk_cell BK188.out 5).trans rfl⟩ (fun hHeld => ?_)
                          clear hK K
                          refine norm_ (a' := ?_) ?_ ?_
                          rotate_left
                          · show Act.put _ (some 65) _ = _
                            simp only [Act.put, List.setIfInBounds_toArray, List.set_cons_zero, List.set_cons_succ, i64_w, i32_w]
                            rfl
                          refine one_ (i := 27) (N := some 72) #[true, true, true, true, true, true, true, true, true, true, true, true, true, true, true, true, true, true, true, true, true, true, true, true, true, true, true, true, false, false] rfl rfl (one_of HT_.out (by kernel_rfl)) (by decide) (fun K hK => ?_)
                          refine goes_ Try.func12 (by kernel_rfl) rfl #[.agg #[.int .i64 t159, .int .i64 t160, .slice Ao17 t161.length co17, .slice Ao18 t164.length co18, .slice Ao19 t167.length co19], .int .i64 (rd y190 x41_2), .agg #[.int .i64 ((rd_T31 y183 x31_1).f0.f0), .int .i64 ((rd_T31 y183 x31_1).f0.f1), .int .i64 ((rd_T31 y183 x31_1).f0.f2)], .agg #[.int .i64 ((rd_T31 y183 x31_1).f1.f0), .int .i64 ((rd_T31 y183 x31_1).f1.f1), .int .i64 ((rd_T31 y183 x31_1).f1.f2)]] (by rfl) rfl rfl (by (try simp only [List.map_toArray, List.map_cons, List.map_nil]); first | done | rfl | (simp only [List.length_drop, List.length_take]; rfl)) ?_
                          with_reducible refine (debuggerref42_Stops.calls k2 t159 t160 _ _ t161 _ _ t164 _ _ t167 (rd y190 x41_2) ((rd_T31 y183 x31_1).f0.f0) ((rd_T31 y183 x31_1).f0.f1) ((rd_T31 y183 x31_1).f0.f2) ((rd_T31 y183 x31_1).f1.f0) ((rd_T31 y183 x31_1).f1.f1) ((rd_T31 y183 x31_1).f1.f2) t197 _ ?side1 ?side2 ?side3 ?side4 ?side5 ?side6 A51.out).mono ?_
                          (case side1 => repeat (first | exact (Kd.N_reads' HO_171002.out).2.2 | (with_reducible refine Kd.C_alloc ?_ _) | (with_reducible refine Kd.C_drewN ?_ _) | (with_reducible refine Kd.C_drew ?_)))
                          (case side2 => exact (Kd.N_reads' HO_171002.out).2.1)
                          (case side3 => repeat (first | exact (Kd.R_reads' HO_171003.out).2.2 | (with_reducible refine Kd.C_alloc ?_ _) | (with_reducible refine Kd.C_drewN ?_ _) | (with_reducible refine Kd.C_drew ?_)))
                          (case side4 => exact (Kd.R_reads' HO_171003.out).2.1)
                          (case side5 => repeat (first | exact (Kd.N_reads' HO_171004.out).2.2 | (with_reducible refine Kd.C_alloc ?_ _) | (with_reducible refine Kd.C_drewN ?_ _) | (with_reducible refine Kd.C_drew ?_)))
                          (case side6 => exact (Kd.N_reads' HO_171004.out).2.1)
                          rintro e w57 ⟨rfl, hb⟩
                          refine ⟨_, rfl, ?_⟩
                          have n0_ := Aside0.mk (Kd.R_below (by (with_reducible repeat (first | apply Kd.R_alloc | apply Kd.R_drewN | apply Kd.R_drew)); exact HO_29.out) hb)
                          have n1_ := Aside0.mk (Kd.R_below (by (with_reducible repeat (first | apply Kd.R_alloc | apply Kd.R_drewN | apply Kd.R_drew)); exact HO_39.out) hb)
                          have n2_ := Aside0.mk (Kd.N_below (by (with_reducible repeat (first | apply Kd.N_alloc | apply Kd.N_drewN | apply Kd.N_drew)); exact HO_171002.out) hb)
                          have n3_ := Aside0.mk (Kd.R_below (by (with_reducible repeat (first | apply Kd.R_alloc | apply Kd.R_drewN | apply Kd.R_drew)); exact HO_171003.out) hb)
                          have n4_ := Aside0.mk (Kd.N_below (by (with_reducible repeat (first | apply Kd.N_alloc | apply Kd.N_drewN | apply Kd.N_drew)); exact HO_171004.out) hb)
                          have n5_ := Aside0.mk (blk_below (g := gb157) (o := .cells #[.int .i64 a1_0, .int .i64 a1_1, .int .i64 a1_2] 24 (0, 0)) (by (with_reducible repeat (first | refine blk_drewN ?_ _ | refine blk_drew ?_ | refine blk_alloc ?_ _)); exact BK157.out) hb)
                          have n6_ := Aside0.mk (blk_below (g := gb158) (o := .cells #[.int .i64 a2_0, .int .i64 a2_1, .int .i64 a2_2] 24 (0, 0)) (by (with_reducible repeat (first | refine blk_drewN ?_ _ | refine blk_drew ?_ | refine blk_alloc ?_ _)); exact BK158.out) hb)
                          have n7_ := Aside0.mk (blk_below (g := gb170) (o := .cells #[.int .i64 t159, .int .i64 t160, .slice Ao17 t161.length co17, .slice Ao18 t164.length co18, .slice Ao19 t167.length co19] 29 (0, 0)) (by (with_reducible repeat (first | refine blk_drewN ?_ _ | refine blk_drew ?_ | refine blk_alloc ?_ _)); exact BK170.out) hb)
                          have n8_ := Aside0.mk (blk_below (g := gb188) (o := .cells #[.int .i64 ((rd_T31 y183 x31_1).f0.f0), .int .i64 ((rd_T31 y183 x31_1).f0.f1), .int .i64 ((rd_T31 y183 x31_1).f0.f2), .int .i64 ((rd_T31 y183 x31_1).f1.f0), .int .i64 ((rd_T31 y183 x31_1).f1.f1), .int .i64 ((rd_T31 y183 x31_1).f1.f2)] 31 (0, 0)) (by (with_reducible repeat (first | refine blk_drewN ?_ _ | refine blk_drew ?_ | refine blk_alloc ?_ _)); exact BK188.out) hb)
                          have n9_ := Aside0.mk (below_step (by repeat (first | (with_reducible first | exact HB.out | apply below_alloc | apply pw_below_drewN | apply below_drew1 | refine below_set ?_ GE157.out | refine below_set ?_ GE158.out | refine below_set ?_ GE170.out | refine below_set ?_ GE188.out) | exact HB.out)) hb)
                          clear HO_29
                          clear HO_39
                          clear HO_171002
                          clear HO_171003
                          clear HO_171004
                          clear BK157
                          clear BK158
                          clear BK170
                          clear BK188
                          clear HB
                          have HO_29 := n0_
                          have HO_39 := n1_
                          have HO_171002 := n2_
                          have HO_171003 := n3_
                          have HO_171004 := n4_
                          have BK157 := n5_
                          have BK158 := n6_
                          have BK170 := n7_
                          have BK188 := n8_
                          have HB := n9_
                          clear n0_ n1_ n2_ n3_ n4_ n5_ n6_ n7_ n8_ n9_
                          (try clear hb)
                          (try clear hb2)
                          (try clear hk)
                          (try clear hi)
                          refine hK.out _ _ ⟨(blk_cell BK170.out 0).trans rfl, (blk_cell BK170.out 1).trans rfl, (blk_cell BK170.out 2).trans rfl, (blk_cell BK170.out 3).trans rfl, (blk_cell BK170.out 4).trans rfl, (blk_cell BK188.out 0).trans rfl, (blk_cell BK188.out 1).trans rfl, (blk_cell BK188.out 2).trans rfl, (blk_cell BK188.out 3).trans rfl, (blk_cell BK188.out 4).trans rfl, (blk_cell BK188.out 5).trans rfl⟩ (fun hHeld => ?_)
                          clear hK K
                          refine norm_ (a' := ?_) ?_ ?_
                          rotate_left
                          · show Act.put _ (some 72) _ = _
                            simp only [Act.put, List.setIfInBounds_toArray, List.set_cons_zero, List.set_cons_succ, i64_w, i32_w]
                            rfl
                          refine pure_ (i := 28) (N := some 73) (v := ?_) (a' := ?_) #[true, true, true, true, true, true, true, true, true, true, true, true, true, true, true, true, true, true, true, true, true, true, true, true, true, true, true, true, true, false] rfl rfl (any_of HT_.out (by kernel_rfl)) (fun _ _ _ h => h) (Or.inl ⟨by rfl, ?_⟩) ?_ ?_
                          rotate_left
                          · intro w'
                            go_simp
                            with_reducible rfl
                          rotate_left
                          · simp only [Act.put, List.setIfInBounds_toArray, List.set_cons_zero, List.set_cons_succ, i64_w, i32_w]
                            rfl
                          refine pure_ (i := 29) (N := some 74) (v := ?_) (a' := ?_) #[true, true, true, true, true, true, true, true, true, true, true, true, true, true, true, true, true, true, true, true, true, true, true, true, true, true, true, true, true, true] rfl rfl (any_of HT_.out (by kernel_rfl)) (fun _ _ _ h => h) (Or.inl ⟨by rfl, ?_⟩) ?_ ?_
                          rotate_left
                          · intro w'
                            go_simp
                            with_reducible rfl
                          rotate_left
                          · simp only [Act.put, List.setIfInBounds_toArray, List.set_cons_zero, List.set_cons_succ, i64_w, i32_w]
                            rfl
                          refine done_ (done_of HT_.out (by kernel_rfl)) ?_
                          try go_wp2
                          go_ret
                          exact ⟨by first | rfl | (simp [errW_none, errW_some] <;> rfl) | (simp [*, errW_none, errW_some] <;> rfl), by repeat (first | (with_reducible first | exact HB.out | apply below_alloc | apply pw_below_drewN | apply below_drew1 | refine below_set ?_ GE157.out | refine below_set ?_ GE158.out | refine below_set ?_ GE170.out | refine below_set ?_ GE188.out) | exact HB.out)⟩
                        · rw [if_neg c52] at H
                          have c52b0 : (t196 != t197) = false := by simpa using c52
                          (try (have c52b1 : decide (t196 = t197) = true := by simpa using c52))
                          (try (have c52b2 : (t196 == t197) = true := by simpa using c52))
                          clear c52
                          have H' := Aside0.mk H
                          clear H
                          have p193 : 0 ≤ (x41_2 : Int) := of_decide_eq_true (by first | (with_reducible assumption) | assumption)
                          have q193 : x41_2 < (y190.length : Int) := of_decide_eq_true (by first | (with_reducible assumption) | assumption)
                          obtain ⟨ad193, e193, hx193_0⟩ := Kd.at_int (Kd.R_reads' HO_39.out).2.2 x41_2 p193 q193
                          cases e193
                          replace p193 := eq_true p193
                          replace q193 := eq_true q193
                          try go_wp2
                          have n0_ := Aside0.mk (Kd.R_drew HO_29.out)
                          have n1_ := Aside0.mk (Kd.R_drew HO_39.out)
                          have n2_ := Aside0.mk (Kd.N_drew HO_171002.out)
                          have n3_ := Aside0.mk (Kd.R_drew HO_171003.out)
                          have n4_ := Aside0.mk (Kd.N_drew HO_171004.out)
                          have n5_ := Aside0.mk (blk_drew BK157.out)
                          have n6_ := Aside0.mk (blk_drew BK158.out)
                          have n7_ := Aside0.mk (blk_drew BK170.out)
                          have n8_ := Aside0.mk (blk_drew BK188.out)
                          have n9_ := Aside0.mk (below_drew1 HB.out)
                          clear HO_29
                          clear HO_39
                          clear HO_171002
                          clear HO_171003
                          clear HO_171004
                          clear BK157
                          clear BK158
                          clear BK170
                          clear BK188
                          clear HB
                          have HO_29 := n0_
                          have HO_39 := n1_
                          have HO_171002 := n2_
                          have HO_171003 := n3_
                          have HO_171004 := n4_
                          have BK157 := n5_
                          have BK158 := n6_
                          have BK170 := n7_
                          have BK188 := n8_
                          have HB := n9_
                          clear n0_ n1_ n2_ n3_ n4_ n5_ n6_ n7_ n8_ n9_
                          refine start_ (n := 30) (S := fun w' => w'.cell? ⟨gb170, 0, none⟩ = some (.int .i64 t159) ∧ w'.cell? ⟨gb170, 1, none⟩ = some (.int .i64 t160) ∧ w'.cell? ⟨gb170, 2, none⟩ = some (.slice Ao17 t161.length co17) ∧ w'.cell? ⟨gb170, 3, none⟩ = some (.slice Ao18 t164.length co18) ∧ w'.cell? ⟨gb170, 4, none⟩ = some (.slice Ao19 t167.length co19) ∧ w'.cell? ⟨gb188, 0, none⟩ = some (.int .i64 ((rd_T31 y183 x31_1).f0.f0)) ∧ w'.cell? ⟨gb188, 1, none⟩ = some (.int .i64 ((rd_T31 y183 x31_1).f0.f1)) ∧ w'.cell? ⟨gb188, 2, none⟩ = some (.int .i64 ((rd_T31 y183 x31_1).f0.f2)) ∧ w'.cell? ⟨gb188, 3, none⟩ = some (.int .i64 ((rd_T31 y183 x31_1).f1.f0)) ∧ w'.cell? ⟨gb188, 4, none⟩ = some (.int .i64 ((rd_T31 y183 x31_1).f1.f1)) ∧ w'.cell? ⟨gb188, 5, none⟩ = some (.int .i64 ((rd_T31 y183 x31_1).f1.f2))) (ds := []) #[false, false, false, false, false, false, false, false, false, false, false, false, false, false, false, false, false, false, false, false, false, false, false, false, false, false, false, false, false, false] (by kernel_rfl) rfl rfl ⟨(blk_cell BK170.out 0).trans rfl, (blk_cell BK170.out 1).trans rfl, (blk_cell BK170.out 2).trans rfl, (blk_cell BK170.out 3).trans rfl, (blk_cell BK170.out 4).trans rfl, (blk_cell BK188.out 0).trans rfl, (blk_cell BK188.out 1).trans rfl, (blk_cell BK188.out 2).trans rfl, (blk_cell BK188.out 3).trans rfl, (blk_cell BK188.out 4).trans rfl, (blk_cell BK188.out 5).trans rfl⟩ (fun hHeld => ?_); refine with_tabW debuggerlaw42_SteppingCompares.tab8 debuggerlaw42_SteppingCompares.bits8 (fun HT_ HW_ => ?_)
                          generalize wr.drew = w58 at HO_29 HO_39 HO_171002 HO_171003 HO_171004 BK157 BK158 BK170 BK188 HB hHeld ⊢
                          refine pure_ (i := 1) (N := some 46) (v := ?_) (a' := ?_) #[false, true, false, false, false, false, false, false, false, false, false, false, false, false, false, false, false, false, false, false, false, false, false, false, false, false, false, false, false, false] rfl rfl (any_of HT_.out (by kernel_rfl)) (fun _ _ _ h => h) (Or.inl ⟨by rfl, ?_⟩) ?_ ?_
                          rotate_left
                          · intro w'
                            go_simp
                            with_reducible rfl
                          rotate_left
                          · simp only [Act.put, List.setIfInBounds_toArray, List.set_cons_zero, List.set_cons_succ, i64_w, i32_w]
                            rfl
                          refine pure_ (i := 3) (N := some 48) (v := ?_) (a' := ?_) #[false, true, false, true, false, false, false, false, false, false, false, false, false, false, false, false, false, false, false, false, false, false, false, false, false, false, false, false, false, false] rfl rfl (any_of HT_.out (by kernel_rfl)) (fun _ _ _ h => h) (Or.inl ⟨by rfl, ?_⟩) ?_ ?_
                          rotate_left
                          · intro w'
                            go_simp
                            with_reducible rfl
                          rotate_left
                          · simp only [Act.put, List.setIfInBounds_toArray, List.set_cons_zero, List.set_cons_succ, i64_w, i32_w]
                            rfl
                          refine pure_ (i := 7) (N := some 52) (v := ?_) (a' := ?_) #[false, true, false, true, false, false, false, true, false, false, false, false, false, false, false, false, false, false, false, false, false, false, false, false, false, false, false, false, false, false] rfl rfl (any_of HT_.out (by kernel_rfl)) (fun _ _ _ h => h) (Or.inl ⟨by rfl, ?_⟩) ?_ ?_
                          rotate_left
                          · intro w'
                            go_simp
                            with_reducible rfl
                          rotate_left
                          · simp only [Act.put, List.setIfInBounds_toArray, List.set_cons_zero, List.set_cons_succ, i64_w, i32_w]
                            rfl
                          refine pure_ (i := 9) (N := some 54) (v := ?_) (a' := ?_) #[false, true, false, true, false, false, false, true, false, true, false, false, false, false, false, false, false, false, false, false, false, false, false, false, false, false, false, false, false, false] rfl rfl (any_of HT_.out (by kernel_rfl)) (fun _ _ _ h => h) (Or.inl ⟨by rfl, ?_⟩) ?_ ?_
                          rotate_left
                          · intro w'
                            go_simp
                            with_reducible rfl
                          rotate_left
                          · simp only [Act.put, List.setIfInBounds_toArray, List.set_cons_zero, List.set_cons_succ, i64_w, i32_w]
                            rfl
                          refine take_ (i := 0) (N := some 45) (v := ?_) (a' := ?_) #[true, true, false, true, false, false, false, true, false, true, false, false, false, false, false, false, false, false, false, false, false, false, false, false, false, false, false, false, false, false] rfl rfl (take_ofW HT_.out HW_.out (by kernel_rfl)) (fun _ _ _ h => h) (Or.inl ⟨by rfl, ?_⟩) hHeld ?_ ?_
                          rotate_left
                          · rintro w' ⟨s0, s1, s2, s3, s4, s5, s6, s7, s8, s9, s10⟩
                            go_simp
                            with_reducible rfl
                          rotate_left
                          · simp only [Act.put, List.setIfInBounds_toArray, List.set_cons_zero, List.set_cons_succ, i64_w, i32_w]
                            rfl
                          refine take_ (i := 2) (N := some 47) (v := ?_) (a' := ?_) #[true, true, true, true, false, false, false, true, false, true, false, false, false, false, false, false, false, false, false, false, false, false, false, false, false, false, false, false, false, false] rfl rfl (take_ofW HT_.out HW_.out (by kernel_rfl)) (fun _ _ _ h => h) (Or.inl ⟨by rfl, ?_⟩) hHeld ?_ ?_
                          rotate_left
                          · rintro w' ⟨s0, s1, s2, s3, s4, s5, s6, s7, s8, s9, s10⟩
                            go_simp
                            with_reducible rfl
                          rotate_left
                          · simp only [Act.put, List.setIfInBounds_toArray, List.set_cons_zero, List.set_cons_succ, i64_w, i32_w]
                            rfl
                          refine take_ (i := 4) (N := some 49) (v := ?_) (a' := ?_) #[true, true, true, true, true, false, false, true, false, true, false, false, false, false, false, false, false, false, false, false, false, false, false, false, false, false, false, false, false, false] rfl rfl (take_ofW HT_.out HW_.out (by kernel_rfl)) (fun _ _ _ h => h) (Or.inl ⟨by rfl, ?_⟩) hHeld ?_ ?_
                          rotate_left
                          · rintro w' ⟨s0, s1, s2, s3, s4, s5, s6, s7, s8, s9, s10⟩
                            go_simp
                            with_reducible rfl
                          rotate_left
                          · simp only [Act.put, List.setIfInBounds_toArray, List.set_cons_zero, List.set_cons_succ, i64_w, i32_w]
                            rfl
                          refine take_ (i := 6) (N := some 51) (v := ?_) (a' := ?_) #[true, true, true, true, true, false, true, true, false, true, false, false, false, false, false, false, false, false, false, false, false, false, false, false, false, false, false, false, false, false] rfl rfl (take_ofW HT_.out HW_.out (by kernel_rfl)) (fun _ _ _ h => h) (Or.inl ⟨by rfl, ?_⟩) hHeld ?_ ?_
                          rotate_left
                          · rintro w' ⟨s0, s1, s2, s3, s4, s5, s6, s7, s8, s9, s10⟩
                            go_simp
                            with_reducible rfl
                          rotate_left
                          · simp only [Act.put, List.setIfInBounds_toArray, List.set_cons_zero, List.set_cons_succ, i64_w, i32_w]
                            rfl
                          refine take_ (i := 8) (N := some 53) (v := ?_) (a' := ?_) #[true, true, true, true, true, false, true, true, true, true, false, false, false, false, false, false, false, false, false, false, false, false, false, false, false, false, false, false, false, false] rfl rfl (take_ofW HT_.out HW_.out (by kernel_rfl)) (fun _ _ _ h => h) (Or.inl ⟨by rfl, ?_⟩) hHeld ?_ ?_
                          rotate_left
                          · rintro w' ⟨s0, s1, s2, s3, s4, s5, s6, s7, s8, s9, s10⟩
                            go_simp
                            with_reducible rfl
                          rotate_left
                          · simp only [Act.put, List.setIfInBounds_toArray, List.set_cons_zero, List.set_cons_succ, i64_w, i32_w]
                            rfl
                          refine take_ (i := 10) (N := some 55) (v := ?_) (a' := ?_) #[true, true, true, true, true, false, true, true, true, true, true, false, false, false, false, false, false, false, false, false, false, false, false, false, false, false, false, false, false, false] rfl rfl (take_ofW HT_.out HW_.out (by kernel_rfl)) (fun _ _ _ h => h) (Or.inl ⟨by rfl, ?_⟩) hHeld ?_ ?_
                          rotate_left
                          · rintro w' ⟨s0, s1, s2, s3, s4, s5, s6, s7, s8, s9, s10⟩
                            go_simp
                            with_reducible rfl
                          rotate_left
                          · simp only [Act.put, List.setIfInBounds_toArray, List.set_cons_zero, List.set_cons_succ, i64_w, i32_w]
                            rfl
                          refine one_ (i := 5) (N := some 50) #[true, true, true, true, true, true, true, true, true, true, true, false, false, false, false, false, false, false, false, false, false, false, false, false, false, false, false, false, false, false] rfl rfl (one_of HT_.out (by kernel_rfl)) (by decide) (fun K hK => ?_)
                          refine goes_ Try.func9 (by kernel_rfl) rfl #[.agg #[.int .i64 t159, .int .i64 t160, .slice Ao17 t161.length co17, .slice Ao18 t164.length co18, .slice Ao19 t167.length co19], .agg #[.int .i64 ((rd_T31 y183 x31_1).f0.f0), .int .i64 ((rd_T31 y183 x31_1).f0.f1), .int .i64 ((rd_T31 y183 x31_1).f0.f2)], .agg #[.int .i64 ((rd_T31 y183 x31_1).f1.f0), .int .i64 ((rd_T31 y183 x31_1).f1.f1), .int .i64 ((rd_T31 y183 x31_1).f1.f2)]] (by rfl) rfl rfl (by (try simp only [List.map_toArray, List.map_cons, List.map_nil]); first | done | rfl | (simp only [List.length_drop, List.length_take]; rfl)) ?_
                          with_reducible refine (stepping_Nested.calls k2 t159 t160 _ _ t161 _ _ t164 _ _ t167 ((rd_T31 y183 x31_1).f0.f0) ((rd_T31 y183 x31_1).f0.f1) ((rd_T31 y183 x31_1).f0.f2) ((rd_T31 y183 x31_1).f1.f0) ((rd_T31 y183 x31_1).f1.f1) ((rd_T31 y183 x31_1).f1.f2) t194 _ ?side1 ?side2 ?side3 ?side4 ?side5 ?side6 A44.out).mono ?_
                          (case side1 => repeat (first | exact (Kd.N_reads' HO_171002.out).2.2 | (with_reducible refine Kd.C_alloc ?_ _) | (with_reducible refine Kd.C_drewN ?_ _) | (with_reducible refine Kd.C_drew ?_)))
                          (case side2 => exact (Kd.N_reads' HO_171002.out).2.1)
                          (case side3 => repeat (first | exact (Kd.R_reads' HO_171003.out).2.2 | (with_reducible refine Kd.C_alloc ?_ _) | (with_reducible refine Kd.C_drewN ?_ _) | (with_reducible refine Kd.C_drew ?_)))
                          (case side4 => exact (Kd.R_reads' HO_171003.out).2.1)
                          (case side5 => repeat (first | exact (Kd.N_reads' HO_171004.out).2.2 | (with_reducible refine Kd.C_alloc ?_ _) | (with_reducible refine Kd.C_drewN ?_ _) | (with_reducible refine Kd.C_drew ?_)))
                          (case side6 => exact (Kd.N_reads' HO_171004.out).2.1)
                          rintro e w59 ⟨rfl, hb⟩
                          refine ⟨_, rfl, ?_⟩
                          have n0_ := Aside0.mk (Kd.R_below (by (with_reducible repeat (first | apply Kd.R_alloc | apply Kd.R_drewN | apply Kd.R_drew)); exact HO_29.out) hb)
                          have n1_ := Aside0.mk (Kd.R_below (by (with_reducible repeat (first | apply Kd.R_alloc | apply Kd.R_drewN | apply Kd.R_drew)); exact HO_39.out) hb)
                          have n2_ := Aside0.mk (Kd.N_below (by (with_reducible repeat (first | apply Kd.N_alloc | apply Kd.N_drewN | apply Kd.N_drew)); exact HO_171002.out) hb)
                          have n3_ := Aside0.mk (Kd.R_below (by (with_reducible repeat (first | apply Kd.R_alloc | apply Kd.R_drewN | apply Kd.R_drew)); exact HO_171003.out) hb)
                          have n4_ := Aside0.mk (Kd.N_below (by (with_reducible repeat (first | apply Kd.N_alloc | apply Kd.N_drewN | apply Kd.N_drew)); exact HO_171004.out) hb)
                          have n5_ := Aside0.mk (blk_below (g := gb157) (o := .cells #[.int .i64 a1_0, .int .i64 a1_1, .int .i64 a1_2] 24 (0, 0)) (by (with_reducible repeat (first | refine blk_drewN ?_ _ | refine blk_drew ?_ | refine blk_alloc ?_ _)); exact BK157.out) hb)
                          have n6_ := Aside0.mk (blk_below (g := gb158) (o := .cells #[.int .i64 a2_0, .int .i64 a2_1, .int .i64 a2_2] 24 (0, 0)) (by (with_reducible repeat (first | refine blk_drewN ?_ _ | refine blk_drew ?_ | refine blk_alloc ?_ _)); exact BK158.out) hb)
                          have n7_ := Aside0.mk (blk_below (g := gb170) (o := .cells #[.int .i64 t159, .int .i64 t160, .slice Ao17 t161.length co17, .slice Ao18 t164.length co18, .slice Ao19 t167.length co19] 29 (0, 0)) (by (with_reducible repeat (first | refine blk_drewN ?_ _ | refine blk_drew ?_ | refine blk_alloc ?_ _)); exact BK170.out) hb)
                          have n8_ := Aside0.mk (blk_below (g := gb188) (o := .cells #[.int .i64 ((rd_T31 y183 x31_1).f0.f0), .int .i64 ((rd_T31 y183 x31_1).f0.f1), .int .i64 ((rd_T31 y183 x31_1).f0.f2), .int .i64 ((rd_T31 y183 x31_1).f1.f0), .int .i64 ((rd_T31 y183 x31_1).f1.f1), .int .i64 ((rd_T31 y183 x31_1).f1.f2)] 31 (0, 0)) (by (with_reducible repeat (first | refine blk_drewN ?_ _ | refine blk_drew ?_ | refine blk_alloc ?_ _)); exact BK188.out) hb)
                          have n9_ := Aside0.mk (below_step (by repeat (first | (with_reducible first | exact HB.out | apply below_alloc | apply pw_below_drewN | apply below_drew1 | refine below_set ?_ GE157.out | refine below_set ?_ GE158.out | refine below_set ?_ GE170.out | refine below_set ?_ GE188.out) | exact HB.out)) hb)
                          clear HO_29
                          clear HO_39
                          clear HO_171002
                          clear HO_171003
                          clear HO_171004
                          clear BK157
                          clear BK158
                          clear BK170
                          clear BK188
                          clear HB
                          have HO_29 := n0_
                          have HO_39 := n1_
                          have HO_171002 := n2_
                          have HO_171003 := n3_
                          have HO_171004 := n4_
                          have BK157 := n5_
                          have BK158 := n6_
                          have BK170 := n7_
                          have BK188 := n8_
                          have HB := n9_
                          clear n0_ n1_ n2_ n3_ n4_ n5_ n6_ n7_ n8_ n9_
                          (try clear hb)
                          (try clear hb2)
                          (try clear hk)
                          (try clear hi)
                          refine hK.out _ _ ⟨(blk_cell BK170.out 0).trans rfl, (blk_cell BK170.out 1).trans rfl, (blk_cell BK170.out 2).trans rfl, (blk_cell BK170.out 3).trans rfl, (blk_cell BK170.out 4).trans rfl, (blk_cell BK188.out 0).trans rfl, (blk_cell BK188.out 1).trans rfl, (blk_cell BK188.out 2).trans rfl, (blk_cell BK188.out 3).trans rfl, (blk_cell BK188.out 4).trans rfl, (blk_cell BK188.out 5).trans rfl⟩ (fun hHeld => ?_)
                          clear hK K
                          refine norm_ (a' := ?_) ?_ ?_
                          rotate_left
                          · show Act.put _ (some 50) _ = _
                            simp only [Act.put, List.setIfInBounds_toArray, List.set_cons_zero, List.set_cons_succ, i64_w, i32_w]
                            rfl
                          refine one_ (i := 11) (N := some 56) #[true, true, true, true, true, true, true, true, true, true, true, true, false, false, false, false, false, false, false, false, false, false, false, false, false, false, false, false, false, false] rfl rfl (one_of HT_.out (by kernel_rfl)) (by decide) (fun K hK => ?_)
                          refine goes_ Try.func10 (by kernel_rfl) rfl #[.agg #[.int .i64 t159, .int .i64 t160, .slice Ao17 t161.length co17, .slice Ao18 t164.length co18, .slice Ao19 t167.length co19], .agg #[.int .i64 ((rd_T31 y183 x31_1).f0.f0), .int .i64 ((rd_T31 y183 x31_1).f0.f1), .int .i64 ((rd_T31 y183 x31_1).f0.f2)], .agg #[.int .i64 ((rd_T31 y183 x31_1).f1.f0), .int .i64 ((rd_T31 y183 x31_1).f1.f1), .int .i64 ((rd_T31 y183 x31_1).f1.f2)]] (by rfl) rfl rfl (by (try simp only [List.map_toArray, List.map_cons, List.map_nil]); first | done | rfl | (simp only [List.length_drop, List.length_take]; rfl)) ?_
                          with_reducible refine (debuggerref42_Nested.calls k2 t159 t160 _ _ t161 _ _ t164 _ _ t167 ((rd_T31 y183 x31_1).f0.f0) ((rd_T31 y183 x31_1).f0.f1) ((rd_T31 y183 x31_1).f0.f2) ((rd_T31 y183 x31_1).f1.f0) ((rd_T31 y183 x31_1).f1.f1) ((rd_T31 y183 x31_1).f1.f2) t195 _ ?side1 ?side2 ?side3 ?side4 ?side5 ?side6 A45.out).mono ?_
                          (case side1 => repeat (first | exact (Kd.N_reads' HO_171002.out).2.2 | (with_reducible refine Kd.C_alloc ?_ _) | (with_reducible refine Kd.C_drewN ?_ _) | (with_reducible refine Kd.C_drew ?_)))
                          (case side2 => exact (Kd.N_reads' HO_171002.out).2.1)
                          (case side3 => repeat (first | exact (Kd.R_reads' HO_171003.out).2.2 | (with_reducible refine Kd.C_alloc ?_ _) | (with_reducible refine Kd.C_drewN ?_ _) | (with_reducible refine Kd.C_drew ?_)))
                          (case side4 => exact (Kd.R_reads' HO_171003.out).2.1)
                          (case side5 => repeat (first | exact (Kd.N_reads' HO_171004.out).2.2 | (with_reducible refine Kd.C_alloc ?_ _) | (with_reducible refine Kd.C_drewN ?_ _) | (with_reducible refine Kd.C_drew ?_)))
                          (case side6 => exact (Kd.N_reads' HO_171004.out).2.1)
                          rintro e w60 ⟨rfl, hb⟩
                          refine ⟨_, rfl, ?_⟩
                          have n0_ := Aside0.mk (Kd.R_below (by (with_reducible repeat (first | apply Kd.R_alloc | apply Kd.R_drewN | apply Kd.R_drew)); exact HO_29.out) hb)
                          have n1_ := Aside0.mk (Kd.R_below (by (with_reducible repeat (first | apply Kd.R_alloc | apply Kd.R_drewN | apply Kd.R_drew)); exact HO_39.out) hb)
                          have n2_ := Aside0.mk (Kd.N_below (by (with_reducible repeat (first | apply Kd.N_alloc | apply Kd.N_drewN | apply Kd.N_drew)); exact HO_171002.out) hb)
                          have n3_ := Aside0.mk (Kd.R_below (by (with_reducible repeat (first | apply Kd.R_alloc | apply Kd.R_drewN | apply Kd.R_drew)); exact HO_171003.out) hb)
                          have n4_ := Aside0.mk (Kd.N_below (by (with_reducible repeat (first | apply Kd.N_alloc | apply Kd.N_drewN | apply Kd.N_drew)); exact HO_171004.out) hb)
                          have n5_ := Aside0.mk (blk_below (g := gb157) (o := .cells #[.int .i64 a1_0, .int .i64 a1_1, .int .i64 a1_2] 24 (0, 0)) (by (with_reducible repeat (first | refine blk_drewN ?_ _ | refine blk_drew ?_ | refine blk_alloc ?_ _)); exact BK157.out) hb)
                          have n6_ := Aside0.mk (blk_below (g := gb158) (o := .cells #[.int .i64 a2_0, .int .i64 a2_1, .int .i64 a2_2] 24 (0, 0)) (by (with_reducible repeat (first | refine blk_drewN ?_ _ | refine blk_drew ?_ | refine blk_alloc ?_ _)); exact BK158.out) hb)
                          have n7_ := Aside0.mk (blk_below (g := gb170) (o := .cells #[.int .i64 t159, .int .i64 t160, .slice Ao17 t161.length co17, .slice Ao18 t164.length co18, .slice Ao19 t167.length co19] 29 (0, 0)) (by (with_reducible repeat (first | refine blk_drewN ?_ _ | refine blk_drew ?_ | refine blk_alloc ?_ _)); exact BK170.out) hb)
                          have n8_ := Aside0.mk (blk_below (g := gb188) (o := .cells #[.int .i64 ((rd_T31 y183 x31_1).f0.f0), .int .i64 ((rd_T31 y183 x31_1).f0.f1), .int .i64 ((rd_T31 y183 x31_1).f0.f2), .int .i64 ((rd_T31 y183 x31_1).f1.f0), .int .i64 ((rd_T31 y183 x31_1).f1.f1), .int .i64 ((rd_T31 y183 x31_1).f1.f2)] 31 (0, 0)) (by (with_reducible repeat (first | refine blk_drewN ?_ _ | refine blk_drew ?_ | refine blk_alloc ?_ _)); exact BK188.out) hb)
                          have n9_ := Aside0.mk (below_step (by repeat (first | (with_reducible first | exact HB.out | apply below_alloc | apply pw_below_drewN | apply below_drew1 | refine below_set ?_ GE157.out | refine below_set ?_ GE158.out | refine below_set ?_ GE170.out | refine below_set ?_ GE188.out) | exact HB.out)) hb)
                          clear HO_29
                          clear HO_39
                          clear HO_171002
                          clear HO_171003
                          clear HO_171004
                          clear BK157
                          clear BK158
                          clear BK170
                          clear BK188
                          clear HB
                          have HO_29 := n0_
                          have HO_39 := n1_
                          have HO_171002 := n2_
                          have HO_171003 := n3_
                          have HO_171004 := n4_
                          have BK157 := n5_
                          have BK158 := n6_
                          have BK170 := n7_
                          have BK188 := n8_
                          have HB := n9_
                          clear n0_ n1_ n2_ n3_ n4_ n5_ n6_ n7_ n8_ n9_
                          (try clear hb)
                          (try clear hb2)
                          (try clear hk)
                          (try clear hi)
                          refine hK.out _ _ ⟨(blk_cell BK170.out 0).trans rfl, (blk_cell BK170.out 1).trans rfl, (blk_cell BK170.out 2).trans rfl, (blk_cell BK170.out 3).trans rfl, (blk_cell BK170.out 4).trans rfl, (blk_cell BK188.out 0).trans rfl, (blk_cell BK188.out 1).trans rfl, (blk_cell BK188.out 2).trans rfl, (blk_cell BK188.out 3).trans rfl, (blk_cell BK188.out 4).trans rfl, (blk_cell BK188.out 5).trans rfl⟩ (fun hHeld => ?_)
                          clear hK K
                          refine norm_ (a' := ?_) ?_ ?_
                          rotate_left
                          · show Act.put _ (some 56) _ = _
                            simp only [Act.put, List.setIfInBounds_toArray, List.set_cons_zero, List.set_cons_succ, i64_w, i32_w]
                            rfl
                          refine pure_ (i := 12) (N := some 57) (v := ?_) (a' := ?_) #[true, true, true, true, true, true, true, true, true, true, true, true, true, false, false, false, false, false, false, false, false, false, false, false, false, false, false, false, false, false] rfl rfl (any_of HT_.out (by kernel_rfl)) (fun _ _ _ h => h) (Or.inl ⟨by rfl, ?_⟩) ?_ ?_
                          rotate_left
                          · intro w'
                            go_simp
                            with_reducible rfl
                          rotate_left
                          · simp only [Act.put, List.setIfInBounds_toArray, List.set_cons_zero, List.set_cons_succ, i64_w, i32_w]
                            rfl
                          refine pure_ (i := 13) (N := some 58) (v := ?_) (a' := ?_) #[true, true, true, true, true, true, true, true, true, true, true, true, true, true, false, false, false, false, false, false, false, false, false, false, false, false, false, false, false, false] rfl rfl (any_of HT_.out (by kernel_rfl)) (fun _ _ _ h => h) (Or.inl ⟨by rfl, ?_⟩) ?_ ?_
                          rotate_left
                          · intro w'
                            go_simp
                            with_reducible rfl
                          rotate_left
                          · simp only [Act.put, List.setIfInBounds_toArray, List.set_cons_zero, List.set_cons_succ, i64_w, i32_w]
                            rfl
                          refine pure_ (i := 15) (N := some 60) (v := ?_) (a' := ?_) #[true, true, true, true, true, true, true, true, true, true, true, true, true, true, false, true, false, false, false, false, false, false, false, false, false, false, false, false, false, false] rfl rfl (any_of HT_.out (by kernel_rfl)) (fun _ _ _ h => h) (Or.inl ⟨by rfl, ?_⟩) ?_ ?_
                          rotate_left
                          · intro w'
                            go_simp
                            with_reducible rfl
                          rotate_left
                          · simp only [Act.put, List.setIfInBounds_toArray, List.set_cons_zero, List.set_cons_succ, i64_w, i32_w]
                            rfl
                          refine pure_ (i := 16) (N := some 61) (v := ?_) (a' := ?_) #[true, true, true, true, true, true, true, true, true, true, true, true, true, true, false, true, true, false, false, false, false, false, false, false, false, false, false, false, false, false] rfl rfl (any_of HT_.out (by kernel_rfl)) (fun _ _ _ h => h) (Or.inl ⟨by rfl, ?_⟩) ?_ ?_
                          rotate_left
                          · intro w'
                            go_simp
                            with_reducible rfl
                          rotate_left
                          · simp only [Act.put, List.setIfInBounds_toArray, List.set_cons_zero, List.set_cons_succ, i64_w, i32_w]
                            rfl
                          refine pure_ (i := 18) (N := some 63) (v := ?_) (a' := ?_) #[true, true, true, true, true, true, true, true, true, true, true, true, true, true, false, true, true, false, true, false, false, false, false, false, false, false, false, false, false, false] rfl rfl (any_of HT_.out (by kernel_rfl)) (fun _ _ _ h => h) (Or.inl ⟨by rfl, ?_⟩) ?_ ?_
                          rotate_left
                          · intro w'
                            go_simp
                            with_reducible rfl
                          rotate_left
                          · simp only [Act.put, List.setIfInBounds_toArray, List.set_cons_zero, List.set_cons_succ, i64_w, i32_w]
                            rfl
                          refine pure_ (i := 22) (N := some 67) (v := ?_) (a' := ?_) #[true, true, true, true, true, true, true, true, true, true, true, true, true, true, false, true, true, false, true, false, false, false, true, false, false, false, false, false, false, false] rfl rfl (any_of HT_.out (by kernel_rfl)) (fun _ _ _ h => h) (Or.inl ⟨by rfl, ?_⟩) ?_ ?_
                          rotate_left
                          · intro w'
                            go_simp
                            with_reducible rfl
                          rotate_left
                          · simp only [Act.put, List.setIfInBounds_toArray, List.set_cons_zero, List.set_cons_succ, i64_w, i32_w]
                            rfl
                          refine pure_ (i := 23) (N := some 68) (v := ?_) (a' := ?_) #[true, true, true, true, true, true, true, true, true, true, true, true, true, true, false, true, true, false, true, false, false, false, true, true, false, false, false, false, false, false] rfl rfl (any_of HT_.out (by kernel_rfl)) (fun _ _ _ h => h) (Or.inl ⟨by rfl, ?_⟩) ?_ ?_
                          rotate_left
                          · intro w'
                            go_simp
                            with_reducible rfl
                          rotate_left
                          · simp only [Act.put, List.setIfInBounds_toArray, List.set_cons_zero, List.set_cons_succ, i64_w, i32_w]
                            rfl
                          refine pure_ (i := 25) (N := some 70) (v := ?_) (a' := ?_) #[true, true, true, true, true, true, true, true, true, true, true, true, true, true, false, true, true, false, true, false, false, false, true, true, false, true, false, false, false, false] rfl rfl (any_of HT_.out (by kernel_rfl)) (fun _ _ _ h => h) (Or.inl ⟨by rfl, ?_⟩) ?_ ?_
                          rotate_left
                          · intro w'
                            go_simp
                            with_reducible rfl
                          rotate_left
                          · simp only [Act.put, List.setIfInBounds_toArray, List.set_cons_zero, List.set_cons_succ, i64_w, i32_w]
                            rfl
                          refine take_ (i := 14) (N := some 59) (v := ?_) (a' := ?_) #[true, true, true, true, true, true, true, true, true, true, true, true, true, true, true, true, true, false, true, false, false, false, true, true, false, true, false, false, false, false] rfl rfl (take_ofW HT_.out HW_.out (by kernel_rfl)) (fun _ _ _ h => h) (Or.inl ⟨by rfl, ?_⟩) hHeld ?_ ?_
                          rotate_left
                          · rintro w' ⟨s0, s1, s2, s3, s4, s5, s6, s7, s8, s9, s10⟩
                            go_simp
                            with_reducible rfl
                          rotate_left
                          · simp only [Act.put, List.setIfInBounds_toArray, List.set_cons_zero, List.set_cons_succ, i64_w, i32_w]
                            rfl
                          refine take_ (i := 17) (N := some 62) (v := ?_) (a' := ?_) #[true, true, true, true, true, true, true, true, true, true, true, true, true, true, true, true, true, true, true, false, false, false, true, true, false, true, false, false, false, false] rfl rfl (take_ofW HT_.out HW_.out (by kernel_rfl)) (fun _ _ _ h => h) (Or.inl ⟨by rfl, ?_⟩) hHeld ?_ ?_
                          rotate_left
                          · rintro w' ⟨s0, s1, s2, s3, s4, s5, s6, s7, s8, s9, s10⟩
                            go_simp
                            with_reducible rfl
                          rotate_left
                          · simp only [Act.put, List.setIfInBounds_toArray, List.set_cons_zero, List.set_cons_succ, i64_w, i32_w]
                            rfl
                          refine take_ (i := 19) (N := some 64) (v := ?_) (a' := ?_) #[true, true, true, true, true, true, true, true, true, true, true, true, true, true, true, true, true, true, true, true, false, false, true, true, false, true, false, false, false, false] rfl rfl (take_ofW HT_.out HW_.out (by kernel_rfl)) (fun _ _ _ h => h) (Or.inl ⟨by rfl, ?_⟩) hHeld ?_ ?_
                          rotate_left
                          · rintro w' ⟨s0, s1, s2, s3, s4, s5, s6, s7, s8, s9, s10⟩
                            go_simp
                            with_reducible rfl
                          rotate_left
                          · simp only [Act.put, List.setIfInBounds_toArray, List.set_cons_zero, List.set_cons_succ, i64_w, i32_w]
                            rfl
                          refine take_ (i := 21) (N := some 66) (v := ?_) (a' := ?_) #[true, true, true, true, true, true, true, true, true, true, true, true, true, true, true, true, true, true, true, true, false, true, true, true, false, true, false, false, false, false] rfl rfl (take_ofW HT_.out HW_.out (by kernel_rfl)) (fun _ _ _ h => h) (Or.inl ⟨by rfl, ?_⟩) hHeld ?_ ?_
                          rotate_left
                          · rintro w' ⟨s0, s1, s2, s3, s4, s5, s6, s7, s8, s9, s10⟩
                            go_simp
                            with_reducible rfl
                          rotate_left
                          · simp only [Act.put, List.setIfInBounds_toArray, List.set_cons_zero, List.set_cons_succ, i64_w, i32_w]
                            rfl
                          refine take_ (i := 24) (N := some 69) (v := ?_) (a' := ?_) #[true, true, true, true, true, true, true, true, true, true, true, true, true, true, true, true, true, true, true, true, false, true, true, true, true, true, false, false, false, false] rfl rfl (take_ofW HT_.out HW_.out (by kernel_rfl)) (fun _ _ _ h => h) (Or.inl ⟨by rfl, ?_⟩) hHeld ?_ ?_
                          rotate_left
                          · rintro w' ⟨s0, s1, s2, s3, s4, s5, s6, s7, s8, s9, s10⟩
                            go_simp
                            with_reducible rfl
                          rotate_left
                          · simp only [Act.put, List.setIfInBounds_toArray, List.set_cons_zero, List.set_cons_succ, i64_w, i32_w]
                            rfl
                          refine take_ (i := 26) (N := some 71) (v := ?_) (a' := ?_) #[true, true, true, true, true, true, true, true, true, true, true, true, true, true, true, true, true, true, true, true, false, true, true, true, true, true, true, false, false, false] rfl rfl (take_ofW HT_.out HW_.out (by kernel_rfl)) (fun _ _ _ h => h) (Or.inl ⟨by rfl, ?_⟩) hHeld ?_ ?_
                          rotate_left
                          · rintro w' ⟨s0, s1, s2, s3, s4, s5, s6, s7, s8, s9, s10⟩
                            go_simp
                            with_reducible rfl
                          rotate_left
                          · simp only [Act.put, List.setIfInBounds_toArray, List.set_cons_zero, List.set_cons_succ, i64_w, i32_w]
                            rfl
                          refine one_ (i := 20) (N := some 65) #[true, true, true, true, true, true, true, true, true, true, true, true, true, true, true, true, true, true, true, true, true, true, true, true, true, true, true, false, false, false] rfl rfl (one_of HT_.out (by kernel_rfl)) (by decide) (fun K hK => ?_)
                          refine goes_ Try.func11 (by kernel_rfl) rfl #[.agg #[.int .i64 t159, .int .i64 t160, .slice Ao17 t161.length co17, .slice Ao18 t164.length co18, .slice Ao19 t167.length co19], .int .i64 (rd y190 x41_2), .agg #[.int .i64 ((rd_T31 y183 x31_1).f0.f0), .int .i64 ((rd_T31 y183 x31_1).f0.f1), .int .i64 ((rd_T31 y183 x31_1).f0.f2)], .agg #[.int .i64 ((rd_T31 y183 x31_1).f1.f0), .int .i64 ((rd_T31 y183 x31_1).f1.f1), .int .i64 ((rd_T31 y183 x31_1).f1.f2)]] (by rfl) rfl rfl (by (try simp only [List.map_toArray, List.map_cons, List.map_nil]); first | done | rfl | (simp only [List.length_drop, List.length_take]; rfl)) ?_
                          with_reducible refine (stepping_Stops.calls k2 t159 t160 _ _ t161 _ _ t164 _ _ t167 (rd y190 x41_2) ((rd_T31 y183 x31_1).f0.f0) ((rd_T31 y183 x31_1).f0.f1) ((rd_T31 y183 x31_1).f0.f2) ((rd_T31 y183 x31_1).f1.f0) ((rd_T31 y183 x31_1).f1.f1) ((rd_T31 y183 x31_1).f1.f2) t196 _ ?side1 ?side2 ?side3 ?side4 ?side5 ?side6 A50.out).mono ?_
                          (case side1 => repeat (first | exact (Kd.N_reads' HO_171002.out).2.2 | (with_reducible refine Kd.C_alloc ?_ _) | (with_reducible refine Kd.C_drewN ?_ _) | (with_reducible refine Kd.C_drew ?_)))
                          (case side2 => exact (Kd.N_reads' HO_171002.out).2.1)
                          (case side3 => repeat (first | exact (Kd.R_reads' HO_171003.out).2.2 | (with_reducible refine Kd.C_alloc ?_ _) | (with_reducible refine Kd.C_drewN ?_ _) | (with_reducible refine Kd.C_drew ?_)))
                          (case side4 => exact (Kd.R_reads' HO_171003.out).2.1)
                          (case side5 => repeat (first | exact (Kd.N_reads' HO_171004.out).2.2 | (with_reducible refine Kd.C_alloc ?_ _) | (with_reducible refine Kd.C_drewN ?_ _) | (with_reducible refine Kd.C_drew ?_)))
                          (case side6 => exact (Kd.N_reads' HO_171004.out).2.1)
                          rintro e w61 ⟨rfl, hb⟩
                          refine ⟨_, rfl, ?_⟩
                          have n0_ := Aside0.mk (Kd.R_below (by (with_reducible repeat (first | apply Kd.R_alloc | apply Kd.R_drewN | apply Kd.R_drew)); exact HO_29.out) hb)
                          have n1_ := Aside0.mk (Kd.R_below (by (with_reducible repeat (first | apply Kd.R_alloc | apply Kd.R_drewN | apply Kd.R_drew)); exact HO_39.out) hb)
                          have n2_ := Aside0.mk (Kd.N_below (by (with_reducible repeat (first | apply Kd.N_alloc | apply Kd.N_drewN | apply Kd.N_drew)); exact HO_171002.out) hb)
                          have n3_ := Aside0.mk (Kd.R_below (by (with_reducible repeat (first | apply Kd.R_alloc | apply Kd.R_drewN | apply Kd.R_drew)); exact HO_171003.out) hb)
                          have n4_ := Aside0.mk (Kd.N_below (by (with_reducible repeat (first | apply Kd.N_alloc | apply Kd.N_drewN | apply Kd.N_drew)); exact HO_171004.out) hb)
                          have n5_ := Aside0.mk (blk_below (g := gb157) (o := .cells #[.int .i64 a1_0, .int .i64 a1_1, .int .i64 a1_2] 24 (0, 0)) (by (with_reducible repeat (first | refine blk_drewN ?_ _ | refine blk_drew ?_ | refine blk_alloc ?_ _)); exact BK157.out) hb)
                          have n6_ := Aside0.mk (blk_below (g := gb158) (o := .cells #[.int .i64 a2_0, .int .i64 a2_1, .int .i64 a2_2] 24 (0, 0)) (by (with_reducible repeat (first | refine blk_drewN ?_ _ | refine blk_drew ?_ | refine blk_alloc ?_ _)); exact BK158.out) hb)
                          have n7_ := Aside0.mk (blk_below (g := gb170) (o := .cells #[.int .i64 t159, .int .i64 t160, .slice Ao17 t161.length co17, .slice Ao18 t164.length co18, .slice Ao19 t167.length co19] 29 (0, 0)) (by (with_reducible repeat (first | refine blk_drewN ?_ _ | refine blk_drew ?_ | refine blk_alloc ?_ _)); exact BK170.out) hb)
                          have n8_ := Aside0.mk (blk_below (g := gb188) (o := .cells #[.int .i64 ((rd_T31 y183 x31_1).f0.f0), .int .i64 ((rd_T31 y183 x31_1).f0.f1), .int .i64 ((rd_T31 y183 x31_1).f0.f2), .int .i64 ((rd_T31 y183 x31_1).f1.f0), .int .i64 ((rd_T31 y183 x31_1).f1.f1), .int .i64 ((rd_T31 y183 x31_1).f1.f2)] 31 (0, 0)) (by (with_reducible repeat (first | refine blk_drewN ?_ _ | refine blk_drew ?_ | refine blk_alloc ?_ _)); exact BK188.out) hb)
                          have n9_ := Aside0.mk (below_step (by repeat (first | (with_reducible first | exact HB.out | apply below_alloc | apply pw_below_drewN | apply below_drew1 | refine below_set ?_ GE157.out | refine below_set ?_ GE158.out | refine below_set ?_ GE170.out | refine below_set ?_ GE188.out) | exact HB.out)) hb)
                          clear HO_29
                          clear HO_39
                          clear HO_171002
                          clear HO_171003
                          clear HO_171004
                          clear BK157
                          clear BK158
                          clear BK170
                          clear BK188
                          clear HB
                          have HO_29 := n0_
                          have HO_39 := n1_
                          have HO_171002 := n2_
                          have HO_171003 := n3_
                          have HO_171004 := n4_
                          have BK157 := n5_
                          have BK158 := n6_
                          have BK170 := n7_
                          have BK188 := n8_
                          have HB := n9_
                          clear n0_ n1_ n2_ n3_ n4_ n5_ n6_ n7_ n8_ n9_
                          (try clear hb)
                          (try clear hb2)
                          (try clear hk)
                          (try clear hi)
                          refine hK.out _ _ ⟨(blk_cell BK170.out 0).trans rfl, (blk_cell BK170.out 1).trans rfl, (blk_cell BK170.out 2).trans rfl, (blk_cell BK170.out 3).trans rfl, (blk_cell BK170.out 4).trans rfl, (blk_cell BK188.out 0).trans rfl, (blk_cell BK188.out 1).trans rfl, (blk_cell BK188.out 2).trans rfl, (blk_cell BK188.out 3).trans rfl, (blk_cell BK188.out 4).trans rfl, (blk_cell BK188.out 5).trans rfl⟩ (fun hHeld => ?_)
                          clear hK K
                          refine norm_ (a' := ?_) ?_ ?_
                          rotate_left
                          · show Act.put _ (some 65) _ = _
                            simp only [Act.put, List.setIfInBounds_toArray, List.set_cons_zero, List.set_cons_succ, i64_w, i32_w]
                            rfl
                          refine one_ (i := 27) (N := some 72) #[true, true, true, true, true, true, true, true, true, true, true, true, true, true, true, true, true, true, true, true, true, true, true, true, true, true, true, true, false, false] rfl rfl (one_of HT_.out (by kernel_rfl)) (by decide) (fun K hK => ?_)
                          refine goes_ Try.func12 (by kernel_rfl) rfl #[.agg #[.int .i64 t159, .int .i64 t160, .slice Ao17 t161.length co17, .slice Ao18 t164.length co18, .slice Ao19 t167.length co19], .int .i64 (rd y190 x41_2), .agg #[.int .i64 ((rd_T31 y183 x31_1).f0.f0), .int .i64 ((rd_T31 y183 x31_1).f0.f1), .int .i64 ((rd_T31 y183 x31_1).f0.f2)], .agg #[.int .i64 ((rd_T31 y183 x31_1).f1.f0), .int .i64 ((rd_T31 y183 x31_1).f1.f1), .int .i64 ((rd_T31 y183 x31_1).f1.f2)]] (by rfl) rfl rfl (by (try simp only [List.map_toArray, List.map_cons, List.map_nil]); first | done | rfl | (simp only [List.length_drop, List.length_take]; rfl)) ?_
                          with_reducible refine (debuggerref42_Stops.calls k2 t159 t160 _ _ t161 _ _ t164 _ _ t167 (rd y190 x41_2) ((rd_T31 y183 x31_1).f0.f0) ((rd_T31 y183 x31_1).f0.f1) ((rd_T31 y183 x31_1).f0.f2) ((rd_T31 y183 x31_1).f1.f0) ((rd_T31 y183 x31_1).f1.f1) ((rd_T31 y183 x31_1).f1.f2) t197 _ ?side1 ?side2 ?side3 ?side4 ?side5 ?side6 A51.out).mono ?_
                          (case side1 => repeat (first | exact (Kd.N_reads' HO_171002.out).2.2 | (with_reducible refine Kd.C_alloc ?_ _) | (with_reducible refine Kd.C_drewN ?_ _) | (with_reducible refine Kd.C_drew ?_)))
                          (case side2 => exact (Kd.N_reads' HO_171002.out).2.1)
                          (case side3 => repeat (first | exact (Kd.R_reads' HO_171003.out).2.2 | (with_reducible refine Kd.C_alloc ?_ _) | (with_reducible refine Kd.C_drewN ?_ _) | (with_reducible refine Kd.C_drew ?_)))
                          (case side4 => exact (Kd.R_reads' HO_171003.out).2.1)
                          (case side5 => repeat (first | exact (Kd.N_reads' HO_171004.out).2.2 | (with_reducible refine Kd.C_alloc ?_ _) | (with_reducible refine Kd.C_drewN ?_ _) | (with_reducible refine Kd.C_drew ?_)))
                          (case side6 => exact (Kd.N_reads' HO_171004.out).2.1)
                          rintro e w62 ⟨rfl, hb⟩
                          refine ⟨_, rfl, ?_⟩
                          have n0_ := Aside0.mk (Kd.R_below (by (with_reducible repeat (first | apply Kd.R_alloc | apply Kd.R_drewN | apply Kd.R_drew)); exact HO_29.out) hb)
                          have n1_ := Aside0.mk (Kd.R_below (by (with_reducible repeat (first | apply Kd.R_alloc | apply Kd.R_drewN | apply Kd.R_drew)); exact HO_39.out) hb)
                          have n2_ := Aside0.mk (Kd.N_below (by (with_reducible repeat (first | apply Kd.N_alloc | apply Kd.N_drewN | apply Kd.N_drew)); exact HO_171002.out) hb)
                          have n3_ := Aside0.mk (Kd.R_below (by (with_reducible repeat (first | apply Kd.R_alloc | apply Kd.R_drewN | apply Kd.R_drew)); exact HO_171003.out) hb)
                          have n4_ := Aside0.mk (Kd.N_below (by (with_reducible repeat (first | apply Kd.N_alloc | apply Kd.N_drewN | apply Kd.N_drew)); exact HO_171004.out) hb)
                          have n5_ := Aside0.mk (blk_below (g := gb157) (o := .cells #[.int .i64 a1_0, .int .i64 a1_1, .int .i64 a1_2] 24 (0, 0)) (by (with_reducible repeat (first | refine blk_drewN ?_ _ | refine blk_drew ?_ | refine blk_alloc ?_ _)); exact BK157.out) hb)
                          have n6_ := Aside0.mk (blk_below (g := gb158) (o := .cells #[.int .i64 a2_0, .int .i64 a2_1, .int .i64 a2_2] 24 (0, 0)) (by (with_reducible repeat (first | refine blk_drewN ?_ _ | refine blk_drew ?_ | refine blk_alloc ?_ _)); exact BK158.out) hb)
                          have n7_ := Aside0.mk (blk_below (g := gb170) (o := .cells #[.int .i64 t159, .int .i64 t160, .slice Ao17 t161.length co17, .slice Ao18 t164.length co18, .slice Ao19 t167.length co19] 29 (0, 0)) (by (with_reducible repeat (first | refine blk_drewN ?_ _ | refine blk_drew ?_ | refine blk_alloc ?_ _)); exact BK170.out) hb)
                          have n8_ := Aside0.mk (blk_below (g := gb188) (o := .cells #[.int .i64 ((rd_T31 y183 x31_1).f0.f0), .int .i64 ((rd_T31 y183 x31_1).f0.f1), .int .i64 ((rd_T31 y183 x31_1).f0.f2), .int .i64 ((rd_T31 y183 x31_1).f1.f0), .int .i64 ((rd_T31 y183 x31_1).f1.f1), .int .i64 ((rd_T31 y183 x31_1).f1.f2)] 31 (0, 0)) (by (with_reducible repeat (first | refine blk_drewN ?_ _ | refine blk_drew ?_ | refine blk_alloc ?_ _)); exact BK188.out) hb)
                          have n9_ := Aside0.mk (below_step (by repeat (first | (with_reducible first | exact HB.out | apply below_alloc | apply pw_below_drewN | apply below_drew1 | refine below_set ?_ GE157.out | refine below_set ?_ GE158.out | refine below_set ?_ GE170.out | refine below_set ?_ GE188.out) | exact HB.out)) hb)
                          clear HO_29
                          clear HO_39
                          clear HO_171002
                          clear HO_171003
                          clear HO_171004
                          clear BK157
                          clear BK158
                          clear BK170
                          clear BK188
                          clear HB
                          have HO_29 := n0_
                          have HO_39 := n1_
                          have HO_171002 := n2_
                          have HO_171003 := n3_
                          have HO_171004 := n4_
                          have BK157 := n5_
                          have BK158 := n6_
                          have BK170 := n7_
                          have BK188 := n8_
                          have HB := n9_
                          clear n0_ n1_ n2_ n3_ n4_ n5_ n6_ n7_ n8_ n9_
                          (try clear hb)
                          (try clear hb2)
                          (try clear hk)
                          (try clear hi)
                          refine hK.out _ _ ⟨(blk_cell BK170.out 0).trans rfl, (blk_cell BK170.out 1).trans rfl, (blk_cell BK170.out 2).trans rfl, (blk_cell BK170.out 3).trans rfl, (blk_cell BK170.out 4).trans rfl, (blk_cell BK188.out 0).trans rfl, (blk_cell BK188.out 1).trans rfl, (blk_cell BK188.out 2).trans rfl, (blk_cell BK188.out 3).trans rfl, (blk_cell BK188.out 4).trans rfl, (blk_cell BK188.out 5).trans rfl⟩ (fun hHeld => ?_)
                          clear hK K
                          refine norm_ (a' := ?_) ?_ ?_
                          rotate_left
                          · show Act.put _ (some 72) _ = _
                            simp only [Act.put, List.setIfInBounds_toArray, List.set_cons_zero, List.set_cons_succ, i64_w, i32_w]
                            rfl
                          refine pure_ (i := 28) (N := some 73) (v := ?_) (a' := ?_) #[true, true, true, true, true, true, true, true, true, true, true, true, true, true, true, true, true, true, true, true, true, true, true, true, true, true, true, true, true, false] rfl rfl (any_of HT_.out (by kernel_rfl)) (fun _ _ _ h => h) (Or.inl ⟨by rfl, ?_⟩) ?_ ?_
                          rotate_left
                          · intro w'
                            go_simp
                            with_reducible rfl
                          rotate_left
                          · simp only [Act.put, List.setIfInBounds_toArray, List.set_cons_zero, List.set_cons_succ, i64_w, i32_w]
                            rfl
                          refine pure_ (i := 29) (N := some 74) (v := ?_) (a' := ?_) #[true, true, true, true, true, true, true, true, true, true, true, true, true, true, true, true, true, true, true, true, true, true, true, true, true, true, true, true, true, true] rfl rfl (any_of HT_.out (by kernel_rfl)) (fun _ _ _ h => h) (Or.inl ⟨by rfl, ?_⟩) ?_ ?_
                          rotate_left
                          · intro w'
                            go_simp
                            with_reducible rfl
                          rotate_left
                          · simp only [Act.put, List.setIfInBounds_toArray, List.set_cons_zero, List.set_cons_succ, i64_w, i32_w]
                            rfl
                          refine done_ (done_of HT_.out (by kernel_rfl)) ?_
                          try go_wp2
                          go_roundg k2
                          case measure => have := HK1.out; have := HK2.out; omega
                          case rel => exact ⟨(wrap64 (x41_2 + 1)), (by first | rfl | (simp; done) | (simp [*]; done)), H', ⟨by have := HK1.out; have := HK2.out; omega⟩, ⟨by (with_reducible repeat (first | apply Kd.R_alloc | apply Kd.R_drewN | apply Kd.R_drew)); exact HO_29.out⟩, ⟨by (with_reducible repeat (first | apply Kd.R_alloc | apply Kd.R_drewN | apply Kd.R_drew)); exact HO_39.out⟩, ⟨by (with_reducible repeat (first | apply Kd.N_alloc | apply Kd.N_drewN | apply Kd.N_drew)); exact HO_171002.out⟩, ⟨by (with_reducible repeat (first | apply Kd.R_alloc | apply Kd.R_drewN | apply Kd.R_drew)); exact HO_171003.out⟩, ⟨by (with_reducible repeat (first | apply Kd.N_alloc | apply Kd.N_drewN | apply Kd.N_drew)); exact HO_171004.out⟩, ⟨by (with_reducible repeat (first | refine blk_drewN ?_ _ | refine blk_drew ?_ | refine blk_alloc ?_ _)); exact BK157.out⟩, ⟨by (with_reducible repeat (first | refine blk_drewN ?_ _ | refine blk_drew ?_ | refine blk_alloc ?_ _)); exact BK158.out⟩, ⟨by (with_reducible repeat (first | refine blk_drewN ?_ _ | refine blk_drew ?_ | refine blk_alloc ?_ _)); exact BK170.out⟩, ⟨by (with_reducible repeat (first | refine blk_drewN ?_ _ | refine blk_drew ?_ | refine blk_alloc ?_ _)); exact BK188.out⟩, ⟨by repeat (first | (with_reducible first | exact HB.out | apply below_alloc | apply pw_below_drewN | apply below_drew1 | refine below_set ?_ GE157.out | refine below_set ?_ GE158.out | refine below_set ?_ GE170.out | refine below_set ?_ GE188.out) | exact HB.out)⟩⟩
                    · rw [if_neg c43] at H
                      exact absurd H (by simp)
                  · rw [if_neg c42] at H
                    exact absurd H (by simp)
                · rw [if_neg c41] at H
                  have c41b0 : decide (x41_2 < (y190.length : Int)) = false := decide_eq_false c41
                  clear c41
                  have H' := Aside0.mk H
                  clear H
                  go_wp2
                  go_roundg k2
                  case measure => have := HK1.out; have := HK2.out; omega
                  case rel => exact ⟨(wrap64 (x31_1 + 1)), (by first | rfl | (simp; done) | (simp [*]; done)), H', ⟨by have := HK1.out; have := HK2.out; omega⟩, ⟨by (with_reducible repeat (first | apply Kd.R_alloc | apply Kd.R_drewN | apply Kd.R_drew)); exact Kd.R_mono HO_29.out (fun _ hk => trivial)⟩, ⟨by (with_reducible repeat (first | apply Kd.N_alloc | apply Kd.N_drewN | apply Kd.N_drew)); exact Kd.N_mono HO_171002.out (fun _ hk => ⟨hk.1, ⟨hk.2.2.1, ⟨hk.2.2.2.1, ⟨hk.2.2.2.2.1, ⟨hk.2.2.2.2.2.1, hk.2.2.2.2.2.2.1⟩⟩⟩⟩⟩)⟩, ⟨by (with_reducible repeat (first | apply Kd.R_alloc | apply Kd.R_drewN | apply Kd.R_drew)); exact HO_171003.out⟩, ⟨by (with_reducible repeat (first | apply Kd.N_alloc | apply Kd.N_drewN | apply Kd.N_drew)); exact Kd.N_mono HO_171004.out (fun _ hk => ⟨hk.1, ⟨hk.2.2.1, ⟨hk.2.2.2.1, ⟨hk.2.2.2.2.1, ⟨hk.2.2.2.2.2.1, hk.2.2.2.2.2.2.1⟩⟩⟩⟩⟩)⟩, ⟨by (with_reducible repeat (first | refine blk_drewN ?_ _ | refine blk_drew ?_ | refine blk_alloc ?_ _)); exact BK157.out⟩, ⟨by (with_reducible repeat (first | refine blk_drewN ?_ _ | refine blk_drew ?_ | refine blk_alloc ?_ _)); exact BK158.out⟩, ⟨by (with_reducible repeat (first | refine blk_drewN ?_ _ | refine blk_drew ?_ | refine blk_alloc ?_ _)); exact BK170.out⟩, ⟨by repeat (first | (with_reducible first | exact HB.out | apply below_alloc | apply pw_below_drewN | apply below_drew1 | refine below_set ?_ GE157.out | refine below_set ?_ GE158.out | refine below_set ?_ GE170.out | refine below_set ?_ GE188.out) | exact HB.out)⟩⟩
          · rw [if_neg c31] at H
            exact absurd H (by simp)
        · rw [if_neg c30] at H
          exact absurd H (by simp)
      · rw [if_neg c29] at H
        have c29b0 : decide (x31_1 < (y183.length : Int)) = false := decide_eq_false c29
        clear c29
        replace H := Option.bind_eq_some_iff.mp H
        obtain ⟨t186, A630, H⟩ := H
        replace H : (some t186) = some r := H
        have A63 := Aside0.mk A630
        clear A630
        obtain rfl := Option.some.inj H
        go_wp2_with (first | ((with_reducible refine gate_callee (f := 13) rfl ?_); refine goesL_ (some 77) rfl rfl Try.func13 (by kernel_rfl) rfl #[] rfl (by (try simp only [List.map_toArray, List.map_cons, List.map_nil]); first | done | rfl | (simp only [List.length_drop, List.length_take]; rfl)) ?_; (with_reducible refine (debuggerlaw42_awake.calls k1  t186 _ A63.out).mono ?_); rintro e w64 ⟨rfl, hb⟩; refine ⟨_, rfl, ?_⟩; have n0_ := Aside0.mk (Kd.R_below (by (with_reducible repeat (first | apply Kd.R_alloc | apply Kd.R_drewN | apply Kd.R_drew)); exact HO_29.out) hb); have n1_ := Aside0.mk (Kd.N_below (by (with_reducible repeat (first | apply Kd.N_alloc | apply Kd.N_drewN | apply Kd.N_drew)); exact HO_171002.out) hb); have n2_ := Aside0.mk (Kd.R_below (by (with_reducible repeat (first | apply Kd.R_alloc | apply Kd.R_drewN | apply Kd.R_drew)); exact HO_171003.out) hb); have n3_ := Aside0.mk (Kd.N_below (by (with_reducible repeat (first | apply Kd.N_alloc | apply Kd.N_drewN | apply Kd.N_drew)); exact HO_171004.out) hb); have n4_ := Aside0.mk (blk_below (g := gb157) (o := .cells #[.int .i64 a1_0, .int .i64 a1_1, .int .i64 a1_2] 24 (0, 0)) (by (with_reducible repeat (first | refine blk_drewN ?_ _ | refine blk_drew ?_ | refine blk_alloc ?_ _)); exact BK157.out) hb); have n5_ := Aside0.mk (blk_below (g := gb158) (o := .cells #[.int .i64 a2_0, .int .i64 a2_1, .int .i64 a2_2] 24 (0, 0)) (by (with_reducible repeat (first | refine blk_drewN ?_ _ | refine blk_drew ?_ | refine blk_alloc ?_ _)); exact BK158.out) hb); have n6_ := Aside0.mk (blk_below (g := gb170) (o := .cells #[.int .i64 t159, .int .i64 t160, .slice Ao17 t161.length co17, .slice Ao18 t164.length co18, .slice Ao19 t167.length co19] 29 (0, 0)) (by (with_reducible repeat (first | refine blk_drewN ?_ _ | refine blk_drew ?_ | refine blk_alloc ?_ _)); exact BK170.out) hb); have n7_ := Aside0.mk (below_step (by repeat (first | (with_reducible first | exact HB.out | apply below_alloc | apply pw_below_drewN | apply below_drew1 | refine below_set ?_ GE157.out | refine below_set ?_ GE158.out | refine below_set ?_ GE170.out) | exact HB.out)) hb); clear HO_29; clear HO_171002; clear HO_171003; clear HO_171004; clear BK157; clear BK158; clear BK170; clear HB; have HO_29 := n0_; have HO_171002 := n1_; have HO_171003 := n2_; have HO_171004 := n3_; have BK157 := n4_; have BK158 := n5_; have BK170 := n6_; have HB := n7_; clear n0_ n1_ n2_ n3_ n4_ n5_ n6_ n7_; (try clear hb); (try clear hb2); (try clear hk); (try clear hi)))
        go_ret
        exact ⟨by first | rfl | (simp [errW_none, errW_some] <;> rfl) | (simp [*, errW_none, errW_some] <;> rfl), by repeat (first | (with_reducible first | exact HB.out | apply below_alloc | apply pw_below_drewN | apply below_drew1 | refine below_set ?_ GE157.out | refine below_set ?_ GE158.out | refine below_set ?_ GE170.out) | exact HB.out)⟩

end Go.Proofs.Ytjcghbgcnofchaa.QSteppingCompares
