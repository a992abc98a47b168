-- Written by a program of this session (wip/printer.py of the repo) out of the translation.
import Derived.Test.YtipkcbpilkoflaaQLinkArrivesx0
import Derived.Test.YtipkcbpilkoflaaQLinkArrivesx1
import Derived.Test.YtipkcbpilkoflaaQLinkArrivesx15
import Derived.Test.YtipkcbpilkoflaaQLinkArrivesx16
import Derived.Test.YtipkcbpilkoflaaQLinkArrivesx17
import Derived.Test.YtipkcbpilkoflaaQLinkArrivesx18
import Derived.Test.YtipkcbpilkoflaaQLinkArrivesx19
import Derived.Test.YtipkcbpilkoflaaQLinkArrivesx20
namespace Go.Proofs.Ytipkcbpilkoflaa.QLinkArrives
open Go.RowKit Go.Proofs.YtipkcbpilkoflaaW.PrintWords Go.Proofs.YtipkcbpilkoflaaW.PrintLast Go.Proofs.YtipkcbpilkoflaaW.PrintMore
attribute [local go_sem] max2_int min2_int max_two min_two max_three min_three max_four min_four   -- for this text's walks alone
set_option linter.unusedVariables false
set_option linter.unusedSimpArgs false

/-! ### debuggerlaw34_LinkArrives: function 4 -/
mutual
def debuggerlaw34_LinkArrives.l0 : Nat → List (S37) → Int → List (S37) → Int → Option (Bool)
  | 0, _, _, _, _ => none
  | k + 1, x0, x1, x5, x6 => if x6 < (x5.length : Int) then (if 0 ≤ x6 then ((debuggerkit_Mod.f ((rd_T37 x5 x6).f0) 6).bind fun t261 => (debuggerlaw34_LinkArrives.l0 k x0 x1 (x5.set (x6 : Int).toNat (⟨t261, (rd_T37 x5 x6).f1⟩ : S37)) (wrap64 (x6 + 1)))) else (none)) else ((some (([x0, x5] : List (List (S37))) : List (List (S37)))).bind fun y263 => (debuggerlaw34_LinkArrives.l1 k x1 y263 (y263.length : Int) 0))
def debuggerlaw34_LinkArrives.l1 : Nat → Int → List (List (S37)) → Int → Int → Option (Bool)
  | 0, _, _, _, _ => none
  | k + 1, x1, x39, x40, x41 => if x41 < x40 then (if 0 ≤ x41 then (if x41 < (x39.length : Int) then ((debuggerkit_Mod.f x1 7).bind fun t268 => ((some (([x1, t268] : List Int) : List Int)).bind fun y269 => (debuggerlaw34_LinkArrives.l2 k x1 (rd_L6 x39 x41) x39 x40 x41 y269 (y269.length : Int) 0))) else (none)) else (none)) else ((debuggerlaw34_awake.f k).bind fun t266 => (some t266))
def debuggerlaw34_LinkArrives.l2 : Nat → Int → List (S37) → List (List (S37)) → Int → Int → List Int → Int → Int → Option (Bool)
  | 0, _, _, _, _, _, _, _, _ => none
  | k + 1, x1, x8, x39, x40, x41, x48, x49, x50 => if x50 < x49 then (if 0 ≤ x50 then (if x50 < (x48.length : Int) then ((link_Arrive.f k x8 (rd x48 x50)).bind fun bt273 => ((debuggerref34_Arrive.f k x8 (rd x48 x50)).bind fun bt279 => ((debuggerref34_Bodies.f k bt273.1 bt279.1).bind fun t285 => (if t285 = true then ((debuggerref34_Same.f k bt273.2 bt279.2).bind fun t286 => (if t286 = true then (debuggerlaw34_LinkArrives.l2 k x1 x8 x39 x40 x41 x48 x49 (wrap64 (x50 + 1))) else (some false))) else (some false))))) else (none)) else (none)) else (debuggerlaw34_LinkArrives.l1 k x1 x39 x40 (wrap64 (x41 + 1)))
end
def debuggerlaw34_LinkArrives.f (k : Nat) (l0 : List (S37)) (a1 : Int) : Option (Bool) := (debuggerlaw34_large.f k l0).bind fun t252 => (if t252 = true then ((debuggerlaw34_awake.f k).bind fun t253 => (some t253)) else ((some (([] : List (S37)) : List (S37))).bind fun y254 => (if y254.length + l0.length < 4398046511104 then (debuggerlaw34_LinkArrives.l0 k l0 a1 (y254 ++ l0) 0) else (none))))
theorem debuggerlaw34_LinkArrives.mono_l : ∀ k, (∀ y0 y1 y2 y3, LeO (debuggerlaw34_LinkArrives.l0 k y0 y1 y2 y3) (debuggerlaw34_LinkArrives.l0 (k + 1) y0 y1 y2 y3)) ∧ (∀ y0 y1 y2 y3, LeO (debuggerlaw34_LinkArrives.l1 k y0 y1 y2 y3) (debuggerlaw34_LinkArrives.l1 (k + 1) y0 y1 y2 y3)) ∧ (∀ y0 y1 y2 y3 y4 y5 y6 y7, LeO (debuggerlaw34_LinkArrives.l2 k y0 y1 y2 y3 y4 y5 y6 y7) (debuggerlaw34_LinkArrives.l2 (k + 1) y0 y1 y2 y3 y4 y5 y6 y7))
  | 0 => ⟨fun _ _ _ _ r h => by simp [debuggerlaw34_LinkArrives.l0] at h, fun _ _ _ _ r h => by simp [debuggerlaw34_LinkArrives.l1] at h, fun _ _ _ _ _ _ _ _ r h => by simp [debuggerlaw34_LinkArrives.l2] at h⟩
  | k + 1 => by
    obtain ⟨ih0, ih1, ih2⟩ := debuggerlaw34_LinkArrives.mono_l k
    refine ⟨?_, ?_, ?_⟩
    · intro y0 y1 y2 y3
      unfold debuggerlaw34_LinkArrives.l0
      repeat' first
      | (with_reducible exact ih0 _ _ _ _)
      | (with_reducible exact ih1 _ _ _ _)
      | (with_reducible exact ih2 _ _ _ _ _ _ _ _)
      | (with_reducible exact debuggerlaw34_awake.mono _)
      | (with_reducible exact debuggerlaw34_large.mono _ _)
      | (with_reducible exact debuggerref34_Arrive.mono _ _ _)
      | (with_reducible exact debuggerref34_Bodies.mono _ _ _)
      | (with_reducible exact debuggerref34_Same.mono _ _ _)
      | (with_reducible exact link_Arrive.mono _ _ _)
      | (with_reducible exact LeO.refl _)
      | (with_reducible exact LeO.none _)
      | (with_reducible refine LeO.ite ?_ ?_)
      | (with_reducible refine LeO.bind ?_ (fun _ => ?_))
      | exact ih0 _ _ _ _
      | exact ih1 _ _ _ _
      | exact ih2 _ _ _ _ _ _ _ _
      | exact debuggerlaw34_awake.mono _
      | exact debuggerlaw34_large.mono _ _
      | exact debuggerref34_Arrive.mono _ _ _
      | exact debuggerref34_Bodies.mono _ _ _
      | exact debuggerref34_Same.mono _ _ _
      | exact link_Arrive.mono _ _ _
      | exact LeO.none _
      | refine LeO.ite ?_ ?_
      | refine LeO.bind ?_ (fun _ => ?_)
    · intro y0 y1 y2 y3
      unfold debuggerlaw34_LinkArrives.l1
      repeat' first
      | (with_reducible exact ih0 _ _ _ _)
      | (with_reducible exact ih1 _ _ _ _)
      | (with_reducible exact ih2 _ _ _ _ _ _ _ _)
      | (with_reducible exact debuggerlaw34_awake.mono _)
      | (with_reducible exact debuggerlaw34_large.mono _ _)
      | (with_reducible exact debuggerref34_Arrive.mono _ _ _)
      | (with_reducible exact debuggerref34_Bodies.mono _ _ _)
      | (with_reducible exact debuggerref34_Same.mono _ _ _)
      | (with_reducible exact link_Arrive.mono _ _ _)
      | (with_reducible exact LeO.refl _)
      | (with_reducible exact LeO.none _)
      | (with_reducible refine LeO.ite ?_ ?_)
      | (with_reducible refine LeO.bind ?_ (fun _ => ?_))
      | exact ih0 _ _ _ _
      | exact ih1 _ _ _ _
      | exact ih2 _ _ _ _ _ _ _ _
      | exact debuggerlaw34_awake.mono _
      | exact debuggerlaw34_large.mono _ _
      | exact debuggerref34_Arrive.mono _ _ _
      | exact debuggerref34_Bodies.mono _ _ _
      | exact debuggerref34_Same.mono _ _ _
      | exact link_Arrive.mono _ _ _
      | exact LeO.none _
      | refine LeO.ite ?_ ?_
      | refine LeO.bind ?_ (fun _ => ?_)
    · intro y0 y1 y2 y3 y4 y5 y6 y7
      unfold debuggerlaw34_LinkArrives.l2
      repeat' first
      | (with_reducible exact ih0 _ _ _ _)
      | (with_reducible exact ih1 _ _ _ _)
      | (with_reducible exact ih2 _ _ _ _ _ _ _ _)
      | (with_reducible exact debuggerlaw34_awake.mono _)
      | (with_reducible exact debuggerlaw34_large.mono _ _)
      | (with_reducible exact debuggerref34_Arrive.mono _ _ _)
      | (with_reducible exact debuggerref34_Bodies.mono _ _ _)
      | (with_reducible exact debuggerref34_Same.mono _ _ _)
      | (with_reducible exact link_Arrive.mono _ _ _)
      | (with_reducible exact LeO.refl _)
      | (with_reducible exact LeO.none _)
      | (with_reducible refine LeO.ite ?_ ?_)
      | (with_reducible refine LeO.bind ?_ (fun _ => ?_))
      | exact ih0 _ _ _ _
      | exact ih1 _ _ _ _
      | exact ih2 _ _ _ _ _ _ _ _
      | exact debuggerlaw34_awake.mono _
      | exact debuggerlaw34_large.mono _ _
      | exact debuggerref34_Arrive.mono _ _ _
      | exact debuggerref34_Bodies.mono _ _ _
      | exact debuggerref34_Same.mono _ _ _
      | exact link_Arrive.mono _ _ _
      | exact LeO.none _
      | refine LeO.ite ?_ ?_
      | refine LeO.bind ?_ (fun _ => ?_)
theorem debuggerlaw34_LinkArrives.mono : ∀ a0 a1 k, LeO (debuggerlaw34_LinkArrives.f k a0 a1) (debuggerlaw34_LinkArrives.f (k + 1) a0 a1) := by
  intro a0 a1 k
  obtain ⟨ih0, ih1, ih2⟩ := debuggerlaw34_LinkArrives.mono_l k
  unfold debuggerlaw34_LinkArrives.f
  repeat' first
      | (with_reducible exact ih0 _ _ _ _)
      | (with_reducible exact ih1 _ _ _ _)
      | (with_reducible exact ih2 _ _ _ _ _ _ _ _)
      | (with_reducible exact debuggerlaw34_awake.mono _)
      | (with_reducible exact debuggerlaw34_large.mono _ _)
      | (with_reducible exact debuggerref34_Arrive.mono _ _ _)
      | (with_reducible exact debuggerref34_Bodies.mono _ _ _)
      | (with_reducible exact debuggerref34_Same.mono _ _ _)
      | (with_reducible exact link_Arrive.mono _ _ _)
      | (with_reducible exact LeO.refl _)
      | (with_reducible exact LeO.none _)
      | (with_reducible refine LeO.ite ?_ ?_)
      | (with_reducible refine LeO.bind ?_ (fun _ => ?_))
      | exact ih0 _ _ _ _
      | exact ih1 _ _ _ _
      | exact ih2 _ _ _ _ _ _ _ _
      | exact debuggerlaw34_awake.mono _
      | exact debuggerlaw34_large.mono _ _
      | exact debuggerref34_Arrive.mono _ _ _
      | exact debuggerref34_Bodies.mono _ _ _
      | exact debuggerref34_Same.mono _ _ _
      | exact link_Arrive.mono _ _ _
      | exact LeO.none _
      | refine LeO.ite ?_ ?_
      | refine LeO.bind ?_ (fun _ => ?_)
set_option maxHeartbeats 8000000 in
set_option maxRecDepth 100000 in
theorem debuggerlaw34_LinkArrives.calls (k : Nat) (P0_ : Nat → Prop) (hP0 : ∀ k_, P0_ k_) (A0 : Option Addr) (c0 : Nat) (l0 : List (S37)) (a1 : Int) (r : Bool) (w : World) (hs0 : Kd.V k37 37 w w.heap.size (fun k_ => P0_ k_) (.slice A0 l0.length c0) l0) (h : debuggerlaw34_LinkArrives.f k l0 a1 = some r) :
    Calls Try.prog 4 #[.slice A0 l0.length c0, .int .i64 a1] w fun e w' => e = .returned (.bool r) ∧ Below w.heap.size w w' := by
  have HO0 := Aside0.mk (show Kd.V k37 37 w w.heap.size (fun k_ => (P0_ k_ ∨ w.heap.size ≤ k_)) (.slice A0 l0.length c0) l0 from Kd.V_mono hs0 (fun k_ hk => .inl hk))
  have HB := Aside0.mk (Below.refl w.heap.size w)
  have H : ((debuggerlaw34_large.f k l0).bind fun t252 => (if t252 = true then ((debuggerlaw34_awake.f k).bind fun t253 => (some t253)) else ((some (([] : List (S37)) : List (S37))).bind fun y254 => (if y254.length + l0.length < 4398046511104 then (debuggerlaw34_LinkArrives.l0 k l0 a1 (y254 ++ l0) 0) else (none))))) = some r := h
  clear h
  replace H := Option.bind_eq_some_iff.mp H
  obtain ⟨t252, A30, H⟩ := H
  replace H : (if t252 = true then ((debuggerlaw34_awake.f k).bind fun t253 => (some t253)) else ((some (([] : List (S37)) : List (S37))).bind fun y254 => (if y254.length + l0.length < 4398046511104 then (debuggerlaw34_LinkArrives.l0 k l0 a1 (y254 ++ l0) 0) else (none)))) = some r := H
  have A3 := Aside0.mk A30
  clear A30
  by_cases c4 : t252 = true
  · subst c4
    have H1 : ((debuggerlaw34_awake.f k).bind fun t253 => (some t253)) = some r := by rw [if_pos rfl] at H; exact H
    clear H
    have H := H1
    clear H1
    replace H := Option.bind_eq_some_iff.mp H
    obtain ⟨t253, A50, H⟩ := H
    replace H : (some t253) = some r := H
    have A5 := Aside0.mk A50
    clear A50
    obtain rfl := Option.some.inj H
    go_enter Try.func4, Try.ntmps4
    go_wp2_with (first | ((with_reducible refine gate_callee (f := 8) rfl ?_); refine goesL_ (some 16) rfl rfl Try.func8 (by kernel_rfl) rfl #[.slice A0 l0.length c0] rfl (by (try simp only [List.map_toArray, List.map_cons, List.map_nil]); first | done | rfl | (simp only [List.length_drop, List.length_take]; rfl)) ?_; (with_reducible refine (debuggerlaw34_large.calls k _ _ l0 true _ ?side1 ?side2 A3.out).mono ?_); (case side1 => repeat (first | exact (Kd.V_reads' HO0.out).2.2 | (with_reducible refine Kd.C_alloc ?_ _) | (with_reducible refine Kd.C_drewN ?_ _) | (with_reducible refine Kd.C_drew ?_))); (case side2 => exact (Kd.V_reads' HO0.out).2.1); rintro e w' ⟨rfl, ⟨nd, rfl⟩⟩; refine ⟨_, rfl, ?_⟩) | ((with_reducible refine gate_callee (f := 9) rfl ?_); refine goesL_ (some 17) rfl rfl Try.func9 (by kernel_rfl) rfl #[] rfl (by (try simp only [List.map_toArray, List.map_cons, List.map_nil]); first | done | rfl | (simp only [List.length_drop, List.length_take]; rfl)) ?_; (with_reducible refine (debuggerlaw34_awake.calls k  t253 _ A5.out).mono ?_); rintro e w6 ⟨rfl, hb⟩; refine ⟨_, rfl, ?_⟩; have n0_ := Aside0.mk (Kd.V_below (by (with_reducible repeat (first | apply Kd.V_alloc | apply Kd.V_drewN | apply Kd.V_drew)); exact HO0.out) hb); have n1_ := Aside0.mk (below_step (by repeat (first | (with_reducible first | exact HB.out | apply below_alloc | apply pw_below_drewN | apply below_drew1) | exact HB.out)) hb); clear HO0; clear HB; have HO0 := n0_; have HB := n1_; clear n0_ n1_; (try clear hb); (try clear hb2); (try clear hk); (try clear hi)))
    go_ret
    exact ⟨by first | rfl | (simp [errW_none, errW_some] <;> rfl) | (simp [*, errW_none, errW_some] <;> rfl), by repeat (first | (with_reducible first | exact HB.out | apply below_alloc | apply pw_below_drewN | apply below_drew1) | exact HB.out)⟩
  · replace c4 := Bool.eq_false_iff.mpr c4
    subst c4
    have H1 : ((some (([] : List (S37)) : List (S37))).bind fun y254 => (if y254.length + l0.length < 4398046511104 then (debuggerlaw34_LinkArrives.l0 k l0 a1 (y254 ++ l0) 0) else (none))) = some r := by rw [if_neg (show ¬ (false = true) by decide)] at H; exact H
    clear H
    have H := H1
    clear H1
    obtain ⟨y254, hy254⟩ : ∃ y_ : List (S37), y_ = (([] : List (S37))) := ⟨_, rfl⟩
    replace H : (if y254.length + l0.length < 4398046511104 then (debuggerlaw34_LinkArrives.l0 k l0 a1 (y254 ++ l0) 0) else (none)) = some r := by first | (rw [hy254]; with_reducible exact H) | (have H2_ := (Option.bind_some _ _).symm.trans H; rw [hy254]; with_reducible exact H2_) | (have H2_ := (Option.bind_some _ _).symm.trans H; with_reducible exact H2_) | with_reducible exact H | (rw [hy254]; exact H) | exact H
    have Ny254 := Aside0.mk hy254
    clear hy254
    by_cases c7 : y254.length + l0.length < 4398046511104
    · rw [if_pos c7] at H
      have LMc7 := Aside0.mk c7
      clear c7
      obtain ⟨y257, hy257⟩ : ∃ y_ : List (S37), y_ = (y254 ++ l0) := ⟨_, rfl⟩
      replace H : (debuggerlaw34_LinkArrives.l0 k l0 a1 y257 0) = some r := by first | (rw [hy257]; with_reducible exact H) | (have H2_ := (Option.bind_some _ _).symm.trans H; rw [hy257]; with_reducible exact H2_) | (have H2_ := (Option.bind_some _ _).symm.trans H; with_reducible exact H2_) | with_reducible exact H | (rw [hy257]; exact H) | exact H
      have Ny257 := Aside0.mk hy257
      clear hy257
      have H' := Aside0.mk H
      clear H
      go_enter Try.func4, Try.ntmps4
      go_wp2_with (first | ((with_reducible refine gate_callee (f := 8) rfl ?_); refine goesL_ (some 16) rfl rfl Try.func8 (by kernel_rfl) rfl #[.slice A0 l0.length c0] rfl (by (try simp only [List.map_toArray, List.map_cons, List.map_nil]); first | done | rfl | (simp only [List.length_drop, List.length_take]; rfl)) ?_; (with_reducible refine (debuggerlaw34_large.calls k _ _ l0 false _ ?side1 ?side2 A3.out).mono ?_); (case side1 => repeat (first | exact (Kd.V_reads' HO0.out).2.2 | (with_reducible refine Kd.C_alloc ?_ _) | (with_reducible refine Kd.C_drewN ?_ _) | (with_reducible refine Kd.C_drew ?_))); (case side2 => exact (Kd.V_reads' HO0.out).2.1); rintro e w' ⟨rfl, ⟨nd, rfl⟩⟩; refine ⟨_, rfl, ?_⟩) | ((with_reducible refine gate_dst (N := 18) rfl ?_); refine Kd.N_lit k37 _ 37 ?hg (N' := 18) ?hd (xs := ([] : List (S37))) (inner := []) (ok := (fun k_ => (P0_ k_ ∨ w.heap.size ≤ k_))) (okp := (fun k_ => (P0_ k_ ∨ w.heap.size ≤ k_))) ?hr ?hp (fun _ hk => hk) ((show ∀ k_, w.heap.size ≤ k_ → (fun k_ => (P0_ k_ ∨ w.heap.size ≤ k_)) k_ from fun k_ hk => (.inr (Nat.le_trans (below_size (by repeat (first | (with_reducible first | exact HB.out | apply below_alloc | apply pw_below_drewN | apply below_drew1) | exact HB.out))) hk))) _ (Nat.le_refl _)) (Below.refl _ _) (Nat.le_refl _) (by simp) ?_; (case hd => rfl); (case hg => rfl); (case hr => first | (go_simp; done) | (go_simp; rfl)); (case hp => exact (Reps.none _ _)); intro v255 w8 ho9 hb hg_ hnew_; clear hg_ hnew_; (first | rw [← Ny254.out] at ho9 | (simp only [Int.reduceToNat] at ho9; rw [← Ny254.out] at ho9)); have n0_ := Aside0.mk (Kd.V_elder' (by (with_reducible repeat (first | apply Kd.V_alloc | apply Kd.V_drewN | apply Kd.V_drew)); exact HO0.out) (by first | (with_reducible exact Kd.N_base ho9) | (with_reducible exact Kd.S_base ho9) | (with_reducible exact Kd.R_base ho9) | exact Kd.N_base ho9) hb); have n1_ := Aside0.mk (Kd.N_lower ho9 (below_size (by repeat (first | (with_reducible first | exact HB.out | apply below_alloc | apply pw_below_drewN | apply below_drew1) | exact HB.out)))); have n2_ := Aside0.mk (below_step (by repeat (first | (with_reducible first | exact HB.out | apply below_alloc | apply pw_below_drewN | apply below_drew1) | exact HB.out)) hb); clear HO0; clear HB; have HO0 := n0_; have HO256 := n1_; have HB := n2_; clear n0_ n1_ n2_; clear hb ho9) | ((with_reducible refine gate_builtin (b := .append) (xs := #[.tmp 18, .tmp 19]) rfl ?_); at_builtin; refine Kd.N_append_rows k37 (w0 := w) w.heap.size rfl (.tmp 18) (.tmp 19) 22 37 (.agg #[(.int .i64 0), (.slice none 0 0)]) 32 rfl Try.underlying22 info37 rfl (by decide) (by omega) v255 y254 l0 _ _ _ (fun k_ => (P0_ k_ ∨ w.heap.size ≤ k_)) (fun k_ => ((fun k_ => (P0_ k_ ∨ w.heap.size ≤ k_))) k_ ∧ some k_ ≠ (v255 : Value).ownBlock) rfl rfl ?aO ?aR (fun _ hk => hk) ?aF ?aB ?aS ?aL ?_; (case aR => exact (by skip; exact Kd.V_F (Kd.V_mono (ok' := (fun k_ => ((fun k_ => (P0_ k_ ∨ w.heap.size ≤ k_))) k_ ∧ some k_ ≠ (v255 : Value).ownBlock)) (HO0.out) (fun k_ hk => ⟨hk.1, hk.2⟩)))); (case aB => exact (by repeat (first | (with_reducible first | exact HB.out | apply below_alloc | apply pw_below_drewN | apply below_drew1) | exact HB.out))); (case aF => exact (fun k_ hk => (.inr (Nat.le_trans (below_size (by repeat (first | (with_reducible first | exact HB.out | apply below_alloc | apply pw_below_drewN | apply below_drew1) | exact HB.out))) hk)))); (case aO => exact (by (with_reducible repeat (first | apply Kd.N_alloc | apply Kd.N_drewN | apply Kd.N_drew)); exact HO256.out)); (case aS => exact (below_size (by repeat (first | (with_reducible first | exact HB.out | apply below_alloc | apply pw_below_drewN | apply below_drew1) | exact HB.out)))); (case aL => have := LMc7.out; omega); intro v258 w10 ho hb hg hat; rw [← Ny257.out] at ho; have n0_ := Aside0.mk (Kd.V_afterv (ok := (fun k_ => (P0_ k_ ∨ w.heap.size ≤ k_))) (by (with_reducible repeat (first | apply Kd.V_alloc | apply Kd.V_drewN | apply Kd.V_drew)); exact HO0.out) hg hat); have n1_ := Aside0.mk (hb); have n2_ := Aside0.mk (ho); clear HO0; clear HB; clear HO256; have HO0 := n0_; have HB := n1_; have HO259 := n2_; clear n0_ n1_ n2_; clear ho hb hg hat))
      go_loopg [6] k (fun kq v6 w' => ∃ (x5_1 : List (S37)) (x6_1 : Int), v6 = .int .i64 x6_1 ∧ Aside0 (debuggerlaw34_LinkArrives.l0 kq l0 a1 x5_1 x6_1 = some r) ∧ Aside0 (kq ≤ k) ∧ Aside0 (Kd.V k37 37 w' w.heap.size (fun k_ => (P0_ k_ ∨ w.heap.size ≤ k_) ∧ some k_ ≠ (v258 : Value).ownBlock) (.slice A0 l0.length c0) l0) ∧ Aside0 (Kd.N k37 37 w' w.heap.size (fun k_ => (P0_ k_ ∨ w.heap.size ≤ k_)) v258 x5_1) ∧ Aside0 (Below w.heap.size w w'))
      case atStart => exact ⟨(y257), (0), (by first | rfl | (simp; done) | (simp [*]; done)), H', ⟨Nat.le_refl _⟩, ⟨by (with_reducible repeat (first | apply Kd.V_alloc | apply Kd.V_drewN | apply Kd.V_drew)); exact HO0.out⟩, ⟨by (with_reducible repeat (first | apply Kd.N_alloc | apply Kd.N_drewN | apply Kd.N_drew)); exact HO259.out⟩, ⟨by repeat (first | (with_reducible first | exact HB.out | apply below_alloc | apply pw_below_drewN | apply below_drew1) | exact HB.out)⟩⟩
      case round =>
        clear H'
        try clear p2
        try clear c4
        try clear c7
        try clear c8
        try clear c9
        obtain ⟨x5_1, x6_1, rfl, HA, HK1, HO_0, HO_5, HB⟩ := hrel
        cases gk with
        | zero => exact absurd HA.out (by simp [debuggerlaw34_LinkArrives.l0])
        | succ k1 =>
          have H := HA.out
          clear HA
          simp only [debuggerlaw34_LinkArrives.l0] at H
          by_cases c11 : x6_1 < (x5_1.length : Int)
          · rw [if_pos c11] at H
            have c11b0 : decide (x6_1 < (x5_1.length : Int)) = true := decide_eq_true c11
            clear c11
            by_cases c12 : 0 ≤ x6_1
            · rw [if_pos c12] at H
              have c12b0 : decide (0 ≤ x6_1) = true := decide_eq_true c12
              clear c12
              replace H := Option.bind_eq_some_iff.mp H
              obtain ⟨t261, A130, H⟩ := H
              replace H : (debuggerlaw34_LinkArrives.l0 k1 l0 a1 (x5_1.set (x6_1 : Int).toNat (⟨t261, (rd_T37 x5_1 x6_1).f1⟩ : S37)) (wrap64 (x6_1 + 1))) = some r := H
              have A13 := Aside0.mk A130
              clear A130
              obtain ⟨y262, hy262⟩ : ∃ y_ : List (S37), y_ = (x5_1.set (x6_1 : Int).toNat (⟨t261, (rd_T37 x5_1 x6_1).f1⟩ : S37)) := ⟨_, rfl⟩
              replace H : (debuggerlaw34_LinkArrives.l0 k1 l0 a1 y262 (wrap64 (x6_1 + 1))) = some r := by first | (rw [hy262]; with_reducible exact H) | (have H2_ := (Option.bind_some _ _).symm.trans H; rw [hy262]; with_reducible exact H2_) | (have H2_ := (Option.bind_some _ _).symm.trans H; with_reducible exact H2_) | with_reducible exact H | (rw [hy262]; exact H) | exact H
              have Ny262 := Aside0.mk hy262
              clear hy262
              have H' := Aside0.mk H
              clear H
              obtain ⟨Ao15, co15, eo15⟩ := Kd.N_slice HO_5.out
              subst eo15
              have p260 : 0 ≤ (x6_1 : Int) := of_decide_eq_true (by first | (with_reducible assumption) | assumption)
              have q260 : x6_1 < (x5_1.length : Int) := of_decide_eq_true (by first | (with_reducible assumption) | assumption)
              obtain ⟨ad260, A260_1, c260_1, e260, hx260_0, hx260_1, hl260_1, hi260_1⟩ := at_T37 (Kd.N_reads' HO_5.out).2.2 x6_1 p260 q260
              cases e260
              obtain ⟨ce260, hce260, hMe260, hcc260⟩ := Kd.N_get HO_5.out z37 x6_1 p260 (by first | exact q260 | exact of_decide_eq_true (by first | (with_reducible assumption) | assumption) | (have e_ := (Kd.N_reads' HO_5.out).1; omega))
              obtain ⟨ua260_1, uc260_1, rfl, ul260_1, ge260_1⟩ := k37_openF hMe260
              have hv260_1 := hcc260 1 _ rfl
              rw [add_field _ _ 1 (by omega)] at hv260_1
              replace hv260_1 := Option.some.inj (hv260_1.symm.trans hx260_1)
              injection hv260_1 with hva_ hvn_ hvc_
              rw [hva_] at ge260_1
              rw [hvc_] at ul260_1
              have HL260_1 := Aside0.mk (show Kd.V (Kd.int .u8) 5 _ w.heap.size _ _ ((rd_T37 x5_1 x6_1).f1) from Kd.V_mk ul260_1 ge260_1)
              clear hva_ hvn_ hvc_ ge260_1 ul260_1
              clear hcc260 hce260
              have HR260_1 := Aside0.mk hi260_1
              have HC260_1 := Aside0.mk hl260_1
              clear hi260_1 hl260_1
              replace p260 := eq_true p260
              replace q260 := eq_true q260
              go_wp2_with (first | ((with_reducible refine gate_callee (f := 10) rfl ?_); refine goesL_ (some 34) rfl rfl Try.func10 (by kernel_rfl) rfl #[.int .i64 ((rd_T37 x5_1 x6_1).f0), .int .i64 6] rfl (by (try simp only [List.map_toArray, List.map_cons, List.map_nil]); first | done | rfl | (simp only [List.length_drop, List.length_take]; rfl)) ?_; (with_reducible refine (debuggerkit_Mod.calls ((rd_T37 x5_1 x6_1).f0) 6 t261 _ A13.out).mono ?_); rintro e w' ⟨rfl, ⟨nd, rfl⟩⟩; refine ⟨_, rfl, ?_⟩; (try (rw [drewN_self wr]; generalize hq_ : World.drewN wr _ = wr; have n0_ : Aside0 (Kd.V (Kd.int .u8) 5 wr w.heap.size (fun k_ => (P0_ k_ ∨ w.heap.size ≤ k_) ∧ some k_ ≠ (.slice (some ad260) x5_1.length co15 : Value).ownBlock) (.slice A260_1 ((rd_T37 x5_1 x6_1).f1).length c260_1) ((rd_T37 x5_1 x6_1).f1)) := ⟨by rw [← hq_]; exact (by (with_reducible repeat (first | apply Kd.V_alloc | apply Kd.V_drewN | apply Kd.V_drew)); exact HL260_1.out)⟩; have n1_ : Aside0 (Kd.V k37 37 wr w.heap.size (fun k_ => (P0_ k_ ∨ w.heap.size ≤ k_) ∧ some k_ ≠ (.slice (some ad260) x5_1.length co15 : Value).ownBlock) (.slice A0 l0.length c0) l0) := ⟨by rw [← hq_]; exact (by (with_reducible repeat (first | apply Kd.V_alloc | apply Kd.V_drewN | apply Kd.V_drew)); exact HO_0.out)⟩; have n2_ : Aside0 (Kd.N k37 37 wr w.heap.size (fun k_ => (P0_ k_ ∨ w.heap.size ≤ k_)) (.slice (some ad260) x5_1.length co15) x5_1) := ⟨by rw [← hq_]; exact (by (with_reducible repeat (first | apply Kd.N_alloc | apply Kd.N_drewN | apply Kd.N_drew)); exact HO_5.out)⟩; have n3_ : Aside0 (Below w.heap.size w wr) := ⟨by rw [← hq_]; exact (by repeat (first | (with_reducible first | exact HB.out | apply below_alloc | apply pw_below_drewN | apply below_drew1) | exact HB.out))⟩; have n4_ : Aside0 (Kd.C (Kd.int .u8) wr A260_1 ((rd_T37 x5_1 x6_1).f1).length ((rd_T37 x5_1 x6_1).f1)) := ⟨by rw [← hq_]; exact (by repeat (first | (with_reducible exact HR260_1.out) | (with_reducible refine Kd.C_alloc ?_ _) | (with_reducible refine Kd.C_drewN ?_ _) | (with_reducible refine Kd.C_drew ?_) | exact HR260_1.out))⟩; clear HL260_1 HO_0 HO_5 HB HR260_1 hq_; have HL260_1 := n0_; have HO_0 := n1_; have HO_5 := n2_; have HB := n3_; have HR260_1 := n4_; clear n0_ n1_ n2_ n3_ n4_)); have p14 : 0 ≤ (x6_1 : Int) := of_decide_eq_true (by first | (with_reducible assumption) | assumption); have q14 : (x6_1 : Int) < ((x5_1.length : Int) : Int) := of_decide_eq_true (by first | (with_reducible assumption) | assumption); obtain ⟨go14, co14, eo14, gb14, gl14, cl14, HG14⟩ := Kd.N_form HO_5.out (by omega); (first | cases eo14 | (injection eo14 with ea_ en_ ec_; (first | subst ea_ | (injection ea_ with ea_; subst ea_)); subst ec_; clear en_)); have GB14 := Aside0.mk gb14; have GG14 := Aside0.mk HG14; clear gb14 gl14 HG14; (first | simp only [add_plain] at hx260_0 | skip); (first | simp only [add_plain] at hx260_1 | skip); obtain ⟨ce14, hcl14, hM14, hcc14, hfr14⟩ := Kd.N_elem HO_5.out z37 (x6_1 : Int) p14 q14; obtain ⟨ua14_1, uc14_1, rfl, ul14_1, ge14_1⟩ := k37_openF hM14; have hx14_0 : wr.cell? ⟨go14, (x6_1 : Int).toNat * 2, none⟩ = some (.int .i64 ((rd_T37 x5_1 x6_1).f0)) := hcc14 0 _ rfl; have hx14_1 : wr.cell? ⟨go14, (x6_1 : Int).toNat * 2 + 1, none⟩ = some (.slice ua14_1 ((rd_T37 x5_1 x6_1).f1).length uc14_1) := hcc14 1 _ rfl; have hf14_0 : wr.frozen? ⟨go14, (x6_1 : Int).toNat * 2, none⟩ = false := hfr14 0; have hf14_1 : wr.frozen? ⟨go14, (x6_1 : Int).toNat * 2 + 1, none⟩ = false := hfr14 1; clear hcl14 hcc14 hfr14 hM14; replace p14 := eq_true p14; replace q14 := eq_true q14; have HX16 := Aside0.mk (show Kd.N k37 37 wr w.heap.size (fun k_ => (P0_ k_ ∨ w.heap.size ≤ k_)) (.slice (some ⟨go14, 0, none⟩) x5_1.length co15) x5_1 from (by (with_reducible repeat (first | apply Kd.N_alloc | apply Kd.N_drewN | apply Kd.N_drew)); exact HO_5.out)); obtain ⟨ce16, hcl16, hM16, hcc16, hfr16⟩ := Kd.N_elem HX16.out z37 (x6_1 : Int) (of_decide_eq_true (by first | (with_reducible assumption) | assumption)) (by have h_ : (x6_1 : Int) < ((x5_1.length : Int) : Int) := of_decide_eq_true (by first | (with_reducible assumption) | assumption); first | exact h_ | (have e_ := (Kd.N_reads' HO_5.out).1; omega) | simpa using h_); obtain ⟨ua16_1, uc16_1, rfl, ul16_1, ge16_1⟩ := k37_openF hM16; have HP16 := Kd.N_seg HX16.out (x6_1 : Int) (of_decide_eq_true (by first | (with_reducible assumption) | assumption)) (by have h_ : (x6_1 : Int) < ((x5_1.length : Int) : Int) := of_decide_eq_true (by first | (with_reducible assumption) | assumption); first | exact h_ | (have e_ := (Kd.N_reads' HO_5.out).1; omega) | simpa using h_) (seg := [.int .i64 t261]) (j := 0) hcl16 hcc16 (show 1 ≤ 2 from by decide) (x' := (⟨t261, (rd_T37 x5_1 x6_1).f1⟩ : S37)) (k37_mkF _ _ (⟨t261, (rd_T37 x5_1 x6_1).f1⟩ : S37) ul16_1 ge16_1) (fun _ hk => hk); have hx16_0 := hcc16 0 _ rfl; (try simp only [show (k37).sz = 2 from rfl, Nat.mul_one, Nat.add_zero] at hx16_0); have hf16_0 := hfr16 0; (try simp only [show (k37).sz = 2 from rfl, Nat.mul_one, Nat.add_zero] at hf16_0); clear hcl16 hcc16 hfr16 hM16) | ((with_reducible refine gate_store (t := 3) (p := 36) rfl ?_); refine store_event (t := 3) (p := 36) (v := ?vo_w17) (w1 := (wr.setCell ⟨go14, (x6_1 : Int).toNat * 2, none⟩ (.int .i64 t261))) ?hg ?ho ?hn ?hr ?_; (case ho => rfl); (case hg => rfl); (case hn => rfl); (case hr => first | (go_simp; done) | (go_simp; rfl)); intro w17 hw; have hg : wr.grownBy w17 (some go14) := (by rw [hw]; exact HP16.2); have hp_ : Kd.N k37 37 w17 w.heap.size (fun k_ => (P0_ k_ ∨ w.heap.size ≤ k_)) (.slice (some ⟨go14, 0, none⟩) x5_1.length co15) y262 := (by rw [hw, Ny262.out]; exact HP16.1); clear HP16; have n0_ := Aside0.mk (Kd.V_afterv (v := (.slice (some ⟨go14, 0, none⟩) x5_1.length co15)) (v1 := (.slice (some ⟨go14, 0, none⟩) x5_1.length co15)) (ok := (fun k_ => (P0_ k_ ∨ w.heap.size ≤ k_))) (by (with_reducible repeat (first | apply Kd.V_alloc | apply Kd.V_drewN | apply Kd.V_drew)); exact HO_0.out) hg (.inl rfl)); have n1_ := Aside0.mk (hp_); have n2_ := Aside0.mk (Kd.V_afterv (v := (.slice (some ⟨go14, 0, none⟩) x5_1.length co15)) (v1 := (.slice (some ⟨go14, 0, none⟩) x5_1.length co15)) (ok := (fun k_ => (P0_ k_ ∨ w.heap.size ≤ k_))) (by (with_reducible repeat (first | apply Kd.V_alloc | apply Kd.V_drewN | apply Kd.V_drew)); exact HL260_1.out) hg (.inl rfl)); have n3_ := Aside0.mk ((by rw [hw]; exact below_set (HB.out) GB14.out : Below w.heap.size w w17)); clear HO_0; clear HO_5; clear HL260_1; clear HB; have HO_0 := n0_; have HO_5 := n1_; have HL260_1 := n2_; have HB := n3_; clear n0_ n1_ n2_ n3_; clear hg hw hp_))
              go_roundg k1
              case measure => have := HK1.out; omega
              case rel => exact ⟨(y262), (wrap64 (x6_1 + 1)), (by first | rfl | (simp; done) | (simp [*]; done)), H', ⟨by have := HK1.out; omega⟩, ⟨by (with_reducible repeat (first | apply Kd.V_alloc | apply Kd.V_drewN | apply Kd.V_drew)); exact HO_0.out⟩, ⟨by (with_reducible repeat (first | apply Kd.N_alloc | apply Kd.N_drewN | apply Kd.N_drew)); exact HO_5.out⟩, ⟨by repeat (first | (with_reducible first | exact HB.out | apply below_alloc | apply pw_below_drewN | apply below_drew1) | exact HB.out)⟩⟩
            · rw [if_neg c12] at H
              exact absurd H (by simp)
          · rw [if_neg c11] at H
            have c11b0 : decide (x6_1 < (x5_1.length : Int)) = false := decide_eq_false c11
            clear c11
            obtain ⟨y263, hy263⟩ : ∃ y_ : List (List (S37)), y_ = (([l0, x5_1] : List (List (S37)))) := ⟨_, rfl⟩
            replace H : (debuggerlaw34_LinkArrives.l1 k1 a1 y263 (y263.length : Int) 0) = some r := by first | (rw [hy263]; with_reducible exact H) | (have H2_ := (Option.bind_some _ _).symm.trans H; rw [hy263]; with_reducible exact H2_) | (have H2_ := (Option.bind_some _ _).symm.trans H; with_reducible exact H2_) | with_reducible exact H | (rw [hy263]; exact H) | exact H
            have Ny263 := Aside0.mk hy263
            clear hy263
            have H' := Aside0.mk H
            clear H
            obtain ⟨Ao18, co18, eo18⟩ := Kd.N_slice HO_5.out
            subst eo18
            go_wp2_with (first | ((with_reducible refine gate_dst (N := 39) rfl ?_); refine Kd.N_lit (Kd.slice 37 k37) _ 22 ?hg (N' := 39) ?hd (xs := ([l0, x5_1] : List (List (S37)))) (inner := [.slice A0 l0.length c0, .slice Ao18 x5_1.length co18]) (ok := (fun k_ => (P0_ k_ ∨ w.heap.size ≤ k_))) (okp := (fun k_ => (P0_ k_ ∨ w.heap.size ≤ k_))) ?hr ?hp (fun _ hk => hk) ((show ∀ k_, wr.heap.size ≤ k_ → (fun k_ => (P0_ k_ ∨ w.heap.size ≤ k_)) k_ from fun k_ hk => (.inr (Nat.le_trans (below_size (by repeat (first | (with_reducible first | exact HB.out | apply below_alloc | apply pw_below_drewN | apply below_drew1) | exact HB.out))) hk))) _ (Nat.le_refl _)) (Below.refl _ _) (Nat.le_refl _) (by simp) ?_; (case hd => rfl); (case hg => rfl); (case hr => first | (go_simp; done) | (go_simp; rfl)); (case hp => exact (Reps.one (show Kd.FK (Kd.slice 37 k37) _ _ l0 [.slice A0 l0.length c0] from (Kd.FK_slice_mk (Kd.V_reads' (Kd.V_mono (ok' := (fun k_ => (P0_ k_ ∨ w.heap.size ≤ k_))) (HO_0.out) (fun k_ hk => hk.1))).2.1 (Kd.V_F (Kd.V_mono (ok' := (fun k_ => (P0_ k_ ∨ w.heap.size ≤ k_))) (HO_0.out) (fun k_ hk => hk.1))))) (Reps.one (show Kd.FK (Kd.slice 37 k37) _ _ x5_1 [.slice Ao18 x5_1.length co18] from (Kd.FK_slice_mk (Kd.N_reads' (Kd.N_mono (ok' := (fun k_ => (P0_ k_ ∨ w.heap.size ≤ k_))) (HO_5.out) (fun k_ hk => hk))).2.1 (Kd.N_F (Kd.N_mono (ok' := (fun k_ => (P0_ k_ ∨ w.heap.size ≤ k_))) (HO_5.out) (fun k_ hk => hk))))) (Reps.none _ _)))); intro v264 w19 ho20 hb hg_ hnew_; clear hg_ hnew_; (first | rw [← Ny263.out] at ho20 | (simp only [Int.reduceToNat] at ho20; rw [← Ny263.out] at ho20)); have n0_ := Aside0.mk (Kd.V_elder' (by (with_reducible repeat (first | apply Kd.V_alloc | apply Kd.V_drewN | apply Kd.V_drew)); exact HO_0.out) (by first | (with_reducible exact Kd.N_base ho20) | (with_reducible exact Kd.S_base ho20) | (with_reducible exact Kd.R_base ho20) | exact Kd.N_base ho20) hb); have n1_ := Aside0.mk (Kd.N_lower ho20 (below_size (by repeat (first | (with_reducible first | exact HB.out | apply below_alloc | apply pw_below_drewN | apply below_drew1) | exact HB.out)))); have n2_ := Aside0.mk (below_step (by repeat (first | (with_reducible first | exact HB.out | apply below_alloc | apply pw_below_drewN | apply below_drew1) | exact HB.out)) hb); clear HO_0; clear HB; clear HO_5; have HO_0 := n0_; have HO265 := n1_; have HB := n2_; clear n0_ n1_ n2_; clear hb ho20; obtain ⟨Ao21, co21, eo21⟩ := Kd.N_slice HO265.out; subst eo21))
            go_loopg [41] k1 (fun kq v41 w' => ∃ (x41_2 : Int), v41 = .int .i64 x41_2 ∧ Aside0 (debuggerlaw34_LinkArrives.l1 kq a1 y263 (y263.length : Int) x41_2 = some r) ∧ Aside0 (kq ≤ k1) ∧ Aside0 (Kd.N (Kd.slice 37 k37) 22 w' w.heap.size (fun k_ => (P0_ k_ ∨ w.heap.size ≤ k_)) (.slice Ao21 y263.length co21) y263) ∧ Aside0 (Below w.heap.size w w'))
            case atStart => exact ⟨(0), (by first | rfl | (simp; done) | (simp [*]; done)), H', ⟨Nat.le_refl _⟩, ⟨by (with_reducible repeat (first | apply Kd.N_alloc | apply Kd.N_drewN | apply Kd.N_drew)); exact HO265.out⟩, ⟨by repeat (first | (with_reducible first | exact HB.out | apply below_alloc | apply pw_below_drewN | apply below_drew1) | exact HB.out)⟩⟩
            case round =>
              clear H'
              try clear c1
              try clear p1
              try clear q1
              try clear hx1
              try clear c2
              try clear p2
              try clear q2
              try clear hx2
              try clear c4
              try clear p6
              try clear c7
              try clear c8
              try clear c9
              try clear c10
              try clear c11
              try clear c11b0
              try clear c12
              try clear c12b0
              try clear c14
              try clear p14
              try clear q14
              try clear hx14
              try clear hf14
              try clear c16
              try clear hx16
              try clear hf16
              try clear hx14_0
              try clear hx14_1
              try clear hx16_0
              try clear hx260_0
              try clear hx260_1
              try clear p14
              try clear p2
              try clear p260
              try clear q14
              try clear q260
              obtain ⟨x41_2, rfl, HA, HK2, HO_39, HB⟩ := hrel
              cases gk with
              | zero => exact absurd HA.out (by simp [debuggerlaw34_LinkArrives.l1])
              | succ k2 =>
                have H := HA.out
                clear HA
                simp only [debuggerlaw34_LinkArrives.l1] at H
                by_cases c22 : x41_2 < (y263.length : Int)
                · rw [if_pos c22] at H
                  have c22b0 : decide (x41_2 < (y263.length : Int)) = true := decide_eq_true c22
                  clear c22
                  by_cases c23 : 0 ≤ x41_2
                  · rw [if_pos c23] at H
                    have c23b0 : decide (0 ≤ x41_2) = true := decide_eq_true c23
                    clear c23
                    by_cases c24 : x41_2 < (y263.length : Int)
                    · rw [if_pos c24] at H
                      have c24b0 : decide (x41_2 < (y263.length : Int)) = true := decide_eq_true c24
                      clear c24
                      replace H := Option.bind_eq_some_iff.mp H
                      obtain ⟨t268, A250, H⟩ := H
                      replace H : ((some (([a1, t268] : List Int) : List Int)).bind fun y269 => (debuggerlaw34_LinkArrives.l2 k2 a1 (rd_L6 y263 x41_2) y263 (y263.length : Int) x41_2 y269 (y269.length : Int) 0)) = some r := H
                      have A25 := Aside0.mk A250
                      clear A250
                      obtain ⟨y269, hy269⟩ : ∃ y_ : List Int, y_ = (([a1, t268] : List Int)) := ⟨_, rfl⟩
                      replace H : (debuggerlaw34_LinkArrives.l2 k2 a1 (rd_L6 y263 x41_2) y263 (y263.length : Int) x41_2 y269 (y269.length : Int) 0) = some r := by first | (rw [hy269]; with_reducible exact H) | (have H2_ := (Option.bind_some _ _).symm.trans H; rw [hy269]; with_reducible exact H2_) | (have H2_ := (Option.bind_some _ _).symm.trans H; with_reducible exact H2_) | with_reducible exact H | (rw [hy269]; exact H) | exact H
                      have Ny269 := Aside0.mk hy269
                      clear hy269
                      have H' := Aside0.mk H
                      clear H
                      have p267 : 0 ≤ (x41_2 : Int) := of_decide_eq_true (by first | (with_reducible assumption) | assumption)
                      have q267 : x41_2 < (y263.length : Int) := of_decide_eq_true (by first | (with_reducible assumption) | assumption)
                      obtain ⟨ad267, A267_0, c267_0, e267, hx267_0, hl267_0, hi267_0⟩ := at_L6 (Kd.N_reads' HO_39.out).2.2 x41_2 p267 q267
                      cases e267
                      obtain ⟨ce267, hce267, hMe267, hcc267⟩ := Kd.N_get HO_39.out [] x41_2 p267 (by first | exact q267 | exact of_decide_eq_true (by first | (with_reducible assumption) | assumption) | (have e_ := (Kd.N_reads' HO_39.out).1; omega))
                      obtain ⟨ua267_0, uc267_0, rfl, ul267_0, ge267_0⟩ := Kd.FK_slice_open hMe267
                      have hv267_0 := hcc267 0 _ rfl
                      rw [Nat.add_zero, show ((Kd.slice 37 k37)).sz = 1 from rfl, Nat.mul_one] at hv267_0
                      replace hv267_0 := Option.some.inj (hv267_0.symm.trans hx267_0)
                      injection hv267_0 with hva_ hvn_ hvc_
                      rw [hva_] at ge267_0
                      rw [hvc_] at ul267_0
                      have HL267_0 := Aside0.mk (show Kd.V k37 37 _ w.heap.size _ _ (rd_L6 y263 x41_2) from Kd.V_mk ul267_0 ge267_0)
                      clear hva_ hvn_ hvc_ ge267_0 ul267_0
                      clear hcc267 hce267
                      have HR267_0 := Aside0.mk hi267_0
                      have HC267_0 := Aside0.mk hl267_0
                      clear hi267_0 hl267_0
                      replace p267 := eq_true p267
                      replace q267 := eq_true q267
                      go_wp2_with (first | ((with_reducible refine gate_callee (f := 10) rfl ?_); refine goesL_ (some 47) rfl rfl Try.func10 (by kernel_rfl) rfl #[.int .i64 a1, .int .i64 7] rfl (by (try simp only [List.map_toArray, List.map_cons, List.map_nil]); first | done | rfl | (simp only [List.length_drop, List.length_take]; rfl)) ?_; (with_reducible refine (debuggerkit_Mod.calls a1 7 t268 _ A25.out).mono ?_); rintro e w' ⟨rfl, ⟨nd, rfl⟩⟩; refine ⟨_, rfl, ?_⟩) | ((with_reducible refine gate_dst (N := 48) rfl ?_); refine Kd.R_lit (Kd.int .i64) _ 3 ?hg (N := 48) ?hd (xs := ([a1, t268] : List Int)) (inner := [.int .i64 a1, .int .i64 t268]) (ok := fun _ => True) (okp := fun _ => True) ?hr ?hp (fun _ hk => hk) trivial (Below.refl _ _) (Nat.le_refl _) (by simp) ?_; (case hd => rfl); (case hg => rfl); (case hr => first | (go_simp; done) | (go_simp; rfl)); (case hp => exact (Reps.one (show Kd.M (Kd.int .i64) _ _ _ a1 [.int .i64 a1] from rfl) (Reps.one (show Kd.M (Kd.int .i64) _ _ _ t268 [.int .i64 t268] from rfl) (Reps.none _ _)))); intro v270 w26 ho27 hb hg_ hnew_; clear hg_ hnew_; (first | rw [← Ny269.out] at ho27 | (simp only [Int.reduceToNat] at ho27; rw [← Ny269.out] at ho27)); have n0_ := Aside0.mk (Kd.N_elder' (by (with_reducible repeat (first | apply Kd.N_alloc | apply Kd.N_drewN | apply Kd.N_drew)); exact HO_39.out) (by first | (with_reducible exact Kd.R_base ho27) | (with_reducible exact Kd.S_base ho27) | (with_reducible exact Kd.R_base ho27) | exact Kd.R_base ho27) hb); have n1_ := Aside0.mk (Kd.V_elder' (by (with_reducible repeat (first | apply Kd.V_alloc | apply Kd.V_drewN | apply Kd.V_drew)); exact HL267_0.out) (by first | (with_reducible exact Kd.R_base ho27) | (with_reducible exact Kd.S_base ho27) | (with_reducible exact Kd.R_base ho27) | exact Kd.R_base ho27) hb); have n2_ := Aside0.mk (Kd.R_lower (Kd.R_newM (M := fun k_ => (w.heap.size ≤ k_)) ho27 (below_size (by repeat (first | (with_reducible first | exact HB.out | apply below_alloc | apply pw_below_drewN | apply below_drew1) | exact HB.out))) (fun k_ h_ => h_)) (below_size (by repeat (first | (with_reducible first | exact HB.out | apply below_alloc | apply pw_below_drewN | apply below_drew1) | exact HB.out)))); have n3_ := Aside0.mk (Kd.C_below (by repeat (first | (with_reducible exact HR267_0.out) | (with_reducible refine Kd.C_alloc ?_ _) | (with_reducible refine Kd.C_drewN ?_ _) | (with_reducible refine Kd.C_drew ?_) | exact HR267_0.out)) hb); have n4_ := Aside0.mk (below_step (by repeat (first | (with_reducible first | exact HB.out | apply below_alloc | apply pw_below_drewN | apply below_drew1) | exact HB.out)) hb); clear HO_39; clear HL267_0; clear HR267_0; clear HB; have HO_39 := n0_; have HL267_0 := n1_; have HO271 := n2_; have HR267_0 := n3_; have HB := n4_; clear n0_ n1_ n2_ n3_ n4_; clear hb ho27; obtain ⟨Ao28, co28, eo28⟩ := Kd.R_slice HO271.out; subst eo28))
                      go_loopg [50] k2 (fun kq v50 w' => ∃ (x50_3 : Int), v50 = .int .i64 x50_3 ∧ Aside0 (debuggerlaw34_LinkArrives.l2 kq a1 (rd_L6 y263 x41_2) y263 (y263.length : Int) x41_2 y269 (y269.length : Int) x50_3 = some r) ∧ Aside0 (kq ≤ k2) ∧ Aside0 (Kd.N (Kd.slice 37 k37) 22 w' w.heap.size (fun k_ => (P0_ k_ ∨ w.heap.size ≤ k_) ∧ some k_ ≠ ((.slice Ao28 y269.length co28) : Value).ownBlock) (.slice (some ad267) y263.length co21) y263) ∧ Aside0 (Kd.R (Kd.int .i64) 3 w' w.heap.size (fun k_ => (w.heap.size ≤ k_)) (.slice Ao28 y269.length co28) y269) ∧ Aside0 (Kd.C k37 w' A267_0 (rd_L6 y263 x41_2).length (rd_L6 y263 x41_2)) ∧ Aside0 (Below w.heap.size w w'))
                      case atStart => exact ⟨(0), (by first | rfl | (simp; done) | (simp [*]; done)), H', ⟨Nat.le_refl _⟩, ⟨by (with_reducible repeat (first | apply Kd.N_alloc | apply Kd.N_drewN | apply Kd.N_drew)); exact HO_39.out⟩, ⟨by (with_reducible repeat (first | apply Kd.R_alloc | apply Kd.R_drewN | apply Kd.R_drew)); exact Kd.R_mono HO271.out (fun _ hk => hk.1)⟩, ⟨by repeat (first | (with_reducible exact HR267_0.out) | (with_reducible refine Kd.C_alloc ?_ _) | (with_reducible refine Kd.C_drewN ?_ _) | (with_reducible refine Kd.C_drew ?_) | exact HR267_0.out)⟩, ⟨by repeat (first | (with_reducible first | exact HB.out | apply below_alloc | apply pw_below_drewN | apply below_drew1) | exact HB.out)⟩⟩
                      case round =>
                        clear H'
                        try clear c1
                        try clear p1
                        try clear q1
                        try clear hx1
                        try clear c2
                        try clear p2
                        try clear q2
                        try clear hx2
                        try clear c4
                        try clear p6
                        try clear c7
                        try clear c8
                        try clear c9
                        try clear c10
                        try clear c11
                        try clear c11b0
                        try clear c12
                        try clear c12b0
                        try clear c14
                        try clear p14
                        try clear q14
                        try clear hx14
                        try clear hf14
                        try clear c16
                        try clear hx16
                        try clear hf16
                        try clear c22
                        try clear c22b0
                        try clear c23
                        try clear c23b0
                        try clear c24
                        try clear c24b0
                        try clear c26
                        try clear p26
                        try clear q26
                        try clear hx26
                        try clear hx14_0
                        try clear hx14_1
                        try clear hx16_0
                        try clear hx260_0
                        try clear hx260_1
                        try clear hx267_0
                        try clear p1
                        try clear p14
                        try clear p2
                        try clear p260
                        try clear p267
                        try clear p6
                        try clear q1
                        try clear q14
                        try clear q2
                        try clear q260
                        try clear q267
                        obtain ⟨x50_3, rfl, HA, HK3, HO_39, HO_48, HR267_0, HB⟩ := hrel
                        cases gk with
                        | zero => exact absurd HA.out (by simp [debuggerlaw34_LinkArrives.l2])
                        | succ k3 =>
                          have H := HA.out
                          clear HA
                          simp only [debuggerlaw34_LinkArrives.l2] at H
                          by_cases c29 : x50_3 < (y269.length : Int)
                          · rw [if_pos c29] at H
                            have c29b0 : decide (x50_3 < (y269.length : Int)) = true := decide_eq_true c29
                            clear c29
                            by_cases c30 : 0 ≤ x50_3
                            · rw [if_pos c30] at H
                              have c30b0 : decide (0 ≤ x50_3) = true := decide_eq_true c30
                              clear c30
                              by_cases c31 : x50_3 < (y269.length : Int)
                              · rw [if_pos c31] at H
                                have c31b0 : decide (x50_3 < (y269.length : Int)) = true := decide_eq_true c31
                                clear c31
                                replace H := Option.bind_eq_some_iff.mp H
                                obtain ⟨⟨t273, t276⟩, A320, H⟩ := H
                                replace H : ((debuggerref34_Arrive.f k3 (rd_L6 y263 x41_2) (rd y269 x50_3)).bind fun bt279 => ((debuggerref34_Bodies.f k3 t273 bt279.1).bind fun t285 => (if t285 = true then ((debuggerref34_Same.f k3 t276 bt279.2).bind fun t286 => (if t286 = true then (debuggerlaw34_LinkArrives.l2 k3 a1 (rd_L6 y263 x41_2) y263 (y263.length : Int) x41_2 y269 (y269.length : Int) (wrap64 (x50_3 + 1))) else (some false))) else (some false)))) = some r := H
                                have A32 := Aside0.mk A320
                                clear A320
                                replace H := Option.bind_eq_some_iff.mp H
                                obtain ⟨⟨t279, t282⟩, A330, H⟩ := H
                                replace H : ((debuggerref34_Bodies.f k3 t273 t279).bind fun t285 => (if t285 = true then ((debuggerref34_Same.f k3 t276 t282).bind fun t286 => (if t286 = true then (debuggerlaw34_LinkArrives.l2 k3 a1 (rd_L6 y263 x41_2) y263 (y263.length : Int) x41_2 y269 (y269.length : Int) (wrap64 (x50_3 + 1))) else (some false))) else (some false))) = some r := H
                                have A33 := Aside0.mk A330
                                clear A330
                                replace H := Option.bind_eq_some_iff.mp H
                                obtain ⟨t285, A340, H⟩ := H
                                replace H : (if t285 = true then ((debuggerref34_Same.f k3 t276 t282).bind fun t286 => (if t286 = true then (debuggerlaw34_LinkArrives.l2 k3 a1 (rd_L6 y263 x41_2) y263 (y263.length : Int) x41_2 y269 (y269.length : Int) (wrap64 (x50_3 + 1))) else (some false))) else (some false)) = some r := H
                                have A34 := Aside0.mk A340
                                clear A340
                                by_cases c35 : t285 = true
                                · subst c35
                                  have H1 : ((debuggerref34_Same.f k3 t276 t282).bind fun t286 => (if t286 = true then (debuggerlaw34_LinkArrives.l2 k3 a1 (rd_L6 y263 x41_2) y263 (y263.length : Int) x41_2 y269 (y269.length : Int) (wrap64 (x50_3 + 1))) else (some false))) = some r := by rw [if_pos rfl] at H; exact H
                                  clear H
                                  have H := H1
                                  clear H1
                                  replace H := Option.bind_eq_some_iff.mp H
                                  obtain ⟨t286, A360, H⟩ := H
                                  replace H : (if t286 = true then (debuggerlaw34_LinkArrives.l2 k3 a1 (rd_L6 y263 x41_2) y263 (y263.length : Int) x41_2 y269 (y269.length : Int) (wrap64 (x50_3 + 1))) else (some false)) = some r := H
                                  have A36 := Aside0.mk A360
                                  clear A360
                                  by_cases c37 : t286 = true
                                  · subst c37
                                    have H1 : (debuggerlaw34_LinkArrives.l2 k3 a1 (rd_L6 y263 x41_2) y263 (y263.length : Int) x41_2 y269 (y269.length : Int) (wrap64 (x50_3 + 1))) = some r := by rw [if_pos rfl] at H; exact H
                                    clear H
                                    have H := H1
                                    clear H1
                                    have H' := Aside0.mk H
                                    clear H
                                    have p272 : 0 ≤ (x50_3 : Int) := of_decide_eq_true (by first | (with_reducible assumption) | assumption)
                                    have q272 : x50_3 < (y269.length : Int) := of_decide_eq_true (by first | (with_reducible assumption) | assumption)
                                    obtain ⟨ad272, e272, hx272_0⟩ := Kd.at_int (Kd.R_reads' HO_48.out).2.2 x50_3 p272 q272
                                    cases e272
                                    replace p272 := eq_true p272
                                    replace q272 := eq_true q272
                                    go_wp2_with (first | ((with_reducible refine gate_callee (f := 17) rfl ?_); refine goesL_ (some 57) rfl rfl Try.func17 (by kernel_rfl) rfl #[.slice A267_0 (rd_L6 y263 x41_2).length c267_0, .int .i64 (rd y269 x50_3)] rfl (by (try simp only [List.map_toArray, List.map_cons, List.map_nil]); first | done | rfl | (simp only [List.length_drop, List.length_take]; rfl)) ?_; (with_reducible refine (link_Arrive.calls k3 _ _ (rd_L6 y263 x41_2) (rd y269 x50_3) t273 t276 _ ?side1 ?side2 A32.out).mono ?_); (case side1 => repeat (first | (with_reducible exact HR267_0.out) | (with_reducible refine Kd.C_alloc ?_ _) | (with_reducible refine Kd.C_drewN ?_ _) | (with_reducible refine Kd.C_drew ?_))); (case side2 => exact HC267_0.out); rintro e w38 ⟨v274, v277, rfl, ho0, ho1, hb⟩; refine ⟨_, rfl, ?_⟩; have n0_ := Aside0.mk (Kd.N_mono (Kd.N_told (Kd.N_told (Kd.N_old (by (with_reducible repeat (first | apply Kd.N_alloc | apply Kd.N_drewN | apply Kd.N_drew)); exact HO_39.out) hb) (Kd.N_base ho0)) (Kd.N_base ho1)) (fun _ h_ => h_.1)); have n1_ := Aside0.mk (Kd.R_below (by (with_reducible repeat (first | apply Kd.R_alloc | apply Kd.R_drewN | apply Kd.R_drew)); exact HO_48.out) hb); have n2_ := Aside0.mk (Kd.N_lower (Kd.N_mono (ok' := fun k_ => (P0_ k_ ∨ w.heap.size ≤ k_) ∧ some k_ ≠ (v277 : Value).ownBlock ∧ some k_ ≠ (.slice (some ad267) y263.length co21 : Value).ownBlock ∧ some k_ ≠ (.slice (some ad272) y269.length co28 : Value).ownBlock) ho0 (fun k_ hk_ => ⟨(.inr (Nat.le_trans (below_size (by repeat (first | (with_reducible first | exact HB.out | apply below_alloc | apply pw_below_drewN | apply below_drew1) | exact HB.out))) hk_.1)), hk_.2, (Kd.fresh' (Kd.N_lt (by (with_reducible repeat (first | apply Kd.N_alloc | apply Kd.N_drewN | apply Kd.N_drew)); exact HO_39.out)) k_ hk_.1), (Kd.fresh' (Kd.R_lt (by (with_reducible repeat (first | apply Kd.R_alloc | apply Kd.R_drewN | apply Kd.R_drew)); exact HO_48.out)) k_ hk_.1)⟩)) (below_size (by repeat (first | (with_reducible first | exact HB.out | apply below_alloc | apply pw_below_drewN | apply below_drew1) | exact HB.out)))); have n3_ := Aside0.mk (Kd.N_lower (Kd.N_mono (ok' := fun k_ => (P0_ k_ ∨ w.heap.size ≤ k_) ∧ some k_ ≠ (v274 : Value).ownBlock ∧ some k_ ≠ (.slice (some ad267) y263.length co21 : Value).ownBlock ∧ some k_ ≠ (.slice (some ad272) y269.length co28 : Value).ownBlock) ho1 (fun k_ hk_ => ⟨(.inr (Nat.le_trans (below_size (by repeat (first | (with_reducible first | exact HB.out | apply below_alloc | apply pw_below_drewN | apply below_drew1) | exact HB.out))) hk_.1)), hk_.2, (Kd.fresh' (Kd.N_lt (by (with_reducible repeat (first | apply Kd.N_alloc | apply Kd.N_drewN | apply Kd.N_drew)); exact HO_39.out)) k_ hk_.1), (Kd.fresh' (Kd.R_lt (by (with_reducible repeat (first | apply Kd.R_alloc | apply Kd.R_drewN | apply Kd.R_drew)); exact HO_48.out)) k_ hk_.1)⟩)) (below_size (by repeat (first | (with_reducible first | exact HB.out | apply below_alloc | apply pw_below_drewN | apply below_drew1) | exact HB.out)))); have n4_ := Aside0.mk (Kd.C_below (by repeat (first | (with_reducible exact HR267_0.out) | (with_reducible refine Kd.C_alloc ?_ _) | (with_reducible refine Kd.C_drewN ?_ _) | (with_reducible refine Kd.C_drew ?_) | exact HR267_0.out)) hb); have n5_ := Aside0.mk (below_step (by repeat (first | (with_reducible first | exact HB.out | apply below_alloc | apply pw_below_drewN | apply below_drew1) | exact HB.out)) hb); clear HO_39; clear HO_48; clear HR267_0; clear HB; have HO_39 := n0_; have HO_48 := n1_; have HO275 := n2_; have HO278 := n3_; have HR267_0 := n4_; have HB := n5_; clear n0_ n1_ n2_ n3_ n4_ n5_; (try clear hb); (try clear hb2); (try clear hk); (try clear hi); (try clear ho0); (try clear ho1)) | ((with_reducible refine gate_callee (f := 18) rfl ?_); refine goesL_ (some 63) rfl rfl Try.func18 (by kernel_rfl) rfl #[.slice A267_0 (rd_L6 y263 x41_2).length c267_0, .int .i64 (rd y269 x50_3)] rfl (by (try simp only [List.map_toArray, List.map_cons, List.map_nil]); first | done | rfl | (simp only [List.length_drop, List.length_take]; rfl)) ?_; (with_reducible refine (debuggerref34_Arrive.calls k3 (fun _ => True) _ _ (rd_L6 y263 x41_2) (rd y269 x50_3) t279 t282 _ ?side1 A33.out).mono ?_); (case side1 => exact Kd.V_mk HC267_0.out (Kd.F_mono (Kd.C_F k37_heap (by repeat (first | (with_reducible exact HR267_0.out) | (with_reducible refine Kd.C_alloc ?_ _) | (with_reducible refine Kd.C_drewN ?_ _) | (with_reducible refine Kd.C_drew ?_) | exact HR267_0.out))) (fun _ _ => trivial))); rintro e w39 ⟨v280, v283, rfl, ho0, ho1, hb⟩; refine ⟨_, rfl, ?_⟩; have n0_ := Aside0.mk (Kd.N_mono (Kd.N_told (Kd.N_told (Kd.N_old (by (with_reducible repeat (first | apply Kd.N_alloc | apply Kd.N_drewN | apply Kd.N_drew)); exact HO_39.out) hb) (Kd.N_base ho0)) (Kd.N_base ho1)) (fun _ h_ => h_.1)); have n1_ := Aside0.mk (Kd.R_below (by (with_reducible repeat (first | apply Kd.R_alloc | apply Kd.R_drewN | apply Kd.R_drew)); exact HO_48.out) hb); have n2_ := Aside0.mk (Kd.N_mono (Kd.N_told (Kd.N_told (Kd.N_old (by (with_reducible repeat (first | apply Kd.N_alloc | apply Kd.N_drewN | apply Kd.N_drew)); exact HO275.out) hb) (Kd.N_base ho0)) (Kd.N_base ho1)) (fun _ h_ => h_.1)); have n3_ := Aside0.mk (Kd.N_mono (Kd.N_told (Kd.N_told (Kd.N_old (by (with_reducible repeat (first | apply Kd.N_alloc | apply Kd.N_drewN | apply Kd.N_drew)); exact HO278.out) hb) (Kd.N_base ho0)) (Kd.N_base ho1)) (fun _ h_ => h_.1)); have n4_ := Aside0.mk (Kd.N_lower (Kd.N_mono (ok' := fun _ => True) ho0 (fun _ _ => trivial)) (below_size (by repeat (first | (with_reducible first | exact HB.out | apply below_alloc | apply pw_below_drewN | apply below_drew1) | exact HB.out)))); have n5_ := Aside0.mk (Kd.N_lower (Kd.N_mono (ok' := fun _ => True) ho1 (fun _ _ => trivial)) (below_size (by repeat (first | (with_reducible first | exact HB.out | apply below_alloc | apply pw_below_drewN | apply below_drew1) | exact HB.out)))); have n6_ := Aside0.mk (Kd.C_below (by repeat (first | (with_reducible exact HR267_0.out) | (with_reducible refine Kd.C_alloc ?_ _) | (with_reducible refine Kd.C_drewN ?_ _) | (with_reducible refine Kd.C_drew ?_) | exact HR267_0.out)) hb); have n7_ := Aside0.mk (below_step (by repeat (first | (with_reducible first | exact HB.out | apply below_alloc | apply pw_below_drewN | apply below_drew1) | exact HB.out)) hb); clear HO_39; clear HO_48; clear HO275; clear HO278; clear HR267_0; clear HB; have HO_39 := n0_; have HO_48 := n1_; have HO275 := n2_; have HO278 := n3_; have HO281 := n4_; have HO284 := n5_; have HR267_0 := n6_; have HB := n7_; clear n0_ n1_ n2_ n3_ n4_ n5_ n6_ n7_; (try clear hb); (try clear hb2); (try clear hk); (try clear hi); (try clear ho0); (try clear ho1); obtain ⟨Ao40, co40, eo40⟩ := Kd.N_slice HO275.out; subst eo40; obtain ⟨Ao41, co41, eo41⟩ := Kd.N_slice HO281.out; subst eo41) | ((with_reducible refine gate_callee (f := 19) rfl ?_); refine goesL_ (some 68) rfl rfl Try.func19 (by kernel_rfl) rfl #[.slice Ao40 t273.length co40, .slice Ao41 t279.length co41] rfl (by (try simp only [List.map_toArray, List.map_cons, List.map_nil]); first | done | rfl | (simp only [List.length_drop, List.length_take]; rfl)) ?_; (with_reducible refine (debuggerref34_Bodies.calls k3 _ _ t273 _ _ t279 true _ ?side1 ?side2 ?side3 ?side4 A34.out).mono ?_); (case side1 => repeat (first | exact (Kd.N_reads' HO275.out).2.2 | (with_reducible refine Kd.C_alloc ?_ _) | (with_reducible refine Kd.C_drewN ?_ _) | (with_reducible refine Kd.C_drew ?_))); (case side2 => exact (Kd.N_reads' HO275.out).2.1); (case side3 => repeat (first | exact (Kd.N_reads' HO281.out).2.2 | (with_reducible refine Kd.C_alloc ?_ _) | (with_reducible refine Kd.C_drewN ?_ _) | (with_reducible refine Kd.C_drew ?_))); (case side4 => exact (Kd.N_reads' HO281.out).2.1); rintro e w' ⟨rfl, ⟨nd, rfl⟩⟩; refine ⟨_, rfl, ?_⟩; obtain ⟨Ao42, co42, eo42⟩ := Kd.N_slice HO278.out; subst eo42; obtain ⟨Ao43, co43, eo43⟩ := Kd.N_slice HO284.out; subst eo43) | (go_at_call 11; (with_reducible refine (debuggerref34_Same.calls k3 _ _ t276 _ _ t282 true _ ?side1 ?side2 ?side3 ?side4 A36.out).mono ?_); (case side1 => repeat (first | exact (Kd.N_reads' HO278.out).2.2 | (with_reducible refine Kd.C_alloc ?_ _) | (with_reducible refine Kd.C_drewN ?_ _) | (with_reducible refine Kd.C_drew ?_))); (case side2 => exact (Kd.N_reads' HO278.out).2.1); (case side3 => repeat (first | exact (Kd.N_reads' HO284.out).2.2 | (with_reducible refine Kd.C_alloc ?_ _) | (with_reducible refine Kd.C_drewN ?_ _) | (with_reducible refine Kd.C_drew ?_))); (case side4 => exact (Kd.N_reads' HO284.out).2.1); rintro e w' ⟨rfl, ⟨nd, rfl⟩⟩))
                                    go_roundg k3
                                    case measure => have := HK1.out; have := HK2.out; have := HK3.out; omega
                                    case rel => exact ⟨(wrap64 (x50_3 + 1)), (by first | rfl | (simp; done) | (simp [*]; done)), H', ⟨by have := HK1.out; have := HK2.out; have := HK3.out; omega⟩, ⟨by (with_reducible repeat (first | apply Kd.N_alloc | apply Kd.N_drewN | apply Kd.N_drew)); exact Kd.N_mono HO_39.out (fun _ hk => ⟨hk.1.1.1.1.1, hk.1.1.1.1.2⟩)⟩, ⟨by (with_reducible repeat (first | apply Kd.R_alloc | apply Kd.R_drewN | apply Kd.R_drew)); exact HO_48.out⟩, ⟨by repeat (first | (with_reducible exact HR267_0.out) | (with_reducible refine Kd.C_alloc ?_ _) | (with_reducible refine Kd.C_drewN ?_ _) | (with_reducible refine Kd.C_drew ?_) | exact HR267_0.out)⟩, ⟨by repeat (first | (with_reducible first | exact HB.out | apply below_alloc | apply pw_below_drewN | apply below_drew1) | exact HB.out)⟩⟩
                                  · replace c37 := Bool.eq_false_iff.mpr c37
                                    subst c37
                                    have H1 : (some false) = some r := by rw [if_neg (show ¬ (false = true) by decide)] at H; exact H
                                    clear H
                                    have H := H1
                                    clear H1
                                    obtain rfl := Option.some.inj H
                                    have p272 : 0 ≤ (x50_3 : Int) := of_decide_eq_true (by first | (with_reducible assumption) | assumption)
                                    have q272 : x50_3 < (y269.length : Int) := of_decide_eq_true (by first | (with_reducible assumption) | assumption)
                                    obtain ⟨ad272, e272, hx272_0⟩ := Kd.at_int (Kd.R_reads' HO_48.out).2.2 x50_3 p272 q272
                                    cases e272
                                    replace p272 := eq_true p272
                                    replace q272 := eq_true q272
                                    go_wp2_with (first | ((with_reducible refine gate_callee (f := 17) rfl ?_); refine goesL_ (some 57) rfl rfl Try.func17 (by kernel_rfl) rfl #[.slice A267_0 (rd_L6 y263 x41_2).length c267_0, .int .i64 (rd y269 x50_3)] rfl (by (try simp only [List.map_toArray, List.map_cons, List.map_nil]); first | done | rfl | (simp only [List.length_drop, List.length_take]; rfl)) ?_; (with_reducible refine (link_Arrive.calls k3 _ _ (rd_L6 y263 x41_2) (rd y269 x50_3) t273 t276 _ ?side1 ?side2 A32.out).mono ?_); (case side1 => repeat (first | (with_reducible exact HR267_0.out) | (with_reducible refine Kd.C_alloc ?_ _) | (with_reducible refine Kd.C_drewN ?_ _) | (with_reducible refine Kd.C_drew ?_))); (case side2 => exact HC267_0.out); rintro e w44 ⟨v274, v277, rfl, ho0, ho1, hb⟩; refine ⟨_, rfl, ?_⟩; have n0_ := Aside0.mk (Kd.N_mono (Kd.N_told (Kd.N_told (Kd.N_old (by (with_reducible repeat (first | apply Kd.N_alloc | apply Kd.N_drewN | apply Kd.N_drew)); exact HO_39.out) hb) (Kd.N_base ho0)) (Kd.N_base ho1)) (fun _ h_ => h_.1)); have n1_ := Aside0.mk (Kd.R_below (by (with_reducible repeat (first | apply Kd.R_alloc | apply Kd.R_drewN | apply Kd.R_drew)); exact HO_48.out) hb); have n2_ := Aside0.mk (Kd.N_lower (Kd.N_mono (ok' := fun k_ => (P0_ k_ ∨ w.heap.size ≤ k_) ∧ some k_ ≠ (v277 : Value).ownBlock ∧ some k_ ≠ (.slice (some ad267) y263.length co21 : Value).ownBlock ∧ some k_ ≠ (.slice (some ad272) y269.length co28 : Value).ownBlock) ho0 (fun k_ hk_ => ⟨(.inr (Nat.le_trans (below_size (by repeat (first | (with_reducible first | exact HB.out | apply below_alloc | apply pw_below_drewN | apply below_drew1) | exact HB.out))) hk_.1)), hk_.2, (Kd.fresh' (Kd.N_lt (by (with_reducible repeat (first | apply Kd.N_alloc | apply Kd.N_drewN | apply Kd.N_drew)); exact HO_39.out)) k_ hk_.1), (Kd.fresh' (Kd.R_lt (by (with_reducible repeat (first | apply Kd.R_alloc | apply Kd.R_drewN | apply Kd.R_drew)); exact HO_48.out)) k_ hk_.1)⟩)) (below_size (by repeat (first | (with_reducible first | exact HB.out | apply below_alloc | apply pw_below_drewN | apply below_drew1) | exact HB.out)))); have n3_ := Aside0.mk (Kd.N_lower (Kd.N_mono (ok' := fun k_ => (P0_ k_ ∨ w.heap.size ≤ k_) ∧ some k_ ≠ (v274 : Value).ownBlock ∧ some k_ ≠ (.slice (some ad267) y263.length co21 : Value).ownBlock ∧ some k_ ≠ (.slice (some ad272) y269.length co28 : Value).ownBlock) ho1 (fun k_ hk_ => ⟨(.inr (Nat.le_trans (below_size (by repeat (first | (with_reducible first | exact HB.out | apply below_alloc | apply pw_below_drewN | apply below_drew1) | exact HB.out))) hk_.1)), hk_.2, (Kd.fresh' (Kd.N_lt (by (with_reducible repeat (first | apply Kd.N_alloc | apply Kd.N_drewN | apply Kd.N_drew)); exact HO_39.out)) k_ hk_.1), (Kd.fresh' (Kd.R_lt (by (with_reducible repeat (first | apply Kd.R_alloc | apply Kd.R_drewN | apply Kd.R_drew)); exact HO_48.out)) k_ hk_.1)⟩)) (below_size (by repeat (first | (with_reducible first | exact HB.out | apply below_alloc | apply pw_below_drewN | apply below_drew1) | exact HB.out)))); have n4_ := Aside0.mk (Kd.C_below (by repeat (first | (with_reducible exact HR267_0.out) | (with_reducible refine Kd.C_alloc ?_ _) | (with_reducible refine Kd.C_drewN ?_ _) | (with_reducible refine Kd.C_drew ?_) | exact HR267_0.out)) hb); have n5_ := Aside0.mk (below_step (by repeat (first | (with_reducible first | exact HB.out | apply below_alloc | apply pw_below_drewN | apply below_drew1) | exact HB.out)) hb); clear HO_39; clear HO_48; clear HR267_0; clear HB; have HO_39 := n0_; have HO_48 := n1_; have HO275 := n2_; have HO278 := n3_; have HR267_0 := n4_; have HB := n5_; clear n0_ n1_ n2_ n3_ n4_ n5_; (try clear hb); (try clear hb2); (try clear hk); (try clear hi); (try clear ho0); (try clear ho1)) | ((with_reducible refine gate_callee (f := 18) rfl ?_); refine goesL_ (some 63) rfl rfl Try.func18 (by kernel_rfl) rfl #[.slice A267_0 (rd_L6 y263 x41_2).length c267_0, .int .i64 (rd y269 x50_3)] rfl (by (try simp only [List.map_toArray, List.map_cons, List.map_nil]); first | done | rfl | (simp only [List.length_drop, List.length_take]; rfl)) ?_; (with_reducible refine (debuggerref34_Arrive.calls k3 (fun _ => True) _ _ (rd_L6 y263 x41_2) (rd y269 x50_3) t279 t282 _ ?side1 A33.out).mono ?_); (case side1 => exact Kd.V_mk HC267_0.out (Kd.F_mono (Kd.C_F k37_heap (by repeat (first | (with_reducible exact HR267_0.out) | (with_reducible refine Kd.C_alloc ?_ _) | (with_reducible refine Kd.C_drewN ?_ _) | (with_reducible refine Kd.C_drew ?_) | exact HR267_0.out))) (fun _ _ => trivial))); rintro e w45 ⟨v280, v283, rfl, ho0, ho1, hb⟩; refine ⟨_, rfl, ?_⟩; have n0_ := Aside0.mk (Kd.N_mono (Kd.N_told (Kd.N_told (Kd.N_old (by (with_reducible repeat (first | apply Kd.N_alloc | apply Kd.N_drewN | apply Kd.N_drew)); exact HO_39.out) hb) (Kd.N_base ho0)) (Kd.N_base ho1)) (fun _ h_ => h_.1)); have n1_ := Aside0.mk (Kd.R_below (by (with_reducible repeat (first | apply Kd.R_alloc | apply Kd.R_drewN | apply Kd.R_drew)); exact HO_48.out) hb); have n2_ := Aside0.mk (Kd.N_mono (Kd.N_told (Kd.N_told (Kd.N_old (by (with_reducible repeat (first | apply Kd.N_alloc | apply Kd.N_drewN | apply Kd.N_drew)); exact HO275.out) hb) (Kd.N_base ho0)) (Kd.N_base ho1)) (fun _ h_ => h_.1)); have n3_ := Aside0.mk (Kd.N_mono (Kd.N_told (Kd.N_told (Kd.N_old (by (with_reducible repeat (first | apply Kd.N_alloc | apply Kd.N_drewN | apply Kd.N_drew)); exact HO278.out) hb) (Kd.N_base ho0)) (Kd.N_base ho1)) (fun _ h_ => h_.1)); have n4_ := Aside0.mk (Kd.N_lower (Kd.N_mono (ok' := fun _ => True) ho0 (fun _ _ => trivial)) (below_size (by repeat (first | (with_reducible first | exact HB.out | apply below_alloc | apply pw_below_drewN | apply below_drew1) | exact HB.out)))); have n5_ := Aside0.mk (Kd.N_lower (Kd.N_mono (ok' := fun _ => True) ho1 (fun _ _ => trivial)) (below_size (by repeat (first | (with_reducible first | exact HB.out | apply below_alloc | apply pw_below_drewN | apply below_drew1) | exact HB.out)))); have n6_ := Aside0.mk (Kd.C_below (by repeat (first | (with_reducible exact HR267_0.out) | (with_reducible refine Kd.C_alloc ?_ _) | (with_reducible refine Kd.C_drewN ?_ _) | (with_reducible refine Kd.C_drew ?_) | exact HR267_0.out)) hb); have n7_ := Aside0.mk (below_step (by repeat (first | (with_reducible first | exact HB.out | apply below_alloc | apply pw_below_drewN | apply below_drew1) | exact HB.out)) hb); clear HO_39; clear HO_48; clear HO275; clear HO278; clear HR267_0; clear HB; have HO_39 := n0_; have HO_48 := n1_; have HO275 := n2_; have HO278 := n3_; have HO281 := n4_; have HO284 := n5_; have HR267_0 := n6_; have HB := n7_; clear n0_ n1_ n2_ n3_ n4_ n5_ n6_ n7_; (try clear hb); (try clear hb2); (try clear hk); (try clear hi); (try clear ho0); (try clear ho1); obtain ⟨Ao46, co46, eo46⟩ := Kd.N_slice HO275.out; subst eo46; obtain ⟨Ao47, co47, eo47⟩ := Kd.N_slice HO281.out; subst eo47) | ((with_reducible refine gate_callee (f := 19) rfl ?_); refine goesL_ (some 68) rfl rfl Try.func19 (by kernel_rfl) rfl #[.slice Ao46 t273.length co46, .slice Ao47 t279.length co47] rfl (by (try simp only [List.map_toArray, List.map_cons, List.map_nil]); first | done | rfl | (simp only [List.length_drop, List.length_take]; rfl)) ?_; (with_reducible refine (debuggerref34_Bodies.calls k3 _ _ t273 _ _ t279 true _ ?side1 ?side2 ?side3 ?side4 A34.out).mono ?_); (case side1 => repeat (first | exact (Kd.N_reads' HO275.out).2.2 | (with_reducible refine Kd.C_alloc ?_ _) | (with_reducible refine Kd.C_drewN ?_ _) | (with_reducible refine Kd.C_drew ?_))); (case side2 => exact (Kd.N_reads' HO275.out).2.1); (case side3 => repeat (first | exact (Kd.N_reads' HO281.out).2.2 | (with_reducible refine Kd.C_alloc ?_ _) | (with_reducible refine Kd.C_drewN ?_ _) | (with_reducible refine Kd.C_drew ?_))); (case side4 => exact (Kd.N_reads' HO281.out).2.1); rintro e w' ⟨rfl, ⟨nd, rfl⟩⟩; refine ⟨_, rfl, ?_⟩; obtain ⟨Ao48, co48, eo48⟩ := Kd.N_slice HO278.out; subst eo48; obtain ⟨Ao49, co49, eo49⟩ := Kd.N_slice HO284.out; subst eo49) | (go_at_call 11; (with_reducible refine (debuggerref34_Same.calls k3 _ _ t276 _ _ t282 false _ ?side1 ?side2 ?side3 ?side4 A36.out).mono ?_); (case side1 => repeat (first | exact (Kd.N_reads' HO278.out).2.2 | (with_reducible refine Kd.C_alloc ?_ _) | (with_reducible refine Kd.C_drewN ?_ _) | (with_reducible refine Kd.C_drew ?_))); (case side2 => exact (Kd.N_reads' HO278.out).2.1); (case side3 => repeat (first | exact (Kd.N_reads' HO284.out).2.2 | (with_reducible refine Kd.C_alloc ?_ _) | (with_reducible refine Kd.C_drewN ?_ _) | (with_reducible refine Kd.C_drew ?_))); (case side4 => exact (Kd.N_reads' HO284.out).2.1); rintro e w' ⟨rfl, ⟨nd, rfl⟩⟩))
                                    go_ret
                                    exact ⟨by first | rfl | (simp [errW_none, errW_some] <;> rfl) | (simp [*, errW_none, errW_some] <;> rfl), by repeat (first | (with_reducible first | exact HB.out | apply below_alloc | apply pw_below_drewN | apply below_drew1) | exact HB.out)⟩
                                · replace c35 := Bool.eq_false_iff.mpr c35
                                  subst c35
                                  have H1 : (some false) = some r := by rw [if_neg (show ¬ (false = true) by decide)] at H; exact H
                                  clear H
                                  have H := H1
                                  clear H1
                                  obtain rfl := Option.some.inj H
                                  have p272 : 0 ≤ (x50_3 : Int) := of_decide_eq_true (by first | (with_reducible assumption) | assumption)
                                  have q272 : x50_3 < (y269.length : Int) := of_decide_eq_true (by first | (with_reducible assumption) | assumption)
                                  obtain ⟨ad272, e272, hx272_0⟩ := Kd.at_int (Kd.R_reads' HO_48.out).2.2 x50_3 p272 q272
                                  cases e272
                                  replace p272 := eq_true p272
                                  replace q272 := eq_true q272
                                  go_wp2_with (first | ((with_reducible refine gate_callee (f := 17) rfl ?_); refine goesL_ (some 57) rfl rfl Try.func17 (by kernel_rfl) rfl #[.slice A267_0 (rd_L6 y263 x41_2).length c267_0, .int .i64 (rd y269 x50_3)] rfl (by (try simp only [List.map_toArray, List.map_cons, List.map_nil]); first | done | rfl | (simp only [List.length_drop, List.length_take]; rfl)) ?_; (with_reducible refine (link_Arrive.calls k3 _ _ (rd_L6 y263 x41_2) (rd y269 x50_3) t273 t276 _ ?side1 ?side2 A32.out).mono ?_); (case side1 => repeat (first | (with_reducible exact HR267_0.out) | (with_reducible refine Kd.C_alloc ?_ _) | (with_reducible refine Kd.C_drewN ?_ _) | (with_reducible refine Kd.C_drew ?_))); (case side2 => exact HC267_0.out); rintro e w50 ⟨v274, v277, rfl, ho0, ho1, hb⟩; refine ⟨_, rfl, ?_⟩; have n0_ := Aside0.mk (Kd.N_mono (Kd.N_told (Kd.N_told (Kd.N_old (by (with_reducible repeat (first | apply Kd.N_alloc | apply Kd.N_drewN | apply Kd.N_drew)); exact HO_39.out) hb) (Kd.N_base ho0)) (Kd.N_base ho1)) (fun _ h_ => h_.1)); have n1_ := Aside0.mk (Kd.R_below (by (with_reducible repeat (first | apply Kd.R_alloc | apply Kd.R_drewN | apply Kd.R_drew)); exact HO_48.out) hb); have n2_ := Aside0.mk (Kd.N_lower (Kd.N_mono (ok' := fun k_ => (P0_ k_ ∨ w.heap.size ≤ k_) ∧ some k_ ≠ (v277 : Value).ownBlock ∧ some k_ ≠ (.slice (some ad267) y263.length co21 : Value).ownBlock ∧ some k_ ≠ (.slice (some ad272) y269.length co28 : Value).ownBlock) ho0 (fun k_ hk_ => ⟨(.inr (Nat.le_trans (below_size (by repeat (first | (with_reducible first | exact HB.out | apply below_alloc | apply pw_below_drewN | apply below_drew1) | exact HB.out))) hk_.1)), hk_.2, (Kd.fresh' (Kd.N_lt (by (with_reducible repeat (first | apply Kd.N_alloc | apply Kd.N_drewN | apply Kd.N_drew)); exact HO_39.out)) k_ hk_.1), (Kd.fresh' (Kd.R_lt (by (with_reducible repeat (first | apply Kd.R_alloc | apply Kd.R_drewN | apply Kd.R_drew)); exact HO_48.out)) k_ hk_.1)⟩)) (below_size (by repeat (first | (with_reducible first | exact HB.out | apply below_alloc | apply pw_below_drewN | apply below_drew1) | exact HB.out)))); have n3_ := Aside0.mk (Kd.N_lower (Kd.N_mono (ok' := fun k_ => (P0_ k_ ∨ w.heap.size ≤ k_) ∧ some k_ ≠ (v274 : Value).ownBlock ∧ some k_ ≠ (.slice (some ad267) y263.length co21 : Value).ownBlock ∧ some k_ ≠ (.slice (some ad272) y269.length co28 : Value).ownBlock) ho1 (fun k_ hk_ => ⟨(.inr (Nat.le_trans (below_size (by repeat (first | (with_reducible first | exact HB.out | apply below_alloc | apply pw_below_drewN | apply below_drew1) | exact HB.out))) hk_.1)), hk_.2, (Kd.fresh' (Kd.N_lt (by (with_reducible repeat (first | apply Kd.N_alloc | apply Kd.N_drewN | apply Kd.N_drew)); exact HO_39.out)) k_ hk_.1), (Kd.fresh' (Kd.R_lt (by (with_reducible repeat (first | apply Kd.R_alloc | apply Kd.R_drewN | apply Kd.R_drew)); exact HO_48.out)) k_ hk_.1)⟩)) (below_size (by repeat (first | (with_reducible first | exact HB.out | apply below_alloc | apply pw_below_drewN | apply below_drew1) | exact HB.out)))); have n4_ := Aside0.mk (Kd.C_below (by repeat (first | (with_reducible exact HR267_0.out) | (with_reducible refine Kd.C_alloc ?_ _) | (with_reducible refine Kd.C_drewN ?_ _) | (with_reducible refine Kd.C_drew ?_) | exact HR267_0.out)) hb); have n5_ := Aside0.mk (below_step (by repeat (first | (with_reducible first | exact HB.out | apply below_alloc | apply pw_below_drewN | apply below_drew1) | exact HB.out)) hb); clear HO_39; clear HO_48; clear HR267_0; clear HB; have HO_39 := n0_; have HO_48 := n1_; have HO275 := n2_; have HO278 := n3_; have HR267_0 := n4_; have HB := n5_; clear n0_ n1_ n2_ n3_ n4_ n5_; (try clear hb); (try clear hb2); (try clear hk); (try clear hi); (try clear ho0); (try clear ho1)) | ((with_reducible refine gate_callee (f := 18) rfl ?_); refine goesL_ (some 63) rfl rfl Try.func18 (by kernel_rfl) rfl #[.slice A267_0 (rd_L6 y263 x41_2).length c267_0, .int .i64 (rd y269 x50_3)] rfl (by (try simp only [List.map_toArray, List.map_cons, List.map_nil]); first | done | rfl | (simp only [List.length_drop, List.length_take]; rfl)) ?_; (with_reducible refine (debuggerref34_Arrive.calls k3 (fun _ => True) _ _ (rd_L6 y263 x41_2) (rd y269 x50_3) t279 t282 _ ?side1 A33.out).mono ?_); (case side1 => exact Kd.V_mk HC267_0.out (Kd.F_mono (Kd.C_F k37_heap (by repeat (first | (with_reducible exact HR267_0.out) | (with_reducible refine Kd.C_alloc ?_ _) | (with_reducible refine Kd.C_drewN ?_ _) | (with_reducible refine Kd.C_drew ?_) | exact HR267_0.out))) (fun _ _ => trivial))); rintro e w51 ⟨v280, v283, rfl, ho0, ho1, hb⟩; refine ⟨_, rfl, ?_⟩; have n0_ := Aside0.mk (Kd.N_mono (Kd.N_told (Kd.N_told (Kd.N_old (by (with_reducible repeat (first | apply Kd.N_alloc | apply Kd.N_drewN | apply Kd.N_drew)); exact HO_39.out) hb) (Kd.N_base ho0)) (Kd.N_base ho1)) (fun _ h_ => h_.1)); have n1_ := Aside0.mk (Kd.R_below (by (with_reducible repeat (first | apply Kd.R_alloc | apply Kd.R_drewN | apply Kd.R_drew)); exact HO_48.out) hb); have n2_ := Aside0.mk (Kd.N_mono (Kd.N_told (Kd.N_told (Kd.N_old (by (with_reducible repeat (first | apply Kd.N_alloc | apply Kd.N_drewN | apply Kd.N_drew)); exact HO275.out) hb) (Kd.N_base ho0)) (Kd.N_base ho1)) (fun _ h_ => h_.1)); have n3_ := Aside0.mk (Kd.N_mono (Kd.N_told (Kd.N_told (Kd.N_old (by (with_reducible repeat (first | apply Kd.N_alloc | apply Kd.N_drewN | apply Kd.N_drew)); exact HO278.out) hb) (Kd.N_base ho0)) (Kd.N_base ho1)) (fun _ h_ => h_.1)); have n4_ := Aside0.mk (Kd.N_lower (Kd.N_mono (ok' := fun _ => True) ho0 (fun _ _ => trivial)) (below_size (by repeat (first | (with_reducible first | exact HB.out | apply below_alloc | apply pw_below_drewN | apply below_drew1) | exact HB.out)))); have n5_ := Aside0.mk (Kd.N_lower (Kd.N_mono (ok' := fun _ => True) ho1 (fun _ _ => trivial)) (below_size (by repeat (first | (with_reducible first | exact HB.out | apply below_alloc | apply pw_below_drewN | apply below_drew1) | exact HB.out)))); have n6_ := Aside0.mk (Kd.C_below (by repeat (first | (with_reducible exact HR267_0.out) | (with_reducible refine Kd.C_alloc ?_ _) | (with_reducible refine Kd.C_drewN ?_ _) | (with_reducible refine Kd.C_drew ?_) | exact HR267_0.out)) hb); have n7_ := Aside0.mk (below_step (by repeat (first | (with_reducible first | exact HB.out | apply below_alloc | apply pw_below_drewN | apply below_drew1) | exact HB.out)) hb); clear HO_39; clear HO_48; clear HO275; clear HO278; clear HR267_0; clear HB; have HO_39 := n0_; have HO_48 := n1_; have HO275 := n2_; have HO278 := n3_; have HO281 := n4_; have HO284 := n5_; have HR267_0 := n6_; have HB := n7_; clear n0_ n1_ n2_ n3_ n4_ n5_ n6_ n7_; (try clear hb); (try clear hb2); (try clear hk); (try clear hi); (try clear ho0); (try clear ho1); obtain ⟨Ao52, co52, eo52⟩ := Kd.N_slice HO275.out; subst eo52; obtain ⟨Ao53, co53, eo53⟩ := Kd.N_slice HO281.out; subst eo53) | ((with_reducible refine gate_callee (f := 19) rfl ?_); refine goesL_ (some 68) rfl rfl Try.func19 (by kernel_rfl) rfl #[.slice Ao52 t273.length co52, .slice Ao53 t279.length co53] rfl (by (try simp only [List.map_toArray, List.map_cons, List.map_nil]); first | done | rfl | (simp only [List.length_drop, List.length_take]; rfl)) ?_; (with_reducible refine (debuggerref34_Bodies.calls k3 _ _ t273 _ _ t279 false _ ?side1 ?side2 ?side3 ?side4 A34.out).mono ?_); (case side1 => repeat (first | exact (Kd.N_reads' HO275.out).2.2 | (with_reducible refine Kd.C_alloc ?_ _) | (with_reducible refine Kd.C_drewN ?_ _) | (with_reducible refine Kd.C_drew ?_))); (case side2 => exact (Kd.N_reads' HO275.out).2.1); (case side3 => repeat (first | exact (Kd.N_reads' HO281.out).2.2 | (with_reducible refine Kd.C_alloc ?_ _) | (with_reducible refine Kd.C_drewN ?_ _) | (with_reducible refine Kd.C_drew ?_))); (case side4 => exact (Kd.N_reads' HO281.out).2.1); rintro e w' ⟨rfl, ⟨nd, rfl⟩⟩; refine ⟨_, rfl, ?_⟩))
                                  go_ret
                                  exact ⟨by first | rfl | (simp [errW_none, errW_some] <;> rfl) | (simp [*, errW_none, errW_some] <;> rfl), by repeat (first | (with_reducible first | exact HB.out | apply below_alloc | apply pw_below_drewN | apply below_drew1) | exact HB.out)⟩
                              · rw [if_neg c31] at H
                                exact absurd H (by simp)
                            · rw [if_neg c30] at H
                              exact absurd H (by simp)
                          · rw [if_neg c29] at H
                            have c29b0 : decide (x50_3 < (y269.length : Int)) = false := decide_eq_false c29
                            clear c29
                            have H' := Aside0.mk H
                            clear H
                            go_wp2
                            go_roundg k3
                            case measure => have := HK1.out; have := HK2.out; have := HK3.out; omega
                            case rel => exact ⟨(wrap64 (x41_2 + 1)), (by first | rfl | (simp; done) | (simp [*]; done)), H', ⟨by have := HK1.out; have := HK2.out; have := HK3.out; omega⟩, ⟨by (with_reducible repeat (first | apply Kd.N_alloc | apply Kd.N_drewN | apply Kd.N_drew)); exact Kd.N_mono HO_39.out (fun _ hk => hk.1)⟩, ⟨by repeat (first | (with_reducible first | exact HB.out | apply below_alloc | apply pw_below_drewN | apply below_drew1) | exact HB.out)⟩⟩
                    · rw [if_neg c24] at H
                      exact absurd H (by simp)
                  · rw [if_neg c23] at H
                    exact absurd H (by simp)
                · rw [if_neg c22] at H
                  have c22b0 : decide (x41_2 < (y263.length : Int)) = false := decide_eq_false c22
                  clear c22
                  replace H := Option.bind_eq_some_iff.mp H
                  obtain ⟨t266, A540, H⟩ := H
                  replace H : (some t266) = some r := H
                  have A54 := Aside0.mk A540
                  clear A540
                  obtain rfl := Option.some.inj H
                  go_wp2_with (first | ((with_reducible refine gate_callee (f := 9) rfl ?_); refine goesL_ (some 78) rfl rfl Try.func9 (by kernel_rfl) rfl #[] rfl (by (try simp only [List.map_toArray, List.map_cons, List.map_nil]); first | done | rfl | (simp only [List.length_drop, List.length_take]; rfl)) ?_; (with_reducible refine (debuggerlaw34_awake.calls k2  t266 _ A54.out).mono ?_); rintro e w55 ⟨rfl, hb⟩; refine ⟨_, rfl, ?_⟩; have n0_ := Aside0.mk (Kd.N_below (by (with_reducible repeat (first | apply Kd.N_alloc | apply Kd.N_drewN | apply Kd.N_drew)); exact HO_39.out) hb); have n1_ := Aside0.mk (below_step (by repeat (first | (with_reducible first | exact HB.out | apply below_alloc | apply pw_below_drewN | apply below_drew1) | exact HB.out)) hb); clear HO_39; clear HB; have HO_39 := n0_; have HB := n1_; clear n0_ n1_; (try clear hb); (try clear hb2); (try clear hk); (try clear hi)))
                  go_ret
                  exact ⟨by first | rfl | (simp [errW_none, errW_some] <;> rfl) | (simp [*, errW_none, errW_some] <;> rfl), by repeat (first | (with_reducible first | exact HB.out | apply below_alloc | apply pw_below_drewN | apply below_drew1) | exact HB.out)⟩
    · rw [if_neg c7] at H
      exact absurd H (by simp)

end Go.Proofs.Ytipkcbpilkoflaa.QLinkArrives
