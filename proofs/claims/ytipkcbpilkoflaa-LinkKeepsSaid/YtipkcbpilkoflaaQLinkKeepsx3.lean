-- Written by a program of this session (wip/printer.py of the repo) out of the translation.
import Derived.Test.YtipkcbpilkoflaaQLinkKeepsx0
import Derived.Test.YtipkcbpilkoflaaQLinkKeepsx1
import Derived.Test.YtipkcbpilkoflaaQLinkKeepsx2
namespace Go.Proofs.Ytipkcbpilkoflaa.QLinkKeeps
open Go.RowKit Go.Proofs.YtipkcbpilkoflaaW.PrintWords Go.Proofs.YtipkcbpilkoflaaW.PrintLast Go.Proofs.YtipkcbpilkoflaaW.PrintMore
attribute [local go_sem] max2_int min2_int max_two min_two max_three min_three max_four min_four   -- for this text's walks alone
set_option linter.unusedVariables false
set_option linter.unusedSimpArgs false

/-! ### link_Send: function 12 -/
def link_Send.l0 : Nat → List Int → Int → List (S37) → List Int → Int → Int → List Int → Int → Int → Option ((List (S37)))
  | 0, _, _, _, _, _, _, _, _, _ => none
  | k + 1, x2, x3, x9, x20, x21, x22, x118000, x118001, x118002 => if x22 < x21 then (if 0 ≤ x22 then (if x22 < (x20.length : Int) then ((link_damaged.f k x2 x118000 x118001 x118002).bind fun t126 => (if x9.length < 4398046511104 then (link_Send.l0 k x2 x3 (x9 ++ [(⟨wrap64 (x3 + (mn (mx (rd x20 x22) 1) 100)), t126⟩ : S37)]) x20 x21 (wrap64 (x22 + 1)) x118000 x118001 x118002) else (none))) else (none)) else (none)) else (some x9)
def link_Send.f (k : Nat) (l0 : List (S37)) (l1_0 : List Int) (a1_1 : Int) (a1_2 : Int) (l2 : List Int) (a3 : Int) : Option ((List (S37))) := (link_copies.f k l0).bind fun t118 => (if 0 ≤ (mn (l1_0.length : Int) 8) then (if (mn (l1_0.length : Int) 8) ≤ (l1_0.length : Int) then ((some (l1_0.take ((mn (l1_0.length : Int) 8) : Int).toNat : List Int)).bind fun y121 => (link_Send.l0 k l2 a3 t118 y121 (y121.length : Int) 0 l1_0 a1_1 a1_2)) else (none)) else (none))
theorem link_Send.mono_l : ∀ k, (∀ y0 y1 y2 y3 y4 y5 y6 y7 y8, LeO (link_Send.l0 k y0 y1 y2 y3 y4 y5 y6 y7 y8) (link_Send.l0 (k + 1) y0 y1 y2 y3 y4 y5 y6 y7 y8))
  | 0 => fun _ _ _ _ _ _ _ _ _ r h => by simp [link_Send.l0] at h
  | k + 1 => by
    have ih0 := link_Send.mono_l k
    · intro y0 y1 y2 y3 y4 y5 y6 y7 y8
      unfold link_Send.l0
      repeat' first
      | (with_reducible exact ih0 _ _ _ _ _ _ _ _ _)
      | (with_reducible exact link_copies.mono _ _)
      | (with_reducible exact link_damaged.mono _ _ _ _ _)
      | (with_reducible exact LeO.refl _)
      | (with_reducible exact LeO.none _)
      | (with_reducible refine LeO.ite ?_ ?_)
      | (with_reducible refine LeO.bind ?_ (fun _ => ?_))
      | exact ih0 _ _ _ _ _ _ _ _ _
      | exact link_copies.mono _ _
      | exact link_damaged.mono _ _ _ _ _
      | exact LeO.none _
      | refine LeO.ite ?_ ?_
      | refine LeO.bind ?_ (fun _ => ?_)
theorem link_Send.mono : ∀ a0 a1 a2 a3 a4 a5 k, LeO (link_Send.f k a0 a1 a2 a3 a4 a5) (link_Send.f (k + 1) a0 a1 a2 a3 a4 a5) := by
  intro a0 a1 a2 a3 a4 a5 k
  have ih0 := link_Send.mono_l k
  unfold link_Send.f
  repeat' first
      | (with_reducible exact ih0 _ _ _ _ _ _ _ _ _)
      | (with_reducible exact link_copies.mono _ _)
      | (with_reducible exact link_damaged.mono _ _ _ _ _)
      | (with_reducible exact LeO.refl _)
      | (with_reducible exact LeO.none _)
      | (with_reducible refine LeO.ite ?_ ?_)
      | (with_reducible refine LeO.bind ?_ (fun _ => ?_))
      | exact ih0 _ _ _ _ _ _ _ _ _
      | exact link_copies.mono _ _
      | exact link_damaged.mono _ _ _ _ _
      | exact LeO.none _
      | refine LeO.ite ?_ ?_
      | refine LeO.bind ?_ (fun _ => ?_)
set_option maxHeartbeats 8000000 in
set_option maxRecDepth 100000 in
theorem link_Send.calls (k : Nat) (A0 : Option Addr) (c0 : Nat) (l0 : List (S37)) (A1_0 : Option Addr) (c1_0 : Nat) (l1_0 : List Int) (a1_1 : Int) (a1_2 : Int) (A2 : Option Addr) (c2 : Nat) (l2 : List Int) (a3 : Int) (r : List (S37)) (w : World) (hr0 : Kd.C k37 w A0 l0.length l0) (hc0 : l0.length ≤ c0) (hr1_0 : Kd.C (Kd.int .i64) w A1_0 l1_0.length l1_0) (hc1_0 : l1_0.length ≤ c1_0) (hr2 : Kd.C (Kd.int .u8) w A2 l2.length l2) (hc2 : l2.length ≤ c2) (h : link_Send.f k l0 l1_0 a1_1 a1_2 l2 a3 = some r) :
    Calls Try.prog 12 #[.slice A0 l0.length c0, .agg #[.slice A1_0 l1_0.length c1_0, .int .i64 a1_1, .int .i64 a1_2], .slice A2 l2.length c2, .int .i64 a3] w fun e w' => ∃ v0_ : Value, e = .returned (v0_) ∧ Kd.S k37 37 w' w.heap.size (fun _ => True) v0_ r ∧ Below w.heap.size w w' := by
  have hu25 := Try.underlying25
  have hu37 := Try.underlying37
  have HR0 := Aside0.mk hr0
  have HC0 := Aside0.mk hc0
  clear hr0 hc0
  have HR1_0 := Aside0.mk hr1_0
  have HC1_0 := Aside0.mk hc1_0
  clear hr1_0 hc1_0
  have HR2 := Aside0.mk hr2
  have HC2 := Aside0.mk hc2
  clear hr2 hc2
  have HB := Aside0.mk (Below.refl w.heap.size w)
  have H : ((link_copies.f k l0).bind fun t118 => (if 0 ≤ (mn (l1_0.length : Int) 8) then (if (mn (l1_0.length : Int) 8) ≤ (l1_0.length : Int) then ((some (l1_0.take ((mn (l1_0.length : Int) 8) : Int).toNat : List Int)).bind fun y121 => (link_Send.l0 k l2 a3 t118 y121 (y121.length : Int) 0 l1_0 a1_1 a1_2)) else (none)) else (none))) = some r := h
  clear h
  replace H := Option.bind_eq_some_iff.mp H
  obtain ⟨t118, A50, H⟩ := H
  replace H : (if 0 ≤ (mn (l1_0.length : Int) 8) then (if (mn (l1_0.length : Int) 8) ≤ (l1_0.length : Int) then ((some (l1_0.take ((mn (l1_0.length : Int) 8) : Int).toNat : List Int)).bind fun y121 => (link_Send.l0 k l2 a3 t118 y121 (y121.length : Int) 0 l1_0 a1_1 a1_2)) else (none)) else (none)) = some r := H
  have A5 := Aside0.mk A50
  clear A50
  obtain ⟨ji6, hji6⟩ : ∃ j_ : Int, (mn (l1_0.length : Int) 8) = j_ := ⟨_, rfl⟩
  replace H : (if 0 ≤ (ji6) then (if (ji6) ≤ (l1_0.length : Int) then ((some (l1_0.take ((ji6) : Int).toNat : List Int)).bind fun y121 => (link_Send.l0 k l2 a3 t118 y121 (y121.length : Int) 0 l1_0 a1_1 a1_2)) else (none)) else (none)) = some r := by first | (rw [hji6] at H; exact H) | (simp only [hji6] at H ⊢; exact H)
  (try rw [hji6] at A5)
  (try (have hji6h : ji6 ≤ 8 := by (rw [← hji6]; unfold mn; (repeat' split) <;> omega)))
  (try (have hji6g : ji6 ≤ 64 := by omega))
  (try (have hji6l : 0 ≤ ji6 := by (rw [← hji6]; unfold mn; (repeat' split) <;> omega)))
  (try (have hji6m : 0 ≤ ji6 := by omega))
  have hji6_ : (if 8 < (l1_0.length : Int) then 8 else (l1_0.length : Int)) = ji6 := hji6
  by_cases c7 : 0 ≤ (ji6)
  · rw [if_pos c7] at H
    have c7b0 := eq_true c7
    have c7b1 : decide (0 ≤ (ji6)) = true := decide_eq_true c7
    clear c7
    by_cases c8 : (ji6) ≤ (l1_0.length : Int)
    · rw [if_pos c8] at H
      have c8b0 := eq_true c8
      have c8b1 : decide ((ji6) ≤ (l1_0.length : Int)) = true := decide_eq_true c8
      clear c8
      obtain ⟨y121, hy121⟩ : ∃ y_ : List Int, y_ = (l1_0.take ((ji6) : Int).toNat) := ⟨_, rfl⟩
      replace H : (link_Send.l0 k l2 a3 t118 y121 (y121.length : Int) 0 l1_0 a1_1 a1_2) = some r := by first | (rw [hy121]; with_reducible exact H) | (have H2_ := (Option.bind_some _ _).symm.trans H; rw [hy121]; with_reducible exact H2_) | (have H2_ := (Option.bind_some _ _).symm.trans H; with_reducible exact H2_) | with_reducible exact H | (rw [hy121]; exact H) | exact H
      have Ny121 := Aside0.mk hy121
      clear hy121
      have H' := Aside0.mk H
      clear H
      go_enter Try.func12, Try.ntmps12
      go_wp2_with (first | ((with_reducible refine gate_dst (N := 5) rfl ?_); refine box_event ?hg (N := 5) ?hd (cs := #[.slice A1_0 l1_0.length c1_0, .int .i64 a1_1, .int .i64 a1_2]) (t := 25) ?hr ?_; (case hd => rfl); (case hg => rfl); (case hr => first | (go_simp; done) | (go_simp; rfl)); intro gb117 hg w9 hbox hb; have n0_ := Aside0.mk (below_step (by repeat (first | (with_reducible first | exact HB.out | apply below_alloc | apply pw_below_drewN | apply below_drew1) | exact HB.out)) hb); have n1_ := Aside0.mk (hbox); have n2_ := Aside0.mk ((by rw [hg]; exact (below_size (by repeat (first | (with_reducible first | exact HB.out | apply below_alloc | apply pw_below_drewN | apply below_drew1) | exact HB.out))) : w.heap.size ≤ gb117)); have n3_ := Aside0.mk ((by rw [hg]; exact (below_size (by repeat (first | (with_reducible first | exact HB.out | apply below_alloc | apply pw_below_drewN | apply below_drew1) | exact HB.out))) : w.heap.size ≤ gb117)); clear HB; have HB := n0_; have BK117 := n1_; have GW117 := n2_; have GE117 := n3_; clear n0_ n1_ n2_ n3_; clear hb hbox hg) | ((with_reducible refine gate_callee (f := 20) rfl ?_); refine goesL_ (some 13) rfl rfl Try.func20 (by kernel_rfl) rfl #[.slice A0 l0.length c0] rfl (by (try simp only [List.map_toArray, List.map_cons, List.map_nil]); first | done | rfl | (simp only [List.length_drop, List.length_take]; rfl)) ?_; (with_reducible refine (link_copies.calls k _ _ l0 t118 _ ?side1 ?side2 A5.out).mono ?_); (case side1 => repeat (first | exact (Kd.C_below HR0.out HB.out) | (with_reducible refine Kd.C_alloc ?_ _) | (with_reducible refine Kd.C_drewN ?_ _) | (with_reducible refine Kd.C_drew ?_))); (case side2 => exact HC0.out); rintro e w10 ⟨v119, rfl, ho0, hb⟩; refine ⟨_, rfl, ?_⟩; have n0_ := Aside0.mk (Kd.S_lower ho0 (below_size (by repeat (first | (with_reducible first | exact HB.out | apply below_alloc | apply pw_below_drewN | apply below_drew1 | refine below_set ?_ GE117.out) | exact HB.out)))); have n1_ := Aside0.mk (blk_below (g := gb117) (o := .cells #[.slice A1_0 l1_0.length c1_0, .int .i64 a1_1, .int .i64 a1_2] 25 (0, 0)) (by (with_reducible repeat (first | refine blk_drewN ?_ _ | refine blk_drew ?_ | refine blk_alloc ?_ _)); exact BK117.out) hb); have n2_ := Aside0.mk (below_step (by repeat (first | (with_reducible first | exact HB.out | apply below_alloc | apply pw_below_drewN | apply below_drew1 | refine below_set ?_ GE117.out) | exact HB.out)) hb); clear BK117; clear HB; have HO120 := n0_; have BK117 := n1_; have HB := n2_; clear n0_ n1_ n2_; (try clear hb); (try clear hb2); (try clear hk); (try clear hi); (try clear ho0); have hcz11_0 : w10.cell? ⟨gb117, 0, none⟩ = some (.slice A1_0 l1_0.length c1_0) := (blk_cell BK117.out 0).trans rfl; have hcz11_1 : w10.cell? ⟨gb117, 1, none⟩ = some (.int .i64 a1_1) := (blk_cell BK117.out 1).trans rfl; have hcz11_2 : w10.cell? ⟨gb117, 2, none⟩ = some (.int .i64 a1_2) := (blk_cell BK117.out 2).trans rfl; have hfz11_0 := blk_frozen BK117.out 0; have hfz11_1 := blk_frozen BK117.out 1; have hfz11_2 := blk_frozen BK117.out 2; have q12 : ((ji6) : Int) ≤ ((l1_0.length : Int) : Int) := of_decide_eq_true (by first | (with_reducible assumption) | assumption); obtain ⟨i012, hi012, _, hsz12, _⟩ := info_parts info3; have hroom12 : l1_0.length ≤ c1_0 := HC1_0.out; have hC12 : Kd.C (Kd.int .i64) _ A1_0 l1_0.length l1_0 := HR1_0.out; have hcut12 := cut_to (P := Try.prog) 23 3 .i64 Try.underlying23 hi012 A1_0 l1_0.length c1_0 (ji6) (of_decide_eq_true (by first | (with_reducible assumption) | assumption)) q12 hroom12; have hr12 := Kd.C_take (m := ((ji6) : Int).toNat) hC12 (by omega); have hy12 : y121.length = ((ji6) : Int).toNat := (by rw [Ny121.out, List.length_take]; omega); rw [← Ny121.out] at hr12; rw [← hy12] at hcut12; have HR124 := Aside0.mk hr12; have HC124 := Aside0.mk (show y121.length ≤ c1_0 from by omega); clear hr12 hC12 hroom12 hi012 hsz12; have KY12 := Aside0.mk hy12; clear hy12; replace q12 := eq_true q12))
      go_loopg [9, 22] k (fun kq v9 v22 w' => ∃ (x9_1 : List (S37)) (x22_1 : Int), v22 = .int .i64 x22_1 ∧ Aside0 (link_Send.l0 kq l2 a3 x9_1 y121 (y121.length : Int) x22_1 l1_0 a1_1 a1_2 = some r) ∧ Aside0 (kq ≤ k) ∧ Aside0 (Kd.S k37 37 w' w.heap.size (fun _ => True) v9 x9_1) ∧ Aside0 (w'.heap[gb117]? = some (.cells #[(.slice A1_0 l1_0.length c1_0), .int .i64 a1_1, .int .i64 a1_2] 25 (0, 0))) ∧ Aside0 (Below w.heap.size w w'))
      case atStart => exact ⟨(t118), (0), (by first | rfl | (simp; done) | (simp [*]; done)), H', ⟨Nat.le_refl _⟩, ⟨by (with_reducible repeat (first | apply Kd.S_alloc | apply Kd.S_drewN | apply Kd.S_drew)); exact HO120.out⟩, ⟨by (with_reducible repeat (first | refine blk_drewN ?_ _ | refine blk_drew ?_ | refine blk_alloc ?_ _)); exact BK117.out⟩, ⟨by repeat (first | (with_reducible first | exact HB.out | apply below_alloc | apply pw_below_drewN | apply below_drew1 | refine below_set ?_ GE117.out) | exact HB.out)⟩⟩
      case round =>
        clear H'
        try clear c1
        try clear q1
        try clear c2
        try clear p2
        try clear c7
        try clear c7b0
        try clear c7b1
        try clear c8
        try clear c8b0
        try clear c8b1
        try clear c12
        try clear q12
        try clear hcz11_0
        try clear hcz11_1
        try clear hcz11_2
        try clear hfz11_0
        try clear hfz11_1
        try clear hfz11_2
        try clear q12
        obtain ⟨x9_1, x22_1, rfl, HA, HK1, HO_9, BK117, HB⟩ := hrel
        cases gk with
        | zero => exact absurd HA.out (by simp [link_Send.l0])
        | succ k1 =>
          have H := HA.out
          clear HA
          simp only [link_Send.l0] at H
          by_cases c13 : x22_1 < (y121.length : Int)
          · rw [if_pos c13] at H
            have c13b0 : decide (x22_1 < (y121.length : Int)) = true := decide_eq_true c13
            clear c13
            by_cases c14 : 0 ≤ x22_1
            · rw [if_pos c14] at H
              have c14b0 : decide (0 ≤ x22_1) = true := decide_eq_true c14
              clear c14
              by_cases c15 : x22_1 < (y121.length : Int)
              · rw [if_pos c15] at H
                have c15b0 : decide (x22_1 < (y121.length : Int)) = true := decide_eq_true c15
                clear c15
                obtain ⟨ji16, hji16⟩ : ∃ j_ : Int, (mx (rd y121 x22_1) 1) = j_ := ⟨_, rfl⟩
                replace H : ((link_damaged.f k1 l2 l1_0 a1_1 a1_2).bind fun t126 => (if x9_1.length < 4398046511104 then (link_Send.l0 k1 l2 a3 (x9_1 ++ [(⟨wrap64 (a3 + (mn (ji16) 100)), t126⟩ : S37)]) y121 (y121.length : Int) (wrap64 (x22_1 + 1)) l1_0 a1_1 a1_2) else (none))) = some r := by first | (rw [hji16] at H; exact H) | (simp only [hji16] at H ⊢; exact H)
                have hji16_ : (if (rd y121 x22_1) < 1 then 1 else (rd y121 x22_1)) = ji16 := hji16
                obtain ⟨ji17, hji17⟩ : ∃ j_ : Int, (mn (ji16) 100) = j_ := ⟨_, rfl⟩
                replace H : ((link_damaged.f k1 l2 l1_0 a1_1 a1_2).bind fun t126 => (if x9_1.length < 4398046511104 then (link_Send.l0 k1 l2 a3 (x9_1 ++ [(⟨wrap64 (a3 + (ji17)), t126⟩ : S37)]) y121 (y121.length : Int) (wrap64 (x22_1 + 1)) l1_0 a1_1 a1_2) else (none))) = some r := by first | (rw [hji17] at H; exact H) | (simp only [hji17] at H ⊢; exact H)
                have hji17_ : (if 100 < (ji16) then 100 else (ji16)) = ji17 := hji17
                replace H := Option.bind_eq_some_iff.mp H
                obtain ⟨t126, A180, H⟩ := H
                replace H : (if x9_1.length < 4398046511104 then (link_Send.l0 k1 l2 a3 (x9_1 ++ [(⟨wrap64 (a3 + (ji17)), t126⟩ : S37)]) y121 (y121.length : Int) (wrap64 (x22_1 + 1)) l1_0 a1_1 a1_2) else (none)) = some r := H
                have A18 := Aside0.mk A180
                clear A180
                by_cases c19 : x9_1.length < 4398046511104
                · rw [if_pos c19] at H
                  have LMc19 := Aside0.mk c19
                  clear c19
                  obtain ⟨y129, hy129⟩ : ∃ y_ : List (S37), y_ = (x9_1 ++ [(⟨wrap64 (a3 + (ji17)), t126⟩ : S37)]) := ⟨_, rfl⟩
                  replace H : (link_Send.l0 k1 l2 a3 y129 y121 (y121.length : Int) (wrap64 (x22_1 + 1)) l1_0 a1_1 a1_2) = some r := by first | (rw [hy129]; with_reducible exact H) | (have H2_ := (Option.bind_some _ _).symm.trans H; rw [hy129]; with_reducible exact H2_) | (have H2_ := (Option.bind_some _ _).symm.trans H; with_reducible exact H2_) | with_reducible exact H | (rw [hy129]; exact H) | exact H
                  have Ny129 := Aside0.mk hy129
                  clear hy129
                  have H' := Aside0.mk H
                  clear H
                  have p125 : 0 ≤ (x22_1 : Int) := of_decide_eq_true (by first | (with_reducible assumption) | assumption)
                  have q125 : x22_1 < (y121.length : Int) := of_decide_eq_true (by first | (with_reducible assumption) | assumption)
                  obtain ⟨ad125, e125, hx125_0⟩ := Kd.at_int HR124.out x22_1 p125 q125
                  cases e125
                  replace hx125_0 := (HB.out.cell (World.block_lt_of_cell? w _ hx125_0)).trans hx125_0
                  replace p125 := eq_true p125
                  replace q125 := eq_true q125
                  have hcz20_0 : wr.cell? ⟨gb117, 0, none⟩ = some (.slice (some ad125) l1_0.length c1_0) := (blk_cell BK117.out 0).trans rfl
                  have hcz20_1 : wr.cell? ⟨gb117, 1, none⟩ = some (.int .i64 a1_1) := (blk_cell BK117.out 1).trans rfl
                  have hcz20_2 : wr.cell? ⟨gb117, 2, none⟩ = some (.int .i64 a1_2) := (blk_cell BK117.out 2).trans rfl
                  have hfz20_0 := blk_frozen BK117.out 0
                  have hfz20_1 := blk_frozen BK117.out 1
                  have hfz20_2 := blk_frozen BK117.out 2
                  go_wp2_with (first | ((with_reducible refine gate_callee (f := 21) rfl ?_); refine goesL_ (some 34) rfl rfl Try.func21 (by kernel_rfl) rfl #[.slice A2 l2.length c2, .agg #[.slice (some ad125) l1_0.length c1_0, .int .i64 a1_1, .int .i64 a1_2]] rfl (by (try simp only [List.map_toArray, List.map_cons, List.map_nil]); first | done | rfl | (simp only [List.length_drop, List.length_take]; rfl)) ?_; (with_reducible refine (link_damaged.calls k1 _ _ l2 _ _ l1_0 a1_1 a1_2 t126 _ ?side1 ?side2 ?side3 ?side4 A18.out).mono ?_); (case side1 => repeat (first | exact (Kd.C_below HR2.out HB.out) | (with_reducible refine Kd.C_alloc ?_ _) | (with_reducible refine Kd.C_drewN ?_ _) | (with_reducible refine Kd.C_drew ?_))); (case side2 => exact HC2.out); (case side3 => repeat (first | exact (Kd.C_below HR1_0.out HB.out) | (with_reducible refine Kd.C_alloc ?_ _) | (with_reducible refine Kd.C_drewN ?_ _) | (with_reducible refine Kd.C_drew ?_))); (case side4 => exact HC1_0.out); rintro e w21 ⟨v127, rfl, ho0, hb⟩; refine ⟨_, rfl, ?_⟩; have n0_ := Aside0.mk (Kd.S_elder' (by (with_reducible repeat (first | apply Kd.S_alloc | apply Kd.S_drewN | apply Kd.S_drew)); exact HO_9.out) (by first | (with_reducible exact Kd.R_base ho0) | (with_reducible exact Kd.S_base ho0) | (with_reducible exact Kd.R_base ho0) | exact Kd.R_base ho0) hb); have n1_ := Aside0.mk (Kd.R_lower ho0 (below_size (by repeat (first | (with_reducible first | exact HB.out | apply below_alloc | apply pw_below_drewN | apply below_drew1 | refine below_set ?_ GE117.out) | exact HB.out)))); have n2_ := Aside0.mk (blk_below (g := gb117) (o := .cells #[.slice (some ad125) l1_0.length c1_0, .int .i64 a1_1, .int .i64 a1_2] 25 (0, 0)) (by (with_reducible repeat (first | refine blk_drewN ?_ _ | refine blk_drew ?_ | refine blk_alloc ?_ _)); exact BK117.out) hb); have n3_ := Aside0.mk (below_step (by repeat (first | (with_reducible first | exact HB.out | apply below_alloc | apply pw_below_drewN | apply below_drew1 | refine below_set ?_ GE117.out) | exact HB.out)) hb); clear HO_9; clear BK117; clear HB; have HO_9 := n0_; have HO128 := n1_; have BK117 := n2_; have HB := n3_; clear n0_ n1_ n2_ n3_; (try clear hb); (try clear hb2); (try clear hk); (try clear hi); (try clear ho0); obtain ⟨Ao22, co22, eo22⟩ := Kd.R_slice HO128.out; subst eo22) | ((with_reducible refine gate_builtin (b := .append) (xs := #[.tmp 26, .tmp 36]) rfl ?_); at_builtin; refine Kd.S_append k37 (w0 := w) w.heap.size rfl (.tmp 26) (.tmp 36) 22 37 (.agg #[(.int .i64 0), (.slice none 0 0)]) 32 rfl Try.underlying22 info37 rfl (by decide) (by omega) u9 x9_1 (⟨wrap64 (a3 + (ji17)), t126⟩ : S37) [.int .i64 (wrap64 (a3 + (ji17))), .slice Ao22 t126.length co22] (fun _ => True) (fun k_ => some k_ = (.slice Ao22 t126.length co22 : Value).ownBlock) rfl rfl ?aP (fun k_ hk_ => ((Kd.R_mono (ok' := fun k_ => ((fun _ => True)) k_ ∧ some k_ ≠ (u9 : Value).ownBlock) (Kd.R_apart' (HO128.out) (Kd.S_typed HO_9.out) (by decide)) (fun k_ hk => ⟨trivial, hk.2⟩))).1 k_ hk_.symm) ?aF ?aO ?aB ?aS ?aL ?_; (case aP => exact k37_mkM _ _ _ (⟨wrap64 (a3 + (ji17)), t126⟩ : S37) (Kd.R_mono (Kd.R_tight rfl (Kd.R_mono (ok' := fun k_ => ((fun _ => True)) k_ ∧ some k_ ≠ (u9 : Value).ownBlock) (Kd.R_apart' (HO128.out) (Kd.S_typed HO_9.out) (by decide)) (fun k_ hk => ⟨trivial, hk.2⟩))) (fun _ h_ => h_))); (case aB => exact (by repeat (first | (with_reducible first | exact HB.out | apply below_alloc | apply pw_below_drewN | apply below_drew1 | refine below_set ?_ GE117.out) | exact HB.out))); (case aF => exact (fun _ _ => trivial)); (case aO => exact (by (with_reducible repeat (first | apply Kd.S_alloc | apply Kd.S_drewN | apply Kd.S_drew)); exact Kd.S_mono HO_9.out (fun k_ hk => ⟨trivial, fun e_ => hk.2 e_⟩))); (case aS => exact (below_size (by repeat (first | (with_reducible first | exact HB.out | apply below_alloc | apply pw_below_drewN | apply below_drew1 | refine below_set ?_ GE117.out) | exact HB.out)))); (case aL => have := LMc19.out; omega); intro v130 w23 ho hb hg hat; rw [← Ny129.out] at ho; have n0_ := Aside0.mk (blk_grown (g := gb117) (o := .cells #[.slice (some ad125) l1_0.length c1_0, .int .i64 a1_1, .int .i64 a1_2] 25 (0, 0)) (by (with_reducible repeat (first | refine blk_drewN ?_ _ | refine blk_drew ?_ | refine blk_alloc ?_ _)); exact BK117.out) hg (Kd.S_ne HO_9.out BK117.out (by decide))); have n1_ := Aside0.mk (hb); have n2_ := Aside0.mk (ho); clear BK117; clear HB; clear HO_9; clear HO128; have BK117 := n0_; have HB := n1_; have HO131 := n2_; clear n0_ n1_ n2_; clear ho hb hg hat))
                  go_roundg k1
                  case measure => have := HK1.out; omega
                  case rel => exact ⟨(y129), (wrap64 (x22_1 + 1)), (by first | rfl | (simp; done) | (simp [*]; done)), H', ⟨by have := HK1.out; omega⟩, ⟨by (with_reducible repeat (first | apply Kd.S_alloc | apply Kd.S_drewN | apply Kd.S_drew)); exact HO131.out⟩, ⟨by (with_reducible repeat (first | refine blk_drewN ?_ _ | refine blk_drew ?_ | refine blk_alloc ?_ _)); exact BK117.out⟩, ⟨by repeat (first | (with_reducible first | exact HB.out | apply below_alloc | apply pw_below_drewN | apply below_drew1 | refine below_set ?_ GE117.out) | exact HB.out)⟩⟩
                · rw [if_neg c19] at H
                  exact absurd H (by simp)
              · rw [if_neg c15] at H
                exact absurd H (by simp)
            · rw [if_neg c14] at H
              exact absurd H (by simp)
          · rw [if_neg c13] at H
            have c13b0 : decide (x22_1 < (y121.length : Int)) = false := decide_eq_false c13
            clear c13
            obtain rfl := Option.some.inj H
            go_wp2
            go_ret
            exact ⟨_, by first | rfl | (simp [errW_none, errW_some] <;> rfl) | (simp only [← hji6]; first | rfl | (simp [errW_none, errW_some] <;> rfl)) | (simp [*, errW_none, errW_some] <;> rfl), by (with_reducible repeat (first | apply Kd.S_alloc | apply Kd.S_drewN | apply Kd.S_drew)); exact HO_9.out, by repeat (first | (with_reducible first | exact HB.out | apply below_alloc | apply pw_below_drewN | apply below_drew1 | refine below_set ?_ GE117.out) | exact HB.out)⟩
    · rw [if_neg c8] at H
      exact absurd H (by simp)
  · rw [if_neg c7] at H
    exact absurd H (by simp)

end Go.Proofs.Ytipkcbpilkoflaa.QLinkKeeps
