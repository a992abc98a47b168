/- LinkKeeps, walked by hand. -/
import Derived.Test.YtipkcbpilkoflaaQKeeps
namespace Go.Proofs.Ytipkcbpilkoflaa.QKeeps
open Go.RowKit Go.Proofs.Ytipkcbpilkoflaa.QLinkKeeps Go.Proofs.Ytipkcbpilkoflaa.Pure Go.Proofs.YtipkcbpilkoflaaW.PrintWords Go.Proofs.YtipkcbpilkoflaaW.PrintLast Go.Proofs.YtipkcbpilkoflaaW.PrintMore
attribute [local go_sem] max2_int min2_int max_two min_two max_three min_three max_four min_four
set_option linter.unusedVariables false
set_option linter.unusedSimpArgs false
set_option maxHeartbeats 8000000 in
set_option maxRecDepth 100000 in
theorem keeps (A0 : Option Addr) (c0 : Nat) (l0 : List (List Int)) (w : World) (hr0 : Kd.C (Kd.slice 3 (Kd.int .i64)) w A0 l0.length l0) (hc0 : l0.length ≤ c0) :
    Calls Try.prog 5 #[.slice A0 l0.length c0] w fun e w' => e = .returned (.bool true) ∧ Below w.heap.size w w' := by
  have hu25 := Try.underlying25
  have HR0 := Aside0.mk hr0
  have HC0 := Aside0.mk hc0
  clear hr0 hc0
  go_enter Try.func5, Try.ntmps5
  go_upto_if 15 with (fail)
  go_cut [0] (fun v0 wc => ∃ (xs : List (List Int)) (A : Option Addr) (c : Nat), v0 = .slice A xs.length c ∧ Aside0 (xs.length ≤ 12) ∧ Aside0 (Kd.C (Kd.slice 3 (Kd.int .i64)) w A xs.length xs) ∧ Aside0 (xs.length ≤ c) ∧ w = wc)
  case first =>
    by_cases c1 : (12 : Int) < (l0.length : Int)
    · have c1b : decide ((12 : Int) < (l0.length : Int)) = true := decide_eq_true c1
      have c2 : ((12 : Int) ≤ (c0 : Int)) = True := eq_true (by have := HC0.out; omega)
      go_wp2
      go_meet
      case rel =>
        have e : (l0.take 12).length = 12 := by rw [List.length_take]; omega
        exact ⟨l0.take 12, A0, c0, by rw [e], ⟨by omega⟩, ⟨Kd.C_take HR0.out (by omega)⟩, ⟨by have := HC0.out; omega⟩, rfl⟩
    · have c1b : decide ((12 : Int) < (l0.length : Int)) = false := decide_eq_false c1
      go_wp2
      go_meet
      case rel => exact ⟨l0, A0, c0, rfl, ⟨by omega⟩, HR0, HC0, rfl⟩
  case rest =>
    clear HR0 HC0
    obtain ⟨xs, A, c, rfl, HN, HR, HC, rfl⟩ := hcut
    have HB := Aside0.mk (Below.refl w.heap.size w)
    go_wp2_with ((with_reducible refine gate_dst (N := 4) rfl ?_); refine Kd.event_run rfl (alloc46 _ _ rfl _) ?_; generalize hg : w.heap.size = g; have HG := Aside0.mk (hg ▸ arr_new w); have HE := Aside0.mk (Nat.le_of_eq hg); have HB := Aside0.mk (below_alloc (Below.refl w.heap.size w) (.cells Z46 46 (0, 0))); generalize w.alloc (.cells Z46 46 (0, 0)) = W at HG HB ⊢)
    go_loopg [3, 5] 13 (fun kq v3 v5 W => ∃ (L : List S37) (F : Nat → Int) (i : Int), v5 = .int .i64 i ∧ Aside0 (0 ≤ i ∧ i ≤ xs.length ∧ i + kq = 13) ∧ Aside0 (Pure.Good L i) ∧ Aside0 (Pure.Counts F L) ∧ Aside0 (Arr W g F) ∧ Aside0 (Kd.N k37 37 W w.heap.size (fun k_ => k_ ≠ g) v3 L) ∧ Aside0 (Below w.heap.size w W))
    case atStart => exact ⟨[], fun _ => 0, 0, rfl, ⟨by omega⟩, ⟨Pure.Good.nil⟩, ⟨Pure.Counts.nil⟩, HG, ⟨Kd.N_nil _ _ _ _ _⟩, HB⟩
    case round =>
      clear HG HB
      obtain ⟨L, F, i, rfl, HI, HL, HF, HG, HV, HB⟩ := hrel
      obtain ⟨kk, rfl⟩ : ∃ kk, gk = kk + 1 := ⟨gk - 1, by have := HI.out; have := HN.out; omega⟩
      by_cases c1 : i < (xs.length : Int)
      · have c1b : decide (i < (xs.length : Int)) = true := decide_eq_true c1
        have p1 : 0 ≤ i := HI.out.1
        have q1 := c1
        obtain ⟨ad, A1, cc1, e1, hx1, hc1, hC1⟩ := at_L4 HR.out i p1 q1
        cases e1
        replace hx1 := (HB.out.cell (World.block_lt_of_cell? w _ hx1)).trans hx1
        replace p1 := eq_true p1
        replace q1 := eq_true q1
        generalize hrow : rd_L4 xs i = row at hx1 hc1 hC1
        have HC1 := Aside0.mk hc1
        have HR1 := Aside0.mk hC1
        clear hc1 hC1
        go_upto_if 30 with (fail)
        go_cut [6] (fun v6 w2 => ∃ (d : List Int) (c2 : Nat), v6 = .slice A1 d.length c2 ∧ Aside0 (d.length ≤ 6) ∧ Aside0 (d.length ≤ c2) ∧ Aside0 (Kd.C (Kd.int .i64) w A1 d.length d) ∧ wr = w2)
        case first =>
          by_cases c3 : (6 : Int) < (row.length : Int)
          · have c3b : decide ((6 : Int) < (row.length : Int)) = true := decide_eq_true c3
            have c4 : ((6 : Int) ≤ (cc1 : Int)) = True := eq_true (by have := HC1.out; omega)
            go_wp2
            go_meet
            case rel =>
              have e : (row.take 6).length = 6 := by rw [List.length_take]; omega
              exact ⟨row.take 6, cc1, by rw [e], ⟨by omega⟩, ⟨by have := HC1.out; omega⟩, ⟨Kd.C_take HR1.out (by omega)⟩, rfl⟩
          · have c3b : decide ((6 : Int) < (row.length : Int)) = false := decide_eq_false c3
            go_wp2
            go_meet
            case rel => exact ⟨row, cc1, rfl, ⟨by omega⟩, HC1, HR1, rfl⟩
        case rest =>
          clear HR1 HC1 hx1
          obtain ⟨d, c2, rfl, HD, HC2, HR2, rfl⟩ := hcut
          have hsend : link_Send.f 1000 L d 0 0 [i % 256] i = some (L ++ d.map (Pure.fl i)) := Pure.send_k L i HL.out HI.out.1 (by have := HI.out; have := HN.out; omega) d HD.out 1000 (by omega)
          have HS := Aside0.mk hsend
          clear hsend
          obtain ⟨Ao, co, eo⟩ := Kd.N_slice HV.out
          subst eo
          go_upto_region 12 with (first
            | ((with_reducible refine gate_dst (N := 38) rfl ?_); refine Kd.R_lit (Kd.int .u8) _ 5 ?hg (N := 38) ?hd (xs := ([i % 256] : List Int)) (inner := [.int .u8 (i % 256)]) (ok := fun _ => True) (okp := fun _ => True) ?hr ?hp (fun _ hk => hk) trivial (Below.refl _ _) (Nat.le_refl _) (by simp) ?_; (case hd => rfl); (case hg => rfl); (case hr => first | (go_simp; done) | (go_simp; rfl)); (case hp => exact (Reps.one (show Kd.M (Kd.int .u8) _ _ _ (i % 256) [.int .u8 (i % 256)] from rfl) (Reps.none _ _))); intro v38 w38 ho hb hg_ hnew_; clear hg_ hnew_; have n0_ := Aside0.mk (Kd.N_below HV.out hb); have n1_ := Aside0.mk (Arr.below HG.out hb); have n2_ := Aside0.mk (below_step HB.out hb); have n3_ := Aside0.mk ho; clear HV HG HB ho; have HV := n0_; have HG := n1_; have HB := n2_; have HO := n3_; clear n0_ n1_ n2_ n3_; obtain ⟨A38, c38, e38⟩ := Kd.R_slice HO.out; subst e38)
            | (go_at_call 12; refine (link_Send.calls 1000 _ _ L _ _ d 0 0 _ _ [i % 256] i (L ++ d.map (Pure.fl i)) _ (Kd.N_reads' HV.out).2.2 (Kd.N_reads' HV.out).2.1 (Kd.C_below HR2.out HB.out) HC2.out (Kd.R_reads' HO.out).2.2 (Kd.R_reads' HO.out).2.1 HS.out).mono ?_; rintro e w40 ⟨v40, rfl, ho, hb⟩; have n0_ := Aside0.mk (Kd.N_lower (Kd.N_mono (ok' := fun k_ => k_ ≠ g) (Kd.S_N (Kd.S_bound ho)) (fun k_ hk_ => by have h1 := HG.out.lt; have h2 := hk_.2.1; omega)) (below_size HB.out)); have n1_ := Aside0.mk (Arr.below HG.out hb); have n2_ := Aside0.mk (below_step HB.out hb); clear HV HG HB ho HO hb; have HV := n0_; have HG := n1_; have HB := n2_; clear n0_ n1_ n2_))
          clear HS c1b c1 hrow
          go_wp2
          go_loopg [7] 7 (fun kq v7 W => ∃ (F : Nat → Int) (q : Int), v7 = .int .i64 q ∧ Aside0 (0 ≤ q ∧ q ≤ d.length ∧ q + kq = 7) ∧ Aside0 (Pure.Counts F (L ++ (d.take q.toNat).map (Pure.fl i))) ∧ Aside0 (Arr W g F) ∧ Aside0 (Kd.N k37 37 W w.heap.size (fun k_ => k_ ≠ g) v40 (L ++ d.map (Pure.fl i))) ∧ Aside0 (Below w.heap.size w W))
          case atStart => exact ⟨F, 0, rfl, ⟨by have := HD.out; omega⟩, ⟨by simpa using HF.out⟩, HG, HV, HB⟩
          case round =>
            clear HF HG HV HB F
            obtain ⟨F, q, rfl, HQ, HF, HG, HV, HB⟩ := hrel
            by_cases c1 : q < (d.length : Int)
            · have c1b : decide (q < (d.length : Int)) = true := decide_eq_true c1
              have p2 : 0 ≤ q := HQ.out.1
              have q2 := c1
              obtain ⟨ad2, e2, hx2⟩ := Kd.at_int HR2.out q p2 q2
              cases e2
              replace hx2 := (HB.out.cell (World.block_lt_of_cell? w _ hx2)).trans hx2
              replace p2 := eq_true p2
              replace q2 := eq_true q2
              generalize hrd : rd d q = z at hx2
              obtain ⟨j1, hj1⟩ : ∃ j1 : Int, (if z < 1 then 1 else z) = j1 := ⟨_, rfl⟩
              obtain ⟨j2, hj2⟩ : ∃ j2 : Int, (if 100 < j1 then 100 else j1) = j2 := ⟨_, rfl⟩
              have hfl : Pure.fl i z = ⟨i + j2, [i]⟩ := by subst hj2; subst hj1; rfl
              have hb1 : 1 ≤ j2 ∧ j2 ≤ 100 := by subst hj2; subst hj1; split <;> split <;> omega
              have hin := HI.out
              have hn := HN.out
              have p3 : (0 ≤ i) = True := eq_true (by omega)
              have q3 : (i < 12) = True := eq_true (by have := of_eq_true q1; omega)
              obtain ⟨t, ht⟩ : ∃ t : Int, i + j2 = t := ⟨_, rfl⟩
              have hw : wrap64 t = t := by have := of_eq_true q3; unfold wrap64; omega
              have hw2 : IntKind.i64.wrap t = t := (i64_w _).trans hw
              have p4 : (0 ≤ t) = True := eq_true (by omega)
              have q4 : (t < 120) = True := eq_true (by omega)
              have hc := HG.out.cell (i.toNat * 120 + t.toNat) (by have := of_eq_true q3; have := of_eq_true q4; omega)
              have hf := HG.out.frozen (i.toNat * 120 + t.toNat)
              clear hin hn
              go_wp2
              go_region
              have hbd := Pure.cnt_le (L ++ (d.take q.toNat).map (Pure.fl i)) i t
              have hlen : ((L ++ (d.take q.toNat).map (Pure.fl i)).length : Int) ≤ 100 := by
                have h1 := HL.out.len
                have h2 := of_eq_true q3
                have h3 := HD.out
                have h4 := List.length_take_le' q.toNat d
                simp only [List.length_append, List.length_map]
                omega
              have hFv := HF.out i.toNat t.toNat (by have := of_eq_true q3; omega) (by have := of_eq_true q4; omega)
              have ei : ((i.toNat : Nat) : Int) = i := Int.toNat_of_nonneg (of_eq_true p3)
              have et : ((t.toNat : Nat) : Int) = t := Int.toNat_of_nonneg (of_eq_true p4)
              rw [ei, et] at hFv
              have hst : wrap64 (F (i.toNat * 120 + t.toNat) + 1) = F (i.toNat * 120 + t.toNat) + 1 := by rw [hFv]; unfold wrap64; omega
              have hG2 := (HG.out.set (i.toNat * 120 + t.toNat) (by have := of_eq_true q3; have := of_eq_true q4; omega) (F (i.toNat * 120 + t.toNat) + 1))
              rw [hst]
              have HG := Aside0.mk hG2.drew
              have HV := Aside0.mk (Kd.N_drew (Kd.N_far HV.out (p := ⟨g, i.toNat * 120 + t.toNat, none⟩) (fun k_ hk_ => hk_) (.int .i64 (F (i.toNat * 120 + t.toNat) + 1))))
              have HB := Aside0.mk (below_drew1 (below_set (j := i.toNat * 120 + t.toNat) (v := .int .i64 (F (i.toNat * 120 + t.toNat) + 1)) HB.out HE.out))
              have hF2 := HF.out.add i.toNat t.toNat (by have := of_eq_true q3; omega) (by have := of_eq_true q4; omega)
              rw [ei, et, List.append_assoc] at hF2
              have hq1 : (d.take q.toNat).map (Pure.fl i) ++ [(⟨t, [i]⟩ : S37)] = (d.take (q + 1).toNat).map (Pure.fl i) := by
                have h1 := of_eq_true p2
                have h2 := of_eq_true q2
                rw [show (q + 1).toNat = q.toNat + 1 by omega, List.take_succ_eq_append_getElem (by omega), List.map_append, List.map_singleton, ← Pure.rd_get d q h1 h2, hrd, hfl, ht]
              rw [hq1] at hF2
              have HF := Aside0.mk hF2
              clear hbd hlen hFv hst hG2 hF2 hq1
              obtain ⟨k1, rfl⟩ : ∃ k1, gk = k1 + 1 := ⟨gk - 1, by have := HQ.out; have := HD.out; have := of_eq_true q2; omega⟩
              go_wp2
              go_roundg k1
              case measure => omega
              case rel => exact ⟨_, wrap64 (q + 1), rfl, ⟨by have := HQ.out; have := HD.out; have := of_eq_true q2; unfold wrap64; omega⟩, ⟨by have h := HF.out; have := HQ.out; have := HD.out; have := of_eq_true q2; rw [show wrap64 (q + 1) = q + 1 by unfold wrap64; omega]; exact h⟩, HG, HV, HB⟩
            · have c1b : decide (q < (d.length : Int)) = false := decide_eq_false c1
              go_wp2
              go_roundg kk
              case measure => omega
              case rel =>
                have hl := HD.out
                exact ⟨_, F, wrap64 (i + 1), rfl, ⟨by have := HI.out; have := HN.out; have := of_eq_true q1; unfold wrap64; omega⟩, ⟨by rw [show wrap64 (i + 1) = i + 1 by have := HI.out; have := HN.out; unfold wrap64; omega]; exact HL.out.add HI.out.1 d HD.out⟩, ⟨by have h := HF.out; rw [List.take_of_length_le (by omega)] at h; exact h⟩, HG, HV, HB⟩
      · have c1b : decide (i < (xs.length : Int)) = false := decide_eq_false c1
        have HL2 := Aside0.mk (HL.out.left (by have := HI.out; have := HN.out; omega))
        clear HR HC HL HI HN
        go_wp2
        go_loopg [3, 8] 121 (fun kq v3 v8 W => ∃ (L : List S37) (F : Nat → Int) (now : Int), v8 = .int .i64 now ∧ Aside0 (0 ≤ now ∧ now ≤ 120 ∧ now + kq = 121) ∧ Aside0 (Pure.Left L now) ∧ Aside0 (Pure.Counts F L) ∧ Aside0 (Arr W g F) ∧ Aside0 (Kd.N k37 37 W w.heap.size (fun k_ => k_ ≠ g) v3 L) ∧ Aside0 (Below w.heap.size w W))
        case atStart => exact ⟨L, F, 0, rfl, ⟨by omega⟩, HL2, HF, HG, HV, HB⟩
        case round =>
          clear HF HG HV HB HL2 c1 c1b
          obtain ⟨L, F, now, rfl, HI, HL, HF, HG, HV, HB⟩ := hrel
          obtain ⟨kk, rfl⟩ : ∃ kk, gk = kk + 1 := ⟨gk - 1, by have := HI.out; omega⟩
          by_cases c1 : now < 120
          · have c1b : decide (now < 120) = true := decide_eq_true c1
            have HS := Aside0.mk (Pure.arrive_k L now HL.out 1000 (by omega))
            have HF2 := Aside0.mk (Pure.Struck.start HF.out HL.out)
            have HL2 := Aside0.mk HL.out.rest
            have HD := Aside0.mk HL.out.due
            clear HF
            generalize Pure.due L now = a at HS HF2 HD
            generalize Pure.rest L now = L2 at HS HF2 HL2
            obtain ⟨Ao, co, eo⟩ := Kd.N_slice HV.out
            subst eo
            go_wp2_with (go_at_call 17; refine (link_Arrive.calls 1000 _ _ L now a L2 _ (Kd.N_reads' HV.out).2.2 (Kd.N_reads' HV.out).2.1 HS.out).mono ?_; rintro e w9 ⟨v9, v3, rfl, ho0, ho1, hb⟩; have n0_ := Aside0.mk (Kd.N_lower (Kd.N_mono (ok' := fun k_ => k_ ≠ g) ho0 (fun k_ hk_ => by have h1 := HG.out.lt; have h2 := hk_.1; omega)) (below_size HB.out)); have n1_ := Aside0.mk (Kd.N_lower (Kd.N_mono (ok' := fun k_ => k_ ≠ g) ho1 (fun k_ hk_ => by have h1 := HG.out.lt; have h2 := hk_.1; omega)) (below_size HB.out)); have n2_ := Aside0.mk (Arr.below HG.out hb); have n3_ := Aside0.mk (below_step HB.out hb); clear HV HG HB ho0 ho1 hb; have HA := n0_; have HV := n1_; have HG := n2_; have HB := n3_; clear n0_ n1_ n2_ n3_)
            obtain ⟨Aa, ca, ea⟩ := Kd.N_slice HA.out
            subst ea
            go_loopg [10] 73 (fun kq v10 W => ∃ (F : Nat → Int) (p : Int), v10 = .int .i64 p ∧ Aside0 (0 ≤ p ∧ p ≤ a.length ∧ p + kq = 73) ∧ Aside0 (Pure.Struck F L2 (a.drop p.toNat) now) ∧ Aside0 (Arr W g F) ∧ Aside0 (Kd.N (Kd.slice 5 (Kd.int .u8)) 27 W w.heap.size (fun k_ => k_ ≠ g) (.slice Aa a.length ca) a) ∧ Aside0 (Kd.N k37 37 W w.heap.size (fun k_ => k_ ≠ g) v3 L2) ∧ Aside0 (Below w.heap.size w W))
            case atStart => exact ⟨F, 0, rfl, ⟨by omega⟩, ⟨by simpa using HF2.out⟩, HG, HA, HV, HB⟩
            case round =>
              clear HF2 HG HA HV HB HS
              obtain ⟨F, p, rfl, HP, HF, HG, HA, HV, HB⟩ := hrel
              obtain ⟨k2, rfl⟩ : ∃ k2, gk = k2 + 1 := ⟨gk - 1, by have := HP.out; have := HD.out.1; omega⟩
              by_cases c2 : p < (a.length : Int)
              · have c2b : decide (p < (a.length : Int)) = true := decide_eq_true c2
                have p2 : 0 ≤ p := HP.out.1
                have q2 := c2
                obtain ⟨ad, A1, cc1, e1, hx1, hc1, hC1⟩ := at_L2 (Kd.N_reads' HA.out).2.2 p p2 q2
                cases e1
                have hel : ∃ j : Int, 0 ≤ j ∧ j < 12 ∧ rd_L2 a p = [j] := by
                  have hh : rd_L2 a p = a[p.toNat]'(by omega) := by
                    unfold rd_L2
                    rw [List.getD_eq_getElem?_getD, List.getElem?_eq_getElem (by omega)]
                    rfl
                  rw [hh]
                  exact HD.out.2 _ (List.getElem_mem _)
                obtain ⟨j, p3, q3, ej⟩ := hel
                have hdrop : a.drop p.toNat = [j] :: a.drop (p + 1).toNat := by
                  rw [List.drop_eq_getElem_cons (show p.toNat < a.length by omega), show (p + 1).toNat = p.toNat + 1 by omega]
                  have hh : rd_L2 a p = a[p.toNat]'(by omega) := by
                    unfold rd_L2
                    rw [List.getD_eq_getElem?_getD, List.getElem?_eq_getElem (by omega)]
                    rfl
                  rw [← hh, ej]
                rw [ej] at hx1 hc1 hC1
                obtain ⟨ad3, e3, hx3⟩ := Kd.at_int hC1 0 (by omega) (by simp)
                cases e3
                have hr0 : rd [j] 0 = j := rfl
                rw [hr0, show ad3.add (Int.toNat 0) = ad3 from rfl] at hx3
                simp only [List.length_singleton] at hx1 hc1
                have HX := Aside0.mk hdrop
                have HC1 := Aside0.mk hc1
                clear hdrop hC1 ej hc1 hr0
                replace p2 := eq_true p2
                replace q2 := eq_true q2
                have c4 : decide ((11 : Int) < j) = false := decide_eq_false (by omega)
                have p4 : (0 ≤ now) = True := eq_true (by have := HI.out; omega)
                have q4 : (now < 120) = True := eq_true c1
                replace p3 := eq_true p3
                replace q3 := eq_true q3
                have hc := HG.out.cell (j.toNat * 120 + now.toNat) (by have := of_eq_true q3; have := of_eq_true q4; omega)
                have hf := HG.out.frozen (j.toNat * 120 + now.toNat)
                go_wp2
                go_region
                have hFb := HF.out.bound j.toNat now.toNat (by have := of_eq_true q3; omega) (by have := of_eq_true q4; omega)
                have hlen : (L2.length : Int) + ((a.drop p.toNat).length : Int) ≤ 1000 := by
                  have h1 := HL2.out.len
                  have h2 := HD.out.1
                  have h3 : (a.drop p.toNat).length ≤ a.length := by rw [List.length_drop]; omega
                  omega
                have hst : wrap64 (F (j.toNat * 120 + now.toNat) - 1) = F (j.toNat * 120 + now.toNat) - 1 := by unfold wrap64; omega
                rw [hst]
                have HG := Aside0.mk (HG.out.set (j.toNat * 120 + now.toNat) (by have := of_eq_true q3; have := of_eq_true q4; omega) (F (j.toNat * 120 + now.toNat) - 1)).drew
                have HV := Aside0.mk (Kd.N_drew (Kd.N_far HV.out (p := ⟨g, j.toNat * 120 + now.toNat, none⟩) (fun k_ hk_ => hk_) (.int .i64 (F (j.toNat * 120 + now.toNat) - 1))))
                have HA := Aside0.mk (Kd.N_drew (Kd.N_far HA.out (p := ⟨g, j.toNat * 120 + now.toNat, none⟩) (fun k_ hk_ => hk_) (.int .i64 (F (j.toNat * 120 + now.toNat) - 1))))
                have HB := Aside0.mk (below_drew1 (below_set (j := j.toNat * 120 + now.toNat) (v := .int .i64 (F (j.toNat * 120 + now.toNat) - 1)) HB.out HE.out))
                have hF2 := HF.out
                rw [HX.out, ← Int.toNat_of_nonneg (of_eq_true p3), ← Int.toNat_of_nonneg (of_eq_true p4)] at hF2
                have HF := Aside0.mk (hF2.strike j.toNat (by have := of_eq_true q3; omega) (by have := of_eq_true q4; omega))
                clear hF2 hFb hlen hst
                go_wp2
                go_roundg k2
                case measure => omega
                case rel => exact ⟨_, wrap64 (p + 1), rfl, ⟨by have := HP.out; have := HD.out.1; have := of_eq_true q2; unfold wrap64; omega⟩, ⟨by have h := HF.out; have := HP.out; have := HD.out.1; rw [Int.toNat_of_nonneg (of_eq_true p4)] at h; rw [show wrap64 (p + 1) = p + 1 by unfold wrap64; omega]; exact h⟩, HG, HA, HV, HB⟩
              · have c2b : decide (p < (a.length : Int)) = false := decide_eq_false c2
                go_wp2
                go_roundg kk
                case measure => omega
                case rel => exact ⟨L2, F, wrap64 (now + 1), rfl, ⟨by have := HI.out; unfold wrap64; omega⟩, ⟨by rw [show wrap64 (now + 1) = now + 1 by have := HI.out; unfold wrap64; omega]; exact HL2.out⟩, ⟨by have h := HF.out; rw [List.drop_of_length_le (by omega)] at h; exact h.done⟩, HG, HV, HB⟩
          · have c1b : decide (now < 120) = false := decide_eq_false c1
            have e : L = [] := HL.out.none_at (by omega)
            subst e
            clear HL HI
            go_wp2
            go_loopg [11] 13 (fun kq v11 W => ∃ (i : Int), v11 = .int .i64 i ∧ Aside0 (0 ≤ i ∧ i ≤ 12 ∧ i + kq = 13) ∧ Aside0 (Arr W g F) ∧ Aside0 (Kd.N k37 37 W w.heap.size (fun k_ => k_ ≠ g) u3 []) ∧ Aside0 (Below w.heap.size w W))
            case atStart => exact ⟨0, rfl, ⟨by omega⟩, HG, HV, HB⟩
            case round =>
              clear HG HV HB
              obtain ⟨i, rfl, HI, HG, HV, HB⟩ := hrel
              obtain ⟨k2, rfl⟩ : ∃ k2, gk = k2 + 1 := ⟨gk - 1, by have := HI.out; omega⟩
              by_cases c2 : i < 12
              · have c2b : decide (i < 12) = true := decide_eq_true c2
                go_wp2
                go_loopg [12] 121 (fun kq v12 W => ∃ (t : Int), v12 = .int .i64 t ∧ Aside0 (0 ≤ t ∧ t ≤ 120 ∧ t + kq = 121) ∧ Aside0 (Arr W g F) ∧ Aside0 (Kd.N k37 37 W w.heap.size (fun k_ => k_ ≠ g) u3 []) ∧ Aside0 (Below w.heap.size w W))
                case atStart => exact ⟨0, rfl, ⟨by omega⟩, HG, HV, HB⟩
                case round =>
                  clear HG HV HB
                  obtain ⟨t, rfl, HT, HG, HV, HB⟩ := hrel
                  obtain ⟨k3, rfl⟩ : ∃ k3, gk = k3 + 1 := ⟨gk - 1, by have := HT.out; omega⟩
                  by_cases c3 : t < 120
                  · have c3b : decide (t < 120) = true := decide_eq_true c3
                    have p3 : (0 ≤ i) = True := eq_true (by have := HI.out; omega)
                    have q3 : (i < 12) = True := eq_true c2
                    have p4 : (0 ≤ t) = True := eq_true (by have := HT.out; omega)
                    have q4 : (t < 120) = True := eq_true c3
                    have hc := HG.out.cell (i.toNat * 120 + t.toNat) (by have := of_eq_true q3; have := of_eq_true q4; omega)
                    rw [HF.out i.toNat t.toNat (by have := of_eq_true q3; omega) (by have := of_eq_true q4; omega), show Pure.cnt [] (i.toNat : Int) (t.toNat : Int) = 0 from rfl] at hc
                    go_wp2
                    go_roundg k3
                    case measure => omega
                    case rel => exact ⟨wrap64 (t + 1), rfl, ⟨by have := HT.out; unfold wrap64; omega⟩, HG, HV, HB⟩
                  · have c3b : decide (t < 120) = false := decide_eq_false c3
                    go_wp2
                    go_roundg k2
                    case measure => omega
                    case rel => exact ⟨wrap64 (i + 1), rfl, ⟨by have := HI.out; unfold wrap64; omega⟩, HG, HV, HB⟩
              · have c2b : decide (i < 12) = false := decide_eq_false c2
                obtain ⟨Ao, co, eo⟩ := Kd.N_slice HV.out
                subst eo
                have HW := Aside0.mk (Pure.awake_f 1000 (by omega))
                go_wp2_with (go_at_call 9; refine (debuggerlaw34_awake.calls 1000 true _ HW.out).mono ?_; rintro e w9 ⟨rfl, hb⟩; have n0_ := Aside0.mk (below_step HB.out hb); clear HB hb HG HV; have HB := n0_; clear n0_)
                go_ret
                exact ⟨rfl, HB.out⟩
/-- The same, as the row's program asks for it. -/
theorem debuggerlaw34_LinkKeeps.calls (k : Nat) (A0 : Option Addr) (c0 : Nat) (l0 : List (List Int)) (r : Bool) (w : World) (hr0 : Kd.C (Kd.slice 3 (Kd.int .i64)) w A0 l0.length l0) (hc0 : l0.length ≤ c0) (h : k = k ∧ r = true) :
    Calls Try.prog 5 #[.slice A0 l0.length c0] w fun e w' => e = .returned (.bool r) ∧ Below w.heap.size w w' := by
  rw [h.2]; exact keeps A0 c0 l0 w hr0 hc0
end Go.Proofs.Ytipkcbpilkoflaa.QKeeps
