/- Each operation of the evaluator's is the model's: maps, conversions, append. -/
import Derived.Test.YtopganainjgmmaaEvH
namespace Go.Proofs.Ytopganainjgmmaa.Ev
open Go Go.RowKit
set_option linter.unusedVariables false
set_option linter.unusedSimpArgs false

section
variable {P : Program}
/-! ### append -/
theorem run_room (w : World) (t ty e t' : TypeId) (i : TypeInfo) (ht : P.underlying t = some (.slice e)) (hi : P.info? e = some i)
    (g sLen sCap : Nat) (cur : Array Value) (hg : w.heap[g]? = some (.cells cur t' (0, 0)))
    (a : Addr) (m c : Nat) (news : List Value) (hl : news.length = m * i.size) (hnews : ∀ j u, news[j]? = some u → w.cell? (a.add j) = some u) (h1 : ∀ u ∈ news, u.oneCell' = true)
    (hroom : sLen + m ≤ sCap) (hfit : sLen * i.size + news.length ≤ cur.size) :
    (Builtin.append_ #[t, t] ty #[.slice (some ⟨g, 0, none⟩) sLen sCap, .slice (some a) m c]).run P w =
      .ok (.slice (some ⟨g, 0, none⟩) (sLen + m) sCap) (w.setRow g (cur.toList.take (sLen * i.size) ++ news ++ cur.toList.drop (sLen * i.size + news.length)).toArray) := by
  have hf := run_firstCells_some (P := P) w i.size m a m c news hl hnews
  have hst := run_storeCells_at P g (sLen * i.size) t' news 0 cur w hg (by simpa using hfit) h1
  simp only [Nat.add_zero] at hst
  simp [Builtin.append_, run_underlying ht, sizeOf, typeInfo, hi, Builtin.lenOf, hroom, hf, Addr.add_lit, hst]
theorem run_none (w : World) (t ty e : TypeId) (i : TypeInfo) (ht : P.underlying t = some (.slice e)) (hi : P.info? e = some i) (v z : Value) (hz : ∃ q cap, z = .slice q 0 cap) (hv : v = .slice none 0 0 ∨ ∃ ad n cap, v = .slice (some ad) n cap ∧ n ≤ cap) :
    (Builtin.append_ #[t, t] ty #[v, z]).run P w = .ok v w := by
  obtain ⟨q, cap, rfl⟩ := hz
  have hl : loadCells = fun (a : Addr) (n : Nat) => loadCells a n := rfl
  rcases hv with rfl | ⟨ad, n, cap', rfl, hn⟩
  · cases q with
    | none => simp [Builtin.append_, run_underlying ht, sizeOf, typeInfo, hi, Builtin.lenOf, Builtin.firstCells]
    | some q => simp [Builtin.append_, run_underlying ht, sizeOf, typeInfo, hi, Builtin.lenOf, Builtin.firstCells, loadCells, loadCellsFrom]
  · cases q with
    | none => simp [Builtin.append_, run_underlying ht, sizeOf, typeInfo, hi, Builtin.lenOf, Builtin.firstCells, hn, storeCells]
    | some q => simp [Builtin.append_, run_underlying ht, sizeOf, typeInfo, hi, Builtin.lenOf, Builtin.firstCells, loadCells, loadCellsFrom, hn, storeCells]
theorem app_S (c : Call) (t : TypeId) (x y : Operand) (t2 : TypeId) (h1 : c.callee = .builtin .append) (h2 : c.args = #[x, y]) (h3 : c.argTypes = #[t, t2]) : OpS P (.call c) (oApp P t t2 (gt x) (gt y)) := by
  intro s σ nt e a w0 w h v h' oo ho hf hm hr
  unfold oApp at hr
  split at hr
  · next i hi =>
    have hu := (ti_ok P hi).und
    split at hr
    · next el hd =>
      rw [hd] at hu
      split at hr
      · next j hj =>
        obtain ⟨info, i1, i2, i3, i4⟩ := (ti_ok P hj).info
        split at hr
        · next zs hzs =>
          obtain ⟨zv, hz, hzr⟩ := i4 zs hzs
          split at hr
          · next hb =>
            rw [Bool.and_eq_true, Bool.and_eq_true, Bool.and_eq_true] at hb
            obtain ⟨hby, htt, hzl, hpos⟩ := hb
            replace hzl := Nat.eq_of_beq_eq_true hzl
            rw [len_eq] at hzl
            replace hpos := blt_iff.mp hpos
            replace hby := Nat.le_of_ble_eq_true hby
            replace htt := Nat.eq_of_beq_eq_true htt
            subst htt
            have key : ∀ x' w', (Builtin.append_ #[t, t] oo.type #[a.eval x, a.eval y]).run P w = .ok x' w' → (execOp a.eval oo).run P w = .ok (.value x') w' := by
              intro x' w' hl
              unfold execOp
              rw [ho]
              obtain ⟨callee, args, argTypes⟩ := c
              dsimp only at h1 h2 h3
              subst h1 h2 h3
              simp [resolve, invoke, builtin, hl]
            have hr_ := oneK_ok hr; clear hr; obtain ⟨cs, hcs, hr⟩ := hr_
            have hr_ := oneK_ok hr; clear hr; obtain ⟨cz, hcz, hr⟩ := hr_
            have hx := gt_one hf hcs
            have hy := gt_one hf hcz
            have hzsz : zv.cells.size = info.size := by have := (hzr s σ).1.len; simp only [Array.length_toList] at this; omega
            -- nothing is appended
            have quiet : (∃ q cap, a.eval y = .slice q 0 cap) → appNo cs h = .ok v h' → Done P s σ w0 oo a w v h' := by
              intro hq hr
              unfold appNo at hr
              cases cs with
              | nils => cases hr; exact Done.quiet hm rfl hx (key _ _ (run_none w t oo.type el info hu i1 _ _ hq (.inl hx)))
              | emp =>
                cases hr
                obtain ⟨ad, cap, hx'⟩ := hx
                exact Done.quiet hm rfl ⟨ad, cap, hx'⟩ (key _ _ (run_none w t oo.type el info hu i1 _ _ hq (.inr ⟨_, _, _, hx', Nat.zero_le _⟩)))
              | slice b o n sz =>
                cases hr
                obtain ⟨q, cap, hq', hx', hn, hrest⟩ := hx
                exact Done.quiet hm rfl ⟨q, cap, hq', hx', hn, hrest⟩ (key _ _ (run_none w t oo.type el info hu i1 _ _ hq (.inr ⟨_, _, _, hx', hn⟩)))
              | _ => cases hr
            cases cz with
            | nils => exact quiet ⟨none, 0, hy⟩ hr
            | emp => obtain ⟨ad, cap, hy⟩ := hy; exact quiet ⟨some ad, cap, hy⟩ hr
            | slice b2 o2 m sz2 =>
              obtain ⟨q2, cap2, hq2, hy, _⟩ := hy
              cases m with
              | zero => exact quiet ⟨_, _, hy⟩ hr
              | succ k =>
                replace hr : ite' (Nat.beq j.size sz2) (blkK (RV.bad 236) (fun l2 => row l2 o2 (Nat.mul (k + 1) j.size) (fun r => appRow cs r (k + 1) j.size h) (RV.bad 237)) (h.blk b2)) (RV.bad 238) = RV.ok v h' := hr
                obtain ⟨hs2, hr1⟩ := ite_ok hr
                obtain ⟨l2, hl2, hr2⟩ := blkK_ok hr1
                obtain ⟨hk, hr3⟩ := takeK_ok _ hr2
                obtain ⟨vs, v1, v2, v3⟩ := hm.row hl2 hq2 hk
                generalize hrow : (skip o2 l2).take ((k + 1).mul j.size) = r at hr3 v2
                clear hr hr1 hr2 quiet
                have hnews : ∀ (jj : Nat) (u : Value), vs[jj]? = some u → w.cell? ((⟨q2.1, o2, none⟩ : Addr).add jj) = some u := fun jj u hu => by rw [Addr.add_mid]; exact v1 jj u hu
                have hvl : vs.length = (k + 1) * info.size := by rw [v3, i2]; rfl
                have hrl : r.length = (k + 1) * j.size := by rw [v2.len, hvl, i2]
                unfold appRow at hr3
                rcases rowK_ok hr3 with ⟨rfl, hr4⟩ | ⟨b, o, n, sz1, rfl, hr4⟩
                · obtain ⟨hsm, hr5⟩ := ite_ok hr4
                  obtain ⟨hn, hr6⟩ := new_eq h _ _ hr5
                  cases hr6
                  replace hsm := Nat.le_of_ble_eq_true hsm
                  have hx : a.eval x = .slice none 0 0 := hx
                  have hrun := run_append_nil (P := P) w t oo.type el info zv hu i1 hz ⟨q2.1, o2, none⟩ (k + 1) cap2 vs hvl hnews (by omega) (by omega) (by
                    have : (k + 1) * info.bytes ≤ 1000000 * 1000000 := Nat.mul_le_mul hsm (by omega)
                    omega)
                  rw [← hx, ← hy] at hrun
                  have hge := grownCap_ge w (k + 1) 0 el
                  generalize grownCap w (k + 1) 0 el = cap at hrun hge
                  have hS : (vs.toArray ++ Builtin.zeroCells zv.cells (cap - (k + 1))).size = cap * j.size := by
                    rw [Array.size_append, size_zeroCells, hzsz, List.size_toArray, hvl, i2, ← Nat.add_mul]
                    congr 1; omega
                  refine ⟨σ.lay h.next (w.drew.heap.size, _, r.length), _, _, hm.ext _, ⟨_, cap, lay_at _ _ _, rfl, hge, ?_, ?_⟩, hm.drew.alloc hn _ _ _ _ ⟨w.drew.heap.size, _, el, lay_at _ _ _, hm.drew.below.size, alloc_new w.drew _, ?_⟩, .inl (key _ _ hrun)⟩
                  · show 0 + cap * j.size ≤ (vs.toArray ++ Builtin.zeroCells zv.cells (cap - (k + 1))).size
                    rw [hS]; omega
                  · show r.length ≤ 0 + cap * j.size
                    rw [hrl]
                    have := Nat.mul_le_mul_right j.size hge
                    omega
                  · rw [Array.toList_append]
                    exact (v2.ext (hm.ext _)).prefix _
                · obtain ⟨hsm, hr5⟩ := ite_ok hr4
                  obtain ⟨ho0, hr6⟩ := ite_ok hr5
                  obtain ⟨hs1, hr7⟩ := ite_ok hr6
                  obtain ⟨l, hl, hr8⟩ := wblkK_ok hr7
                  clear hr3 hr4 hr5 hr6 hr7
                  replace hsm : n + (k + 1) ≤ 1000000 := Nat.le_of_ble_eq_true hsm
                  replace ho0 := Nat.eq_of_beq_eq_true ho0
                  replace hs1 := Nat.eq_of_beq_eq_true hs1
                  subst ho0 hs1
                  obtain ⟨q, cap, hq, hx, hncap, hcS, hLc⟩ := hx
                  obtain ⟨arr, t', g1, g2, g3, g4, g5⟩ := hm.own hl hq
                  have hb4 : b < 65536 := Nat.lt_of_lt_of_le (hm.dom b _ hq) hm.next
                  have h48 : (n + (k + 1)) * info.bytes ≤ 140737488355328 := by
                    have : (n + (k + 1)) * info.bytes ≤ 1000000 * 1000000 := Nat.mul_le_mul hsm (by omega)
                    omega
                  have room : n + (k + 1) ≤ cap → (execOp a.eval oo).run P w = .ok (.value (.slice (some ⟨q.1, 0, none⟩) (n + (k + 1)) cap)) (w.setRow q.1 (arr.toList.take (n * info.size) ++ vs ++ arr.toList.drop (n * info.size + vs.length)).toArray) := by
                    intro hroom
                    have hfit : n * info.size + vs.length ≤ arr.size := by
                      rw [hvl, ← Nat.add_mul, g2, i2]
                      have := Nat.mul_le_mul_right j.size hroom
                      omega
                    have hrun := run_room (P := P) w t oo.type el t' info hu i1 q.1 n cap arr g1 ⟨q2.1, o2, none⟩ (k + 1) cap2 vs hvl hnews v2.oneCells hroom hfit
                    rw [← hx, ← hy] at hrun
                    exact key _ _ hrun
                  unfold appAt at hr8
                  rw [ite'_eq] at hr8
                  split at hr8
                  · next hfull =>
                    replace hfull : l.length = n * j.size := by rw [← len_eq]; exact Nat.eq_of_beq_eq_true hfull
                    rw [app_eq] at hr8
                    obtain ⟨hn, hr9⟩ := new_eq _ _ _ hr8
                    rw [fN_eq] at hr9
                    cases hr9
                    have hmk := hm.kill b
                    have hdead : ∀ k z, σ k = some z → (h.put b .no).blk k ≠ .no → z.1 ≠ q.1 := by
                      intro k z hz hne he
                      rw [put_blk h b _ hb4] at hne
                      split at hne
                      · exact hne rfl
                      · next hkb => exact hkb (hm.inj k b z q hne (by rw [hl]; intro h; cases h) hz hq he)
                    have htl : RL s σ l (arr.toList.take (n * info.size)) := by
                      have := g4.full
                      rw [hfull] at this
                      rw [i2]; exact this
                    have hlen2 : (l ++ r).length = (n + (k + 1)) * j.size := by rw [List.length_append, hfull, hrl, ← Nat.add_mul]
                    by_cases hroom : n + (k + 1) ≤ cap
                    · have hsz : ((arr.toList.take (n * info.size) ++ vs ++ arr.toList.drop (n * info.size + vs.length)).toArray).size = arr.size := by
                        have h1 : n * info.size + vs.length ≤ arr.size := by
                          rw [hvl, ← Nat.add_mul, g2, i2]
                          have := Nat.mul_le_mul_right j.size hroom
                          omega
                        simp only [List.size_toArray, List.length_append, List.length_take, List.length_drop, Array.length_toList]
                        omega
                      refine ⟨σ.lay h.next (q.1, arr.size, (l ++ r).length), _, _, hm.ext _, ⟨_, cap, lay_at _ _ _, rfl, hroom, ?_, ?_⟩, hmk.adopt (w' := w.setRow q.1 _) hn _ _ (below_setRow hm.below g5 _) (fun k z hz hne hlt => setRow_other w q.1 z.1 _ (hdead k z hz hne)) (fun k z hz hne => hdead k z hz hne) ⟨q.1, _, t', by rw [hsz]; exact lay_at _ _ _, g5, setRow_heap w q.1 arr _ t' (0, 0) g1, ?_⟩, .inl (room hroom)⟩
                      · show 0 + cap * j.size ≤ arr.size
                        rw [g2]; exact hcS
                      · show (l ++ r).length ≤ 0 + cap * j.size
                        rw [hlen2]
                        have := Nat.mul_le_mul_right j.size hroom
                        omega
                      · exact ((htl.app v2).ext (hm.ext _)).prefix _
                    · have holds : ∀ (jj : Nat) (u : Value), (arr.toList.take (n * info.size))[jj]? = some u → w.cell? ((⟨q.1, 0, none⟩ : Addr).add jj) = some u := by
                        intro jj u hu
                        rw [Addr.add_mid, Nat.zero_add, cell_of_row w q.1 jj arr t' (0, 0) g1]
                        rw [List.getElem?_take] at hu
                        split at hu
                        · simpa using hu
                        · cases hu
                      have hol : (arr.toList.take (n * info.size)).length = n * info.size := by
                        rw [← htl.len, hfull, i2]
                      have hrun := run_append_grow (P := P) w t oo.type el info zv hu i1 hz ⟨q.1, 0, none⟩ n cap _ hol holds ⟨q2.1, o2, none⟩ (k + 1) cap2 vs hvl hnews (by omega) (by omega) (growslice_fits (by omega) h48)
                      rw [← hx, ← hy] at hrun
                      have hge := grownCap_ge w (n + (k + 1)) cap el
                      generalize grownCap w (n + (k + 1)) cap el = nc at hrun hge
                      have hS : ((arr.toList.take (n * info.size)).toArray ++ vs.toArray ++ Builtin.zeroCells zv.cells (nc - (n + (k + 1)))).size = nc * j.size := by
                        rw [Array.size_append, Array.size_append, size_zeroCells, hzsz, List.size_toArray, List.size_toArray, hol, hvl, i2, ← Nat.add_mul, ← Nat.add_mul]
                        congr 1; omega
                      refine ⟨σ.lay h.next (w.drew.heap.size, _, (l ++ r).length), _, _, hm.ext _, ⟨_, nc, lay_at _ _ _, rfl, hge, ?_, ?_⟩, hmk.drew.alloc hn _ _ _ _ ⟨w.drew.heap.size, _, el, lay_at _ _ _, hm.drew.below.size, alloc_new w.drew _, ?_⟩, .inl (key _ _ hrun)⟩
                      · show 0 + nc * j.size ≤ ((arr.toList.take (n * info.size)).toArray ++ vs.toArray ++ Builtin.zeroCells zv.cells (nc - (n + (k + 1)))).size
                        rw [hS]; omega
                      · show (l ++ r).length ≤ 0 + nc * j.size
                        rw [hlen2]
                        have := Nat.mul_le_mul_right j.size hge
                        omega
                      · rw [Array.toList_append, Array.toList_append]
                        exact ((htl.app v2).ext (hm.ext _)).prefix _
                  · next hfull =>
                    obtain ⟨hin, hr9⟩ := ite_ok hr8
                    obtain ⟨hfit, hr10⟩ := put_ok _ hr9
                    rw [fN_eq] at hr10
                    cases hr10
                    replace hin : (n + (k + 1)) * j.size ≤ l.length := by rw [← len_eq]; exact Nat.le_of_ble_eq_true hin
                    have hroom : n + (k + 1) ≤ cap := by
                      have : (n + (k + 1)) * j.size ≤ cap * j.size := by omega
                      exact Nat.le_of_mul_le_mul_right this hpos
                    have h1 : n * info.size + vs.length ≤ arr.size := by
                      rw [hvl, ← Nat.add_mul, g2, i2]
                      have := Nat.mul_le_mul_right j.size hroom
                      omega
                    refine ⟨σ, _, _, Ext.refl σ, ⟨q, cap, hq, rfl, hroom, hcS, hLc⟩, hm.write (arr' := (arr.toList.take (n * info.size) ++ vs ++ arr.toList.drop (n * info.size + vs.length)).toArray) hl (by rw [g2, g3]; exact hq) g1 g5 ?_ ?_ ?_, .inl (room hroom)⟩
                    · simp only [List.size_toArray, List.length_append, List.length_take, List.length_drop, Array.length_toList]
                      omega
                    · simp only [List.length_append, List.length_take, List.length_drop]
                      omega
                    · have := g4.splice (n.mul j.size) v2 hfit
                      rw [i2]
                      exact this
            | _ => cases hr
          · cases hr
        · cases hr
      · cases hr
    · cases hr
  · cases hr
end
end Go.Proofs.Ytopganainjgmmaa.Ev
