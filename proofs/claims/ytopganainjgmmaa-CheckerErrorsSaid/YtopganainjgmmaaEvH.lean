/- Each operation of the evaluator's is the model's: literals and maps. -/
import Derived.Test.YtopganainjgmmaaEvG
import Derived.Great.FillDense
import Derived.Great.BuildSlice
namespace Go.Proofs.Ytopganainjgmmaa.Ev
open Go Go.RowKit
set_option linter.unusedVariables false
set_option linter.unusedSimpArgs false

section
variable {s : Nat → Int} {σ : Sg}
theorem RL.ofRP {l : List Cell} {m : List Value} (h : RP s σ l m) (hl : l.length = m.length) : RL s σ l m := by
  have := h.full
  rw [hl, List.take_length] at this
  exact this
theorem RL.toRP {l : List Cell} {m : List Value} (h : RL s σ l m) : RP s σ l m := by simpa using h.prefix []
theorem RL.splice {l : List Cell} {m : List Value} {vs : List Cell} {us : List Value} (o : Nat) (h1 : RL s σ l m) (h2 : RL s σ vs us) (h3 : o + vs.length ≤ l.length) :
    RL s σ (l.take o ++ vs ++ l.drop (o + vs.length)) (m.take o ++ us ++ m.drop (o + us.length)) :=
  RL.ofRP (h1.toRP.splice o h2 h3) (by
    have := h1.len
    have := h2.len
    simp only [List.length_append, List.length_take, List.length_drop]
    omega)
theorem set_list (off : Nat) (us cs : Array Value) (h : off + us.size ≤ cs.size) : (us.zipIdx.foldl (fun cs (x : Value × Nat) => cs.setIfInBounds (off + x.2) x.1) cs).toList = cs.toList.take off ++ us.toList ++ cs.toList.drop (off + us.toList.length) := by
  rw [← Array.foldl_toList, Array.toList_zipIdx]
  obtain ⟨h1, h2⟩ := Great.foldl_set off us.toList 0 cs
  apply List.ext_getElem?
  intro k
  rw [Array.getElem?_toList, h2 k]
  simp only [Array.length_toList, Nat.add_zero]
  by_cases c1 : k < off
  · rw [if_neg (by omega), List.append_assoc, List.getElem?_append_left (by simp; omega), List.getElem?_take, if_pos c1, Array.getElem?_toList]
  · by_cases c2 : k < off + us.size
    · rw [if_pos ⟨by omega, c2, by omega⟩, List.append_assoc, List.getElem?_append_right (by simp; omega), List.getElem?_append_left (by simp; omega)]
      congr 1
      simp
      omega
    · rw [if_neg (by omega), List.append_assoc, List.getElem?_append_right (by simp; omega), List.getElem?_append_right (by simp; omega), List.getElem?_drop]
      rw [Array.getElem?_toList]
      congr 1
      simp
      omega
theorem fill_ok {n : Nat} {nt : Nat} {e : E} {a : Act} (hf : Fr s σ nt e a) {pl : Nat → Option (Nat × Nat)} {r : V} {h' : H} : ∀ {parts : List (Nat × Operand)} {ps : List Part} {zs : List Cell} {zv : Array Value} (K : List Cell → RV), partsOf pl parts = some ps → RL s σ zs zv.toList → fill e (.bad n) ps zs K = .ok r h' →
    ∃ cs us, Instr.fill pl zv (parts.map fun p => (p.1, a.eval p.2)) = some us ∧ RL s σ cs us.toList ∧ cs.length = zs.length ∧ K cs = .ok r h'
  | [], ps, zs, zv, K, hp, hz, hr => by
    cases hp
    exact ⟨zs, zv, rfl, hz, rfl, hr⟩
  | (i, x) :: parts, ps, zs, zv, K, hp, hz, hr => by
    unfold partsOf at hp
    split at hp
    · next o sz hpl =>
      split at hp
      · next rest hrest =>
        cases hp
        replace hr : cellsK (RV.bad n) (fun vs => ite' (Nat.beq (len vs) sz) (put (RV.bad n) vs o zs fun cs' => fill e (RV.bad n) rest cs' K) (RV.bad n)) ((gt x).f e) = RV.ok r h' := hr
        have : ∃ vs, cellsOf ((gt x).f e) = some vs ∧ ite' (Nat.beq (len vs) sz) (put (RV.bad n) vs o zs fun cs' => fill e (RV.bad n) rest cs' K) (RV.bad n) = RV.ok r h' := by
          rcases cellsK_ok hr with ⟨c, hc, hr⟩ | ⟨l, hl, hr⟩
          · exact ⟨[c], by rw [hc]; rfl, hr⟩
          · exact ⟨l, by rw [hl]; rfl, hr⟩
        obtain ⟨vs, hvs, hr1⟩ := this
        obtain ⟨hlen, hr2⟩ := ite_ok hr1
        obtain ⟨hfit, hr3⟩ := put_ok _ hr2
        replace hlen := Nat.eq_of_beq_eq_true hlen
        rw [len_eq] at hlen
        have hrl := gt_cells hf hvs
        have hlv := hrl.len
        have hlz := hz.len
        simp only [Array.length_toList] at hlv hlz
        have hsp := hz.splice o hrl hfit
        rw [← set_list o _ zv (by omega)] at hsp
        obtain ⟨cs, us, g1, g2, g3, g4⟩ := fill_ok hf K hrest hsp hr3
        refine ⟨cs, us, ?_, g2, ?_, g4⟩
        · simp only [List.map_cons]
          unfold Instr.fill
          rw [hpl]
          dsimp only
          rw [if_neg]
          · exact g1
          · simp only [ne_eq, Bool.or_eq_true, decide_eq_true_eq, not_or, Classical.not_not]
            omega
        · rw [g3]; simp; omega
      · cases hp
    · cases hp
theorem reps_len (z : List Cell) (n : Nat) : (reps z n).length = n * z.length := by
  induction n with
  | zero => show ([] : List Cell).length = _; simp
  | succ n ih =>
    show (app (reps z n) z fun r => r).length = _
    rw [app_eq, List.length_append, ih, Nat.add_mul]
    omega
theorem reps_get (z : List Cell) (n k : Nat) (h : k < n * z.length) : (reps z n)[k]? = z[k % z.length]? := by
  induction n generalizing k with
  | zero => simp at h
  | succ n ih =>
    show (app (reps z n) z fun r => r)[k]? = _
    rw [app_eq]
    by_cases c : k < z.length
    · rw [List.getElem?_append_left c, Nat.mod_eq_of_lt c]
    · rw [List.getElem?_append_right (by omega), ih _ (by rw [Nat.add_mul] at h; omega), ← Nat.mod_eq_sub_mod (by omega)]
theorem RL.get {l : List Cell} {m : List Value} (h : RL s σ l m) : ∀ (k : Nat) (c : Cell) (u : Value), l[k]? = some c → m[k]? = some u → RC s σ c u := by
  induction l generalizing m with
  | nil => intro k c u hc; cases k <;> cases hc
  | cons d l ih =>
    cases m with
    | nil => cases h
    | cons v m =>
      intro k c u hc hu
      cases k with
      | zero => cases hc; cases hu; exact h.1
      | succ k => exact ih h.2 k c u hc hu
theorem RL.mk : ∀ {l : List Cell} {m : List Value}, l.length = m.length → (∀ (k : Nat) (c : Cell) (u : Value), l[k]? = some c → m[k]? = some u → RC s σ c u) → RL s σ l m
  | [], [], _, _ => trivial
  | [], v :: m, h, _ => by simp at h
  | c :: l, [], h, _ => by simp at h
  | c :: l, v :: m, h, hg => ⟨hg 0 c v rfl rfl, RL.mk (by simpa using h) (fun k d u hd hu => hg (k + 1) d u hd hu)⟩
theorem reps_RL {z : List Cell} {zv : Array Value} (n : Nat) (hz : RL s σ z zv.toList) : RL s σ (reps z n) (((Array.range (n * z.length)).map (zv[· % zv.size]!)).toList) := by
  have hl := hz.len
  simp only [Array.length_toList] at hl
  refine RL.mk ?_ (fun k c u hc hu => ?_)
  · rw [reps_len]; simp
  · have hk : k < n * z.length := by
      have := (List.getElem?_eq_some_iff.mp hc).1
      rw [reps_len] at this; exact this
    rw [reps_get z n k hk] at hc
    have hpos : 0 < z.length := by
      rcases Nat.eq_zero_or_pos z.length with h0 | h0
      · rw [h0] at hk; simp at hk
      · exact h0
    have hu2 : u = zv[k % zv.size]! := by
      simp [hk] at hu
      exact hu.symm
    have hlt : k % zv.size < zv.size := Nat.mod_lt _ (by omega)
    refine hz.get (k % z.length) c u hc ?_
    rw [hu2, hl]
    simp [hlt]
end

section
variable {P : Program}
theorem map_parts (a : Act) (parts : Array (Nat × Operand)) : (parts.map fun (i, x) => (i, a.eval x)).toList = parts.toList.map fun p => (p.1, a.eval p.2) := by simp
theorem map_range0 (f : Nat → Value) : (Array.range 0).map f = #[] := Array.eq_empty_of_size_eq_zero (by simp)
theorem run_lit0 (w : World) (t e : TypeId) (n : Nat) (parts : Array (Nat × Value)) (us : Array Value) (ie : TypeInfo) (hu : P.underlying t = some (.slice e)) (hie : P.info? e = some ie) (h0 : n * ie.size = 0)
    (hf : Instr.fill (fun i => some (i * ie.size, ie.size)) #[] parts.toList = some us) : (Instr.buildSlice t n parts).run P w = .ok (.slice (some ⟨w.heap.size, 0, none⟩) n n) (w.alloc (.cells us e)) := by
  have h1 : ¬ (n * ie.size > 2 ^ 24) := by rw [h0]; omega
  have key : ∀ f : Nat → Value, Instr.fill (fun i => some (i * ie.size, ie.size)) ((Array.range (n * ie.size)).map f) parts.toList = some us := fun f => by rw [h0, map_range0]; exact hf
  simp only [Instr.buildSlice, Sem.run_bind, run_underlying hu, Result.andThen_ok, sizeOf, typeInfo, run_program, hie, Sem.run_pure]
  rw [if_neg h1, if_pos h0]
  simp only [Sem.run_bind, Sem.run_pure, Result.andThen_ok, key]
  simp [newRow]
theorem build_S (t : TypeId) (parts : Array (Nat × Operand)) : OpS P (.build t parts) (oBuild P t parts.toList) := by
  intro s σ nt e a w0 w h v h' oo ho hf hm hr
  unfold oBuild at hr
  split at hr
  · next i hi =>
    obtain ⟨info, h1, h2, h3, h4⟩ := (ti_ok P hi).info
    have hu := (ti_ok P hi).und
    split at hr
    · next zs hzs =>
      obtain ⟨zv, hz, hrl⟩ := h4 zs hzs
      split at hr
      · next fields hd =>
        rw [hd] at hu
        split at hr
        · cases hr
        · next places hpl =>
          split at hr
          · next ps hps =>
            obtain ⟨cs, us, g1, g2, g3, g4⟩ := fill_ok hf (zv := zv.cells) _ hps (hrl s σ).1 hr
            cases g4
            refine Done.quiet hm rfl (x := .agg us) ⟨us, rfl, g2⟩ ?_
            have hb : P.built t (parts.map fun (i, x) => (i, a.eval x)).toList = some us := by
              unfold Program.built
              rw [map_parts]
              simp only [h1, hu, hz, hpl]
              simpa using g1
            unfold execOp
            rw [ho]
            simp [run_build w t _ us hb]
          · cases hr
      · cases hr
    · cases hr
  · cases hr
theorem lit_S (t : TypeId) (n : Nat) (parts : Array (Nat × Operand)) : OpS P (.buildSlice t n parts) (oLit P t n parts.toList) := by
  intro s σ nt e a w0 w h v h' oo ho hf hm hr
  unfold oLit at hr
  split at hr
  · next i hi =>
    have hu := (ti_ok P hi).und
    split at hr
    · next el hd =>
      rw [hd] at hu
      split at hr
      · next j hj =>
        obtain ⟨info, h1, h2, h3, h4⟩ := (ti_ok P hj).info
        split at hr
        · next zs hzs =>
          obtain ⟨zv, hz, hrl⟩ := h4 zs hzs
          split at hr
          · next hsm =>
            replace hsm := Nat.le_of_ble_eq_true hsm
            split at hr
            · cases hr
            · next hsz =>
              replace hsz := Nat.eq_of_beq_eq_true hsz
              rw [len_eq] at hsz
              split at hr
              · next ps hps =>
                obtain ⟨cs, us, g1, g2, g3, g4⟩ := fill_ok hf _ hps (reps_RL n (hrl s σ).1) hr
                obtain ⟨hn, g4⟩ := new_eq h _ _ g4
                cases g4
                have hrun : (execOp a.eval oo).run P w = .ok (.value (.slice (some ⟨w.heap.size, 0, none⟩) n n)) (w.alloc (.cells us el)) := by
                  unfold execOp
                  rw [ho]
                  by_cases h0 : n * info.size = 0
                  · have e0 : n * zs.length = 0 := by rw [hsz, ← h2]; exact h0
                    rw [e0] at g1
                    rw [map_range0] at g1
                    have := run_lit0 (P := P) w t el n (parts.map fun (i, x) => (i, a.eval x)) us info hu h1 h0 (by rw [map_parts, h2]; exact g1)
                    simp [this]
                  · have := run_buildSlice (P := P) w t el n (parts.map fun (i, x) => (i, a.eval x)) us info zv hu h1 hz (by rw [h2]; omega) h0 (by rw [map_parts, h2]; rw [hsz] at g1; exact g1)
                    simp [this]
                have hlen : cs.length = us.size := by have := g2.len; simpa using this
                refine ⟨σ.lay h.next (w.heap.size, us.size, cs.length), _, _, hm.ext _, ⟨_, n, lay_at _ _ _, rfl, Nat.le_refl _, ?_, ?_⟩, hm.alloc hn _ _ _ _ ⟨w.heap.size, us, el, lay_at _ _ _, hm.below.size, alloc_new w _, (g2.ext (hm.ext _)).toRP⟩, .inl hrun⟩
                · show 0 + n * j.size ≤ us.size
                  rw [← hlen, g3, reps_len, hsz]; omega
                · show cs.length ≤ 0 + n * j.size
                  rw [g3, reps_len, hsz]; omega
              · cases hr
          · cases hr
        · cases hr
      · cases hr
    · cases hr
  · cases hr
end
end Go.Proofs.Ytopganainjgmmaa.Ev
