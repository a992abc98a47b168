/- Each operation of the evaluator's is the model's: the ones that change the memory. -/
import Derived.Test.YtopganainjgmmaaEvF
namespace Go.Proofs.Ytopganainjgmmaa.Ev
open Go Go.RowKit
set_option linter.unusedVariables false
set_option linter.unusedSimpArgs false

section
variable {s : Nat → Int} {σ σ' : Sg} {w0 w w' : World} {h : H}
theorem RB.keep {base b : Nat} {x : Blk} (hr : RB s σ base w b x) (he : Ext σ σ') (hk : ∀ y, σ b = some y → x ≠ .no → y.1 < w.heap.size → w'.heap[y.1]? = w.heap[y.1]?) : RB s σ' base w' b x := by
  cases x with
  | no => trivial
  | cells l =>
    obtain ⟨c, arr, t, h1, h2, h3, h4⟩ := hr
    have hc : c < w.heap.size := (Array.getElem?_eq_some_iff.1 h3).1
    exact ⟨c, arr, t, he _ _ h1, h2, (hk _ h1 (fun h => by cases h) hc).trans h3, h4.ext he⟩
  | ro l =>
    obtain ⟨c, arr, t, fz, h1, h2, h3, h4⟩ := hr
    have hc : c < w.heap.size := (Array.getElem?_eq_some_iff.1 h3).1
    exact ⟨c, arr, t, fz, he _ _ h1, h2, (hk _ h1 (fun h => by cases h) hc).trans h3, h4.ext he⟩
  | map es =>
    obtain ⟨c, ents, clock, h1, h2, h3, h4⟩ := hr
    have hc : c < w.heap.size := (Array.getElem?_eq_some_iff.1 h3).1
    exact ⟨c, ents, clock, he _ _ h1, h2, (hk _ h1 (fun h => by cases h) hc).trans h3, h4.ext he⟩
/-- a live block lies somewhere -/
theorem RB.some {base b : Nat} {x : Blk} (hr : RB s σ base w b x) (hx : x ≠ .no) : ∃ y, σ b = some y ∧ y.1 < w.heap.size ∧ base ≤ y.1 := by
  cases x with
  | no => exact absurd rfl hx
  | cells l =>
    obtain ⟨c, arr, t, h1, h2, h3, h4⟩ := hr
    exact ⟨_, h1, (Array.getElem?_eq_some_iff.1 h3).1, h2⟩
  | ro l =>
    obtain ⟨c, arr, t, fz, h1, h2, h3, h4⟩ := hr
    exact ⟨_, h1, (Array.getElem?_eq_some_iff.1 h3).1, h2⟩
  | map es =>
    obtain ⟨c, ents, clock, h1, h2, h3, h4⟩ := hr
    exact ⟨_, h1, (Array.getElem?_eq_some_iff.1 h3).1, h2⟩
theorem Mem.drew (hm : Mem s σ w0 h w) : Mem s σ w0 h w.drew :=
  ⟨hm.next, hm.dom, hm.below.drew, fun b => (hm.blk b).keep (Ext.refl _) (fun _ _ _ _ => rfl), hm.inj⟩
theorem Mem.lt (hm : Mem s σ w0 h w) {b : Nat} (hb : h.blk b ≠ .no) : b < h.next := by
  obtain ⟨y, hy, _⟩ := (hm.blk b).some hb
  exact hm.dom b y hy
theorem alloc_new (w : World) (o : Obj) : (w.alloc o).heap[w.heap.size]? = some o := by
  unfold World.alloc
  exact Array.getElem?_push_size
/-- where the next block is laid -/
def Sg.lay (σ : Sg) (b : Nat) (y : Nat × Nat × Nat) : Sg := fun k => if k = b then some y else σ k
theorem Mem.ext (hm : Mem s σ w0 h w) (y : Nat × Nat × Nat) : Ext σ (σ.lay h.next y) := fun b x hb => by
  have := hm.dom b x hb
  unfold Sg.lay
  rw [if_neg (by omega)]
  exact hb
theorem lay_at (σ : Sg) (b : Nat) (y : Nat × Nat × Nat) : (σ.lay b y) b = some y := by unfold Sg.lay; rw [if_pos rfl]
theorem new_blk (h : H) (b : Blk) (hn : h.next < 65536) (k : Nat) : (⟨h.next + 1, (ha h.next).set b h.tr⟩ : H).blk k = if k = h.next then b else h.blk k := ha_get_set k h.next b h.tr hn
/-- a new block of the evaluator's: it lies at c, where no live block lies -/
theorem Mem.adopt (hm : Mem s σ w0 h w) (hn : h.next < 65536) (x : Blk) (y : Nat × Nat × Nat) (hb : Below w0.heap.size w0 w')
    (hk : ∀ b z, σ b = some z → h.blk b ≠ .no → z.1 < w.heap.size → w'.heap[z.1]? = w.heap[z.1]?)
    (hfree : ∀ b z, σ b = some z → h.blk b ≠ .no → z.1 ≠ y.1)
    (hx : RB s (σ.lay h.next y) w0.heap.size w' h.next x) : Mem s (σ.lay h.next y) w0 ⟨h.next + 1, (ha h.next).set x h.tr⟩ w' := by
  refine ⟨hn, fun b z hb => ?_, hb, fun b => ?_, fun b1 b2 x1 x2 h1 h2 e1 e2 he => ?_⟩
  · show b < h.next + 1
    unfold Sg.lay at hb
    split at hb
    · omega
    · have := hm.dom b z hb; omega
  · rw [new_blk h x hn]
    split
    · next e => subst e; exact hx
    · exact (hm.blk b).keep (hm.ext y) (fun z hz hne hlt => hk b z hz hne hlt)
  · rw [new_blk h x hn] at h1 h2
    unfold Sg.lay at e1 e2
    by_cases c1 : b1 = h.next
    · by_cases c2 : b2 = h.next
      · rw [c1, c2]
      · rw [if_pos c1] at e1
        rw [if_neg c2] at e2 h2
        cases e1
        exact absurd he.symm (hfree b2 x2 e2 h2)
    · rw [if_neg c1] at e1 h1
      by_cases c2 : b2 = h.next
      · rw [if_pos c2] at e2
        cases e2
        exact absurd he (hfree b1 x1 e1 h1)
      · rw [if_neg c2] at e2 h2
        exact hm.inj b1 b2 x1 x2 h1 h2 e1 e2 he
theorem Mem.alloc (hm : Mem s σ w0 h w) (hn : h.next < 65536) (x : Blk) (ob : Obj) (S L : Nat) (hx : RB s (σ.lay h.next (w.heap.size, S, L)) w0.heap.size (w.alloc ob) h.next x) :
    Mem s (σ.lay h.next (w.heap.size, S, L)) w0 ⟨h.next + 1, (ha h.next).set x h.tr⟩ (w.alloc ob) :=
  hm.adopt hn x _ (hm.below.alloc hm.below.size ob) (fun b z hz hne hlt => Below.heap_alloc w ob z.1 hlt) (fun b z hz hne he => by
    obtain ⟨y, hy, hlt, _⟩ := (hm.blk b).some hne
    rw [hz] at hy; cases hy
    rw [he] at hlt
    exact Nat.lt_irrefl _ hlt) hx
theorem Mem.kill (hm : Mem s σ w0 h w) (b : Nat) : Mem s σ w0 (h.put b .no) w := by
  by_cases hb : b < 65536
  · refine ⟨hm.next, hm.dom, hm.below, fun k => ?_, fun b1 b2 x1 x2 h1 h2 e1 e2 he => ?_⟩
    · rw [put_blk h b .no hb]
      split
      · trivial
      · exact hm.blk k
    · rw [put_blk h b .no hb] at h1 h2
      split at h1
      · exact absurd rfl h1
      · split at h2
        · exact absurd rfl h2
        · exact hm.inj b1 b2 x1 x2 h1 h2 e1 e2 he
  · have : h.put b .no = h := by unfold H.put; rw [ha_setBig b hb]
    rw [this]; exact hm
/-- the cells of a block are written -/
theorem Mem.write (hm : Mem s σ w0 h w) {b c : Nat} {l l' : List Cell} {arr arr' : Array Value} {t : TypeId} (hb : h.blk b = .cells l) (hc : σ b = some (c, arr.size, l.length)) (hw : w.heap[c]? = some (.cells arr t (0, 0))) (hB : w0.heap.size ≤ c)
    (hsz : arr'.size = arr.size) (hlen : l'.length = l.length) (hp : RP s σ l' arr'.toList) : Mem s σ w0 (h.put b (.cells l')) (w.setRow c arr') := by
  have hb4 : b < 65536 := Nat.lt_of_lt_of_le (hm.dom b _ hc) hm.next
  refine ⟨hm.next, hm.dom, below_setRow hm.below hB arr', fun k => ?_, fun b1 b2 x1 x2 h1 h2 e1 e2 he => ?_⟩
  · rw [put_blk h b _ hb4]
    split
    · next e =>
      subst e
      exact ⟨c, arr', t, by rw [hsz, hlen]; exact hc, hB, setRow_heap w c arr arr' t (0, 0) hw, hp⟩
    · next e =>
      refine (hm.blk k).keep (Ext.refl _) (fun z hz hne hlt => setRow_other w c z.1 arr' (fun he => e ?_))
      exact hm.inj k b z _ hne (by rw [hb]; intro h; cases h) hz hc he
  · rw [put_blk h b _ hb4] at h1 h2
    refine hm.inj b1 b2 x1 x2 ?_ ?_ e1 e2 he
    · split at h1
      · next e => rw [e, hb]; intro h; cases h
      · exact h1
    · split at h2
      · next e => rw [e, hb]; intro h; cases h
      · exact h2
theorem Mem.own (hm : Mem s σ w0 h w) {b : Nat} {l : List Cell} (hb : h.blk b = .cells l) {x : Nat × Nat × Nat} (hx : σ b = some x) :
    ∃ arr t, w.heap[x.1]? = some (.cells arr t (0, 0)) ∧ arr.size = x.2.1 ∧ l.length = x.2.2 ∧ RP s σ l arr.toList ∧ w0.heap.size ≤ x.1 := by
  have := hm.blk b
  rw [hb] at this
  obtain ⟨c, arr, t, h1, h0, h2, h3⟩ := this
  rw [hx] at h1; cases h1
  exact ⟨arr, t, h2, rfl, rfl, h3, h0⟩
end

/-! ### lists -/
section
variable {n : Nat} {r : V} {h' : H}
theorem over_ok : ∀ {vs l : List Cell} (K : List Cell → RV), over (.bad n) vs l K = .ok r h' → vs.length ≤ l.length ∧ K (vs ++ l.drop vs.length) = .ok r h'
  | [], l, K, h => ⟨Nat.zero_le _, h⟩
  | v :: vs, [], K, h => by cases h
  | v :: vs, c :: l, K, h => by
    have := over_ok (vs := vs) (l := l) (fun r => K (v :: r)) h
    exact ⟨by simp; omega, by simpa using this.2⟩
theorem put_ok : ∀ {vs : List Cell} {o : Nat} {l : List Cell} (K : List Cell → RV), put (.bad n) vs o l K = .ok r h' → o + vs.length ≤ l.length ∧ K (l.take o ++ vs ++ l.drop (o + vs.length)) = .ok r h'
  | vs, 0, l, K, h => by
    have := over_ok (vs := vs) (l := l) K h
    exact ⟨by omega, by simpa using this.2⟩
  | vs, o + 1, [], K, h => by cases h
  | vs, o + 1, c :: l, K, h => by
    have := put_ok (vs := vs) (o := o) (l := l) (fun r => K (c :: r)) h
    refine ⟨by simp; omega, ?_⟩
    have e : o + 1 + vs.length = (o + vs.length) + 1 := by omega
    rw [e]
    simpa using this.2
theorem app_eq {β : Type} (m l : List Cell) (K : List Cell → β) : app m l K = K (l ++ m) := by
  induction l generalizing K with
  | nil => rfl
  | cons c l ih => exact ih _
end
section
variable {s : Nat → Int} {σ : Sg}
theorem RP.splice : ∀ {l : List Cell} {m : List Value} {vs : List Cell} {us : List Value} (o : Nat), RP s σ l m → RL s σ vs us → o + vs.length ≤ l.length →
    RP s σ (l.take o ++ vs ++ l.drop (o + vs.length)) (m.take o ++ us ++ m.drop (o + us.length)) := by
  intro l m vs us o h1 h2 h3
  induction o generalizing l m with
  | zero =>
    have hl := h2.len
    simp only [List.take_zero, List.nil_append, Nat.zero_add]
    rw [hl]
    have h4 : RP s σ (l.drop us.length) (m.drop us.length) := h1.dropL _
    clear h1 h3
    generalize l.drop us.length = p at h4
    generalize m.drop us.length = q at h4
    clear hl
    induction vs generalizing us with
    | nil => cases us with
      | nil => exact h4
      | cons u us => cases h2
    | cons v vs ih => cases us with
      | nil => cases h2
      | cons u us => exact ⟨h2.1, ih h2.2⟩
  | succ o ih =>
    match l, m, h1 with
    | [], _, _ => simp at h3
    | c :: l, u :: m, h1 =>
      have := ih (l := l) (m := m) h1.2 (by simp at h3; omega)
      have e1 : o + 1 + vs.length = (o + vs.length) + 1 := by omega
      have e2 : o + 1 + us.length = (o + us.length) + 1 := by omega
      rw [e1, e2]
      exact ⟨h1.1, this⟩
theorem RL.oneCells : ∀ {l : List Cell} {m : List Value}, RL s σ l m → ∀ v ∈ m, v.oneCell' = true
  | [], [], _, v, hv => by cases hv
  | c :: l, u :: m, h, v, hv => by
    rcases List.mem_cons.mp hv with rfl | hv
    · exact h.1.oneCell
    · exact RL.oneCells h.2 v hv
end

section
variable {P : Program}
theorem newR_ok {s : Nat → Int} {σ : Sg} {w0 w : World} {h h' : H} {l : List Cell} {v : V} (hm : Mem s σ w0 h w) (hr : newR l h = .ok v h') {cs : Array Value} (t : TypeId) (hl : RL s σ l cs.toList) :
    ∃ σ', Ext σ σ' ∧ Rv s σ' v (.pointer (some ⟨w.heap.size, 0, none⟩)) ∧ Mem s σ' w0 h' (w.alloc (.cells cs t)) := by
  obtain ⟨hn, hr⟩ := new_eq h _ _ hr
  cases hr
  refine ⟨σ.lay h.next (w.heap.size, cs.size, l.length), hm.ext _, ⟨_, lay_at _ _ _, rfl⟩, hm.alloc hn _ _ _ _ ?_⟩
  exact ⟨w.heap.size, cs, t, lay_at _ _ _, hm.below.size, alloc_new w _, by have := (hl.ext (hm.ext (w.heap.size, cs.size, l.length))).prefix []; simpa using this⟩
theorem alloc_S (t : TypeId) (i : TI) (hi : ti P t = some i) : OpS P (.alloc t) (oAlloc i.zero) := by
  intro s σ nt e a w0 w h v h' oo ho hf hm hr
  obtain ⟨info, h1, h2, h3, h4⟩ := (ti_ok P hi).info
  unfold oAlloc at hr
  split at hr
  · next l hl =>
    obtain ⟨zv, hz, hrl⟩ := h4 l hl
    obtain ⟨σ', he, hv, hm'⟩ := newR_ok hm hr t (cs := zv.cells) (hrl s σ).1
    refine ⟨σ', _, _, he, hv, hm', .inl ?_⟩
    unfold execOp
    rw [ho]
    simp [Instr.alloc, zeroValue, typeInfo, h1, hz, newVar, newRow]
  · cases hr
theorem box_S (t : TypeId) (x : Operand) : OpS P (.box t x) (oBox (gt x)) := by
  intro s σ nt e a w0 w h v h' oo ho hf hm hr
  have : ∃ l, cellsOf ((gt x).f e) = some l ∧ newR l h = .ok v h' := by
    unfold oBox at hr
    dsimp only at hr
    rcases cellsK_ok hr with ⟨c, hc, hr⟩ | ⟨l, hl, hr⟩
    · exact ⟨[c], by rw [hc]; rfl, hr⟩
    · exact ⟨l, by rw [hl]; rfl, hr⟩
  obtain ⟨l, hl, hr⟩ := this
  obtain ⟨σ', he, hv, hm'⟩ := newR_ok hm hr t (cs := (a.eval x).cells) (gt_cells hf hl)
  refine ⟨σ', _, _, he, hv, hm', .inl ?_⟩
  unfold execOp
  rw [ho]
  simp [Instr.box, newVar, newRow]
theorem store_S (t : TypeId) (x y : Operand) : OpS P (.store t x y) (oStore P t (gt x) (gt y)) := by
  intro s σ nt e a w0 w h v h' oo ho hf hm hr
  unfold oStore at hr
  split at hr
  · next i hi =>
    obtain ⟨info, h1, h2, _⟩ := (ti_ok P hi).info
    have hr_ := oneK_ok hr; clear hr; obtain ⟨c, hc, hr⟩ := hr_
    have hr_ := ptrK_ok hr; clear hr; obtain ⟨b, o, rfl, hr⟩ := hr_
    have hr_ := wblkK_ok hr; clear hr; obtain ⟨l, hl, hr⟩ := hr_
    have : ∃ vs, cellsOf ((gt y).f e) = some vs ∧ ite' (Nat.beq (len vs) i.size) (put (RV.bad 126) vs o l fun l' => RV.ok .undef (h.put b (.cells l'))) (RV.bad 127) = RV.ok v h' := by
      rcases cellsK_ok hr with ⟨c, hc, hr⟩ | ⟨l, hl, hr⟩
      · exact ⟨[c], by rw [hc]; rfl, hr⟩
      · exact ⟨l, by rw [hl]; rfl, hr⟩
    obtain ⟨vs, hvs, hr1⟩ := this
    obtain ⟨hlen, hr2⟩ := ite_ok hr1
    obtain ⟨hfit, hr3⟩ := put_ok _ hr2
    cases hr3
    replace hlen := Nat.eq_of_beq_eq_true hlen
    rw [len_eq] at hlen
    obtain ⟨q, hq, hx⟩ := gt_one hf hc
    have hrl := gt_cells hf hvs
    obtain ⟨arr, t', g1, g2, g3, g4, g5⟩ := hm.own hl hq
    have hle := g4.le
    have hlv := hrl.len
    generalize hcs : (a.eval y).cells = cs at hrl hlv
    have hst := run_storeCells_at (P := P) q.1 o t' cs.toList 0 arr w g1 (by simp only [Array.length_toList] at hle hlv ⊢; omega) hrl.oneCells
    simp only [Nat.add_zero] at hst
    refine ⟨σ, undef, _, Ext.refl σ, rfl, hm.write (arr' := (arr.toList.take o ++ cs.toList ++ arr.toList.drop (o + cs.toList.length)).toArray) hl (by rw [g2, g3]; exact hq) g1 g5 ?_ ?_ ?_, .inr ⟨?_, rfl⟩⟩
    · simp only [Array.length_toList] at hle hlv
      simp only [List.size_toArray, List.length_append, List.length_take, List.length_drop, Array.length_toList]
      omega
    · simp
      omega
    · exact g4.splice o hrl hfit
    · unfold execOp
      rw [ho]
      have hsz : cs.size = info.size := by simp only [Array.length_toList] at hlv; omega
      simp [Instr.storeAt, hx, Instr.sureAddr, storeVar, sizeOf, typeInfo, h1, hcs, hsz, hst]
  · cases hr
end
end Go.Proofs.Ytopganainjgmmaa.Ev
