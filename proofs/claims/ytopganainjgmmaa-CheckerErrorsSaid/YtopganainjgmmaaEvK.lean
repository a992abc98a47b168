/- Each operation of the evaluator's is the model's: conversions; all of them together. -/
import Derived.Test.YtopganainjgmmaaEvJ
namespace Go.Proofs.Ytopganainjgmmaa.Ev
open Go Go.RowKit
set_option linter.unusedVariables false
set_option linter.unusedSimpArgs false

section
variable {s : Nat → Int} {σ : Sg} {w0 w : World} {h : H}
theorem freeze_other (w : World) (a : Addr) (n k : Nat) (hk : k ≠ a.block) : (w.freeze a n).heap[k]? = w.heap[k]? := by
  unfold World.freeze
  split
  · rfl
  · simp [Array.getElem?_modify, Ne.symm hk]
theorem freeze_at (w : World) (a : Addr) (n : Nat) (arr : Array Value) (t : TypeId) (fz : Nat × Nat) (h : w.heap[a.block]? = some (.cells arr t fz)) : ∃ fz', (w.freeze a n).heap[a.block]? = some (.cells arr t fz') := by
  unfold World.freeze
  split
  · exact ⟨fz, h⟩
  · simp only [Array.getElem?_modify, h, if_true, Option.map_some]
    exact ⟨_, rfl⟩
theorem freeze_size (w : World) (a : Addr) (n : Nat) : (w.freeze a n).heap.size = w.heap.size ∧ (w.freeze a n).os = w.os ∧ (w.freeze a n).tape = w.tape ∧ (w.freeze a n).output = w.output := by
  unfold World.freeze
  split <;> simp
theorem Mem.frz (hm : Mem s σ w0 h w) {b : Nat} {l : List Cell} (hb : h.blk b = .cells l ∨ h.blk b = .ro l) {x : Nat × Nat × Nat} (hx : σ b = some x) (m n : Nat) : Mem s σ w0 (h.put b (.ro l)) (w.freeze ⟨x.1, m, none⟩ n) := by
  have hb4 : b < 65536 := Nat.lt_of_lt_of_le (hm.dom b _ hx) hm.next
  have hne : h.blk b ≠ .no := by rcases hb with hb | hb <;> (rw [hb]; intro h; cases h)
  obtain ⟨arr, t, fz, h1, h2, h3, h4⟩ := hm.rd hb hx
  obtain ⟨y, hy, hlt, hB⟩ := (hm.blk b).some hne
  rw [hx] at hy; cases hy
  obtain ⟨f1, f2, f3, f4⟩ := freeze_size w ⟨x.1, m, none⟩ n
  have hbel : Below w0.heap.size w0 (w.freeze ⟨x.1, m, none⟩ n) := hm.below.trans ⟨f2, f3, f4, by omega, fun k hk => freeze_other w _ n k (by show k ≠ x.1; omega)⟩
  refine ⟨hm.next, hm.dom, hbel, fun k => ?_, fun b1 b2 x1 x2 h1 h2 e1 e2 he => ?_⟩
  · rw [put_blk h b _ hb4]
    split
    · next e =>
      subst e
      obtain ⟨fz', hfz⟩ := freeze_at w ⟨x.1, m, none⟩ n arr t fz h1
      exact ⟨x.1, arr, t, fz', by rw [h2, h3]; exact hx, hB, hfz, h4⟩
    · next e =>
      refine (hm.blk k).keep (Ext.refl _) (fun z hz hne' hlt => freeze_other w _ n z.1 (fun he => e ?_))
      exact hm.inj k b z x hne' hne hz hx he
  · rw [put_blk h b _ hb4] at h1 h2
    refine hm.inj b1 b2 x1 x2 ?_ ?_ e1 e2 he
    · split at h1
      · next e => rw [e]; exact hne
      · exact h1
    · split at h2
      · next e => rw [e]; exact hne
      · exact h2
end
section
variable {P : Program}
theorem conv_S (sr d : TypeId) (x : Operand) : OpS P (.convert sr d x) (oConv P sr d (gt x)) := by
  intro s σ nt e a w0 w h v h' oo ho hf hm hr
  unfold oConv at hr
  split at hr
  · next si hsi =>
    have hus := (ti_ok P hsi).und
    split at hr
    · next di hdi =>
      have hud := (ti_ok P hdi).und
      split at hr
      · next k hd =>
        rw [hd] at hud
        have hr_ := oneK_ok hr; clear hr; obtain ⟨c, hc, hr1⟩ := hr_
        have hr_ := intK_ok hr1; clear hr1; obtain ⟨k', n, rfl, hr1⟩ := hr_
        obtain ⟨rfl, rfl⟩ := intR_ok hr1
        have hx : a.eval x = .int k' n := gt_one hf hc
        refine Done.quiet hm rfl (x := .int k (k.wrap n)) rfl ?_
        unfold execOp
        rw [ho]
        simp [convert, run_underlying hus, run_underlying hud, hx, Conv.intToInt]
      · next el hd =>
        rw [hd] at hud
        split at hr
        · next el2 hs =>
          rw [hs] at hus
          have hr_ := onD_ok hr; clear hr
          obtain ⟨dd, hd1, hd2, hr1⟩ := hr_
          have hdd : dd = .int .u8 := by
            cases dd with
            | int k => cases k <;> first | rfl | cases hd2
            | _ => cases hd2
          subst hdd
          obtain ⟨hsd, hr2⟩ := ite_ok hr1
          clear hr1
          replace hsd := Nat.eq_of_beq_eq_true hsd
          subst hsd
          have hel : el2 = el := by rw [hus] at hud; injection hud with h1; injection h1
          subst hel
          have hr_ := oneK_ok hr2; clear hr2; obtain ⟨c, hc, hr1⟩ := hr_
          have hr_ := sliceK_ok hr1; clear hr1; obtain ⟨b, o, n, sz, rfl, hr1⟩ := hr_
          have hr_ := blkK_ok hr1; clear hr1; obtain ⟨l, hl, hr1⟩ := hr_
          cases hr1
          obtain ⟨q, cap, hq, hx, hrest⟩ := gt_one hf hc
          obtain ⟨arr, t, fz, h1, _⟩ := hm.rd hl hq
          refine ⟨σ, .slice (some ⟨q.1, o, none⟩) n cap, _, Ext.refl σ, ⟨q, cap, hq, rfl, hrest⟩, hm.frz hl hq arr.size 1, .inl ?_⟩
          have hsh : w.shape? q.1 = some (t, arr.size) := by simp [World.shape?, h1]
          unfold execOp
          rw [ho]
          simp [convert, run_underlying hus, run_underlying hud, run_underlying hd1, hx, markStringish, hsh]
        · cases hr
      · cases hr
    · cases hr
  · cases hr
/-- every operation but a call of a function of the program's -/
theorem op1_S (o : Op) : OpS P o (op1 P o) := by
  cases o with
  | move x => exact move_S x
  | assign x => exact assign_S x
  | pick c x y => exact pick_S c x y
  | alloc t =>
    show OpS P (.alloc t) (match ti P t with
      | some i => oAlloc i.zero
      | none => ⟨fun _ _ => .bad 250⟩)
    split
    · next i hi => exact alloc_S t i hi
    · exact bad_S _ _
  | box t x => exact box_S t x
  | build t parts => exact build_S t parts
  | buildSlice t n parts => exact lit_S t n parts
  | load t x => exact load_S t x
  | store t x y => exact store_S t x y
  | nilCheck x => exact nil_S x
  | binOp op t x y t2 => exact bin_S op t t2 x y
  | unOp op t x => exact un_S op t x
  | convert sr d x => exact conv_S sr d x
  | slice t x lo hi mx =>
    cases mx with
    | none => exact slice_S t x lo hi
    | some _ => exact bad_S _ _
  | fieldAddr t x f => exact field_S t x f
  | field t x f => exact fld_S t x f
  | indexAddr t x i => exact index_S t x i
  | index t x i => exact idx_S t x i
  | extract x i => exact ext_S x i
  | makeMap t r =>
    cases r with
    | none => exact map_S t
    | some _ => exact bad_S _ _
  | lookup t m k ok => exact look_S t m k ok
  | mapUpdate t m k y => exact upd_S t m k y
  | call c =>
    show OpS P (.call c) (match c.callee with
      | .builtin b => oBuiltin P b c.args.toList c.argTypes.toList
      | _ => ⟨fun _ _ => .bad 251⟩)
    split
    · next b hb =>
      unfold oBuiltin
      split
      · split
        · next x hx =>
          split
          · next t ht => exact len_S t 0 c x hb (Array.toList_inj.mp hx) (Array.toList_inj.mp ht)
          · exact bad_S _ _
        · exact bad_S _ _
      · split
        · next x y hx =>
          split
          · next t t2 ht => exact app_S c t x y t2 hb (Array.toList_inj.mp hx) (Array.toList_inj.mp ht)
          · exact bad_S _ _
        · exact bad_S _ _
      · exact bad_S _ _
    · exact bad_S _ _
  | _ => exact bad_S _ _
end
end Go.Proofs.Ytopganainjgmmaa.Ev
