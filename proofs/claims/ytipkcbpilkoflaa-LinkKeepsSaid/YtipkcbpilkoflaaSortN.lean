/- The library's stable sort in the words of the print: a row of the call's own, of any length, holds its elements sorted by their first field, equals in their old order. -/
import Derived.Test.YtipkcbpilkoflaaLess
import Derived.Test.YtipkcbpilkoflaaWN
namespace Go.Proofs.Ytipkcbpilkoflaa.Stab
open Go.Shelf Go.RowKit Go.Lib Go.Sort Go.Proofs.YtipkcbpilkoflaaW.PrintWords
set_option linter.unusedVariables false

theorem mrg_map {α β : Type} (f : α → β) (ka : α → Int) (kb : β → Int) (h : ∀ x, kb (f x) = ka x) : ∀ (n : Nat) (A B : List α), A.length + B.length ≤ n → mrg kb (A.map f) (B.map f) = (mrg ka A B).map f
  | n, [], B, _ => by rw [List.map_nil, mrg_nil, mrg_nil]
  | n, a :: A, [], _ => by rw [List.map_nil, mrg_right, mrg_right]
  | 0, a :: A, b :: B, h => by simp at h
  | n + 1, a :: A, b :: B, hn => by
    have h1 := mrg_map f ka kb h n (a :: A) B (by simp at hn ⊢; omega)
    have h2 := mrg_map f ka kb h n A (b :: B) (by simp at hn ⊢; omega)
    rw [List.map_cons] at h1 h2
    rw [List.map_cons, List.map_cons, mrg_cons, mrg_cons, h, h]
    split
    · rw [h1, List.map_cons]
    · rw [h2, List.map_cons]
theorem isort_map {α β : Type} (f : α → β) (ka : α → Int) (kb : β → Int) (h : ∀ x, kb (f x) = ka x) (l : List α) : isort kb (l.map f) = (isort ka l).map f := by
  induction l with
  | nil => rfl
  | cons x l ih =>
    rw [List.map_cons, isort, ih, isort, ← mrg_map f ka kb h _ _ _ (Nat.le_refl _)]
    rfl
theorem isort_mem {α : Type} (k : α → Int) (l : List α) : ∀ z, z ∈ isort k l → z ∈ l := by
  induction l with
  | nil => intro z hz; exact hz
  | cons x l ih =>
    intro z hz
    rcases mrg_mem k _ _ _ (Nat.le_refl _) z hz with h | h
    · rw [List.mem_singleton] at h; subst h; exact List.mem_cons_self
    · exact List.mem_cons_of_mem _ (ih z h)
theorem isort_short {α : Type} (k : α → Int) (l : List α) (h : l.length < 2) : isort k l = l := by
  match l, h with
  | [], _ => rfl
  | [x], _ => exact isort_one k x
  | _ :: _ :: _, h => simp only [List.length_cons] at h; omega

theorem swk_heap {α : Type} [Inhabited α] {enc : α → List Value} {k : Nat} {w w' : World} {g off : Nat} {d' : Array α} (h : SWK enc k w g off d' w') (hg : g < w.heap.size) :
    w.grownBy w' (some g) ∧ (∀ cur e fr, w.heap[g]? = some (.cells cur e fr) → w'.heap[g]? = some (.cells (putCells id off (flatK enc k d') cur) e fr)) := by
  obtain ⟨m, os, rfl⟩ := h
  unfold sortWorldK putRowK putRow mapBlock grow Sort.ahead
  refine ⟨⟨rfl, rfl, rfl, by simp, fun j hj hne => ?_⟩, fun cur e fr hc => ?_⟩
  · simp only []
    rw [Array.getElem?_append_left (by simpa using hj), Array.getElem?_modify, if_neg (fun e => hne (by rw [e]))]
  · simp only []
    rw [Array.getElem?_append_left (by simpa using hg), Array.getElem?_modify, if_pos rfl, hc]
    rfl

theorem own_len (A : Option Addr) (n m c : Nat) : (Value.slice A n c).ownBlock = (Value.slice A m c).ownBlock := by cases A <;> rfl
theorem list_choose {β : Type} (n : Nat) (Q : Nat → β → Prop) (h : ∀ j, j < n → ∃ b, Q j b) : ∃ L : List β, L.length = n ∧ ∀ j b, L[j]? = some b → Q j b := by
  refine ⟨List.ofFn (fun j : Fin n => Classical.choose (h j.1 j.2)), by simp, fun j b hb => ?_⟩
  obtain ⟨hj, hb⟩ := List.getElem?_eq_some_iff.1 hb
  rw [List.getElem_ofFn] at hb
  rw [← hb]
  exact Classical.choose_spec (h j (by simpa using hj))

/-- the flat cells of a list of elements -/
theorem flat_rows (d : Array El) (j : Nat) (x : El) (h : d.toList[j]? = some x) : ((flatK enc 2 d).toList.drop (j * 2)).take 2 = enc x := by
  have hj : j < d.size := by have := (List.getElem?_eq_some_iff.1 h).1; simpa using this
  have hx : d[j]! = x := by
    obtain ⟨_, hx⟩ := List.getElem?_eq_some_iff.1 h
    rw [getElem!_pos d j hj, ← hx]; simp
  have hs : (flatK enc 2 d).toList.length = d.size * 2 := by simp
  refine List.ext_getElem? fun t => ?_
  by_cases ht : t < 2
  · have e1 : (j * 2 + t) / 2 = j := by omega
    have e2 : (j * 2 + t) % 2 = t := by omega
    have hlt : j * 2 + t < d.size * 2 := by omega
    have hg := get_flatK enc 2 d (j * 2 + t) hlt
    rw [e1, e2, hx] at hg
    rw [List.getElem?_take_of_lt ht, List.getElem?_drop, List.getElem?_eq_getElem (by rw [hs]; exact hlt), Array.getElem_toList]
    rw [getElem!_pos _ _ (by simpa using hlt)] at hg
    rw [hg]
    have : t < (enc x).length := by rw [enc_len]; exact ht
    rw [List.getElem?_eq_getElem this, getElem!_pos (enc x) t this]
  · rw [List.getElem?_eq_none (by simp; omega), List.getElem?_eq_none (by rw [enc_len]; omega)]

/-- The contract: a row of one's own, of any length. -/
theorem sortN {X : Type} (f0 : X → Int) (kd : Kd X) (hsz : kd.sz = 2) (hopen : ∀ W ok x cs, Kd.FK kd W ok x cs → ∃ p n c, cs = [.int .i64 (f0 x), .slice p n c]) (w : World) (base : Nat) (ok : Nat → Prop) (A : Option Addr) (c : Nat) (l : List X) (gb : Nat)
    (hN : Kd.N kd 37 w base ok (.slice A l.length c) l) (hb : w.heap[gb]? = some (.cells #[.slice A l.length c] 22 (0, 0))) (hne : some gb ≠ (Value.slice A l.length c).ownBlock) (hlen : l.length < 4398046511104) :
    Calls Try.prog 23 #[.iface 22 (.slice A l.length c), .func (.func 24) #[] #[.pointer (some ⟨gb, 0, none⟩)]] w fun e w' =>
      e = .returned (.tuple #[]) ∧ Kd.N kd 37 w' base ok (.slice A l.length c) (isort f0 l) ∧ w.grownBy w' (Value.slice A l.length c).ownBlock := by
  by_cases h2 : l.length < 2
  · refine (sortTiny A l.length c (by omega) (.func 24) #[] _ w).mono ?_
    rintro e w' ⟨rfl, hbel⟩
    refine ⟨rfl, ?_, ⟨hbel.os, hbel.tape, hbel.output, hbel.size, fun k hk _ => hbel.block k hk⟩⟩
    rw [isort_short f0 l h2]
    exact Kd.N_below hN hbel
  · obtain ⟨h0, rows, hrl, hR, hf⟩ := hN
    rw [hsz] at hR
    obtain ⟨_, inner, ⟨hil, hown⟩, hreps⟩ := hR
    rcases hown with ⟨_, hz⟩ | ⟨g, cap, cur, hv, hbase, hg, hnc, hcm, hcs, hct⟩
    · omega
    injection hv with hA hn hc
    subst hA
    subst hc
    have hil : inner.length = rows.length * 2 := hil
    have hcs : cur.size = c * 2 := hcs
    have hct : cur.toList.take (rows.length * 2) = inner := hct
    have hreps : Reps (fun (x : List Value) cs => cs = x ∧ cs.length = 2 ∧ ∀ u ∈ cs, u.oneCell' = true) 2 rows inner := hreps
    rw [hrl] at hnc hct hil
    have hglt : g < w.heap.size := blk_lt hg
    have hgne : gb ≠ g := fun e => hne (by rw [e]; rfl)
    obtain ⟨Pl, hPl, hP⟩ := list_choose (β := X × (Option Addr × Nat × Nat)) l.length (fun j b => l[j]? = some b.1 ∧ rows[j]? = some (enc ⟨f0 b.1, b.2.1, b.2.2.1, b.2.2.2⟩) ∧
      Kd.FK kd w (fun k => ok k ∧ some k ≠ (Value.slice (some ⟨g, 0, none⟩) l.length c).ownBlock) b.1 (enc ⟨f0 b.1, b.2.1, b.2.2.1, b.2.2.2⟩)) (fun j hj => by
        have hj2 : j < rows.length := by omega
        have hk := hf j l[j] rows[j] (List.getElem?_eq_getElem hj) (List.getElem?_eq_getElem hj2)
        obtain ⟨p, n, c1, e⟩ := hopen _ _ _ _ hk
        exact ⟨(l[j], (p, n, c1)), List.getElem?_eq_getElem hj, by rw [List.getElem?_eq_getElem hj2, e]; rfl, by rw [e] at hk; exact hk⟩)
    have hl : l = Pl.map Prod.fst := List.ext_getElem? fun j => by
      by_cases hj : j < Pl.length
      · rw [(hP j _ (List.getElem?_eq_getElem hj)).1, List.getElem?_map, List.getElem?_eq_getElem hj]; rfl
      · rw [List.getElem?_eq_none (by omega), List.getElem?_eq_none (by simpa using hj)]
    let toEl : X × (Option Addr × Nat × Nat) → El := fun b => ⟨f0 b.1, b.2.1, b.2.2.1, b.2.2.2⟩
    let D : Array El := (Pl.map toEl).toArray
    have hDs : D.size = l.length := by simp [D, hPl]
    have hcell : ∀ j, j < D.size * 2 → cur[j]? = some (flatK enc 2 D)[j]! := fun j hj => by
      have hj2 : j / 2 < Pl.length := by omega
      have h1 := (hP (j / 2) _ (List.getElem?_eq_getElem hj2)).2.1
      have h3 := (hreps.2 (j / 2) _ h1).1
      have hx : D[j / 2]! = toEl Pl[j / 2] := by rw [getElem!_pos D (j / 2) (by omega)]; simp [D]
      rw [get_flatK enc 2 D j hj, hx]
      have h4 : inner[j]? = (enc (toEl Pl[j / 2]))[j % 2]? := by
        rw [← h3, List.getElem?_take_of_lt (by omega), List.getElem?_drop, show j / 2 * 2 + j % 2 = j by omega]
      have h5 : j % 2 < (enc (toEl Pl[j / 2])).length := by rw [enc_len]; omega
      rw [List.getElem?_eq_getElem h5, ← hct, List.getElem?_take_of_lt (by omega), Array.getElem?_toList] at h4
      rw [h4, getElem!_pos (enc (toEl Pl[j / 2])) (j % 2) h5]
    have hH : HoldsK enc 2 w g 0 D := fun j hj => by
      have hj' : j < D.size * 2 := by simpa using hj
      refine ⟨?_, by simp [World.frozen?, hg]⟩
      rw [Nat.zero_add, blk_cell hg]
      exact hcell j hj'
    have hcalls := sort_calls w gb g 0 l.length c D hDs (by omega) hlen (by rw [blk_cell hb]; rfl) (blk_lt hb) hgne hH hglt
    refine hcalls.mono ?_
    rintro e w' ⟨rfl, d', hd', hS⟩
    obtain ⟨hgr, hcur⟩ := swk_heap hS hglt
    have hg' := hcur cur 37 (0, 0) hg
    refine ⟨rfl, ?_, hgr⟩
    have hs1 : isort f0 l = (isort (fun b => f0 b.1) Pl).map Prod.fst := by
      conv => lhs; rw [hl]
      exact isort_map Prod.fst (fun b => f0 b.1) f0 (fun _ => rfl) Pl
    have hs2 : d'.toList = (isort (fun b => f0 b.1) Pl).map toEl := by
      rw [hd', show D.toList = Pl.map toEl from rfl]
      exact isort_map toEl (fun b => f0 b.1) El.due (fun _ => rfl) Pl
    have hlen' : (isort f0 l).length = l.length := isort_len f0 l
    have hPs : (isort (fun b : X × (Option Addr × Nat × Nat) => f0 b.1) Pl).length = l.length := by rw [isort_len, hPl]
    have hds : d'.size = l.length := by rw [← Array.length_toList, hs2, List.length_map, hPs]
    have hFs : (flatK enc 2 d').size = l.length * 2 := by simp [hds]
    refine ⟨h0, (isort (fun b => f0 b.1) Pl).map (fun b => enc (toEl b)), by rw [List.length_map, hPs, hlen'], ?_, ?_⟩
    · rw [hsz]
      refine ⟨fun k hk => hk.symm, (flatK enc 2 d').toList, ⟨by first | (simp [hds, hPs]; done) | (simp [hds, hPs]; rfl), Or.inr ⟨g, c, putCells id 0 (flatK enc 2 d') cur, by rw [List.length_map, hPs], hbase, hg', by rw [List.length_map, hPs]; exact hnc, hcm, by first | (simp [putCells, hcs]; done) | (simp [putCells, hcs]; rfl), ?_⟩⟩, ⟨by first | (simp [hds, hPs]; done) | (simp [hds, hPs]; rfl), fun j p hj => ?_⟩⟩
      · rw [List.length_map, hPs]
        show (putCells id 0 (flatK enc 2 d') cur).toList.take (l.length * 2) = (flatK enc 2 d').toList
        refine List.ext_getElem? fun t => ?_
        by_cases ht : t < l.length * 2
        · have hlt : t < cur.size := by rw [hcs]; have := Nat.mul_le_mul_right 2 hnc; omega
          rw [List.getElem?_take_of_lt ht, Array.getElem?_toList, putCells, Array.getElem?_mapIdx, Array.getElem?_eq_getElem hlt, Array.getElem?_toList, Array.getElem?_eq_getElem (by omega)]
          simp only [Option.map_some]
          rw [if_pos ⟨Nat.zero_le _, by omega⟩, getElem!_pos (flatK enc 2 d') (t - 0) (by omega)]
          rfl
        · rw [List.getElem?_eq_none (by simp; omega), List.getElem?_eq_none (by simp; omega)]
      · rw [List.getElem?_map] at hj
        obtain ⟨b, hb1, hb2⟩ := Option.map_eq_some_iff.1 hj
        have hb3 : d'.toList[j]? = some (toEl b) := by rw [hs2, List.getElem?_map, hb1]; rfl
        have := flat_rows d' j (toEl b) hb3
        show ((flatK enc 2 d').toList.drop (j * 2)).take 2 = p ∧ (((flatK enc 2 d').toList.drop (j * 2)).take 2).length = 2 ∧ ∀ u ∈ ((flatK enc 2 d').toList.drop (j * 2)).take 2, u.oneCell' = true
        rw [this, ← hb2]
        exact ⟨rfl, enc_len _, enc_one _⟩
    · intro j x cs hx hcs2
      rw [hs1, List.getElem?_map] at hx
      rw [List.getElem?_map] at hcs2
      obtain ⟨b, hb1, hb2⟩ := Option.map_eq_some_iff.1 hx
      rw [hb1] at hcs2
      have hb3 : enc (toEl b) = cs := Option.some.inj hcs2
      have hbm : b ∈ Pl := isort_mem _ Pl b (List.mem_of_getElem? hb1)
      obtain ⟨i, hi⟩ := List.getElem?_of_mem hbm
      have hk := (hP i b hi).2.2
      rw [← hb2, ← hb3]
      exact Kd.FK_step hk fun k hk1 hk2 => hgr.block k hk2 hk1.2
#print axioms sortN
#print axioms swk_heap
end Go.Proofs.Ytipkcbpilkoflaa.Stab
