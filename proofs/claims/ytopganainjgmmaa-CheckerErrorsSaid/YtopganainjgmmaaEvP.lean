/- A region whose order is drawn, walked; what the evaluator's check of it says. -/
import Derived.Test.YtopganainjgmmaaEvO
namespace Go.Proofs.Ytopganainjgmmaa.Ev
open Go Go.RowKit
set_option linter.unusedVariables false
set_option linter.unusedSimpArgs false

def cntTo (S : Array Bool) : Nat → Nat
  | 0 => 0
  | m + 1 => cntTo S m + (if S.getD m true = true then 0 else 1)
theorem cntTo_le (S : Array Bool) : ∀ m, cntTo S m ≤ m
  | 0 => Nat.le_refl _
  | m + 1 => by
    have := cntTo_le S m
    unfold cntTo
    split <;> omega
theorem cntTo_zero {S : Array Bool} : ∀ {m : Nat}, cntTo S m = 0 → ∀ i, i < m → S.getD i true = true
  | 0, _, i, hi => by omega
  | m + 1, h, i, hi => by
    unfold cntTo at h
    by_cases him : i = m
    · subst him
      split at h
      · assumption
      · omega
    · exact cntTo_zero (m := m) (by omega) i (by omega)
theorem cntTo_set {S : Array Bool} {i : Nat} (hi : S.getD i true = false) : ∀ m, (m ≤ i → cntTo (S.setIfInBounds i true) m = cntTo S m) ∧ (i < m → cntTo (S.setIfInBounds i true) m + 1 = cntTo S m)
  | 0 => ⟨fun _ => rfl, fun h => by omega⟩
  | m + 1 => by
    obtain ⟨h1, h2⟩ := cntTo_set hi m
    obtain ⟨hlt, _⟩ := getD_flip hi
    refine ⟨fun hm => ?_, fun hm => ?_⟩
    · unfold cntTo
      rw [h1 (by omega), getD_set_ne true (by omega)]
    · by_cases him : i = m
      · subst him
        unfold cntTo
        rw [h1 (Nat.le_refl _), hi]
        have : (S.setIfInBounds i true).getD i true = true := by simp [hlt]
        rw [this]
        simp
      · unfold cntTo
        rw [getD_set_ne true him]
        have := h2 (by omega)
        omega
section
variable {P : Program} {s : Nat → Int} {σ : Sg} {nt : Nat} {e : E} {h : H} {w0 : World} {ops : Array Oper} {Q : Exit → Act → World → Prop} {run : Run} {A : Nat → Nat → Prop} {Ev : Nat → E} {Hv : Nat → H} {vl : Nat → V}
theorem getD_both {S : Array Bool} {i : Nat} (hi : i < S.size) (h : S.getD i true = true) : S.getD i false = true := by
  simp [hi] at h ⊢
  exact h
theorem all_listed (hS : St P ops.toList A) {S : Array Bool} (hsz : S.size = ops.size) (hr : Region.ready .any ops S = []) : ∀ i, i < ops.size → S.getD i true = true := by
  intro i
  induction i using Nat.strongRecOn with
  | _ i ih =>
    intro hi
    cases hq : S.getD i true with
    | true => rfl
    | false =>
      exfalso
      have : i ∈ Region.ready .any ops S := mem_ready.2 ⟨hq, ops[i], by simp [hi], fun x hx hb => by
        have hl := hS.back i ops[i] x (by simp [hi]) hx hb
        exact getD_both (by omega) (ih x.on hl (by omega))⟩
      rw [hr] at this
      cases this
theorem inv_end (hQt : Quiet P run) (hS : St P ops.toList A) (ht : Trace P run ops.toList ops.toList e h Ev Hv vl)
    (hQ : ∀ σ' a' w', Ext σ σ' → Fr s σ' nt (Ev ops.size) a' → Mem s σ' w0 (Hv ops.size) w' → Q .normal a' w')
    {S : Array Bool} {a : Act} {w : World} {σ' : Sg} {ec : E} {k : Nat} (hI : Inv P s σ nt w0 ops A e Hv vl S a w σ' ec k) (hall : ∀ i, i < ops.size → S.getD i true = true) : Q .normal a w := by
  have hlist : ∀ (c : Nat) (p : Oper), ops.toList[c]? = some p → S.getD c false = true := fun c p hp => by
    have hc : c < ops.size := by
      have := (List.getElem?_eq_some_iff.mp hp).1
      simpa using this
    exact getD_both (by have := hI.size; omega) (hall c hc)
  have hheap : Hv k = Hv ops.size := heap_at hQt ht hI.le (Nat.le_refl _) fun c p hp h2 => by
    have h1 := (hI.chg c p hp h2).1 (hlist c p hp)
    have := (List.getElem?_eq_some_iff.mp hp).1
    have : c < ops.size := by simpa using this
    omega
  refine hQ σ' a w hI.ext ⟨hI.fr.defers, hI.fr.size, fun t hn => ?_⟩ (hheap ▸ hI.mem)
  have hget : (ea t).get (Ev ops.size) = (ea t).get ec := by
    by_cases hw : ∃ (j : Nat) (p : Oper), ops.toList[j]? = some p ∧ p.dst = some t
    · obtain ⟨j, p, hp, hd⟩ := hw
      have hj : j < ops.size := by
        have := (List.getElem?_eq_some_iff.mp hp).1
        simpa using this
      rw [hI.new t j p (hlist j p hp) hp hd, get_new hS ht t j p hp hd ops.size (Nat.le_refl _) hj]
    · rw [hI.old t fun j p _ hp hd => hw ⟨j, p, hp, hd⟩, get_old hS ht t ops.size (Nat.le_refl _) fun j p _ hp hd => hw ⟨j, p, hp, hd⟩]
  rw [hget] at hn ⊢
  exact hI.fr.get t hn
theorem any_ok (hR : RunS P s run) (hQt : Quiet P run) (hS : St P ops.toList A) (ht : Trace P run ops.toList ops.toList e h Ev Hv vl) (hrd : Rd P run ops.toList A Ev Hv vl) (hd : ops.toList.all (dstOk nt) = true)
    (hQ : ∀ σ' a' w', Ext σ σ' → Fr s σ' nt (Ev ops.size) a' → Mem s σ' w0 (Hv ops.size) w' → Q .normal a' w') :
    ∀ (fuel : Nat) (S : Array Bool) (a : Act) (w : World), (∃ σ' ec k, Inv P s σ nt w0 ops A e Hv vl S a w σ' ec k) → cntTo S ops.size ≤ fuel → wpAny P .any ops Q fuel S a w
  | 0, S, a, w, ⟨σ', ec, k, hI⟩, hc => by
    have hall := cntTo_zero (S := S) (m := ops.size) (by omega)
    refine ⟨?_, inv_end hQt hS ht hQ hI hall⟩
    cases hr : Region.ready .any ops S with
    | nil => rfl
    | cons i l =>
      exfalso
      have hi : i ∈ Region.ready .any ops S := by rw [hr]; simp
      obtain ⟨h0, _⟩ := mem_ready.1 hi
      obtain ⟨hlt, _⟩ := getD_flip h0
      rw [hall i (by have := hI.size; omega)] at h0
      cases h0
  | fuel + 1, S, a, w, ⟨σ', ec, k, hI⟩, hc => by
    refine ⟨fun hr => inv_end hQt hS ht hQ hI (all_listed hS hI.size hr), fun i hi => ?_⟩
    refine wpOp_mono (fun a' w' hI' => any_ok hR hQt hS ht hrd hd hQ fuel _ a' w' hI' ?_) (inv_step hR hQt hS ht hrd hd hI hi)
    obtain ⟨h0, _⟩ := mem_ready.1 hi
    obtain ⟨hlt, _⟩ := getD_flip h0
    have := (cntTo_set h0 ops.size).2 (by have := hI.size; omega)
    omega
theorem rep_false (n i : Nat) : (Array.replicate n false).getD i false ≠ true := by
  simp only [Array.getD_eq_getD_getElem?, Array.getElem?_replicate]
  split <;> simp
/-- a region whose order is drawn -/
theorem drawn_wp (hmix : P.follows .mixedOrders = true) (hR : RunS P s run) (hQt : Quiet P run) (hS : St P ops.toList A) (ht : Trace P run ops.toList ops.toList e h Ev Hv vl) (hrd : Rd P run ops.toList A Ev Hv vl) (hd : ops.toList.all (dstOk nt) = true)
    {id : Nat} {a : Act} {w : World} (hf : Fr s σ nt e a) (hm : Mem s σ w0 h w)
    (hQ : ∀ σ' a' w', Ext σ σ' → Fr s σ' nt (Ev ops.size) a' → Mem s σ' w0 (Hv ops.size) w' → Q .normal a' w') : (Code.region id ops true).wp P Q a w := by
  refine wp_region_any hmix (any_ok hR hQt hS ht hrd hd hQ ops.size _ a _ ⟨σ, e, 0, Ext.refl σ, hf, ?_, Nat.zero_le _, by simp, fun i j hi => ?_, fun t _ => rfl, fun t j o hj => ?_, fun c p hp h2 => ⟨fun hc => ?_, fun hc => by omega⟩, .inl rfl⟩ (cntTo_le _ _))
  · rw [ht.h0]; exact hm.drew
  · exact absurd hi (rep_false _ _)
  · exact absurd hj (rep_false _ _)
  · exact absurd hc (rep_false _ _)
end
end Go.Proofs.Ytopganainjgmmaa.Ev
