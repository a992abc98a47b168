-- Written by a program of this session (wip/printer.py of the repo) out of the translation.
import Derived.Test.YtipkcbpilkoflaaSortN
import Derived.Test.YtipkcbpilkoflaaQLinkKeepsx0
namespace Go.Proofs.Ytipkcbpilkoflaa.QLinkKeeps
open Go.RowKit Go.Proofs.YtipkcbpilkoflaaW.PrintWords Go.Proofs.YtipkcbpilkoflaaW.PrintLast Go.Proofs.YtipkcbpilkoflaaW.PrintMore
attribute [local go_sem] max2_int min2_int max_two min_two max_three min_three max_four min_four   -- for this text's walks alone
set_option linter.unusedVariables false
set_option linter.unusedSimpArgs false

/-! ### sort_SliceStable: function 23, a row of the call's own, of any length -/
def sort_SliceStable.f (l0 : List S37) : Option (List S37) := if l0.length < 4398046511104 then some (Stab.isort S37.f0 l0) else none
theorem sort_SliceStable.callsN (A0 : Option Addr) (c0 : Nat) (l0 y : List S37) (w : World) (base : Nat) (ok : Nat → Prop) (gb : Nat) (hN : Kd.N k37 37 w base ok (.slice A0 l0.length c0) l0) (hb : w.heap[gb]? = some (.cells #[.slice A0 l0.length c0] 22 (0, 0))) (hne : some gb ≠ (Value.slice A0 l0.length c0).ownBlock) (h : sort_SliceStable.f l0 = some y) :
    Calls Try.prog 23 #[.iface 22 (.slice A0 l0.length c0), .func (.func 24) #[] #[.pointer (some ⟨gb, 0, none⟩)]] w fun e w' => e = .returned (.tuple #[]) ∧ Kd.N k37 37 w' base ok (.slice A0 y.length c0) y ∧ w.grownBy w' (Value.slice A0 l0.length c0).ownBlock ∧ w'.heap[gb]? = some (.cells #[.slice A0 y.length c0] 22 (0, 0)) := by
  unfold sort_SliceStable.f at h
  by_cases hh : l0.length < 4398046511104
  · rw [if_pos hh] at h
    injection h with h
    have hl : y.length = l0.length := by rw [← h]; exact Stab.isort_len _ _
    refine (Stab.sortN S37.f0 k37 rfl (fun W ok x cs hk => by obtain ⟨A1, c1, e, _⟩ := k37_openF hk; exact ⟨A1, _, c1, e⟩) w base ok A0 c0 l0 gb hN hb hne hh).mono ?_
    rintro e w' ⟨rfl, h1, h2⟩
    rw [hl]
    exact ⟨rfl, by rw [← h]; exact h1, h2, blk_grown hb h2 hne⟩
  · rw [if_neg hh] at h; cases h

end Go.Proofs.Ytipkcbpilkoflaa.QLinkKeeps
