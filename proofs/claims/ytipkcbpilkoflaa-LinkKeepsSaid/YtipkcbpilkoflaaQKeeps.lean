/- LinkKeeps, walked by hand: the array is told as a function of its cells. -/
import Derived.Test.YtipkcbpilkoflaaPureLinkKeeps
namespace Go.Proofs.Ytipkcbpilkoflaa.QKeeps
open Go.RowKit Go.Proofs.Ytipkcbpilkoflaa.QLinkKeeps Go.Proofs.Ytipkcbpilkoflaa.Pure Go.Proofs.YtipkcbpilkoflaaW.PrintWords Go.Proofs.YtipkcbpilkoflaaW.PrintLast Go.Proofs.YtipkcbpilkoflaaW.PrintMore
attribute [local go_sem] max2_int min2_int max_two min_two max_three min_three max_four min_four
set_option linter.unusedVariables false
set_option linter.unusedSimpArgs false

/-! ### the array in memory -/
def Arr (W : World) (g : Nat) (F : Nat → Int) : Prop := ∃ cs : Array Value, W.heap[g]? = some (.cells cs 46 (0, 0)) ∧ ∀ j, j < 1440 → cs[j]? = some (.int .i64 (F j))
namespace Arr
variable {W W1 : World} {g : Nat} {F : Nat → Int}
theorem lt (h : Arr W g F) : g < W.heap.size := by obtain ⟨cs, h, _⟩ := h; exact blk_lt h
theorem cell (h : Arr W g F) (j : Nat) (hj : j < 1440) : W.cell? ⟨g, j, none⟩ = some (.int .i64 (F j)) := by
  obtain ⟨cs, h, hc⟩ := h
  simp [World.cell?, h, hc j hj]
theorem frozen (h : Arr W g F) (j : Nat) : W.frozen? ⟨g, j, none⟩ = false := by
  obtain ⟨cs, h, hc⟩ := h
  simp [World.frozen?, h]
theorem below (h : Arr W g F) (hb : Below W.heap.size W W1) : Arr W1 g F := by
  obtain ⟨cs, h', hc⟩ := h
  exact ⟨cs, (hb.block g (blk_lt h')).trans h', hc⟩
theorem alloc (h : Arr W g F) (o : Obj) : Arr (W.alloc o) g F := h.below (below_alloc (Below.refl _ _) o)
theorem drew (h : Arr W g F) : Arr W.drew g F := h
theorem drewN (h : Arr W g F) (m : Nat) : Arr (W.drewN m) g F := h
theorem set (h : Arr W g F) (j : Nat) (hj : j < 1440) (v : Int) : Arr (W.setCell ⟨g, j, none⟩ (.int .i64 v)) g (fun q => if q = j then v else F q) := by
  obtain ⟨cs, h, hc⟩ := h
  refine ⟨cs.setIfInBounds j (.int .i64 v), ?_, fun q hq => ?_⟩
  · unfold World.setCell
    simp only [Array.getElem?_modify, h]
    simp
  · rw [Array.getElem?_setIfInBounds]
    by_cases e : j = q
    · subst e
      have := hc j hj
      have hs : j < cs.size := (Array.getElem?_eq_some_iff.1 this).1
      simp [hs]
    · have e2 : ¬ q = j := fun h => e h.symm
      simp only [if_neg e, if_neg e2]
      exact hc q hq
end Arr
/-! ### its making -/
noncomputable def T46 : TypeInfo := (Try.prog.info? 46).get (by kernel_rfl)
theorem T46_info : Try.prog.info? 46 = some T46 := by kernel_rfl
def isZ : Value → Bool
  | .int .i64 n => n == 0
  | _ => false
theorem isZ_eq {v : Value} (h : isZ v = true) : v = .int .i64 0 := by
  unfold isZ at h
  split at h
  · simp at h; rw [h]
  · cases h
noncomputable def Z46 : Array Value := match T46.zero with
  | some (.agg c) => c
  | _ => #[]
theorem Z46_zero : T46.zero = some (.agg Z46) := by kernel_rfl
theorem Z46_size : Z46.size = 1440 := by kernel_rfl
theorem Z46_all : Z46.toList.all isZ = true := by kernel_rfl
theorem Z46_get (j : Nat) (h : j < 1440) : Z46[j]? = some (.int .i64 0) := by
  have hj : j < Z46.size := by rw [Z46_size]; exact h
  rw [Array.getElem?_eq_getElem hj]
  exact congrArg some (isZ_eq (List.all_eq_true.mp Z46_all _ (by rw [Array.mem_toList_iff]; exact Array.getElem_mem hj)))
theorem alloc46 (ρ : Operand → Value) (o : Oper) (ho : o.op = .alloc 46) (W : World) : (execOp ρ o).run Try.prog W = .ok (.value (.pointer (some ⟨W.heap.size, 0, none⟩))) (W.alloc (.cells Z46 46 (0, 0))) := by
  have hz := Z46_zero
  have hi := T46_info
  unfold execOp
  rw [ho]
  generalize T46 = T at hz hi
  generalize Z46 = Z at hz
  simp [Instr.alloc, zeroValue, typeInfo, newVar, newRow, newObj, program, Sem.run, bind, Sem.bind, pure, hi, hz, Value.cells]
theorem arr_new (W : World) : Arr (W.alloc (.cells Z46 46 (0, 0))) W.heap.size (fun _ => 0) := ⟨Z46, blk_new W _, Z46_get⟩
end Go.Proofs.Ytipkcbpilkoflaa.QKeeps
