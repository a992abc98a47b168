/- The evaluator over this program: what it asks of the program, and Mod's contract. -/
import Derived.Test.YtopganainjgmmaaProg
import Derived.Test.YtopganainjgmmaaEvT
import Derived.Below
import Derived.Deep.Draws
import Derived.Tactics
import Derived.WalkKit
import Derived.RowKit3
import Derived.WideLaws
import Derived.Laws.Rows
import Derived.KernelRfl
import Derived.Outline
import Derived.Lib.Hide
namespace Go.Proofs.Ytopganainjgmmaa.Ev
open Go Go.RowKit
set_option linter.unusedVariables false
set_option linter.unusedSimpArgs false
theorem hmix : Try.prog.follows .mixedOrders = true := by kernel_rfl
theorem hngB : Try.prog.funcs.toList.all (fun fn => !(fn.name == "runtime.NumGoroutine")) = true := by kernel_rfl
theorem hng (f : Nat) (fn : Func) (h : Try.prog.funcs[f]? = some fn) : (fn.name == "runtime.NumGoroutine") = false := by
  have h2 : Try.prog.funcs.toList[f]? = some fn := by simpa using h
  have := List.all_eq_true.mp hngB fn (List.mem_of_getElem? h2)
  simpa using this
theorem mod_neg (x k : Int) (hk : 0 < k) (hk2 : k < 4294967296) (h : Int.tmod x k < 0) : wrap64 (Int.tmod x k + k) = x % k := by
  have h1 := Int.tmod_lt_of_pos x hk
  have h3 := @Int.tmod_eq_emod x k
  have h4 := Int.emod_nonneg x (by omega : k ≠ 0)
  have h5 := Int.emod_lt_of_pos x hk
  split at h3
  · omega
  · have : wrap64 (Int.tmod x k + k) = Int.tmod x k + k := by
      unfold wrap64
      omega
    rw [this]; omega
theorem mod_pos (x k : Int) (hk : 0 < k) (h : ¬ Int.tmod x k < 0) : Int.tmod x k = x % k := by
  have h3 := @Int.tmod_eq_emod x k
  have h5 := Int.emod_lt_of_pos x hk
  split at h3 <;> omega
set_option maxHeartbeats 1000000 in
theorem mod_calls (a0 a1 : Int) (w : World) (hk : 0 < a1) (hk2 : a1 < 4294967296) :
    Calls Try.prog 15 #[.int .i64 a0, .int .i64 a1] w fun e w' => e = .returned (.int .i64 (a0 % a1)) ∧ w' = w := by
  have c3 : ¬ a1 = 0 := by omega
  have c3b0 : (a1 == 0) = false := beq_eq_false_iff_ne.mpr (by omega)
  have c3b1 : (a1 != 0) = true := bne_iff_ne.mpr (by omega)
  by_cases c4 : (Int.tmod a0 a1) < 0
  · have c4b0 : decide ((Int.tmod a0 a1) < 0) = true := decide_eq_true c4
    have E := Lib.hid (mod_neg a0 a1 hk hk2 c4)
    clear c4 hk hk2
    go_enter Try.func15, Try.ntmps15
    go_wp2
    go_ret
    exact ⟨by rw [← E.out]; rfl, rfl⟩
  · have c4b0 : decide ((Int.tmod a0 a1) < 0) = false := decide_eq_false c4
    have E := Lib.hid (mod_pos a0 a1 hk c4)
    clear c4 hk hk2
    go_enter Try.func15, Try.ntmps15
    go_wp2
    go_ret
    exact ⟨by rw [← E.out]; rfl, rfl⟩
end Go.Proofs.Ytopganainjgmmaa.Ev
