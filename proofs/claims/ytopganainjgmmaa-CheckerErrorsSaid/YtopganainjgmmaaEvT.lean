/- Calls that look at nothing; the law's call as the evaluator finds it. -/
import Derived.Test.YtopganainjgmmaaEvS
namespace Go.Proofs.Ytopganainjgmmaa.Ev
open Go Go.RowKit
set_option linter.unusedVariables false
set_option linter.unusedSimpArgs false

section
variable {P : Program} {s : Nat → Int} {σ : Sg} {w0 w w' : World} {h : H} {run : Run}
def σ0 : Sg := fun _ => none
theorem Mem.start (w : World) : Mem s σ0 w h0 w :=
  ⟨by decide, fun b x h => (by cases h), Below.refl _ w, fun b => by rw [h0_blk]; trivial, fun b1 b2 x1 x2 h1 => absurd (h0_blk b1) h1⟩
theorem Mem.under (hm : Mem s σ w0 h w) (hb : Below w.heap.size w w') : Mem s σ w0 h w' :=
  ⟨hm.next, hm.dom, hm.below.trans (hb.mono hm.below.size), fun b => (hm.blk b).keep (Ext.refl σ) fun y _ _ hlt => hb.block y.1 hlt, hm.inj⟩
def yes : RV → Bool
  | .ok (.one (.bool true)) _ => true
  | _ => false
theorem yes_ok {r : RV} (h : yes r = true) : ∃ h', r = .ok (.one (.bool true)) h' := by
  unfold yes at h
  split at h
  · exact ⟨_, rfl⟩
  · cases h
/-- a call that takes nothing, evaluated in a memory of its own -/
theorem fresh_ok (hR : RunS P s run) {f : Nat} (hr : yes (run f [] h0) = true) {args : Array Value} (hv : RVs s σ [] args.toList) (hm : Mem s σ w0 h w) : CallS P s σ w0 f args w (.one (.bool true)) h := by
  obtain ⟨h', hr⟩ := yes_ok hr
  have ha : args.toList = [] := by
    cases hq : args.toList with
    | nil => rfl
    | cons x l => rw [hq] at hv; exact hv.elim
  obtain ⟨h1, h2⟩ := hR f [] h0 _ h' hr σ0 w w args (by rw [ha]; trivial) (Mem.start w)
  refine ⟨h1, h2.mono fun e w' he => ?_⟩
  obtain ⟨x, rfl, σ', _, hx, hm'⟩ := he
  exact ⟨x, rfl, σ, Ext.refl σ, hx, hm.under hm'.below⟩
/-- the call itself -/
theorem call_ok (hR : RunS P s run) {f : Nat} {vs : List V} (hr : yes (run f vs h0) = true) (args : Array Value) (hv : RVs s σ0 vs args.toList) (w : World) : Calls P f args w fun e w' => e = .returned (.bool true) ∧ Below w.heap.size w w' := by
  obtain ⟨h', hr⟩ := yes_ok hr
  obtain ⟨h1, h2⟩ := hR f vs h0 _ h' hr σ0 w w args hv (Mem.start w)
  refine h2.mono fun e w' he => ?_
  obtain ⟨x, rfl, σ', _, hx, hm'⟩ := he
  cases (show x = .bool true from hx)
  exact ⟨rfl, hm'.below⟩
end
end Go.Proofs.Ytopganainjgmmaa.Ev
