/- CheckerErrors: the calls that are told to the evaluator; 'known' by the kernel. -/
import Derived.Test.YtopganainjgmmaaErrA
namespace Go.Proofs.Ytopganainjgmmaa.Ev
open Go Go.RowKit
set_option linter.unusedVariables false
/-- the calls that are told: Mod of the two arguments, and 'known' -/
noncomputable def orcE (i j : Nat) (f : Nat) (vs : List V) : Option V :=
  ite' (Nat.beq f 15) (match vs with
    | [.one (.sym k), .one (.int .i64 m)] => ite' (Nat.beq k 0) (ite' (intEq m (.ofNat 17)) (some (.one (.int .i64 (.ofNat i)))) none) (ite' (intEq m (.ofNat 4)) (some (.one (.int .i64 (.ofNat j)))) none)
    | _ => none)
  (ite' (Nat.beq f 9) (match vs with
    | [] => some (.one (.bool true))
    | _ => none) none)
noncomputable def errAt (i j : Nat) : Bool := yes (run Try.prog (orcE i j) 1000 6 [.one (.sym 0), .one (.sym 1)] h0)
noncomputable def orcNone (f : Nat) (vs : List V) : Option V := none
theorem known_true : yes (run Try.prog orcNone 1000 9 [] h0) = true := by kernel_rfl
theorem orcNone_ok (s : Nat → Int) : OrcS Try.prog s orcNone := fun f vs v h => by cases h
theorem known_ok {s : Nat → Int} {σ : Sg} {w0 w : World} {h : H} {args : Array Value} (hv : RVs s σ [] args.toList) (hm : Mem s σ w0 h w) : CallS Try.prog s σ w0 9 args w (.one (.bool true)) h :=
  fresh_ok (run_ok hmix hng (orcNone_ok s) 1000) known_true hv hm
/-- Mod, told -/
theorem mod_ok {s : Nat → Int} {σ : Sg} {w0 w : World} {h : H} {args : Array Value} {k : Nat} {m : Int} (h1 : 0 < m) (h2 : m < 4294967296) (hv : RVs s σ [.one (.sym k), .one (.int .i64 m)] args.toList) (hm : Mem s σ w0 h w) :
    CallS Try.prog s σ w0 15 args w (.one (.int .i64 (s k % m))) h := by
  obtain ⟨l, rfl⟩ : ∃ l, args = List.toArray l := ⟨args.toList, by simp⟩
  match l, hv with
  | [x, y], hv =>
    have hx : x = .int .i64 (s k) := hv.1
    have hy : y = .int .i64 m := hv.2.1
    subst hx hy
    refine ⟨enters_of Try.func15 (by kernel_rfl) rfl, ?_⟩
    refine (mod_calls (s k) m w h1 h2).mono fun e w' he => ?_
    obtain ⟨rfl, rfl⟩ := he
    exact ⟨_, rfl, σ, Ext.refl σ, rfl, hm⟩
def sE (a b : Int) (k : Nat) : Int := match k with
  | 0 => a
  | _ => b
theorem orcE_ok (a b : Int) : OrcS Try.prog (sE a b) (orcE (a % 17).toNat (b % 4).toNat) := by
  intro f vs v hr σ w0 w h args hv hm
  unfold orcE at hr
  cases hf : Nat.beq f 15 with
  | true =>
    obtain rfl := Nat.eq_of_beq_eq_true hf
    rw [hf] at hr
    dsimp only [ite'] at hr
    split at hr
    · next k m =>
      cases k with
      | zero =>
        have hr2 : ite' (intEq m (.ofNat 17)) (some (.one (.int .i64 (.ofNat (a % 17).toNat)))) none = some v := hr
        cases hq : intEq m (.ofNat 17) with
        | false => rw [hq] at hr2; cases hr2
        | true =>
          rw [hq] at hr2
          obtain rfl : m = Int.ofNat 17 := by rw [intEq_eq] at hq; exact eq_of_beq hq
          cases hr2
          have := mod_ok (k := 0) (m := 17) (by decide) (by decide) hv hm
          have e : Int.ofNat (a % 17).toNat = sE a b 0 % 17 := Int.toNat_of_nonneg (Int.emod_nonneg _ (by decide))
          rw [e]; exact this
      | succ k =>
        have hr2 : ite' (intEq m (.ofNat 4)) (some (.one (.int .i64 (.ofNat (b % 4).toNat)))) none = some v := hr
        cases hq : intEq m (.ofNat 4) with
        | false => rw [hq] at hr2; cases hr2
        | true =>
          rw [hq] at hr2
          obtain rfl : m = Int.ofNat 4 := by rw [intEq_eq] at hq; exact eq_of_beq hq
          cases hr2
          have := mod_ok (k := k + 1) (m := 4) (by decide) (by decide) hv hm
          have e : Int.ofNat (b % 4).toNat = sE a b (k + 1) % 4 := Int.toNat_of_nonneg (Int.emod_nonneg _ (by decide))
          rw [e]; exact this
    · cases hr
  | false =>
    rw [hf] at hr
    dsimp only [ite'] at hr
    cases hg : Nat.beq f 9 with
    | true =>
      obtain rfl := Nat.eq_of_beq_eq_true hg
      rw [hg] at hr
      dsimp only [ite'] at hr
      split at hr
      · cases hr; exact known_ok hv hm
      · cases hr
    | false => rw [hg] at hr; cases hr
end Go.Proofs.Ytopganainjgmmaa.Ev
