/- A region's operations one by one; a region in its order; a region whose order is drawn. -/
import Derived.Test.YtopganainjgmmaaEvM
namespace Go.Proofs.Ytopganainjgmmaa.Ev
open Go Go.RowKit
set_option linter.unusedVariables false
set_option linter.unusedSimpArgs false

noncomputable def dstF (o : Oper) : V → E → E := match o.dst with
  | some d => (ea d).set
  | none => fun _ e => e
def reads (all : List Oper) (o : Oper) : List Nat := opTmps o.op ++ guardTmps all o.guard

section
variable {P : Program} {s : Nat → Int} {σ : Sg} {nt : Nat} {e : E} {a : Act} {w0 w : World} {h : H} {ops : Array Oper} {Q : Exit → Act → World → Prop} {run : Run}
theorem Fr.step (hf : Fr s σ nt e a) {o : Oper} (hd : dstOk nt o = true) {v : V} {x : Value} (hv : Rv s σ v x) : Fr s σ nt (dstF o v e) (a.put o.dst x) := by
  unfold dstF
  unfold dstOk at hd
  cases hq : o.dst with
  | none => exact hf
  | some d => rw [hq] at hd; exact hf.put (blt_iff.mp hd) hv
/-- what one operation does -/
def Acts (P : Program) (run : Run) (all : List Oper) (o : Oper) (e : E) (h : H) (v : V) (h' : H) : Prop :=
  (Want (guardF all o.guard) e ∧ opI P o.op run e h = .ok v h') ∨ (Skip (guardF all o.guard) e ∧ v = .undef ∧ h' = h)
theorem wpOp_ok (hR : RunS P s run) {i : Nat} {o : Oper} (ho : ops[i]? = some o) (hd : dstOk nt o = true) (hf : Fr s σ nt e a) (hm : Mem s σ w0 h w) {v : V} {h' : H} (hc : Acts P run ops.toList o e h v h')
    {K : Act → World → Prop} (hK : ∀ σ' a' w', Ext σ σ' → Fr s σ' nt (dstF o v e) a' → Mem s σ' w0 h' w' → K a' w') : wpOp P ops Q i K a w := by
  unfold wpOp
  rw [ho]
  dsimp only
  rcases hc with ⟨hw, hr⟩ | ⟨hs, rfl, rfl⟩
  · rw [(guard_ok hf).1 hw, if_pos rfl]
    exact .inl (step_op hR hf hm hr fun σ' x w' he hv hm' => hK σ' _ w' he ((hf.ext he).step hd hv) hm')
  · rw [(guard_ok hf).2 hs, if_neg (by decide)]
    exact hK σ _ w (Ext.refl σ) (hf.step hd rfl) hm

/-! ### the operations, one behind the other -/
structure Trace (P : Program) (run : Run) (all os : List Oper) (e : E) (h : H) (Ev : Nat → E) (Hv : Nat → H) (vl : Nat → V) : Prop where
  e0 : Ev 0 = e
  h0 : Hv 0 = h
  next : ∀ i o, os[i]? = some o → Ev (i + 1) = dstF o (vl i) (Ev i) ∧ Acts P run all o (Ev i) (Hv i) (vl i) (Hv (i + 1))
def hsOf (Hv : Nat → H) : Nat → List H
  | 0 => [Hv 0]
  | n + 1 => Hv (n + 1) :: hsOf Hv n
def shift {α : Type} (x : α) (f : Nat → α) : Nat → α
  | 0 => x
  | n + 1 => f n
theorem hsOf_shift (h : H) (Hv : Nat → H) : ∀ m, hsOf (shift h Hv) (m + 1) = hsOf Hv m ++ [h]
  | 0 => rfl
  | m + 1 => by
    show Hv (m + 1) :: hsOf (shift h Hv) (m + 1) = Hv (m + 1) :: (hsOf Hv m ++ [h])
    rw [hsOf_shift h Hv m]
theorem hsOf_get (Hv : Nat → H) : ∀ n k, k ≤ n → (hsOf Hv n)[n - k]? = some (Hv k)
  | 0, k, hk => by
    have : k = 0 := by omega
    subst this
    rfl
  | n + 1, k, hk => by
    by_cases hkn : k = n + 1
    · subst hkn
      rw [Nat.sub_self]
      rfl
    · have : n + 1 - k = (n - k) + 1 := by omega
      rw [this]
      show (hsOf Hv n)[n - k]? = _
      exact hsOf_get Hv n k (by omega)
theorem insK_ok {all : List Oper} {o : Oper} {ih : E → H → RE} {e' : E} {h' : H} (hr : insK run (insOf P all o) ih e h = .ok e' h') : ∃ v h1, Acts P run all o e h v h1 ∧ ih (dstF o v e) h1 = .ok e' h' := by
  have hr2 : guardF all o.guard e (RV.rec (motive := fun _ => RE) (fun v h' => ih (dstF o v e) h') (fun n => .bad n) (opI P o.op run e h)) (ih (dstF o .undef e) h) = .ok e' h' := hr
  rcases guard_cases hr2 with hw | hs
  · rw [hw] at hr2
    cases hq : opI P o.op run e h with
    | ok v h1 => rw [hq] at hr2; exact ⟨v, h1, .inl ⟨hw, hq⟩, hr2⟩
    | bad n => rw [hq] at hr2; cases hr2
  · rw [hs] at hr2
    exact ⟨.undef, h, .inr ⟨hs, rfl, rfl⟩, hr2⟩
theorem trace {all : List Oper} : ∀ {os : List Oper} {e : E} {h : H} {hs : List H} {K : E → H → List H → RE} {e' : E} {h' : H}, opsH run (os.map (insOf P all)) e h hs K = .ok e' h' →
    ∃ Ev Hv vl, Trace P run all os e h Ev Hv vl ∧ K (Ev os.length) (Hv os.length) (hsOf Hv os.length ++ hs) = .ok e' h'
  | [], e, h, hs, K, e', h', hr => ⟨fun _ => e, fun _ => h, fun _ => .no, ⟨rfl, rfl, fun i o ho => by simp at ho⟩, hr⟩
  | o :: os, e, h, hs, K, e', h', hr => by
    obtain ⟨v, h1, hact, hr2⟩ := insK_ok (ih := fun e' h' => opsH run (os.map (insOf P all)) e' h' (h :: hs) K) hr
    obtain ⟨Ev, Hv, vl, ht, hk⟩ := trace (os := os) hr2
    refine ⟨shift e Ev, shift h Hv, shift v vl, ⟨rfl, rfl, fun i p hp => ?_⟩, ?_⟩
    · cases i with
      | zero =>
        have : o = p := by simpa using hp
        subst this
        show Ev 0 = dstF o v e ∧ Acts P run all o e h v (Hv 0)
        rw [ht.e0, ht.h0]
        exact ⟨rfl, hact⟩
      | succ i => exact ht.next i p (by simpa using hp)
    · show K (Ev os.length) (Hv os.length) (hsOf (shift h Hv) (os.length + 1) ++ hs) = _
      rw [hsOf_shift, List.append_assoc]
      exact hk
theorem ops1_opsH : ∀ (l : List Ins) (e : E) (h : H) (hs : List H), ops1 run l e h = opsH run l e h hs fun e h _ => .ok e h
  | [], e, h, hs => rfl
  | i :: l, e, h, hs => by
    show insK run i (ops1 run l) e h = insK run i (fun e' h' => opsH run l e' h' (h :: hs) fun e h _ => .ok e h) e h
    have : ops1 run l = fun e' h' => opsH run l e' h' (h :: hs) fun e h _ => .ok e h := by
      funext e' h'
      exact ops1_opsH l e' h' (h :: hs)
    rw [this]

/-- a region in its order -/
theorem plain_wp (hR : RunS P s run) {Ev : Nat → E} {Hv : Nat → H} {vl : Nat → V} (ht : Trace P run ops.toList ops.toList e h Ev Hv vl) (hd : ops.toList.all (dstOk nt) = true)
    (hQ : ∀ σ' a' w', Ext σ σ' → Fr s σ' nt (Ev ops.size) a' → Mem s σ' w0 (Hv ops.size) w' → Q .normal a' w') :
    ∀ m k, k + m = ops.size → ∀ σ' a w, Ext σ σ' → Fr s σ' nt (Ev k) a → Mem s σ' w0 (Hv k) w → wpOps P ops Q (List.range' k m) a w
  | 0, k, hk, σ', a, w, he, hf, hm => by
    have : k = ops.size := by omega
    subst this
    exact hQ σ' a w he hf hm
  | m + 1, k, hk, σ', a, w, he, hf, hm => by
    rw [List.range'_succ, wpOps_cons]
    have hlt : k < ops.size := by omega
    have ho : ops[k]? = some ops[k] := by simp [hlt]
    have ho2 : ops.toList[k]? = some ops[k] := by simp [hlt]
    obtain ⟨h1, h2⟩ := ht.next k _ ho2
    have hdk : dstOk nt ops[k] = true := List.all_eq_true.mp hd _ (List.mem_of_getElem? ho2)
    refine wpOp_ok hR ho hdk hf hm h2 fun σ2 a' w' he2 hf2 hm2 => ?_
    rw [← h1] at hf2
    exact plain_wp hR ht hd hQ m (k + 1) (by omega) σ2 a' w' (he.trans he2) hf2 hm2
end
end Go.Proofs.Ytopganainjgmmaa.Ev
