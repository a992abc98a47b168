/- A region whose order is drawn: every order answers as the first one does. -/
import Derived.Test.YtopganainjgmmaaEvN
namespace Go.Proofs.Ytopganainjgmmaa.Ev
open Go Go.RowKit
set_option linter.unusedVariables false
set_option linter.unusedSimpArgs false

/-- what may change places, told of a list of operations; 'A i j': i comes behind j in every order -/
structure St (P : Program) (all : List Oper) (A : Nat → Nat → Prop) : Prop where
  small : ∀ (i : Nat) (o : Oper) (d : Nat), all[i]? = some o → o.dst = some d → d < 256
  anc : ∀ (i : Nat) (o : Oper) (j : Nat), all[i]? = some o → A i j → ∃ x ∈ o.after, Region.binds .any x = true ∧ (x.on = j ∨ A x.on j)
  back : ∀ (i : Nat) (o : Oper) (x : Edge), all[i]? = some o → x ∈ o.after → Region.binds .any x = true → x.on < i
  lt : ∀ i j, A i j → j < i
  w : ∀ (i j : Nat) (o p : Oper) (t : Nat), i ≠ j → all[i]? = some o → all[j]? = some p → o.dst = some t → p.dst ≠ some t
  r : ∀ (i j : Nat) (o p : Oper) (t : Nat), i ≠ j → all[i]? = some o → all[j]? = some p → o.dst = some t → t ∈ reads all p → A j i ∨ A i j
  c : ∀ (i j : Nat) (o p : Oper), i < j → all[i]? = some o → all[j]? = some p → kindO P o.op = 2 → kindO P p.op = 2 → A j i
/-- a place between two changes of the memory -/
def Cut (P : Program) (all : List Oper) (k : Nat) : Prop := k = 0 ∨ ∃ (c : Nat) (p : Oper), k = c + 1 ∧ all[c]? = some p ∧ kindO P p.op = 2
/-- an operation that looks at the memory sees the same at every place at which it may come -/
def Rd (P : Program) (run : Run) (all : List Oper) (A : Nat → Nat → Prop) (Ev : Nat → E) (Hv : Nat → H) (vl : Nat → V) : Prop :=
  ∀ (i : Nat) (o : Oper), all[i]? = some o → kindO P o.op = 1 →
    (∀ (c : Nat) (p : Oper), all[c]? = some p → kindO P p.op = 2 → A c i ∨ A i c) ∨
    (Want (guardF all o.guard) (Ev i) → ∀ k, k ≤ all.length → Cut P all k → (∀ (c : Nat) (p : Oper), all[c]? = some p → kindO P p.op = 2 → (c < k → ¬ A c i) ∧ (k ≤ c → ¬ A i c)) → ∃ h', opI P o.op run (Ev i) (Hv k) = .ok (vl i) h')
def Quiet (P : Program) (run : Run) : Prop := ∀ o, kindO P o ≠ 2 → ∀ e h v h', opI P o run e h = .ok v h' → h' = h

section
variable {P : Program} {s : Nat → Int} {σ : Sg} {nt : Nat} {e : E} {h : H} {w0 : World} {ops : Array Oper} {Q : Exit → Act → World → Prop} {run : Run} {A : Nat → Nat → Prop} {Ev : Nat → E} {Hv : Nat → H} {vl : Nat → V}
theorem dst_get (o : Oper) (v : V) (e : E) (hs : ∀ d, o.dst = some d → d < 256) (t : Nat) : (o.dst = some t → (ea t).get (dstF o v e) = v) ∧ (o.dst ≠ some t → (ea t).get (dstF o v e) = (ea t).get e) := by
  unfold dstF
  cases hq : o.dst with
  | none => exact ⟨fun h => (by cases h), fun _ => rfl⟩
  | some d =>
    have hd := hs d hq
    refine ⟨fun h => ?_, fun h => ?_⟩
    · cases h
      show (ea t).get ((ea t).set v e) = v
      rw [ea_get_set t t v e hd, if_pos rfl]
    · show (ea t).get ((ea d).set v e) = _
      rw [ea_get_set t d v e hd, if_neg (fun he => h (by rw [he]))]
theorem get_old (hS : St P ops.toList A) (ht : Trace P run ops.toList ops.toList e h Ev Hv vl) (t : Nat) : ∀ i, i ≤ ops.size → (∀ (j : Nat) (o : Oper), j < i → ops.toList[j]? = some o → o.dst ≠ some t) → (ea t).get (Ev i) = (ea t).get e
  | 0, _, _ => by rw [ht.e0]
  | i + 1, hi, hn => by
    have ho : ops.toList[i]? = some ops[i] := by simp
    obtain ⟨h1, _⟩ := ht.next i _ ho
    rw [h1, (dst_get _ _ _ (fun d hd => hS.small i _ d ho hd) t).2 (hn i _ (by omega) ho)]
    exact get_old hS ht t i (by omega) fun j o hj => hn j o (by omega)
theorem get_new (hS : St P ops.toList A) (ht : Trace P run ops.toList ops.toList e h Ev Hv vl) (t j : Nat) (p : Oper) (hp : ops.toList[j]? = some p) (hd : p.dst = some t) : ∀ i, i ≤ ops.size → j < i → (ea t).get (Ev i) = vl j
  | 0, _, hj => by omega
  | i + 1, hi, hj => by
    have ho : ops.toList[i]? = some ops[i] := by simp
    obtain ⟨h1, _⟩ := ht.next i _ ho
    rw [h1]
    have hg := dst_get ops[i] (vl i) (Ev i) (fun d hd => hS.small i _ d ho hd) t
    by_cases hji : j = i
    · subst hji
      rw [hp] at ho
      cases ho
      exact hg.1 hd
    · rw [hg.2 (hS.w j i p _ t hji hp ho hd)]
      exact get_new hS ht t j p hp hd i (by omega) (by omega)
theorem heap_same (hQt : Quiet P run) (ht : Trace P run ops.toList ops.toList e h Ev Hv vl) (k : Nat) : ∀ l, k ≤ l → l ≤ ops.size → (∀ (c : Nat) (p : Oper), k ≤ c → c < l → ops.toList[c]? = some p → kindO P p.op ≠ 2) → Hv l = Hv k
  | 0, hk, _, _ => by
    have : k = 0 := by omega
    rw [this]
  | l + 1, hk, hl, hn => by
    by_cases hkl : k = l + 1
    · rw [hkl]
    · have ho : ops.toList[l]? = some ops[l] := by simp
      obtain ⟨_, h2⟩ := ht.next l _ ho
      have ih := heap_same hQt ht k l (by omega) (by omega) fun c p h1 h2 => hn c p h1 (by omega)
      rw [← ih]
      rcases h2 with ⟨_, hr⟩ | ⟨_, _, hh⟩
      · exact hQt _ (hn l _ (by omega) (by omega) ho) _ _ _ _ hr
      · exact hh

structure Inv (P : Program) (s : Nat → Int) (σ : Sg) (nt : Nat) (w0 : World) (ops : Array Oper) (A : Nat → Nat → Prop) (e : E) (Hv : Nat → H) (vl : Nat → V) (S : Array Bool) (a : Act) (w : World) (σ' : Sg) (ec : E) (k : Nat) : Prop where
  ext : Ext σ σ'
  fr : Fr s σ' nt ec a
  mem : Mem s σ' w0 (Hv k) w
  le : k ≤ ops.size
  size : S.size = ops.size
  closed : ∀ i j, S.getD i false = true → A i j → S.getD j false = true
  old : ∀ t, (∀ (j : Nat) (o : Oper), S.getD j false = true → ops.toList[j]? = some o → o.dst ≠ some t) → (ea t).get ec = (ea t).get e
  new : ∀ (t j : Nat) (o : Oper), S.getD j false = true → ops.toList[j]? = some o → o.dst = some t → (ea t).get ec = vl j
  chg : ∀ (c : Nat) (p : Oper), ops.toList[c]? = some p → kindO P p.op = 2 → (S.getD c false = true ↔ c < k)
  cut : Cut P ops.toList k

theorem getD_self {S : Array Bool} {i : Nat} (hi : i < S.size) : (S.setIfInBounds i true).getD i false = true := by
  simp [hi]
theorem getD_flip {S : Array Bool} {i : Nat} (hi : S.getD i true = false) : i < S.size ∧ S.getD i false = false := by
  rcases Nat.lt_or_ge i S.size with hl | hl
  · refine ⟨hl, ?_⟩
    simp [hl] at hi ⊢
    exact hi
  · simp [Array.getElem?_eq_none hl] at hi
theorem ready_anc (hS : St P ops.toList A) {S : Array Bool} {a : Act} {w : World} {σ' : Sg} {ec : E} {k i j : Nat} (hI : Inv P s σ nt w0 ops A e Hv vl S a w σ' ec k) (hi : i ∈ Region.ready .any ops S) (hA : A i j) : S.getD j false = true := by
  obtain ⟨h0, o, ho, hb⟩ := mem_ready.1 hi
  obtain ⟨x, hx, hbx, hj⟩ := hS.anc i o j (by simpa using ho) hA
  have h1 := hb x hx hbx
  rcases hj with rfl | hj
  · exact h1
  · exact hI.closed _ _ h1 hj
theorem ready_agr (hS : St P ops.toList A) (ht : Trace P run ops.toList ops.toList e h Ev Hv vl) {S : Array Bool} {a : Act} {w : World} {σ' : Sg} {ec : E} {k i : Nat} (hI : Inv P s σ nt w0 ops A e Hv vl S a w σ' ec k) (hi : i ∈ Region.ready .any ops S)
    {o : Oper} (ho : ops.toList[i]? = some o) : Agr ec (Ev i) (reads ops.toList o) := by
  obtain ⟨h0, _⟩ := mem_ready.1 hi
  obtain ⟨hlt, hun⟩ := getD_flip h0
  have hlt' : i ≤ ops.size := by have := hI.size; omega
  intro t htr
  by_cases hw : ∃ (j : Nat) (p : Oper), ops.toList[j]? = some p ∧ p.dst = some t
  · obtain ⟨j, p, hp, hd⟩ := hw
    have only : ∀ (j' : Nat) (p' : Oper), ops.toList[j']? = some p' → p'.dst = some t → j' = j := fun j' p' hp' hd' => by
      by_cases hjj : j = j'
      · exact hjj.symm
      · exact absurd hd' (hS.w j j' p p' t hjj hp hp' hd)
    have notS : S.getD j false ≠ true → (ea t).get ec = (ea t).get e := fun hn => hI.old t fun j' p' hs' hp' hd' => by
      have := only j' p' hp' hd'
      subst this
      exact hn hs'
    have notLt : ¬ j < i → (ea t).get (Ev i) = (ea t).get e := fun hn => get_old hS ht t i hlt' fun j' p' hj' hp' hd' => by
      have := only j' p' hp' hd'
      omega
    by_cases hji : j = i
    · subst hji
      rw [notS (by rw [hun]; decide), notLt (by omega)]
    · rcases hS.r j i p o t hji hp ho hd htr with hA | hA
      · rw [hI.new t j p (ready_anc hS hI hi hA) hp hd, get_new hS ht t j p hp hd i hlt' (hS.lt _ _ hA)]
      · have hns : S.getD j false ≠ true := fun hsj => by
          have := hI.closed j i hsj hA
          rw [hun] at this
          cases this
        have := hS.lt _ _ hA
        rw [notS hns, notLt (by omega)]
  · have hnone : ∀ (j : Nat) (p : Oper), ops.toList[j]? = some p → p.dst ≠ some t := fun j p hp hd => hw ⟨j, p, hp, hd⟩
    rw [hI.old t fun j p _ hp => hnone j p hp, get_old hS ht t i hlt' fun j p _ hp => hnone j p hp]
/-- where the changes listed are those ahead of i -/
theorem heap_at (hQt : Quiet P run) (ht : Trace P run ops.toList ops.toList e h Ev Hv vl) {k i : Nat} (hk : k ≤ ops.size) (hi : i ≤ ops.size) (hc : ∀ (c : Nat) (p : Oper), ops.toList[c]? = some p → kindO P p.op = 2 → (c < k ↔ c < i)) : Hv k = Hv i := by
  rcases Nat.le_total k i with hle | hle
  · refine (heap_same hQt ht k i hle hi fun c p h1 h2 hp hk2 => ?_).symm
    have := hc c p hp hk2
    omega
  · refine heap_same hQt ht i k hle hk fun c p h1 h2 hp hk2 => ?_
    have := hc c p hp hk2
    omega
theorem inv_step (hR : RunS P s run) (hQt : Quiet P run) (hS : St P ops.toList A) (ht : Trace P run ops.toList ops.toList e h Ev Hv vl) (hrd : Rd P run ops.toList A Ev Hv vl) (hd : ops.toList.all (dstOk nt) = true)
    {S : Array Bool} {a : Act} {w : World} {σ' : Sg} {ec : E} {k i : Nat} (hI : Inv P s σ nt w0 ops A e Hv vl S a w σ' ec k) (hi : i ∈ Region.ready .any ops S) :
    wpOp P ops Q i (fun a' w' => ∃ σ2 ec2 k2, Inv P s σ nt w0 ops A e Hv vl (S.setIfInBounds i true) a' w' σ2 ec2 k2) a w := by
  obtain ⟨h0, o, ho', hb⟩ := mem_ready.1 hi
  obtain ⟨hlt, hun⟩ := getD_flip h0
  have ho : ops.toList[i]? = some o := by simpa using ho'
  have hiN : i < ops.size := by have := hI.size; omega
  have hagr := ready_agr hS ht hI hi ho
  obtain ⟨_, hact⟩ := ht.next i o ho
  have hanc : ∀ j, A i j → S.getD j false = true := fun j => ready_anc hS hI hi
  have hdo : dstOk nt o = true := List.all_eq_true.mp hd _ (List.mem_of_getElem? ho)
  have hg : ∀ x y, guardF ops.toList o.guard ec x y = guardF ops.toList o.guard (Ev i) x y := fun x y => guard_agr (Agr.right (l := opTmps o.op) hagr)
  have hop : ∀ hh, opI P o.op run ec hh = opI P o.op run (Ev i) hh := fun hh => opI_agr (Agr.left (m := guardTmps ops.toList o.guard) hagr)
  -- the new state
  have fin : ∀ (h' : H) (k2 : Nat), Acts P run ops.toList o ec (Hv k) (vl i) h' → h' = Hv k2 → k2 ≤ ops.size → Cut P ops.toList k2 → (∀ (c : Nat) (p : Oper), ops.toList[c]? = some p → kindO P p.op = 2 → ((S.setIfInBounds i true).getD c false = true ↔ c < k2)) →
      wpOp P ops Q i (fun a' w' => ∃ σ2 ec2 k2, Inv P s σ nt w0 ops A e Hv vl (S.setIfInBounds i true) a' w' σ2 ec2 k2) a w := by
    intro h' k2 hac hh hk2 hcut hchg
    subst hh
    refine wpOp_ok hR ho' hdo hI.fr hI.mem hac fun σ2 a' w' he2 hf2 hm2 => ⟨σ2, dstF o (vl i) ec, k2, hI.ext.trans he2, hf2, hm2, hk2, by simpa using hI.size, fun x y hx hxy => ?_, fun t hn => ?_, fun t j p hj hp hdp => ?_, hchg, hcut⟩
    · have hSy : S.getD y false = true := by
        by_cases hxi : i = x
        · subst hxi; exact hanc y hxy
        · rw [getD_set_ne false hxi] at hx; exact hI.closed x y hx hxy
      exact getD_set_true hSy
    · have hself := getD_self (S := S) hlt
      rw [(dst_get o (vl i) ec (fun d hd => hS.small i o d ho hd) t).2 (hn i o hself ho)]
      exact hI.old t fun j p hj => hn j p (getD_set_true hj)
    · have hget := dst_get o (vl i) ec (fun d hd => hS.small i o d ho hd) t
      by_cases hij : i = j
      · subst hij
        rw [ho] at hp
        cases hp
        exact hget.1 hdp
      · rw [hget.2 (fun ho2 => hS.w i j o p t hij ho hp ho2 hdp)]
        rw [getD_set_ne false hij] at hj
        exact hI.new t j p hj hp hdp
  -- changes listed, before and behind
  have chgS : ∀ (c : Nat) (p : Oper), ops.toList[c]? = some p → kindO P p.op = 2 → i ≠ c → ((S.setIfInBounds i true).getD c false = true ↔ c < k) := fun c p hp h2 hic => by
    rw [getD_set_ne false hic]
    exact hI.chg c p hp h2
  by_cases hk2 : kindO P o.op = 2
  · -- a change
    have hmine : ∀ (c : Nat) (p : Oper), ops.toList[c]? = some p → kindO P p.op = 2 → (c < k ↔ c < i) := fun c p hp h2 => by
      rw [← hI.chg c p hp h2]
      refine ⟨fun hc => ?_, fun hc => hanc c (hS.c c i p o hc hp ho h2 hk2)⟩
      rcases Nat.lt_trichotomy c i with hlt2 | heq | hgt
      · exact hlt2
      · subst heq; rw [hun] at hc; cases hc
      · have := hI.closed c i hc (hS.c i c o p hgt ho hp hk2 h2)
        rw [hun] at this
        cases this
    have hheap : Hv k = Hv i := heap_at hQt ht hI.le (by omega) hmine
    refine fin (Hv (i + 1)) (i + 1) ?_ rfl (by omega) (.inr ⟨i, o, rfl, ho, hk2⟩) fun c p hp h2 => ?_
    · rcases hact with ⟨hw, hr⟩ | ⟨hs, hv, hh⟩
      · exact .inl ⟨fun x y => by rw [hg]; exact hw x y, by rw [hop, hheap]; exact hr⟩
      · exact .inr ⟨fun x y => by rw [hg]; exact hs x y, hv, by rw [hh, hheap]⟩
    · by_cases hic : i = c
      · subst hic
        exact ⟨fun _ => by omega, fun _ => getD_self hlt⟩
      · rw [chgS c p hp h2 hic, hmine c p hp h2]
        omega
  · -- no change
    refine fin (Hv k) k ?_ rfl hI.le hI.cut fun c p hp h2 => chgS c p hp h2 fun hic => ?_
    · rcases hact with ⟨hw, hr⟩ | ⟨hs, hv, hh⟩
      · refine .inl ⟨fun x y => by rw [hg]; exact hw x y, ?_⟩
        rw [hop]
        suffices hsuf : ∃ h', opI P o.op run (Ev i) (Hv k) = .ok (vl i) h' by
          obtain ⟨h', hr'⟩ := hsuf
          have := hQt _ hk2 _ _ _ _ hr'
          subst this
          exact hr'
        by_cases hpu : pureO P o.op = true
        · have hI1 : ∀ hh, opI P o.op run (Ev i) hh = (op1 P o.op).f (Ev i) hh := fun hh => by
            cases hq : o.op with
            | call c =>
              rw [hq] at hpu
              unfold opI
              dsimp only
              cases hc : c.callee with
              | value y =>
                have : (match c.callee with
                  | .builtin .len => true
                  | _ => false) = true := hpu
                rw [hc] at this
                cases this
              | _ => rfl
            | _ => rfl
          rw [hI1] at hr ⊢
          exact ⟨_, (pure_any hpu hr (Hv k)).1⟩
        · have hk1 : kindO P o.op = 1 := by
            revert hk2 hpu
            generalize o.op = q
            intro hk2 hpu
            unfold kindO at hk2 ⊢
            cases hpp : pureO P q with
            | true => exact absurd hpp hpu
            | false =>
              rw [hpp] at hk2
              dsimp only at hk2 ⊢
              cases q with
              | load _ _ => rfl
              | lookup _ _ _ _ => rfl
              | call c =>
                dsimp only at hk2 ⊢
                cases hc : c.callee with
                | value y =>
                  rw [hc] at hk2
                  cases y with
                  | func f =>
                    dsimp only at hk2 ⊢
                    cases hqf : quietF P f with
                    | true => rfl
                    | false => rw [hqf] at hk2; exact absurd rfl hk2
                  | _ => exact absurd rfl hk2
                | _ => rw [hc] at hk2; exact absurd rfl hk2
              | _ => exact absurd rfl hk2
          rcases hrd i o ho hk1 with hord | hchk
          · have hheap : Hv k = Hv i := heap_at hQt ht hI.le (by omega) fun c p hp h2 => by
              rw [← hI.chg c p hp h2]
              rcases hord c p hp h2 with hA | hA
              · have hl := hS.lt _ _ hA
                refine ⟨fun hc => ?_, fun hc => by omega⟩
                have := hI.closed c i hc hA
                rw [hun] at this
                cases this
              · exact ⟨fun _ => hS.lt _ _ hA, fun _ => hanc c hA⟩
            rw [hheap]
            exact ⟨_, hr⟩
          · refine hchk hw k (by simpa using hI.le) hI.cut fun c p hp h2 => ⟨fun hc hA => ?_, fun hc hA => ?_⟩
            · have := hI.closed c i ((hI.chg c p hp h2).2 hc) hA
              rw [hun] at this
              cases this
            · have := (hI.chg c p hp h2).1 (hanc c hA)
              omega
      · exact .inr ⟨fun x y => by rw [hg]; exact hs x y, hv, rfl⟩
    · subst hic
      rw [ho] at hp
      cases hp
      exact hk2 h2
end
end Go.Proofs.Ytopganainjgmmaa.Ev
