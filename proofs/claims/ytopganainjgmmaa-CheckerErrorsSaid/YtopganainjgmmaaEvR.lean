/- A region, a function's code: what the evaluator says of them. -/
import Derived.Test.YtopganainjgmmaaEvQ
import Derived.LoopN
namespace Go.Proofs.Ytopganainjgmmaa.Ev
open Go Go.RowKit
set_option linter.unusedVariables false
set_option linter.unusedSimpArgs false

section
variable {P : Program} {s : Nat → Int} {σ : Sg} {nt : Nat} {e : E} {h : H} {w0 : World} {ops : Array Oper} {Q : Exit → Act → World → Prop} {run : Run} {Ev : Nat → E} {Hv : Nat → H} {vl : Nat → V}
theorem rd_of {cks : List Chk} (hdr : drawOf P ops.toList = some cks) (ht : Trace P run ops.toList ops.toList e h Ev Hv vl)
    (hc : ∀ c, c ∈ cks → Want c.ins.guard (Ev ops.size) → ∀ p, p ∈ c.at_ → ∃ hh v h1, (hsOf Hv ops.size)[p]? = some hh ∧ c.ins.op run (Ev ops.size) hh = .ok v h1 ∧ eqV v (c.d (Ev ops.size)) = true) :
    Rd P run ops.toList (Anc ops.toList) Ev Hv vl := by
  obtain ⟨hS, hck⟩ := drawOf_St hdr
  intro i o ho hk1
  have hI : ∀ (i : Nat) (o : Oper), ops.toList[i]? = some o → (infs P ops.toList (ancs ops.toList []) 0 ops.toList)[i]? = some (infOf P ops.toList (ancs ops.toList []) i o) := fun i o ho => by
    rw [infs_get P ops.toList (ancs ops.toList []) (i0 := 0) ho, Nat.zero_add]
  have hin : i < ops.size := by
    have := (List.getElem?_eq_some_iff.mp ho).1
    simpa using this
  by_cases hh : hard (infs P ops.toList (ancs ops.toList []) 0 ops.toList) (infOf P ops.toList (ancs ops.toList []) i o) = true
  · right
    intro hw k hk hcut hcond
    obtain ⟨d, hd, hlate, hmem⟩ := cksOf_get hck ho (hI i o ho) hh
    -- the place is one of those looked at
    have hpos : k ∈ posS (infs P ops.toList (ancs ops.toList []) 0 ops.toList) (infOf P ops.toList (ancs ops.toList []) i o) := by
      unfold posS
      refine List.mem_filter.mpr ⟨?_, ?_⟩
      · rcases hcut with rfl | ⟨c, p, rfl, hp, h2⟩
        · simp
        · refine List.mem_cons_of_mem _ (List.mem_map.mpr ⟨_, List.mem_filter.mpr ⟨List.mem_of_getElem? (hI c p hp), ?_⟩, rfl⟩)
          show Nat.beq (kindO P p.op) 2 = true
          rw [h2]
          rfl
      · unfold posOk
        refine List.all_eq_true.mpr fun c hc => ?_
        obtain ⟨j, p, hp, rfl⟩ := infs_mem P _ _ hc
        rw [Nat.zero_add]
        unfold infOf
        dsimp only
        by_cases h2 : kindO P p.op = 2
        · obtain ⟨c1, c2⟩ := hcond j p hp h2
          rw [h2]
          by_cases hjk : j < k
          · rw [blt_iff.mpr hjk]
            have := c1 hjk
            unfold Anc at this
            simpa using this
          · rw [blt_false hjk]
            have := c2 (by omega)
            unfold Anc at this
            simpa using this
        · have : Nat.beq (kindO P p.op) 2 = false := by
            cases hb : Nat.beq (kindO P p.op) 2 with
            | false => rfl
            | true => exact absurd (Nat.eq_of_beq_eq_true hb) h2
          rw [this]
          rfl
    -- the frame at the end is the frame then, at what is read
    have hagr : Agr (Ev ops.size) (Ev i) (reads ops.toList o) := by
      intro t htr
      by_cases hw : ∃ (j : Nat) (p : Oper), ops.toList[j]? = some p ∧ p.dst = some t
      · obtain ⟨j, p, hp, hdp⟩ := hw
        have hji : j < i := by
          have := List.all_eq_true.mp hlate _ (List.mem_of_getElem? (hI j p hp))
          unfold infOf at this
          simp only [hdp] at this
          have h3 : has (opTmps o.op ++ guardTmps ops.toList o.guard) t = true := has_mem htr
          rw [h3] at this
          exact blt_iff.mp (by simpa using this)
        rw [get_new hS ht t j p hp hdp ops.size (Nat.le_refl _) (by omega), get_new hS ht t j p hp hdp i (by omega) hji]
      · rw [get_old hS ht t ops.size (Nat.le_refl _) fun j p _ hp hdp => hw ⟨j, p, hp, hdp⟩, get_old hS ht t i (by omega) fun j p _ hp hdp => hw ⟨j, p, hp, hdp⟩]
    have hwe : Want (guardF ops.toList o.guard) (Ev ops.size) := fun x y => by
      rw [guard_agr (Agr.right (l := opTmps o.op) hagr)]
      exact hw x y
    have hk' : k ≤ ops.size := by simpa using hk
    obtain ⟨hh1, v, h1, hq, hr, he⟩ := hc _ hmem hwe (ops.toList.length - k) (List.mem_map.mpr ⟨k, hpos, rfl⟩)
    rw [Array.length_toList, hsOf_get Hv ops.size k hk'] at hq
    cases hq
    have hr2 : opI P o.op run (Ev ops.size) (Hv k) = .ok v h1 := hr
    rw [opI_agr (Agr.left (m := guardTmps ops.toList o.guard) hagr)] at hr2
    have hv : v = (ea d).get (Ev ops.size) := eqV_eq he
    rw [get_new hS ht d i o ho hd ops.size (Nat.le_refl _) hin] at hv
    exact ⟨h1, by rw [hr2, hv]⟩
  · left
    intro c p hp h2
    unfold hard at hh
    have h3 : Nat.beq (infOf P ops.toList (ancs ops.toList []) i o).k 1 = true := by
      show Nat.beq (kindO P o.op) 1 = true
      rw [hk1]
      rfl
    rw [h3, Bool.true_and] at hh
    have h4 : ordd (infOf P ops.toList (ancs ops.toList []) i o) (infOf P ops.toList (ancs ops.toList []) c p) = true := by
      cases hq : ordd (infOf P ops.toList (ancs ops.toList []) i o) (infOf P ops.toList (ancs ops.toList []) c p) with
      | true => rfl
      | false =>
        exfalso
        refine hh (List.any_eq_true.mpr ⟨_, List.mem_of_getElem? (hI c p hp), ?_⟩)
        rw [hq]
        show (Nat.beq (kindO P p.op) 2 && !false) = true
        rw [h2]
        rfl
    simpa [ordd, infOf, Anc] using h4

theorem region_ok (hmix : P.follows .mixedOrders = true) (hR : RunS P s run) (hQt : Quiet P run) {id : Nat} {draw : Bool} {e' : E} {h' : H} (hr : regRun run (regOf P nt ops draw) e h = .ok e' h') {a : Act} {w : World} (hf : Fr s σ nt e a) (hm : Mem s σ w0 h w)
    (hQ : ∀ σ' a' w', Ext σ σ' → Fr s σ' nt e' a' → Mem s σ' w0 h' w' → Q .normal a' w') : (Code.region id ops draw).wp P Q a w := by
  have hlen : ops.toList.length = ops.size := by simp
  unfold regOf at hr
  split at hr
  · next hd =>
    cases draw with
    | false =>
      have hr2 : ops1 run (ops.toList.map (insOf P ops.toList)) e h = .ok e' h' := hr
      rw [ops1_opsH _ _ _ []] at hr2
      obtain ⟨Ev, Hv, vl, ht, hk⟩ := trace hr2
      rw [hlen] at hk
      injection hk with h1 h2
      subst h1 h2
      refine wp_region ?_
      rw [List.range_eq_range']
      exact plain_wp hR ht hd hQ ops.size 0 (by omega) σ a w (Ext.refl σ) (by rw [ht.e0]; exact hf) (by rw [ht.h0]; exact hm)
    | true =>
      dsimp only at hr
      split at hr
      · next hdr =>
        have hr2 : ops1 run (ops.toList.map (insOf P ops.toList)) e h = .ok e' h' := hr
        rw [ops1_opsH _ _ _ []] at hr2
        obtain ⟨Ev, Hv, vl, ht, hk⟩ := trace hr2
        rw [hlen] at hk
        injection hk with h1 h2
        subst h1 h2
        exact drawn_wp hmix hR hQt (drawOf_St hdr).1 ht (rd_of hdr ht fun c hc => by cases hc) hd hf hm hQ
      · next c l hdr =>
        have hr2 : opsH run (ops.toList.map (insOf P ops.toList)) e h [] (fun e h hs => chks run e hs (.ok e h) (c :: l)) = .ok e' h' := hr
        obtain ⟨Ev, Hv, vl, ht, hk⟩ := trace hr2
        rw [hlen, List.append_nil] at hk
        obtain ⟨hS, hck⟩ := drawOf_St hdr
        obtain ⟨hk1, hk2⟩ := chks_ok (cksOf_form hck) hk
        injection hk1 with h1 h2
        subst h1 h2
        exact drawn_wp hmix hR hQt hS ht (rd_of hdr ht hk2) hd hf hm hQ
      · cases hr
  · cases hr

/-! ### code -/
def Post (s : Nat → Int) (σ : Sg) (nt : Nat) (w0 : World) (Q : Exit → Act → World → Prop) : RS → Prop
  | .normal e h => ∀ σ' a w, Ext σ σ' → Fr s σ' nt e a → Mem s σ' w0 h w → Q .normal a w
  | .exit id e h => ∀ σ' a w, Ext σ σ' → Fr s σ' nt e a → Mem s σ' w0 h w → Q (.exit id) a w
  | .ret e h => ∀ σ' a w, Ext σ σ' → Fr s σ' nt e a → Mem s σ' w0 h w → Q .ret a w
  | .bad _ => False
theorem Post.ext {r : RS} {σ' : Sg} (hp : Post s σ nt w0 Q r) (he : Ext σ σ') : Post s σ' nt w0 Q r := by
  cases r with
  | bad n => exact hp
  | _ => exact fun σ2 a w h1 => hp σ2 a w (he.trans h1)
theorem code_ok (hmix : P.follows .mixedOrders = true) (hR : RunS P s run) (hQt : Quiet P run) (c : Code) : ∀ (e : E) (h : H) (σ : Sg) (a : Act) (w : World) (Q : Exit → Act → World → Prop), Fr s σ nt e a → Mem s σ w0 h w → Post s σ nt w0 Q (code1 P nt run c e h) → c.wp P Q a w := by
  induction c with
  | skip => exact fun e h σ a w Q hf hm hp => wp_skip (hp σ a w (Ext.refl σ) hf hm)
  | region id ops draw =>
    intro e h σ a w Q hf hm hp
    have hp2 : Post s σ nt w0 Q (RE.rec (motive := fun _ => RS) (fun e h => .normal e h) (fun n => .bad n) (regRun run (regOf P nt ops draw) e h)) := hp
    cases hr : regRun run (regOf P nt ops draw) e h with
    | bad n => rw [hr] at hp2; exact hp2.elim
    | ok e' h' =>
      rw [hr] at hp2
      exact region_ok hmix hR hQt hr hf hm hp2
  | seq x y ihx ihy =>
    intro e h σ a w Q hf hm hp
    have hp2 : Post s σ nt w0 Q (thenS (code1 P nt run y) (code1 P nt run x e h)) := hp
    refine wp_seq (ihx e h σ a w _ hf hm ?_)
    cases hr : code1 P nt run x e h with
    | bad n => rw [hr] at hp2; exact hp2
    | normal e1 h1 =>
      rw [hr] at hp2
      exact fun σ1 a1 w1 he1 hf1 hm1 => ihy e1 h1 σ1 a1 w1 Q hf1 hm1 (Post.ext hp2 he1)
    | exit id e1 h1 => rw [hr] at hp2; exact hp2
    | ret e1 h1 => rw [hr] at hp2; exact hp2
  | cond c x y ihx ihy =>
    intro e h σ a w Q hf hm hp
    have hp2 : Post s σ nt w0 Q (oneK (.bad 307) (boolK (.bad 308) fun q => ite' q (code1 P nt run x e h) (code1 P nt run y e h)) ((gt c).f e)) := hp
    cases hv : (gt c).f e with
    | one cc =>
      rw [hv] at hp2
      have hx := gt_one hf hv
      cases cc with
      | bool q =>
        have hx2 : a.eval c = .bool q := hx
        refine wp_cond hx2 ?_
        cases q with
        | true => exact ihx e h σ a w Q hf hm hp2
        | false => exact ihy e h σ a w Q hf hm hp2
      | _ => exact (show False from hp2).elim
    | _ => rw [hv] at hp2; exact (show False from hp2).elim
  | block id x ih =>
    intro e h σ a w Q hf hm hp
    have hp2 : Post s σ nt w0 Q (blockS id (code1 P nt run x e h)) := hp
    refine wp_block (ih e h σ a w _ hf hm ?_)
    cases hr : code1 P nt run x e h with
    | bad n => rw [hr] at hp2; exact hp2
    | normal e1 h1 => rw [hr] at hp2; exact hp2
    | exit j e1 h1 =>
      rw [hr] at hp2
      have hp3 : Post s σ nt w0 Q (ite' (Nat.beq j id) (.normal e1 h1) (.exit j e1 h1)) := hp2
      intro σ1 a1 w1 he1 hf1 hm1
      show Exit.inBlock id Q (.exit j) a1 w1
      unfold Exit.inBlock
      dsimp only
      cases hb : Nat.beq j id with
      | true =>
        rw [hb] at hp3
        rw [if_pos (Nat.eq_of_beq_eq_true hb)]
        exact hp3 σ1 a1 w1 he1 hf1 hm1
      | false =>
        rw [hb] at hp3
        rw [if_neg (fun he => by rw [he, Nat.beq_refl] at hb; cases hb)]
        exact hp3 σ1 a1 w1 he1 hf1 hm1
    | ret e1 h1 => rw [hr] at hp2; exact hp2
  | loop x ih =>
    intro e h σ a w Q hf hm hp
    have key : ∀ (n : Nat) (e : E) (h : H) (σ : Sg) (a : Act) (w : World), Fr s σ nt e a → Mem s σ w0 h w → Post s σ nt w0 Q (loop1 (code1 P nt run x) n e h) → Code.rounds P x Q n a w := by
      intro n
      induction n with
      | zero => exact fun e h σ a w _ _ hp => (show False from hp).elim
      | succ n ihn =>
        intro e h σ a w hf hm hp
        have hp2 : Post s σ nt w0 Q (thenS (loop1 (code1 P nt run x) n) (code1 P nt run x e h)) := hp
        rw [rounds_succ]
        refine ih e h σ a w _ hf hm ?_
        cases hr : code1 P nt run x e h with
        | bad n => rw [hr] at hp2; exact hp2
        | normal e1 h1 =>
          rw [hr] at hp2
          exact fun σ1 a1 w1 he1 hf1 hm1 => ihn e1 h1 σ1 a1 w1 hf1 hm1 (Post.ext hp2 he1)
        | exit id e1 h1 => rw [hr] at hp2; exact hp2
        | ret e1 h1 => rw [hr] at hp2; exact hp2
    exact wp_loop_rounds 1000000 (key 1000000 e h σ a w hf hm hp)
  | exit id => exact fun e h σ a w Q hf hm hp => wp_exit (hp σ a w (Ext.refl σ) hf hm)
  | ret => exact fun e h σ a w Q hf hm hp => wp_ret (hp σ a w (Ext.refl σ) hf hm)
  | _ => exact fun e h σ a w Q hf hm hp => (show False from hp).elim
end
end Go.Proofs.Ytopganainjgmmaa.Ev
