/- What a reading of an argument says in the words of the printed contracts: slices, structs, whole numbers, in each other; and the bounds that the reading's weights give. -/
import Derived.Test.YtipkcbpilkoflaaWWords
import Derived.SizedLaws
import Derived.ProofKit
import Derived.Deep.Strs
namespace Go.Proofs.Ytipkcbpilkoflaa
open Go.ChangeShapes Go.WideShapes Go.RowKit Go.Proofs.YtipkcbpilkoflaaW.PrintWords

section
variable {P : Program} {W : World}
/-- A kind opens at a type: whatever cells read as the type hold something of the kind, with G of it. -/
def Opn {α : Type} (P : Program) (W : World) (K : Kd α) (t : TypeId) (G : α → Prop) : Prop :=
  ∀ (H : Type) (enc : TypeId × Value → H) (fuel : Nat) (cs : List Value) (x : DataW H × List MemPlace),
    DataW.trod enc P W 0 (fun _ => true) true fuel t cs = some x → (∀ n ∈ DataW.weights P t x.1, n ≤ reachBytes) → ∃ a, K.K W a cs ∧ G a

theorem opn_int {k : IntKind} {t : TypeId} (ht : P.underlying t = some (.int k)) : Opn P W (Kd.int k) t (fun a => (Lit.int k a).wf = true) := by
  intro H enc fuel cs x h _
  obtain ⟨n, rfl, rfl, wf⟩ := DataW.trod_int ht h
  exact ⟨n, rfl, wf⟩

theorem weights_mem_all {H : Type} {e : TypeId} : ∀ {l : List (DataW H)} {d : DataW H}, d ∈ l → ∀ n ∈ d.weights P e, n ∈ DataW.weightsAll P e l
  | [], _, h, _, _ => by cases h
  | d0 :: l, d, h, n, hn => by
    simp only [DataW.weightsAll, List.mem_append]
    rcases List.mem_cons.1 h with rfl | h
    · exact .inl hn
    · exact .inr (weights_mem_all h n hn)

theorem list_of_each {α : Type} {R : Nat → α → Prop} : ∀ n : Nat, (∀ i, i < n → ∃ a, R i a) → ∃ l : List α, l.length = n ∧ ∀ (i : Nat) a, l[i]? = some a → R i a
  | 0, _ => ⟨[], rfl, by simp⟩
  | n + 1, h => by
    obtain ⟨l, hl, hr⟩ := list_of_each n (fun i hi => h i (by omega))
    obtain ⟨a, ha⟩ := h n (by omega)
    refine ⟨l ++ [a], by simp [hl], ?_⟩
    intro i b hb
    by_cases hi : i < l.length
    · rw [List.getElem?_append_left hi] at hb
      exact hr i b hb
    · by_cases he : i = l.length
      · subst he
        rw [List.getElem?_append_right (Nat.le_refl _)] at hb
        simp at hb
        subst hb
        rwa [hl]
      · rw [List.getElem?_eq_none (by simp; omega)] at hb
        cases hb

theorem opn_slice {α : Type} {K : Kd α} {G : α → Prop} {t e : TypeId} {B : Nat} (ht : P.underlying t = some (.slice e)) (hs : P.cellsOf e = K.sz) (hB : P.bytesOf e = B) (hK : Opn P W K e G) :
    Opn P W (Kd.slice e K) t (fun l => l.length * B ≤ reachBytes ∧ ∀ a ∈ l, G a) := by
  intro H enc fuel cs x h hw
  rcases DataW.trod_slice ht h with ⟨rfl, rfl⟩ | ⟨a, len, cap, elems, rest, n, rfl, rfl, rfl, hb, hl, hm, hlen, hel, hsp, hns⟩
  · exact ⟨[], ⟨none, 0, rfl, Nat.le_refl _, Kd.C_nil _ _⟩, by simp, by simp⟩
  · have hwl : (elems.length + rest.length) * B ≤ reachBytes := hw _ (by simp [DataW.weights, ht, hB])
    have each : ∀ i, i < len → ∃ p, (∃ c, W.cells? 0 (a.add (i * K.sz)) K.sz = some c ∧ K.K W p c) ∧ G p := by
      intro i hi
      have h1 := hel i hi
      rw [hs] at h1
      rw [List.getElem?_eq_getElem (by omega)] at h1
      obtain ⟨c, hc, htr⟩ := Option.bind_eq_some_iff.1 h1
      obtain ⟨p, hp, hg⟩ := hK H enc n c _ htr (fun m hm => hw m (by
        simp only [DataW.weights, ht, List.mem_cons, List.mem_append]
        exact .inr (.inl (weights_mem_all (List.mem_map_of_mem (List.getElem_mem _)) m hm))))
      exact ⟨p, ⟨c, hc, hp⟩, hg⟩
    obtain ⟨l, hll, hr⟩ := list_of_each len each
    have hmax : cap ≤ maxLen := hm
    refine ⟨l, ⟨some a, cap, by rw [hll], by omega, rfl, ?_, fun hpos => ⟨a, rfl, ?_⟩⟩, ?_, ?_⟩
    · rw [hll]; unfold maxLen at hmax; omega
    · intro j p hp
      obtain ⟨⟨c, hc, hkc⟩, _⟩ := hr j p hp
      have hlenc := K.K_len hkc
      refine ⟨c, hlenc, hkc, ?_⟩
      intro i u hu
      have := World.cells?_some hc
      have hi : i < K.sz := by
        rw [← hlenc]
        exact (List.getElem?_eq_some_iff.1 hu).1
      have e := this.2.2 i hi
      rw [Addr.add_add] at e
      rw [e]; exact hu
    · rw [hll]
      have : len * B ≤ (elems.length + rest.length) * B := Nat.mul_le_mul_right _ (by omega)
      omega
    · intro p hp
      obtain ⟨j, hj, rfl⟩ := List.mem_iff_getElem.1 hp
      exact (hr j _ (List.getElem?_eq_getElem hj)).2

theorem opn_iso {α β : Type} {K : Kd α} {G : α → Prop} {t : TypeId} (f : β → α) (g : α → β) (hfg : ∀ a, f (g a) = a) (hK : Opn P W K t G) : Opn P W (Kd.iso K f) t (fun b => G (f b)) := by
  intro H enc fuel cs x h hw
  obtain ⟨a, ha, hg⟩ := hK H enc fuel cs x h hw
  exact ⟨g a, by show K.K W (f (g a)) cs; rw [hfg]; exact ha, by show G (f (g a)); rw [hfg]; exact hg⟩

theorem opn_pair {α β : Type} {K0 : Kd α} {K1 : Kd β} {G0 : α → Prop} {G1 : β → Prop} {t : TypeId} {f0 f1 : Field} (ht : P.underlying t = some (.struct #[f0, f1])) (hC : P.cellsOf t = K0.sz + K1.sz)
    (o0 : f0.offset = 0) (o1 : f1.offset = K0.sz) (c0 : P.cellsOf f0.type = K0.sz) (c1 : P.cellsOf f1.type = K1.sz) (h0 : Opn P W K0 f0.type G0) (h1 : Opn P W K1 f1.type G1) :
    Opn P W (Kd.pair K0 K1) t (fun x => G0 x.1 ∧ G1 x.2) := by
  intro H enc fuel cs x h hw
  obtain ⟨y0, y1, n, rfl, hl, e0, e1⟩ := trod_struct2 ht h
  have w0 : ∀ m ∈ DataW.weights P f0.type y0.1, m ≤ reachBytes := fun m hm => hw m (by simp only [DataW.weights, ht, DataW.weightsEach, List.map_cons, List.map_nil, List.mem_append]; exact .inl hm)
  have w1 : ∀ m ∈ DataW.weights P f1.type y1.1, m ≤ reachBytes := fun m hm => hw m (by simp only [DataW.weights, ht, DataW.weightsEach, List.map_cons, List.map_nil, List.mem_append]; exact .inr (.inl hm))
  obtain ⟨a0, k0, g0⟩ := h0 H enc n _ _ e0 w0
  obtain ⟨a1, k1, g1⟩ := h1 H enc n _ _ e1 w1
  rw [o0, c0, List.drop_zero] at k0
  rw [o1, c1] at k1
  have hd : (cs.drop K0.sz).take K1.sz = cs.drop K0.sz := List.take_of_length_le (by simp; omega)
  rw [hd] at k1
  exact ⟨(a0, a1), ⟨cs.take K0.sz, cs.drop K0.sz, (List.take_append_drop _ _).symm, k0, k1⟩, g0, g1⟩

theorem opn_triple {α β γ : Type} {K0 : Kd α} {K1 : Kd β} {K2 : Kd γ} {G0 : α → Prop} {G1 : β → Prop} {G2 : γ → Prop} {t : TypeId} {f0 f1 f2 : Field} (ht : P.underlying t = some (.struct #[f0, f1, f2])) (hC : P.cellsOf t = K0.sz + (K1.sz + K2.sz))
    (o0 : f0.offset = 0) (o1 : f1.offset = K0.sz) (o2 : f2.offset = K0.sz + K1.sz) (c0 : P.cellsOf f0.type = K0.sz) (c1 : P.cellsOf f1.type = K1.sz) (c2 : P.cellsOf f2.type = K2.sz) (h0 : Opn P W K0 f0.type G0) (h1 : Opn P W K1 f1.type G1) (h2 : Opn P W K2 f2.type G2) :
    Opn P W (Kd.pair K0 (Kd.pair K1 K2)) t (fun x => G0 x.1 ∧ G1 x.2.1 ∧ G2 x.2.2) := by
  intro H enc fuel cs x h hw
  obtain ⟨y0, y1, y2, n, rfl, hl, e0, e1, e2⟩ := Go.Deep.trod_struct3 ht h
  have w0 : ∀ m ∈ DataW.weights P f0.type y0.1, m ≤ reachBytes := fun m hm => hw m (by simp only [DataW.weights, ht, DataW.weightsEach, List.map_cons, List.map_nil, List.mem_append]; exact .inl hm)
  have w1 : ∀ m ∈ DataW.weights P f1.type y1.1, m ≤ reachBytes := fun m hm => hw m (by simp only [DataW.weights, ht, DataW.weightsEach, List.map_cons, List.map_nil, List.mem_append]; exact .inr (.inl hm))
  have w2 : ∀ m ∈ DataW.weights P f2.type y2.1, m ≤ reachBytes := fun m hm => hw m (by simp only [DataW.weights, ht, DataW.weightsEach, List.map_cons, List.map_nil, List.mem_append]; exact .inr (.inr (.inl hm)))
  obtain ⟨a0, k0, g0⟩ := h0 H enc n _ _ e0 w0
  obtain ⟨a1, k1, g1⟩ := h1 H enc n _ _ e1 w1
  obtain ⟨a2, k2, g2⟩ := h2 H enc n _ _ e2 w2
  rw [o0, c0, List.drop_zero] at k0
  rw [o1, c1] at k1
  rw [o2, c2] at k2
  have hd : (cs.drop (K0.sz + K1.sz)).take K2.sz = (cs.drop K0.sz).drop K1.sz := by rw [List.drop_drop]; exact List.take_of_length_le (by simp; omega)
  rw [hd] at k2
  exact ⟨(a0, a1, a2), ⟨cs.take K0.sz, cs.drop K0.sz, (List.take_append_drop _ _).symm, k0, ⟨(cs.drop K0.sz).take K1.sz, (cs.drop K0.sz).drop K1.sz, (List.take_append_drop _ _).symm, k1, k2⟩⟩, g0, g1, g2⟩

/-- An argument that is a slice. -/
theorem opened_slice {α : Type} {K : Kd α} {G : α → Prop} {H : Type} {enc : TypeId × Value → H} {t e : TypeId} {B : Nat} {a : Option Addr} {len cap : Nat} {d : DataW H} {p : List MemPlace} {ts : List TypeId} {ds : List (DataW H)} {j : Nat}
    (ho : Opn P W (Kd.slice e K) t (fun l => l.length * B ≤ reachBytes ∧ ∀ a ∈ l, G a)) (h : DataW.Trod enc P W 0 (fun _ => true) true t (.slice a len cap) d p)
    (hsz : (DataW.weightsEach P ts ds).all (· ≤ reachBytes) = true) (ht : ts[j]? = some t) (hd : ds[j]? = some d) :
    ∃ l : List α, len = l.length ∧ l.length ≤ cap ∧ Kd.C K W a l.length l ∧ l.length * B ≤ 140737488351232 ∧ ∀ a ∈ l, G a := by
  obtain ⟨fuel, hf⟩ := h
  obtain ⟨l, ⟨A, c, hcs, hc, hC⟩, hb, hg⟩ := ho H enc fuel _ _ hf (fun n hn => by
    have := List.all_eq_true.1 hsz _ (DataW.weights_mem_each ht hd n hn)
    simpa using this)
  simp [Value.cells] at hcs
  obtain ⟨rfl, rfl, rfl⟩ := hcs
  exact ⟨l, rfl, hc, hC, hb, hg⟩
/-- An argument that is a struct: its cells. -/
theorem opened_agg {α : Type} {K : Kd α} {G : α → Prop} {H : Type} {enc : TypeId × Value → H} {t : TypeId} {cs : Array Value} {d : DataW H} {p : List MemPlace} {ts : List TypeId} {ds : List (DataW H)} {j : Nat}
    (ho : Opn P W K t G) (h : DataW.Trod enc P W 0 (fun _ => true) true t (.agg cs) d p)
    (hsz : (DataW.weightsEach P ts ds).all (· ≤ reachBytes) = true) (ht : ts[j]? = some t) (hd : ds[j]? = some d) :
    ∃ a : α, K.K W a cs.toList ∧ G a := by
  obtain ⟨fuel, hf⟩ := h
  exact ho H enc fuel _ _ hf (fun n hn => by
    have := List.all_eq_true.1 hsz _ (DataW.weights_mem_each ht hd n hn)
    simpa using this)
end
end Go.Proofs.Ytipkcbpilkoflaa
