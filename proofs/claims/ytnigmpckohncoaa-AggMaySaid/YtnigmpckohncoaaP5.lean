/- What comes of facts may be what an aggregator has: plain. -/
import Derived.Test.YtnigmpckohncoaaP4
set_option linter.unusedVariables false
set_option linter.unusedSimpArgs false
namespace Go.Proofs.Ytnigmpckohncoaa
open Go.RowKit Go.Sort YtnigmpckohncoaaW.PrintWords PAggCounts

/-- What an aggregator of a kind may have. -/
structure Fine (k : Int) (p : PV) : Prop where
  pos : 0 ≤ p.n
  one : k ≠ 5 → p.xs = []
  cnt : k ≠ 5 → p.v = 0 ∨ (p.n ≠ 0 ∧ k ≠ 1)
  zer : k = 5 → p.v = 0
  up : UpB p.xs
  short : ∀ s ∈ p.xs, s.size ≤ 64
  few : (p.xs.length : Int) ≤ p.n
  some_ : k = 5 → (0 < p.xs.length ↔ 0 < p.n)
theorem fine_z (k : Int) : Fine k zP := ⟨Int.le_refl _, fun _ => rfl, fun _ => .inl rfl, fun _ => rfl, upB_nil, by simp [zP], by simp [zP], by simp [zP]⟩
theorem bl_size (s : ByteArray) : (bl s).length = s.size := by unfold bl; rw [Array.length_toList]; rfl
theorem norm_short {xs : List ByteArray} (h : ∀ s ∈ xs, s.size ≤ 64) : ∀ s ∈ normB xs, s.size ≤ 64 := by
  intro s hs
  have h1 := ((normB_up xs).2 (bl s)).1 (List.mem_map.2 ⟨s, hs, rfl⟩)
  obtain ⟨t, ht, e⟩ := List.mem_map.1 h1
  have := h t ht
  rw [← bl_size] at this ⊢
  rw [← e]; exact this
theorem norm_pos {xs : List ByteArray} (h : 0 < xs.length) : 0 < (normB xs).length := by
  obtain ⟨s, hs⟩ := List.exists_mem_of_length_pos h
  have h1 := ((normB_up xs).2 (bl s)).2 (List.mem_map.2 ⟨s, hs, rfl⟩)
  obtain ⟨t, ht, _⟩ := List.mem_map.1 h1
  exact List.length_pos_of_mem ht
theorem fine_merge (k : Int) {p q : PV} {N M : Int} (hp : Good N p) (hq : Good M q) (fp : Fine k p) (fq : Fine k q) (hs : N + M < 18446744073709551616) : Fine k (mergeP k p q) := by
  by_cases e : p.n = 0
  · rw [hp.2.2.2 e, merge_zl k hq]; exact fq
  · by_cases e' : q.n = 0
    · rw [hq.2.2.2 e', merge_zr k hp]; exact fp
    · rw [merge_pos k hp hq hs e e']
      have a0 := fp.pos
      have b0 := fq.pos
      have ln := normB_le (p.xs ++ q.xs)
      rw [List.length_append] at ln
      have a1 := fp.few
      have b1 := fq.few
      refine ⟨by show 0 ≤ p.n + q.n; omega, fun h5 => ?_, fun h5 => ?_, fun h5 => ?_, (normB_up _).1, norm_short ?_, ?_, fun h5 => ?_⟩
      · show normB (p.xs ++ q.xs) = []
        rw [fp.one h5, fq.one h5]
        exact norm_id [] upB_nil
      · show mergeV k p.v q.v = 0 ∨ (p.n + q.n ≠ 0 ∧ k ≠ 1)
        by_cases h1 : k = 1
        · left
          have hpv : p.v = 0 := by rcases fp.cnt h5 with h | h; exact h; exact absurd h1 h.2
          subst h1
          rw [hpv]; simp [mergeV]
        · right; exact ⟨by omega, h1⟩
      · show mergeV k p.v q.v = 0
        subst h5
        rw [fp.zer rfl]; simp [mergeV]
      · intro s hs
        rcases List.mem_append.1 hs with h | h
        · exact fp.short s h
        · exact fq.short s h
      · show ((normB (p.xs ++ q.xs)).length : Int) ≤ p.n + q.n
        omega
      · show 0 < (normB (p.xs ++ q.xs)).length ↔ 0 < p.n + q.n
        have h1 := (fp.some_ h5).2 (by omega)
        have h2 := norm_pos (xs := p.xs ++ q.xs) (by rw [List.length_append]; omega)
        constructor
        · intro; omega
        · intro; exact h2
theorem fine_fact (k c : Int) {f : S51} (hc : 0 ≤ c ∧ c < 2) (h : Tidy f) : Fine k (factZ k c f) := by
  obtain ⟨hd, hm, ⟨h0, h1⟩, hs⟩ := h
  unfold factZ
  by_cases e : f.f1 = 0
  · rw [if_pos e]; exact fine_z k
  · rw [if_neg e]
    unfold factP
    by_cases h5 : k = 5
    · rw [if_pos h5]
      refine ⟨h0, fun h => absurd h5 h, fun h => absurd h5 h, fun _ => rfl, upB_one _, ?_, ?_, fun _ => ?_⟩
      · intro s hs'
        have hs2 : s = f.f0.f1.getD c.toNat ⟨#[]⟩ := by simpa using hs'
        have hl : c.toNat < f.f0.f1.length := by rw [hd]; omega
        rw [hs2, List.getD_eq_getElem?_getD, List.getElem?_eq_getElem hl]
        exact hs _ (List.getElem_mem hl)
      · show ((1 : Nat) : Int) ≤ f.f1; omega
      · show 0 < 1 ↔ 0 < f.f1
        constructor
        · intro; omega
        · intro; omega
    · rw [if_neg h5]
      by_cases h6 : k = 1
      · rw [if_pos h6]
        exact ⟨h0, fun _ => rfl, fun _ => .inl rfl, fun h => absurd h h5, upB_nil, by simp, by simpa using h0, fun h => absurd h h5⟩
      · rw [if_neg h6]
        exact ⟨h0, fun _ => rfl, fun _ => .inr ⟨e, h6⟩, fun h => absurd h h5, upB_nil, by simp, by simpa using h0, fun h => absurd h h5⟩
theorem fine_of (k c : Int) (hc : 0 ≤ c ∧ c < 2) (l : List S51) (hl : l.length ≤ 1000) (h : ∀ f ∈ l, Tidy f) : Fine k (ofP k c l) := by
  induction l using snoc_ind with
  | h0 => exact fine_z k
  | h1 l f ih =>
    rw [List.length_append, List.length_singleton] at hl
    rw [ofP_snoc]
    exact fine_merge k (of_good k c l (by omega) (fun f hf => (h f (by simp [hf])).2.2.1)) (fact_good k c (h f (by simp)).2.2.1) (ih (by omega) (fun f hf => h f (by simp [hf]))) (fine_fact k c hc (h f (by simp))) (by omega)
theorem sort_up {xs : List ByteArray} (h : UpB xs) : sortB xs = xs := by
  unfold sortB
  have hp : (xs.map bl).Pairwise (fun a b => decide (a ≤ b) = true) := h.imp fun hab => by
    rw [decide_eq_true_eq]
    exact fun hba => lt_irr _ (lt_tr hab hba)
  rw [List.mergeSort_of_pairwise hp, List.map_map]
  conv => rhs; rw [← List.map_id xs]
  exact List.map_congr_left fun s _ => lb_bl s
theorem compact_up_id {xs : List ByteArray} (h : UpB xs) : compactB xs = xs := by
  have h1 := norm_id xs h
  unfold normB at h1
  rwa [sort_up h] at h1
end Go.Proofs.Ytnigmpckohncoaa
