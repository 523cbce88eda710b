/- What the law makes of raw facts: plain. -/
import Derived.Test.YtnigmpckohncoaaP3
import Derived.Test.YtnigmpckohncoaaPAggCountsx8
set_option linter.unusedVariables false
set_option linter.unusedSimpArgs false
namespace Go.Proofs.Ytnigmpckohncoaa
open Go.RowKit Go.Sort YtnigmpckohncoaaW.PrintWords PAggCounts

/-- A fact that the law has made. -/
def Tidy (f : S51) : Prop := f.f0.f1.length = 2 ∧ f.f0.f2.length = 2 ∧ Few f ∧ ∀ s ∈ f.f0.f1, s.size ≤ 64
theorem w64_one (j : Int) (h : 0 ≤ j) (h' : j ≤ 1000) : wrap64 (j + 1) = j + 1 := by unfold wrap64; omega
theorem set_sizes {ds : List ByteArray} {s : ByteArray} (i : Nat) (h : ∀ t ∈ ds, t.size ≤ 64) (hs : s.size ≤ 64) : ∀ t ∈ ds.set i s, t.size ≤ 64 := by
  intro t ht
  rcases List.mem_or_eq_of_mem_set ht with h1 | h1
  · exact h t h1
  · rw [h1]; exact hs

theorem right_l1 (raw acc : List S51) (i j a b s t tm : Int) (ds : List ByteArray) (ms : List Int) (hi : 0 ≤ i) (hi' : i < (raw.length : Int)) (hj : 0 ≤ j) (hj' : j < 2) (hd : ds.length = 2) (hm : ms.length = 2) (hs : ∀ t ∈ ds, t.size ≤ 64) :
    ∃ ds' ms', (∀ k, gristmilllaw06_right.l1 (k + 2) raw acc i j a b s t tm ds ms = gristmilllaw06_right.l1 k raw acc i (j + 1) a b s t tm ds' ms') ∧ ds'.length = 2 ∧ ms'.length = 2 ∧ ∀ t ∈ ds', t.size ≤ 64 := by
  have hw := w64_one j hj (by omega)
  have hjd : j < (ds.length : Int) := by omega
  have hjm : j < (ms.length : Int) := by omega
  have step : ∀ x : Bool, (x = true → j < (((rd_T51 raw i).f0.f1).length : Int) ∧ (rdOf ByteArray.empty ((rd_T51 raw i).f0.f1) j).size ≤ 64) →
      ∃ ds' ms', (∀ k, gristmilllaw06_right.j3 (k + 1) raw acc i j x a b s t tm ds ms = gristmilllaw06_right.l1 k raw acc i (j + 1) a b s t tm ds' ms') ∧ ds'.length = 2 ∧ ms'.length = 2 ∧ ∀ t ∈ ds', t.size ≤ 64 := by
    intro x hx
    cases x
    · by_cases h2 : j < (((rd_T51 raw i).f0.f2).length : Int)
      · refine ⟨ds, ms.set j.toNat (rd ((rd_T51 raw i).f0.f2) j), fun k => ?_, hd, by rw [List.length_set]; exact hm, hs⟩
        rw [gristmilllaw06_right.j3, if_neg (by decide), if_pos hi, if_pos hi', if_pos h2, if_pos hj, if_pos hjm, hw]
      · refine ⟨ds, ms, fun k => ?_, hd, hm, hs⟩
        rw [gristmilllaw06_right.j3, if_neg (by decide), if_pos hi, if_pos hi', if_neg h2, hw]
    · obtain ⟨h1, h1'⟩ := hx rfl
      by_cases h2 : j < (((rd_T51 raw i).f0.f2).length : Int)
      · refine ⟨ds.set j.toNat (rdOf ByteArray.empty ((rd_T51 raw i).f0.f1) j), ms.set j.toNat (rd ((rd_T51 raw i).f0.f2) j), fun k => ?_, by rw [List.length_set]; exact hd, by rw [List.length_set]; exact hm, set_sizes _ hs h1'⟩
        rw [gristmilllaw06_right.j3, if_pos rfl, if_pos hi, if_pos hi', if_pos hj, if_pos h1, if_pos hjd, Option.bind_some, if_pos h2, if_pos hjm, hw]
      · refine ⟨ds.set j.toNat (rdOf ByteArray.empty ((rd_T51 raw i).f0.f1) j), ms, fun k => ?_, by rw [List.length_set]; exact hd, hm, set_sizes _ hs h1'⟩
        rw [gristmilllaw06_right.j3, if_pos rfl, if_pos hi, if_pos hi', if_pos hj, if_pos h1, if_pos hjd, Option.bind_some, if_neg h2, hw]
  by_cases h1 : j < (((rd_T51 raw i).f0.f1).length : Int)
  · obtain ⟨d, m, e, h⟩ := step (decide (((rdOf ByteArray.empty ((rd_T51 raw i).f0.f1) j).size : Int) ≤ 64)) fun h => ⟨h1, by have := of_decide_eq_true h; omega⟩
    refine ⟨d, m, fun k => ?_, h⟩
    rw [show k + 2 = (k + 1) + 1 from rfl, gristmilllaw06_right.l1, if_pos hj', if_pos hi, if_pos hi', if_pos h1, if_pos hj]
    exact e k
  · obtain ⟨d, m, e, h⟩ := step false fun h => by simp at h
    refine ⟨d, m, fun k => ?_, h⟩
    rw [show k + 2 = (k + 1) + 1 from rfl, gristmilllaw06_right.l1, if_pos hj', if_pos hi, if_pos hi', if_neg h1]
    exact e k

theorem right_l0 (raw : List S51) (a b : Int) (hraw : ∀ f ∈ raw, 0 ≤ f.f1) (n : Nat) : ∀ (acc : List S51) (i : Nat), i + n = 40 → acc.length = i → i ≤ raw.length → (∀ f ∈ acc, Tidy f) →
    ∃ k r, gristmilllaw06_right.l0 k raw acc i a b 2 2 = some (2, 2, a, b, r) ∧ r.length ≤ 40 ∧ ∀ f ∈ r, Tidy f := by
  induction n with
  | zero =>
    intro acc i hi hl hir ht
    refine ⟨2, acc, ?_, by omega, ht⟩
    rw [gristmilllaw06_right.l0]
    have h40 : decide ((i : Int) < 40) = false := decide_eq_false (by omega)
    rw [h40]
    split <;> (rw [gristmilllaw06_right.j1, if_neg (by decide)])
  | succ n ih =>
    intro acc i hi hl hir ht
    by_cases hlt : i < raw.length
    · have hi1 : (i : Int) < (raw.length : Int) := by omega
      have h40 : decide ((i : Int) < 40) = true := decide_eq_true (by omega)
      have hi0 : (0 : Int) ≤ (i : Int) := by omega
      have hf0 : 0 ≤ (rd_T51 raw i).f1 := by
        have : rd_T51 raw i = raw[i] := by unfold rd_T51; simp [List.getD_eq_getElem?_getD, List.getElem?_eq_getElem hlt]
        rw [this]; exact hraw _ (List.getElem_mem hlt)
      obtain ⟨d1, m1, e1, p1, q1, r1⟩ := right_l1 raw acc i 0 a b 2 2 (rd_T51 raw i).f0.f0 [⟨#[]⟩, ⟨#[]⟩] [0, 0] hi0 hi1 (by decide) (by decide) rfl rfl (by simp; decide)
      obtain ⟨d2, m2, e2, p2, q2, r2⟩ := right_l1 raw acc i 1 a b 2 2 (rd_T51 raw i).f0.f0 d1 m1 hi0 hi1 (by decide) (by decide) p1 q1 r1
      have hT : Tidy ⟨⟨(rd_T51 raw i).f0.f0, d2, m2⟩, Int.tmod ((rd_T51 raw i).f1) 1125899906842624⟩ := ⟨p2, q2, ⟨Int.tmod_nonneg _ hf0, Int.tmod_lt_of_pos _ (by decide)⟩, r2⟩
      obtain ⟨k, r, e, hr⟩ := ih (acc ++ [⟨⟨(rd_T51 raw i).f0.f0, d2, m2⟩, Int.tmod ((rd_T51 raw i).f1) 1125899906842624⟩]) (i + 1) (by omega) (by simp [hl]) (by omega) (fun f hf => by
        rcases List.mem_append.1 hf with h | h
        · exact ht f h
        · rw [List.mem_singleton.1 h]; exact hT)
      refine ⟨k + 7, r, ?_, hr⟩
      rw [show k + 7 = (k + 6) + 1 from rfl, gristmilllaw06_right.l0, if_pos hi1, h40]
      rw [show k + 6 = (k + 5) + 1 from rfl, gristmilllaw06_right.j1, if_pos rfl, if_pos hi0, if_pos hi1]
      rw [show k + 5 = (k + 3) + 2 from rfl, e1, show (0 : Int) + 1 = 1 from rfl, show k + 3 = (k + 1) + 2 from rfl, e2]
      rw [gristmilllaw06_right.l1, if_neg (by decide), if_pos hi0, if_pos hi1, if_pos (by omega), w64_one _ hi0 (by omega)]
      exact e
    · refine ⟨2, acc, ?_, by omega, ht⟩
      rw [gristmilllaw06_right.l0, if_neg (by omega), gristmilllaw06_right.j1, if_neg (by decide)]

/-- What abs answers is a number not below zero. -/
theorem abs_some (a : Int) (h : -9223372036854775808 ≤ a) (h' : a < 9223372036854775808) : ∃ t, gristmilllaw06_abs.f a = some t ∧ 0 ≤ t ∧ t < 9223372036854775808 := by
  unfold gristmilllaw06_abs.f
  by_cases e : a < 0
  · rw [if_pos e]
    refine ⟨_, rfl, ?_, ?_⟩ <;> (unfold wrap64; omega)
  · rw [if_neg e]
    exact ⟨a, rfl, by omega, h'⟩
/-- The kind and the column that the law makes. -/
theorem right_some (k0 c0 : Int) (hk : -9223372036854775808 ≤ k0 ∧ k0 < 9223372036854775808) (hc : -9223372036854775808 ≤ c0 ∧ c0 < 9223372036854775808) :
    ∃ k c : Int, (1 ≤ k ∧ k ≤ 5) ∧ (0 ≤ c ∧ c < 2) ∧ ∀ raw : List S51, (∀ f ∈ raw, 0 ≤ f.f1) → ∃ n r, gristmilllaw06_right.f n k0 c0 raw = some (2, 2, k, c, r) ∧ r.length ≤ 40 ∧ ∀ f ∈ r, Tidy f := by
  obtain ⟨t, e, t0, t1⟩ := abs_some k0 hk.1 hk.2
  obtain ⟨u, e', u0, u1⟩ := abs_some c0 hc.1 hc.2
  have m0 : 0 ≤ Int.tmod t 5 := Int.tmod_nonneg _ t0
  have m1 : Int.tmod t 5 < 5 := Int.tmod_lt_of_pos _ (by decide)
  refine ⟨wrap64 (1 + Int.tmod t 5), Int.tmod u 2, ⟨by unfold wrap64; omega, by unfold wrap64; omega⟩, ⟨Int.tmod_nonneg _ u0, Int.tmod_lt_of_pos _ (by decide)⟩, fun raw hr => ?_⟩
  obtain ⟨n, r, er, h⟩ := right_l0 raw (wrap64 (1 + Int.tmod t 5)) (Int.tmod u 2) hr 40 [] 0 rfl rfl (Nat.zero_le _) (by simp)
  refine ⟨n, r, ?_, h⟩
  unfold gristmilllaw06_right.f
  rw [e, e']
  exact er
theorem tidy_okf {c : Int} (hc : 0 ≤ c ∧ c < 2) {f : S51} (h : Tidy f) : Okf c f := ⟨hc.1, by rw [h.1]; omega, by rw [h.2.1]; omega, h.2.2.1.1⟩
end Go.Proofs.Ytnigmpckohncoaa
