/- The reference's Same of two alike answers true; its Value is the program's: plain. -/
import Derived.Test.YtnigmpckohncoaaP4
import Derived.Test.YtnigmpckohncoaaSame
set_option linter.unusedVariables false
set_option linter.unusedSimpArgs false
namespace Go.Proofs.Ytnigmpckohncoaa
open Go.RowKit Go.Sort YtnigmpckohncoaaW.PrintWords PAggCounts

theorem same_l0 (N V : Int) (l : List ByteArray) (hl : l.length ≤ 1048576) (d : Nat) : ∀ (k i : Nat), i ≤ l.length → l.length - i = d → d < k → gristmillref06_Same.l0 k i N V l N V l = some true := by
  induction d with
  | zero =>
    intro k i h1 h2 h3
    obtain ⟨k, rfl⟩ : ∃ m, k = m + 1 := ⟨k - 1, by omega⟩
    rw [gristmillref06_Same.l0, if_neg (by omega)]
  | succ d ih =>
    intro k i h1 h2 h3
    obtain ⟨k, rfl⟩ : ∃ m, k = m + 1 := ⟨k - 1, by omega⟩
    rw [gristmillref06_Same.l0, if_pos (by omega), if_pos (by omega), if_pos (by omega), if_pos rfl, show wrap64 ((i : Int) + 1) = ((i + 1 : Nat) : Int) by unfold wrap64; omega]
    exact ih k (i + 1) (by omega) (by omega) (by omega)
theorem same_refl (N V : Int) (l : List ByteArray) (hl : l.length ≤ 1048576) : ∃ k, gristmillref06_Same.f k N V l N V l = some true := by
  refine ⟨l.length + 2, ?_⟩
  unfold gristmillref06_Same.f
  rw [if_pos rfl, if_pos rfl, bne_self_eq_false, show l.length + 2 = (l.length + 1) + 1 from rfl, gristmillref06_Same.j0, if_neg (by decide)]
  exact same_l0 N V l hl l.length (l.length + 1) 0 (Nat.zero_le _) rfl (by omega)
theorem value_ref (k c N V : Int) (l : List ByteArray) : gristmillref06_Value.f k c N V l = some (valueV k N V l.length) := by
  unfold gristmillref06_Value.f valueV
  by_cases h1 : k = 1
  · simp [h1]
  · by_cases h5 : k = 5 <;> simp [h1, h5]
/-- What comes of few facts holds few texts. -/
theorem of_le (k c : Int) (l : List S51) : (ofP k c l).xs.length ≤ l.length := by
  unfold ofP
  have h : ∀ (l : List S51) (p : PV), (l.foldl (addP k c) p).xs.length ≤ p.xs.length + l.length := by
    intro l
    induction l with
    | nil => intro p; exact Nat.le_refl _
    | cons f l ih =>
      intro p
      have h1 := ih (addP k c p f)
      have h2 := addP_le k c p f
      simp only [List.foldl_cons, List.length_cons]
      omega
  have := h l ⟨0, 0, []⟩
  simpa using this
end Go.Proofs.Ytnigmpckohncoaa
