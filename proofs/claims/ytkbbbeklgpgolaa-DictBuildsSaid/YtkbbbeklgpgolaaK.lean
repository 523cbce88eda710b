/- The rows of texts and of numbers that a law of dictionaries takes, read as data. -/
import Derived.Test.YtkbbbeklgpgolaaOpen
import Derived.Test.YtkbbbeklgpgolaaA2
import Derived.SizedLaws
set_option linter.unusedVariables false
namespace Go.Proofs.Ytkbbbeklgpgolaa
open Go.ChangeShapes Go.WideShapes Go.ChangeAt Go.RowKit Go.Proofs.YtkbbbeklgpgolaaW.PrintWords

theorem len_of {H : Type} {enc : TypeId × Value → H} {P : Program} {W : World} {base : Nat} {spare : Nat → Bool} {held : Bool} {t e : TypeId} {A : Option Addr} {n c : Nat} {dd : DataW H} {ps : List MemPlace}
    (ht : P.underlying t = some (.slice e)) (h : DataW.Trod enc P W base spare held t (.slice A n c) dd ps) : n = 0 ∨ ∃ es sp, dd = .slice es sp ∧ es.length = n := by
  obtain ⟨fuel, hf⟩ := h
  rcases Go.Deep.open_slice ht hf with ⟨hv, he⟩ | ⟨a, len, cap, m, n', D, Pl, hv, hb, hl, hm, hmm, he, hi⟩
  · simp [Value.cells] at hv
    exact .inl hv.2.1
  · simp [Value.cells] at hv
    exact .inr ⟨_, _, (Prod.mk.inj he).1, by simp [hv]⟩
/-- A row of texts that is handed in. -/
theorem open_texts {H : Type} {enc : TypeId × Value → H} {W : World} {base : Nat} {spare : Nat → Bool} {held : Bool} {v : Value} {d : DataW H} {p : List MemPlace} {r : Reach} {b0 : Nat}
    (hv : Value.okWide Try.prog W r b0 22 v) (h : DataW.Trod enc Try.prog W base spare held 22 v d p) : ∃ (A : Option Addr) (c : Nat) (l : List ByteArray), v = .slice A l.length c ∧ l.length ≤ c ∧ RT W A l.length l ∧ (l.length = 0 ∨ ∃ es sp, d = .slice es sp ∧ es.length = l.length) := by
  obtain ⟨A, n, c, rfl⟩ := okWide_slice Try.underlying22 hv
  have hl2 := len_of Try.underlying22 h
  obtain ⟨xs, hn, hl, hr, hg, _⟩ := open_row Try.underlying22 (by kernel_rfl) (opens_string Try.underlying9 (by kernel_rfl)) h
  subst hn
  exact ⟨A, c, xs, rfl, hl, hr, hl2⟩
theorem open_nums {H : Type} {enc : TypeId × Value → H} {W : World} {base : Nat} {spare : Nat → Bool} {held : Bool} {v : Value} {d : DataW H} {p : List MemPlace} {r : Reach} {b0 : Nat}
    (hv : Value.okWide Try.prog W r b0 23 v) (h : DataW.Trod enc Try.prog W base spare held 23 v d p) : ∃ (A : Option Addr) (c : Nat) (l : List Int), v = .slice A l.length c ∧ l.length ≤ c ∧ (Kd.int .i64).C W A l.length l := by
  obtain ⟨A, n, c, rfl⟩ := okWide_slice Try.underlying23 hv
  obtain ⟨xs, hn, hl, hr, hg, _⟩ := open_row Try.underlying23 (by kernel_rfl) (opens_int Try.underlying3 (by kernel_rfl)) h
  subst hn
  exact ⟨A, c, xs, rfl, hl, hr⟩
end Go.Proofs.Ytkbbbeklgpgolaa
