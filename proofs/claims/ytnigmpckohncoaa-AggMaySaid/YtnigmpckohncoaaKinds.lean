/- The aggregator and the facts that a law of aggregators takes, read as data. -/
import Derived.Test.YtnigmpckohncoaaOpen
import Derived.Test.YtnigmpckohncoaaPAggCountsx0
set_option linter.unusedVariables false
namespace Go.Proofs.Ytnigmpckohncoaa
open Go.ChangeShapes Go.WideShapes Go.ChangeAt Go.RowKit YtnigmpckohncoaaW.PrintWords PAggCounts

theorem opens45 : ∃ g bk, Opens Try.prog k45 45 g bk :=
  ⟨_, _, opens_iso (fun p => ⟨p.1, p.2.1, p.2.2⟩) (fun _ => rfl) (opens_struct Try.underlying45 (by kernel_rfl)
    (opensF_cons rfl (opens_int Try.underlying2 (by kernel_rfl)) (opensF_cons rfl (opens_slice Try.underlying31 (by kernel_rfl) (opens_string Try.underlying9 (by kernel_rfl))) (opensF_one rfl (opens_slice Try.underlying43 (by kernel_rfl) (opens_int Try.underlying2 (by kernel_rfl)))))))⟩
theorem opens51 : ∃ bk, Opens Try.prog k51 51 (fun f => (Lit.int .u64 f.f1).wf = true) bk := by
  obtain ⟨g, bk, h⟩ := opens45
  exact ⟨fun _ => 0, opens_weaken (opens_iso (d := Kd.pair k45 (Kd.int .u64)) (f := fun x : S51 => (x.f0, x.f1)) (fun p => ⟨p.1, p.2⟩) (fun _ => rfl) (opens_struct Try.underlying51 (by kernel_rfl) (opensF_cons rfl h (opensF_one rfl (opens_int Try.underlying30 (by kernel_rfl)))))) (fun _ h => h.2) (fun _ => Nat.zero_le _)⟩
theorem opens23 : ∃ bk, Opens Try.prog (Kd.pair (Kd.int .i64) (Kd.int .i64)) 23 (fun p => (Lit.int .i64 p.1).wf = true ∧ (Lit.int .i64 p.2).wf = true) bk :=
  ⟨_, opens_struct Try.underlying23 (by kernel_rfl) (opensF_cons rfl (opens_int Try.underlying3 (by kernel_rfl)) (opensF_one rfl (opens_int Try.underlying3 (by kernel_rfl))))⟩
/-- An aggregator that is handed in. -/
theorem open_agg {H : Type} {enc : TypeId × Value → H} {W : World} {base : Nat} {spare : Nat → Bool} {held : Bool} {v : Value} {d : DataW H} {p : List MemPlace} {r : Reach} {b0 : Nat}
    (hv : Value.okWide Try.prog W r b0 23 v) (h : DataW.Trod enc Try.prog W base spare held 23 v d p) : ∃ k c : Int, v = .agg #[.int .i64 k, .int .i64 c] ∧ (Lit.int .i64 k).wf = true ∧ (Lit.int .i64 c).wf = true := by
  obtain ⟨cs, rfl, hsz⟩ := okWide_struct Try.underlying23 hv
  obtain ⟨bk, ho⟩ := opens23
  obtain ⟨⟨k, c⟩, ⟨c0, c1, he, h0, h1⟩, hg, _⟩ := open_cells ho h
  have h0' : c0 = [.int .i64 k] := h0
  have h1' : c1 = [.int .i64 c] := h1
  subst h0'; subst h1'
  refine ⟨k, c, ?_, hg.1, hg.2⟩
  obtain ⟨l⟩ := cs
  simp [Value.cells] at he
  rw [he]
/-- Facts that are handed in. -/
theorem open_many {H : Type} {enc : TypeId × Value → H} {W : World} {base : Nat} {spare : Nat → Bool} {held : Bool} {v : Value} {d : DataW H} {p : List MemPlace} {r : Reach} {b0 : Nat}
    (hv : Value.okWide Try.prog W r b0 24 v) (h : DataW.Trod enc Try.prog W base spare held 24 v d p) : ∃ (A : Option Addr) (c : Nat) (l : List S51), v = .slice A l.length c ∧ l.length ≤ c ∧ Kd.C k51 W A l.length l ∧ ∀ f ∈ l, 0 ≤ f.f1 := by
  obtain ⟨A, n, c, rfl⟩ := okWide_slice Try.underlying24 hv
  obtain ⟨bk, ho⟩ := opens51
  obtain ⟨xs, hn, hl, hr, hg, _⟩ := open_row Try.underlying24 (by kernel_rfl) ho h
  subst hn
  refine ⟨A, c, xs, rfl, hl, hr, fun f hf => ?_⟩
  exact (rng_u64 (hg f hf)).1
end Go.Proofs.Ytnigmpckohncoaa
