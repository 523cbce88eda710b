/- How an argument that is read as data lies in memory, kind by kind: its cells say a value of the kind. -/
import Derived.Test.YtkbbbeklgpgolaaRows
import Derived.Test.YtkbbbeklgpgolaaWWords
import Derived.ProofKit
import Derived.Deep.Slices
set_option linter.unusedVariables false
set_option linter.unusedSimpArgs false
namespace Go.Proofs.Ytkbbbeklgpgolaa
open Go.ChangeShapes Go.WideShapes Go.ChangeAt Go.RowKit YtkbbbeklgpgolaaW.PrintWords

/-- A datum of type t is a value of the kind d; g: what is known of it; bk: how much it holds at least. -/
def Opens {α : Type} (P : Program) (d : Kd α) (t : TypeId) (g : α → Prop) (bk : α → Nat) : Prop :=
  P.cellsOf t = d.sz ∧ ∀ (H : Type) (enc : TypeId × Value → H) (w : World) (base : Nat) (spare : Nat → Bool) (held : Bool) (fuel : Nat) (cs : List Value) (x : DataW H × List MemPlace),
    DataW.trod enc P w base spare held fuel t cs = some x → ∃ a, d.K w a cs ∧ g a ∧ bk a ≤ Rows.uptoBulk x.1
/-- The fields of a struct from a place on. -/
def OpensF {α : Type} (P : Program) (d : Kd α) (l : List Field) (off : Nat) (g : α → Prop) (bk : α → Nat) : Prop :=
  ∀ (H : Type) (enc : TypeId × Value → H) (w : World) (base : Nat) (spare : Nat → Bool) (held : Bool) (fuel : Nat) (cs : List Value) (xs : List (DataW H × List MemPlace)), xs.length = l.length →
    (∀ (i : Nat) (f : Field), l[i]? = some f → DataW.trod enc P w base spare held fuel f.type ((cs.drop f.offset).take (P.cellsOf f.type)) = xs[i]?) →
    ∃ a, d.K w a ((cs.drop off).take d.sz) ∧ g a ∧ bk a ≤ Rows.uptoBulkAll (xs.map (·.1))

theorem opens_int {P : Program} {t : TypeId} {k : IntKind} (ht : P.underlying t = some (.int k)) (hc : P.cellsOf t = 1) : Opens P (Kd.int k) t (fun n => (Lit.int k n).wf = true) (fun _ => 1) := by
  refine ⟨hc, fun H enc w base spare held fuel cs x h => ?_⟩
  obtain ⟨n, rfl, rfl, hw⟩ := DataW.trod_int ht h
  exact ⟨n, rfl, hw, by unfold Rows.uptoBulk; exact Nat.le_refl _⟩
theorem opens_bool {P : Program} {t : TypeId} (ht : P.underlying t = some .bool) (hc : P.cellsOf t = 1) : Opens P Kd.bool t (fun _ => True) (fun _ => 1) := by
  refine ⟨hc, fun H enc w base spare held fuel cs x h => ?_⟩
  obtain ⟨b, rfl, rfl⟩ := DataW.trod_bool ht h
  exact ⟨b, rfl, trivial, by unfold Rows.uptoBulk; exact Nat.le_refl _⟩
theorem opens_string {P : Program} {t : TypeId} (ht : P.underlying t = some .string) (hc : P.cellsOf t = 1) : Opens P Kd.string t (fun s => s.size ≤ maxLen) (fun s => s.size + 1) := by
  refine ⟨hc, fun H enc w base spare held fuel cs x h => ?_⟩
  obtain ⟨s, rfl, rfl, hs⟩ := DataW.trod_string ht h
  exact ⟨s, rfl, hs, by unfold Rows.uptoBulk; simp⟩
theorem bulk_range {H : Type} {α : Type} (D : Nat → DataW H) (bk : α → Nat) : ∀ (ys : List α) (s : Nat), (∀ i y, ys[i]? = some y → bk y ≤ Rows.uptoBulk (D (s + i))) → (ys.map bk).sum ≤ Rows.uptoBulkAll ((List.range' s ys.length).map D)
  | [], s, _ => by simp
  | y :: ys, s, h => by
    have h0 := h 0 y rfl
    have h1 := bulk_range D bk ys (s + 1) fun i z hz => by
      have := h (i + 1) z (by simpa using hz)
      rwa [show s + (i + 1) = s + 1 + i by omega] at this
    rw [List.length_cons, List.range'_succ, List.map_cons, List.map_cons, List.sum_cons]
    unfold Rows.uptoBulkAll
    rw [Nat.add_zero] at h0
    exact Nat.add_le_add h0 h1
theorem choose_list {α : Type} (Q : Nat → α → Prop) : ∀ n : Nat, (∀ i, i < n → ∃ a, Q i a) → ∃ xs : List α, xs.length = n ∧ ∀ i a, xs[i]? = some a → Q i a
  | 0, _ => ⟨[], rfl, fun i a h => by simp at h⟩
  | n + 1, h => by
    obtain ⟨xs, hl, hx⟩ := choose_list Q n fun i hi => h i (by omega)
    obtain ⟨a, ha⟩ := h n (by omega)
    refine ⟨xs ++ [a], by simp [hl], fun i b hb => ?_⟩
    by_cases hi : i < xs.length
    · rw [List.getElem?_append_left hi] at hb
      exact hx i b hb
    · rw [List.getElem?_append_right (by omega)] at hb
      have hi0 : i - xs.length = 0 := by
        have := (List.getElem?_eq_some_iff.1 hb).1
        simpa using this
      rw [hi0] at hb
      simp at hb
      subst hb
      rwa [show i = n by omega]
theorem opens_slice {α : Type} {P : Program} {t e : TypeId} {d : Kd α} {g : α → Prop} {bk : α → Nat} (ht : P.underlying t = some (.slice e)) (hc : P.cellsOf t = 1) (hd : Opens P d e g bk) :
    Opens P (Kd.slice e d) t (fun xs => ∀ x ∈ xs, g x) (fun xs => (xs.map bk).sum + 1) := by
  refine ⟨hc, fun H enc w base spare held fuel cs x h => ?_⟩
  rcases Go.Deep.open_slice ht h with ⟨rfl, rfl⟩ | ⟨a, len, cap, m, n, D, Pl, rfl, hb, hl, hm, hmm, rfl, hi⟩
  · exact ⟨[], ⟨none, 0, rfl, Nat.le_refl _, rfl, by simp, fun h => by simp at h⟩, by simp, by unfold Rows.uptoBulk; simp⟩
  · have hlm : len ≤ m := by rw [hmm]; split <;> omega
    obtain ⟨xs, hxl, hx⟩ := choose_list (fun i x => (∃ cs', w.cells? base (a.add (i * P.cellsOf e)) (P.cellsOf e) = some cs' ∧ d.K w x cs') ∧ g x ∧ bk x ≤ Rows.uptoBulk (D i)) len fun i hil => by
      obtain ⟨cs', hcs, htr⟩ := hi i (by omega)
      obtain ⟨x, hk, hg, hbk⟩ := hd.2 H enc w base spare held n cs' _ htr
      exact ⟨x, ⟨cs', hcs, hk⟩, hg, hbk⟩
    subst hxl
    refine ⟨xs, ⟨some a, cap, rfl, hl, rfl, by unfold maxLen at hm; omega, fun _ => ⟨a, rfl, fun j p hj => ?_⟩⟩, fun x hx' => ?_, ?_⟩
    · obtain ⟨⟨cs', hcs, hk⟩, _, _⟩ := hx j p hj
      obtain ⟨_, hlen, hcell⟩ := World.cells?_some hcs
      refine ⟨cs', d.K_len hk, hk, fun i u hu => ?_⟩
      have hi2 := (List.getElem?_eq_some_iff.1 hu).1
      have := hcell i (by omega)
      rw [Go.Deep.add_add, hd.1] at this
      rw [this]
      exact hu
    · obtain ⟨j, hj⟩ := List.mem_iff_getElem?.1 hx'
      exact (hx j x hj).2.1
    · have h1 := bulk_range D bk xs 0 fun i y hy => by
        have := (hx i y hy).2.2
        rwa [Nat.zero_add]
      show (xs.map bk).sum + 1 ≤ Rows.uptoBulk (DataW.slice ((List.range xs.length).map D) ((List.range (m - xs.length)).map fun j => D (xs.length + j)))
      unfold Rows.uptoBulk
      rw [List.range_eq_range']
      omega
theorem opensF_one {α : Type} {P : Program} {f : Field} {d : Kd α} {off : Nat} {g : α → Prop} {bk : α → Nat} (hf : f.offset = off) (hd : Opens P d f.type g bk) : OpensF P d [f] off g bk := by
  intro H enc w base spare held fuel cs xs hl hx
  match xs, hl with
  | [y], _ =>
    have h := hx 0 f rfl
    rw [hf, hd.1] at h
    obtain ⟨a, hk, hg, hb⟩ := hd.2 H enc w base spare held fuel _ _ h
    exact ⟨a, hk, hg, by simp only [List.map_cons, List.map_nil]; unfold Rows.uptoBulkAll Rows.uptoBulkAll; omega⟩
theorem opensF_cons {α β : Type} {P : Program} {f : Field} {l : List Field} {d0 : Kd α} {d1 : Kd β} {off : Nat} {g0 : α → Prop} {g1 : β → Prop} {b0 : α → Nat} {b1 : β → Nat} (hf : f.offset = off) (h0 : Opens P d0 f.type g0 b0) (h1 : OpensF P d1 l (off + d0.sz) g1 b1) :
    OpensF P (Kd.pair d0 d1) (f :: l) off (fun p => g0 p.1 ∧ g1 p.2) (fun p => b0 p.1 + b1 p.2) := by
  intro H enc w base spare held fuel cs xs hl hx
  match xs, hl with
  | y :: ys, hl =>
    have h := hx 0 f rfl
    rw [hf, h0.1] at h
    obtain ⟨a, hk, hg, hb⟩ := h0.2 H enc w base spare held fuel _ _ h
    obtain ⟨b, hk1, hg1, hb1⟩ := h1 H enc w base spare held fuel cs ys (by simpa using hl) fun i f' hf' => hx (i + 1) f' (by simpa using hf')
    refine ⟨(a, b), ⟨_, _, ?_, hk, hk1⟩, ⟨hg, hg1⟩, ?_⟩
    · show (cs.drop off).take (d0.sz + d1.sz) = _
      rw [List.take_add, List.drop_drop]
    · simp only [List.map_cons]
      unfold Rows.uptoBulkAll
      omega
theorem opens_struct {α : Type} {P : Program} {t : TypeId} {fs : Array Field} {d : Kd α} {g : α → Prop} {bk : α → Nat} (ht : P.underlying t = some (.struct fs)) (hc : P.cellsOf t = d.sz) (h : OpensF P d fs.toList 0 g bk) : Opens P d t g (fun a => bk a + 1) := by
  refine ⟨hc, fun H enc w base spare held fuel cs x hx => ?_⟩
  obtain ⟨xs, n, _, rfl, hl, hs, hf⟩ := DataW.trod_struct ht hx
  obtain ⟨a, hk, hg, hb⟩ := h H enc w base spare held n cs xs (by simpa using hs) fun i f hi => hf i f (by simpa using hi)
  rw [List.drop_zero, List.take_of_length_le (by omega)] at hk
  exact ⟨a, hk, hg, by show bk a + 1 ≤ _; unfold Rows.uptoBulk; omega⟩
theorem opens_iso {α β : Type} {P : Program} {t : TypeId} {d : Kd α} {f : β → α} {g : α → Prop} {bk : α → Nat} (fi : α → β) (hf : ∀ a, f (fi a) = a) (h : Opens P d t g bk) : Opens P (Kd.iso d f) t (fun b => g (f b)) (fun b => bk (f b)) := by
  refine ⟨h.1, fun H enc w base spare held fuel cs x hx => ?_⟩
  obtain ⟨a, hk, hg, hb⟩ := h.2 H enc w base spare held fuel cs x hx
  refine ⟨fi a, ?_, ?_, ?_⟩
  · show d.K w (f (fi a)) cs
    rw [hf]; exact hk
  · show g (f (fi a))
    rw [hf]; exact hg
  · show bk (f (fi a)) ≤ _
    rw [hf]; exact hb
theorem opens_weaken {α : Type} {P : Program} {t : TypeId} {d : Kd α} {g g' : α → Prop} {bk bk' : α → Nat} (h : Opens P d t g bk) (hg : ∀ a, g a → g' a) (hb : ∀ a, bk' a ≤ bk a) : Opens P d t g' bk' := by
  refine ⟨h.1, fun H enc w base spare held fuel cs x hx => ?_⟩
  obtain ⟨a, hk, h1, h2⟩ := h.2 H enc w base spare held fuel cs x hx
  exact ⟨a, hk, hg a h1, Nat.le_trans (hb a) h2⟩
theorem rng_u64 {n : Int} (h : (Lit.int .u64 n).wf = true) : 0 ≤ n ∧ n ≤ 18446744073709551615 := by
  unfold Lit.wf at h
  rw [Bool.and_eq_true, decide_eq_true_eq, decide_eq_true_eq] at h
  exact ⟨h.1, h.2⟩
theorem rng_i64 {n : Int} (h : (Lit.int .i64 n).wf = true) : -9223372036854775808 ≤ n ∧ n ≤ 9223372036854775807 := by
  unfold Lit.wf at h
  rw [Bool.and_eq_true, decide_eq_true_eq, decide_eq_true_eq] at h
  exact ⟨h.1, h.2⟩
theorem rng_u8 {n : Int} (h : (Lit.int .u8 n).wf = true) : 0 ≤ n ∧ n ≤ 255 := by
  unfold Lit.wf at h
  rw [Bool.and_eq_true, decide_eq_true_eq, decide_eq_true_eq] at h
  exact ⟨h.1, h.2⟩
theorem rng_u32 {n : Int} (h : (Lit.int .u32 n).wf = true) : 0 ≤ n ∧ n ≤ 4294967295 := by
  unfold Lit.wf at h
  rw [Bool.and_eq_true, decide_eq_true_eq, decide_eq_true_eq] at h
  exact ⟨h.1, h.2⟩
/-- An argument that is a slice. -/
theorem open_row {α : Type} {H : Type} {enc : TypeId × Value → H} {P : Program} {W : World} {base : Nat} {spare : Nat → Bool} {held : Bool} {t e : TypeId} {d : Kd α} {g : α → Prop} {bk : α → Nat} {A : Option Addr} {n c : Nat} {dd : DataW H} {ps : List MemPlace}
    (ht : P.underlying t = some (.slice e)) (hc : P.cellsOf t = 1) (hd : Opens P d e g bk) (h : DataW.Trod enc P W base spare held t (.slice A n c) dd ps) :
    ∃ xs : List α, xs.length = n ∧ n ≤ c ∧ d.C W A xs.length xs ∧ (∀ x ∈ xs, g x) ∧ (xs.map bk).sum + 1 ≤ Rows.uptoBulk dd := by
  obtain ⟨fuel, hf⟩ := h
  obtain ⟨xs, ⟨A', c', he, hl, hr⟩, hg, hb⟩ := (opens_slice ht hc hd).2 H enc W base spare held fuel _ _ hf
  simp [Value.cells] at he
  obtain ⟨rfl, rfl, rfl⟩ := he
  exact ⟨xs, rfl, hl, hr, hg, hb⟩
/-- An argument of any kind that is opened, by its cells. -/
theorem open_cells {α : Type} {H : Type} {enc : TypeId × Value → H} {P : Program} {W : World} {base : Nat} {spare : Nat → Bool} {held : Bool} {t : TypeId} {d : Kd α} {g : α → Prop} {bk : α → Nat} {v : Value} {dd : DataW H} {ps : List MemPlace}
    (hd : Opens P d t g bk) (h : DataW.Trod enc P W base spare held t v dd ps) : ∃ a, d.K W a v.cells.toList ∧ g a ∧ bk a ≤ Rows.uptoBulk dd := by
  obtain ⟨fuel, hf⟩ := h
  exact hd.2 H enc W base spare held fuel _ _ hf
end Go.Proofs.Ytkbbbeklgpgolaa
