/- Plain facts on rising rows of texts: what the sort and the compaction leave; that a text put into a rising row leaves the same. -/
import Derived.Test.YtkbbbeklgpgolaaA2
import Derived.Sort.Walk0
set_option linter.unusedVariables false
set_option linter.unusedSimpArgs false
namespace Go.Proofs.Ytkbbbeklgpgolaa
open Go.RowKit Go.Sort

/-- Rising, each once. -/
def normB (xs : List ByteArray) : List ByteArray := compactB (sortB xs)
def Up (l : List (List UInt8)) : Prop := l.Pairwise (· < ·)
theorem lt_irr (a : List UInt8) : ¬ a < a := List.lt_irrefl a
theorem lt_tr {a b c : List UInt8} (h : a < b) (h' : b < c) : a < c := List.lt_trans h h'
theorem le_iff (a b : List UInt8) : a ≤ b ↔ ¬ b < a := Iff.rfl
theorem lt_of_ne_nlt {a b : List UInt8} (h : ¬ b < a) (hne : b ≠ a) : a < b := by
  rcases Decidable.em (a < b) with h1 | h1
  · exact h1
  · exact absurd (List.le_antisymm (show b ≤ a from h1) (show a ≤ b from h)) hne
theorem le_lt {a b c : List UInt8} (h : ¬ b < a) (h' : b < c) : a < c := by
  by_cases e : b = a
  · subst e; exact h'
  · exact lt_tr (lt_of_ne_nlt h e) h'

theorem up_ext : ∀ {l l' : List (List UInt8)}, Up l → Up l' → (∀ x, x ∈ l ↔ x ∈ l') → l = l' := by
  intro l
  induction l with
  | nil =>
    intro l' _ _ h
    cases l' with
    | nil => rfl
    | cons a t => exact absurd ((h a).2 List.mem_cons_self) (by simp)
  | cons a t ih =>
    intro l' h1 h2 h
    cases l' with
    | nil => exact absurd ((h a).1 List.mem_cons_self) (by simp)
    | cons b u =>
      have h1' := List.pairwise_cons.1 h1
      have h2' := List.pairwise_cons.1 h2
      have hab : a = b := by
        rcases List.mem_cons.1 ((h a).1 List.mem_cons_self) with e | e
        · exact e
        · rcases List.mem_cons.1 ((h b).2 List.mem_cons_self) with e' | e'
          · exact e'.symm
          · exact absurd (lt_tr (h2'.1 a e) (h1'.1 b e')) (lt_irr _)
      subst hab
      congr 1
      refine ih h1'.2 h2'.2 fun x => ⟨fun hx => ?_, fun hx => ?_⟩
      · rcases List.mem_cons.1 ((h x).1 (List.mem_cons_of_mem _ hx)) with e | e
        · subst e; exact absurd (h1'.1 x hx) (lt_irr _)
        · exact e
      · rcases List.mem_cons.1 ((h x).2 (List.mem_cons_of_mem _ hx)) with e | e
        · subst e; exact absurd (h2'.1 x hx) (lt_irr _)
        · exact e

theorem compact_up (d : Array (List UInt8)) (hs : ∀ i j, i < j → j < d.size → ¬ d[j]! < d[i]!) : ∀ m, m ≤ d.size →
    Up (Lib.compactUpTo d m) ∧ (∀ x, x ∈ Lib.compactUpTo d m ↔ ∃ j, j < m ∧ d[j]! = x) := by
  intro m
  induction m with
  | zero => intro _; exact ⟨by simp [Lib.compactUpTo, Up], fun x => by simp [Lib.compactUpTo]⟩
  | succ m ih =>
    intro hm
    obtain ⟨h1, h2⟩ := ih (by omega)
    rw [Lib.compactUpTo_succ]
    cases hk : Lib.keeps d m
    · have hm0 : m ≠ 0 := by intro e; subst e; simp [Lib.keeps] at hk
      have he : d[m]! = d[m - 1]! := by simp [Lib.keeps, hm0] at hk; exact hk
      refine ⟨by simpa using h1, fun x => ?_⟩
      simp only [Bool.false_eq_true, if_false, List.append_nil]
      rw [h2]
      constructor
      · rintro ⟨j, hj, e⟩; exact ⟨j, by omega, e⟩
      · rintro ⟨j, hj, e⟩
        by_cases hjm : j = m
        · subst hjm; exact ⟨j - 1, by omega, he.symm.trans e⟩
        · exact ⟨j, by omega, e⟩
    · refine ⟨?_, fun x => ?_⟩
      · simp only [if_true, Up]
        rw [List.pairwise_append]
        refine ⟨h1, by simp, fun a ha b hb => ?_⟩
        rw [List.mem_singleton] at hb
        subst hb
        obtain ⟨j, hj, rfl⟩ := (h2 a).1 ha
        have hne : d[m]! ≠ d[m - 1]! := by
          have hm0 : m ≠ 0 := by omega
          simp [Lib.keeps, hm0] at hk; exact hk
        have hlt : d[m - 1]! < d[m]! := lt_of_ne_nlt (hs (m - 1) m (by omega) (by omega)) hne
        by_cases hjm : j = m - 1
        · subst hjm; exact hlt
        · exact le_lt (hs j (m - 1) (by omega) (by omega)) hlt
      · simp only [if_true, List.mem_append, List.mem_singleton]
        rw [h2]
        constructor
        · rintro (⟨j, hj, e⟩ | e)
          · exact ⟨j, by omega, e⟩
          · exact ⟨m, by omega, e.symm⟩
        · rintro ⟨j, hj, e⟩
          by_cases hjm : j = m
          · subst hjm; exact .inr e.symm
          · exact .inl ⟨j, by omega, e⟩

def normL (l : List (List UInt8)) : List (List UInt8) := Lib.compact (l.mergeSort fun x y => decide (x ≤ y))
theorem normL_up (l : List (List UInt8)) : Up (normL l) ∧ ∀ x, x ∈ normL l ↔ x ∈ l := by
  have hp : (l.mergeSort fun x y => decide (x ≤ y)).Pairwise fun x y => (decide (x ≤ y)) = true :=
    List.pairwise_mergeSort (fun a b c h h' => by simp only [decide_eq_true_eq] at *; exact List.le_trans h h') (fun a b => by simp only [Bool.or_eq_true, decide_eq_true_eq]; exact List.le_total a b) l
  generalize hq : (l.mergeSort fun x y => decide (x ≤ y)) = q at hp
  have hm : ∀ x, x ∈ q ↔ x ∈ l := fun x => by rw [← hq]; exact List.mem_mergeSort
  have hs : ∀ i j, i < j → j < q.toArray.size → ¬ q.toArray[j]! < q.toArray[i]! := by
    intro i j hij hj
    have hj' : j < q.length := by simpa using hj
    have := List.pairwise_iff_getElem.1 hp i j (by omega) hj' hij
    simp only [decide_eq_true_eq] at this
    rw [getElem!_pos _ j (by simpa using hj'), getElem!_pos _ i (by simp; omega)]
    simpa using this
  obtain ⟨h1, h2⟩ := compact_up q.toArray hs q.length (by simp)
  unfold normL
  rw [hq]
  refine ⟨h1, fun x => ?_⟩
  rw [← hm]
  refine (h2 x).trans ?_
  constructor
  · rintro ⟨j, hj, rfl⟩
    rw [getElem!_pos _ j (by simpa using hj)]
    simp
  · intro hx
    obtain ⟨j, hj, rfl⟩ := List.mem_iff_getElem.1 hx
    exact ⟨j, hj, by rw [getElem!_pos _ j (by simpa using hj)]; simp⟩
theorem normB_eq (xs : List ByteArray) : normB xs = (normL (xs.map bl)).map lb := by
  unfold normB compactB sortB normL
  congr 2
  rw [List.map_map]
  conv => rhs; rw [← List.map_id ((xs.map bl).mergeSort fun x y => decide (x ≤ y))]
  exact List.map_congr_left fun l _ => bl_lb l
theorem normB_map (xs : List ByteArray) : (normB xs).map bl = normL (xs.map bl) := by
  rw [normB_eq, List.map_map]
  conv => rhs; rw [← List.map_id (normL (xs.map bl))]
  exact List.map_congr_left fun l _ => bl_lb l
theorem map_bl_inj {xs ys : List ByteArray} (h : xs.map bl = ys.map bl) : xs = ys := by
  have h1 : ∀ zs : List ByteArray, (zs.map bl).map lb = zs := fun zs => by
    rw [List.map_map]
    conv => rhs; rw [← List.map_id zs]
    exact List.map_congr_left fun s _ => lb_bl s
  rw [← h1 xs, h, h1 ys]
end Go.Proofs.Ytkbbbeklgpgolaa
