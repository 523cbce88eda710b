/- A text put into a rising row leaves what the sort and the compaction leave of both. -/
import Derived.Test.YtnigmpckohncoaaP1
set_option linter.unusedVariables false
set_option linter.unusedSimpArgs false
namespace Go.Proofs.Ytnigmpckohncoaa
open Go.RowKit Go.Sort

def UpB (l : List ByteArray) : Prop := Up (l.map bl)
theorem toList_bl (s : ByteArray) : s.toList = bl s := Lib.toList_data s
theorem less_eq (x s : ByteArray) : Op.bytesLess x.toList s.toList = decide (bl x < bl s) := by rw [bytesLess_eq, toList_bl, toList_bl]
theorem eq_eq (x s : ByteArray) : (x.toList == s.toList) = decide (bl x = bl s) := by rw [toList_bl, toList_bl, Bool.eq_iff_iff]; simp

/-- What is known behind so many of a rising row. -/
def PutInv (s : ByteArray) (p : List ByteArray) (r : Bool × List ByteArray) : Prop :=
  (r.1 = false → r.2 = p ∧ ∀ y ∈ p, bl y < bl s) ∧ (r.1 = true → UpB r.2 ∧ (∀ z, z ∈ r.2.map bl ↔ z ∈ p.map bl ∨ z = bl s) ∧ ∃ y ∈ p, ¬ bl y < bl s)

theorem up_snoc {l : List ByteArray} {x : ByteArray} (h : UpB l) (hx : ∀ y ∈ l, bl y < bl x) : UpB (l ++ [x]) := by
  unfold UpB Up
  rw [List.map_append, List.pairwise_append]
  refine ⟨h, by simp, fun a ha b hb => ?_⟩
  obtain ⟨y, hy, rfl⟩ := List.mem_map.1 ha
  simp at hb
  subst hb
  exact hx y hy

theorem putInv_step (s : ByteArray) (p : List ByteArray) (r : Bool × List ByteArray) (x : ByteArray) (hp : UpB p) (hx : ∀ y ∈ p, bl y < bl x) (h : PutInv s p r) : PutInv s (p ++ [x]) (putStep s r x) := by
  obtain ⟨d, ys⟩ := r
  unfold putStep gtB
  rw [eq_eq, less_eq]
  cases d
  · obtain ⟨hf, _⟩ := h
    obtain ⟨rfl, hlt⟩ := hf rfl
    by_cases he : bl x = bl s
    · have h1 : decide (bl x = bl s) = true := decide_eq_true he
      simp only [h1, Bool.false_or, Bool.not_true, Bool.and_false, Bool.false_eq_true, if_false]
      refine ⟨fun e => by simp at e, fun _ => ⟨up_snoc hp hx, fun z => ?_, x, by simp, by rw [he]; exact lt_irr _⟩⟩
      rw [List.map_append, List.mem_append, List.map_singleton, List.mem_singleton, he]
      constructor
      · exact fun h => .inl h
      · rintro (h | h)
        · exact h
        · exact .inr h
    · have h1 : decide (bl x = bl s) = false := decide_eq_false he
      by_cases hl : bl x < bl s
      · have h2 : decide (bl x < bl s) = true := decide_eq_true hl
        simp only [h1, h2, Bool.false_or, Bool.not_true, Bool.false_and, Bool.false_eq_true, if_false]
        refine ⟨fun _ => ⟨rfl, fun y hy => ?_⟩, fun e => by simp at e⟩
        rcases List.mem_append.1 hy with h | h
        · exact hlt y h
        · rw [List.mem_singleton.1 h]; exact hl
      · have h2 : decide (bl x < bl s) = false := decide_eq_false hl
        simp only [h1, h2, Bool.false_or, Bool.not_false, Bool.and_true, if_true]
        have hsx : bl s < bl x := lt_of_ne_nlt hl he
        refine ⟨fun e => by simp at e, fun _ => ⟨?_, fun z => ?_, x, by simp, hl⟩⟩
        · have := up_snoc (up_snoc hp hlt) (x := x) (fun y hy => by
            rcases List.mem_append.1 hy with h | h
            · exact hx y h
            · rw [List.mem_singleton.1 h]; exact hsx)
          simpa [List.append_assoc] using this
        · simp only [List.map_append, List.map_cons, List.map_nil, List.mem_append, List.mem_cons, List.not_mem_nil, or_false]
          constructor
          · rintro (h | h | h)
            · exact .inl (.inl h)
            · exact .inr h
            · exact .inl (.inr h)
          · rintro ((h | h) | h)
            · exact .inl h
            · exact .inr (.inr h)
            · exact .inr (.inl h)
  · obtain ⟨_, ht⟩ := h
    obtain ⟨h1, h2, y, hy, hys⟩ := ht rfl
    have hsx : bl s < bl x := by
      by_cases e : bl y = bl s
      · rw [← e]; exact hx y hy
      · exact lt_tr (lt_of_ne_nlt hys e) (hx y hy)
    simp only [Bool.true_or, Bool.not_true, Bool.and_false, Bool.false_eq_true, if_false]
    refine ⟨fun e => by simp at e, fun _ => ⟨up_snoc h1 (fun z hz => ?_), fun z => ?_, y, by simp [hy], hys⟩⟩
    · rcases (h2 (bl z)).1 (List.mem_map_of_mem hz) with h | h
      · obtain ⟨y', hy', e⟩ := List.mem_map.1 h
        rw [← e]; exact hx y' hy'
      · rw [h]; exact hsx
    · rw [List.map_append, List.mem_append, h2, List.map_append, List.mem_append]
      constructor
      · rintro ((h | h) | h)
        · exact .inl (.inl h)
        · exact .inr h
        · exact .inl (.inr h)
      · rintro ((h | h) | h)
        · exact .inl (.inl h)
        · exact .inr h
        · exact .inl (.inr h)

theorem putInv_all (s : ByteArray) : ∀ (l p : List ByteArray) (r : Bool × List ByteArray), UpB (p ++ l) → PutInv s p r → PutInv s (p ++ l) (l.foldl (putStep s) r) := by
  intro l
  induction l with
  | nil => intro p r _ h; simpa using h
  | cons x l ih =>
    intro p r hu h
    have hu' : UpB ((p ++ [x]) ++ l) := by simpa using hu
    have hpx : UpB (p ++ [x]) := by
      unfold UpB Up at hu' ⊢
      rw [List.map_append] at hu'
      exact (List.pairwise_append.1 hu').1
    have hp : UpB p ∧ ∀ y ∈ p, bl y < bl x := by
      unfold UpB Up at hpx ⊢
      rw [List.map_append, List.pairwise_append] at hpx
      exact ⟨hpx.1, fun y hy => hpx.2.2 _ (List.mem_map_of_mem hy) _ (by simp)⟩
    have := ih (p ++ [x]) (putStep s r x) hu' (putInv_step s p r x hp.1 hp.2 h)
    simpa using this

theorem putB_up (l : List ByteArray) (s : ByteArray) (hl : UpB l) : UpB (putB l s) ∧ ∀ z, z ∈ (putB l s).map bl ↔ z ∈ l.map bl ∨ z = bl s := by
  have h := putInv_all s l [] (false, []) (by simpa using hl) ⟨fun _ => ⟨rfl, fun y hy => by simp at hy⟩, fun e => by simp at e⟩
  simp only [List.nil_append] at h
  unfold putB putFold
  cases hd : (l.foldl (putStep s) (false, [])).1
  · obtain ⟨h1, h2⟩ := h.1 hd
    simp only [Bool.false_eq_true, if_false]
    rw [h1]
    refine ⟨up_snoc hl h2, fun z => ?_⟩
    simp
  · obtain ⟨h1, h2, _⟩ := h.2 hd
    simp only [if_true]
    exact ⟨h1, h2⟩
theorem normB_up (xs : List ByteArray) : UpB (normB xs) ∧ ∀ z, z ∈ (normB xs).map bl ↔ z ∈ xs.map bl := by
  unfold UpB
  rw [normB_map]
  exact normL_up _
theorem upB_ext {l l' : List ByteArray} (h : UpB l) (h' : UpB l') (hm : ∀ z, z ∈ l.map bl ↔ z ∈ l'.map bl) : l = l' := map_bl_inj (up_ext h h' hm)
theorem norm_put (l : List ByteArray) (s : ByteArray) (hl : UpB l) : normB (l ++ [s]) = putB l s := by
  obtain ⟨h1, h2⟩ := normB_up (l ++ [s])
  obtain ⟨h3, h4⟩ := putB_up l s hl
  refine upB_ext h1 h3 fun z => ?_
  rw [h2, h4]
  simp
theorem norm_id (l : List ByteArray) (hl : UpB l) : normB l = l := by
  obtain ⟨h1, h2⟩ := normB_up l
  exact upB_ext h1 hl h2
end Go.Proofs.Ytnigmpckohncoaa
