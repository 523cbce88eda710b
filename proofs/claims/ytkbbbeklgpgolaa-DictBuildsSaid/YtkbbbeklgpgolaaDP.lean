/- Where a text stands in a rising row, and which begin with it: plain; what the reference answers of both. -/
import Derived.Test.YtkbbbeklgpgolaaP2
import Derived.Test.YtkbbbeklgpgolaaR8
set_option linter.unusedVariables false
set_option linter.unusedSimpArgs false
namespace Go.Proofs.Ytkbbbeklgpgolaa
open Go.RowKit Go.Sort Go.Proofs.YtkbbbeklgpgolaaW.PrintWords Pref

/-- How many texts stand below one, from the row's head on. -/
def low (l : List ByteArray) (s : ByteArray) : Nat := (l.takeWhile fun t => Op.bytesLess t.toList s.toList).length
/-- Does a text begin with p? -/
def hp (p t : ByteArray) : Bool := Lib.hasPrefix t.data.toList p.data.toList
/-- How many texts begin with p, from the first one that isn't below it on. -/
def many (l : List ByteArray) (p : ByteArray) : Nat := ((l.drop (low l p)).takeWhile (hp p)).length
theorem low_le (l : List ByteArray) (s : ByteArray) : low l s ≤ l.length := (List.takeWhile_sublist _).length_le
theorem many_le (l : List ByteArray) (p : ByteArray) : low l p + many l p ≤ l.length := by
  have h := (List.takeWhile_sublist (l := l.drop (low l p)) (hp p)).length_le
  rw [List.length_drop] at h
  have := low_le l p
  unfold many
  omega
theorem rdOf_get {l : List ByteArray} {i : Nat} (h : i < l.length) : rdOf ByteArray.empty l (i : Int) = l[i] := by
  unfold rdOf
  simp [List.getD_eq_getElem?_getD, List.getElem?_eq_getElem h]
theorem w64_nat {i : Nat} (h : i < 9223372036854775807) : wrap64 ((i : Int) + 1) = ((i + 1 : Nat) : Int) := by unfold wrap64; omega

theorem ref_from_all (l : List ByteArray) (s : ByteArray) (hl : l.length < 9223372036854775807) (d : Nat) : ∀ i : Nat, i ≤ l.length → l.length - i = d →
    gristmillref03_From.l0 (d + 1) l s (i : Int) = some (((i + ((l.drop i).takeWhile fun t => Op.bytesLess t.toList s.toList).length : Nat)) : Int) := by
  induction d with
  | zero =>
    intro i h1 h2
    have : l.drop i = [] := List.drop_eq_nil_of_le (by omega)
    rw [gristmillref03_From.l0, if_neg (by omega), this]
    simp
  | succ d ih =>
    intro i h1 h2
    have hi : i < l.length := by omega
    rw [gristmillref03_From.l0, if_pos (by omega), if_pos (by omega), rdOf_get hi, List.drop_eq_getElem_cons hi, List.takeWhile_cons]
    cases hb : Op.bytesLess l[i].toList s.toList
    · simp
    · rw [if_pos rfl, if_pos rfl, w64_nat (by omega), ih (i + 1) (by omega) (by omega), List.length_cons]
      congr 2
      omega
theorem ref_from (l : List ByteArray) (s : ByteArray) (hl : l.length < 9223372036854775807) : gristmillref03_From.f (l.length + 1) l s = some ((low l s : Nat) : Int) := by
  unfold gristmillref03_From.f
  have h := ref_from_all l s hl l.length 0 (Nat.zero_le _) rfl
  simpa [low] using h
theorem ref_begins (t p : ByteArray) : gristmillref03_begins.f t p = some (hp p t) := by
  unfold gristmillref03_begins.f hp Lib.hasPrefix
  have hs : t.data.toList.length = t.size := data_length t
  have hq : p.data.toList.length = p.size := data_length p
  by_cases h : (t.size : Int) ≥ (p.size : Int)
  · rw [if_pos h, if_pos (by omega), if_pos h]
    congr 1
    rw [toList_bl, toList_bl, Bool.eq_iff_iff, beq_iff_eq, List.isPrefixOf_iff_prefix, List.prefix_iff_eq_take, hq]
    have e : bl (t.extract 0 ((p.size : Int)).toNat) = t.data.toList.take p.size := by
      unfold bl
      simp
    rw [e]
    exact eq_comm
  · rw [if_neg h]
    congr 1
    symm
    rw [Bool.eq_false_iff]
    intro hc
    rw [List.isPrefixOf_iff_prefix] at hc
    have := hc.length_le
    omega
theorem ref_begin_all (l : List ByteArray) (p : ByteArray) (lo : Int) (hl : l.length < 9223372036854775807) (d : Nat) : ∀ i : Nat, i ≤ l.length → l.length - i = d →
    gristmillref03_Begin.l0 (d + 1) l p lo (i : Int) = some (lo, ((i + ((l.drop i).takeWhile (hp p)).length : Nat) : Int)) := by
  induction d with
  | zero =>
    intro i h1 h2
    have : l.drop i = [] := List.drop_eq_nil_of_le (by omega)
    rw [gristmillref03_Begin.l0, if_neg (by omega), this]
    simp
  | succ d ih =>
    intro i h1 h2
    have hi : i < l.length := by omega
    rw [gristmillref03_Begin.l0, if_pos (by omega), if_pos (by omega), rdOf_get hi, ref_begins, Option.bind_some, List.drop_eq_getElem_cons hi, List.takeWhile_cons]
    cases hb : hp p l[i]
    · simp
    · rw [if_pos rfl, if_pos rfl, w64_nat (by omega), ih (i + 1) (by omega) (by omega), List.length_cons]
      congr 3
      omega
theorem ref_begin (l : List ByteArray) (p : ByteArray) (hl : l.length < 9223372036854775807) : ∃ k, gristmillref03_Begin.f k l p = some (((low l p : Nat) : Int), ((low l p + many l p : Nat) : Int)) := by
  have hle := low_le l p
  have h1 := ref_from l p hl
  have h2 := ref_begin_all l p (low l p : Nat) hl (l.length - low l p) (low l p) hle rfl
  have m1 : ∀ d, gristmillref03_From.f (l.length + 1 + d) l p = some ((low l p : Nat) : Int) := fun d => by
    induction d with
    | zero => exact h1
    | succ d ih => exact gristmillref03_From.mono l p (l.length + 1 + d) _ ih
  refine ⟨l.length + 1, ?_⟩
  unfold gristmillref03_Begin.f
  rw [m1 0, Option.bind_some]
  have m2 : ∀ d, gristmillref03_Begin.l0 (l.length - low l p + 1 + d) l p (low l p : Nat) (low l p : Nat) = some (((low l p : Nat) : Int), ((low l p + many l p : Nat) : Int)) := fun d => by
    induction d with
    | zero => exact h2
    | succ d ih => exact gristmillref03_Begin.mono_l (l.length - low l p + 1 + d) l p _ _ _ ih
  have h3 := m2 (low l p)
  rwa [show l.length - low l p + 1 + low l p = l.length + 1 by omega] at h3

theorem count_take {α : Type} (f : α → Bool) : ∀ l : List α, l.Pairwise (fun a b => f b = true → f a = true) → l.countP f = (l.takeWhile f).length
  | [], _ => rfl
  | a :: l, h => by
    rw [List.pairwise_cons] at h
    rw [List.takeWhile_cons]
    cases ha : f a
    · have h0 : l.countP f = 0 := List.countP_eq_zero.2 fun b hb hfb => by
        have := h.1 b hb hfb
        rw [ha] at this
        cases this
      rw [List.countP_cons, h0, ha]
      simp
    · rw [List.countP_cons, count_take f l h.2, ha]
      simp
theorem count_range {α : Type} (z : α) (f : α → Bool) (l : List α) (lo : Nat) : (List.range (l.length - lo)).countP (fun i => f (l.getD (lo + i) z)) = (l.drop lo).countP f := by
  have h : l.drop lo = (List.range (l.length - lo)).map (fun i => l.getD (lo + i) z) := by
    apply List.ext_getElem
    · simp
    · intro i h1 h2
      rw [List.length_drop] at h1
      simp only [List.getElem_map, List.getElem_range, List.getElem_drop]
      rw [List.getD_eq_getElem?_getD, List.getElem?_eq_getElem (by omega)]
      rfl
  rw [h, List.countP_map]
  rfl
theorem low_count {l : List ByteArray} (h : UpB l) (s : ByteArray) : (List.range l.length).countP (fun i => Op.bytesLess (l.getD i ByteArray.empty).toList s.toList) = low l s := by
  have h1 := count_range ByteArray.empty (fun t => Op.bytesLess t.toList s.toList) l 0
  simp only [Nat.sub_zero, Nat.zero_add, List.drop_zero] at h1
  rw [h1, count_take]
  · rfl
  · unfold UpB Up at h
    rw [List.pairwise_map] at h
    exact h.imp fun {a b} hab hb => by
      rw [less_eq, decide_eq_true_eq] at hb ⊢
      exact lt_tr hab hb
theorem pre_mid : ∀ {p a b : List UInt8}, ¬ a < p → a < b → p <+: b → p <+: a
  | [], a, b, _, _, _ => List.nil_prefix
  | x :: p, [], b, h, _, _ => absurd (List.nil_lt_cons x p) h
  | x :: p, y :: a, [], _, _, hp => absurd (hp.length_le) (by simp)
  | x :: p, y :: a, z :: b, h, h1, h2 => by
    rw [List.cons_prefix_cons] at h2 ⊢
    obtain ⟨rfl, h2⟩ := h2
    rw [List.cons_lt_cons_iff] at h h1
    rcases h1 with h1 | ⟨rfl, h1⟩
    · exact absurd (.inl h1) h
    · exact ⟨rfl, pre_mid (fun hh => h (.inr ⟨rfl, hh⟩)) h1 h2⟩
theorem drop_low {l : List ByteArray} (h : UpB l) (s : ByteArray) : ∀ t ∈ l.drop (low l s), ¬ bl t < bl s := by
  unfold UpB Up at h
  rw [List.pairwise_map] at h
  induction l with
  | nil => intro t ht; simp at ht
  | cons a l ih =>
    rw [List.pairwise_cons] at h
    unfold low
    rw [List.takeWhile_cons]
    cases ha : Op.bytesLess a.toList s.toList
    · intro t ht hts
      rw [less_eq, decide_eq_false_iff_not] at ha
      simp only [Bool.false_eq_true, if_false, List.length_nil, List.drop_zero] at ht
      rcases List.mem_cons.1 ht with rfl | ht
      · exact ha hts
      · exact ha (lt_tr (h.1 t ht) hts)
    · simp only [if_true, List.length_cons, List.drop_succ_cons]
      exact ih h.2
theorem many_pair {l : List ByteArray} (h : UpB l) (p : ByteArray) : (l.drop (low l p)).Pairwise (fun a b => hp p b = true → hp p a = true) := by
  have hd := drop_low h p
  unfold UpB Up at h
  rw [List.pairwise_map] at h
  have h1 : (l.drop (low l p)).Pairwise (fun a b => bl a < bl b) := h.sublist (List.drop_sublist _ _)
  refine (List.Pairwise.and_mem.1 h1).imp fun {a b} hab hb => ?_
  obtain ⟨ha, _, hab⟩ := hab
  unfold hp Lib.hasPrefix at hb ⊢
  rw [List.isPrefixOf_iff_prefix] at hb ⊢
  exact pre_mid (hd a ha) hab hb
theorem many_count {l : List ByteArray} (h : UpB l) (p : ByteArray) : (List.range (l.length - low l p)).countP (fun i => hp p (l.getD (low l p + i) ByteArray.empty)) = many l p := by
  rw [count_range ByteArray.empty (hp p) l (low l p), count_take _ _ (many_pair h p)]
  rfl
end Go.Proofs.Ytkbbbeklgpgolaa
