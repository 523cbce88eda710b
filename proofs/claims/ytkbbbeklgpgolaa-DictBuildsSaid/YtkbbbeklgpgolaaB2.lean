/- The reference's dictionary of texts: plain. -/
import Derived.Test.YtkbbbeklgpgolaaD4
import Derived.Test.YtkbbbeklgpgolaaDP
set_option linter.unusedVariables false
set_option linter.unusedSimpArgs false
namespace Go.Proofs.Ytkbbbeklgpgolaa
open Go.RowKit Go.Sort Go.Proofs.YtkbbbeklgpgolaaW.PrintWords Pref

theorem has_cases (l : List ByteArray) (s : ByteArray) : (∃ t, low l s < l.length ∧ l[low l s]? = some t ∧ has l s = (t.toList == s.toList)) ∨ (¬ low l s < l.length ∧ has l s = false) := by
  by_cases h : low l s < l.length
  · refine .inl ⟨l[low l s], h, List.getElem?_eq_getElem h, ?_⟩
    unfold has
    rw [get_eq h, decide_eq_true h, Bool.true_and]
  · refine .inr ⟨h, ?_⟩
    unfold has
    rw [decide_eq_false h, Bool.false_and]
section
variable {k : Nat} {l acc : List ByteArray} {i t : Int} {a b : ByteArray}
theorem b1_same (h1 : i < (l.length : Int)) (h2 : 0 ≤ i) (h3 : rdOf ByteArray.empty l i = a) (e : gristmillref03_From.f k acc a = some t) (h4 : t < (acc.length : Int)) (h5 : 0 ≤ t) (h6 : rdOf ByteArray.empty acc t = b) (h7 : b.toList = a.toList) :
    gristmillref03_Build.l1 (k + 1) l acc i = gristmillref03_Build.l1 k l acc (wrap64 (i + 1)) := by
  rw [gristmillref03_Build.l1, if_pos h1, if_pos h2, h3, e, Option.bind_some, if_pos h4, if_pos h5, h6, if_pos h7]
theorem b1_mid (h1 : i < (l.length : Int)) (h2 : 0 ≤ i) (h3 : rdOf ByteArray.empty l i = a) (e : gristmillref03_From.f k acc a = some t) (h4 : t < (acc.length : Int)) (h5 : 0 ≤ t) (h6 : rdOf ByteArray.empty acc t = b) (h7 : ¬ b.toList = a.toList) (h8 : t ≤ (acc.length : Int))
    (n1 : ([] : List ByteArray).length + (acc.take t.toNat).length < 8796093022208) (n2 : (([] : List ByteArray) ++ acc.take t.toNat).length < 8796093022208) (n3 : ((([] : List ByteArray) ++ acc.take t.toNat) ++ [a]).length + (acc.drop t.toNat).length < 8796093022208) :
    gristmillref03_Build.l1 (k + 1) l acc i = gristmillref03_Build.l1 k l (((([] : List ByteArray) ++ acc.take t.toNat) ++ [a]) ++ acc.drop t.toNat) (wrap64 (i + 1)) := by
  rw [gristmillref03_Build.l1, if_pos h1, if_pos h2, h3, e, Option.bind_some, if_pos h4, if_pos h5, h6, if_neg h7, if_pos h8, Option.bind_some, if_pos n1, Option.bind_some, if_pos n2, Option.bind_some, Option.bind_some, if_pos n3]
theorem b1_new (h1 : i < (l.length : Int)) (h2 : 0 ≤ i) (h3 : rdOf ByteArray.empty l i = a) (e : gristmillref03_From.f k acc a = some t) (h4 : ¬ t < (acc.length : Int)) (h5 : 0 ≤ t) (h8 : t ≤ (acc.length : Int))
    (n1 : ([] : List ByteArray).length + (acc.take t.toNat).length < 8796093022208) (n2 : (([] : List ByteArray) ++ acc.take t.toNat).length < 8796093022208) (n3 : ((([] : List ByteArray) ++ acc.take t.toNat) ++ [a]).length + (acc.drop t.toNat).length < 8796093022208) :
    gristmillref03_Build.l1 (k + 1) l acc i = gristmillref03_Build.l1 k l (((([] : List ByteArray) ++ acc.take t.toNat) ++ [a]) ++ acc.drop t.toNat) (wrap64 (i + 1)) := by
  rw [gristmillref03_Build.l1, if_pos h1, if_pos h2, h3, e, Option.bind_some, if_neg h4, if_pos h5, if_pos h8, Option.bind_some, if_pos n1, Option.bind_some, if_pos n2, Option.bind_some, Option.bind_some, if_pos n3]
end
/-- One text more in a rising row. -/
def ins (acc : List ByteArray) (s : ByteArray) : List ByteArray :=
  if has acc s = true then acc else acc.take (low acc s) ++ [s] ++ acc.drop (low acc s)
theorem take_low (l : List ByteArray) (s : ByteArray) : ∀ t ∈ l.take (low l s), bl t < bl s := by
  intro t ht
  have e : l.take (low l s) = l.takeWhile fun t => Op.bytesLess t.toList s.toList := by
    unfold low
    exact (List.prefix_iff_eq_take.1 (List.takeWhile_prefix _)).symm
  rw [e] at ht
  have := List.all_eq_true.1 List.all_takeWhile t ht
  simp only [less_eq] at this
  exact of_decide_eq_true this
theorem up_parts {l : List ByteArray} (h : UpB l) (n : Nat) : (∀ a ∈ l.take n, ∀ b ∈ l.drop n, bl a < bl b) ∧ UpB (l.take n) ∧ UpB (l.drop n) := by
  have h1 : (l.map bl).Pairwise (· < ·) := h
  rw [← List.take_append_drop n l, List.map_append, List.pairwise_append] at h1
  exact ⟨fun a ha b hb => h1.2.2 _ (List.mem_map_of_mem ha) _ (List.mem_map_of_mem hb), h1.1, h1.2.1⟩
theorem ins_up {acc : List ByteArray} (h : UpB acc) (s : ByteArray) : UpB (ins acc s) ∧ ∀ z, z ∈ (ins acc s).map bl ↔ (z ∈ acc.map bl ∨ z = bl s) := by
  unfold ins
  split
  · rename_i hx
    obtain ⟨t, h1, h2, h3⟩ : ∃ t, low acc s < acc.length ∧ acc[low acc s]? = some t ∧ t.toList = s.toList := by
      rcases has_cases acc s with ⟨t, h1, h2, h3⟩ | ⟨_, h3⟩
      · exact ⟨t, h1, h2, by rw [hx] at h3; exact eq_of_beq h3.symm⟩
      · rw [hx] at h3; cases h3
    refine ⟨h, fun z => ⟨.inl, fun hz => hz.elim id fun hz => ?_⟩⟩
    subst hz
    obtain ⟨h4, rfl⟩ := List.getElem?_eq_some_iff.1 h2
    rw [← toList_bl, ← h3, toList_bl]
    exact List.mem_map_of_mem (List.getElem_mem _)
  · rename_i hx
    obtain ⟨p1, p2, p3⟩ := up_parts h (low acc s)
    have q1 := take_low acc s
    have q2 := drop_low h s
    have q3 : ∀ t ∈ acc.drop (low acc s), bl s < bl t := by
      by_cases hk : low acc s < acc.length
      · have hne : ¬ bl acc[low acc s] = bl s := by
          intro e
          refine hx ?_
          unfold has
          rw [get_eq hk, decide_eq_true hk, toList_bl, toList_bl, e]
          simp
        have e := List.drop_eq_getElem_cons hk
        have hfst : bl s < bl acc[low acc s] := by
          refine lt_of_ne_nlt (q2 _ ?_) hne
          rw [e]; exact List.mem_cons_self
        intro t ht
        rw [e] at ht
        rcases List.mem_cons.1 ht with rfl | ht
        · exact hfst
        · have h5 : ((acc[low acc s] :: acc.drop (low acc s + 1)).map bl).Pairwise (· < ·) := by rw [← e]; exact p3
          rw [List.map_cons, List.pairwise_cons] at h5
          exact lt_tr hfst (h5.1 _ (List.mem_map_of_mem ht))
      · rw [List.drop_eq_nil_of_le (by omega)]
        intro t ht
        cases ht
    refine ⟨?_, fun z => ?_⟩
    · show ((acc.take (low acc s) ++ [s] ++ acc.drop (low acc s)).map bl).Pairwise (· < ·)
      rw [List.map_append, List.map_append, List.pairwise_append, List.pairwise_append]
      refine ⟨⟨p2, by simp, ?_⟩, p3, ?_⟩
      · intro x hx y hy
        obtain ⟨x, hx', rfl⟩ := List.mem_map.1 hx
        rw [List.map_singleton, List.mem_singleton] at hy
        rw [hy]
        exact q1 x hx'
      · intro x hx y hy
        obtain ⟨y, hy', rfl⟩ := List.mem_map.1 hy
        rcases List.mem_append.1 hx with hx | hx
        · obtain ⟨x, hx', rfl⟩ := List.mem_map.1 hx
          exact p1 x hx' y hy'
        · rw [List.map_singleton, List.mem_singleton] at hx
          rw [hx]
          exact q3 y hy'
    · have e : z ∈ acc.map bl ↔ (z ∈ (acc.take (low acc s)).map bl ∨ z ∈ (acc.drop (low acc s)).map bl) := by
        rw [← List.mem_append, ← List.map_append, List.take_append_drop]
      rw [e, List.map_append, List.map_append, List.mem_append, List.mem_append, List.map_singleton, List.mem_singleton]
      constructor
      · rintro ((h | h) | h)
        · exact .inl (.inl h)
        · exact .inr h
        · exact .inl (.inr h)
      · rintro ((h | h) | h)
        · exact .inl (.inl h)
        · exact .inr h
        · exact .inl (.inr h)
theorem low_len_take (acc : List ByteArray) (s : ByteArray) : (acc.take (low acc s)).length = low acc s := by
  rw [List.length_take]; have := low_le acc s; omega
theorem ins_len (acc : List ByteArray) (s : ByteArray) : (ins acc s).length ≤ acc.length + 1 := by
  unfold ins
  have h1 := low_le acc s
  split
  · omega
  · simp only [List.length_append, List.length_take, List.length_drop, List.length_singleton]
    omega
theorem n_lt1 {a b n : Nat} (h : a = n) (h2 : n ≤ b) (h3 : b < 8796093022207) : 0 + a < 8796093022208 := by omega
theorem n_lt2 {a b n d : Nat} (h : a = n) (hd : d = b - n) (h2 : n ≤ b) (h3 : b < 8796093022207) : a + 1 + d < 8796093022208 := by omega
theorem Ev.from_ (l : List ByteArray) (s : ByteArray) (hl : l.length < 9223372036854775807) : Ev (fun k => gristmillref03_From.f k l s) ((low l s : Nat) : Int) := Ev.of (gristmillref03_From.mono _ _) (ref_from l s hl)
theorem b1_step {l acc : List ByteArray} {i : Nat} {r : List ByteArray × Int} (hi : i < l.length) (hl : l.length < 8796093022207) (ha : acc.length < 8796093022207)
    (h : Ev (fun k => gristmillref03_Build.l1 k l (ins acc l[i]) ((i + 1 : Nat) : Int)) r) : Ev (fun k => gristmillref03_Build.l1 k l acc (i : Int)) r := by
  obtain ⟨K1, h1⟩ := Ev.from_ acc l[i] (by omega)
  obtain ⟨K2, h2⟩ := h
  refine ⟨K1 + K2 + 1, fun k hk => ?_⟩
  obtain ⟨k, rfl⟩ : ∃ m, k = m + 1 := ⟨k - 1, by omega⟩
  have e1 := h1 k (by omega)
  have e2 := h2 k (by omega)
  simp only [] at e1 e2
  have hle := low_le acc l[i]
  have qi : (i : Int) < (l.length : Int) := Int.ofNat_lt.2 hi
  have w1 := w64_nat (i := i) (by omega)
  have q0 : (0 : Int) ≤ (i : Int) := Int.natCast_nonneg _
  have t0 : (0 : Int) ≤ ((low acc l[i] : Nat) : Int) := Int.natCast_nonneg _
  have tle : ((low acc l[i] : Nat) : Int) ≤ (acc.length : Int) := Int.ofNat_le.2 hle
  have hlt := low_len_take acc l[i]
  have n1 : ([] : List ByteArray).length + (acc.take ((low acc l[i] : Nat) : Int).toNat).length < 8796093022208 := n_lt1 hlt hle ha
  have n2 : (([] : List ByteArray) ++ acc.take ((low acc l[i] : Nat) : Int).toNat).length < 8796093022208 := by
    rw [List.length_append]; exact n1
  have n3 : ((([] : List ByteArray) ++ acc.take ((low acc l[i] : Nat) : Int).toNat) ++ [l[i]]).length + (acc.drop ((low acc l[i] : Nat) : Int).toNat).length < 8796093022208 := by
    rw [List.length_append, List.nil_append, List.length_singleton]
    exact n_lt2 hlt List.length_drop hle ha
  show gristmillref03_Build.l1 (k + 1) l acc (i : Int) = some r
  unfold ins at e2
  rcases has_cases acc l[i] with ⟨t, hk, hkt, hh⟩ | ⟨hk, hh⟩
  · obtain ⟨_, hkt⟩ := List.getElem?_eq_some_iff.1 hkt
    have r2 := rdOf_get hk
    rw [hkt] at r2
    by_cases hb : t.toList = l[i].toList
    · rw [hh, hb, if_pos (beq_self_eq_true _)] at e2
      rw [b1_same qi q0 (rdOf_get hi) e1 (Int.ofNat_lt.2 hk) t0 r2 hb, w1]
      exact e2
    · rw [hh, if_neg (fun h => hb (eq_of_beq h))] at e2
      rw [b1_mid qi q0 (rdOf_get hi) e1 (Int.ofNat_lt.2 hk) t0 r2 hb tle n1 n2 n3, w1]
      exact e2
  · rw [hh, if_neg (by decide)] at e2
    rw [b1_new qi q0 (rdOf_get hi) e1 (fun h => hk (Int.ofNat_lt.1 h)) t0 tle n1 n2 n3, w1]
    exact e2
/-- What the reference makes of a row of texts that are short enough. -/
theorem b1_all {l : List ByteArray} (hl : l.length < 8796093022207) (d : Nat) : ∀ (i : Nat) (acc : List ByteArray), i ≤ l.length → l.length - i = d → UpB acc → acc.length ≤ i → (∀ z, z ∈ acc.map bl ↔ z ∈ (l.take i).map bl) →
    Ev (fun k => gristmillref03_Build.l1 k l acc (i : Int)) (if ((normB l).length : Int) > 4096 then ([], 1) else (normB l, 0)) := by
  induction d with
  | zero =>
    intro i acc h1 h2 hu ha hm
    have e : acc = normB l := by
      refine upB_ext hu (normB_up l).1 fun z => ?_
      rw [hm, (normB_up l).2, List.take_of_length_le (by omega)]
    subst e
    refine ⟨1, fun k hk => ?_⟩
    obtain ⟨k, rfl⟩ : ∃ m, k = m + 1 := ⟨k - 1, by omega⟩
    show gristmillref03_Build.l1 (k + 1) l (normB l) (i : Int) = _
    rw [gristmillref03_Build.l1, if_neg (by omega)]
    split <;> rfl
  | succ d ih =>
    intro i acc h1 h2 hu ha hm
    have hi : i < l.length := by omega
    obtain ⟨u1, u2⟩ := ins_up hu l[i]
    refine b1_step hi hl (by omega) (ih (i + 1) _ (by omega) (by omega) u1 (by have := ins_len acc l[i]; omega) fun z => ?_)
    rw [u2, hm, List.take_succ_eq_append_getElem hi, List.map_append, List.mem_append]
    simp
theorem b0_long {l : List ByteArray} (hl : l.length < 8796093022207) (d : Nat) : ∀ (i : Nat), i ≤ l.length → l.length - i = d →
    Ev (fun k => gristmillref03_Build.l0 k l (i : Int)) (if (l.drop i).any long = true then ([], 1) else if ((normB l).length : Int) > 4096 then ([], 1) else (normB l, 0)) := by
  induction d with
  | zero =>
    intro i h1 h2
    refine Ev.step (f := fun k => gristmillref03_Build.l1 k l [] 0) (fun k => ?_) ?_
    · rw [gristmillref03_Build.l0, if_neg (by omega)]
    · rw [List.drop_of_length_le (by omega), List.any_nil, if_neg (by decide)]
      exact b1_all hl l.length 0 [] (Nat.zero_le _) rfl List.Pairwise.nil (Nat.le_refl _) (fun z => by simp)
  | succ d ih =>
    intro i h1 h2
    have hi : i < l.length := by omega
    rw [List.drop_eq_getElem_cons hi, List.any_cons]
    by_cases hlo : (l[i].size : Int) > 64
    · have e : long l[i] = true := decide_eq_true hlo
      rw [e, Bool.true_or, if_pos rfl]
      refine Ev.step (f := fun _ => some ([], 1)) (fun k => ?_) (Ev.now _)
      rw [gristmillref03_Build.l0, if_pos (Int.ofNat_lt.2 hi), if_pos (Int.natCast_nonneg _), rdOf_get hi, if_pos hlo]
    · have e : long l[i] = false := decide_eq_false hlo
      rw [e, Bool.false_or]
      refine Ev.step (f := fun k => gristmillref03_Build.l0 k l ((i + 1 : Nat) : Int)) (fun k => ?_) (ih (i + 1) (by omega) (by omega))
      rw [gristmillref03_Build.l0, if_pos (Int.ofNat_lt.2 hi), if_pos (Int.natCast_nonneg _), rdOf_get hi, if_neg hlo, w64_nat (by omega)]
theorem ref_build {l : List ByteArray} (hl : l.length < 8796093022207) : ∃ k, gristmillref03_Build.f k l = some (if l.any long = true then ([], 1) else if ((normB l).length : Int) > 4096 then ([], 1) else (normB l, 0)) := by
  obtain ⟨k, hk⟩ := (b0_long hl l.length 0 (Nat.zero_le _) rfl).rounds
  exact ⟨k, hk⟩
end Go.Proofs.Ytkbbbeklgpgolaa
