/- What the program adds one by one is what the reference answers; and what it merges is what it has of both. -/
import Derived.Test.YtnigmpckohncoaaP2
set_option linter.unusedVariables false
set_option linter.unusedSimpArgs false
namespace Go.Proofs.Ytnigmpckohncoaa
open Go.RowKit Go.Sort YtnigmpckohncoaaW.PrintWords PAggCounts

def zP : PV := ⟨0, 0, []⟩
/-- A partial of at most so many. -/
def Good (N : Int) (p : PV) : Prop := 0 ≤ p.n ∧ p.n ≤ N ∧ UpB p.xs ∧ (p.n = 0 → p = zP)
theorem upB_nil : UpB [] := by unfold UpB Up; simp
theorem upB_one (s : ByteArray) : UpB [s] := by unfold UpB Up; simp
theorem good_z (N : Int) (h : 0 ≤ N) : Good N zP := ⟨Int.le_refl _, h, upB_nil, fun _ => rfl⟩
theorem u64_id (x : Int) (h : 0 ≤ x) (h' : x < 18446744073709551616) : IntKind.u64.wrap x = x := by
  have h2 : IntKind.u64.wrap x = x % 18446744073709551616 := by
    simp [IntKind.wrap, IntKind.bits, IntKind.signed]
  rw [h2]; omega
theorem u64_mod (x : Int) : IntKind.u64.wrap x = x % 18446744073709551616 := by
  simp [IntKind.wrap, IntKind.bits, IntKind.signed]

theorem merge_zl (k : Int) {N : Int} {p : PV} (h : Good N p) : mergeP k zP p = p := by
  obtain ⟨h0, _, hu, hz⟩ := h
  unfold mergeP zP
  rw [if_pos rfl]
  by_cases e : p.n = 0
  · rw [if_pos e]; exact (hz e).symm
  · rw [if_neg e, norm_id _ hu]
theorem merge_zr (k : Int) {N : Int} {p : PV} (h : Good N p) : mergeP k p zP = p := by
  obtain ⟨h0, _, hu, hz⟩ := h
  unfold mergeP
  by_cases e : p.n = 0
  · rw [if_pos e, hz e]; rfl
  · rw [if_neg e, if_pos (show zP.n = 0 from rfl), norm_id _ hu]
theorem merge_pos (k : Int) {p q : PV} {N M : Int} (hp : Good N p) (hq : Good M q) (hs : N + M < 18446744073709551616) (e : p.n ≠ 0) (e' : q.n ≠ 0) :
    mergeP k p q = ⟨p.n + q.n, mergeV k p.v q.v, normB (p.xs ++ q.xs)⟩ := by
  obtain ⟨h0, h1, _⟩ := hp
  obtain ⟨h2, h3, _⟩ := hq
  unfold mergeP
  rw [if_neg e, if_neg e', u64_id _ (by omega) (by omega)]
theorem merge_good (k : Int) {p q : PV} {N M : Int} (hp : Good N p) (hq : Good M q) (hs : N + M < 18446744073709551616) : Good (N + M) (mergeP k p q) := by
  have a0 := hp.1
  have a1 := hp.2.1
  have b0 := hq.1
  have b1 := hq.2.1
  by_cases e : p.n = 0
  · rw [hp.2.2.2 e, merge_zl k hq]
    exact ⟨b0, by omega, hq.2.2⟩
  · by_cases e' : q.n = 0
    · rw [hq.2.2.2 e', merge_zr k hp]
      exact ⟨a0, by omega, hp.2.2⟩
    · rw [merge_pos k hp hq hs e e']
      refine ⟨?_, ?_, (normB_up _).1, fun h => ?_⟩
      · show 0 ≤ p.n + q.n; omega
      · show p.n + q.n ≤ N + M; omega
      · have h' : p.n + q.n = 0 := h
        omega
theorem w64_assoc (a b c : Int) : wrap64 (a + wrap64 (b + c)) = wrap64 (wrap64 (a + b) + c) := by
  unfold wrap64; omega
theorem mergeV_assoc (k a b c : Int) : mergeV k a (mergeV k b c) = mergeV k (mergeV k a b) c := by
  unfold mergeV
  by_cases h2 : k = 2
  · simp only [h2, if_true]; exact w64_assoc a b c
  · by_cases h3 : k = 3
    · subst h3; simp
    · by_cases h4 : k = 4
      · subst h4; simp
      · simp [h2, h3, h4]
theorem normB_assoc (a b c : List ByteArray) : normB (a ++ normB (b ++ c)) = normB (normB (a ++ b) ++ c) := by
  refine upB_ext (normB_up _).1 (normB_up _).1 fun z => ?_
  simp only [(normB_up _).2, List.map_append, List.mem_append]
  exact or_assoc.symm
theorem merge_assoc (k : Int) {p q r : PV} {N M L : Int} (hp : Good N p) (hq : Good M q) (hr : Good L r) (hs : N + M + L < 18446744073709551616) (hN : 0 ≤ N) (hM : 0 ≤ M) (hL : 0 ≤ L) :
    mergeP k p (mergeP k q r) = mergeP k (mergeP k p q) r := by
  by_cases e : p.n = 0
  · rw [hp.2.2.2 e, merge_zl k hq, merge_zl k (merge_good k hq hr (by omega))]
  · by_cases e' : q.n = 0
    · rw [hq.2.2.2 e', merge_zl k hr, merge_zr k hp]
    · by_cases e'' : r.n = 0
      · rw [hr.2.2.2 e'', merge_zr k hq, merge_zr k (merge_good k hp hq (by omega))]
      · have g1 := merge_good k hq hr (by omega)
        have g2 := merge_good k hp hq (by omega)
        have q1 := merge_pos k hq hr (by omega) e' e''
        have q2 := merge_pos k hp hq (by omega) e e'
        have a0 := hp.1
        have b0 := hq.1
        have c0 := hr.1
        rw [q1] at g1
        rw [q2] at g2
        rw [q1, q2, merge_pos k hp g1 (by omega) e (by show q.n + r.n ≠ 0; omega), merge_pos k g2 hr (by omega) (by show p.n + q.n ≠ 0; omega) e'']
        show PV.mk _ _ _ = PV.mk _ _ _
        rw [mergeV_assoc, normB_assoc, Int.add_assoc]
theorem snoc_ind {α : Type} {P : List α → Prop} (h0 : P []) (h1 : ∀ l a, P l → P (l ++ [a])) (l : List α) : P l := by
  have h : ∀ l : List α, P l.reverse := by
    intro l
    induction l with
    | nil => exact h0
    | cons a l ih => rw [List.reverse_cons]; exact h1 _ _ ih
  have := h l.reverse
  rwa [List.reverse_reverse] at this
def factZ (k c : Int) (f : S51) : PV := if f.f1 = 0 then zP else factP k c f
theorem addP_merge (k c : Int) (p : PV) (f : S51) : addP k c p f = mergeP k p (factZ k c f) := by
  unfold addP factZ
  by_cases h : f.f1 = 0
  · rw [if_pos h, if_pos h]; rfl
  · rw [if_neg h, if_neg h]
def Few (f : S51) : Prop := 0 ≤ f.f1 ∧ f.f1 < 1125899906842624
theorem fact_good (k c : Int) {f : S51} (h : Few f) : Good 1125899906842624 (factZ k c f) := by
  obtain ⟨h0, h1⟩ := h
  unfold factZ
  by_cases e : f.f1 = 0
  · rw [if_pos e]; exact good_z _ (by decide)
  · rw [if_neg e]
    unfold factP
    split
    · exact ⟨h0, by show f.f1 ≤ _; omega, upB_one _, fun h => absurd h e⟩
    · split
      · exact ⟨h0, by show f.f1 ≤ _; omega, upB_nil, fun h => absurd h e⟩
      · exact ⟨h0, by show f.f1 ≤ _; omega, upB_nil, fun h => absurd h e⟩
theorem ofP_snoc (k c : Int) (l : List S51) (f : S51) : ofP k c (l ++ [f]) = mergeP k (ofP k c l) (factZ k c f) := by
  rw [← addP_merge]; unfold ofP; rw [List.foldl_append]; rfl
theorem of_good (k c : Int) (l : List S51) (hl : l.length ≤ 1000) (h : ∀ f ∈ l, Few f) : Good (l.length * 1125899906842624) (ofP k c l) := by
  induction l using snoc_ind with
  | h0 => exact good_z _ (by decide)
  | h1 l f ih =>
    rw [List.length_append, List.length_singleton] at hl
    rw [ofP_snoc]
    have g := merge_good k (ih (by omega) (fun f hf => h f (by simp [hf]))) (fact_good k c (h f (by simp))) (by omega)
    rw [List.length_append, List.length_singleton]
    have e : ((l.length + 1 : Nat) : Int) * 1125899906842624 = l.length * 1125899906842624 + 1125899906842624 := by omega
    rw [e]
    exact g
theorem of_append (k c : Int) (x y : List S51) (hl : x.length + y.length ≤ 1000) (hx : ∀ f ∈ x, Few f) (hy : ∀ f ∈ y, Few f) : mergeP k (ofP k c x) (ofP k c y) = ofP k c (x ++ y) := by
  induction y using snoc_ind with
  | h0 =>
    rw [List.append_nil]
    exact merge_zr k (of_good k c x (by simp at hl; omega) hx)
  | h1 y f ih =>
    rw [List.length_append, List.length_singleton] at hl
    have hy' : ∀ f ∈ y, Few f := fun f hf => hy f (by simp [hf])
    rw [ofP_snoc, ← List.append_assoc, ofP_snoc, ← ih (by omega) hy']
    exact merge_assoc k (of_good k c x (by omega) hx) (of_good k c y (by omega) hy') (fact_good k c (hy f (by simp))) (by omega) (by omega) (by omega) (by decide)

/-- What is alike of both behind a row of facts. -/
def Alike (k : Int) (r : Bool × PV) (p : PV) : Prop := p = r.2 ∧ (r.1 = true → p.n = 0) ∧ (r.1 = false → p.n ≠ 0) ∧ (k ≠ 5 → p.xs = []) ∧ (k = 1 ∨ k = 5 → p.v = 0)
theorem sum_alike (x m : Int) (hm : 0 ≤ m) (hm' : m < 1125899906842624) : manyV 2 x m = wrap64 (x * wrap64 m) := by
  have h1 : wrap64 m = m := by unfold wrap64; omega
  have h2 : manyV 2 x m = wrap64 (IntKind.u64.wrap (IntKind.u64.wrap x * m)) := rfl
  have h3 : x % 18446744073709551616 * m % 18446744073709551616 = x * m % 18446744073709551616 := by rw [Int.mul_emod, Int.emod_emod, ← Int.mul_emod]
  rw [h1, h2, u64_mod, u64_mod, h3]
  generalize x * m = y
  unfold wrap64
  omega
theorem w64_w64 (a b : Int) : wrap64 (a + wrap64 b) = wrap64 (a + b) := by unfold wrap64; omega
theorem put_nil (s : ByteArray) : putB [] s = [s] := by rw [← norm_put [] s upB_nil]; exact norm_id _ (upB_one s)
theorem alike_step (k c : Int) (r : Bool × PV) (p : PV) (f : S51) (N : Int) (hk : 1 ≤ k ∧ k ≤ 5) (hf : Few f) (hp : Good N p) (hN : N + 1125899906842624 < 18446744073709551616) (h : Alike k r p) : Alike k (refStep k c r f) (mergeP k p (factZ k c f)) := by
  obtain ⟨b, r⟩ := r
  obtain ⟨rfl, ht, hfl, hxs, hv⟩ := h
  simp only at ht hfl hxs hv hp
  have hg := fact_good k c hf
  have hg2 := merge_good k hp hg (by omega)
  by_cases ef : f.f1 = 0
  · have h1 : refStep k c (b, p) f = (b, p) := by unfold refStep; rw [if_pos ef]
    have h2 : factZ k c f = zP := by unfold factZ; rw [if_pos ef]
    rw [h1, h2, merge_zr k hp]
    exact ⟨rfl, ht, hfl, hxs, hv⟩
  have h1 : refStep k c (b, p) f = (false, ⟨IntKind.u64.wrap (p.n + f.f1), refV k b p.v (f.f0.f2.getD c.toNat 0) f.f1, if k = 5 then putB p.xs (f.f0.f1.getD c.toNat ⟨#[]⟩) else p.xs⟩) := by unfold refStep; rw [if_neg ef]
  have h2 : factZ k c f = factP k c f := by unfold factZ; rw [if_neg ef]
  have hn : p.n ≤ N := hp.2.1
  have hn0 : 0 ≤ p.n := hp.1
  obtain ⟨f0, f1⟩ := hf
  have hfp : factP k c f = if k = 5 then ⟨f.f1, 0, [f.f0.f1.getD c.toNat ⟨#[]⟩]⟩ else if k = 1 then ⟨f.f1, 0, []⟩ else ⟨f.f1, manyV k (f.f0.f2.getD c.toNat 0) f.f1, []⟩ := rfl
  rw [h2, hfp] at hg hg2 ⊢
  rw [h1, u64_id _ (by omega) (by omega)]
  clear h1 h2 hfp
  generalize f.f0.f2.getD c.toNat 0 = x at *
  generalize f.f0.f1.getD c.toNat ⟨#[]⟩ = s at *
  generalize f.f1 = m at *
  clear f
  by_cases e : p.n = 0
  · have hb : b = true := by
      cases b
      · exact absurd e (hfl rfl)
      · rfl
    have hz : p = zP := hp.2.2.2 e
    subst hb hz
    rw [merge_zl k hg]
    have hz0 : zP.n + m = m := by show 0 + m = m; omega
    rw [hz0]
    show Alike k (false, ⟨m, refV k true 0 x m, if k = 5 then putB [] s else []⟩) _
    rw [put_nil]
    obtain rfl | rfl | rfl | rfl | rfl : k = 1 ∨ k = 2 ∨ k = 3 ∨ k = 4 ∨ k = 5 := by omega
    · exact ⟨rfl, fun h => by simp at h, fun _ => ef, fun _ => rfl, fun _ => rfl⟩
    · refine ⟨?_, fun h => by simp at h, fun _ => ef, fun _ => rfl, fun h => by omega⟩
      show PV.mk _ (manyV 2 x m) _ = PV.mk _ (wrap64 (0 + wrap64 (x * wrap64 m))) _
      rw [sum_alike x m f0 f1, w64_w64, Int.zero_add]; rfl
    · exact ⟨rfl, fun h => by simp at h, fun _ => ef, fun _ => rfl, fun h => by omega⟩
    · exact ⟨rfl, fun h => by simp at h, fun _ => ef, fun _ => rfl, fun h => by omega⟩
    · exact ⟨rfl, fun h => by simp at h, fun _ => ef, fun h => by omega, fun _ => rfl⟩
  · have hb : b = false := by
      cases b
      · rfl
      · exact absurd (ht rfl) e
    subst hb
    have hm : (if k = 5 then PV.mk m 0 [s] else if k = 1 then ⟨m, 0, []⟩ else ⟨m, manyV k x m, []⟩).n = m := by
      split
      · rfl
      · split <;> rfl
    rw [merge_pos k hp hg (by omega) e (by rw [hm]; exact ef), hm]
    have hne : p.n + m ≠ 0 := by omega
    have hid := norm_id p.xs hp.2.2.1
    have hput := norm_put p.xs s hp.2.2.1
    obtain rfl | rfl | rfl | rfl | rfl : k = 1 ∨ k = 2 ∨ k = 3 ∨ k = 4 ∨ k = 5 := by omega
    · refine ⟨?_, fun h => by simp at h, fun _ => hne, fun _ => ?_, fun _ => ?_⟩
      · show PV.mk _ p.v (normB (p.xs ++ [])) = PV.mk _ p.v p.xs
        rw [List.append_nil, hid]
      · show normB (p.xs ++ []) = []
        rw [List.append_nil, hid]; exact hxs (by decide)
      · exact hv (.inl rfl)
    · refine ⟨?_, fun h => by simp at h, fun _ => hne, fun _ => ?_, fun h => by omega⟩
      · show PV.mk _ (wrap64 (p.v + manyV 2 x m)) (normB (p.xs ++ [])) = PV.mk _ (wrap64 (p.v + wrap64 (x * wrap64 m))) p.xs
        rw [List.append_nil, hid, sum_alike x m f0 f1]
      · show normB (p.xs ++ []) = []
        rw [List.append_nil, hid]; exact hxs (by decide)
    · refine ⟨?_, fun h => by simp at h, fun _ => hne, fun _ => ?_, fun h => by omega⟩
      · show PV.mk _ (min p.v x) (normB (p.xs ++ [])) = PV.mk _ (if false || decide (x < p.v) then x else p.v) p.xs
        rw [List.append_nil, hid, Bool.false_or]
        by_cases hx : x < p.v
        · rw [if_pos (decide_eq_true hx)]; congr 1; omega
        · rw [if_neg (by simpa using hx)]; congr 1; omega
      · show normB (p.xs ++ []) = []
        rw [List.append_nil, hid]; exact hxs (by decide)
    · refine ⟨?_, fun h => by simp at h, fun _ => hne, fun _ => ?_, fun h => by omega⟩
      · show PV.mk _ (max p.v x) (normB (p.xs ++ [])) = PV.mk _ (if false || decide (x > p.v) then x else p.v) p.xs
        rw [List.append_nil, hid, Bool.false_or]
        by_cases hx : x > p.v
        · rw [if_pos (decide_eq_true hx)]; congr 1; omega
        · rw [if_neg (by simpa using hx)]; congr 1; omega
      · show normB (p.xs ++ []) = []
        rw [List.append_nil, hid]; exact hxs (by decide)
    · refine ⟨?_, fun h => by simp at h, fun _ => hne, fun h => by omega, fun _ => hv (.inr rfl)⟩
      show PV.mk _ p.v (normB (p.xs ++ [s])) = PV.mk _ p.v (putB p.xs s)
      rw [hput]
theorem refOf_snoc (k c : Int) (l : List S51) (f : S51) : refOf k c (l ++ [f]) = refStep k c (refOf k c l) f := by
  unfold refOf; rw [List.foldl_append]; rfl
/-- Both answers are alike. -/
theorem of_alike (k c : Int) (l : List S51) (hk : 1 ≤ k ∧ k ≤ 5) (hl : l.length ≤ 1000) (h : ∀ f ∈ l, Few f) : Alike k (refOf k c l) (ofP k c l) := by
  induction l using snoc_ind with
  | h0 => exact ⟨rfl, fun _ => rfl, fun h => by simp [refOf] at h, fun _ => rfl, fun _ => rfl⟩
  | h1 l f ih =>
    rw [List.length_append, List.length_singleton] at hl
    have h' : ∀ f ∈ l, Few f := fun f hf => h f (by simp [hf])
    rw [refOf_snoc, ofP_snoc]
    exact alike_step k c _ _ f _ hk (h f (by simp)) (of_good k c l (by omega) h') (by omega) (ih (by omega) h')
theorem of_ref (k c : Int) (l : List S51) (hk : 1 ≤ k ∧ k ≤ 5) (hl : l.length ≤ 1000) (h : ∀ f ∈ l, Few f) : ofP k c l = (refOf k c l).2 := (of_alike k c l hk hl h).1
end Go.Proofs.Ytnigmpckohncoaa
