/- The program's dictionary of texts: Build. -/
import Derived.Test.YtkbbbeklgpgolaaD2
import Derived.Test.YtkbbbeklgpgolaaP2
set_option linter.unusedVariables false
set_option linter.unusedSimpArgs false
namespace Go.Proofs.Ytkbbbeklgpgolaa
open Go.RowKit Go.Sort Go.Proofs.YtkbbbeklgpgolaaW.PrintWords Pref

/-- Is a text too long? -/
def long (s : ByteArray) : Bool := decide (64 < (s.size : Int))
set_option maxHeartbeats 1000000 in
theorem long_any (s : ByteArray) (w : World) : Calls Try.prog 19 #[.string s] w fun e w' => e = .returned (.bool (long s)) ∧ w = w' := by
  unfold long
  go_enter Try.func19, Try.ntmps19
  go_wp2
  go_ret
  exact ⟨rfl, rfl⟩
set_option maxRecDepth 100000 in
set_option maxHeartbeats 2000000 in
theorem index_any (A : Option Addr) (n c : Nat) (xs : List ByteArray) (w : World) (h : RT w A n xs) (hn : n ≤ 8796093021952) :
    Calls Try.prog 43 #[.slice A n c, .func (.func 19) #[] #[]] w fun e w' => ∃ k : Int, e = .returned (.int .i64 k) ∧ (xs.any long = decide (0 ≤ k)) ∧ w = w' := by
  have hl : xs.length = n := h.len
  have HR := Lib.hid h
  clear h
  go_enter Try.func43, Try.ntmps43
  go_wp2_with fail
  go_loopg [5, 8] n (fun kq v5 v8 wr => ∃ i : Nat, v8 = .int .i64 i ∧ i + kq = n ∧ Hid (∀ j (h : j < xs.length), j < i → long xs[j] = false) ∧ wr = w)
  case atStart => exact ⟨0, rfl, by omega, fun j _ h => absurd h (Nat.not_lt_zero _), rfl⟩
  case round =>
    obtain ⟨i, rfl, hi, HJ, rfl⟩ := hrel
    have HI := Lib.hid hi
    clear hi
    by_cases h1 : i < n
    · obtain ⟨ad, rfl, hcells⟩ := HR.out.at_ (by omega)
      have c1 := hcells i _ (List.getElem?_eq_getElem (by omega))
      have hix : i < xs.length := by omega
      have HX : Hid (xs[i]'hix ∈ xs) := List.getElem_mem hix
      have HJ2 := Lib.hid (fun (hb : long xs[i] = false) j (h : j < xs.length) (hj : j < i + 1) => (if e : j = i then (by subst e; exact hb) else HJ.out j h (by omega) : long xs[j] = false))
      generalize xs[i] = s1 at *
      clear hcells
      have HN := Lib.hid hix
      clear hix
      by_cases hb : long s1 = true
      · have HB := Lib.hid hb
        clear hb
        go_wp2_with (go_at_call 19; refine (long_any _ _).mono ?_; rw [HB.out]; rintro e w' ⟨rfl, rfl⟩)
        go_ret
        exact ⟨_, rfl, by rw [decide_eq_true (by omega)]; exact List.any_eq_true.2 ⟨s1, HX.out, HB.out⟩, rfl⟩
      · have HB := Lib.hid (Bool.eq_false_iff.2 hb)
        clear hb
        go_wp2_with (go_at_call 19; refine (long_any _ _).mono ?_; rw [HB.out]; rintro e w' ⟨rfl, rfl⟩)
        go_roundg (gk - 1)
        case measure => have := HI.out; omega
        case rel => exact ⟨i + 1, by go_num, by have := HI.out; omega, HJ2.out HB.out, rfl⟩
    · go_wp2_with fail
      go_ret
      refine ⟨_, rfl, ?_, rfl⟩
      rw [decide_eq_false (by omega), List.any_eq_false]
      intro x hx
      obtain ⟨j, hj, rfl⟩ := List.getElem_of_mem hx
      rw [HJ.out j hj (by omega)]
      decide
set_option maxHeartbeats 1000000 in
theorem contains_any (A : Option Addr) (n c : Nat) (xs : List ByteArray) (w : World) (h : RT w A n xs) (hn : n ≤ 8796093021952) :
    Calls Try.prog 18 #[.slice A n c, .func (.func 19) #[] #[]] w fun e w' => e = .returned (.bool (xs.any long)) ∧ w = w' := by
  have H := Lib.hid (index_any A n c xs w h hn)
  clear h
  go_enter Try.func18, Try.ntmps18
  go_wp2_with (go_at_call 43; refine H.out.mono ?_; rintro e w' ⟨k, rfl, hk, rfl⟩; have HK := Lib.hid hk; clear hk)
  go_ret
  exact ⟨by rw [HK.out]; rfl, rfl⟩
/-- What Build makes. -/
def Made (w w' : World) (base : Nat) (v : Value) (xs : List ByteArray) : Prop :=
  (v = .tuple #[.pointer none, .int .i64 1] ∧ (xs.any long || decide (4096 < (normB xs).length)) = true) ∨
  (∃ d, v = .tuple #[dptr d, .int .i64 0] ∧ (xs.any long || decide (4096 < (normB xs).length)) = false ∧ base ≤ d ∧ DictAt w' d (normB xs))
set_option maxRecDepth 100000 in
set_option maxHeartbeats 4000000 in
theorem build_any (A : Option Addr) (n c : Nat) (xs : List ByteArray) (w : World) (h : RT w A n xs) (hn : n ≤ 8796093021952) :
    Calls Try.prog 7 #[.slice A n c] w fun e w' => ∃ v, e = .returned v ∧ Made w w' w.heap.size v xs ∧ Below w.heap.size w w' := by
  have hl := h.len
  have HR := Lib.hid h
  have HC := Lib.hid (contains_any A n c xs w h (by omega))
  clear h
  by_cases h1 : xs.any long = true
  · rw [h1] at HC
    have H1 := Lib.hid h1
    clear h1
    go_enter Try.func7, Try.ntmps7
    go_wp2_with (go_at_call 18; refine HC.out.mono ?_; rintro e w' ⟨rfl, rfl⟩)
    go_ret2
    exact ⟨_, rfl, .inl ⟨rfl, by rw [H1.out]; rfl⟩, Below.refl _ _⟩
  · have h1 := Bool.eq_false_iff.2 h1
    rw [h1] at HC
    have H1 := Lib.hid h1
    clear h1
    go_enter Try.func7, Try.ntmps7
    go_wp2_with fail
    refine HC.out.mono ?_
    rintro e w0 ⟨rfl, rfl⟩
    go_wp2_with fail
    refine (clone_any A n c xs _ HR.out hn).mono ?_
    rintro e w3 ⟨v3, rfl, ho3, hb3⟩
    go_wp2_with fail
    refine (sort_any _ v3 n xs _ ho3 hn).mono ?_
    rintro e w4 ⟨rfl, ho4, hg4⟩
    have hb4 : Below w.heap.size w w4 := Below.grown hb3 hg4 hb3.size (own_base ho3)
    clear ho3 hb3 hg4
    go_wp2_with fail
    refine (compact_any _ v3 n (sortB xs) _ ho4 hn).mono ?_
    rintro e w5 ⟨B, cb, rfl, hcb, hr5, hg5⟩
    have hb5 : Below w.heap.size w w5 := Below.grown hb4 hg5 hb4.size (own_base ho4)
    have hnb : compactB (sortB xs) = normB xs := rfl
    rw [hnb] at hcb hr5 ⊢
    have HB := Lib.hid hb5
    have HR5 := Lib.hid hr5
    clear ho4 hb4 hg5 hb5 hr5 hnb
    by_cases hlt : 4096 < (normB xs).length
    · have hd : decide (4096 < ((normB xs).length : Int)) = true := decide_eq_true (by omega)
      have HD := Lib.hid (decide_eq_true hlt)
      clear hlt
      go_wp2_with fail
      go_ret2
      exact ⟨_, rfl, .inl ⟨rfl, by rw [HD.out, Bool.or_true]⟩, HB.out⟩
    · have hd : decide (4096 < ((normB xs).length : Int)) = false := decide_eq_false (by omega)
      have HD := Lib.hid (decide_eq_false hlt)
      have HLT := Lib.hid hlt
      clear hlt
      go_wp2_with fail
      go_ret2
      exact ⟨_, rfl, .inr ⟨w5.heap.size, rfl, by rw [H1.out, HD.out]; rfl, HB.out.size, ⟨B, cb, heap_alloc_last _ _, hcb, HR5.out.below (bAlloc (Below.refl _ _) _)⟩⟩, bAlloc HB.out _⟩
end Go.Proofs.Ytkbbbeklgpgolaa
