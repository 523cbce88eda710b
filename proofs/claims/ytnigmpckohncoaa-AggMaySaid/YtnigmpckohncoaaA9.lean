/- What agg.Check answers of one aggregator. -/
import Derived.Test.YtnigmpckohncoaaA6
import Derived.LoopN
set_option linter.unusedVariables false
set_option linter.unusedSimpArgs false
namespace Go.Proofs.Ytnigmpckohncoaa
open Go.RowKit Go.Sort YtnigmpckohncoaaW.PrintWords PAggCounts

def wrongB (k c D M : Int) : Bool := k != 1 && (decide (c < 0) || decide (c ≥ (if k = 5 then D else M)))

set_option maxRecDepth 100000 in
set_option maxHeartbeats 4000000 in
theorem wrong_any (k c D M : Int) (b : Nat) (w : World) (hk : 1 ≤ k ∧ k ≤ 5) (hs : w.heap[b]? = some (.cells #[.int .i64 D, .int .i64 M] 27)) :
    Calls Try.prog 28 #[.agg #[.int .i64 k, .int .i64 c], .pointer (some ⟨b, 0, none⟩)] w fun e w' => e = .returned (.bool (wrongB k c D M)) ∧ Below w.heap.size w w' := by
  obtain ⟨f1, f2, j3, hkc, h1c, h2c, hf1, hcl, hv⟩ := kc_all k hk
  have HC := Lib.hid (known_any k c hk)
  have HK := Lib.hid hkc
  have HS := Lib.hid hs
  have hbz : b < w.heap.size := blk_lt hs
  clear hkc hf1 hv hcl hs
  go_enter Try.func28, Try.ntmps28
  go_wp2_with fail
  go_at_call 20
  refine (HC.out _).mono ?_
  rw [HK.out]
  rintro e w1 ⟨rfl, hb⟩
  obtain ⟨hz, HBw, e0⟩ := boxes1 hb
  have hz1 : b < w1.heap.size := by omega
  have hz2 : b < w1.heap.size + 1 := by omega
  have hz3 : w.heap.size < w1.heap.size + 1 := by omega
  obtain ⟨q00, q01⟩ := blk2 e0
  obtain ⟨qb0, qb1⟩ := blk2 ((HBw.block _ hbz).trans HS.out)
  have HB := Lib.hid HBw
  clear hb HBw e0
  have s1 : ∀ (w : World) (a : Addr) (m : Mode), (store a f1 m).run Try.prog w = stored Try.prog w a f1 m := fun w a m => run_store _ _ _ _ _ h1c
  have s2 : ∀ (w : World) (a : Addr) (m : Mode), (store a f2 m).run Try.prog w = stored Try.prog w a f2 m := fun w a m => run_store _ _ _ _ _ h2c
  clear h1c h2c
  have h5 : k = 1 ∨ k = 5 ∨ (k ≠ 1 ∧ k ≠ 5) := by omega
  rcases h5 with rfl | rfl | ⟨hk1, hk5⟩
  · go_wp2_with fail
    go_ret
    exact ⟨by simp [wrongB], bAlloc HB.out _⟩
  · by_cases hc0 : c < 0
    · go_wp2_with fail
      go_ret
      exact ⟨by simp [wrongB, hc0], bAlloc HB.out _⟩
    · by_cases hcD : c ≥ D
      · go_wp2_with fail
        go_ret
        exact ⟨by simp [wrongB, hc0, hcD], bAlloc HB.out _⟩
      · go_wp2_with fail
        go_ret
        exact ⟨by simp [wrongB, hc0, hcD], bAlloc HB.out _⟩
  · have hd5 : decide (k = 5) = false := decide_eq_false hk5
    have hn1 : (k != 1) = true := bne_iff_ne.2 hk1
    have HK5 := Lib.hid hk5
    clear hk1 hk5
    by_cases hc0 : c < 0
    · go_wp2_with fail
      go_ret
      exact ⟨by simp [wrongB, hc0, hn1], bAlloc HB.out _⟩
    · by_cases hcD : c ≥ M
      · go_wp2_with fail
        go_ret
        exact ⟨by simp [wrongB, hc0, hcD, hn1, HK5.out], bAlloc HB.out _⟩
      · go_wp2_with fail
        go_ret
        exact ⟨by simp [wrongB, hc0, hcD, hn1, HK5.out], bAlloc HB.out _⟩

def idxB (b : Bool) : Int := if b then 0 else -1
set_option maxRecDepth 100000 in
set_option maxHeartbeats 4000000 in
theorem index_one (k c D M : Int) (b g : Nat) (w : World) (hk : 1 ≤ k ∧ k ≤ 5) (hs : w.heap[b]? = some (.cells #[.int .i64 D, .int .i64 M] 27)) (h0 : w.cell? ⟨g, 0, none⟩ = some (.int .i64 k)) (h1 : w.cell? ⟨g, 1, none⟩ = some (.int .i64 c)) :
    Calls Try.prog 36 #[.slice (some ⟨g, 0, none⟩) 1 1, .func (.func 28) #[] #[.pointer (some ⟨b, 0, none⟩)]] w fun e w' => e = .returned (.int .i64 (idxB (wrongB k c D M))) ∧ Below w.heap.size w w' := by
  have HC := Lib.hid (wrong_any k c D M b w hk hs)
  clear hs
  go_enter Try.func36, Try.ntmps36
  go_wp2_with fail
  refine wp_loop_rounds 2 ?_
  rw [rounds_succ]
  go_wp2_with fail
  go_at_call 28
  refine HC.out.mono ?_
  rintro e w1 ⟨rfl, hb⟩
  have HB := Lib.hid hb
  clear hb h0 h1
  cases hwr : wrongB k c D M
  · go_wp2_with fail
    rw [rounds_succ]
    go_wp2_with fail
    go_ret
    exact ⟨by first | rfl | (rw [hwr]; rfl), HB.out⟩
  · go_wp2_with fail
    go_ret
    exact ⟨by first | rfl | (rw [hwr]; rfl), HB.out⟩
set_option maxHeartbeats 4000000 in
theorem contains_one (k c D M : Int) (b g : Nat) (w : World) (hk : 1 ≤ k ∧ k ≤ 5) (hs : w.heap[b]? = some (.cells #[.int .i64 D, .int .i64 M] 27)) (h0 : w.cell? ⟨g, 0, none⟩ = some (.int .i64 k)) (h1 : w.cell? ⟨g, 1, none⟩ = some (.int .i64 c)) :
    Calls Try.prog 29 #[.slice (some ⟨g, 0, none⟩) 1 1, .func (.func 28) #[] #[.pointer (some ⟨b, 0, none⟩)]] w fun e w' => e = .returned (.bool (wrongB k c D M)) ∧ Below w.heap.size w w' := by
  have HC := Lib.hid (index_one k c D M b g w hk hs h0 h1)
  clear hs h0 h1
  go_enter Try.func29, Try.ntmps29
  go_wp2_with fail
  go_at_call 36
  refine HC.out.mono ?_
  rintro e w1 ⟨rfl, hb⟩
  have HB := Lib.hid hb
  clear hb
  cases hwr : wrongB k c D M
  · simp only [idxB]
    go_wp2_with fail
    all_goals go_ret
    all_goals exact ⟨by first | rfl | (rw [hwr]; rfl), HB.out⟩
  · simp only [idxB]
    go_wp2_with fail
    all_goals go_ret
    all_goals exact ⟨by first | rfl | (rw [hwr]; rfl), HB.out⟩
set_option maxHeartbeats 4000000 in
theorem check_one (k c D M : Int) (g : Nat) (w : World) (hk : 1 ≤ k ∧ k ≤ 5) (h0 : w.cell? ⟨g, 0, none⟩ = some (.int .i64 k)) (h1 : w.cell? ⟨g, 1, none⟩ = some (.int .i64 c)) :
    Calls Try.prog 17 #[.agg #[.int .i64 D, .int .i64 M], .slice (some ⟨g, 0, none⟩) 1 1] w fun e w' => e = .returned (.int .i64 (if wrongB k c D M then 1 else 0)) ∧ Below w.heap.size w w' := by
  have hlt : g < w.heap.size := World.block_lt_of_cell? w _ h0
  have HC := Lib.hid (contains_one k c D M w.heap.size g (w.alloc (.cells #[.int .i64 D, .int .i64 M] 27)) hk (heap_alloc_last _ _) ((World.cell?_alloc_lt w _ _ hlt).trans h0) ((World.cell?_alloc_lt w _ _ hlt).trans h1))
  clear h0 h1
  go_enter Try.func17, Try.ntmps17
  go_wp2_with fail
  go_at_call 29
  refine HC.out.mono ?_
  rintro e w1 ⟨rfl, hb⟩
  obtain ⟨_, hb1, _⟩ := boxes1 hb
  have HB := Lib.hid hb1
  clear hb hb1
  cases hwr : wrongB k c D M
  · go_wp2_with fail
    all_goals go_ret
    all_goals exact ⟨by first | rfl | (rw [hwr]; rfl), HB.out⟩
  · go_wp2_with fail
    all_goals go_ret
    all_goals exact ⟨by first | rfl | (rw [hwr]; rfl), HB.out⟩
end Go.Proofs.Ytnigmpckohncoaa
