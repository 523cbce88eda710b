/- What agg.kinds and agg.known answer. -/
import Derived.Test.YtnigmpckohncoaaA0
namespace Go.Proofs.Ytnigmpckohncoaa
open Go.RowKit
abbrev F (n : Nat) : Value := Value.func (Fn.func n) #[] #[]
abbrev NF : Value := Value.nilFunc
def kt : Array Value := #[.bool false, NF, NF, NF, .bool false, NF, NF, F 38, .bool false, F 39, F 40, F 41, .bool false, F 37, F 42, F 41, .bool false, F 37, F 43, F 41, .bool true, NF, NF, F 44]
set_option maxHeartbeats 400000 in
theorem kinds_any (w : World) : Calls Try.prog 30 #[] w fun e w' => e = .returned (.agg kt) ∧ w.alloc (.cells kt 68) = w' := by
  go_enter Try.func30, Try.ntmps30
  go_wp2_with (refine wpList_store_new w rfl _ _ _ rfl _ kt rfl rfl (by kernel_rfl) rfl (by kernel_rfl) ?_)
  exact bodyPost_ret (v := .agg kt) (results_cell_row rfl _ _ w.heap.size 68 kt (0, 0) _ rfl (heap_alloc_last w _) Try.underlying68 rfl (by kernel_rfl)) rfl ⟨rfl, rfl⟩

def kc (k : Int) : Array Value := if k = 1 then #[.bool false, NF, NF, F 38] else if k = 2 then #[.bool false, F 39, F 40, F 41] else if k = 3 then #[.bool false, F 37, F 42, F 41] else if k = 4 then #[.bool false, F 37, F 43, F 41] else #[.bool true, NF, NF, F 44]
theorem ix1 (w : World) : (Instr.index 68 (.agg kt) (.int .i64 1)).run Try.prog w = .ok (.agg #[.bool false, NF, NF, F 38]) w := by kernel_rfl
theorem ix2 (w : World) : (Instr.index 68 (.agg kt) (.int .i64 2)).run Try.prog w = .ok (.agg #[.bool false, F 39, F 40, F 41]) w := by kernel_rfl
theorem ix3 (w : World) : (Instr.index 68 (.agg kt) (.int .i64 3)).run Try.prog w = .ok (.agg #[.bool false, F 37, F 42, F 41]) w := by kernel_rfl
theorem ix4 (w : World) : (Instr.index 68 (.agg kt) (.int .i64 4)).run Try.prog w = .ok (.agg #[.bool false, F 37, F 43, F 41]) w := by kernel_rfl
theorem ix5 (w : World) : (Instr.index 68 (.agg kt) (.int .i64 5)).run Try.prog w = .ok (.agg #[.bool true, NF, NF, F 44]) w := by kernel_rfl
attribute [irreducible] kt
set_option maxHeartbeats 1000000 in
theorem known_1 (c : Int) (w : World) : Calls Try.prog 20 #[.agg #[.int .i64 1, .int .i64 c]] w fun e w' => e = .returned (.tuple #[.agg #[.bool false, NF, NF, F 38], .bool true]) ∧ Below w.heap.size w w' := by
  have h1 := ix1
  go_enter Try.func20, Try.ntmps20
  go_wp2_with fail
  go_region_with (go_at_call 30; refine (kinds_any _).mono ?_; rintro e w' ⟨rfl, rfl⟩)
  all_goals go_wp2
  all_goals exact bodyPost_ret (results_cell_row_tmp rfl _ _ (w.heap.size + 1) 57 #[.bool false, NF, NF, F 38] (0, 0) _ rfl (by simp only [heap_drew, heap_alloc_at, World.size_alloc]; simp) Try.underlying57 rfl (by kernel_rfl)) rfl ⟨rfl, bDrew (bAlloc (bAlloc (bAlloc (Below.refl _ _) _) _) _)⟩
set_option maxHeartbeats 1000000 in
theorem known_2 (c : Int) (w : World) : Calls Try.prog 20 #[.agg #[.int .i64 2, .int .i64 c]] w fun e w' => e = .returned (.tuple #[.agg #[.bool false, F 39, F 40, F 41], .bool true]) ∧ Below w.heap.size w w' := by
  have h1 := ix2
  go_enter Try.func20, Try.ntmps20
  go_wp2_with fail
  go_region_with (go_at_call 30; refine (kinds_any _).mono ?_; rintro e w' ⟨rfl, rfl⟩)
  all_goals go_wp2
  all_goals exact bodyPost_ret (results_cell_row_tmp rfl _ _ (w.heap.size + 1) 57 #[.bool false, F 39, F 40, F 41] (0, 0) _ rfl (by simp only [heap_drew, heap_alloc_at, World.size_alloc]; simp) Try.underlying57 rfl (by kernel_rfl)) rfl ⟨rfl, bDrew (bAlloc (bAlloc (bAlloc (Below.refl _ _) _) _) _)⟩
set_option maxHeartbeats 1000000 in
theorem known_3 (c : Int) (w : World) : Calls Try.prog 20 #[.agg #[.int .i64 3, .int .i64 c]] w fun e w' => e = .returned (.tuple #[.agg #[.bool false, F 37, F 42, F 41], .bool true]) ∧ Below w.heap.size w w' := by
  have h1 := ix3
  go_enter Try.func20, Try.ntmps20
  go_wp2_with fail
  go_region_with (go_at_call 30; refine (kinds_any _).mono ?_; rintro e w' ⟨rfl, rfl⟩)
  all_goals go_wp2
  all_goals exact bodyPost_ret (results_cell_row_tmp rfl _ _ (w.heap.size + 1) 57 #[.bool false, F 37, F 42, F 41] (0, 0) _ rfl (by simp only [heap_drew, heap_alloc_at, World.size_alloc]; simp) Try.underlying57 rfl (by kernel_rfl)) rfl ⟨rfl, bDrew (bAlloc (bAlloc (bAlloc (Below.refl _ _) _) _) _)⟩
set_option maxHeartbeats 1000000 in
theorem known_4 (c : Int) (w : World) : Calls Try.prog 20 #[.agg #[.int .i64 4, .int .i64 c]] w fun e w' => e = .returned (.tuple #[.agg #[.bool false, F 37, F 43, F 41], .bool true]) ∧ Below w.heap.size w w' := by
  have h1 := ix4
  go_enter Try.func20, Try.ntmps20
  go_wp2_with fail
  go_region_with (go_at_call 30; refine (kinds_any _).mono ?_; rintro e w' ⟨rfl, rfl⟩)
  all_goals go_wp2
  all_goals exact bodyPost_ret (results_cell_row_tmp rfl _ _ (w.heap.size + 1) 57 #[.bool false, F 37, F 43, F 41] (0, 0) _ rfl (by simp only [heap_drew, heap_alloc_at, World.size_alloc]; simp) Try.underlying57 rfl (by kernel_rfl)) rfl ⟨rfl, bDrew (bAlloc (bAlloc (bAlloc (Below.refl _ _) _) _) _)⟩
set_option maxHeartbeats 1000000 in
theorem known_5 (c : Int) (w : World) : Calls Try.prog 20 #[.agg #[.int .i64 5, .int .i64 c]] w fun e w' => e = .returned (.tuple #[.agg #[.bool true, NF, NF, F 44], .bool true]) ∧ Below w.heap.size w w' := by
  have h1 := ix5
  go_enter Try.func20, Try.ntmps20
  go_wp2_with fail
  go_region_with (go_at_call 30; refine (kinds_any _).mono ?_; rintro e w' ⟨rfl, rfl⟩)
  all_goals go_wp2
  all_goals exact bodyPost_ret (results_cell_row_tmp rfl _ _ (w.heap.size + 1) 57 #[.bool true, NF, NF, F 44] (0, 0) _ rfl (by simp only [heap_drew, heap_alloc_at, World.size_alloc]; simp) Try.underlying57 rfl (by kernel_rfl)) rfl ⟨rfl, bDrew (bAlloc (bAlloc (bAlloc (Below.refl _ _) _) _) _)⟩
theorem known_any (k c : Int) (h : 1 ≤ k ∧ k ≤ 5) (w : World) : Calls Try.prog 20 #[.agg #[.int .i64 k, .int .i64 c]] w fun e w' => e = .returned (.tuple #[.agg (kc k), .bool true]) ∧ Below w.heap.size w w' := by
  have hk : k = 1 ∨ k = 2 ∨ k = 3 ∨ k = 4 ∨ k = 5 := by omega
  rcases hk with rfl | rfl | rfl | rfl | rfl
  · exact known_1 c w
  · exact known_2 c w
  · exact known_3 c w
  · exact known_4 c w
  · exact known_5 c w
end Go.Proofs.Ytnigmpckohncoaa
