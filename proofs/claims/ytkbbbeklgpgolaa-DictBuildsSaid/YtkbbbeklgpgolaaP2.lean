/- The sort and the compaction of texts leave the one rising row of them. -/
import Derived.Test.YtkbbbeklgpgolaaP1
set_option linter.unusedVariables false
set_option linter.unusedSimpArgs false
namespace Go.Proofs.Ytkbbbeklgpgolaa
open Go.RowKit Go.Sort

def UpB (l : List ByteArray) : Prop := Up (l.map bl)
theorem toList_bl (s : ByteArray) : s.toList = bl s := Lib.toList_data s
theorem less_eq (x s : ByteArray) : Op.bytesLess x.toList s.toList = decide (bl x < bl s) := by rw [bytesLess_eq, toList_bl, toList_bl]
theorem eq_eq (x s : ByteArray) : (x.toList == s.toList) = decide (bl x = bl s) := by rw [toList_bl, toList_bl, Bool.eq_iff_iff]; simp

theorem up_snoc {l : List ByteArray} {x : ByteArray} (h : UpB l) (hx : ∀ y ∈ l, bl y < bl x) : UpB (l ++ [x]) := by
  unfold UpB Up
  rw [List.map_append, List.pairwise_append]
  refine ⟨h, by simp, fun a ha b hb => ?_⟩
  obtain ⟨y, hy, rfl⟩ := List.mem_map.1 ha
  simp at hb
  subst hb
  exact hx y hy

theorem normB_up (xs : List ByteArray) : UpB (normB xs) ∧ ∀ z, z ∈ (normB xs).map bl ↔ z ∈ xs.map bl := by
  unfold UpB
  rw [normB_map]
  exact normL_up _
theorem upB_ext {l l' : List ByteArray} (h : UpB l) (h' : UpB l') (hm : ∀ z, z ∈ l.map bl ↔ z ∈ l'.map bl) : l = l' := map_bl_inj (up_ext h h' hm)
theorem norm_id (l : List ByteArray) (hl : UpB l) : normB l = l := by
  obtain ⟨h1, h2⟩ := normB_up l
  exact upB_ext h1 hl h2
end Go.Proofs.Ytkbbbeklgpgolaa
