/- What slices.Grow (at nil) and slices.Concat (of two) at []string answer. -/
import Derived.Test.YtnigmpckohncoaaA2
import Derived.Lib.AppendZeros
import Derived.LoopN
set_option linter.unusedVariables false
set_option linter.unusedSimpArgs false
namespace Go.Proofs.Ytnigmpckohncoaa
open Go.RowKit Go.Sort YtnigmpckohncoaaW.PrintWords

set_option maxHeartbeats 1000000 in
theorem grow_nil (n : Nat) (hn : n ≤ 2097152) (w : World) :
    Calls Try.prog 31 #[.slice none 0 0, .int .i64 n] w fun e w' => ∃ v, e = .returned v ∧ w'.ownsRow w.heap.size 9 1 v 0 [] ∧ Below w.heap.size w w' := by
  obtain ⟨i0, hi0, hz0, hz1, hz2⟩ := info_parts info9
  rcases Nat.eq_zero_or_pos n with h0 | h0
  · subst h0
    go_enter Try.func31, Try.ntmps31
    go_wp2
    go_ret
    exact ⟨_, rfl, ⟨by simp, .inl ⟨rfl, rfl⟩⟩, Below.refl _ _⟩
  · obtain ⟨G, hG⟩ : ∃ G, G = grownCap w n 0 9 := ⟨_, rfl⟩
    have hr : ∀ ty, (Builtin.append_ #[31, 3] ty #[.slice none 0 0, .int .i64 n]).run Try.prog w = .ok (.slice (some ⟨w.heap.size, 0, none⟩) n G) (w.drew.alloc (.cells (Builtin.zeroCells (Value.string ⟨#[]⟩).cells n ++ Builtin.zeroCells (Value.string ⟨#[]⟩).cells (G - n)) 9)) := fun ty => by
      rw [hG]
      exact Lib.run_append_nil_zeros w 31 3 ty 9 i0 _ .i64 .i64 Try.underlying31 Try.underlying3 hi0 hz0 n h0 (by omega) (by omega) (by rw [hz2]; omega)
    have hGn : n ≤ G := hG ▸ grownCap_ge w _ _ _
    have hGm : G ≤ maxLen := hG ▸ grownCap_le_maxLen w n 0 9 (by unfold maxLen; omega)
    clear hG
    obtain ⟨cz, hcz⟩ : ∃ cz, cz = Builtin.zeroCells (Value.string ⟨#[]⟩).cells n ++ Builtin.zeroCells (Value.string ⟨#[]⟩).cells (G - n) := ⟨_, rfl⟩
    have hsz : cz.size = G * 1 := by rw [hcz]; simp [Builtin.zeroCells, Value.cells]; omega
    rw [← hcz] at hr
    clear hcz
    have hGm' : G ≤ 9223372036854775807 := by unfold maxLen at hGm; exact hGm
    have HR := Lib.hid hr
    have HS := Lib.hid hsz
    have HM := Lib.hid hGm
    clear hr hsz hGm
    go_enter Try.func31, Try.ntmps31
    go_wp2_with (at_builtin; refine Lib.wpList_append_run _ rfl _ _ _ _ rfl _ _ rfl rfl _ _ (HR.out _) ?_)
    go_ret
    refine ⟨_, rfl, ?_, ?_⟩
    · exact World.ownsRow_made w.drew cz G (Nat.le_refl _) HM.out HS.out
    · exact bAlloc (bDrew (Below.refl _ _)) _

theorem grow_int (k : Int) (h0 : 0 ≤ k) (hk : k ≤ 2097152) (w : World) :
    Calls Try.prog 31 #[.slice none 0 0, .int .i64 k] w fun e w' => ∃ v, e = .returned v ∧ w'.ownsRow w.heap.size 9 1 v 0 [] ∧ Below w.heap.size w w' := by
  obtain ⟨n, rfl⟩ := Int.eq_ofNat_of_zero_le h0
  exact grow_nil n (by omega) w

set_option maxHeartbeats 2000000 in
theorem concat_two (g : Nat) (A B : Option Addr) (n m c d : Nat) (xs ys : List ByteArray) (w : World) (h1 : w.cell? ⟨g, 0, none⟩ = some (.slice A n c)) (h2 : w.cell? ⟨g, 1, none⟩ = some (.slice B m d))
    (hx : RT w A n xs) (hy : RT w B m ys) (hn : n + m ≤ 1048576) :
    Calls Try.prog 21 #[.slice (some ⟨g, 0, none⟩) 2 2] w fun e w' => ∃ v, e = .returned v ∧ w'.ownsRow w.heap.size 9 1 v (n + m) (strV (xs ++ ys)) ∧ Below w.heap.size w w' := by
  obtain ⟨i0, hi0, hz0, hz1, hz2⟩ := info_parts info9
  have HX := Lib.hid hx
  have HY := Lib.hid hy
  have HZ := Lib.hid hi0
  have HZ0 := Lib.hid hz0
  have HZ1 := Lib.hid hz1
  have HZ2 := Lib.hid hz2
  clear hx hy hi0 hz0 hz1 hz2
  have hlt : g < w.heap.size := World.block_lt_of_cell? w _ h1
  go_enter Try.func21, Try.ntmps21
  go_wp2_with fail
  refine wp_loop_rounds 3 ?_
  rw [rounds_succ]
  go_wp2_with fail
  rw [rounds_succ]
  go_wp2_with fail
  rw [rounds_succ]
  go_wp2_with fail
  go_at_call 31
  refine (grow_int _ (by omega) (by omega) _).mono ?_
  rintro e w1 ⟨v, rfl, hv, hb⟩
  have HV := Lib.hid hv
  clear hv
  have c1 : w1.cell? ⟨g, 0, none⟩ = some (.slice A n c) := (hb.cell hlt).trans h1
  have c2 : w1.cell? ⟨g, 1, none⟩ = some (.slice B m d) := (hb.cell hlt).trans h2
  have HB := Lib.hid hb
  clear hb h1 h2
  go_wp2_with fail
  refine wp_loop_rounds 3 ?_
  rw [rounds_succ]
  go_wp2_with (at_builtin; refine wpList_append_any _ rfl _ _ 31 rfl w.heap.size 9 i0 _ 1 16 Try.underlying31 HZ.out HZ0.out HZ1.out HZ2.out rfl (by omega) v 0 [] rfl HV.out w1.heap.size A n c (strV xs) rfl (HX.out.below HB.out).reads (strV_one xs) (by unfold maxLen; omega) (by omega) HB.out.size ?_; intro v2 w2 hown2 hg2 hat2)
  have hb2 : Below w.heap.size w w2 := HB.out.grown hg2 HB.out.size (fun k hk => (HV.out.lt k hk).1)
  have c3 : w2.cell? ⟨g, 1, none⟩ = some (.slice B m d) := (hb2.cell hlt).trans ((HB.out.cell hlt).symm.trans c2)
  have HB2 := Lib.hid hb2
  have HV2 := Lib.hid hown2
  clear hb2 c1 c2 hown2 hg2 hat2
  rw [rounds_succ]
  go_wp2_with (at_builtin; refine wpList_append_any _ rfl _ _ 31 rfl w.heap.size 9 i0 _ 1 16 Try.underlying31 HZ.out HZ0.out HZ1.out HZ2.out rfl (by omega) v2 (0 + n) ([] ++ strV xs) rfl HV2.out w2.heap.size B m d (strV ys) rfl (HY.out.below HB2.out).reads (strV_one ys) (by unfold maxLen; omega) (by omega) HB2.out.size ?_; intro v3 w3 hown3 hg3 hat3)
  have hb3 : Below w.heap.size w w3 := HB2.out.grown hg3 HB2.out.size (fun k hk => (HV2.out.lt k hk).1)
  have HB3 := Lib.hid hb3
  have HV3 := Lib.hid hown3
  clear hb3 hown3 hg3 hat3
  rw [rounds_succ]
  go_wp2_with fail
  go_ret
  refine ⟨_, rfl, ?_, HB3.out⟩
  have := HV3.out
  rw [strV, List.map_append]
  simpa [strV] using this
end Go.Proofs.Ytnigmpckohncoaa
