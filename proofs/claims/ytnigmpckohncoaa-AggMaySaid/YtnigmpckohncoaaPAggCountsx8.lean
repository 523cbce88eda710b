-- PRINTED BY print.sh 35421559b90ae4d0a3588c463048766b98c2df88dd9212a6774a882060cdf62d: not written by this session
import Derived.Test.YtnigmpckohncoaaPAggCountsx0
import Derived.Test.YtnigmpckohncoaaPAggCountsx7
namespace Go.Proofs.Ytnigmpckohncoaa.PAggCounts
open Go.RowKit Go.Proofs.YtnigmpckohncoaaW.PrintWords Go.Proofs.YtnigmpckohncoaaW.PrintLast Go.Proofs.YtnigmpckohncoaaW.PrintMore
attribute [local go_sem] max2_int min2_int max_two min_two max_three min_three max_four min_four   -- for this text's walks alone
set_option linter.unusedVariables false
set_option linter.unusedSimpArgs false

/-! ### gristmilllaw06_right: function 7 -/
mutual
def gristmilllaw06_right.l0 : Nat → List (S51) → List (S51) → Int → Int → Int → Int → Int → Option (Int × Int × Int × Int × (List (S51)))
  | 0, _, _, _, _, _, _, _ => none
  | k + 1, x1, x8, x9, x260000, x260001, x263000, x263001 => if x9 < (x1.length : Int) then (gristmilllaw06_right.j1 k x1 x8 x9 (decide (x9 < 40)) x260000 x260001 x263000 x263001) else (gristmilllaw06_right.j1 k x1 x8 x9 false x260000 x260001 x263000 x263001)
def gristmilllaw06_right.j1 : Nat → List (S51) → List (S51) → Int → Bool → Int → Int → Int → Int → Option (Int × Int × Int × Int × (List (S51)))
  | 0, _, _, _, _, _, _, _, _ => none
  | k + 1, x1, x8, x9, x30, x260000, x260001, x263000, x263001 => if x30 = true then (if 0 ≤ x9 then (if x9 < (x1.length : Int) then (gristmilllaw06_right.l1 k x1 x8 x9 0 x260000 x260001 x263000 x263001 ((rd_T51 x1 x9).f0.f0) (([(⟨#[]⟩ : ByteArray), (⟨#[]⟩ : ByteArray)] : List ByteArray)) (([0, 0] : List Int))) else (none)) else (none)) else (some (x263000, x263001, x260000, x260001, x8))
def gristmilllaw06_right.l1 : Nat → List (S51) → List (S51) → Int → Int → Int → Int → Int → Int → Int → List ByteArray → List Int → Option (Int × Int × Int × Int × (List (S51)))
  | 0, _, _, _, _, _, _, _, _, _, _, _ => none
  | k + 1, x1, x8, x9, x11, x260000, x260001, x263000, x263001, x273000, x273001, x273002 => if x11 < 2 then (if 0 ≤ x9 then (if x9 < (x1.length : Int) then (if x11 < (((rd_T51 x1 x9).f0.f1).length : Int) then (if 0 ≤ x11 then (gristmilllaw06_right.j3 k x1 x8 x9 x11 (decide (((rdOf ByteArray.empty ((rd_T51 x1 x9).f0.f1) x11).size : Int) ≤ 64)) x260000 x260001 x263000 x263001 x273000 x273001 x273002) else (none)) else (gristmilllaw06_right.j3 k x1 x8 x9 x11 false x260000 x260001 x263000 x263001 x273000 x273001 x273002)) else (none)) else (none)) else (if 0 ≤ x9 then (if x9 < (x1.length : Int) then (if x8.length < 2199023255552 then (gristmilllaw06_right.l0 k x1 (x8 ++ [(⟨(⟨x273000, x273001, x273002⟩ : S45), Int.tmod ((rd_T51 x1 x9).f1) 1125899906842624⟩ : S51)]) (wrap64 (x9 + 1)) x260000 x260001 x263000 x263001) else (none)) else (none)) else (none))
def gristmilllaw06_right.j3 : Nat → List (S51) → List (S51) → Int → Int → Bool → Int → Int → Int → Int → Int → List ByteArray → List Int → Option (Int × Int × Int × Int × (List (S51)))
  | 0, _, _, _, _, _, _, _, _, _, _, _, _ => none
  | k + 1, x1, x8, x9, x11, x67, x260000, x260001, x263000, x263001, x273000, x273001, x273002 => if x67 = true then (if 0 ≤ x9 then (if x9 < (x1.length : Int) then (if 0 ≤ x11 then (if x11 < (((rd_T51 x1 x9).f0.f1).length : Int) then (if x11 < (x273001.length : Int) then ((some (x273001.set (x11 : Int).toNat (rdOf ByteArray.empty ((rd_T51 x1 x9).f0.f1) x11) : List ByteArray)).bind fun y282 => (if x11 < (((rd_T51 x1 x9).f0.f2).length : Int) then (if x11 < (x273002.length : Int) then (gristmilllaw06_right.l1 k x1 x8 x9 (wrap64 (x11 + 1)) x260000 x260001 x263000 x263001 x273000 y282 (x273002.set (x11 : Int).toNat (rd ((rd_T51 x1 x9).f0.f2) x11))) else (none)) else (gristmilllaw06_right.l1 k x1 x8 x9 (wrap64 (x11 + 1)) x260000 x260001 x263000 x263001 x273000 y282 x273002))) else (none)) else (none)) else (none)) else (none)) else (none)) else (if 0 ≤ x9 then (if x9 < (x1.length : Int) then (if x11 < (((rd_T51 x1 x9).f0.f2).length : Int) then (if 0 ≤ x11 then (if x11 < (x273002.length : Int) then (gristmilllaw06_right.l1 k x1 x8 x9 (wrap64 (x11 + 1)) x260000 x260001 x263000 x263001 x273000 x273001 (x273002.set (x11 : Int).toNat (rd ((rd_T51 x1 x9).f0.f2) x11))) else (none)) else (none)) else (gristmilllaw06_right.l1 k x1 x8 x9 (wrap64 (x11 + 1)) x260000 x260001 x263000 x263001 x273000 x273001 x273002)) else (none)) else (none))
end
def gristmilllaw06_right.f (k : Nat) (a0_0 : Int) (a0_1 : Int) (l1 : List (S51)) : Option (Int × Int × Int × Int × (List (S51))) := (gristmilllaw06_abs.f a0_0).bind fun t263 => ((gristmilllaw06_abs.f a0_1).bind fun t264 => (gristmilllaw06_right.l0 k l1 ([] : List (S51)) 0 (wrap64 (1 + (Int.tmod t263 5))) (Int.tmod t264 2) 2 2))
theorem gristmilllaw06_right.mono_l : ∀ k, (∀ y0 y1 y2 y3 y4 y5 y6, LeO (gristmilllaw06_right.l0 k y0 y1 y2 y3 y4 y5 y6) (gristmilllaw06_right.l0 (k + 1) y0 y1 y2 y3 y4 y5 y6)) ∧ (∀ y0 y1 y2 y3 y4 y5 y6 y7, LeO (gristmilllaw06_right.j1 k y0 y1 y2 y3 y4 y5 y6 y7) (gristmilllaw06_right.j1 (k + 1) y0 y1 y2 y3 y4 y5 y6 y7)) ∧ (∀ y0 y1 y2 y3 y4 y5 y6 y7 y8 y9 y10, LeO (gristmilllaw06_right.l1 k y0 y1 y2 y3 y4 y5 y6 y7 y8 y9 y10) (gristmilllaw06_right.l1 (k + 1) y0 y1 y2 y3 y4 y5 y6 y7 y8 y9 y10)) ∧ (∀ y0 y1 y2 y3 y4 y5 y6 y7 y8 y9 y10 y11, LeO (gristmilllaw06_right.j3 k y0 y1 y2 y3 y4 y5 y6 y7 y8 y9 y10 y11) (gristmilllaw06_right.j3 (k + 1) y0 y1 y2 y3 y4 y5 y6 y7 y8 y9 y10 y11))
  | 0 => ⟨fun _ _ _ _ _ _ _ r h => by simp [gristmilllaw06_right.l0] at h, fun _ _ _ _ _ _ _ _ r h => by simp [gristmilllaw06_right.j1] at h, fun _ _ _ _ _ _ _ _ _ _ _ r h => by simp [gristmilllaw06_right.l1] at h, fun _ _ _ _ _ _ _ _ _ _ _ _ r h => by simp [gristmilllaw06_right.j3] at h⟩
  | k + 1 => by
    obtain ⟨ih0, ih1, ih2, ih3⟩ := gristmilllaw06_right.mono_l k
    refine ⟨?_, ?_, ?_, ?_⟩
    · intro y0 y1 y2 y3 y4 y5 y6
      unfold gristmilllaw06_right.l0
      repeat' first
      | (with_reducible exact ih0 _ _ _ _ _ _ _)
      | (with_reducible exact ih1 _ _ _ _ _ _ _ _)
      | (with_reducible exact ih2 _ _ _ _ _ _ _ _ _ _ _)
      | (with_reducible exact ih3 _ _ _ _ _ _ _ _ _ _ _ _)
      | (with_reducible exact LeO.refl _)
      | (with_reducible exact LeO.none _)
      | (with_reducible refine LeO.ite ?_ ?_)
      | (with_reducible refine LeO.bind ?_ (fun _ => ?_))
      | exact ih0 _ _ _ _ _ _ _
      | exact ih1 _ _ _ _ _ _ _ _
      | exact ih2 _ _ _ _ _ _ _ _ _ _ _
      | exact ih3 _ _ _ _ _ _ _ _ _ _ _ _
      | exact LeO.none _
      | refine LeO.ite ?_ ?_
      | refine LeO.bind ?_ (fun _ => ?_)
    · intro y0 y1 y2 y3 y4 y5 y6 y7
      unfold gristmilllaw06_right.j1
      repeat' first
      | (with_reducible exact ih0 _ _ _ _ _ _ _)
      | (with_reducible exact ih1 _ _ _ _ _ _ _ _)
      | (with_reducible exact ih2 _ _ _ _ _ _ _ _ _ _ _)
      | (with_reducible exact ih3 _ _ _ _ _ _ _ _ _ _ _ _)
      | (with_reducible exact LeO.refl _)
      | (with_reducible exact LeO.none _)
      | (with_reducible refine LeO.ite ?_ ?_)
      | (with_reducible refine LeO.bind ?_ (fun _ => ?_))
      | exact ih0 _ _ _ _ _ _ _
      | exact ih1 _ _ _ _ _ _ _ _
      | exact ih2 _ _ _ _ _ _ _ _ _ _ _
      | exact ih3 _ _ _ _ _ _ _ _ _ _ _ _
      | exact LeO.none _
      | refine LeO.ite ?_ ?_
      | refine LeO.bind ?_ (fun _ => ?_)
    · intro y0 y1 y2 y3 y4 y5 y6 y7 y8 y9 y10
      unfold gristmilllaw06_right.l1
      repeat' first
      | (with_reducible exact ih0 _ _ _ _ _ _ _)
      | (with_reducible exact ih1 _ _ _ _ _ _ _ _)
      | (with_reducible exact ih2 _ _ _ _ _ _ _ _ _ _ _)
      | (with_reducible exact ih3 _ _ _ _ _ _ _ _ _ _ _ _)
      | (with_reducible exact LeO.refl _)
      | (with_reducible exact LeO.none _)
      | (with_reducible refine LeO.ite ?_ ?_)
      | (with_reducible refine LeO.bind ?_ (fun _ => ?_))
      | exact ih0 _ _ _ _ _ _ _
      | exact ih1 _ _ _ _ _ _ _ _
      | exact ih2 _ _ _ _ _ _ _ _ _ _ _
      | exact ih3 _ _ _ _ _ _ _ _ _ _ _ _
      | exact LeO.none _
      | refine LeO.ite ?_ ?_
      | refine LeO.bind ?_ (fun _ => ?_)
    · intro y0 y1 y2 y3 y4 y5 y6 y7 y8 y9 y10 y11
      unfold gristmilllaw06_right.j3
      repeat' first
      | (with_reducible exact ih0 _ _ _ _ _ _ _)
      | (with_reducible exact ih1 _ _ _ _ _ _ _ _)
      | (with_reducible exact ih2 _ _ _ _ _ _ _ _ _ _ _)
      | (with_reducible exact ih3 _ _ _ _ _ _ _ _ _ _ _ _)
      | (with_reducible exact LeO.refl _)
      | (with_reducible exact LeO.none _)
      | (with_reducible refine LeO.ite ?_ ?_)
      | (with_reducible refine LeO.bind ?_ (fun _ => ?_))
      | exact ih0 _ _ _ _ _ _ _
      | exact ih1 _ _ _ _ _ _ _ _
      | exact ih2 _ _ _ _ _ _ _ _ _ _ _
      | exact ih3 _ _ _ _ _ _ _ _ _ _ _ _
      | exact LeO.none _
      | refine LeO.ite ?_ ?_
      | refine LeO.bind ?_ (fun _ => ?_)
theorem gristmilllaw06_right.mono : ∀ a0 a1 a2 k, LeO (gristmilllaw06_right.f k a0 a1 a2) (gristmilllaw06_right.f (k + 1) a0 a1 a2) := by
  intro a0 a1 a2 k
  obtain ⟨ih0, ih1, ih2, ih3⟩ := gristmilllaw06_right.mono_l k
  unfold gristmilllaw06_right.f
  repeat' first
      | (with_reducible exact ih0 _ _ _ _ _ _ _)
      | (with_reducible exact ih1 _ _ _ _ _ _ _ _)
      | (with_reducible exact ih2 _ _ _ _ _ _ _ _ _ _ _)
      | (with_reducible exact ih3 _ _ _ _ _ _ _ _ _ _ _ _)
      | (with_reducible exact LeO.refl _)
      | (with_reducible exact LeO.none _)
      | (with_reducible refine LeO.ite ?_ ?_)
      | (with_reducible refine LeO.bind ?_ (fun _ => ?_))
      | exact ih0 _ _ _ _ _ _ _
      | exact ih1 _ _ _ _ _ _ _ _
      | exact ih2 _ _ _ _ _ _ _ _ _ _ _
      | exact ih3 _ _ _ _ _ _ _ _ _ _ _ _
      | exact LeO.none _
      | refine LeO.ite ?_ ?_
      | refine LeO.bind ?_ (fun _ => ?_)
def gristmilllaw06_right.T2 : Bool × List (List Nat × List Nat) := (true, [([], []), ([0], [0]), ([1], [1]), ([2], [2]), ([3], [3]), ([], []), ([5], [5]), ([6, 2], [6]), ([7], [7]), ([4, 8], [4, 8]), ([9, 7, 0, 1, 2, 3, 4, 5, 6, 7, 8, 9], [9])])
def gristmilllaw06_right.B2 : List Nat := [0, 1, 3, 7, 15, 0, 32, 103, 231, 511, 1023]
theorem gristmilllaw06_right.tab2 : rtab .any (opsOf Try.f7 2) = gristmilllaw06_right.T2 := by kernel_rfl
theorem gristmilllaw06_right.bits2 : waitsOk gristmilllaw06_right.T2.2 gristmilllaw06_right.B2 = true := by kernel_rfl
def gristmilllaw06_right.T12 : Bool × List (List Nat × List Nat) := (true, [([], []), ([0], [0]), ([], []), ([], []), ([], []), ([3, 4], [3, 4]), ([5], [5]), ([6], [6]), ([7], [7]), ([], []), ([8, 9], [8, 9]), ([10], [10]), ([1, 2, 0, 1, 2, 3, 4, 5, 6, 7, 8, 9, 10, 11], [1, 2]), ([12, 11, 0, 1, 2, 3, 4, 5, 6, 7, 8, 9, 10, 11], [11, 12])])
def gristmilllaw06_right.B12 : List Nat := [0, 1, 0, 0, 0, 24, 56, 120, 248, 0, 1016, 2040, 4095, 8191]
theorem gristmilllaw06_right.tab12 : rtab .any (opsOf Try.f7 12) = gristmilllaw06_right.T12 := by kernel_rfl
theorem gristmilllaw06_right.bits12 : waitsOk gristmilllaw06_right.T12.2 gristmilllaw06_right.B12 = true := by kernel_rfl
def gristmilllaw06_right.T14 : Bool × List (List Nat × List Nat) := (true, [([], []), ([0], [0]), ([], []), ([], []), ([], []), ([3, 4], [3, 4]), ([5], [5]), ([6], [6]), ([7], [7]), ([], []), ([8, 9], [8, 9]), ([10], [10]), ([1, 2, 0, 1, 2, 3, 4, 5, 6, 7, 8, 9, 10, 11], [1, 2]), ([12, 11, 0, 1, 2, 3, 4, 5, 6, 7, 8, 9, 10, 11], [11, 12])])
def gristmilllaw06_right.B14 : List Nat := [0, 1, 0, 0, 0, 24, 56, 120, 248, 0, 1016, 2040, 4095, 8191]
theorem gristmilllaw06_right.tab14 : rtab .any (opsOf Try.f7 14) = gristmilllaw06_right.T14 := by kernel_rfl
theorem gristmilllaw06_right.bits14 : waitsOk gristmilllaw06_right.T14.2 gristmilllaw06_right.B14 = true := by kernel_rfl
def gristmilllaw06_right.T15 : Bool × List (List Nat × List Nat) := (true, [([], []), ([], []), ([], []), ([], []), ([2, 3], [2, 3]), ([4], [4]), ([5], [5]), ([6], [6]), ([1, 7], [1, 7]), ([8], [8]), ([0, 9], [0, 9]), ([10, 10, 0, 1, 2, 3, 4, 5, 6, 7, 8, 9, 10], [0, 10])])
def gristmilllaw06_right.B15 : List Nat := [0, 0, 0, 0, 12, 28, 60, 124, 254, 510, 1023, 2047]
theorem gristmilllaw06_right.tab15 : rtab .any (opsOf Try.f7 15) = gristmilllaw06_right.T15 := by kernel_rfl
theorem gristmilllaw06_right.bits15 : waitsOk gristmilllaw06_right.T15.2 gristmilllaw06_right.B15 = true := by kernel_rfl
set_option maxHeartbeats 8000000 in
set_option maxRecDepth 100000 in
theorem gristmilllaw06_right.calls (k : Nat) (a0_0 : Int) (a0_1 : Int) (A1 : Option Addr) (c1 : Nat) (l1 : List (S51)) (r1 : Int) (r2 : Int) (r3 : Int) (r4 : Int) (r5 : List (S51)) (w : World) (hr1 : Kd.C k51 w A1 l1.length l1) (hc1 : l1.length ≤ c1) (h : gristmilllaw06_right.f k a0_0 a0_1 l1 = some (r1, r2, r3, r4, r5)) :
    Calls Try.prog 7 #[.agg #[.int .i64 a0_0, .int .i64 a0_1], .slice A1 l1.length c1] w fun e w' => ∃ v4_ : Value, e = .returned (.tuple #[.agg #[.int .i64 r1, .int .i64 r2], .agg #[.int .i64 r3, .int .i64 r4], v4_]) ∧ Kd.S k51 51 w' w.heap.size (fun _ => True) v4_ r5 ∧ Below w.heap.size w w' := by
  have hu23 := Try.underlying23
  have hu27 := Try.underlying27
  have hu45 := Try.underlying45
  have hu51 := Try.underlying51
  have HR1 := Aside0.mk hr1
  have HC1 := Aside0.mk hc1
  clear hr1 hc1
  have HB := Aside0.mk (Below.refl w.heap.size w)
  have H : ((gristmilllaw06_abs.f a0_0).bind fun t263 => ((gristmilllaw06_abs.f a0_1).bind fun t264 => (gristmilllaw06_right.l0 k l1 ([] : List (S51)) 0 (wrap64 (1 + (Int.tmod t263 5))) (Int.tmod t264 2) 2 2))) = some (r1, r2, r3, r4, r5) := h
  clear h
  replace H := Option.bind_eq_some_iff.mp H
  obtain ⟨t263, A30, H⟩ := H
  replace H : ((gristmilllaw06_abs.f a0_1).bind fun t264 => (gristmilllaw06_right.l0 k l1 ([] : List (S51)) 0 (wrap64 (1 + (Int.tmod t263 5))) (Int.tmod t264 2) 2 2)) = some (r1, r2, r3, r4, r5) := H
  have A3 := Aside0.mk A30
  clear A30
  replace H := Option.bind_eq_some_iff.mp H
  obtain ⟨t264, A40, H⟩ := H
  replace H : (gristmilllaw06_right.l0 k l1 ([] : List (S51)) 0 (wrap64 (1 + (Int.tmod t263 5))) (Int.tmod t264 2) 2 2) = some (r1, r2, r3, r4, r5) := H
  have A4 := Aside0.mk A40
  clear A40
  have H' := Aside0.mk H
  clear H
  go_enter Try.func7, Try.ntmps7
  try go_wp2_with (first | ((with_reducible refine gate_dst (N := 2) rfl ?_); (try (refine gate_guard (by rfl) ?_; dsimp only)); refine box_event ?hg (N := 2) ?hd (cs := #[.int .i64 a0_0, .int .i64 a0_1]) (t := 23) ?hr ?_; (case hd => rfl); (case hg => rfl); (case hr => first | (go_simp; done) | (go_simp; rfl)); intro gb259 hg w5 hbox hb; have n0_ := Aside0.mk (below_step (by repeat (first | (with_reducible first | exact HB.out | apply below_alloc | apply pw_below_drewN | apply below_drew1) | exact HB.out)) hb); have n1_ := Aside0.mk (hbox); have n2_ := Aside0.mk ((by rw [hg]; exact (below_size (by repeat (first | (with_reducible first | exact HB.out | apply below_alloc | apply pw_below_drewN | apply below_drew1) | exact HB.out))) : w.heap.size ≤ gb259)); have n3_ := Aside0.mk ((by rw [hg]; exact (below_size (by repeat (first | (with_reducible first | exact HB.out | apply below_alloc | apply pw_below_drewN | apply below_drew1) | exact HB.out))) : w.heap.size ≤ gb259)); clear HB; have HB := n0_; have BK259 := n1_; have GW259 := n2_; have GE259 := n3_; clear n0_ n1_ n2_ n3_; clear hb hbox hg) | ((with_reducible refine gate_dst (N := 4) rfl ?_); (try (refine gate_guard (by rfl) ?_; dsimp only)); refine box_event ?hg (N := 4) ?hd (cs := #[.int .i64 0, .int .i64 0]) (t := 27) ?hr ?_; (case hd => rfl); (case hg => rfl); (case hr => first | (go_simp; done) | (go_simp; rfl)); intro gb260 hg w6 hbox hb; have n0_ := Aside0.mk (blk_below (g := gb259) (o := .cells #[.int .i64 a0_0, .int .i64 a0_1] 23 (0, 0)) (by (with_reducible repeat (first | refine blk_drewN ?_ _ | refine blk_drew ?_ | refine blk_alloc ?_ _)); exact BK259.out) hb); have n1_ := Aside0.mk (below_step (by repeat (first | (with_reducible first | exact HB.out | apply below_alloc | apply pw_below_drewN | apply below_drew1 | refine below_set ?_ GE259.out) | exact HB.out)) hb); have n2_ := Aside0.mk (hbox); have n3_ := Aside0.mk ((by rw [hg]; exact (below_size (by repeat (first | (with_reducible first | exact HB.out | apply below_alloc | apply pw_below_drewN | apply below_drew1 | refine below_set ?_ GE259.out) | exact HB.out))) : w.heap.size ≤ gb260)); have n4_ := Aside0.mk ((by rw [hg]; exact (below_size (by repeat (first | (with_reducible first | exact HB.out | apply below_alloc | apply pw_below_drewN | apply below_drew1 | refine below_set ?_ GE259.out) | exact HB.out))) : w.heap.size ≤ gb260)); have n5_ := Aside0.mk ((by rw [hg]; exact Nat.ne_of_lt (blk_lt (g := gb259) (o := .cells #[.int .i64 a0_0, .int .i64 a0_1] 23 (0, 0)) (by (with_reducible repeat (first | refine blk_drewN ?_ _ | refine blk_drew ?_ | refine blk_alloc ?_ _)); exact BK259.out)) : gb259 ≠ gb260)); have n6_ := Aside0.mk ((by rw [hg]; exact Nat.ne_of_gt (blk_lt (g := gb259) (o := .cells #[.int .i64 a0_0, .int .i64 a0_1] 23 (0, 0)) (by (with_reducible repeat (first | refine blk_drewN ?_ _ | refine blk_drew ?_ | refine blk_alloc ?_ _)); exact BK259.out)) : gb260 ≠ gb259)); clear BK259; clear HB; have BK259 := n0_; have HB := n1_; have BK260 := n2_; have GW260 := n3_; have GE260 := n4_; have NB259_260 := n5_; have NB260_259 := n6_; clear n0_ n1_ n2_ n3_ n4_ n5_ n6_; clear hb hbox hg) | ((with_reducible refine gate_dst (N := 5) rfl ?_); (try (refine gate_guard (by rfl) ?_; dsimp only)); refine box_event ?hg (N := 5) ?hd (cs := #[.int .i64 0, .int .i64 0]) (t := 23) ?hr ?_; (case hd => rfl); (case hg => rfl); (case hr => first | (go_simp; done) | (go_simp; rfl)); intro gb261 hg w7 hbox hb; have n0_ := Aside0.mk (blk_below (g := gb259) (o := .cells #[.int .i64 a0_0, .int .i64 a0_1] 23 (0, 0)) (by (with_reducible repeat (first | refine blk_drewN ?_ _ | refine blk_drew ?_ | refine blk_alloc ?_ _)); exact BK259.out) hb); have n1_ := Aside0.mk (blk_below (g := gb260) (o := .cells #[.int .i64 0, .int .i64 0] 27 (0, 0)) (by (with_reducible repeat (first | refine blk_drewN ?_ _ | refine blk_drew ?_ | refine blk_alloc ?_ _)); exact BK260.out) hb); have n2_ := Aside0.mk (below_step (by repeat (first | (with_reducible first | exact HB.out | apply below_alloc | apply pw_below_drewN | apply below_drew1 | refine below_set ?_ GE259.out | refine below_set ?_ GE260.out) | exact HB.out)) hb); have n3_ := Aside0.mk (hbox); have n4_ := Aside0.mk ((by rw [hg]; exact (below_size (by repeat (first | (with_reducible first | exact HB.out | apply below_alloc | apply pw_below_drewN | apply below_drew1 | refine below_set ?_ GE259.out | refine below_set ?_ GE260.out) | exact HB.out))) : w.heap.size ≤ gb261)); have n5_ := Aside0.mk ((by rw [hg]; exact (below_size (by repeat (first | (with_reducible first | exact HB.out | apply below_alloc | apply pw_below_drewN | apply below_drew1 | refine below_set ?_ GE259.out | refine below_set ?_ GE260.out) | exact HB.out))) : w.heap.size ≤ gb261)); have n6_ := Aside0.mk ((by rw [hg]; exact Nat.ne_of_lt (blk_lt (g := gb259) (o := .cells #[.int .i64 a0_0, .int .i64 a0_1] 23 (0, 0)) (by (with_reducible repeat (first | refine blk_drewN ?_ _ | refine blk_drew ?_ | refine blk_alloc ?_ _)); exact BK259.out)) : gb259 ≠ gb261)); have n7_ := Aside0.mk ((by rw [hg]; exact Nat.ne_of_gt (blk_lt (g := gb259) (o := .cells #[.int .i64 a0_0, .int .i64 a0_1] 23 (0, 0)) (by (with_reducible repeat (first | refine blk_drewN ?_ _ | refine blk_drew ?_ | refine blk_alloc ?_ _)); exact BK259.out)) : gb261 ≠ gb259)); have n8_ := Aside0.mk ((by rw [hg]; exact Nat.ne_of_lt (blk_lt (g := gb260) (o := .cells #[.int .i64 0, .int .i64 0] 27 (0, 0)) (by (with_reducible repeat (first | refine blk_drewN ?_ _ | refine blk_drew ?_ | refine blk_alloc ?_ _)); exact BK260.out)) : gb260 ≠ gb261)); have n9_ := Aside0.mk ((by rw [hg]; exact Nat.ne_of_gt (blk_lt (g := gb260) (o := .cells #[.int .i64 0, .int .i64 0] 27 (0, 0)) (by (with_reducible repeat (first | refine blk_drewN ?_ _ | refine blk_drew ?_ | refine blk_alloc ?_ _)); exact BK260.out)) : gb261 ≠ gb260)); clear BK259; clear BK260; clear HB; have BK259 := n0_; have BK260 := n1_; have HB := n2_; have BK261 := n3_; have GW261 := n4_; have GE261 := n5_; have NB259_261 := n6_; have NB261_259 := n7_; have NB260_261 := n8_; have NB261_260 := n9_; clear n0_ n1_ n2_ n3_ n4_ n5_ n6_ n7_ n8_ n9_; clear hb hbox hg) | ((with_reducible refine gate_dst (N := 7) rfl ?_); (try (refine gate_guard (by rfl) ?_; dsimp only)); refine box_event ?hg (N := 7) ?hd (cs := #[.int .i64 0, .int .i64 0]) (t := 27) ?hr ?_; (case hd => rfl); (case hg => rfl); (case hr => first | (go_simp; done) | (go_simp; rfl)); intro gb262 hg w8 hbox hb; have n0_ := Aside0.mk (blk_below (g := gb259) (o := .cells #[.int .i64 a0_0, .int .i64 a0_1] 23 (0, 0)) (by (with_reducible repeat (first | refine blk_drewN ?_ _ | refine blk_drew ?_ | refine blk_alloc ?_ _)); exact BK259.out) hb); have n1_ := Aside0.mk (blk_below (g := gb260) (o := .cells #[.int .i64 0, .int .i64 0] 27 (0, 0)) (by (with_reducible repeat (first | refine blk_drewN ?_ _ | refine blk_drew ?_ | refine blk_alloc ?_ _)); exact BK260.out) hb); have n2_ := Aside0.mk (blk_below (g := gb261) (o := .cells #[.int .i64 0, .int .i64 0] 23 (0, 0)) (by (with_reducible repeat (first | refine blk_drewN ?_ _ | refine blk_drew ?_ | refine blk_alloc ?_ _)); exact BK261.out) hb); have n3_ := Aside0.mk (below_step (by repeat (first | (with_reducible first | exact HB.out | apply below_alloc | apply pw_below_drewN | apply below_drew1 | refine below_set ?_ GE259.out | refine below_set ?_ GE260.out | refine below_set ?_ GE261.out) | exact HB.out)) hb); have n4_ := Aside0.mk (hbox); have n5_ := Aside0.mk ((by rw [hg]; exact (below_size (by repeat (first | (with_reducible first | exact HB.out | apply below_alloc | apply pw_below_drewN | apply below_drew1 | refine below_set ?_ GE259.out | refine below_set ?_ GE260.out | refine below_set ?_ GE261.out) | exact HB.out))) : w.heap.size ≤ gb262)); have n6_ := Aside0.mk ((by rw [hg]; exact (below_size (by repeat (first | (with_reducible first | exact HB.out | apply below_alloc | apply pw_below_drewN | apply below_drew1 | refine below_set ?_ GE259.out | refine below_set ?_ GE260.out | refine below_set ?_ GE261.out) | exact HB.out))) : w.heap.size ≤ gb262)); have n7_ := Aside0.mk ((by rw [hg]; exact Nat.ne_of_lt (blk_lt (g := gb259) (o := .cells #[.int .i64 a0_0, .int .i64 a0_1] 23 (0, 0)) (by (with_reducible repeat (first | refine blk_drewN ?_ _ | refine blk_drew ?_ | refine blk_alloc ?_ _)); exact BK259.out)) : gb259 ≠ gb262)); have n8_ := Aside0.mk ((by rw [hg]; exact Nat.ne_of_gt (blk_lt (g := gb259) (o := .cells #[.int .i64 a0_0, .int .i64 a0_1] 23 (0, 0)) (by (with_reducible repeat (first | refine blk_drewN ?_ _ | refine blk_drew ?_ | refine blk_alloc ?_ _)); exact BK259.out)) : gb262 ≠ gb259)); have n9_ := Aside0.mk ((by rw [hg]; exact Nat.ne_of_lt (blk_lt (g := gb260) (o := .cells #[.int .i64 0, .int .i64 0] 27 (0, 0)) (by (with_reducible repeat (first | refine blk_drewN ?_ _ | refine blk_drew ?_ | refine blk_alloc ?_ _)); exact BK260.out)) : gb260 ≠ gb262)); have n10_ := Aside0.mk ((by rw [hg]; exact Nat.ne_of_gt (blk_lt (g := gb260) (o := .cells #[.int .i64 0, .int .i64 0] 27 (0, 0)) (by (with_reducible repeat (first | refine blk_drewN ?_ _ | refine blk_drew ?_ | refine blk_alloc ?_ _)); exact BK260.out)) : gb262 ≠ gb260)); have n11_ := Aside0.mk ((by rw [hg]; exact Nat.ne_of_lt (blk_lt (g := gb261) (o := .cells #[.int .i64 0, .int .i64 0] 23 (0, 0)) (by (with_reducible repeat (first | refine blk_drewN ?_ _ | refine blk_drew ?_ | refine blk_alloc ?_ _)); exact BK261.out)) : gb261 ≠ gb262)); have n12_ := Aside0.mk ((by rw [hg]; exact Nat.ne_of_gt (blk_lt (g := gb261) (o := .cells #[.int .i64 0, .int .i64 0] 23 (0, 0)) (by (with_reducible repeat (first | refine blk_drewN ?_ _ | refine blk_drew ?_ | refine blk_alloc ?_ _)); exact BK261.out)) : gb262 ≠ gb261)); clear BK259; clear BK260; clear BK261; clear HB; have BK259 := n0_; have BK260 := n1_; have BK261 := n2_; have HB := n3_; have BK262 := n4_; have GW262 := n5_; have GE262 := n6_; have NB259_262 := n7_; have NB262_259 := n8_; have NB260_262 := n9_; have NB262_260 := n10_; have NB261_262 := n11_; have NB262_261 := n12_; clear n0_ n1_ n2_ n3_ n4_ n5_ n6_ n7_ n8_ n9_ n10_ n11_ n12_; clear hb hbox hg; have hnb9 := NB262_259.out; have hnc9 := NB259_262.out; have hnb10 := NB262_260.out; have hnc10 := NB260_262.out; have hnb11 := NB262_261.out; have hnc11 := NB261_262.out; have hcz12_0 : w8.cell? ⟨gb262, 0, none⟩ = some (.int .i64 0) := (blk_cell BK262.out 0).trans rfl; have hcz12_1 : w8.cell? ⟨gb262, 1, none⟩ = some (.int .i64 0) := (blk_cell BK262.out 1).trans rfl; have hfz12_0 := blk_frozen BK262.out 0; have hfz12_1 := blk_frozen BK262.out 1))
  have n0_ : Aside0 (((w8.setCell ⟨gb262, 0, none⟩ (.int .i64 2)).setCell ⟨gb262, 1, none⟩ (.int .i64 2)).heap[gb259]? = some (.cells #[.int .i64 a0_0, .int .i64 a0_1] 23 (0, 0))) := ⟨by (with_reducible repeat (first | refine blk_drewN ?_ _ | refine blk_drew ?_ | refine blk_alloc ?_ _)); refine blk_far ?_ NB259_262.out _; (with_reducible repeat (first | refine blk_drewN ?_ _ | refine blk_drew ?_ | refine blk_alloc ?_ _)); refine blk_far ?_ NB259_262.out _; (with_reducible repeat (first | refine blk_drewN ?_ _ | refine blk_drew ?_ | refine blk_alloc ?_ _)); exact BK259.out⟩
  have n1_ : Aside0 (((w8.setCell ⟨gb262, 0, none⟩ (.int .i64 2)).setCell ⟨gb262, 1, none⟩ (.int .i64 2)).heap[gb260]? = some (.cells #[.int .i64 0, .int .i64 0] 27 (0, 0))) := ⟨by (with_reducible repeat (first | refine blk_drewN ?_ _ | refine blk_drew ?_ | refine blk_alloc ?_ _)); refine blk_far ?_ NB260_262.out _; (with_reducible repeat (first | refine blk_drewN ?_ _ | refine blk_drew ?_ | refine blk_alloc ?_ _)); refine blk_far ?_ NB260_262.out _; (with_reducible repeat (first | refine blk_drewN ?_ _ | refine blk_drew ?_ | refine blk_alloc ?_ _)); exact BK260.out⟩
  have n2_ : Aside0 (((w8.setCell ⟨gb262, 0, none⟩ (.int .i64 2)).setCell ⟨gb262, 1, none⟩ (.int .i64 2)).heap[gb261]? = some (.cells #[.int .i64 0, .int .i64 0] 23 (0, 0))) := ⟨by (with_reducible repeat (first | refine blk_drewN ?_ _ | refine blk_drew ?_ | refine blk_alloc ?_ _)); refine blk_far ?_ NB261_262.out _; (with_reducible repeat (first | refine blk_drewN ?_ _ | refine blk_drew ?_ | refine blk_alloc ?_ _)); refine blk_far ?_ NB261_262.out _; (with_reducible repeat (first | refine blk_drewN ?_ _ | refine blk_drew ?_ | refine blk_alloc ?_ _)); exact BK261.out⟩
  have n3_ : Aside0 (((w8.setCell ⟨gb262, 0, none⟩ (.int .i64 2)).setCell ⟨gb262, 1, none⟩ (.int .i64 2)).heap[gb262]? = some (.cells #[.int .i64 2, .int .i64 2] 27 (0, 0))) := ⟨by (with_reducible repeat (first | refine blk_drewN ?_ _ | refine blk_drew ?_ | refine blk_alloc ?_ _)); refine blk_put (cs := #[.int .i64 2, .int .i64 0]) ?_ 1 _ rfl; (with_reducible repeat (first | refine blk_drewN ?_ _ | refine blk_drew ?_ | refine blk_alloc ?_ _)); refine blk_put (cs := #[.int .i64 0, .int .i64 0]) ?_ 0 _ rfl; (with_reducible repeat (first | refine blk_drewN ?_ _ | refine blk_drew ?_ | refine blk_alloc ?_ _)); exact BK262.out⟩
  have n4_ : Aside0 (Below w.heap.size w ((w8.setCell ⟨gb262, 0, none⟩ (.int .i64 2)).setCell ⟨gb262, 1, none⟩ (.int .i64 2))) := ⟨by repeat (first | (with_reducible first | exact HB.out | apply below_alloc | apply pw_below_drewN | apply below_drew1 | refine below_set ?_ GE259.out | refine below_set ?_ GE260.out | refine below_set ?_ GE261.out | refine below_set ?_ GE262.out) | exact HB.out)⟩
  (try clear BK259)
  (try clear BK260)
  (try clear BK261)
  (try clear BK262)
  (try clear HB)
  generalize ((w8.setCell ⟨gb262, 0, none⟩ (.int .i64 2)).setCell ⟨gb262, 1, none⟩ (.int .i64 2)) = w13 at n0_ n1_ n2_ n3_ n4_ ⊢
  have BK259 := n0_
  have BK260 := n1_
  have BK261 := n2_
  have BK262 := n3_
  have HB := n4_
  clear n0_ n1_ n2_ n3_ n4_
  have n0_ := Aside0.mk (blk_drew BK259.out)
  have n1_ := Aside0.mk (blk_drew BK260.out)
  have n2_ := Aside0.mk (blk_drew BK261.out)
  have n3_ := Aside0.mk (blk_drew BK262.out)
  have n4_ := Aside0.mk (below_drew1 HB.out)
  clear BK259
  clear BK260
  clear BK261
  clear BK262
  clear HB
  have BK259 := n0_
  have BK260 := n1_
  have BK261 := n2_
  have BK262 := n3_
  have HB := n4_
  clear n0_ n1_ n2_ n3_ n4_
  refine start_ (n := 11) (S := fun w' => w'.cell? ⟨gb259, 0, none⟩ = some (.int .i64 a0_0) ∧ w'.cell? ⟨gb259, 1, none⟩ = some (.int .i64 a0_1)) (ds := [10]) #[false, false, false, false, false, false, false, false, false, false, false] (by kernel_rfl) rfl rfl ⟨(blk_cell BK259.out 0).trans rfl, (blk_cell BK259.out 1).trans rfl⟩ (fun hHeld => ?_); refine with_tabW gristmilllaw06_right.tab2 gristmilllaw06_right.bits2 (fun HT_ HW_ => ?_)
  generalize w13.drew = w14 at BK259 BK260 BK261 BK262 HB hHeld ⊢
  refine pure_ (i := 0) (N := some 13) (v := ?_) (a' := ?_) #[true, false, false, false, false, false, false, false, false, false, false] rfl rfl (any_of HT_.out (by kernel_rfl)) (fun _ _ _ h => h) (Or.inl ⟨by rfl, ?_⟩) ?_ ?_
  rotate_left
  · intro w'
    go_simp
    with_reducible rfl
  rotate_left
  · simp only [Act.put, List.setIfInBounds_toArray, List.set_cons_zero, List.set_cons_succ, i64_w, i32_w]
    rfl
  refine pure_ (i := 5) (N := some 18) (v := ?_) (a' := ?_) #[true, false, false, false, false, true, false, false, false, false, false] rfl rfl (any_of HT_.out (by kernel_rfl)) (fun _ _ _ h => h) (Or.inl ⟨by rfl, ?_⟩) ?_ ?_
  rotate_left
  · intro w'
    go_simp
    with_reducible rfl
  rotate_left
  · simp only [Act.put, List.setIfInBounds_toArray, List.set_cons_zero, List.set_cons_succ, i64_w, i32_w]
    rfl
  refine take_ (i := 1) (N := some 14) (v := ?_) (a' := ?_) #[true, true, false, false, false, true, false, false, false, false, false] rfl rfl (take_ofW HT_.out HW_.out (by kernel_rfl)) (fun _ _ _ h => h) (Or.inl ⟨by rfl, ?_⟩) hHeld ?_ ?_
  rotate_left
  · rintro w' ⟨s0, s1⟩
    go_simp
    with_reducible rfl
  rotate_left
  · simp only [Act.put, List.setIfInBounds_toArray, List.set_cons_zero, List.set_cons_succ, i64_w, i32_w]
    rfl
  refine take_ (i := 6) (N := some 19) (v := ?_) (a' := ?_) #[true, true, false, false, false, true, true, false, false, false, false] rfl rfl (take_ofW HT_.out HW_.out (by kernel_rfl)) (fun _ _ _ h => h) (Or.inl ⟨by rfl, ?_⟩) hHeld ?_ ?_
  rotate_left
  · rintro w' ⟨s0, s1⟩
    go_simp
    with_reducible rfl
  rotate_left
  · simp only [Act.put, List.setIfInBounds_toArray, List.set_cons_zero, List.set_cons_succ, i64_w, i32_w]
    rfl
  refine one_ (i := 2) (N := some 15) #[true, true, true, false, false, true, true, false, false, false, false] rfl rfl (one_of HT_.out (by kernel_rfl)) (by decide) (fun K hK => ?_)
  refine goes_ Try.func18 (by kernel_rfl) rfl #[.int .i64 a0_0] (by rfl) rfl rfl (by (try simp only [List.map_toArray, List.map_cons, List.map_nil]); first | done | rfl | (simp only [List.length_drop, List.length_take]; rfl)) ?_
  with_reducible refine (gristmilllaw06_abs.calls a0_0 t263 _ A3.out).mono ?_
  rintro e w' ⟨rfl, ⟨nd, rfl⟩⟩
  refine ⟨_, rfl, ?_⟩
  refine hK.out _ _ ⟨(blk_cell BK259.out 0).trans rfl, (blk_cell BK259.out 1).trans rfl⟩ (fun hHeld => ?_)
  clear hK K
  refine norm_ (a' := ?_) ?_ ?_
  rotate_left
  · show Act.put _ (some 15) _ = _
    simp only [Act.put, List.setIfInBounds_toArray, List.set_cons_zero, List.set_cons_succ, i64_w, i32_w]
    rfl
  refine pure_ (i := 3) (N := some 16) (v := ?_) (a' := ?_) #[true, true, true, true, false, true, true, false, false, false, false] rfl rfl (any_of HT_.out (by kernel_rfl)) (fun _ _ _ h => h) (Or.inl ⟨by rfl, ?_⟩) ?_ ?_
  rotate_left
  · intro w'
    go_simp
    with_reducible rfl
  rotate_left
  · simp only [Act.put, List.setIfInBounds_toArray, List.set_cons_zero, List.set_cons_succ, i64_w, i32_w]
    rfl
  refine pure_ (i := 4) (N := some 17) (v := ?_) (a' := ?_) #[true, true, true, true, true, true, true, false, false, false, false] rfl rfl (any_of HT_.out (by kernel_rfl)) (fun _ _ _ h => h) (Or.inl ⟨by rfl, ?_⟩) ?_ ?_
  rotate_left
  · intro w'
    go_simp
    with_reducible rfl
  rotate_left
  · simp only [Act.put, List.setIfInBounds_toArray, List.set_cons_zero, List.set_cons_succ, i64_w, i32_w]
    rfl
  refine one_ (i := 7) (N := some 20) #[true, true, true, true, true, true, true, true, false, false, false] rfl rfl (one_of HT_.out (by kernel_rfl)) (by decide) (fun K hK => ?_)
  refine goes_ Try.func18 (by kernel_rfl) rfl #[.int .i64 a0_1] (by rfl) rfl rfl (by (try simp only [List.map_toArray, List.map_cons, List.map_nil]); first | done | rfl | (simp only [List.length_drop, List.length_take]; rfl)) ?_
  with_reducible refine (gristmilllaw06_abs.calls a0_1 t264 _ A4.out).mono ?_
  rintro e w' ⟨rfl, ⟨nd, rfl⟩⟩
  refine ⟨_, rfl, ?_⟩
  refine hK.out _ _ ⟨(blk_cell BK259.out 0).trans rfl, (blk_cell BK259.out 1).trans rfl⟩ (fun hHeld => ?_)
  clear hK K
  refine norm_ (a' := ?_) ?_ ?_
  rotate_left
  · show Act.put _ (some 20) _ = _
    simp only [Act.put, List.setIfInBounds_toArray, List.set_cons_zero, List.set_cons_succ, i64_w, i32_w]
    rfl
  refine pure_ (i := 8) (N := some 21) (v := ?_) (a' := ?_) #[true, true, true, true, true, true, true, true, true, false, false] rfl rfl (any_of HT_.out (by kernel_rfl)) (fun _ _ _ h => h) (Or.inl ⟨by rfl, ?_⟩) ?_ ?_
  rotate_left
  · intro w'
    go_simp
    with_reducible rfl
  rotate_left
  · simp only [Act.put, List.setIfInBounds_toArray, List.set_cons_zero, List.set_cons_succ, i64_w, i32_w]
    rfl
  refine pure_ (i := 9) (N := some 22) (v := ?_) (a' := ?_) #[true, true, true, true, true, true, true, true, true, true, false] rfl rfl (any_of HT_.out (by kernel_rfl)) (fun _ _ _ h => h) (Or.inl ⟨by rfl, ?_⟩) ?_ ?_
  rotate_left
  · intro w'
    go_simp
    with_reducible rfl
  rotate_left
  · simp only [Act.put, List.setIfInBounds_toArray, List.set_cons_zero, List.set_cons_succ, i64_w, i32_w]
    rfl
  refine last_ (i := 10) (N := none) #[true, true, true, true, true, true, true, true, true, true, true] rfl rfl (one_of HT_.out (by kernel_rfl)) (by decide) (fun K hK => ?_)
  have hs15 : w14.cell? ⟨gb259, 0, none⟩ = some (.int .i64 a0_0) := (blk_cell BK259.out 0).trans rfl
  have hfs15 := blk_frozen BK259.out 0
  have hns15_1 := NB260_259.out
  have hns15_2 := NB261_259.out
  have hns15_3 := NB262_259.out
  have hms15_1 := NB259_260.out
  have hms15_2 := NB259_261.out
  have hms15_3 := NB259_262.out
  have hs16 : w14.cell? ⟨gb259, 1, none⟩ = some (.int .i64 a0_1) := (blk_cell BK259.out 1).trans rfl
  have hfs16 := blk_frozen BK259.out 1
  have hns16_1 := NB260_259.out
  have hns16_2 := NB261_259.out
  have hns16_3 := NB262_259.out
  have hms16_1 := NB259_260.out
  have hms16_2 := NB259_261.out
  have hms16_3 := NB259_262.out
  refine skip_ (w1 := ?_) (by rfl) rfl ?_ ?_
  rotate_left
  · go_simp
    rfl
  refine hK.out _ _ ?_
  clear hK K
  refine done_ (done_of HT_.out (by kernel_rfl)) ?_
  try go_wp2
  go_loopg [8, 9] k (fun kq v8 v9 w' => ∃ (x8_1 : List (S51)) (x9_1 : Int), v9 = .int .i64 x9_1 ∧ Aside0 (gristmilllaw06_right.l0 kq l1 x8_1 x9_1 (wrap64 (1 + (Int.tmod t263 5))) (Int.tmod t264 2) 2 2 = some (r1, r2, r3, r4, r5)) ∧ Aside0 (kq ≤ k) ∧ Aside0 (Kd.S k51 51 w' w.heap.size (fun _ => True) v8 x8_1) ∧ Aside0 (w'.heap[gb259]? = some (.cells #[.int .i64 (wrap64 (1 + (Int.tmod t263 5))), .int .i64 (Int.tmod t264 2)] 23 (0, 0))) ∧ Aside0 (w'.heap[gb260]? = some (.cells #[.int .i64 0, .int .i64 0] 27 (0, 0))) ∧ Aside0 (w'.heap[gb261]? = some (.cells #[.int .i64 0, .int .i64 0] 23 (0, 0))) ∧ Aside0 (w'.heap[gb262]? = some (.cells #[.int .i64 2, .int .i64 2] 27 (0, 0))) ∧ Aside0 (Below w.heap.size w w'))
  case atStart => exact ⟨(([] : List (S51))), (0), (by first | rfl | (simp; done) | (simp [*]; done)), H', ⟨Nat.le_refl _⟩, ⟨by first | exact Kd.S_nil _ _ _ _ _ | exact Kd.N_nil _ _ _ _ _ | exact Kd.V_nil _ _ _ _ _ | exact Kd.Q_nil _ _ _ _ _ | exact Kd.R_nil _ _ _ _ _⟩, ⟨by (with_reducible repeat (first | refine blk_drewN ?_ _ | refine blk_drew ?_ | refine blk_alloc ?_ _)); refine blk_put (cs := #[.int .i64 (wrap64 (1 + (Int.tmod t263 5))), .int .i64 a0_1]) ?_ 1 _ rfl; (with_reducible repeat (first | refine blk_drewN ?_ _ | refine blk_drew ?_ | refine blk_alloc ?_ _)); refine blk_put (cs := #[.int .i64 a0_0, .int .i64 a0_1]) ?_ 0 _ rfl; (with_reducible repeat (first | refine blk_drewN ?_ _ | refine blk_drew ?_ | refine blk_alloc ?_ _)); exact BK259.out⟩, ⟨by (with_reducible repeat (first | refine blk_drewN ?_ _ | refine blk_drew ?_ | refine blk_alloc ?_ _)); refine blk_far ?_ NB260_259.out _; (with_reducible repeat (first | refine blk_drewN ?_ _ | refine blk_drew ?_ | refine blk_alloc ?_ _)); refine blk_far ?_ NB260_259.out _; (with_reducible repeat (first | refine blk_drewN ?_ _ | refine blk_drew ?_ | refine blk_alloc ?_ _)); exact BK260.out⟩, ⟨by (with_reducible repeat (first | refine blk_drewN ?_ _ | refine blk_drew ?_ | refine blk_alloc ?_ _)); refine blk_far ?_ NB261_259.out _; (with_reducible repeat (first | refine blk_drewN ?_ _ | refine blk_drew ?_ | refine blk_alloc ?_ _)); refine blk_far ?_ NB261_259.out _; (with_reducible repeat (first | refine blk_drewN ?_ _ | refine blk_drew ?_ | refine blk_alloc ?_ _)); exact BK261.out⟩, ⟨by (with_reducible repeat (first | refine blk_drewN ?_ _ | refine blk_drew ?_ | refine blk_alloc ?_ _)); refine blk_far ?_ NB262_259.out _; (with_reducible repeat (first | refine blk_drewN ?_ _ | refine blk_drew ?_ | refine blk_alloc ?_ _)); refine blk_far ?_ NB262_259.out _; (with_reducible repeat (first | refine blk_drewN ?_ _ | refine blk_drew ?_ | refine blk_alloc ?_ _)); exact BK262.out⟩, ⟨by repeat (first | (with_reducible first | exact HB.out | apply below_alloc | apply pw_below_drewN | apply below_drew1 | refine below_set ?_ GE259.out | refine below_set ?_ GE260.out | refine below_set ?_ GE261.out | refine below_set ?_ GE262.out) | exact HB.out)⟩⟩
  case round =>
    clear H'
    try clear c1
    try clear p2
    try clear p6
    try clear c7
    try clear c9
    try clear c10
    try clear c11
    try clear hcz12_0
    try clear hcz12_1
    try clear hfz12_0
    try clear hfz12_1
    obtain ⟨x8_1, x9_1, rfl, HA, HK1, HO_8, BK259, BK260, BK261, BK262, HB⟩ := hrel
    cases gk with
    | zero => exact absurd HA.out (by simp [gristmilllaw06_right.l0])
    | succ k1 =>
      have H := HA.out
      clear HA
      simp only [gristmilllaw06_right.l0] at H
      have HC17 := Aside0.mk H
      clear H
      go_upto_region 5 with (fail)
      go_cut [30] (fun v30 wc => ∃ (kq : Nat) (x30_16 : Bool), v30 = .bool x30_16 ∧ Aside0 (gristmilllaw06_right.j1 kq l1 x8_1 x9_1 x30_16 (wrap64 (1 + (Int.tmod t263 5))) (Int.tmod t264 2) 2 2 = some (r1, r2, r3, r4, r5)) ∧ Aside0 (kq ≤ k1) ∧ Aside0 (Kd.S k51 51 wc w.heap.size (fun _ => True) u8 x8_1) ∧ Aside0 (wc.heap[gb259]? = some (.cells #[.int .i64 (wrap64 (1 + (Int.tmod t263 5))), .int .i64 (Int.tmod t264 2)] 23 (0, 0))) ∧ Aside0 (wc.heap[gb260]? = some (.cells #[.int .i64 0, .int .i64 0] 27 (0, 0))) ∧ Aside0 (wc.heap[gb261]? = some (.cells #[.int .i64 0, .int .i64 0] 23 (0, 0))) ∧ Aside0 (wc.heap[gb262]? = some (.cells #[.int .i64 2, .int .i64 2] 27 (0, 0))) ∧ Aside0 (Below w.heap.size w wc))
      case first =>
        have H := HC17.out
        clear HC17
        by_cases c18 : x9_1 < (l1.length : Int)
        · rw [if_pos c18] at H
          have c18b0 : decide (x9_1 < (l1.length : Int)) = true := decide_eq_true c18
          clear c18
          (first | rw [c18b0] | (simp only [i64_w, i32_w]; rw [c18b0]) | skip)
          have H' := Aside0.mk H
          clear H
          go_wp2
          go_meet
          case rel => exact ⟨_, (decide (x9_1 < 40)), (by first | rfl | (simp; done) | (simp [*]; done)), H', ⟨by have := HK1.out; first | omega | exact Nat.le_refl _⟩, ⟨by (with_reducible repeat (first | apply Kd.S_alloc | apply Kd.S_drewN | apply Kd.S_drew)); exact HO_8.out⟩, ⟨by (with_reducible repeat (first | refine blk_drewN ?_ _ | refine blk_drew ?_ | refine blk_alloc ?_ _)); exact BK259.out⟩, ⟨by (with_reducible repeat (first | refine blk_drewN ?_ _ | refine blk_drew ?_ | refine blk_alloc ?_ _)); exact BK260.out⟩, ⟨by (with_reducible repeat (first | refine blk_drewN ?_ _ | refine blk_drew ?_ | refine blk_alloc ?_ _)); exact BK261.out⟩, ⟨by (with_reducible repeat (first | refine blk_drewN ?_ _ | refine blk_drew ?_ | refine blk_alloc ?_ _)); exact BK262.out⟩, ⟨by repeat (first | (with_reducible first | exact HB.out | apply below_alloc | apply pw_below_drewN | apply below_drew1 | refine below_set ?_ GE259.out | refine below_set ?_ GE260.out | refine below_set ?_ GE261.out | refine below_set ?_ GE262.out) | exact HB.out)⟩⟩
        · rw [if_neg c18] at H
          have c18b0 : decide (x9_1 < (l1.length : Int)) = false := decide_eq_false c18
          clear c18
          (first | rw [c18b0] | (simp only [i64_w, i32_w]; rw [c18b0]) | skip)
          have H' := Aside0.mk H
          clear H
          go_wp2
          go_meet
          case rel => exact ⟨_, (false), (by first | rfl | (simp; done) | (simp [*]; done)), H', ⟨by have := HK1.out; first | omega | exact Nat.le_refl _⟩, ⟨by (with_reducible repeat (first | apply Kd.S_alloc | apply Kd.S_drewN | apply Kd.S_drew)); exact HO_8.out⟩, ⟨by (with_reducible repeat (first | refine blk_drewN ?_ _ | refine blk_drew ?_ | refine blk_alloc ?_ _)); exact BK259.out⟩, ⟨by (with_reducible repeat (first | refine blk_drewN ?_ _ | refine blk_drew ?_ | refine blk_alloc ?_ _)); exact BK260.out⟩, ⟨by (with_reducible repeat (first | refine blk_drewN ?_ _ | refine blk_drew ?_ | refine blk_alloc ?_ _)); exact BK261.out⟩, ⟨by (with_reducible repeat (first | refine blk_drewN ?_ _ | refine blk_drew ?_ | refine blk_alloc ?_ _)); exact BK262.out⟩, ⟨by repeat (first | (with_reducible first | exact HB.out | apply below_alloc | apply pw_below_drewN | apply below_drew1 | refine below_set ?_ GE259.out | refine below_set ?_ GE260.out | refine below_set ?_ GE261.out | refine below_set ?_ GE262.out) | exact HB.out)⟩⟩
      case rest =>
        clear HC17
        try clear c1
        try clear p2
        try clear p6
        try clear c7
        try clear c9
        try clear c10
        try clear c11
        try clear c18
        try clear c18b0
        try clear hcz12_0
        try clear hcz12_1
        try clear hfz12_0
        try clear hfz12_1
        try clear p2
        try clear p6
        obtain ⟨kq, x30_16, rfl, HA, HJ16, HO_8, BK259, BK260, BK261, BK262, HB⟩ := hcut
        cases kq with
        | zero => exact absurd HA.out (by simp [gristmilllaw06_right.j1])
        | succ kj16 =>
          have H := HA.out
          clear HA
          simp only [gristmilllaw06_right.j1] at H
          by_cases c19 : x30_16 = true
          · subst c19
            have H1 : (if 0 ≤ x9_1 then (if x9_1 < (l1.length : Int) then (gristmilllaw06_right.l1 kj16 l1 x8_1 x9_1 0 (wrap64 (1 + (Int.tmod t263 5))) (Int.tmod t264 2) 2 2 ((rd_T51 l1 x9_1).f0.f0) (([(⟨#[]⟩ : ByteArray), (⟨#[]⟩ : ByteArray)] : List ByteArray)) (([0, 0] : List Int))) else (none)) else (none)) = some (r1, r2, r3, r4, r5) := by rw [if_pos rfl] at H; exact H
            clear H
            have H := H1
            clear H1
            by_cases c20 : 0 ≤ x9_1
            · rw [if_pos c20] at H
              have c20b0 : decide (0 ≤ x9_1) = true := decide_eq_true c20
              clear c20
              by_cases c21 : x9_1 < (l1.length : Int)
              · rw [if_pos c21] at H
                have c21b0 : decide (x9_1 < (l1.length : Int)) = true := decide_eq_true c21
                clear c21
                obtain ⟨y266, hy266⟩ : ∃ y_ : List ByteArray, y_ = (([(⟨#[]⟩ : ByteArray), (⟨#[]⟩ : ByteArray)] : List ByteArray)) := ⟨_, rfl⟩
                replace H : (gristmilllaw06_right.l1 kj16 l1 x8_1 x9_1 0 (wrap64 (1 + (Int.tmod t263 5))) (Int.tmod t264 2) 2 2 ((rd_T51 l1 x9_1).f0.f0) y266 (([0, 0] : List Int))) = some (r1, r2, r3, r4, r5) := by first | (rw [hy266]; with_reducible exact H) | (have H2_ := (Option.bind_some _ _).symm.trans H; rw [hy266]; with_reducible exact H2_) | (have H2_ := (Option.bind_some _ _).symm.trans H; with_reducible exact H2_) | with_reducible exact H | (rw [hy266]; exact H) | exact H
                have Ny266 := Aside0.mk hy266
                clear hy266
                obtain ⟨y269, hy269⟩ : ∃ y_ : List Int, y_ = (([0, 0] : List Int)) := ⟨_, rfl⟩
                replace H : (gristmilllaw06_right.l1 kj16 l1 x8_1 x9_1 0 (wrap64 (1 + (Int.tmod t263 5))) (Int.tmod t264 2) 2 2 ((rd_T51 l1 x9_1).f0.f0) y266 y269) = some (r1, r2, r3, r4, r5) := by first | (rw [hy269]; with_reducible exact H) | (have H2_ := (Option.bind_some _ _).symm.trans H; rw [hy269]; with_reducible exact H2_) | (have H2_ := (Option.bind_some _ _).symm.trans H; with_reducible exact H2_) | with_reducible exact H | (rw [hy269]; exact H) | exact H
                have Ny269 := Aside0.mk hy269
                clear hy269
                have H' := Aside0.mk H
                clear H
                have p265 : 0 ≤ (x9_1 : Int) := of_decide_eq_true (by first | (with_reducible assumption) | assumption)
                have q265 : x9_1 < (l1.length : Int) := of_decide_eq_true (by first | (with_reducible assumption) | assumption)
                obtain ⟨ad265, A265_1, c265_1, A265_2, c265_2, e265, hx265_0, hx265_1, hx265_2, hx265_3, hl265_1, hi265_1, hl265_2, hi265_2⟩ := at_T51 HR1.out x9_1 p265 q265
                cases e265
                replace hx265_0 := (HB.out.cell (World.block_lt_of_cell? w _ hx265_0)).trans hx265_0
                replace hx265_1 := (HB.out.cell (World.block_lt_of_cell? w _ hx265_1)).trans hx265_1
                replace hx265_2 := (HB.out.cell (World.block_lt_of_cell? w _ hx265_2)).trans hx265_2
                replace hx265_3 := (HB.out.cell (World.block_lt_of_cell? w _ hx265_3)).trans hx265_3
                have HR265_1 := Aside0.mk hi265_1
                have HC265_1 := Aside0.mk hl265_1
                clear hi265_1 hl265_1
                have HR265_2 := Aside0.mk hi265_2
                have HC265_2 := Aside0.mk hl265_2
                clear hi265_2 hl265_2
                replace p265 := eq_true p265
                replace q265 := eq_true q265
                go_wp2_with (first | ((with_reducible refine gate_dst (N := 39) rfl ?_); (try (refine gate_guard (by rfl) ?_; dsimp only)); refine Kd.R_lit Kd.string _ 9 ?hg (N := 39) ?hd (xs := ([(⟨#[]⟩ : ByteArray), (⟨#[]⟩ : ByteArray)] : List ByteArray)) (inner := [.string (⟨#[]⟩ : ByteArray), .string (⟨#[]⟩ : ByteArray)]) (ok := fun _ => True) (okp := fun _ => True) ?hr ?hp (fun _ hk => hk) trivial (Below.refl _ _) (Nat.le_refl _) (by simp) ?_; (case hd => rfl); (case hg => rfl); (case hr => first | (go_simp; done) | (go_simp; rfl)); (case hp => exact (Reps.one (show Kd.M Kd.string _ _ _ (⟨#[]⟩ : ByteArray) [.string (⟨#[]⟩ : ByteArray)] from rfl) (Reps.one (show Kd.M Kd.string _ _ _ (⟨#[]⟩ : ByteArray) [.string (⟨#[]⟩ : ByteArray)] from rfl) (Reps.none _ _)))); intro v267 w22 ho23 hb hg_ hnew_; clear hg_ hnew_; (first | rw [← Ny266.out] at ho23 | (simp only [Int.reduceToNat] at ho23; rw [← Ny266.out] at ho23)); have n0_ := Aside0.mk (Kd.S_elder' (by (with_reducible repeat (first | apply Kd.S_alloc | apply Kd.S_drewN | apply Kd.S_drew)); exact HO_8.out) (Kd.R_base ho23) hb); have n1_ := Aside0.mk (Kd.R_lower ho23 (below_size (by repeat (first | (with_reducible first | exact HB.out | apply below_alloc | apply pw_below_drewN | apply below_drew1 | refine below_set ?_ GE259.out | refine below_set ?_ GE260.out | refine below_set ?_ GE261.out | refine below_set ?_ GE262.out) | exact HB.out)))); have n2_ := Aside0.mk (blk_below (g := gb259) (o := .cells #[.int .i64 (wrap64 (1 + (Int.tmod t263 5))), .int .i64 (Int.tmod t264 2)] 23 (0, 0)) (by (with_reducible repeat (first | refine blk_drewN ?_ _ | refine blk_drew ?_ | refine blk_alloc ?_ _)); exact BK259.out) hb); have n3_ := Aside0.mk (blk_below (g := gb260) (o := .cells #[.int .i64 0, .int .i64 0] 27 (0, 0)) (by (with_reducible repeat (first | refine blk_drewN ?_ _ | refine blk_drew ?_ | refine blk_alloc ?_ _)); exact BK260.out) hb); have n4_ := Aside0.mk (blk_below (g := gb261) (o := .cells #[.int .i64 0, .int .i64 0] 23 (0, 0)) (by (with_reducible repeat (first | refine blk_drewN ?_ _ | refine blk_drew ?_ | refine blk_alloc ?_ _)); exact BK261.out) hb); have n5_ := Aside0.mk (blk_below (g := gb262) (o := .cells #[.int .i64 2, .int .i64 2] 27 (0, 0)) (by (with_reducible repeat (first | refine blk_drewN ?_ _ | refine blk_drew ?_ | refine blk_alloc ?_ _)); exact BK262.out) hb); have n6_ := Aside0.mk (below_step (by repeat (first | (with_reducible first | exact HB.out | apply below_alloc | apply pw_below_drewN | apply below_drew1 | refine below_set ?_ GE259.out | refine below_set ?_ GE260.out | refine below_set ?_ GE261.out | refine below_set ?_ GE262.out) | exact HB.out)) hb); clear HO_8; clear BK259; clear BK260; clear BK261; clear BK262; clear HB; have HO_8 := n0_; have HO268 := n1_; have BK259 := n2_; have BK260 := n3_; have BK261 := n4_; have BK262 := n5_; have HB := n6_; clear n0_ n1_ n2_ n3_ n4_ n5_ n6_; clear hb ho23) | ((with_reducible refine gate_dst (N := 40) rfl ?_); (try (refine gate_guard (by rfl) ?_; dsimp only)); refine Kd.R_lit (Kd.int .i64) _ 2 ?hg (N := 40) ?hd (xs := ([0, 0] : List Int)) (inner := [.int .i64 0, .int .i64 0]) (ok := fun _ => True) (okp := fun _ => True) ?hr ?hp (fun _ hk => hk) trivial (Below.refl _ _) (Nat.le_refl _) (by simp) ?_; (case hd => rfl); (case hg => rfl); (case hr => first | (go_simp; done) | (go_simp; rfl)); (case hp => exact (Reps.one (show Kd.M (Kd.int .i64) _ _ _ 0 [.int .i64 0] from rfl) (Reps.one (show Kd.M (Kd.int .i64) _ _ _ 0 [.int .i64 0] from rfl) (Reps.none _ _)))); intro v270 w24 ho25 hb hg_ hnew_; clear hg_ hnew_; (first | rw [← Ny269.out] at ho25 | (simp only [Int.reduceToNat] at ho25; rw [← Ny269.out] at ho25)); have n0_ := Aside0.mk (Kd.S_elder' (by (with_reducible repeat (first | apply Kd.S_alloc | apply Kd.S_drewN | apply Kd.S_drew)); exact HO_8.out) (Kd.R_base ho25) hb); have n1_ := Aside0.mk (Kd.R_below (by (with_reducible repeat (first | apply Kd.R_alloc | apply Kd.R_drewN | apply Kd.R_drew)); exact HO268.out) hb); have n2_ := Aside0.mk (Kd.R_lower ho25 (below_size (by repeat (first | (with_reducible first | exact HB.out | apply below_alloc | apply pw_below_drewN | apply below_drew1 | refine below_set ?_ GE259.out | refine below_set ?_ GE260.out | refine below_set ?_ GE261.out | refine below_set ?_ GE262.out) | exact HB.out)))); have n3_ := Aside0.mk (blk_below (g := gb259) (o := .cells #[.int .i64 (wrap64 (1 + (Int.tmod t263 5))), .int .i64 (Int.tmod t264 2)] 23 (0, 0)) (by (with_reducible repeat (first | refine blk_drewN ?_ _ | refine blk_drew ?_ | refine blk_alloc ?_ _)); exact BK259.out) hb); have n4_ := Aside0.mk (blk_below (g := gb260) (o := .cells #[.int .i64 0, .int .i64 0] 27 (0, 0)) (by (with_reducible repeat (first | refine blk_drewN ?_ _ | refine blk_drew ?_ | refine blk_alloc ?_ _)); exact BK260.out) hb); have n5_ := Aside0.mk (blk_below (g := gb261) (o := .cells #[.int .i64 0, .int .i64 0] 23 (0, 0)) (by (with_reducible repeat (first | refine blk_drewN ?_ _ | refine blk_drew ?_ | refine blk_alloc ?_ _)); exact BK261.out) hb); have n6_ := Aside0.mk (blk_below (g := gb262) (o := .cells #[.int .i64 2, .int .i64 2] 27 (0, 0)) (by (with_reducible repeat (first | refine blk_drewN ?_ _ | refine blk_drew ?_ | refine blk_alloc ?_ _)); exact BK262.out) hb); have n7_ := Aside0.mk (below_step (by repeat (first | (with_reducible first | exact HB.out | apply below_alloc | apply pw_below_drewN | apply below_drew1 | refine below_set ?_ GE259.out | refine below_set ?_ GE260.out | refine below_set ?_ GE261.out | refine below_set ?_ GE262.out) | exact HB.out)) hb); clear HO_8; clear HO268; clear BK259; clear BK260; clear BK261; clear BK262; clear HB; have HO_8 := n0_; have HO268 := n1_; have HO271 := n2_; have BK259 := n3_; have BK260 := n4_; have BK261 := n5_; have BK262 := n6_; have HB := n7_; clear n0_ n1_ n2_ n3_ n4_ n5_ n6_ n7_; clear hb ho25; obtain ⟨Ao26, co26, eo26⟩ := Kd.R_slice HO271.out; subst eo26; obtain ⟨Ao27, co27, eo27⟩ := Kd.R_slice HO268.out; subst eo27) | ((with_reducible refine gate_dst (N := 10) rfl ?_); (try (refine gate_guard (by rfl) ?_; dsimp only)); refine box_event ?hg (N := 10) ?hd (cs := #[.int .i64 0, .slice none 0 0, .slice none 0 0]) (t := 45) ?hr ?_; (case hd => rfl); (case hg => rfl); (case hr => first | (go_simp; done) | (go_simp; rfl)); intro gb272 hg w28 hbox hb; have n0_ := Aside0.mk (Kd.S_below (by (with_reducible repeat (first | apply Kd.S_alloc | apply Kd.S_drewN | apply Kd.S_drew)); exact HO_8.out) hb); have n1_ := Aside0.mk (Kd.R_below (by (with_reducible repeat (first | apply Kd.R_alloc | apply Kd.R_drewN | apply Kd.R_drew)); exact HO268.out) hb); have n2_ := Aside0.mk (Kd.R_below (by (with_reducible repeat (first | apply Kd.R_alloc | apply Kd.R_drewN | apply Kd.R_drew)); exact HO271.out) hb); have n3_ := Aside0.mk (blk_below (g := gb259) (o := .cells #[.int .i64 (wrap64 (1 + (Int.tmod t263 5))), .int .i64 (Int.tmod t264 2)] 23 (0, 0)) (by (with_reducible repeat (first | refine blk_drewN ?_ _ | refine blk_drew ?_ | refine blk_alloc ?_ _)); exact BK259.out) hb); have n4_ := Aside0.mk (blk_below (g := gb260) (o := .cells #[.int .i64 0, .int .i64 0] 27 (0, 0)) (by (with_reducible repeat (first | refine blk_drewN ?_ _ | refine blk_drew ?_ | refine blk_alloc ?_ _)); exact BK260.out) hb); have n5_ := Aside0.mk (blk_below (g := gb261) (o := .cells #[.int .i64 0, .int .i64 0] 23 (0, 0)) (by (with_reducible repeat (first | refine blk_drewN ?_ _ | refine blk_drew ?_ | refine blk_alloc ?_ _)); exact BK261.out) hb); have n6_ := Aside0.mk (blk_below (g := gb262) (o := .cells #[.int .i64 2, .int .i64 2] 27 (0, 0)) (by (with_reducible repeat (first | refine blk_drewN ?_ _ | refine blk_drew ?_ | refine blk_alloc ?_ _)); exact BK262.out) hb); have n7_ := Aside0.mk (below_step (by repeat (first | (with_reducible first | exact HB.out | apply below_alloc | apply pw_below_drewN | apply below_drew1 | refine below_set ?_ GE259.out | refine below_set ?_ GE260.out | refine below_set ?_ GE261.out | refine below_set ?_ GE262.out) | exact HB.out)) hb); have n8_ := Aside0.mk (hbox); have n9_ := Aside0.mk ((by rw [hg]; exact (below_size (by repeat (first | (with_reducible first | exact HB.out | apply below_alloc | apply pw_below_drewN | apply below_drew1 | refine below_set ?_ GE259.out | refine below_set ?_ GE260.out | refine below_set ?_ GE261.out | refine below_set ?_ GE262.out) | exact HB.out))) : w.heap.size ≤ gb272)); have n10_ := Aside0.mk ((by rw [hg]; exact (below_size (by repeat (first | (with_reducible first | exact HB.out | apply below_alloc | apply pw_below_drewN | apply below_drew1 | refine below_set ?_ GE259.out | refine below_set ?_ GE260.out | refine below_set ?_ GE261.out | refine below_set ?_ GE262.out) | exact HB.out))) : w.heap.size ≤ gb272)); have n11_ := Aside0.mk ((by rw [hg]; exact Nat.ne_of_lt (blk_lt (g := gb259) (o := .cells #[.int .i64 (wrap64 (1 + (Int.tmod t263 5))), .int .i64 (Int.tmod t264 2)] 23 (0, 0)) (by (with_reducible repeat (first | refine blk_drewN ?_ _ | refine blk_drew ?_ | refine blk_alloc ?_ _)); exact BK259.out)) : gb259 ≠ gb272)); have n12_ := Aside0.mk ((by rw [hg]; exact Nat.ne_of_gt (blk_lt (g := gb259) (o := .cells #[.int .i64 (wrap64 (1 + (Int.tmod t263 5))), .int .i64 (Int.tmod t264 2)] 23 (0, 0)) (by (with_reducible repeat (first | refine blk_drewN ?_ _ | refine blk_drew ?_ | refine blk_alloc ?_ _)); exact BK259.out)) : gb272 ≠ gb259)); have n13_ := Aside0.mk ((by rw [hg]; exact Nat.ne_of_lt (blk_lt (g := gb260) (o := .cells #[.int .i64 0, .int .i64 0] 27 (0, 0)) (by (with_reducible repeat (first | refine blk_drewN ?_ _ | refine blk_drew ?_ | refine blk_alloc ?_ _)); exact BK260.out)) : gb260 ≠ gb272)); have n14_ := Aside0.mk ((by rw [hg]; exact Nat.ne_of_gt (blk_lt (g := gb260) (o := .cells #[.int .i64 0, .int .i64 0] 27 (0, 0)) (by (with_reducible repeat (first | refine blk_drewN ?_ _ | refine blk_drew ?_ | refine blk_alloc ?_ _)); exact BK260.out)) : gb272 ≠ gb260)); have n15_ := Aside0.mk ((by rw [hg]; exact Nat.ne_of_lt (blk_lt (g := gb261) (o := .cells #[.int .i64 0, .int .i64 0] 23 (0, 0)) (by (with_reducible repeat (first | refine blk_drewN ?_ _ | refine blk_drew ?_ | refine blk_alloc ?_ _)); exact BK261.out)) : gb261 ≠ gb272)); have n16_ := Aside0.mk ((by rw [hg]; exact Nat.ne_of_gt (blk_lt (g := gb261) (o := .cells #[.int .i64 0, .int .i64 0] 23 (0, 0)) (by (with_reducible repeat (first | refine blk_drewN ?_ _ | refine blk_drew ?_ | refine blk_alloc ?_ _)); exact BK261.out)) : gb272 ≠ gb261)); have n17_ := Aside0.mk ((by rw [hg]; exact Nat.ne_of_lt (blk_lt (g := gb262) (o := .cells #[.int .i64 2, .int .i64 2] 27 (0, 0)) (by (with_reducible repeat (first | refine blk_drewN ?_ _ | refine blk_drew ?_ | refine blk_alloc ?_ _)); exact BK262.out)) : gb262 ≠ gb272)); have n18_ := Aside0.mk ((by rw [hg]; exact Nat.ne_of_gt (blk_lt (g := gb262) (o := .cells #[.int .i64 2, .int .i64 2] 27 (0, 0)) (by (with_reducible repeat (first | refine blk_drewN ?_ _ | refine blk_drew ?_ | refine blk_alloc ?_ _)); exact BK262.out)) : gb272 ≠ gb262)); clear HO_8; clear HO268; clear HO271; clear BK259; clear BK260; clear BK261; clear BK262; clear HB; have HO_8 := n0_; have HO268 := n1_; have HO271 := n2_; have BK259 := n3_; have BK260 := n4_; have BK261 := n5_; have BK262 := n6_; have HB := n7_; have BK272 := n8_; have GW272 := n9_; have GE272 := n10_; have NB259_272 := n11_; have NB272_259 := n12_; have NB260_272 := n13_; have NB272_260 := n14_; have NB261_272 := n15_; have NB272_261 := n16_; have NB262_272 := n17_; have NB272_262 := n18_; clear n0_ n1_ n2_ n3_ n4_ n5_ n6_ n7_ n8_ n9_ n10_ n11_ n12_ n13_ n14_ n15_ n16_ n17_ n18_; clear hb hbox hg; have hnb29 := NB272_259.out; have hnc29 := NB259_272.out; have hnb30 := NB272_260.out; have hnc30 := NB260_272.out; have hnb31 := NB272_261.out; have hnc31 := NB261_272.out; have hnb32 := NB272_262.out; have hnc32 := NB262_272.out; have hcz33_0 : w28.cell? ⟨gb272, 0, none⟩ = some (.int .i64 0) := (blk_cell BK272.out 0).trans rfl; have hcz33_1 : w28.cell? ⟨gb272, 1, none⟩ = some (.slice none 0 0) := (blk_cell BK272.out 1).trans rfl; have hcz33_2 : w28.cell? ⟨gb272, 2, none⟩ = some (.slice none 0 0) := (blk_cell BK272.out 2).trans rfl; have hfz33_0 := blk_frozen BK272.out 0; have hfz33_1 := blk_frozen BK272.out 1; have hfz33_2 := blk_frozen BK272.out 2))
                go_loopg [11] kj16 (fun kq v11 w' => ∃ (x11_3 : Int) (x273001_3 : List ByteArray) (x273002_3 : List Int) (u273001 : Value) (u273002 : Value), v11 = .int .i64 x11_3 ∧ Aside0 (gristmilllaw06_right.l1 kq l1 x8_1 x9_1 x11_3 (wrap64 (1 + (Int.tmod t263 5))) (Int.tmod t264 2) 2 2 ((rd_T51 l1 x9_1).f0.f0) x273001_3 x273002_3 = some (r1, r2, r3, r4, r5)) ∧ Aside0 (kq ≤ kj16) ∧ Aside0 (Kd.S k51 51 w' w.heap.size (fun k_ => some k_ ≠ (u273001 : Value).ownBlock ∧ some k_ ≠ (u273002 : Value).ownBlock) u8 x8_1) ∧ Aside0 (Kd.R Kd.string 9 w' w.heap.size (fun _ => True) u273001 x273001_3) ∧ Aside0 (Kd.R (Kd.int .i64) 2 w' w.heap.size (fun _ => True) u273002 x273002_3) ∧ Aside0 (w'.heap[gb259]? = some (.cells #[.int .i64 (wrap64 (1 + (Int.tmod t263 5))), .int .i64 (Int.tmod t264 2)] 23 (0, 0))) ∧ Aside0 (w'.heap[gb260]? = some (.cells #[.int .i64 0, .int .i64 0] 27 (0, 0))) ∧ Aside0 (w'.heap[gb261]? = some (.cells #[.int .i64 0, .int .i64 0] 23 (0, 0))) ∧ Aside0 (w'.heap[gb262]? = some (.cells #[.int .i64 2, .int .i64 2] 27 (0, 0))) ∧ Aside0 (w'.heap[gb272]? = some (.cells #[.int .i64 ((rd_T51 l1 x9_1).f0.f0), u273001, u273002] 45 (0, 0))) ∧ Aside0 (Below w.heap.size w w'))
                case atStart => exact ⟨(0), (y266), (y269), (.slice Ao27 y266.length co27), (.slice Ao26 y269.length co26), (by first | rfl | (simp; done) | (simp [*]; done)), H', ⟨Nat.le_refl _⟩, ⟨by (with_reducible repeat (first | apply Kd.S_alloc | apply Kd.S_drewN | apply Kd.S_drew)); exact Kd.S_mono (Kd.S_far (p := ⟨gb272, 2, none⟩) (Kd.S_far (p := ⟨gb272, 1, none⟩) (Kd.S_far (p := ⟨gb272, 0, none⟩) (Kd.S_types HO_8.out BK272.out (by decide)) (fun _ hk => hk.2) (.int .i64 ((rd_T51 l1 x9_1).f0.f0))) (fun _ hk => hk.2) (.slice Ao27 y266.length co27)) (fun _ hk => hk.2) (.slice Ao26 y269.length co26)) (fun _ hk => ⟨hk.1.1.2, hk.1.2⟩)⟩, ⟨by (with_reducible repeat (first | apply Kd.R_alloc | apply Kd.R_drewN | apply Kd.R_drew)); exact Kd.R_mono (Kd.R_far (p := ⟨gb272, 2, none⟩) (Kd.R_far (p := ⟨gb272, 1, none⟩) (Kd.R_far (p := ⟨gb272, 0, none⟩) (Kd.R_types HO268.out BK272.out (by decide)) (fun _ hk => hk.2) (.int .i64 ((rd_T51 l1 x9_1).f0.f0))) (fun _ hk => hk.2) (.slice Ao27 y266.length co27)) (fun _ hk => hk.2) (.slice Ao26 y269.length co26)) (fun _ hk => trivial)⟩, ⟨by (with_reducible repeat (first | apply Kd.R_alloc | apply Kd.R_drewN | apply Kd.R_drew)); exact Kd.R_mono (Kd.R_far (p := ⟨gb272, 2, none⟩) (Kd.R_far (p := ⟨gb272, 1, none⟩) (Kd.R_far (p := ⟨gb272, 0, none⟩) (Kd.R_types HO271.out BK272.out (by decide)) (fun _ hk => hk.2) (.int .i64 ((rd_T51 l1 x9_1).f0.f0))) (fun _ hk => hk.2) (.slice Ao27 y266.length co27)) (fun _ hk => hk.2) (.slice Ao26 y269.length co26)) (fun _ hk => trivial)⟩, ⟨by (with_reducible repeat (first | refine blk_drewN ?_ _ | refine blk_drew ?_ | refine blk_alloc ?_ _)); refine blk_far ?_ NB259_272.out _; (with_reducible repeat (first | refine blk_drewN ?_ _ | refine blk_drew ?_ | refine blk_alloc ?_ _)); refine blk_far ?_ NB259_272.out _; (with_reducible repeat (first | refine blk_drewN ?_ _ | refine blk_drew ?_ | refine blk_alloc ?_ _)); refine blk_far ?_ NB259_272.out _; (with_reducible repeat (first | refine blk_drewN ?_ _ | refine blk_drew ?_ | refine blk_alloc ?_ _)); exact BK259.out⟩, ⟨by (with_reducible repeat (first | refine blk_drewN ?_ _ | refine blk_drew ?_ | refine blk_alloc ?_ _)); refine blk_far ?_ NB260_272.out _; (with_reducible repeat (first | refine blk_drewN ?_ _ | refine blk_drew ?_ | refine blk_alloc ?_ _)); refine blk_far ?_ NB260_272.out _; (with_reducible repeat (first | refine blk_drewN ?_ _ | refine blk_drew ?_ | refine blk_alloc ?_ _)); refine blk_far ?_ NB260_272.out _; (with_reducible repeat (first | refine blk_drewN ?_ _ | refine blk_drew ?_ | refine blk_alloc ?_ _)); exact BK260.out⟩, ⟨by (with_reducible repeat (first | refine blk_drewN ?_ _ | refine blk_drew ?_ | refine blk_alloc ?_ _)); refine blk_far ?_ NB261_272.out _; (with_reducible repeat (first | refine blk_drewN ?_ _ | refine blk_drew ?_ | refine blk_alloc ?_ _)); refine blk_far ?_ NB261_272.out _; (with_reducible repeat (first | refine blk_drewN ?_ _ | refine blk_drew ?_ | refine blk_alloc ?_ _)); refine blk_far ?_ NB261_272.out _; (with_reducible repeat (first | refine blk_drewN ?_ _ | refine blk_drew ?_ | refine blk_alloc ?_ _)); exact BK261.out⟩, ⟨by (with_reducible repeat (first | refine blk_drewN ?_ _ | refine blk_drew ?_ | refine blk_alloc ?_ _)); refine blk_far ?_ NB262_272.out _; (with_reducible repeat (first | refine blk_drewN ?_ _ | refine blk_drew ?_ | refine blk_alloc ?_ _)); refine blk_far ?_ NB262_272.out _; (with_reducible repeat (first | refine blk_drewN ?_ _ | refine blk_drew ?_ | refine blk_alloc ?_ _)); refine blk_far ?_ NB262_272.out _; (with_reducible repeat (first | refine blk_drewN ?_ _ | refine blk_drew ?_ | refine blk_alloc ?_ _)); exact BK262.out⟩, ⟨by (with_reducible repeat (first | refine blk_drewN ?_ _ | refine blk_drew ?_ | refine blk_alloc ?_ _)); refine blk_put (cs := #[.int .i64 ((rd_T51 l1 x9_1).f0.f0), .slice Ao27 y266.length co27, .slice none 0 0]) ?_ 2 _ rfl; (with_reducible repeat (first | refine blk_drewN ?_ _ | refine blk_drew ?_ | refine blk_alloc ?_ _)); refine blk_put (cs := #[.int .i64 ((rd_T51 l1 x9_1).f0.f0), .slice none 0 0, .slice none 0 0]) ?_ 1 _ rfl; (with_reducible repeat (first | refine blk_drewN ?_ _ | refine blk_drew ?_ | refine blk_alloc ?_ _)); refine blk_put (cs := #[.int .i64 0, .slice none 0 0, .slice none 0 0]) ?_ 0 _ rfl; (with_reducible repeat (first | refine blk_drewN ?_ _ | refine blk_drew ?_ | refine blk_alloc ?_ _)); exact BK272.out⟩, ⟨by repeat (first | (with_reducible first | exact HB.out | apply below_alloc | apply pw_below_drewN | apply below_drew1 | refine below_set ?_ GE259.out | refine below_set ?_ GE260.out | refine below_set ?_ GE261.out | refine below_set ?_ GE262.out | refine below_set ?_ GE272.out) | exact HB.out)⟩⟩
                case round =>
                  clear H'
                  try clear c1
                  try clear c2
                  try clear p2
                  try clear q2
                  try clear hx2
                  try clear c3
                  try clear p6
                  try clear c7
                  try clear c9
                  try clear c10
                  try clear c11
                  try clear c18
                  try clear c18b0
                  try clear c19
                  try clear c20
                  try clear c20b0
                  try clear c21
                  try clear c21b0
                  try clear c26
                  try clear p26
                  try clear q26
                  try clear hx26
                  try clear c29
                  try clear c30
                  try clear c31
                  try clear c32
                  try clear hcz12_0
                  try clear hcz12_1
                  try clear hcz33_0
                  try clear hcz33_1
                  try clear hcz33_2
                  try clear hfz12_0
                  try clear hfz12_1
                  try clear hfz33_0
                  try clear hfz33_1
                  try clear hfz33_2
                  try clear hx265_0
                  try clear hx265_1
                  try clear hx265_2
                  try clear hx265_3
                  try clear p2
                  try clear p265
                  try clear p6
                  try clear q265
                  obtain ⟨x11_3, x273001_3, x273002_3, u273001, u273002, rfl, HA, HK3, HO_8, HO_273001, HO_273002, BK259, BK260, BK261, BK262, BK272, HB⟩ := hrel
                  cases gk with
                  | zero => exact absurd HA.out (by simp [gristmilllaw06_right.l1])
                  | succ k3 =>
                    have H := HA.out
                    clear HA
                    simp only [gristmilllaw06_right.l1] at H
                    by_cases c34 : x11_3 < 2
                    · rw [if_pos c34] at H
                      have c34b0 : decide (x11_3 < 2) = true := decide_eq_true c34
                      clear c34
                      have HC35 := Aside0.mk H
                      clear H
                      go_upto_region 11 with (fail)
                      go_cut [67] (fun v67 wc => ∃ (kq : Nat) (x67_34 : Bool), v67 = .bool x67_34 ∧ Aside0 (gristmilllaw06_right.j3 kq l1 x8_1 x9_1 x11_3 x67_34 (wrap64 (1 + (Int.tmod t263 5))) (Int.tmod t264 2) 2 2 ((rd_T51 l1 x9_1).f0.f0) x273001_3 x273002_3 = some (r1, r2, r3, r4, r5)) ∧ Aside0 (kq ≤ k3) ∧ Aside0 (Kd.S k51 51 wc w.heap.size (fun k_ => some k_ ≠ (u273001 : Value).ownBlock ∧ some k_ ≠ (u273002 : Value).ownBlock) u8 x8_1) ∧ Aside0 (Kd.R Kd.string 9 wc w.heap.size (fun _ => True) u273001 x273001_3) ∧ Aside0 (Kd.R (Kd.int .i64) 2 wc w.heap.size (fun _ => True) u273002 x273002_3) ∧ Aside0 (wc.heap[gb259]? = some (.cells #[.int .i64 (wrap64 (1 + (Int.tmod t263 5))), .int .i64 (Int.tmod t264 2)] 23 (0, 0))) ∧ Aside0 (wc.heap[gb260]? = some (.cells #[.int .i64 0, .int .i64 0] 27 (0, 0))) ∧ Aside0 (wc.heap[gb261]? = some (.cells #[.int .i64 0, .int .i64 0] 23 (0, 0))) ∧ Aside0 (wc.heap[gb262]? = some (.cells #[.int .i64 2, .int .i64 2] 27 (0, 0))) ∧ Aside0 (wc.heap[gb272]? = some (.cells #[.int .i64 ((rd_T51 l1 x9_1).f0.f0), u273001, u273002] 45 (0, 0))) ∧ Aside0 (Below w.heap.size w wc))
                      case first =>
                        have H := HC35.out
                        clear HC35
                        by_cases c36 : 0 ≤ x9_1
                        · rw [if_pos c36] at H
                          have c36b0 : decide (0 ≤ x9_1) = true := decide_eq_true c36
                          clear c36
                          (first | rw [c36b0] | (simp only [i64_w, i32_w]; rw [c36b0]) | skip)
                          by_cases c37 : x9_1 < (l1.length : Int)
                          · rw [if_pos c37] at H
                            have c37b0 : decide (x9_1 < (l1.length : Int)) = true := decide_eq_true c37
                            clear c37
                            by_cases c38 : x11_3 < (((rd_T51 l1 x9_1).f0.f1).length : Int)
                            · rw [if_pos c38] at H
                              have c38b0 : decide (x11_3 < (((rd_T51 l1 x9_1).f0.f1).length : Int)) = true := decide_eq_true c38
                              clear c38
                              by_cases c39 : 0 ≤ x11_3
                              · rw [if_pos c39] at H
                                have c39b0 : decide (0 ≤ x11_3) = true := decide_eq_true c39
                                clear c39
                                have H' := Aside0.mk H
                                clear H
                                have p277 : 0 ≤ (x9_1 : Int) := of_decide_eq_true (by first | (with_reducible assumption) | assumption)
                                have q277 : x9_1 < (l1.length : Int) := of_decide_eq_true (by first | (with_reducible assumption) | assumption)
                                obtain ⟨ad277, A277_1, c277_1, A277_2, c277_2, e277, hx277_0, hx277_1, hx277_2, hx277_3, hl277_1, hi277_1, hl277_2, hi277_2⟩ := at_T51 HR1.out x9_1 p277 q277
                                obtain rfl : ad265 = ad277 := (by injection e277)
                                replace hx277_0 := (HB.out.cell (World.block_lt_of_cell? w _ hx277_0)).trans hx277_0
                                replace hx277_1 := (HB.out.cell (World.block_lt_of_cell? w _ hx277_1)).trans hx277_1
                                replace hx277_2 := (HB.out.cell (World.block_lt_of_cell? w _ hx277_2)).trans hx277_2
                                replace hx277_3 := (HB.out.cell (World.block_lt_of_cell? w _ hx277_3)).trans hx277_3
                                have HR277_1 := Aside0.mk hi277_1
                                have HC277_1 := Aside0.mk hl277_1
                                clear hi277_1 hl277_1
                                have HR277_2 := Aside0.mk hi277_2
                                have HC277_2 := Aside0.mk hl277_2
                                clear hi277_2 hl277_2
                                replace p277 := eq_true p277
                                replace q277 := eq_true q277
                                have p278 : 0 ≤ (x9_1 : Int) := of_decide_eq_true (by first | (with_reducible assumption) | assumption)
                                have q278 : x9_1 < (l1.length : Int) := of_decide_eq_true (by first | (with_reducible assumption) | assumption)
                                obtain ⟨ad278, A278_1, c278_1, A278_2, c278_2, e278, hx278_0, hx278_1, hx278_2, hx278_3, hl278_1, hi278_1, hl278_2, hi278_2⟩ := at_T51 HR1.out x9_1 p278 q278
                                obtain rfl : ad265 = ad278 := (by injection e278)
                                replace hx278_0 := (HB.out.cell (World.block_lt_of_cell? w _ hx278_0)).trans hx278_0
                                replace hx278_1 := (HB.out.cell (World.block_lt_of_cell? w _ hx278_1)).trans hx278_1
                                replace hx278_2 := (HB.out.cell (World.block_lt_of_cell? w _ hx278_2)).trans hx278_2
                                replace hx278_3 := (HB.out.cell (World.block_lt_of_cell? w _ hx278_3)).trans hx278_3
                                have HR278_1 := Aside0.mk hi278_1
                                have HC278_1 := Aside0.mk hl278_1
                                clear hi278_1 hl278_1
                                have HR278_2 := Aside0.mk hi278_2
                                have HC278_2 := Aside0.mk hl278_2
                                clear hi278_2 hl278_2
                                replace p278 := eq_true p278
                                replace q278 := eq_true q278
                                have ea_ := Option.some.inj (hx277_1.symm.trans hx278_1)
                                injection ea_ with ea_ en_ ec_
                                subst ea_
                                subst ec_
                                clear en_
                                have ea_ := Option.some.inj (hx277_2.symm.trans hx278_2)
                                injection ea_ with ea_ en_ ec_
                                subst ea_
                                subst ec_
                                clear en_
                                have p279 : 0 ≤ (x11_3 : Int) := of_decide_eq_true (by first | (with_reducible assumption) | assumption)
                                have q279 : x11_3 < (((rd_T51 l1 x9_1).f0.f1).length : Int) := of_decide_eq_true (by first | (with_reducible assumption) | assumption)
                                obtain ⟨ad279, e279, hx279_0⟩ := Kd.at_string HR278_1.out x11_3 p279 q279
                                cases e279
                                replace hx279_0 := (HB.out.cell (World.block_lt_of_cell? w _ hx279_0)).trans hx279_0
                                replace p279 := eq_true p279
                                replace q279 := eq_true q279
                                go_wp2
                                go_meet
                                case rel => exact ⟨_, (decide (((rdOf ByteArray.empty ((rd_T51 l1 x9_1).f0.f1) x11_3).size : Int) ≤ 64)), (by first | rfl | (simp; done) | (simp [*]; done)), H', ⟨by have := HK1.out; have := HJ16.out; have := HK3.out; first | omega | exact Nat.le_refl _⟩, ⟨by (with_reducible repeat (first | apply Kd.S_alloc | apply Kd.S_drewN | apply Kd.S_drew)); exact HO_8.out⟩, ⟨by (with_reducible repeat (first | apply Kd.R_alloc | apply Kd.R_drewN | apply Kd.R_drew)); exact HO_273001.out⟩, ⟨by (with_reducible repeat (first | apply Kd.R_alloc | apply Kd.R_drewN | apply Kd.R_drew)); exact HO_273002.out⟩, ⟨by (with_reducible repeat (first | refine blk_drewN ?_ _ | refine blk_drew ?_ | refine blk_alloc ?_ _)); exact BK259.out⟩, ⟨by (with_reducible repeat (first | refine blk_drewN ?_ _ | refine blk_drew ?_ | refine blk_alloc ?_ _)); exact BK260.out⟩, ⟨by (with_reducible repeat (first | refine blk_drewN ?_ _ | refine blk_drew ?_ | refine blk_alloc ?_ _)); exact BK261.out⟩, ⟨by (with_reducible repeat (first | refine blk_drewN ?_ _ | refine blk_drew ?_ | refine blk_alloc ?_ _)); exact BK262.out⟩, ⟨by (with_reducible repeat (first | refine blk_drewN ?_ _ | refine blk_drew ?_ | refine blk_alloc ?_ _)); exact BK272.out⟩, ⟨by repeat (first | (with_reducible first | exact HB.out | apply below_alloc | apply pw_below_drewN | apply below_drew1 | refine below_set ?_ GE259.out | refine below_set ?_ GE260.out | refine below_set ?_ GE261.out | refine below_set ?_ GE262.out | refine below_set ?_ GE272.out) | exact HB.out)⟩⟩
                              · rw [if_neg c39] at H
                                exact absurd H (by simp)
                            · rw [if_neg c38] at H
                              have c38b0 : decide (x11_3 < (((rd_T51 l1 x9_1).f0.f1).length : Int)) = false := decide_eq_false c38
                              clear c38
                              have H' := Aside0.mk H
                              clear H
                              have p277 : 0 ≤ (x9_1 : Int) := of_decide_eq_true (by first | (with_reducible assumption) | assumption)
                              have q277 : x9_1 < (l1.length : Int) := of_decide_eq_true (by first | (with_reducible assumption) | assumption)
                              obtain ⟨ad277, A277_1, c277_1, A277_2, c277_2, e277, hx277_0, hx277_1, hx277_2, hx277_3, hl277_1, hi277_1, hl277_2, hi277_2⟩ := at_T51 HR1.out x9_1 p277 q277
                              obtain rfl : ad265 = ad277 := (by injection e277)
                              replace hx277_0 := (HB.out.cell (World.block_lt_of_cell? w _ hx277_0)).trans hx277_0
                              replace hx277_1 := (HB.out.cell (World.block_lt_of_cell? w _ hx277_1)).trans hx277_1
                              replace hx277_2 := (HB.out.cell (World.block_lt_of_cell? w _ hx277_2)).trans hx277_2
                              replace hx277_3 := (HB.out.cell (World.block_lt_of_cell? w _ hx277_3)).trans hx277_3
                              have HR277_1 := Aside0.mk hi277_1
                              have HC277_1 := Aside0.mk hl277_1
                              clear hi277_1 hl277_1
                              have HR277_2 := Aside0.mk hi277_2
                              have HC277_2 := Aside0.mk hl277_2
                              clear hi277_2 hl277_2
                              replace p277 := eq_true p277
                              replace q277 := eq_true q277
                              go_wp2
                              go_meet
                              case rel => exact ⟨_, (false), (by first | rfl | (simp; done) | (simp [*]; done)), H', ⟨by have := HK1.out; have := HJ16.out; have := HK3.out; first | omega | exact Nat.le_refl _⟩, ⟨by (with_reducible repeat (first | apply Kd.S_alloc | apply Kd.S_drewN | apply Kd.S_drew)); exact HO_8.out⟩, ⟨by (with_reducible repeat (first | apply Kd.R_alloc | apply Kd.R_drewN | apply Kd.R_drew)); exact HO_273001.out⟩, ⟨by (with_reducible repeat (first | apply Kd.R_alloc | apply Kd.R_drewN | apply Kd.R_drew)); exact HO_273002.out⟩, ⟨by (with_reducible repeat (first | refine blk_drewN ?_ _ | refine blk_drew ?_ | refine blk_alloc ?_ _)); exact BK259.out⟩, ⟨by (with_reducible repeat (first | refine blk_drewN ?_ _ | refine blk_drew ?_ | refine blk_alloc ?_ _)); exact BK260.out⟩, ⟨by (with_reducible repeat (first | refine blk_drewN ?_ _ | refine blk_drew ?_ | refine blk_alloc ?_ _)); exact BK261.out⟩, ⟨by (with_reducible repeat (first | refine blk_drewN ?_ _ | refine blk_drew ?_ | refine blk_alloc ?_ _)); exact BK262.out⟩, ⟨by (with_reducible repeat (first | refine blk_drewN ?_ _ | refine blk_drew ?_ | refine blk_alloc ?_ _)); exact BK272.out⟩, ⟨by repeat (first | (with_reducible first | exact HB.out | apply below_alloc | apply pw_below_drewN | apply below_drew1 | refine below_set ?_ GE259.out | refine below_set ?_ GE260.out | refine below_set ?_ GE261.out | refine below_set ?_ GE262.out | refine below_set ?_ GE272.out) | exact HB.out)⟩⟩
                          · rw [if_neg c37] at H
                            exact absurd H (by simp)
                        · rw [if_neg c36] at H
                          exact absurd H (by simp)
                      case rest =>
                        clear HC35
                        try clear c1
                        try clear c2
                        try clear p2
                        try clear q2
                        try clear hx2
                        try clear c3
                        try clear p6
                        try clear c7
                        try clear c9
                        try clear c10
                        try clear c11
                        try clear c18
                        try clear c18b0
                        try clear c19
                        try clear c20
                        try clear c20b0
                        try clear c21
                        try clear c21b0
                        try clear c26
                        try clear p26
                        try clear q26
                        try clear hx26
                        try clear c27
                        try clear p27
                        try clear q27
                        try clear hx27
                        try clear c29
                        try clear c30
                        try clear c31
                        try clear c32
                        try clear c34
                        try clear c34b0
                        try clear c36
                        try clear c36b0
                        try clear c37
                        try clear c37b0
                        try clear c38
                        try clear c38b0
                        try clear c39
                        try clear c39b0
                        try clear hcz12_0
                        try clear hcz12_1
                        try clear hcz33_0
                        try clear hcz33_1
                        try clear hcz33_2
                        try clear hfz12_0
                        try clear hfz12_1
                        try clear hfz33_0
                        try clear hfz33_1
                        try clear hfz33_2
                        try clear hx265_0
                        try clear hx265_1
                        try clear hx265_2
                        try clear hx265_3
                        try clear hx277_0
                        try clear hx277_1
                        try clear hx277_2
                        try clear hx277_3
                        try clear hx278_0
                        try clear hx278_1
                        try clear hx278_2
                        try clear hx278_3
                        try clear hx279_0
                        try clear p2
                        try clear p26
                        try clear p265
                        try clear p277
                        try clear p278
                        try clear p279
                        try clear p6
                        try clear q2
                        try clear q26
                        try clear q265
                        try clear q277
                        try clear q278
                        try clear q279
                        obtain ⟨kq, x67_34, rfl, HA, HJ34, HO_8, HO_273001, HO_273002, BK259, BK260, BK261, BK262, BK272, HB⟩ := hcut
                        cases kq with
                        | zero => exact absurd HA.out (by simp [gristmilllaw06_right.j3])
                        | succ kj34 =>
                          have H := HA.out
                          clear HA
                          simp only [gristmilllaw06_right.j3] at H
                          by_cases c40 : x67_34 = true
                          · subst c40
                            have H1 : (if 0 ≤ x9_1 then (if x9_1 < (l1.length : Int) then (if 0 ≤ x11_3 then (if x11_3 < (((rd_T51 l1 x9_1).f0.f1).length : Int) then (if x11_3 < (x273001_3.length : Int) then ((some (x273001_3.set (x11_3 : Int).toNat (rdOf ByteArray.empty ((rd_T51 l1 x9_1).f0.f1) x11_3) : List ByteArray)).bind fun y282 => (if x11_3 < (((rd_T51 l1 x9_1).f0.f2).length : Int) then (if x11_3 < (x273002_3.length : Int) then (gristmilllaw06_right.l1 kj34 l1 x8_1 x9_1 (wrap64 (x11_3 + 1)) (wrap64 (1 + (Int.tmod t263 5))) (Int.tmod t264 2) 2 2 ((rd_T51 l1 x9_1).f0.f0) y282 (x273002_3.set (x11_3 : Int).toNat (rd ((rd_T51 l1 x9_1).f0.f2) x11_3))) else (none)) else (gristmilllaw06_right.l1 kj34 l1 x8_1 x9_1 (wrap64 (x11_3 + 1)) (wrap64 (1 + (Int.tmod t263 5))) (Int.tmod t264 2) 2 2 ((rd_T51 l1 x9_1).f0.f0) y282 x273002_3))) else (none)) else (none)) else (none)) else (none)) else (none)) = some (r1, r2, r3, r4, r5) := by rw [if_pos rfl] at H; exact H
                            clear H
                            have H := H1
                            clear H1
                            by_cases c41 : 0 ≤ x9_1
                            · rw [if_pos c41] at H
                              have c41b0 : decide (0 ≤ x9_1) = true := decide_eq_true c41
                              clear c41
                              by_cases c42 : x9_1 < (l1.length : Int)
                              · rw [if_pos c42] at H
                                have c42b0 : decide (x9_1 < (l1.length : Int)) = true := decide_eq_true c42
                                clear c42
                                by_cases c43 : 0 ≤ x11_3
                                · rw [if_pos c43] at H
                                  have c43b0 : decide (0 ≤ x11_3) = true := decide_eq_true c43
                                  clear c43
                                  by_cases c44 : x11_3 < (((rd_T51 l1 x9_1).f0.f1).length : Int)
                                  · rw [if_pos c44] at H
                                    have c44b0 : decide (x11_3 < (((rd_T51 l1 x9_1).f0.f1).length : Int)) = true := decide_eq_true c44
                                    clear c44
                                    by_cases c45 : x11_3 < (x273001_3.length : Int)
                                    · rw [if_pos c45] at H
                                      have c45b0 : decide (x11_3 < (x273001_3.length : Int)) = true := decide_eq_true c45
                                      clear c45
                                      obtain ⟨y282, hy282⟩ : ∃ y_ : List ByteArray, y_ = (x273001_3.set (x11_3 : Int).toNat (rdOf ByteArray.empty ((rd_T51 l1 x9_1).f0.f1) x11_3)) := ⟨_, rfl⟩
                                      replace H : (if x11_3 < (((rd_T51 l1 x9_1).f0.f2).length : Int) then (if x11_3 < (x273002_3.length : Int) then (gristmilllaw06_right.l1 kj34 l1 x8_1 x9_1 (wrap64 (x11_3 + 1)) (wrap64 (1 + (Int.tmod t263 5))) (Int.tmod t264 2) 2 2 ((rd_T51 l1 x9_1).f0.f0) y282 (x273002_3.set (x11_3 : Int).toNat (rd ((rd_T51 l1 x9_1).f0.f2) x11_3))) else (none)) else (gristmilllaw06_right.l1 kj34 l1 x8_1 x9_1 (wrap64 (x11_3 + 1)) (wrap64 (1 + (Int.tmod t263 5))) (Int.tmod t264 2) 2 2 ((rd_T51 l1 x9_1).f0.f0) y282 x273002_3)) = some (r1, r2, r3, r4, r5) := by first | (rw [hy282]; with_reducible exact H) | (have H2_ := (Option.bind_some _ _).symm.trans H; rw [hy282]; with_reducible exact H2_) | (have H2_ := (Option.bind_some _ _).symm.trans H; with_reducible exact H2_) | with_reducible exact H | (rw [hy282]; exact H) | exact H
                                      have Ny282 := Aside0.mk hy282
                                      clear hy282
                                      by_cases c47 : x11_3 < (((rd_T51 l1 x9_1).f0.f2).length : Int)
                                      · rw [if_pos c47] at H
                                        have c47b0 : decide (x11_3 < (((rd_T51 l1 x9_1).f0.f2).length : Int)) = true := decide_eq_true c47
                                        clear c47
                                        by_cases c48 : x11_3 < (x273002_3.length : Int)
                                        · rw [if_pos c48] at H
                                          have c48b0 : decide (x11_3 < (x273002_3.length : Int)) = true := decide_eq_true c48
                                          clear c48
                                          obtain ⟨y286, hy286⟩ : ∃ y_ : List Int, y_ = (x273002_3.set (x11_3 : Int).toNat (rd ((rd_T51 l1 x9_1).f0.f2) x11_3)) := ⟨_, rfl⟩
                                          replace H : (gristmilllaw06_right.l1 kj34 l1 x8_1 x9_1 (wrap64 (x11_3 + 1)) (wrap64 (1 + (Int.tmod t263 5))) (Int.tmod t264 2) 2 2 ((rd_T51 l1 x9_1).f0.f0) y282 y286) = some (r1, r2, r3, r4, r5) := by first | (rw [hy286]; with_reducible exact H) | (have H2_ := (Option.bind_some _ _).symm.trans H; rw [hy286]; with_reducible exact H2_) | (have H2_ := (Option.bind_some _ _).symm.trans H; with_reducible exact H2_) | with_reducible exact H | (rw [hy286]; exact H) | exact H
                                          have Ny286 := Aside0.mk hy286
                                          clear hy286
                                          have H' := Aside0.mk H
                                          clear H
                                          try go_wp2
                                          have n0_ := Aside0.mk (Kd.S_drew HO_8.out)
                                          have n1_ := Aside0.mk (Kd.R_drew HO_273001.out)
                                          have n2_ := Aside0.mk (Kd.R_drew HO_273002.out)
                                          have n3_ := Aside0.mk (blk_drew BK259.out)
                                          have n4_ := Aside0.mk (blk_drew BK260.out)
                                          have n5_ := Aside0.mk (blk_drew BK261.out)
                                          have n6_ := Aside0.mk (blk_drew BK262.out)
                                          have n7_ := Aside0.mk (blk_drew BK272.out)
                                          have n8_ := Aside0.mk (below_drew1 HB.out)
                                          clear HO_8
                                          clear HO_273001
                                          clear HO_273002
                                          clear BK259
                                          clear BK260
                                          clear BK261
                                          clear BK262
                                          clear BK272
                                          clear HB
                                          have HO_8 := n0_
                                          have HO_273001 := n1_
                                          have HO_273002 := n2_
                                          have BK259 := n3_
                                          have BK260 := n4_
                                          have BK261 := n5_
                                          have BK262 := n6_
                                          have BK272 := n7_
                                          have HB := n8_
                                          clear n0_ n1_ n2_ n3_ n4_ n5_ n6_ n7_ n8_
                                          have p280 : 0 ≤ (x9_1 : Int) := of_decide_eq_true (by first | (with_reducible assumption) | assumption)
                                          have q280 : x9_1 < (l1.length : Int) := of_decide_eq_true (by first | (with_reducible assumption) | assumption)
                                          obtain ⟨ad280, A280_1, c280_1, A280_2, c280_2, e280, hx280_0, hx280_1, hx280_2, hx280_3, hl280_1, hi280_1, hl280_2, hi280_2⟩ := at_T51 HR1.out x9_1 p280 q280
                                          have hw280_3 := hx280_3
                                          have hw280_2 := hx280_2
                                          have hw280_1 := hx280_1
                                          have hw280_0 := hx280_0
                                          obtain rfl : ad265 = ad280 := (by injection e280)
                                          replace hx280_0 := (HB.out.cell (World.block_lt_of_cell? w _ hx280_0)).trans hx280_0
                                          replace hx280_1 := (HB.out.cell (World.block_lt_of_cell? w _ hx280_1)).trans hx280_1
                                          replace hx280_2 := (HB.out.cell (World.block_lt_of_cell? w _ hx280_2)).trans hx280_2
                                          replace hx280_3 := (HB.out.cell (World.block_lt_of_cell? w _ hx280_3)).trans hx280_3
                                          have HR280_1 := Aside0.mk hi280_1
                                          have HC280_1 := Aside0.mk hl280_1
                                          clear hi280_1 hl280_1
                                          have HR280_2 := Aside0.mk hi280_2
                                          have HC280_2 := Aside0.mk hl280_2
                                          clear hi280_2 hl280_2
                                          replace p280 := eq_true p280
                                          replace q280 := eq_true q280
                                          have p281 : 0 ≤ (x11_3 : Int) := of_decide_eq_true (by first | (with_reducible assumption) | assumption)
                                          have q281 : x11_3 < (((rd_T51 l1 x9_1).f0.f1).length : Int) := of_decide_eq_true (by first | (with_reducible assumption) | assumption)
                                          obtain ⟨ad281, e281, hx281_0⟩ := Kd.at_string HR280_1.out x11_3 p281 q281
                                          have hw281_0 := hx281_0
                                          cases e281
                                          replace hx281_0 := (HB.out.cell (World.block_lt_of_cell? w _ hx281_0)).trans hx281_0
                                          replace p281 := eq_true p281
                                          replace q281 := eq_true q281
                                          have p46 : 0 ≤ (x11_3 : Int) := of_decide_eq_true (by first | (with_reducible assumption) | assumption)
                                          have q46 : (x11_3 : Int) < ((x273001_3.length : Int) : Int) := of_decide_eq_true (by first | (with_reducible assumption) | assumption)
                                          obtain ⟨go46, co46, eo46, gb46, gl46, cl46, HG46⟩ := Kd.R_form HO_273001.out (by omega)
                                          (first | cases eo46 | (injection eo46 with ea_ en_ ec_; (first | subst ea_ | (injection ea_ with ea_; subst ea_)); subst ec_; clear en_))
                                          have GB46 := Aside0.mk gb46
                                          have GG46 := Aside0.mk HG46
                                          clear gb46 gl46 HG46
                                          obtain ⟨hx46_0, hf46_0⟩ := Kd.R_celln (⟨#[]⟩ : ByteArray) HO_273001.out (x11_3 : Int) p46 q46
                                          replace p46 := eq_true p46
                                          replace q46 := eq_true q46
                                          have HP51 := Kd.R_putn HO_273001.out (x11_3 : Int) (rdOf ByteArray.empty ((rd_T51 l1 x9_1).f0.f1) x11_3)
                                          rw [← Ny282.out] at HP51
                                          have HQ51 := Aside0.mk HP51
                                          clear HP51
                                          refine start_ (n := 14) (S := fun w' => w'.cell? ⟨gb272, 0, none⟩ = some (.int .i64 ((rd_T51 l1 x9_1).f0.f0)) ∧ w'.cell? ⟨gb272, 1, none⟩ = some (.slice (some ⟨go46, 0, none⟩) x273001_3.length co46) ∧ w'.cell? ⟨gb272, 2, none⟩ = some (u273002) ∧ w'.cell? (ad265.add ((x9_1).toNat * 4)) = some (.int .i64 ((rd_T51 l1 x9_1).f0.f0)) ∧ w'.cell? ⟨(ad265.add ((x9_1).toNat * 4)).block, (ad265.add ((x9_1).toNat * 4)).off + 1, none⟩ = some (.slice (some ad281) ((rd_T51 l1 x9_1).f0.f1).length c280_1) ∧ w'.cell? ⟨(ad265.add ((x9_1).toNat * 4)).block, (ad265.add ((x9_1).toNat * 4)).off + 2, none⟩ = some (.slice A280_2 ((rd_T51 l1 x9_1).f0.f2).length c280_2) ∧ w'.cell? ⟨(ad265.add ((x9_1).toNat * 4)).block, (ad265.add ((x9_1).toNat * 4)).off + 3, none⟩ = some (.int .u64 ((rd_T51 l1 x9_1).f1)) ∧ w'.cell? (ad281.add (x11_3).toNat) = some (.string (rdOf ByteArray.empty ((rd_T51 l1 x9_1).f0.f1) x11_3))) (ds := [13]) #[false, false, false, false, false, false, false, false, false, false, false, false, false, false] (by kernel_rfl) rfl rfl ⟨(blk_cell BK272.out 0).trans rfl, (blk_cell BK272.out 1).trans rfl, (blk_cell BK272.out 2).trans rfl, ((HB.out.cell (World.block_lt_of_cell? w _ hw280_0)).trans hw280_0), ((HB.out.cell (World.block_lt_of_cell? w _ hw280_1)).trans hw280_1), ((HB.out.cell (World.block_lt_of_cell? w _ hw280_2)).trans hw280_2), ((HB.out.cell (World.block_lt_of_cell? w _ hw280_3)).trans hw280_3), ((HB.out.cell (World.block_lt_of_cell? w _ hw281_0)).trans hw281_0)⟩ (fun hHeld => ?_); refine with_tabW gristmilllaw06_right.tab12 gristmilllaw06_right.bits12 (fun HT_ HW_ => ?_)
                                          generalize wc.drew = w50 at HO_8 HO_273001 HO_273002 BK259 BK260 BK261 BK262 BK272 HB GG46 HQ51 HR280_1 HR280_2 hf46_0 hx280_0 hx280_1 hx280_2 hx280_3 hx281_0 hx46_0 hHeld ⊢
                                          refine pure_ (i := 0) (N := some 68) (v := ?_) (a' := ?_) #[true, false, false, false, false, false, false, false, false, false, false, false, false, false] rfl rfl (any_of HT_.out (by kernel_rfl)) (fun _ _ _ h => h) (Or.inl ⟨by rfl, ?_⟩) ?_ ?_
                                          rotate_left
                                          · intro w'
                                            go_simp
                                            with_reducible rfl
                                          rotate_left
                                          · simp only [Act.put, List.setIfInBounds_toArray, List.set_cons_zero, List.set_cons_succ, i64_w, i32_w]
                                            rfl
                                          refine pure_ (i := 2) (N := some 70) (v := ?_) (a' := ?_) #[true, false, true, false, false, false, false, false, false, false, false, false, false, false] rfl rfl (any_of HT_.out (by kernel_rfl)) (fun _ _ _ h => h) (Or.inl ⟨by rfl, ?_⟩) ?_ ?_
                                          rotate_left
                                          · intro w'
                                            go_simp
                                            with_reducible rfl
                                          rotate_left
                                          · simp only [Act.put, List.setIfInBounds_toArray, List.set_cons_zero, List.set_cons_succ, i64_w, i32_w]
                                            rfl
                                          refine pure_ (i := 3) (N := some 71) (v := ?_) (a' := ?_) #[true, false, true, true, false, false, false, false, false, false, false, false, false, false] rfl rfl (any_of HT_.out (by kernel_rfl)) (fun _ _ _ h => h) (Or.inl ⟨by rfl, ?_⟩) ?_ ?_
                                          rotate_left
                                          · intro w'
                                            go_simp
                                            with_reducible rfl
                                          rotate_left
                                          · simp only [Act.put, List.setIfInBounds_toArray, List.set_cons_zero, List.set_cons_succ, i64_w, i32_w]
                                            rfl
                                          refine pure_ (i := 4) (N := some 72) (v := ?_) (a' := ?_) #[true, false, true, true, true, false, false, false, false, false, false, false, false, false] rfl rfl (any_of HT_.out (by kernel_rfl)) (fun _ _ _ h => h) (Or.inl ⟨by rfl, ?_⟩) ?_ ?_
                                          rotate_left
                                          · intro w'
                                            go_simp
                                            with_reducible rfl
                                          rotate_left
                                          · simp only [Act.put, List.setIfInBounds_toArray, List.set_cons_zero, List.set_cons_succ, i64_w, i32_w]
                                            rfl
                                          refine pure_ (i := 5) (N := some 73) (v := ?_) (a' := ?_) #[true, false, true, true, true, true, false, false, false, false, false, false, false, false] rfl rfl (any_of HT_.out (by kernel_rfl)) (fun _ _ _ h => h) (Or.inl ⟨by rfl, ?_⟩) ?_ ?_
                                          rotate_left
                                          · intro w'
                                            go_simp
                                            with_reducible rfl
                                          rotate_left
                                          · simp only [Act.put, List.setIfInBounds_toArray, List.set_cons_zero, List.set_cons_succ, i64_w, i32_w]
                                            rfl
                                          refine pure_ (i := 6) (N := some 74) (v := ?_) (a' := ?_) #[true, false, true, true, true, true, true, false, false, false, false, false, false, false] rfl rfl (any_of HT_.out (by kernel_rfl)) (fun _ _ _ h => h) (Or.inl ⟨by rfl, ?_⟩) ?_ ?_
                                          rotate_left
                                          · intro w'
                                            go_simp
                                            with_reducible rfl
                                          rotate_left
                                          · simp only [Act.put, List.setIfInBounds_toArray, List.set_cons_zero, List.set_cons_succ, i64_w, i32_w]
                                            rfl
                                          refine pure_ (i := 7) (N := some 75) (v := ?_) (a' := ?_) #[true, false, true, true, true, true, true, true, false, false, false, false, false, false] rfl rfl (any_of HT_.out (by kernel_rfl)) (fun _ _ _ h => h) (Or.inl ⟨by rfl, ?_⟩) ?_ ?_
                                          rotate_left
                                          · intro w'
                                            go_simp
                                            with_reducible rfl
                                          rotate_left
                                          · simp only [Act.put, List.setIfInBounds_toArray, List.set_cons_zero, List.set_cons_succ, i64_w, i32_w]
                                            rfl
                                          refine pure_ (i := 9) (N := some 77) (v := ?_) (a' := ?_) #[true, false, true, true, true, true, true, true, false, true, false, false, false, false] rfl rfl (any_of HT_.out (by kernel_rfl)) (fun _ _ _ h => h) (Or.inl ⟨by rfl, ?_⟩) ?_ ?_
                                          rotate_left
                                          · intro w'
                                            go_simp
                                            with_reducible rfl
                                          rotate_left
                                          · simp only [Act.put, List.setIfInBounds_toArray, List.set_cons_zero, List.set_cons_succ, i64_w, i32_w]
                                            rfl
                                          refine take_ (i := 1) (N := some 69) (v := ?_) (a' := ?_) #[true, true, true, true, true, true, true, true, false, true, false, false, false, false] rfl rfl (take_ofW HT_.out HW_.out (by kernel_rfl)) (fun _ _ _ h => h) (Or.inl ⟨by rfl, ?_⟩) hHeld ?_ ?_
                                          rotate_left
                                          · rintro w' ⟨s0, s1, s2, s3, s4, s5, s6, s7⟩
                                            go_simp
                                            with_reducible rfl
                                          rotate_left
                                          · simp only [Act.put, List.setIfInBounds_toArray, List.set_cons_zero, List.set_cons_succ, i64_w, i32_w]
                                            rfl
                                          refine take_ (i := 8) (N := some 76) (v := ?_) (a' := ?_) #[true, true, true, true, true, true, true, true, true, true, false, false, false, false] rfl rfl (take_ofW HT_.out HW_.out (by kernel_rfl)) (fun _ _ _ h => h) (Or.inl ⟨by rfl, ?_⟩) hHeld ?_ ?_
                                          rotate_left
                                          · rintro w' ⟨s0, s1, s2, s3, s4, s5, s6, s7⟩
                                            go_simp
                                            with_reducible rfl
                                          rotate_left
                                          · simp only [Act.put, List.setIfInBounds_toArray, List.set_cons_zero, List.set_cons_succ, i64_w, i32_w]
                                            rfl
                                          refine pure_ (i := 10) (N := some 78) (v := ?_) (a' := ?_) #[true, true, true, true, true, true, true, true, true, true, true, false, false, false] rfl rfl (any_of HT_.out (by kernel_rfl)) (fun _ _ _ h => h) (Or.inl ⟨by rfl, ?_⟩) ?_ ?_
                                          rotate_left
                                          · intro w'
                                            go_simp
                                            with_reducible rfl
                                          rotate_left
                                          · simp only [Act.put, List.setIfInBounds_toArray, List.set_cons_zero, List.set_cons_succ, i64_w, i32_w]
                                            rfl
                                          refine take_ (i := 11) (N := some 79) (v := ?_) (a' := ?_) #[true, true, true, true, true, true, true, true, true, true, true, true, false, false] rfl rfl (take_ofW HT_.out HW_.out (by kernel_rfl)) (fun _ _ _ h => h) (Or.inl ⟨by rfl, ?_⟩) hHeld ?_ ?_
                                          rotate_left
                                          · rintro w' ⟨s0, s1, s2, s3, s4, s5, s6, s7⟩
                                            go_simp
                                            with_reducible rfl
                                          rotate_left
                                          · simp only [Act.put, List.setIfInBounds_toArray, List.set_cons_zero, List.set_cons_succ, i64_w, i32_w]
                                            rfl
                                          refine pure_ (i := 12) (N := some 80) (v := ?_) (a' := ?_) #[true, true, true, true, true, true, true, true, true, true, true, true, true, false] rfl rfl (any_of HT_.out (by kernel_rfl)) (fun _ _ _ h => h) (Or.inl ⟨by rfl, ?_⟩) ?_ ?_
                                          rotate_left
                                          · intro w'
                                            go_simp
                                            with_reducible rfl
                                          rotate_left
                                          · simp only [Act.put, List.setIfInBounds_toArray, List.set_cons_zero, List.set_cons_succ, i64_w, i32_w]
                                            rfl
                                          refine last_ (i := 13) (N := none) #[true, true, true, true, true, true, true, true, true, true, true, true, true, true] rfl rfl (one_of HT_.out (by kernel_rfl)) (by decide) (fun K hK => ?_)
                                          refine skip_ (w1 := ?_) (by rfl) rfl ?_ ?_
                                          rotate_left
                                          · go_simp
                                            rfl
                                          refine hK.out _ _ ?_
                                          clear hK K
                                          refine done_ (done_of HT_.out (by kernel_rfl)) ?_
                                          have p283 : 0 ≤ (x9_1 : Int) := of_decide_eq_true (by first | (with_reducible assumption) | assumption)
                                          have q283 : x9_1 < (l1.length : Int) := of_decide_eq_true (by first | (with_reducible assumption) | assumption)
                                          obtain ⟨ad283, A283_1, c283_1, A283_2, c283_2, e283, hx283_0, hx283_1, hx283_2, hx283_3, hl283_1, hi283_1, hl283_2, hi283_2⟩ := at_T51 HR1.out x9_1 p283 q283
                                          obtain rfl : ad265 = ad283 := (by injection e283)
                                          have hn283_0 : ad265.block ≠ go46 := Nat.ne_of_lt (Nat.lt_of_lt_of_le (by have := World.block_lt_of_cell? _ _ hx283_0; first | rwa [add_block] at this | exact this) GB46.out)
                                          replace hx283_0 := (HB.out.cell (World.block_lt_of_cell? w _ hx283_0)).trans hx283_0
                                          replace hx283_1 := (HB.out.cell (World.block_lt_of_cell? w _ hx283_1)).trans hx283_1
                                          replace hx283_2 := (HB.out.cell (World.block_lt_of_cell? w _ hx283_2)).trans hx283_2
                                          replace hx283_3 := (HB.out.cell (World.block_lt_of_cell? w _ hx283_3)).trans hx283_3
                                          have HR283_1 := Aside0.mk hi283_1
                                          have HC283_1 := Aside0.mk hl283_1
                                          clear hi283_1 hl283_1
                                          have HR283_2 := Aside0.mk hi283_2
                                          have HC283_2 := Aside0.mk hl283_2
                                          clear hi283_2 hl283_2
                                          replace hx283_0 := (cell_far (p := ⟨go46, (x11_3 : Int).toNat, none⟩) (by first | (rw [add_block]; exact hn283_0) | (show (Addr.add _ _).block ≠ _; rw [add_block]; exact hn283_0) | exact hn283_0) (.string (rdOf ByteArray.empty ((rd_T51 l1 x9_1).f0.f1) x11_3))).trans hx283_0
                                          replace hx283_1 := (cell_far (p := ⟨go46, (x11_3 : Int).toNat, none⟩) (by first | (rw [add_block]; exact hn283_0) | (show (Addr.add _ _).block ≠ _; rw [add_block]; exact hn283_0) | exact hn283_0) (.string (rdOf ByteArray.empty ((rd_T51 l1 x9_1).f0.f1) x11_3))).trans hx283_1
                                          replace hx283_2 := (cell_far (p := ⟨go46, (x11_3 : Int).toNat, none⟩) (by first | (rw [add_block]; exact hn283_0) | (show (Addr.add _ _).block ≠ _; rw [add_block]; exact hn283_0) | exact hn283_0) (.string (rdOf ByteArray.empty ((rd_T51 l1 x9_1).f0.f1) x11_3))).trans hx283_2
                                          replace hx283_3 := (cell_far (p := ⟨go46, (x11_3 : Int).toNat, none⟩) (by first | (rw [add_block]; exact hn283_0) | (show (Addr.add _ _).block ≠ _; rw [add_block]; exact hn283_0) | exact hn283_0) (.string (rdOf ByteArray.empty ((rd_T51 l1 x9_1).f0.f1) x11_3))).trans hx283_3
                                          clear hn283_0
                                          replace p283 := eq_true p283
                                          replace q283 := eq_true q283
                                          try go_wp2
                                          have n0_ : Aside0 (Kd.S k51 51 (w50.setCell ⟨go46, (x11_3 : Int).toNat, none⟩ (.string (rdOf ByteArray.empty ((rd_T51 l1 x9_1).f0.f1) x11_3))) w.heap.size (fun k_ => some k_ ≠ (.slice (some ⟨go46, 0, none⟩) x273001_3.length co46 : Value).ownBlock ∧ some k_ ≠ (u273002 : Value).ownBlock) u8 x8_1) := ⟨by (with_reducible repeat (first | apply Kd.S_alloc | apply Kd.S_drewN | apply Kd.S_drew)); exact Kd.S_mono (Kd.S_far (p := ⟨go46, (x11_3 : Int).toNat, none⟩) (Kd.S_mono HO_8.out (fun k_ hk => (⟨hk, fun e_ => hk.1 (by rw [e_]; rfl)⟩ : _ ∧ k_ ≠ go46))) (fun _ hk => hk.2) (.string (rdOf ByteArray.empty ((rd_T51 l1 x9_1).f0.f1) x11_3))) (fun _ hk => ⟨hk.1.1, hk.1.2⟩)⟩
                                          have n1_ : Aside0 (Kd.R Kd.string 9 (w50.setCell ⟨go46, (x11_3 : Int).toNat, none⟩ (.string (rdOf ByteArray.empty ((rd_T51 l1 x9_1).f0.f1) x11_3))) w.heap.size (fun _ => True) (.slice (some ⟨go46, 0, none⟩) x273001_3.length co46) y282) := ⟨by (with_reducible repeat (first | apply Kd.R_alloc | apply Kd.R_drewN | apply Kd.R_drew)); exact HQ51.out⟩
                                          have n2_ : Aside0 (Kd.R (Kd.int .i64) 2 (w50.setCell ⟨go46, (x11_3 : Int).toNat, none⟩ (.string (rdOf ByteArray.empty ((rd_T51 l1 x9_1).f0.f1) x11_3))) w.heap.size (fun _ => True) u273002 x273002_3) := ⟨by (with_reducible repeat (first | apply Kd.R_alloc | apply Kd.R_drewN | apply Kd.R_drew)); exact Kd.R_mono (Kd.R_far (p := ⟨go46, (x11_3 : Int).toNat, none⟩) (Kd.R_types HO_273002.out GG46.out (by decide)) (fun _ hk => hk.2) (.string (rdOf ByteArray.empty ((rd_T51 l1 x9_1).f0.f1) x11_3))) (fun _ hk => trivial)⟩
                                          have n3_ : Aside0 ((w50.setCell ⟨go46, (x11_3 : Int).toNat, none⟩ (.string (rdOf ByteArray.empty ((rd_T51 l1 x9_1).f0.f1) x11_3))).heap[gb259]? = some (.cells #[.int .i64 (wrap64 (1 + (Int.tmod t263 5))), .int .i64 (Int.tmod t264 2)] 23 (0, 0))) := ⟨by (with_reducible repeat (first | refine blk_drewN ?_ _ | refine blk_drew ?_ | refine blk_alloc ?_ _)); refine blk_far ?_ (by have h_ := Kd.R_ne HO_273001.out BK259.out (by decide); intro e_; exact h_ (by rw [e_]; rfl)) _; (with_reducible repeat (first | refine blk_drewN ?_ _ | refine blk_drew ?_ | refine blk_alloc ?_ _)); exact BK259.out⟩
                                          have n4_ : Aside0 ((w50.setCell ⟨go46, (x11_3 : Int).toNat, none⟩ (.string (rdOf ByteArray.empty ((rd_T51 l1 x9_1).f0.f1) x11_3))).heap[gb260]? = some (.cells #[.int .i64 0, .int .i64 0] 27 (0, 0))) := ⟨by (with_reducible repeat (first | refine blk_drewN ?_ _ | refine blk_drew ?_ | refine blk_alloc ?_ _)); refine blk_far ?_ (by have h_ := Kd.R_ne HO_273001.out BK260.out (by decide); intro e_; exact h_ (by rw [e_]; rfl)) _; (with_reducible repeat (first | refine blk_drewN ?_ _ | refine blk_drew ?_ | refine blk_alloc ?_ _)); exact BK260.out⟩
                                          have n5_ : Aside0 ((w50.setCell ⟨go46, (x11_3 : Int).toNat, none⟩ (.string (rdOf ByteArray.empty ((rd_T51 l1 x9_1).f0.f1) x11_3))).heap[gb261]? = some (.cells #[.int .i64 0, .int .i64 0] 23 (0, 0))) := ⟨by (with_reducible repeat (first | refine blk_drewN ?_ _ | refine blk_drew ?_ | refine blk_alloc ?_ _)); refine blk_far ?_ (by have h_ := Kd.R_ne HO_273001.out BK261.out (by decide); intro e_; exact h_ (by rw [e_]; rfl)) _; (with_reducible repeat (first | refine blk_drewN ?_ _ | refine blk_drew ?_ | refine blk_alloc ?_ _)); exact BK261.out⟩
                                          have n6_ : Aside0 ((w50.setCell ⟨go46, (x11_3 : Int).toNat, none⟩ (.string (rdOf ByteArray.empty ((rd_T51 l1 x9_1).f0.f1) x11_3))).heap[gb262]? = some (.cells #[.int .i64 2, .int .i64 2] 27 (0, 0))) := ⟨by (with_reducible repeat (first | refine blk_drewN ?_ _ | refine blk_drew ?_ | refine blk_alloc ?_ _)); refine blk_far ?_ (by have h_ := Kd.R_ne HO_273001.out BK262.out (by decide); intro e_; exact h_ (by rw [e_]; rfl)) _; (with_reducible repeat (first | refine blk_drewN ?_ _ | refine blk_drew ?_ | refine blk_alloc ?_ _)); exact BK262.out⟩
                                          have n7_ : Aside0 ((w50.setCell ⟨go46, (x11_3 : Int).toNat, none⟩ (.string (rdOf ByteArray.empty ((rd_T51 l1 x9_1).f0.f1) x11_3))).heap[gb272]? = some (.cells #[.int .i64 ((rd_T51 l1 x9_1).f0.f0), .slice (some ⟨go46, 0, none⟩) x273001_3.length co46, u273002] 45 (0, 0))) := ⟨by (with_reducible repeat (first | refine blk_drewN ?_ _ | refine blk_drew ?_ | refine blk_alloc ?_ _)); refine blk_far ?_ (by have h_ := Kd.R_ne HO_273001.out BK272.out (by decide); intro e_; exact h_ (by rw [e_]; rfl)) _; (with_reducible repeat (first | refine blk_drewN ?_ _ | refine blk_drew ?_ | refine blk_alloc ?_ _)); exact BK272.out⟩
                                          have n8_ : Aside0 (Below w.heap.size w (w50.setCell ⟨go46, (x11_3 : Int).toNat, none⟩ (.string (rdOf ByteArray.empty ((rd_T51 l1 x9_1).f0.f1) x11_3)))) := ⟨by repeat (first | (with_reducible first | exact HB.out | apply below_alloc | apply pw_below_drewN | apply below_drew1 | refine below_set ?_ GB46.out | refine below_set ?_ GE259.out | refine below_set ?_ GE260.out | refine below_set ?_ GE261.out | refine below_set ?_ GE262.out | refine below_set ?_ GE272.out) | exact HB.out)⟩
                                          (try clear HO_8)
                                          (try clear HO_273001)
                                          (try clear HO_273002)
                                          (try clear BK259)
                                          (try clear BK260)
                                          (try clear BK261)
                                          (try clear BK262)
                                          (try clear BK272)
                                          (try clear HB)
                                          generalize (w50.setCell ⟨go46, (x11_3 : Int).toNat, none⟩ (.string (rdOf ByteArray.empty ((rd_T51 l1 x9_1).f0.f1) x11_3))) = w52 at n0_ n1_ n2_ n3_ n4_ n5_ n6_ n7_ n8_ ⊢
                                          have HO_8 := n0_
                                          have HO_273001 := n1_
                                          have HO_273002 := n2_
                                          have BK259 := n3_
                                          have BK260 := n4_
                                          have BK261 := n5_
                                          have BK262 := n6_
                                          have BK272 := n7_
                                          have HB := n8_
                                          clear n0_ n1_ n2_ n3_ n4_ n5_ n6_ n7_ n8_
                                          have n0_ := Aside0.mk (Kd.S_drew HO_8.out)
                                          have n1_ := Aside0.mk (Kd.R_drew HO_273001.out)
                                          have n2_ := Aside0.mk (Kd.R_drew HO_273002.out)
                                          have n3_ := Aside0.mk (blk_drew BK259.out)
                                          have n4_ := Aside0.mk (blk_drew BK260.out)
                                          have n5_ := Aside0.mk (blk_drew BK261.out)
                                          have n6_ := Aside0.mk (blk_drew BK262.out)
                                          have n7_ := Aside0.mk (blk_drew BK272.out)
                                          have n8_ := Aside0.mk (below_drew1 HB.out)
                                          clear HO_8
                                          clear HO_273001
                                          clear HO_273002
                                          clear BK259
                                          clear BK260
                                          clear BK261
                                          clear BK262
                                          clear BK272
                                          clear HB
                                          have HO_8 := n0_
                                          have HO_273001 := n1_
                                          have HO_273002 := n2_
                                          have BK259 := n3_
                                          have BK260 := n4_
                                          have BK261 := n5_
                                          have BK262 := n6_
                                          have BK272 := n7_
                                          have HB := n8_
                                          clear n0_ n1_ n2_ n3_ n4_ n5_ n6_ n7_ n8_
                                          have p284 : 0 ≤ (x9_1 : Int) := of_decide_eq_true (by first | (with_reducible assumption) | assumption)
                                          have q284 : x9_1 < (l1.length : Int) := of_decide_eq_true (by first | (with_reducible assumption) | assumption)
                                          obtain ⟨ad284, A284_1, c284_1, A284_2, c284_2, e284, hx284_0, hx284_1, hx284_2, hx284_3, hl284_1, hi284_1, hl284_2, hi284_2⟩ := at_T51 HR1.out x9_1 p284 q284
                                          have hw284_3 := hx284_3
                                          have hw284_2 := hx284_2
                                          have hw284_1 := hx284_1
                                          have hw284_0 := hx284_0
                                          obtain rfl : ad265 = ad284 := (by injection e284)
                                          replace hx284_0 := (HB.out.cell (World.block_lt_of_cell? w _ hx284_0)).trans hx284_0
                                          replace hx284_1 := (HB.out.cell (World.block_lt_of_cell? w _ hx284_1)).trans hx284_1
                                          replace hx284_2 := (HB.out.cell (World.block_lt_of_cell? w _ hx284_2)).trans hx284_2
                                          replace hx284_3 := (HB.out.cell (World.block_lt_of_cell? w _ hx284_3)).trans hx284_3
                                          have HR284_1 := Aside0.mk hi284_1
                                          have HC284_1 := Aside0.mk hl284_1
                                          clear hi284_1 hl284_1
                                          have HR284_2 := Aside0.mk hi284_2
                                          have HC284_2 := Aside0.mk hl284_2
                                          clear hi284_2 hl284_2
                                          replace p284 := eq_true p284
                                          replace q284 := eq_true q284
                                          have p285 : 0 ≤ (x11_3 : Int) := of_decide_eq_true (by first | (with_reducible assumption) | assumption)
                                          have q285 : x11_3 < (((rd_T51 l1 x9_1).f0.f2).length : Int) := of_decide_eq_true (by first | (with_reducible assumption) | assumption)
                                          obtain ⟨ad285, e285, hx285_0⟩ := Kd.at_int HR284_2.out x11_3 p285 q285
                                          have hw285_0 := hx285_0
                                          cases e285
                                          replace hx285_0 := (HB.out.cell (World.block_lt_of_cell? w _ hx285_0)).trans hx285_0
                                          replace p285 := eq_true p285
                                          replace q285 := eq_true q285
                                          have p49 : 0 ≤ (x11_3 : Int) := of_decide_eq_true (by first | (with_reducible assumption) | assumption)
                                          have q49 : (x11_3 : Int) < ((x273002_3.length : Int) : Int) := of_decide_eq_true (by first | (with_reducible assumption) | assumption)
                                          obtain ⟨go49, co49, eo49, gb49, gl49, cl49, HG49⟩ := Kd.R_form HO_273002.out (by omega)
                                          (first | cases eo49 | (injection eo49 with ea_ en_ ec_; (first | subst ea_ | (injection ea_ with ea_; subst ea_)); subst ec_; clear en_))
                                          have GB49 := Aside0.mk gb49
                                          have GG49 := Aside0.mk HG49
                                          clear gb49 gl49 HG49
                                          obtain ⟨hx49_0, hf49_0⟩ := Kd.R_celln 0 HO_273002.out (x11_3 : Int) p49 q49
                                          replace p49 := eq_true p49
                                          replace q49 := eq_true q49
                                          have HP54 := Kd.R_putn HO_273002.out (x11_3 : Int) (rd ((rd_T51 l1 x9_1).f0.f2) x11_3)
                                          rw [← Ny286.out] at HP54
                                          have HQ54 := Aside0.mk HP54
                                          clear HP54
                                          refine start_ (n := 14) (S := fun w' => w'.cell? ⟨gb272, 0, none⟩ = some (.int .i64 ((rd_T51 l1 x9_1).f0.f0)) ∧ w'.cell? ⟨gb272, 1, none⟩ = some (.slice (some ⟨go46, 0, none⟩) x273001_3.length co46) ∧ w'.cell? ⟨gb272, 2, none⟩ = some (.slice (some ⟨go49, 0, none⟩) x273002_3.length co49) ∧ w'.cell? (ad265.add ((x9_1).toNat * 4)) = some (.int .i64 ((rd_T51 l1 x9_1).f0.f0)) ∧ w'.cell? ⟨(ad265.add ((x9_1).toNat * 4)).block, (ad265.add ((x9_1).toNat * 4)).off + 1, none⟩ = some (.slice A284_1 ((rd_T51 l1 x9_1).f0.f1).length c284_1) ∧ w'.cell? ⟨(ad265.add ((x9_1).toNat * 4)).block, (ad265.add ((x9_1).toNat * 4)).off + 2, none⟩ = some (.slice (some ad285) ((rd_T51 l1 x9_1).f0.f2).length c284_2) ∧ w'.cell? ⟨(ad265.add ((x9_1).toNat * 4)).block, (ad265.add ((x9_1).toNat * 4)).off + 3, none⟩ = some (.int .u64 ((rd_T51 l1 x9_1).f1)) ∧ w'.cell? (ad285.add (x11_3).toNat) = some (.int .i64 (rd ((rd_T51 l1 x9_1).f0.f2) x11_3))) (ds := [13]) #[false, false, false, false, false, false, false, false, false, false, false, false, false, false] (by kernel_rfl) rfl rfl ⟨(blk_cell BK272.out 0).trans rfl, (blk_cell BK272.out 1).trans rfl, (blk_cell BK272.out 2).trans rfl, ((HB.out.cell (World.block_lt_of_cell? w _ hw284_0)).trans hw284_0), ((HB.out.cell (World.block_lt_of_cell? w _ hw284_1)).trans hw284_1), ((HB.out.cell (World.block_lt_of_cell? w _ hw284_2)).trans hw284_2), ((HB.out.cell (World.block_lt_of_cell? w _ hw284_3)).trans hw284_3), ((HB.out.cell (World.block_lt_of_cell? w _ hw285_0)).trans hw285_0)⟩ (fun hHeld => ?_); refine with_tabW gristmilllaw06_right.tab14 gristmilllaw06_right.bits14 (fun HT_ HW_ => ?_)
                                          generalize w52.drew = w53 at HO_8 HO_273001 HO_273002 BK259 BK260 BK261 BK262 BK272 HB GG49 HQ51 HQ54 HR284_1 HR284_2 hf49_0 hx284_0 hx284_1 hx284_2 hx284_3 hx285_0 hx49_0 hHeld ⊢
                                          refine pure_ (i := 0) (N := some 90) (v := ?_) (a' := ?_) #[true, false, false, false, false, false, false, false, false, false, false, false, false, false] rfl rfl (any_of HT_.out (by kernel_rfl)) (fun _ _ _ h => h) (Or.inl ⟨by rfl, ?_⟩) ?_ ?_
                                          rotate_left
                                          · intro w'
                                            go_simp
                                            with_reducible rfl
                                          rotate_left
                                          · simp only [Act.put, List.setIfInBounds_toArray, List.set_cons_zero, List.set_cons_succ, i64_w, i32_w]
                                            rfl
                                          refine pure_ (i := 2) (N := some 92) (v := ?_) (a' := ?_) #[true, false, true, false, false, false, false, false, false, false, false, false, false, false] rfl rfl (any_of HT_.out (by kernel_rfl)) (fun _ _ _ h => h) (Or.inl ⟨by rfl, ?_⟩) ?_ ?_
                                          rotate_left
                                          · intro w'
                                            go_simp
                                            with_reducible rfl
                                          rotate_left
                                          · simp only [Act.put, List.setIfInBounds_toArray, List.set_cons_zero, List.set_cons_succ, i64_w, i32_w]
                                            rfl
                                          refine pure_ (i := 3) (N := some 93) (v := ?_) (a' := ?_) #[true, false, true, true, false, false, false, false, false, false, false, false, false, false] rfl rfl (any_of HT_.out (by kernel_rfl)) (fun _ _ _ h => h) (Or.inl ⟨by rfl, ?_⟩) ?_ ?_
                                          rotate_left
                                          · intro w'
                                            go_simp
                                            with_reducible rfl
                                          rotate_left
                                          · simp only [Act.put, List.setIfInBounds_toArray, List.set_cons_zero, List.set_cons_succ, i64_w, i32_w]
                                            rfl
                                          refine pure_ (i := 4) (N := some 94) (v := ?_) (a' := ?_) #[true, false, true, true, true, false, false, false, false, false, false, false, false, false] rfl rfl (any_of HT_.out (by kernel_rfl)) (fun _ _ _ h => h) (Or.inl ⟨by rfl, ?_⟩) ?_ ?_
                                          rotate_left
                                          · intro w'
                                            go_simp
                                            with_reducible rfl
                                          rotate_left
                                          · simp only [Act.put, List.setIfInBounds_toArray, List.set_cons_zero, List.set_cons_succ, i64_w, i32_w]
                                            rfl
                                          refine pure_ (i := 5) (N := some 95) (v := ?_) (a' := ?_) #[true, false, true, true, true, true, false, false, false, false, false, false, false, false] rfl rfl (any_of HT_.out (by kernel_rfl)) (fun _ _ _ h => h) (Or.inl ⟨by rfl, ?_⟩) ?_ ?_
                                          rotate_left
                                          · intro w'
                                            go_simp
                                            with_reducible rfl
                                          rotate_left
                                          · simp only [Act.put, List.setIfInBounds_toArray, List.set_cons_zero, List.set_cons_succ, i64_w, i32_w]
                                            rfl
                                          refine pure_ (i := 6) (N := some 96) (v := ?_) (a' := ?_) #[true, false, true, true, true, true, true, false, false, false, false, false, false, false] rfl rfl (any_of HT_.out (by kernel_rfl)) (fun _ _ _ h => h) (Or.inl ⟨by rfl, ?_⟩) ?_ ?_
                                          rotate_left
                                          · intro w'
                                            go_simp
                                            with_reducible rfl
                                          rotate_left
                                          · simp only [Act.put, List.setIfInBounds_toArray, List.set_cons_zero, List.set_cons_succ, i64_w, i32_w]
                                            rfl
                                          refine pure_ (i := 7) (N := some 97) (v := ?_) (a' := ?_) #[true, false, true, true, true, true, true, true, false, false, false, false, false, false] rfl rfl (any_of HT_.out (by kernel_rfl)) (fun _ _ _ h => h) (Or.inl ⟨by rfl, ?_⟩) ?_ ?_
                                          rotate_left
                                          · intro w'
                                            go_simp
                                            with_reducible rfl
                                          rotate_left
                                          · simp only [Act.put, List.setIfInBounds_toArray, List.set_cons_zero, List.set_cons_succ, i64_w, i32_w]
                                            rfl
                                          refine pure_ (i := 9) (N := some 99) (v := ?_) (a' := ?_) #[true, false, true, true, true, true, true, true, false, true, false, false, false, false] rfl rfl (any_of HT_.out (by kernel_rfl)) (fun _ _ _ h => h) (Or.inl ⟨by rfl, ?_⟩) ?_ ?_
                                          rotate_left
                                          · intro w'
                                            go_simp
                                            with_reducible rfl
                                          rotate_left
                                          · simp only [Act.put, List.setIfInBounds_toArray, List.set_cons_zero, List.set_cons_succ, i64_w, i32_w]
                                            rfl
                                          refine take_ (i := 1) (N := some 91) (v := ?_) (a' := ?_) #[true, true, true, true, true, true, true, true, false, true, false, false, false, false] rfl rfl (take_ofW HT_.out HW_.out (by kernel_rfl)) (fun _ _ _ h => h) (Or.inl ⟨by rfl, ?_⟩) hHeld ?_ ?_
                                          rotate_left
                                          · rintro w' ⟨s0, s1, s2, s3, s4, s5, s6, s7⟩
                                            go_simp
                                            with_reducible rfl
                                          rotate_left
                                          · simp only [Act.put, List.setIfInBounds_toArray, List.set_cons_zero, List.set_cons_succ, i64_w, i32_w]
                                            rfl
                                          refine take_ (i := 8) (N := some 98) (v := ?_) (a' := ?_) #[true, true, true, true, true, true, true, true, true, true, false, false, false, false] rfl rfl (take_ofW HT_.out HW_.out (by kernel_rfl)) (fun _ _ _ h => h) (Or.inl ⟨by rfl, ?_⟩) hHeld ?_ ?_
                                          rotate_left
                                          · rintro w' ⟨s0, s1, s2, s3, s4, s5, s6, s7⟩
                                            go_simp
                                            with_reducible rfl
                                          rotate_left
                                          · simp only [Act.put, List.setIfInBounds_toArray, List.set_cons_zero, List.set_cons_succ, i64_w, i32_w]
                                            rfl
                                          refine pure_ (i := 10) (N := some 100) (v := ?_) (a' := ?_) #[true, true, true, true, true, true, true, true, true, true, true, false, false, false] rfl rfl (any_of HT_.out (by kernel_rfl)) (fun _ _ _ h => h) (Or.inl ⟨by rfl, ?_⟩) ?_ ?_
                                          rotate_left
                                          · intro w'
                                            go_simp
                                            with_reducible rfl
                                          rotate_left
                                          · simp only [Act.put, List.setIfInBounds_toArray, List.set_cons_zero, List.set_cons_succ, i64_w, i32_w]
                                            rfl
                                          refine take_ (i := 11) (N := some 101) (v := ?_) (a' := ?_) #[true, true, true, true, true, true, true, true, true, true, true, true, false, false] rfl rfl (take_ofW HT_.out HW_.out (by kernel_rfl)) (fun _ _ _ h => h) (Or.inl ⟨by rfl, ?_⟩) hHeld ?_ ?_
                                          rotate_left
                                          · rintro w' ⟨s0, s1, s2, s3, s4, s5, s6, s7⟩
                                            go_simp
                                            with_reducible rfl
                                          rotate_left
                                          · simp only [Act.put, List.setIfInBounds_toArray, List.set_cons_zero, List.set_cons_succ, i64_w, i32_w]
                                            rfl
                                          refine pure_ (i := 12) (N := some 102) (v := ?_) (a' := ?_) #[true, true, true, true, true, true, true, true, true, true, true, true, true, false] rfl rfl (any_of HT_.out (by kernel_rfl)) (fun _ _ _ h => h) (Or.inl ⟨by rfl, ?_⟩) ?_ ?_
                                          rotate_left
                                          · intro w'
                                            go_simp
                                            with_reducible rfl
                                          rotate_left
                                          · simp only [Act.put, List.setIfInBounds_toArray, List.set_cons_zero, List.set_cons_succ, i64_w, i32_w]
                                            rfl
                                          refine last_ (i := 13) (N := none) #[true, true, true, true, true, true, true, true, true, true, true, true, true, true] rfl rfl (one_of HT_.out (by kernel_rfl)) (by decide) (fun K hK => ?_)
                                          refine skip_ (w1 := ?_) (by rfl) rfl ?_ ?_
                                          rotate_left
                                          · go_simp
                                            rfl
                                          refine hK.out _ _ ?_
                                          clear hK K
                                          refine done_ (done_of HT_.out (by kernel_rfl)) ?_
                                          try go_wp2
                                          go_roundg kj34
                                          case measure => have := HK1.out; have := HJ16.out; have := HK3.out; have := HJ34.out; omega
                                          case rel => exact ⟨(wrap64 (x11_3 + 1)), (y282), (y286), (.slice (some ⟨go46, 0, none⟩) x273001_3.length co46), (.slice (some ⟨go49, 0, none⟩) x273002_3.length co49), (by first | rfl | (simp; done) | (simp [*]; done)), H', ⟨by have := HK1.out; have := HJ16.out; have := HK3.out; have := HJ34.out; omega⟩, ⟨by (with_reducible repeat (first | apply Kd.S_alloc | apply Kd.S_drewN | apply Kd.S_drew)); exact Kd.S_mono (Kd.S_far (p := ⟨go49, (x11_3 : Int).toNat, none⟩) (Kd.S_mono HO_8.out (fun k_ hk => (⟨hk, fun e_ => hk.2 (by rw [e_]; rfl)⟩ : _ ∧ k_ ≠ go49))) (fun _ hk => hk.2) (.int .i64 (rd ((rd_T51 l1 x9_1).f0.f2) x11_3))) (fun _ hk => ⟨hk.1.1, hk.1.2⟩)⟩, ⟨by (with_reducible repeat (first | apply Kd.R_alloc | apply Kd.R_drewN | apply Kd.R_drew)); exact Kd.R_mono (Kd.R_far (p := ⟨go49, (x11_3 : Int).toNat, none⟩) (Kd.R_types HO_273001.out GG49.out (by decide)) (fun _ hk => hk.2) (.int .i64 (rd ((rd_T51 l1 x9_1).f0.f2) x11_3))) (fun _ hk => trivial)⟩, ⟨by (with_reducible repeat (first | apply Kd.R_alloc | apply Kd.R_drewN | apply Kd.R_drew)); exact HQ54.out⟩, ⟨by (with_reducible repeat (first | refine blk_drewN ?_ _ | refine blk_drew ?_ | refine blk_alloc ?_ _)); refine blk_far ?_ (by have h_ := Kd.R_ne HO_273002.out BK259.out (by decide); intro e_; exact h_ (by rw [e_]; rfl)) _; (with_reducible repeat (first | refine blk_drewN ?_ _ | refine blk_drew ?_ | refine blk_alloc ?_ _)); exact BK259.out⟩, ⟨by (with_reducible repeat (first | refine blk_drewN ?_ _ | refine blk_drew ?_ | refine blk_alloc ?_ _)); refine blk_far ?_ (by have h_ := Kd.R_ne HO_273002.out BK260.out (by decide); intro e_; exact h_ (by rw [e_]; rfl)) _; (with_reducible repeat (first | refine blk_drewN ?_ _ | refine blk_drew ?_ | refine blk_alloc ?_ _)); exact BK260.out⟩, ⟨by (with_reducible repeat (first | refine blk_drewN ?_ _ | refine blk_drew ?_ | refine blk_alloc ?_ _)); refine blk_far ?_ (by have h_ := Kd.R_ne HO_273002.out BK261.out (by decide); intro e_; exact h_ (by rw [e_]; rfl)) _; (with_reducible repeat (first | refine blk_drewN ?_ _ | refine blk_drew ?_ | refine blk_alloc ?_ _)); exact BK261.out⟩, ⟨by (with_reducible repeat (first | refine blk_drewN ?_ _ | refine blk_drew ?_ | refine blk_alloc ?_ _)); refine blk_far ?_ (by have h_ := Kd.R_ne HO_273002.out BK262.out (by decide); intro e_; exact h_ (by rw [e_]; rfl)) _; (with_reducible repeat (first | refine blk_drewN ?_ _ | refine blk_drew ?_ | refine blk_alloc ?_ _)); exact BK262.out⟩, ⟨by (with_reducible repeat (first | refine blk_drewN ?_ _ | refine blk_drew ?_ | refine blk_alloc ?_ _)); refine blk_far ?_ (by have h_ := Kd.R_ne HO_273002.out BK272.out (by decide); intro e_; exact h_ (by rw [e_]; rfl)) _; (with_reducible repeat (first | refine blk_drewN ?_ _ | refine blk_drew ?_ | refine blk_alloc ?_ _)); exact BK272.out⟩, ⟨by repeat (first | (with_reducible first | exact HB.out | apply below_alloc | apply pw_below_drewN | apply below_drew1 | refine below_set ?_ GB49.out | refine below_set ?_ GE259.out | refine below_set ?_ GE260.out | refine below_set ?_ GE261.out | refine below_set ?_ GE262.out | refine below_set ?_ GE272.out) | exact HB.out)⟩⟩
                                        · rw [if_neg c48] at H
                                          exact absurd H (by simp)
                                      · rw [if_neg c47] at H
                                        have c47b0 : decide (x11_3 < (((rd_T51 l1 x9_1).f0.f2).length : Int)) = false := decide_eq_false c47
                                        clear c47
                                        have H' := Aside0.mk H
                                        clear H
                                        try go_wp2
                                        have n0_ := Aside0.mk (Kd.S_drew HO_8.out)
                                        have n1_ := Aside0.mk (Kd.R_drew HO_273001.out)
                                        have n2_ := Aside0.mk (Kd.R_drew HO_273002.out)
                                        have n3_ := Aside0.mk (blk_drew BK259.out)
                                        have n4_ := Aside0.mk (blk_drew BK260.out)
                                        have n5_ := Aside0.mk (blk_drew BK261.out)
                                        have n6_ := Aside0.mk (blk_drew BK262.out)
                                        have n7_ := Aside0.mk (blk_drew BK272.out)
                                        have n8_ := Aside0.mk (below_drew1 HB.out)
                                        clear HO_8
                                        clear HO_273001
                                        clear HO_273002
                                        clear BK259
                                        clear BK260
                                        clear BK261
                                        clear BK262
                                        clear BK272
                                        clear HB
                                        have HO_8 := n0_
                                        have HO_273001 := n1_
                                        have HO_273002 := n2_
                                        have BK259 := n3_
                                        have BK260 := n4_
                                        have BK261 := n5_
                                        have BK262 := n6_
                                        have BK272 := n7_
                                        have HB := n8_
                                        clear n0_ n1_ n2_ n3_ n4_ n5_ n6_ n7_ n8_
                                        have p280 : 0 ≤ (x9_1 : Int) := of_decide_eq_true (by first | (with_reducible assumption) | assumption)
                                        have q280 : x9_1 < (l1.length : Int) := of_decide_eq_true (by first | (with_reducible assumption) | assumption)
                                        obtain ⟨ad280, A280_1, c280_1, A280_2, c280_2, e280, hx280_0, hx280_1, hx280_2, hx280_3, hl280_1, hi280_1, hl280_2, hi280_2⟩ := at_T51 HR1.out x9_1 p280 q280
                                        have hw280_3 := hx280_3
                                        have hw280_2 := hx280_2
                                        have hw280_1 := hx280_1
                                        have hw280_0 := hx280_0
                                        obtain rfl : ad265 = ad280 := (by injection e280)
                                        replace hx280_0 := (HB.out.cell (World.block_lt_of_cell? w _ hx280_0)).trans hx280_0
                                        replace hx280_1 := (HB.out.cell (World.block_lt_of_cell? w _ hx280_1)).trans hx280_1
                                        replace hx280_2 := (HB.out.cell (World.block_lt_of_cell? w _ hx280_2)).trans hx280_2
                                        replace hx280_3 := (HB.out.cell (World.block_lt_of_cell? w _ hx280_3)).trans hx280_3
                                        have HR280_1 := Aside0.mk hi280_1
                                        have HC280_1 := Aside0.mk hl280_1
                                        clear hi280_1 hl280_1
                                        have HR280_2 := Aside0.mk hi280_2
                                        have HC280_2 := Aside0.mk hl280_2
                                        clear hi280_2 hl280_2
                                        replace p280 := eq_true p280
                                        replace q280 := eq_true q280
                                        have p281 : 0 ≤ (x11_3 : Int) := of_decide_eq_true (by first | (with_reducible assumption) | assumption)
                                        have q281 : x11_3 < (((rd_T51 l1 x9_1).f0.f1).length : Int) := of_decide_eq_true (by first | (with_reducible assumption) | assumption)
                                        obtain ⟨ad281, e281, hx281_0⟩ := Kd.at_string HR280_1.out x11_3 p281 q281
                                        have hw281_0 := hx281_0
                                        cases e281
                                        replace hx281_0 := (HB.out.cell (World.block_lt_of_cell? w _ hx281_0)).trans hx281_0
                                        replace p281 := eq_true p281
                                        replace q281 := eq_true q281
                                        have p46 : 0 ≤ (x11_3 : Int) := of_decide_eq_true (by first | (with_reducible assumption) | assumption)
                                        have q46 : (x11_3 : Int) < ((x273001_3.length : Int) : Int) := of_decide_eq_true (by first | (with_reducible assumption) | assumption)
                                        obtain ⟨go46, co46, eo46, gb46, gl46, cl46, HG46⟩ := Kd.R_form HO_273001.out (by omega)
                                        (first | cases eo46 | (injection eo46 with ea_ en_ ec_; (first | subst ea_ | (injection ea_ with ea_; subst ea_)); subst ec_; clear en_))
                                        have GB46 := Aside0.mk gb46
                                        have GG46 := Aside0.mk HG46
                                        clear gb46 gl46 HG46
                                        obtain ⟨hx46_0, hf46_0⟩ := Kd.R_celln (⟨#[]⟩ : ByteArray) HO_273001.out (x11_3 : Int) p46 q46
                                        replace p46 := eq_true p46
                                        replace q46 := eq_true q46
                                        have HP56 := Kd.R_putn HO_273001.out (x11_3 : Int) (rdOf ByteArray.empty ((rd_T51 l1 x9_1).f0.f1) x11_3)
                                        rw [← Ny282.out] at HP56
                                        have HQ56 := Aside0.mk HP56
                                        clear HP56
                                        refine start_ (n := 14) (S := fun w' => w'.cell? ⟨gb272, 0, none⟩ = some (.int .i64 ((rd_T51 l1 x9_1).f0.f0)) ∧ w'.cell? ⟨gb272, 1, none⟩ = some (.slice (some ⟨go46, 0, none⟩) x273001_3.length co46) ∧ w'.cell? ⟨gb272, 2, none⟩ = some (u273002) ∧ w'.cell? (ad265.add ((x9_1).toNat * 4)) = some (.int .i64 ((rd_T51 l1 x9_1).f0.f0)) ∧ w'.cell? ⟨(ad265.add ((x9_1).toNat * 4)).block, (ad265.add ((x9_1).toNat * 4)).off + 1, none⟩ = some (.slice (some ad281) ((rd_T51 l1 x9_1).f0.f1).length c280_1) ∧ w'.cell? ⟨(ad265.add ((x9_1).toNat * 4)).block, (ad265.add ((x9_1).toNat * 4)).off + 2, none⟩ = some (.slice A280_2 ((rd_T51 l1 x9_1).f0.f2).length c280_2) ∧ w'.cell? ⟨(ad265.add ((x9_1).toNat * 4)).block, (ad265.add ((x9_1).toNat * 4)).off + 3, none⟩ = some (.int .u64 ((rd_T51 l1 x9_1).f1)) ∧ w'.cell? (ad281.add (x11_3).toNat) = some (.string (rdOf ByteArray.empty ((rd_T51 l1 x9_1).f0.f1) x11_3))) (ds := [13]) #[false, false, false, false, false, false, false, false, false, false, false, false, false, false] (by kernel_rfl) rfl rfl ⟨(blk_cell BK272.out 0).trans rfl, (blk_cell BK272.out 1).trans rfl, (blk_cell BK272.out 2).trans rfl, ((HB.out.cell (World.block_lt_of_cell? w _ hw280_0)).trans hw280_0), ((HB.out.cell (World.block_lt_of_cell? w _ hw280_1)).trans hw280_1), ((HB.out.cell (World.block_lt_of_cell? w _ hw280_2)).trans hw280_2), ((HB.out.cell (World.block_lt_of_cell? w _ hw280_3)).trans hw280_3), ((HB.out.cell (World.block_lt_of_cell? w _ hw281_0)).trans hw281_0)⟩ (fun hHeld => ?_); refine with_tabW gristmilllaw06_right.tab12 gristmilllaw06_right.bits12 (fun HT_ HW_ => ?_)
                                        generalize wc.drew = w55 at HO_8 HO_273001 HO_273002 BK259 BK260 BK261 BK262 BK272 HB GG46 HQ56 HR280_1 HR280_2 hf46_0 hx280_0 hx280_1 hx280_2 hx280_3 hx281_0 hx46_0 hHeld ⊢
                                        refine pure_ (i := 0) (N := some 68) (v := ?_) (a' := ?_) #[true, false, false, false, false, false, false, false, false, false, false, false, false, false] rfl rfl (any_of HT_.out (by kernel_rfl)) (fun _ _ _ h => h) (Or.inl ⟨by rfl, ?_⟩) ?_ ?_
                                        rotate_left
                                        · intro w'
                                          go_simp
                                          with_reducible rfl
                                        rotate_left
                                        · simp only [Act.put, List.setIfInBounds_toArray, List.set_cons_zero, List.set_cons_succ, i64_w, i32_w]
                                          rfl
                                        refine pure_ (i := 2) (N := some 70) (v := ?_) (a' := ?_) #[true, false, true, false, false, false, false, false, false, false, false, false, false, false] rfl rfl (any_of HT_.out (by kernel_rfl)) (fun _ _ _ h => h) (Or.inl ⟨by rfl, ?_⟩) ?_ ?_
                                        rotate_left
                                        · intro w'
                                          go_simp
                                          with_reducible rfl
                                        rotate_left
                                        · simp only [Act.put, List.setIfInBounds_toArray, List.set_cons_zero, List.set_cons_succ, i64_w, i32_w]
                                          rfl
                                        refine pure_ (i := 3) (N := some 71) (v := ?_) (a' := ?_) #[true, false, true, true, false, false, false, false, false, false, false, false, false, false] rfl rfl (any_of HT_.out (by kernel_rfl)) (fun _ _ _ h => h) (Or.inl ⟨by rfl, ?_⟩) ?_ ?_
                                        rotate_left
                                        · intro w'
                                          go_simp
                                          with_reducible rfl
                                        rotate_left
                                        · simp only [Act.put, List.setIfInBounds_toArray, List.set_cons_zero, List.set_cons_succ, i64_w, i32_w]
                                          rfl
                                        refine pure_ (i := 4) (N := some 72) (v := ?_) (a' := ?_) #[true, false, true, true, true, false, false, false, false, false, false, false, false, false] rfl rfl (any_of HT_.out (by kernel_rfl)) (fun _ _ _ h => h) (Or.inl ⟨by rfl, ?_⟩) ?_ ?_
                                        rotate_left
                                        · intro w'
                                          go_simp
                                          with_reducible rfl
                                        rotate_left
                                        · simp only [Act.put, List.setIfInBounds_toArray, List.set_cons_zero, List.set_cons_succ, i64_w, i32_w]
                                          rfl
                                        refine pure_ (i := 5) (N := some 73) (v := ?_) (a' := ?_) #[true, false, true, true, true, true, false, false, false, false, false, false, false, false] rfl rfl (any_of HT_.out (by kernel_rfl)) (fun _ _ _ h => h) (Or.inl ⟨by rfl, ?_⟩) ?_ ?_
                                        rotate_left
                                        · intro w'
                                          go_simp
                                          with_reducible rfl
                                        rotate_left
                                        · simp only [Act.put, List.setIfInBounds_toArray, List.set_cons_zero, List.set_cons_succ, i64_w, i32_w]
                                          rfl
                                        refine pure_ (i := 6) (N := some 74) (v := ?_) (a' := ?_) #[true, false, true, true, true, true, true, false, false, false, false, false, false, false] rfl rfl (any_of HT_.out (by kernel_rfl)) (fun _ _ _ h => h) (Or.inl ⟨by rfl, ?_⟩) ?_ ?_
                                        rotate_left
                                        · intro w'
                                          go_simp
                                          with_reducible rfl
                                        rotate_left
                                        · simp only [Act.put, List.setIfInBounds_toArray, List.set_cons_zero, List.set_cons_succ, i64_w, i32_w]
                                          rfl
                                        refine pure_ (i := 7) (N := some 75) (v := ?_) (a' := ?_) #[true, false, true, true, true, true, true, true, false, false, false, false, false, false] rfl rfl (any_of HT_.out (by kernel_rfl)) (fun _ _ _ h => h) (Or.inl ⟨by rfl, ?_⟩) ?_ ?_
                                        rotate_left
                                        · intro w'
                                          go_simp
                                          with_reducible rfl
                                        rotate_left
                                        · simp only [Act.put, List.setIfInBounds_toArray, List.set_cons_zero, List.set_cons_succ, i64_w, i32_w]
                                          rfl
                                        refine pure_ (i := 9) (N := some 77) (v := ?_) (a' := ?_) #[true, false, true, true, true, true, true, true, false, true, false, false, false, false] rfl rfl (any_of HT_.out (by kernel_rfl)) (fun _ _ _ h => h) (Or.inl ⟨by rfl, ?_⟩) ?_ ?_
                                        rotate_left
                                        · intro w'
                                          go_simp
                                          with_reducible rfl
                                        rotate_left
                                        · simp only [Act.put, List.setIfInBounds_toArray, List.set_cons_zero, List.set_cons_succ, i64_w, i32_w]
                                          rfl
                                        refine take_ (i := 1) (N := some 69) (v := ?_) (a' := ?_) #[true, true, true, true, true, true, true, true, false, true, false, false, false, false] rfl rfl (take_ofW HT_.out HW_.out (by kernel_rfl)) (fun _ _ _ h => h) (Or.inl ⟨by rfl, ?_⟩) hHeld ?_ ?_
                                        rotate_left
                                        · rintro w' ⟨s0, s1, s2, s3, s4, s5, s6, s7⟩
                                          go_simp
                                          with_reducible rfl
                                        rotate_left
                                        · simp only [Act.put, List.setIfInBounds_toArray, List.set_cons_zero, List.set_cons_succ, i64_w, i32_w]
                                          rfl
                                        refine take_ (i := 8) (N := some 76) (v := ?_) (a' := ?_) #[true, true, true, true, true, true, true, true, true, true, false, false, false, false] rfl rfl (take_ofW HT_.out HW_.out (by kernel_rfl)) (fun _ _ _ h => h) (Or.inl ⟨by rfl, ?_⟩) hHeld ?_ ?_
                                        rotate_left
                                        · rintro w' ⟨s0, s1, s2, s3, s4, s5, s6, s7⟩
                                          go_simp
                                          with_reducible rfl
                                        rotate_left
                                        · simp only [Act.put, List.setIfInBounds_toArray, List.set_cons_zero, List.set_cons_succ, i64_w, i32_w]
                                          rfl
                                        refine pure_ (i := 10) (N := some 78) (v := ?_) (a' := ?_) #[true, true, true, true, true, true, true, true, true, true, true, false, false, false] rfl rfl (any_of HT_.out (by kernel_rfl)) (fun _ _ _ h => h) (Or.inl ⟨by rfl, ?_⟩) ?_ ?_
                                        rotate_left
                                        · intro w'
                                          go_simp
                                          with_reducible rfl
                                        rotate_left
                                        · simp only [Act.put, List.setIfInBounds_toArray, List.set_cons_zero, List.set_cons_succ, i64_w, i32_w]
                                          rfl
                                        refine take_ (i := 11) (N := some 79) (v := ?_) (a' := ?_) #[true, true, true, true, true, true, true, true, true, true, true, true, false, false] rfl rfl (take_ofW HT_.out HW_.out (by kernel_rfl)) (fun _ _ _ h => h) (Or.inl ⟨by rfl, ?_⟩) hHeld ?_ ?_
                                        rotate_left
                                        · rintro w' ⟨s0, s1, s2, s3, s4, s5, s6, s7⟩
                                          go_simp
                                          with_reducible rfl
                                        rotate_left
                                        · simp only [Act.put, List.setIfInBounds_toArray, List.set_cons_zero, List.set_cons_succ, i64_w, i32_w]
                                          rfl
                                        refine pure_ (i := 12) (N := some 80) (v := ?_) (a' := ?_) #[true, true, true, true, true, true, true, true, true, true, true, true, true, false] rfl rfl (any_of HT_.out (by kernel_rfl)) (fun _ _ _ h => h) (Or.inl ⟨by rfl, ?_⟩) ?_ ?_
                                        rotate_left
                                        · intro w'
                                          go_simp
                                          with_reducible rfl
                                        rotate_left
                                        · simp only [Act.put, List.setIfInBounds_toArray, List.set_cons_zero, List.set_cons_succ, i64_w, i32_w]
                                          rfl
                                        refine last_ (i := 13) (N := none) #[true, true, true, true, true, true, true, true, true, true, true, true, true, true] rfl rfl (one_of HT_.out (by kernel_rfl)) (by decide) (fun K hK => ?_)
                                        refine skip_ (w1 := ?_) (by rfl) rfl ?_ ?_
                                        rotate_left
                                        · go_simp
                                          rfl
                                        refine hK.out _ _ ?_
                                        clear hK K
                                        refine done_ (done_of HT_.out (by kernel_rfl)) ?_
                                        have p283 : 0 ≤ (x9_1 : Int) := of_decide_eq_true (by first | (with_reducible assumption) | assumption)
                                        have q283 : x9_1 < (l1.length : Int) := of_decide_eq_true (by first | (with_reducible assumption) | assumption)
                                        obtain ⟨ad283, A283_1, c283_1, A283_2, c283_2, e283, hx283_0, hx283_1, hx283_2, hx283_3, hl283_1, hi283_1, hl283_2, hi283_2⟩ := at_T51 HR1.out x9_1 p283 q283
                                        obtain rfl : ad265 = ad283 := (by injection e283)
                                        have hn283_0 : ad265.block ≠ go46 := Nat.ne_of_lt (Nat.lt_of_lt_of_le (by have := World.block_lt_of_cell? _ _ hx283_0; first | rwa [add_block] at this | exact this) GB46.out)
                                        replace hx283_0 := (HB.out.cell (World.block_lt_of_cell? w _ hx283_0)).trans hx283_0
                                        replace hx283_1 := (HB.out.cell (World.block_lt_of_cell? w _ hx283_1)).trans hx283_1
                                        replace hx283_2 := (HB.out.cell (World.block_lt_of_cell? w _ hx283_2)).trans hx283_2
                                        replace hx283_3 := (HB.out.cell (World.block_lt_of_cell? w _ hx283_3)).trans hx283_3
                                        have HR283_1 := Aside0.mk hi283_1
                                        have HC283_1 := Aside0.mk hl283_1
                                        clear hi283_1 hl283_1
                                        have HR283_2 := Aside0.mk hi283_2
                                        have HC283_2 := Aside0.mk hl283_2
                                        clear hi283_2 hl283_2
                                        replace hx283_0 := (cell_far (p := ⟨go46, (x11_3 : Int).toNat, none⟩) (by first | (rw [add_block]; exact hn283_0) | (show (Addr.add _ _).block ≠ _; rw [add_block]; exact hn283_0) | exact hn283_0) (.string (rdOf ByteArray.empty ((rd_T51 l1 x9_1).f0.f1) x11_3))).trans hx283_0
                                        replace hx283_1 := (cell_far (p := ⟨go46, (x11_3 : Int).toNat, none⟩) (by first | (rw [add_block]; exact hn283_0) | (show (Addr.add _ _).block ≠ _; rw [add_block]; exact hn283_0) | exact hn283_0) (.string (rdOf ByteArray.empty ((rd_T51 l1 x9_1).f0.f1) x11_3))).trans hx283_1
                                        replace hx283_2 := (cell_far (p := ⟨go46, (x11_3 : Int).toNat, none⟩) (by first | (rw [add_block]; exact hn283_0) | (show (Addr.add _ _).block ≠ _; rw [add_block]; exact hn283_0) | exact hn283_0) (.string (rdOf ByteArray.empty ((rd_T51 l1 x9_1).f0.f1) x11_3))).trans hx283_2
                                        replace hx283_3 := (cell_far (p := ⟨go46, (x11_3 : Int).toNat, none⟩) (by first | (rw [add_block]; exact hn283_0) | (show (Addr.add _ _).block ≠ _; rw [add_block]; exact hn283_0) | exact hn283_0) (.string (rdOf ByteArray.empty ((rd_T51 l1 x9_1).f0.f1) x11_3))).trans hx283_3
                                        clear hn283_0
                                        replace p283 := eq_true p283
                                        replace q283 := eq_true q283
                                        try go_wp2
                                        go_roundg kj34
                                        case measure => have := HK1.out; have := HJ16.out; have := HK3.out; have := HJ34.out; omega
                                        case rel => exact ⟨(wrap64 (x11_3 + 1)), (y282), (x273002_3), (.slice (some ⟨go46, 0, none⟩) x273001_3.length co46), (u273002), (by first | rfl | (simp; done) | (simp [*]; done)), H', ⟨by have := HK1.out; have := HJ16.out; have := HK3.out; have := HJ34.out; omega⟩, ⟨by (with_reducible repeat (first | apply Kd.S_alloc | apply Kd.S_drewN | apply Kd.S_drew)); exact Kd.S_mono (Kd.S_far (p := ⟨go46, (x11_3 : Int).toNat, none⟩) (Kd.S_mono HO_8.out (fun k_ hk => (⟨hk, fun e_ => hk.1 (by rw [e_]; rfl)⟩ : _ ∧ k_ ≠ go46))) (fun _ hk => hk.2) (.string (rdOf ByteArray.empty ((rd_T51 l1 x9_1).f0.f1) x11_3))) (fun _ hk => ⟨hk.1.1, hk.1.2⟩)⟩, ⟨by (with_reducible repeat (first | apply Kd.R_alloc | apply Kd.R_drewN | apply Kd.R_drew)); exact HQ56.out⟩, ⟨by (with_reducible repeat (first | apply Kd.R_alloc | apply Kd.R_drewN | apply Kd.R_drew)); exact Kd.R_mono (Kd.R_far (p := ⟨go46, (x11_3 : Int).toNat, none⟩) (Kd.R_types HO_273002.out GG46.out (by decide)) (fun _ hk => hk.2) (.string (rdOf ByteArray.empty ((rd_T51 l1 x9_1).f0.f1) x11_3))) (fun _ hk => trivial)⟩, ⟨by (with_reducible repeat (first | refine blk_drewN ?_ _ | refine blk_drew ?_ | refine blk_alloc ?_ _)); refine blk_far ?_ (by have h_ := Kd.R_ne HO_273001.out BK259.out (by decide); intro e_; exact h_ (by rw [e_]; rfl)) _; (with_reducible repeat (first | refine blk_drewN ?_ _ | refine blk_drew ?_ | refine blk_alloc ?_ _)); exact BK259.out⟩, ⟨by (with_reducible repeat (first | refine blk_drewN ?_ _ | refine blk_drew ?_ | refine blk_alloc ?_ _)); refine blk_far ?_ (by have h_ := Kd.R_ne HO_273001.out BK260.out (by decide); intro e_; exact h_ (by rw [e_]; rfl)) _; (with_reducible repeat (first | refine blk_drewN ?_ _ | refine blk_drew ?_ | refine blk_alloc ?_ _)); exact BK260.out⟩, ⟨by (with_reducible repeat (first | refine blk_drewN ?_ _ | refine blk_drew ?_ | refine blk_alloc ?_ _)); refine blk_far ?_ (by have h_ := Kd.R_ne HO_273001.out BK261.out (by decide); intro e_; exact h_ (by rw [e_]; rfl)) _; (with_reducible repeat (first | refine blk_drewN ?_ _ | refine blk_drew ?_ | refine blk_alloc ?_ _)); exact BK261.out⟩, ⟨by (with_reducible repeat (first | refine blk_drewN ?_ _ | refine blk_drew ?_ | refine blk_alloc ?_ _)); refine blk_far ?_ (by have h_ := Kd.R_ne HO_273001.out BK262.out (by decide); intro e_; exact h_ (by rw [e_]; rfl)) _; (with_reducible repeat (first | refine blk_drewN ?_ _ | refine blk_drew ?_ | refine blk_alloc ?_ _)); exact BK262.out⟩, ⟨by (with_reducible repeat (first | refine blk_drewN ?_ _ | refine blk_drew ?_ | refine blk_alloc ?_ _)); refine blk_far ?_ (by have h_ := Kd.R_ne HO_273001.out BK272.out (by decide); intro e_; exact h_ (by rw [e_]; rfl)) _; (with_reducible repeat (first | refine blk_drewN ?_ _ | refine blk_drew ?_ | refine blk_alloc ?_ _)); exact BK272.out⟩, ⟨by repeat (first | (with_reducible first | exact HB.out | apply below_alloc | apply pw_below_drewN | apply below_drew1 | refine below_set ?_ GB46.out | refine below_set ?_ GE259.out | refine below_set ?_ GE260.out | refine below_set ?_ GE261.out | refine below_set ?_ GE262.out | refine below_set ?_ GE272.out) | exact HB.out)⟩⟩
                                    · rw [if_neg c45] at H
                                      exact absurd H (by simp)
                                  · rw [if_neg c44] at H
                                    exact absurd H (by simp)
                                · rw [if_neg c43] at H
                                  exact absurd H (by simp)
                              · rw [if_neg c42] at H
                                exact absurd H (by simp)
                            · rw [if_neg c41] at H
                              exact absurd H (by simp)
                          · replace c40 := Bool.eq_false_iff.mpr c40
                            subst c40
                            have H1 : (if 0 ≤ x9_1 then (if x9_1 < (l1.length : Int) then (if x11_3 < (((rd_T51 l1 x9_1).f0.f2).length : Int) then (if 0 ≤ x11_3 then (if x11_3 < (x273002_3.length : Int) then (gristmilllaw06_right.l1 kj34 l1 x8_1 x9_1 (wrap64 (x11_3 + 1)) (wrap64 (1 + (Int.tmod t263 5))) (Int.tmod t264 2) 2 2 ((rd_T51 l1 x9_1).f0.f0) x273001_3 (x273002_3.set (x11_3 : Int).toNat (rd ((rd_T51 l1 x9_1).f0.f2) x11_3))) else (none)) else (none)) else (gristmilllaw06_right.l1 kj34 l1 x8_1 x9_1 (wrap64 (x11_3 + 1)) (wrap64 (1 + (Int.tmod t263 5))) (Int.tmod t264 2) 2 2 ((rd_T51 l1 x9_1).f0.f0) x273001_3 x273002_3)) else (none)) else (none)) = some (r1, r2, r3, r4, r5) := by rw [if_neg (show ¬ (false = true) by decide)] at H; exact H
                            clear H
                            have H := H1
                            clear H1
                            by_cases c57 : 0 ≤ x9_1
                            · rw [if_pos c57] at H
                              have c57b0 : decide (0 ≤ x9_1) = true := decide_eq_true c57
                              clear c57
                              by_cases c58 : x9_1 < (l1.length : Int)
                              · rw [if_pos c58] at H
                                have c58b0 : decide (x9_1 < (l1.length : Int)) = true := decide_eq_true c58
                                clear c58
                                by_cases c59 : x11_3 < (((rd_T51 l1 x9_1).f0.f2).length : Int)
                                · rw [if_pos c59] at H
                                  have c59b0 : decide (x11_3 < (((rd_T51 l1 x9_1).f0.f2).length : Int)) = true := decide_eq_true c59
                                  clear c59
                                  by_cases c60 : 0 ≤ x11_3
                                  · rw [if_pos c60] at H
                                    have c60b0 : decide (0 ≤ x11_3) = true := decide_eq_true c60
                                    clear c60
                                    by_cases c61 : x11_3 < (x273002_3.length : Int)
                                    · rw [if_pos c61] at H
                                      have c61b0 : decide (x11_3 < (x273002_3.length : Int)) = true := decide_eq_true c61
                                      clear c61
                                      obtain ⟨y290, hy290⟩ : ∃ y_ : List Int, y_ = (x273002_3.set (x11_3 : Int).toNat (rd ((rd_T51 l1 x9_1).f0.f2) x11_3)) := ⟨_, rfl⟩
                                      replace H : (gristmilllaw06_right.l1 kj34 l1 x8_1 x9_1 (wrap64 (x11_3 + 1)) (wrap64 (1 + (Int.tmod t263 5))) (Int.tmod t264 2) 2 2 ((rd_T51 l1 x9_1).f0.f0) x273001_3 y290) = some (r1, r2, r3, r4, r5) := by first | (rw [hy290]; with_reducible exact H) | (have H2_ := (Option.bind_some _ _).symm.trans H; rw [hy290]; with_reducible exact H2_) | (have H2_ := (Option.bind_some _ _).symm.trans H; with_reducible exact H2_) | with_reducible exact H | (rw [hy290]; exact H) | exact H
                                      have Ny290 := Aside0.mk hy290
                                      clear hy290
                                      have H' := Aside0.mk H
                                      clear H
                                      have p287 : 0 ≤ (x9_1 : Int) := of_decide_eq_true (by first | (with_reducible assumption) | assumption)
                                      have q287 : x9_1 < (l1.length : Int) := of_decide_eq_true (by first | (with_reducible assumption) | assumption)
                                      obtain ⟨ad287, A287_1, c287_1, A287_2, c287_2, e287, hx287_0, hx287_1, hx287_2, hx287_3, hl287_1, hi287_1, hl287_2, hi287_2⟩ := at_T51 HR1.out x9_1 p287 q287
                                      obtain rfl : ad265 = ad287 := (by injection e287)
                                      replace hx287_0 := (HB.out.cell (World.block_lt_of_cell? w _ hx287_0)).trans hx287_0
                                      replace hx287_1 := (HB.out.cell (World.block_lt_of_cell? w _ hx287_1)).trans hx287_1
                                      replace hx287_2 := (HB.out.cell (World.block_lt_of_cell? w _ hx287_2)).trans hx287_2
                                      replace hx287_3 := (HB.out.cell (World.block_lt_of_cell? w _ hx287_3)).trans hx287_3
                                      have HR287_1 := Aside0.mk hi287_1
                                      have HC287_1 := Aside0.mk hl287_1
                                      clear hi287_1 hl287_1
                                      have HR287_2 := Aside0.mk hi287_2
                                      have HC287_2 := Aside0.mk hl287_2
                                      clear hi287_2 hl287_2
                                      replace p287 := eq_true p287
                                      replace q287 := eq_true q287
                                      try go_wp2
                                      have n0_ := Aside0.mk (Kd.S_drew HO_8.out)
                                      have n1_ := Aside0.mk (Kd.R_drew HO_273001.out)
                                      have n2_ := Aside0.mk (Kd.R_drew HO_273002.out)
                                      have n3_ := Aside0.mk (blk_drew BK259.out)
                                      have n4_ := Aside0.mk (blk_drew BK260.out)
                                      have n5_ := Aside0.mk (blk_drew BK261.out)
                                      have n6_ := Aside0.mk (blk_drew BK262.out)
                                      have n7_ := Aside0.mk (blk_drew BK272.out)
                                      have n8_ := Aside0.mk (below_drew1 HB.out)
                                      clear HO_8
                                      clear HO_273001
                                      clear HO_273002
                                      clear BK259
                                      clear BK260
                                      clear BK261
                                      clear BK262
                                      clear BK272
                                      clear HB
                                      have HO_8 := n0_
                                      have HO_273001 := n1_
                                      have HO_273002 := n2_
                                      have BK259 := n3_
                                      have BK260 := n4_
                                      have BK261 := n5_
                                      have BK262 := n6_
                                      have BK272 := n7_
                                      have HB := n8_
                                      clear n0_ n1_ n2_ n3_ n4_ n5_ n6_ n7_ n8_
                                      have p288 : 0 ≤ (x9_1 : Int) := of_decide_eq_true (by first | (with_reducible assumption) | assumption)
                                      have q288 : x9_1 < (l1.length : Int) := of_decide_eq_true (by first | (with_reducible assumption) | assumption)
                                      obtain ⟨ad288, A288_1, c288_1, A288_2, c288_2, e288, hx288_0, hx288_1, hx288_2, hx288_3, hl288_1, hi288_1, hl288_2, hi288_2⟩ := at_T51 HR1.out x9_1 p288 q288
                                      have hw288_3 := hx288_3
                                      have hw288_2 := hx288_2
                                      have hw288_1 := hx288_1
                                      have hw288_0 := hx288_0
                                      obtain rfl : ad265 = ad288 := (by injection e288)
                                      replace hx288_0 := (HB.out.cell (World.block_lt_of_cell? w _ hx288_0)).trans hx288_0
                                      replace hx288_1 := (HB.out.cell (World.block_lt_of_cell? w _ hx288_1)).trans hx288_1
                                      replace hx288_2 := (HB.out.cell (World.block_lt_of_cell? w _ hx288_2)).trans hx288_2
                                      replace hx288_3 := (HB.out.cell (World.block_lt_of_cell? w _ hx288_3)).trans hx288_3
                                      have HR288_1 := Aside0.mk hi288_1
                                      have HC288_1 := Aside0.mk hl288_1
                                      clear hi288_1 hl288_1
                                      have HR288_2 := Aside0.mk hi288_2
                                      have HC288_2 := Aside0.mk hl288_2
                                      clear hi288_2 hl288_2
                                      replace p288 := eq_true p288
                                      replace q288 := eq_true q288
                                      have p289 : 0 ≤ (x11_3 : Int) := of_decide_eq_true (by first | (with_reducible assumption) | assumption)
                                      have q289 : x11_3 < (((rd_T51 l1 x9_1).f0.f2).length : Int) := of_decide_eq_true (by first | (with_reducible assumption) | assumption)
                                      obtain ⟨ad289, e289, hx289_0⟩ := Kd.at_int HR288_2.out x11_3 p289 q289
                                      have hw289_0 := hx289_0
                                      cases e289
                                      replace hx289_0 := (HB.out.cell (World.block_lt_of_cell? w _ hx289_0)).trans hx289_0
                                      replace p289 := eq_true p289
                                      replace q289 := eq_true q289
                                      have p62 : 0 ≤ (x11_3 : Int) := of_decide_eq_true (by first | (with_reducible assumption) | assumption)
                                      have q62 : (x11_3 : Int) < ((x273002_3.length : Int) : Int) := of_decide_eq_true (by first | (with_reducible assumption) | assumption)
                                      obtain ⟨go62, co62, eo62, gb62, gl62, cl62, HG62⟩ := Kd.R_form HO_273002.out (by omega)
                                      (first | cases eo62 | (injection eo62 with ea_ en_ ec_; (first | subst ea_ | (injection ea_ with ea_; subst ea_)); subst ec_; clear en_))
                                      have GB62 := Aside0.mk gb62
                                      have GG62 := Aside0.mk HG62
                                      clear gb62 gl62 HG62
                                      obtain ⟨hx62_0, hf62_0⟩ := Kd.R_celln 0 HO_273002.out (x11_3 : Int) p62 q62
                                      replace p62 := eq_true p62
                                      replace q62 := eq_true q62
                                      have HP64 := Kd.R_putn HO_273002.out (x11_3 : Int) (rd ((rd_T51 l1 x9_1).f0.f2) x11_3)
                                      rw [← Ny290.out] at HP64
                                      have HQ64 := Aside0.mk HP64
                                      clear HP64
                                      refine start_ (n := 14) (S := fun w' => w'.cell? ⟨gb272, 0, none⟩ = some (.int .i64 ((rd_T51 l1 x9_1).f0.f0)) ∧ w'.cell? ⟨gb272, 1, none⟩ = some (u273001) ∧ w'.cell? ⟨gb272, 2, none⟩ = some (.slice (some ⟨go62, 0, none⟩) x273002_3.length co62) ∧ w'.cell? (ad265.add ((x9_1).toNat * 4)) = some (.int .i64 ((rd_T51 l1 x9_1).f0.f0)) ∧ w'.cell? ⟨(ad265.add ((x9_1).toNat * 4)).block, (ad265.add ((x9_1).toNat * 4)).off + 1, none⟩ = some (.slice A288_1 ((rd_T51 l1 x9_1).f0.f1).length c288_1) ∧ w'.cell? ⟨(ad265.add ((x9_1).toNat * 4)).block, (ad265.add ((x9_1).toNat * 4)).off + 2, none⟩ = some (.slice (some ad289) ((rd_T51 l1 x9_1).f0.f2).length c288_2) ∧ w'.cell? ⟨(ad265.add ((x9_1).toNat * 4)).block, (ad265.add ((x9_1).toNat * 4)).off + 3, none⟩ = some (.int .u64 ((rd_T51 l1 x9_1).f1)) ∧ w'.cell? (ad289.add (x11_3).toNat) = some (.int .i64 (rd ((rd_T51 l1 x9_1).f0.f2) x11_3))) (ds := [13]) #[false, false, false, false, false, false, false, false, false, false, false, false, false, false] (by kernel_rfl) rfl rfl ⟨(blk_cell BK272.out 0).trans rfl, (blk_cell BK272.out 1).trans rfl, (blk_cell BK272.out 2).trans rfl, ((HB.out.cell (World.block_lt_of_cell? w _ hw288_0)).trans hw288_0), ((HB.out.cell (World.block_lt_of_cell? w _ hw288_1)).trans hw288_1), ((HB.out.cell (World.block_lt_of_cell? w _ hw288_2)).trans hw288_2), ((HB.out.cell (World.block_lt_of_cell? w _ hw288_3)).trans hw288_3), ((HB.out.cell (World.block_lt_of_cell? w _ hw289_0)).trans hw289_0)⟩ (fun hHeld => ?_); refine with_tabW gristmilllaw06_right.tab14 gristmilllaw06_right.bits14 (fun HT_ HW_ => ?_)
                                      generalize wc.drew = w63 at HO_8 HO_273001 HO_273002 BK259 BK260 BK261 BK262 BK272 HB GG62 HQ64 HR288_1 HR288_2 hf62_0 hx288_0 hx288_1 hx288_2 hx288_3 hx289_0 hx62_0 hHeld ⊢
                                      refine pure_ (i := 0) (N := some 90) (v := ?_) (a' := ?_) #[true, false, false, false, false, false, false, false, false, false, false, false, false, false] rfl rfl (any_of HT_.out (by kernel_rfl)) (fun _ _ _ h => h) (Or.inl ⟨by rfl, ?_⟩) ?_ ?_
                                      rotate_left
                                      · intro w'
                                        go_simp
                                        with_reducible rfl
                                      rotate_left
                                      · simp only [Act.put, List.setIfInBounds_toArray, List.set_cons_zero, List.set_cons_succ, i64_w, i32_w]
                                        rfl
                                      refine pure_ (i := 2) (N := some 92) (v := ?_) (a' := ?_) #[true, false, true, false, false, false, false, false, false, false, false, false, false, false] rfl rfl (any_of HT_.out (by kernel_rfl)) (fun _ _ _ h => h) (Or.inl ⟨by rfl, ?_⟩) ?_ ?_
                                      rotate_left
                                      · intro w'
                                        go_simp
                                        with_reducible rfl
                                      rotate_left
                                      · simp only [Act.put, List.setIfInBounds_toArray, List.set_cons_zero, List.set_cons_succ, i64_w, i32_w]
                                        rfl
                                      refine pure_ (i := 3) (N := some 93) (v := ?_) (a' := ?_) #[true, false, true, true, false, false, false, false, false, false, false, false, false, false] rfl rfl (any_of HT_.out (by kernel_rfl)) (fun _ _ _ h => h) (Or.inl ⟨by rfl, ?_⟩) ?_ ?_
                                      rotate_left
                                      · intro w'
                                        go_simp
                                        with_reducible rfl
                                      rotate_left
                                      · simp only [Act.put, List.setIfInBounds_toArray, List.set_cons_zero, List.set_cons_succ, i64_w, i32_w]
                                        rfl
                                      refine pure_ (i := 4) (N := some 94) (v := ?_) (a' := ?_) #[true, false, true, true, true, false, false, false, false, false, false, false, false, false] rfl rfl (any_of HT_.out (by kernel_rfl)) (fun _ _ _ h => h) (Or.inl ⟨by rfl, ?_⟩) ?_ ?_
                                      rotate_left
                                      · intro w'
                                        go_simp
                                        with_reducible rfl
                                      rotate_left
                                      · simp only [Act.put, List.setIfInBounds_toArray, List.set_cons_zero, List.set_cons_succ, i64_w, i32_w]
                                        rfl
                                      refine pure_ (i := 5) (N := some 95) (v := ?_) (a' := ?_) #[true, false, true, true, true, true, false, false, false, false, false, false, false, false] rfl rfl (any_of HT_.out (by kernel_rfl)) (fun _ _ _ h => h) (Or.inl ⟨by rfl, ?_⟩) ?_ ?_
                                      rotate_left
                                      · intro w'
                                        go_simp
                                        with_reducible rfl
                                      rotate_left
                                      · simp only [Act.put, List.setIfInBounds_toArray, List.set_cons_zero, List.set_cons_succ, i64_w, i32_w]
                                        rfl
                                      refine pure_ (i := 6) (N := some 96) (v := ?_) (a' := ?_) #[true, false, true, true, true, true, true, false, false, false, false, false, false, false] rfl rfl (any_of HT_.out (by kernel_rfl)) (fun _ _ _ h => h) (Or.inl ⟨by rfl, ?_⟩) ?_ ?_
                                      rotate_left
                                      · intro w'
                                        go_simp
                                        with_reducible rfl
                                      rotate_left
                                      · simp only [Act.put, List.setIfInBounds_toArray, List.set_cons_zero, List.set_cons_succ, i64_w, i32_w]
                                        rfl
                                      refine pure_ (i := 7) (N := some 97) (v := ?_) (a' := ?_) #[true, false, true, true, true, true, true, true, false, false, false, false, false, false] rfl rfl (any_of HT_.out (by kernel_rfl)) (fun _ _ _ h => h) (Or.inl ⟨by rfl, ?_⟩) ?_ ?_
                                      rotate_left
                                      · intro w'
                                        go_simp
                                        with_reducible rfl
                                      rotate_left
                                      · simp only [Act.put, List.setIfInBounds_toArray, List.set_cons_zero, List.set_cons_succ, i64_w, i32_w]
                                        rfl
                                      refine pure_ (i := 9) (N := some 99) (v := ?_) (a' := ?_) #[true, false, true, true, true, true, true, true, false, true, false, false, false, false] rfl rfl (any_of HT_.out (by kernel_rfl)) (fun _ _ _ h => h) (Or.inl ⟨by rfl, ?_⟩) ?_ ?_
                                      rotate_left
                                      · intro w'
                                        go_simp
                                        with_reducible rfl
                                      rotate_left
                                      · simp only [Act.put, List.setIfInBounds_toArray, List.set_cons_zero, List.set_cons_succ, i64_w, i32_w]
                                        rfl
                                      refine take_ (i := 1) (N := some 91) (v := ?_) (a' := ?_) #[true, true, true, true, true, true, true, true, false, true, false, false, false, false] rfl rfl (take_ofW HT_.out HW_.out (by kernel_rfl)) (fun _ _ _ h => h) (Or.inl ⟨by rfl, ?_⟩) hHeld ?_ ?_
                                      rotate_left
                                      · rintro w' ⟨s0, s1, s2, s3, s4, s5, s6, s7⟩
                                        go_simp
                                        with_reducible rfl
                                      rotate_left
                                      · simp only [Act.put, List.setIfInBounds_toArray, List.set_cons_zero, List.set_cons_succ, i64_w, i32_w]
                                        rfl
                                      refine take_ (i := 8) (N := some 98) (v := ?_) (a' := ?_) #[true, true, true, true, true, true, true, true, true, true, false, false, false, false] rfl rfl (take_ofW HT_.out HW_.out (by kernel_rfl)) (fun _ _ _ h => h) (Or.inl ⟨by rfl, ?_⟩) hHeld ?_ ?_
                                      rotate_left
                                      · rintro w' ⟨s0, s1, s2, s3, s4, s5, s6, s7⟩
                                        go_simp
                                        with_reducible rfl
                                      rotate_left
                                      · simp only [Act.put, List.setIfInBounds_toArray, List.set_cons_zero, List.set_cons_succ, i64_w, i32_w]
                                        rfl
                                      refine pure_ (i := 10) (N := some 100) (v := ?_) (a' := ?_) #[true, true, true, true, true, true, true, true, true, true, true, false, false, false] rfl rfl (any_of HT_.out (by kernel_rfl)) (fun _ _ _ h => h) (Or.inl ⟨by rfl, ?_⟩) ?_ ?_
                                      rotate_left
                                      · intro w'
                                        go_simp
                                        with_reducible rfl
                                      rotate_left
                                      · simp only [Act.put, List.setIfInBounds_toArray, List.set_cons_zero, List.set_cons_succ, i64_w, i32_w]
                                        rfl
                                      refine take_ (i := 11) (N := some 101) (v := ?_) (a' := ?_) #[true, true, true, true, true, true, true, true, true, true, true, true, false, false] rfl rfl (take_ofW HT_.out HW_.out (by kernel_rfl)) (fun _ _ _ h => h) (Or.inl ⟨by rfl, ?_⟩) hHeld ?_ ?_
                                      rotate_left
                                      · rintro w' ⟨s0, s1, s2, s3, s4, s5, s6, s7⟩
                                        go_simp
                                        with_reducible rfl
                                      rotate_left
                                      · simp only [Act.put, List.setIfInBounds_toArray, List.set_cons_zero, List.set_cons_succ, i64_w, i32_w]
                                        rfl
                                      refine pure_ (i := 12) (N := some 102) (v := ?_) (a' := ?_) #[true, true, true, true, true, true, true, true, true, true, true, true, true, false] rfl rfl (any_of HT_.out (by kernel_rfl)) (fun _ _ _ h => h) (Or.inl ⟨by rfl, ?_⟩) ?_ ?_
                                      rotate_left
                                      · intro w'
                                        go_simp
                                        with_reducible rfl
                                      rotate_left
                                      · simp only [Act.put, List.setIfInBounds_toArray, List.set_cons_zero, List.set_cons_succ, i64_w, i32_w]
                                        rfl
                                      refine last_ (i := 13) (N := none) #[true, true, true, true, true, true, true, true, true, true, true, true, true, true] rfl rfl (one_of HT_.out (by kernel_rfl)) (by decide) (fun K hK => ?_)
                                      refine skip_ (w1 := ?_) (by rfl) rfl ?_ ?_
                                      rotate_left
                                      · go_simp
                                        rfl
                                      refine hK.out _ _ ?_
                                      clear hK K
                                      refine done_ (done_of HT_.out (by kernel_rfl)) ?_
                                      try go_wp2
                                      go_roundg kj34
                                      case measure => have := HK1.out; have := HJ16.out; have := HK3.out; have := HJ34.out; omega
                                      case rel => exact ⟨(wrap64 (x11_3 + 1)), (x273001_3), (y290), (u273001), (.slice (some ⟨go62, 0, none⟩) x273002_3.length co62), (by first | rfl | (simp; done) | (simp [*]; done)), H', ⟨by have := HK1.out; have := HJ16.out; have := HK3.out; have := HJ34.out; omega⟩, ⟨by (with_reducible repeat (first | apply Kd.S_alloc | apply Kd.S_drewN | apply Kd.S_drew)); exact Kd.S_mono (Kd.S_far (p := ⟨go62, (x11_3 : Int).toNat, none⟩) (Kd.S_mono HO_8.out (fun k_ hk => (⟨hk, fun e_ => hk.2 (by rw [e_]; rfl)⟩ : _ ∧ k_ ≠ go62))) (fun _ hk => hk.2) (.int .i64 (rd ((rd_T51 l1 x9_1).f0.f2) x11_3))) (fun _ hk => ⟨hk.1.1, hk.1.2⟩)⟩, ⟨by (with_reducible repeat (first | apply Kd.R_alloc | apply Kd.R_drewN | apply Kd.R_drew)); exact Kd.R_mono (Kd.R_far (p := ⟨go62, (x11_3 : Int).toNat, none⟩) (Kd.R_types HO_273001.out GG62.out (by decide)) (fun _ hk => hk.2) (.int .i64 (rd ((rd_T51 l1 x9_1).f0.f2) x11_3))) (fun _ hk => trivial)⟩, ⟨by (with_reducible repeat (first | apply Kd.R_alloc | apply Kd.R_drewN | apply Kd.R_drew)); exact HQ64.out⟩, ⟨by (with_reducible repeat (first | refine blk_drewN ?_ _ | refine blk_drew ?_ | refine blk_alloc ?_ _)); refine blk_far ?_ (by have h_ := Kd.R_ne HO_273002.out BK259.out (by decide); intro e_; exact h_ (by rw [e_]; rfl)) _; (with_reducible repeat (first | refine blk_drewN ?_ _ | refine blk_drew ?_ | refine blk_alloc ?_ _)); exact BK259.out⟩, ⟨by (with_reducible repeat (first | refine blk_drewN ?_ _ | refine blk_drew ?_ | refine blk_alloc ?_ _)); refine blk_far ?_ (by have h_ := Kd.R_ne HO_273002.out BK260.out (by decide); intro e_; exact h_ (by rw [e_]; rfl)) _; (with_reducible repeat (first | refine blk_drewN ?_ _ | refine blk_drew ?_ | refine blk_alloc ?_ _)); exact BK260.out⟩, ⟨by (with_reducible repeat (first | refine blk_drewN ?_ _ | refine blk_drew ?_ | refine blk_alloc ?_ _)); refine blk_far ?_ (by have h_ := Kd.R_ne HO_273002.out BK261.out (by decide); intro e_; exact h_ (by rw [e_]; rfl)) _; (with_reducible repeat (first | refine blk_drewN ?_ _ | refine blk_drew ?_ | refine blk_alloc ?_ _)); exact BK261.out⟩, ⟨by (with_reducible repeat (first | refine blk_drewN ?_ _ | refine blk_drew ?_ | refine blk_alloc ?_ _)); refine blk_far ?_ (by have h_ := Kd.R_ne HO_273002.out BK262.out (by decide); intro e_; exact h_ (by rw [e_]; rfl)) _; (with_reducible repeat (first | refine blk_drewN ?_ _ | refine blk_drew ?_ | refine blk_alloc ?_ _)); exact BK262.out⟩, ⟨by (with_reducible repeat (first | refine blk_drewN ?_ _ | refine blk_drew ?_ | refine blk_alloc ?_ _)); refine blk_far ?_ (by have h_ := Kd.R_ne HO_273002.out BK272.out (by decide); intro e_; exact h_ (by rw [e_]; rfl)) _; (with_reducible repeat (first | refine blk_drewN ?_ _ | refine blk_drew ?_ | refine blk_alloc ?_ _)); exact BK272.out⟩, ⟨by repeat (first | (with_reducible first | exact HB.out | apply below_alloc | apply pw_below_drewN | apply below_drew1 | refine below_set ?_ GB62.out | refine below_set ?_ GE259.out | refine below_set ?_ GE260.out | refine below_set ?_ GE261.out | refine below_set ?_ GE262.out | refine below_set ?_ GE272.out) | exact HB.out)⟩⟩
                                    · rw [if_neg c61] at H
                                      exact absurd H (by simp)
                                  · rw [if_neg c60] at H
                                    exact absurd H (by simp)
                                · rw [if_neg c59] at H
                                  have c59b0 : decide (x11_3 < (((rd_T51 l1 x9_1).f0.f2).length : Int)) = false := decide_eq_false c59
                                  clear c59
                                  have H' := Aside0.mk H
                                  clear H
                                  have p287 : 0 ≤ (x9_1 : Int) := of_decide_eq_true (by first | (with_reducible assumption) | assumption)
                                  have q287 : x9_1 < (l1.length : Int) := of_decide_eq_true (by first | (with_reducible assumption) | assumption)
                                  obtain ⟨ad287, A287_1, c287_1, A287_2, c287_2, e287, hx287_0, hx287_1, hx287_2, hx287_3, hl287_1, hi287_1, hl287_2, hi287_2⟩ := at_T51 HR1.out x9_1 p287 q287
                                  obtain rfl : ad265 = ad287 := (by injection e287)
                                  replace hx287_0 := (HB.out.cell (World.block_lt_of_cell? w _ hx287_0)).trans hx287_0
                                  replace hx287_1 := (HB.out.cell (World.block_lt_of_cell? w _ hx287_1)).trans hx287_1
                                  replace hx287_2 := (HB.out.cell (World.block_lt_of_cell? w _ hx287_2)).trans hx287_2
                                  replace hx287_3 := (HB.out.cell (World.block_lt_of_cell? w _ hx287_3)).trans hx287_3
                                  have HR287_1 := Aside0.mk hi287_1
                                  have HC287_1 := Aside0.mk hl287_1
                                  clear hi287_1 hl287_1
                                  have HR287_2 := Aside0.mk hi287_2
                                  have HC287_2 := Aside0.mk hl287_2
                                  clear hi287_2 hl287_2
                                  replace p287 := eq_true p287
                                  replace q287 := eq_true q287
                                  go_wp2
                                  go_roundg kj34
                                  case measure => have := HK1.out; have := HJ16.out; have := HK3.out; have := HJ34.out; omega
                                  case rel => exact ⟨(wrap64 (x11_3 + 1)), (x273001_3), (x273002_3), (u273001), (u273002), (by first | rfl | (simp; done) | (simp [*]; done)), H', ⟨by have := HK1.out; have := HJ16.out; have := HK3.out; have := HJ34.out; omega⟩, ⟨by (with_reducible repeat (first | apply Kd.S_alloc | apply Kd.S_drewN | apply Kd.S_drew)); exact HO_8.out⟩, ⟨by (with_reducible repeat (first | apply Kd.R_alloc | apply Kd.R_drewN | apply Kd.R_drew)); exact HO_273001.out⟩, ⟨by (with_reducible repeat (first | apply Kd.R_alloc | apply Kd.R_drewN | apply Kd.R_drew)); exact HO_273002.out⟩, ⟨by (with_reducible repeat (first | refine blk_drewN ?_ _ | refine blk_drew ?_ | refine blk_alloc ?_ _)); exact BK259.out⟩, ⟨by (with_reducible repeat (first | refine blk_drewN ?_ _ | refine blk_drew ?_ | refine blk_alloc ?_ _)); exact BK260.out⟩, ⟨by (with_reducible repeat (first | refine blk_drewN ?_ _ | refine blk_drew ?_ | refine blk_alloc ?_ _)); exact BK261.out⟩, ⟨by (with_reducible repeat (first | refine blk_drewN ?_ _ | refine blk_drew ?_ | refine blk_alloc ?_ _)); exact BK262.out⟩, ⟨by (with_reducible repeat (first | refine blk_drewN ?_ _ | refine blk_drew ?_ | refine blk_alloc ?_ _)); exact BK272.out⟩, ⟨by repeat (first | (with_reducible first | exact HB.out | apply below_alloc | apply pw_below_drewN | apply below_drew1 | refine below_set ?_ GE259.out | refine below_set ?_ GE260.out | refine below_set ?_ GE261.out | refine below_set ?_ GE262.out | refine below_set ?_ GE272.out) | exact HB.out)⟩⟩
                              · rw [if_neg c58] at H
                                exact absurd H (by simp)
                            · rw [if_neg c57] at H
                              exact absurd H (by simp)
                    · rw [if_neg c34] at H
                      have c34b0 : decide (x11_3 < 2) = false := decide_eq_false c34
                      clear c34
                      by_cases c65 : 0 ≤ x9_1
                      · rw [if_pos c65] at H
                        have c65b0 : decide (0 ≤ x9_1) = true := decide_eq_true c65
                        clear c65
                        by_cases c66 : x9_1 < (l1.length : Int)
                        · rw [if_pos c66] at H
                          have c66b0 : decide (x9_1 < (l1.length : Int)) = true := decide_eq_true c66
                          clear c66
                          by_cases c67 : x8_1.length < 2199023255552
                          · rw [if_pos c67] at H
                            have LMc67 := Aside0.mk c67
                            clear c67
                            obtain ⟨y274, hy274⟩ : ∃ y_ : List (S51), y_ = (x8_1 ++ [(⟨(⟨((rd_T51 l1 x9_1).f0.f0), x273001_3, x273002_3⟩ : S45), Int.tmod ((rd_T51 l1 x9_1).f1) 1125899906842624⟩ : S51)]) := ⟨_, rfl⟩
                            replace H : (gristmilllaw06_right.l0 k3 l1 y274 (wrap64 (x9_1 + 1)) (wrap64 (1 + (Int.tmod t263 5))) (Int.tmod t264 2) 2 2) = some (r1, r2, r3, r4, r5) := by first | (rw [hy274]; with_reducible exact H) | (have H2_ := (Option.bind_some _ _).symm.trans H; rw [hy274]; with_reducible exact H2_) | (have H2_ := (Option.bind_some _ _).symm.trans H; with_reducible exact H2_) | with_reducible exact H | (rw [hy274]; exact H) | exact H
                            have Ny274 := Aside0.mk hy274
                            clear hy274
                            have H' := Aside0.mk H
                            clear H
                            try go_wp2
                            have n0_ := Aside0.mk (Kd.S_drew HO_8.out)
                            have n1_ := Aside0.mk (Kd.R_drew HO_273001.out)
                            have n2_ := Aside0.mk (Kd.R_drew HO_273002.out)
                            have n3_ := Aside0.mk (blk_drew BK259.out)
                            have n4_ := Aside0.mk (blk_drew BK260.out)
                            have n5_ := Aside0.mk (blk_drew BK261.out)
                            have n6_ := Aside0.mk (blk_drew BK262.out)
                            have n7_ := Aside0.mk (blk_drew BK272.out)
                            have n8_ := Aside0.mk (below_drew1 HB.out)
                            clear HO_8
                            clear HO_273001
                            clear HO_273002
                            clear BK259
                            clear BK260
                            clear BK261
                            clear BK262
                            clear BK272
                            clear HB
                            have HO_8 := n0_
                            have HO_273001 := n1_
                            have HO_273002 := n2_
                            have BK259 := n3_
                            have BK260 := n4_
                            have BK261 := n5_
                            have BK262 := n6_
                            have BK272 := n7_
                            have HB := n8_
                            clear n0_ n1_ n2_ n3_ n4_ n5_ n6_ n7_ n8_
                            have p273 : 0 ≤ (x9_1 : Int) := of_decide_eq_true (by first | (with_reducible assumption) | assumption)
                            have q273 : x9_1 < (l1.length : Int) := of_decide_eq_true (by first | (with_reducible assumption) | assumption)
                            obtain ⟨ad273, A273_1, c273_1, A273_2, c273_2, e273, hx273_0, hx273_1, hx273_2, hx273_3, hl273_1, hi273_1, hl273_2, hi273_2⟩ := at_T51 HR1.out x9_1 p273 q273
                            have hw273_3 := hx273_3
                            have hw273_2 := hx273_2
                            have hw273_1 := hx273_1
                            have hw273_0 := hx273_0
                            obtain rfl : ad265 = ad273 := (by injection e273)
                            replace hx273_0 := (HB.out.cell (World.block_lt_of_cell? w _ hx273_0)).trans hx273_0
                            replace hx273_1 := (HB.out.cell (World.block_lt_of_cell? w _ hx273_1)).trans hx273_1
                            replace hx273_2 := (HB.out.cell (World.block_lt_of_cell? w _ hx273_2)).trans hx273_2
                            replace hx273_3 := (HB.out.cell (World.block_lt_of_cell? w _ hx273_3)).trans hx273_3
                            have HR273_1 := Aside0.mk hi273_1
                            have HC273_1 := Aside0.mk hl273_1
                            clear hi273_1 hl273_1
                            have HR273_2 := Aside0.mk hi273_2
                            have HC273_2 := Aside0.mk hl273_2
                            clear hi273_2 hl273_2
                            replace p273 := eq_true p273
                            replace q273 := eq_true q273
                            obtain ⟨Ao69, co69, eo69⟩ := Kd.R_slice HO_273002.out
                            (first | subst eo69 | (injection eo69 with f1_ f2_ f3_; have f4_ := f1_.symm; have f5_ := f3_.symm; clear f1_ f2_ f3_; subst f4_; subst f5_))
                            obtain ⟨Ao70, co70, eo70⟩ := Kd.R_slice HO_273001.out
                            (first | subst eo70 | (injection eo70 with f1_ f2_ f3_; have f4_ := f1_.symm; have f5_ := f3_.symm; clear f1_ f2_ f3_; subst f4_; subst f5_))
                            refine start_ (n := 12) (S := fun w' => w'.cell? ⟨gb272, 0, none⟩ = some (.int .i64 ((rd_T51 l1 x9_1).f0.f0)) ∧ w'.cell? ⟨gb272, 1, none⟩ = some (.slice Ao70 x273001_3.length co70) ∧ w'.cell? ⟨gb272, 2, none⟩ = some (.slice Ao69 x273002_3.length co69) ∧ w'.cell? (ad265.add ((x9_1).toNat * 4)) = some (.int .i64 ((rd_T51 l1 x9_1).f0.f0)) ∧ w'.cell? ⟨(ad265.add ((x9_1).toNat * 4)).block, (ad265.add ((x9_1).toNat * 4)).off + 1, none⟩ = some (.slice A273_1 ((rd_T51 l1 x9_1).f0.f1).length c273_1) ∧ w'.cell? ⟨(ad265.add ((x9_1).toNat * 4)).block, (ad265.add ((x9_1).toNat * 4)).off + 2, none⟩ = some (.slice A273_2 ((rd_T51 l1 x9_1).f0.f2).length c273_2) ∧ w'.cell? ⟨(ad265.add ((x9_1).toNat * 4)).block, (ad265.add ((x9_1).toNat * 4)).off + 3, none⟩ = some (.int .u64 ((rd_T51 l1 x9_1).f1))) (ds := []) #[false, false, false, false, false, false, false, false, false, false, false, false] (by kernel_rfl) rfl rfl ⟨(blk_cell BK272.out 0).trans rfl, (blk_cell BK272.out 1).trans rfl, (blk_cell BK272.out 2).trans rfl, ((HB.out.cell (World.block_lt_of_cell? w _ hw273_0)).trans hw273_0), ((HB.out.cell (World.block_lt_of_cell? w _ hw273_1)).trans hw273_1), ((HB.out.cell (World.block_lt_of_cell? w _ hw273_2)).trans hw273_2), ((HB.out.cell (World.block_lt_of_cell? w _ hw273_3)).trans hw273_3)⟩ (fun hHeld => ?_); refine with_tabW gristmilllaw06_right.tab15 gristmilllaw06_right.bits15 (fun HT_ HW_ => ?_)
                            generalize wr.drew = w68 at HO_8 HO_273001 HO_273002 BK259 BK260 BK261 BK262 BK272 HB HR273_1 HR273_2 hx273_0 hx273_1 hx273_2 hx273_3 hHeld ⊢
                            refine pure_ (i := 0) (N := some 103) (v := ?_) (a' := ?_) #[true, false, false, false, false, false, false, false, false, false, false, false] rfl rfl (any_of HT_.out (by kernel_rfl)) (fun _ _ _ h => h) (Or.inl ⟨by rfl, ?_⟩) ?_ ?_
                            rotate_left
                            · intro w'
                              go_simp
                              with_reducible rfl
                            rotate_left
                            · simp only [Act.put, List.setIfInBounds_toArray, List.set_cons_zero, List.set_cons_succ, i64_w, i32_w]
                              rfl
                            refine pure_ (i := 2) (N := some 105) (v := ?_) (a' := ?_) #[true, false, true, false, false, false, false, false, false, false, false, false] rfl rfl (any_of HT_.out (by kernel_rfl)) (fun _ _ _ h => h) (Or.inl ⟨by rfl, ?_⟩) ?_ ?_
                            rotate_left
                            · intro w'
                              go_simp
                              with_reducible rfl
                            rotate_left
                            · simp only [Act.put, List.setIfInBounds_toArray, List.set_cons_zero, List.set_cons_succ, i64_w, i32_w]
                              rfl
                            refine pure_ (i := 3) (N := some 106) (v := ?_) (a' := ?_) #[true, false, true, true, false, false, false, false, false, false, false, false] rfl rfl (any_of HT_.out (by kernel_rfl)) (fun _ _ _ h => h) (Or.inl ⟨by rfl, ?_⟩) ?_ ?_
                            rotate_left
                            · intro w'
                              go_simp
                              with_reducible rfl
                            rotate_left
                            · simp only [Act.put, List.setIfInBounds_toArray, List.set_cons_zero, List.set_cons_succ, i64_w, i32_w]
                              rfl
                            refine pure_ (i := 4) (N := some 107) (v := ?_) (a' := ?_) #[true, false, true, true, true, false, false, false, false, false, false, false] rfl rfl (any_of HT_.out (by kernel_rfl)) (fun _ _ _ h => h) (Or.inl ⟨by rfl, ?_⟩) ?_ ?_
                            rotate_left
                            · intro w'
                              go_simp
                              with_reducible rfl
                            rotate_left
                            · simp only [Act.put, List.setIfInBounds_toArray, List.set_cons_zero, List.set_cons_succ, i64_w, i32_w]
                              rfl
                            refine pure_ (i := 5) (N := some 108) (v := ?_) (a' := ?_) #[true, false, true, true, true, true, false, false, false, false, false, false] rfl rfl (any_of HT_.out (by kernel_rfl)) (fun _ _ _ h => h) (Or.inl ⟨by rfl, ?_⟩) ?_ ?_
                            rotate_left
                            · intro w'
                              go_simp
                              with_reducible rfl
                            rotate_left
                            · simp only [Act.put, List.setIfInBounds_toArray, List.set_cons_zero, List.set_cons_succ, i64_w, i32_w]
                              rfl
                            refine take_ (i := 1) (N := some 104) (v := ?_) (a' := ?_) #[true, true, true, true, true, true, false, false, false, false, false, false] rfl rfl (take_ofW HT_.out HW_.out (by kernel_rfl)) (fun _ _ _ h => h) (Or.inl ⟨by rfl, ?_⟩) hHeld ?_ ?_
                            rotate_left
                            · rintro w' ⟨s0, s1, s2, s3, s4, s5, s6⟩
                              go_simp
                              with_reducible rfl
                            rotate_left
                            · simp only [Act.put, List.setIfInBounds_toArray, List.set_cons_zero, List.set_cons_succ, i64_w, i32_w]
                              rfl
                            refine take_ (i := 6) (N := some 109) (v := ?_) (a' := ?_) #[true, true, true, true, true, true, true, false, false, false, false, false] rfl rfl (take_ofW HT_.out HW_.out (by kernel_rfl)) (fun _ _ _ h => h) (Or.inl ⟨by rfl, ?_⟩) hHeld ?_ ?_
                            rotate_left
                            · rintro w' ⟨s0, s1, s2, s3, s4, s5, s6⟩
                              go_simp
                              with_reducible rfl
                            rotate_left
                            · simp only [Act.put, List.setIfInBounds_toArray, List.set_cons_zero, List.set_cons_succ, i64_w, i32_w]
                              rfl
                            refine pure_ (i := 7) (N := some 110) (v := ?_) (a' := ?_) #[true, true, true, true, true, true, true, true, false, false, false, false] rfl rfl (any_of HT_.out (by kernel_rfl)) (fun _ _ _ h => h) (Or.inl ⟨by rfl, ?_⟩) ?_ ?_
                            rotate_left
                            · intro w'
                              go_simp
                              with_reducible rfl
                            rotate_left
                            · simp only [Act.put, List.setIfInBounds_toArray, List.set_cons_zero, List.set_cons_succ, i64_w, i32_w]
                              rfl
                            refine pure_ (i := 8) (N := some 111) (v := ?_) (a' := ?_) #[true, true, true, true, true, true, true, true, true, false, false, false] rfl rfl (any_of HT_.out (by kernel_rfl)) (fun _ _ _ h => h) (Or.inl ⟨by rfl, ?_⟩) ?_ ?_
                            rotate_left
                            · intro w'
                              go_simp
                              with_reducible rfl
                            rotate_left
                            · simp only [Act.put, List.setIfInBounds_toArray, List.set_cons_zero, List.set_cons_succ, i64_w, i32_w]
                              rfl
                            refine one_ (i := 9) (N := some 112) #[true, true, true, true, true, true, true, true, true, true, false, false] rfl rfl (one_of HT_.out (by kernel_rfl)) (by decide) (fun K hK => ?_)
                            refine value_ (w1 := ?_) (v := ?_) (by rfl) rfl ?_ ?_
                            rotate_left 2
                            · go_simp
                              constructor
                              · rfl
                              · rfl
                            refine hK.out _ _ ⟨(blk_cell (blk_alloc BK272.out _) 0).trans rfl, (blk_cell (blk_alloc BK272.out _) 1).trans rfl, (blk_cell (blk_alloc BK272.out _) 2).trans rfl, (World.cell?_alloc_lt _ _ _ (World.block_lt_of_cell? _ _ (((HB.out.cell (World.block_lt_of_cell? w _ hw273_0)).trans hw273_0)))).trans (((HB.out.cell (World.block_lt_of_cell? w _ hw273_0)).trans hw273_0)), (World.cell?_alloc_lt _ _ _ (World.block_lt_of_cell? _ _ (((HB.out.cell (World.block_lt_of_cell? w _ hw273_1)).trans hw273_1)))).trans (((HB.out.cell (World.block_lt_of_cell? w _ hw273_1)).trans hw273_1)), (World.cell?_alloc_lt _ _ _ (World.block_lt_of_cell? _ _ (((HB.out.cell (World.block_lt_of_cell? w _ hw273_2)).trans hw273_2)))).trans (((HB.out.cell (World.block_lt_of_cell? w _ hw273_2)).trans hw273_2)), (World.cell?_alloc_lt _ _ _ (World.block_lt_of_cell? _ _ (((HB.out.cell (World.block_lt_of_cell? w _ hw273_3)).trans hw273_3)))).trans (((HB.out.cell (World.block_lt_of_cell? w _ hw273_3)).trans hw273_3))⟩ (fun hHeld => ?_)
                            clear hK K
                            refine norm_ (a' := ?_) ?_ ?_
                            rotate_left
                            · show Act.put _ (some 112) _ = _
                              simp only [Act.put, List.setIfInBounds_toArray, List.set_cons_zero, List.set_cons_succ, i64_w, i32_w]
                              rfl
                            refine one_ (i := 10) (N := some 113) #[true, true, true, true, true, true, true, true, true, true, true, false] rfl rfl (one_of HT_.out (by kernel_rfl)) (by decide) (fun K hK => ?_)
                            refine Kd.S_append_step k51 (w0 := w) w.heap.size (by rfl) (.tmp 103) (.tmp 112) 24 51 (.agg #[(.int .i64 0), (.slice none 0 0), (.slice none 0 0), (.int .u64 0)]) 64 rfl Try.underlying24 info51 rfl (by decide) (by omega) u8 x8_1 (⟨(⟨((rd_T51 l1 x9_1).f0.f0), x273001_3, x273002_3⟩ : S45), Int.tmod ((rd_T51 l1 x9_1).f1) 1125899906842624⟩ : S51) [.int .i64 ((rd_T51 l1 x9_1).f0.f0), .slice Ao70 x273001_3.length co70, .slice Ao69 x273002_3.length co69, .int .u64 (Int.tmod ((rd_T51 l1 x9_1).f1) 1125899906842624)] (fun _ => True) (fun k_ => some k_ = (.slice Ao70 x273001_3.length co70 : Value).ownBlock ∨ some k_ = (.slice Ao69 x273002_3.length co69 : Value).ownBlock) rfl rfl ?aP (fun k_ hk_ => hk_.elim (fun h_ => ((Kd.R_mono (ok' := fun k_ => ((fun _ => True)) k_ ∧ some k_ ≠ (u8 : Value).ownBlock) (Kd.R_apart' (HO_273001.out) (Kd.S_typed HO_8.out) (by decide)) (fun k_ hk => ⟨trivial, hk.2⟩))).1 k_ h_.symm) (fun h_ => ((Kd.R_mono (ok' := fun k_ => ((fun _ => True)) k_ ∧ some k_ ≠ (u8 : Value).ownBlock) (Kd.R_apart' (HO_273002.out) (Kd.S_typed HO_8.out) (by decide)) (fun k_ hk => ⟨trivial, hk.2⟩))).1 k_ h_.symm)) ?aF ?aO ?aB ?aS ?aL ?_
                            (case aP => exact k51_mkM _ _ _ (⟨(⟨((rd_T51 l1 x9_1).f0.f0), x273001_3, x273002_3⟩ : S45), Int.tmod ((rd_T51 l1 x9_1).f1) 1125899906842624⟩ : S51) (Kd.R_mono (Kd.R_tight rfl (Kd.R_mono (ok' := fun k_ => ((fun _ => True)) k_ ∧ some k_ ≠ (u8 : Value).ownBlock) (Kd.R_apart' (HO_273001.out) (Kd.S_typed HO_8.out) (by decide)) (fun k_ hk => ⟨trivial, hk.2⟩))) (fun _ h_ => Or.inl h_)) (Kd.R_mono (Kd.R_tight rfl (Kd.R_mono (ok' := fun k_ => ((fun _ => True)) k_ ∧ some k_ ≠ (u8 : Value).ownBlock) (Kd.R_apart' (HO_273002.out) (Kd.S_typed HO_8.out) (by decide)) (fun k_ hk => ⟨trivial, hk.2⟩))) (fun _ h_ => Or.inr (h_))))
                            (case aB => exact (by repeat (first | (with_reducible first | exact HB.out | apply below_alloc | apply pw_below_drewN | apply below_drew1 | refine below_set ?_ GE259.out | refine below_set ?_ GE260.out | refine below_set ?_ GE261.out | refine below_set ?_ GE262.out | refine below_set ?_ GE272.out) | exact HB.out)))
                            (case aF => exact (fun _ _ => trivial))
                            (case aO => exact (by (with_reducible repeat (first | apply Kd.S_alloc | apply Kd.S_drewN | apply Kd.S_drew)); exact Kd.S_mono HO_8.out (fun k_ hk => ⟨trivial, fun e_ => e_.elim (fun h_ => hk.1 h_) (fun h_ => hk.2 h_)⟩)))
                            (case aS => exact (below_size (by repeat (first | (with_reducible first | exact HB.out | apply below_alloc | apply pw_below_drewN | apply below_drew1 | refine below_set ?_ GE259.out | refine below_set ?_ GE260.out | refine below_set ?_ GE261.out | refine below_set ?_ GE262.out | refine below_set ?_ GE272.out) | exact HB.out))))
                            (case aL => have := LMc67.out; omega)
                            intro v275 w71 ho hb hg hat
                            rw [← Ny274.out] at ho
                            have n0_ := Aside0.mk (blk_grown (g := gb259) (o := .cells #[.int .i64 (wrap64 (1 + (Int.tmod t263 5))), .int .i64 (Int.tmod t264 2)] 23 (0, 0)) (by (with_reducible repeat (first | refine blk_drewN ?_ _ | refine blk_drew ?_ | refine blk_alloc ?_ _)); exact BK259.out) hg (Kd.S_ne HO_8.out BK259.out (by decide)))
                            have n1_ := Aside0.mk (blk_grown (g := gb260) (o := .cells #[.int .i64 0, .int .i64 0] 27 (0, 0)) (by (with_reducible repeat (first | refine blk_drewN ?_ _ | refine blk_drew ?_ | refine blk_alloc ?_ _)); exact BK260.out) hg (Kd.S_ne HO_8.out BK260.out (by decide)))
                            have n2_ := Aside0.mk (blk_grown (g := gb261) (o := .cells #[.int .i64 0, .int .i64 0] 23 (0, 0)) (by (with_reducible repeat (first | refine blk_drewN ?_ _ | refine blk_drew ?_ | refine blk_alloc ?_ _)); exact BK261.out) hg (Kd.S_ne HO_8.out BK261.out (by decide)))
                            have n3_ := Aside0.mk (blk_grown (g := gb262) (o := .cells #[.int .i64 2, .int .i64 2] 27 (0, 0)) (by (with_reducible repeat (first | refine blk_drewN ?_ _ | refine blk_drew ?_ | refine blk_alloc ?_ _)); exact BK262.out) hg (Kd.S_ne HO_8.out BK262.out (by decide)))
                            have n4_ := Aside0.mk (blk_grown (g := gb272) (o := .cells #[.int .i64 ((rd_T51 l1 x9_1).f0.f0), .slice Ao70 x273001_3.length co70, .slice Ao69 x273002_3.length co69] 45 (0, 0)) (by (with_reducible repeat (first | refine blk_drewN ?_ _ | refine blk_drew ?_ | refine blk_alloc ?_ _)); exact BK272.out) hg (Kd.S_ne HO_8.out BK272.out (by decide)))
                            have n5_ := Aside0.mk (hb)
                            have n6_ := Aside0.mk (ho)
                            clear BK259
                            clear BK260
                            clear BK261
                            clear BK262
                            clear BK272
                            clear HB
                            clear HO_8
                            clear HO_273001
                            clear HO_273002
                            have BK259 := n0_
                            have BK260 := n1_
                            have BK261 := n2_
                            have BK262 := n3_
                            have BK272 := n4_
                            have HB := n5_
                            have HO276 := n6_
                            clear n0_ n1_ n2_ n3_ n4_ n5_ n6_
                            clear ho hb hg hat
                            refine hK.out _ _ ⟨(blk_cell BK272.out 0).trans rfl, (blk_cell BK272.out 1).trans rfl, (blk_cell BK272.out 2).trans rfl, ((HB.out.cell (World.block_lt_of_cell? w _ hw273_0)).trans hw273_0), ((HB.out.cell (World.block_lt_of_cell? w _ hw273_1)).trans hw273_1), ((HB.out.cell (World.block_lt_of_cell? w _ hw273_2)).trans hw273_2), ((HB.out.cell (World.block_lt_of_cell? w _ hw273_3)).trans hw273_3)⟩ (fun hHeld => ?_)
                            clear hK K
                            refine norm_ (a' := ?_) ?_ ?_
                            rotate_left
                            · show Act.put _ (some 113) _ = _
                              simp only [Act.put, List.setIfInBounds_toArray, List.set_cons_zero, List.set_cons_succ, i64_w, i32_w]
                              rfl
                            refine pure_ (i := 11) (N := some 8) (v := ?_) (a' := ?_) #[true, true, true, true, true, true, true, true, true, true, true, true] rfl rfl (any_of HT_.out (by kernel_rfl)) (fun _ _ _ h => h) (Or.inl ⟨by rfl, ?_⟩) ?_ ?_
                            rotate_left
                            · intro w'
                              go_simp
                              with_reducible rfl
                            rotate_left
                            · simp only [Act.put, List.setIfInBounds_toArray, List.set_cons_zero, List.set_cons_succ, i64_w, i32_w]
                              rfl
                            refine done_ (done_of HT_.out (by kernel_rfl)) ?_
                            try go_wp2
                            go_roundg k3
                            case measure => have := HK1.out; have := HJ16.out; have := HK3.out; omega
                            case rel => exact ⟨(y274), (wrap64 (x9_1 + 1)), (by first | rfl | (simp; done) | (simp [*]; done)), H', ⟨by have := HK1.out; have := HJ16.out; have := HK3.out; omega⟩, ⟨by (with_reducible repeat (first | apply Kd.S_alloc | apply Kd.S_drewN | apply Kd.S_drew)); exact HO276.out⟩, ⟨by (with_reducible repeat (first | refine blk_drewN ?_ _ | refine blk_drew ?_ | refine blk_alloc ?_ _)); exact BK259.out⟩, ⟨by (with_reducible repeat (first | refine blk_drewN ?_ _ | refine blk_drew ?_ | refine blk_alloc ?_ _)); exact BK260.out⟩, ⟨by (with_reducible repeat (first | refine blk_drewN ?_ _ | refine blk_drew ?_ | refine blk_alloc ?_ _)); exact BK261.out⟩, ⟨by (with_reducible repeat (first | refine blk_drewN ?_ _ | refine blk_drew ?_ | refine blk_alloc ?_ _)); exact BK262.out⟩, ⟨by repeat (first | (with_reducible first | exact HB.out | apply below_alloc | apply pw_below_drewN | apply below_drew1 | refine below_set ?_ GE259.out | refine below_set ?_ GE260.out | refine below_set ?_ GE261.out | refine below_set ?_ GE262.out | refine below_set ?_ GE272.out) | exact HB.out)⟩⟩
                          · rw [if_neg c67] at H
                            exact absurd H (by simp)
                        · rw [if_neg c66] at H
                          exact absurd H (by simp)
                      · rw [if_neg c65] at H
                        exact absurd H (by simp)
              · rw [if_neg c21] at H
                exact absurd H (by simp)
            · rw [if_neg c20] at H
              exact absurd H (by simp)
          · replace c19 := Bool.eq_false_iff.mpr c19
            subst c19
            have H1 : (some (2, 2, (wrap64 (1 + (Int.tmod t263 5))), (Int.tmod t264 2), x8_1)) = some (r1, r2, r3, r4, r5) := by rw [if_neg (show ¬ (false = true) by decide)] at H; exact H
            clear H
            have H := H1
            clear H1
            simp only [Option.some.injEq, Prod.mk.injEq] at H
            obtain ⟨rfl, rfl, rfl, rfl, rfl⟩ := H
            try go_wp2
            have n0_ := Aside0.mk (Kd.S_drew HO_8.out)
            have n1_ := Aside0.mk (blk_drew BK259.out)
            have n2_ := Aside0.mk (blk_drew BK260.out)
            have n3_ := Aside0.mk (blk_drew BK261.out)
            have n4_ := Aside0.mk (blk_drew BK262.out)
            have n5_ := Aside0.mk (below_drew1 HB.out)
            clear HO_8
            clear BK259
            clear BK260
            clear BK261
            clear BK262
            clear HB
            have HO_8 := n0_
            have BK259 := n1_
            have BK260 := n2_
            have BK261 := n3_
            have BK262 := n4_
            have HB := n5_
            clear n0_ n1_ n2_ n3_ n4_ n5_
            refine start_ (n := 6) (S := fun w' => w'.cell? ⟨gb262, 0, none⟩ = some (.int .i64 2) ∧ w'.cell? ⟨gb262, 1, none⟩ = some (.int .i64 2) ∧ w'.cell? ⟨gb259, 0, none⟩ = some (.int .i64 (wrap64 (1 + (Int.tmod t263 5)))) ∧ w'.cell? ⟨gb259, 1, none⟩ = some (.int .i64 (Int.tmod t264 2))) (ds := []) #[false, false, false, false, false, false] (by kernel_rfl) rfl rfl ⟨(blk_cell BK262.out 0).trans rfl, (blk_cell BK262.out 1).trans rfl, (blk_cell BK259.out 0).trans rfl, (blk_cell BK259.out 1).trans rfl⟩ (fun hHeld => ?_)
            generalize wc.drew = w72 at HO_8 BK259 BK260 BK261 BK262 HB hHeld ⊢
            refine pure_ (i := 2) (N := some 116) (v := ?_) (a' := ?_) #[false, false, true, false, false, false] rfl rfl (by kernel_rfl) (fun _ _ _ h => h) (Or.inl ⟨by rfl, ?_⟩) ?_ ?_
            rotate_left
            · intro w'
              go_simp
              with_reducible rfl
            rotate_left
            · simp only [Act.put, List.setIfInBounds_toArray, List.set_cons_zero, List.set_cons_succ, i64_w, i32_w]
              rfl
            refine take_ (i := 0) (N := some 114) (v := ?_) (a' := ?_) #[true, false, true, false, false, false] rfl rfl (by kernel_rfl) (fun _ _ _ h => h) (Or.inl ⟨by rfl, ?_⟩) hHeld ?_ ?_
            rotate_left
            · rintro w' ⟨s0, s1, s2, s3⟩
              go_simp
              with_reducible rfl
            rotate_left
            · simp only [Act.put, List.setIfInBounds_toArray, List.set_cons_zero, List.set_cons_succ, i64_w, i32_w]
              rfl
            refine take_ (i := 1) (N := some 115) (v := ?_) (a' := ?_) #[true, true, true, false, false, false] rfl rfl (by kernel_rfl) (fun _ _ _ h => h) (Or.inl ⟨by rfl, ?_⟩) hHeld ?_ ?_
            rotate_left
            · rintro w' ⟨s0, s1, s2, s3⟩
              go_simp
              with_reducible rfl
            rotate_left
            · simp only [Act.put, List.setIfInBounds_toArray, List.set_cons_zero, List.set_cons_succ, i64_w, i32_w]
              rfl
            refine one_ (i := 3) (N := none) #[true, true, true, true, false, false] rfl rfl (by kernel_rfl) (by decide) (fun K hK => ?_)
            have hs73 : w72.cell? ⟨gb260, 0, none⟩ = some (.int .i64 0) := (blk_cell BK260.out 0).trans rfl
            have hfs73 := blk_frozen BK260.out 0
            have hns73_0 := NB259_260.out
            have hns73_2 := NB261_260.out
            have hns73_3 := NB262_260.out
            have hms73_0 := NB260_259.out
            have hms73_2 := NB260_261.out
            have hms73_3 := NB260_262.out
            have hs74 : w72.cell? ⟨gb260, 1, none⟩ = some (.int .i64 0) := (blk_cell BK260.out 1).trans rfl
            have hfs74 := blk_frozen BK260.out 1
            have hns74_0 := NB259_260.out
            have hns74_2 := NB261_260.out
            have hns74_3 := NB262_260.out
            have hms74_0 := NB260_259.out
            have hms74_2 := NB260_261.out
            have hms74_3 := NB260_262.out
            refine skip_ (w1 := ?_) (by rfl) rfl ?_ ?_
            rotate_left
            · go_simp
              rfl
            refine hK.out _ _ ⟨((cell_far (p := ⟨gb260, _, none⟩) NB262_260.out _).trans (((cell_far (p := ⟨gb260, _, none⟩) NB262_260.out _).trans (hHeld.1)))), ((cell_far (p := ⟨gb260, _, none⟩) NB262_260.out _).trans (((cell_far (p := ⟨gb260, _, none⟩) NB262_260.out _).trans (hHeld.2.1)))), ((cell_far (p := ⟨gb260, _, none⟩) NB259_260.out _).trans (((cell_far (p := ⟨gb260, _, none⟩) NB259_260.out _).trans (hHeld.2.2.1)))), ((cell_far (p := ⟨gb260, _, none⟩) NB259_260.out _).trans (((cell_far (p := ⟨gb260, _, none⟩) NB259_260.out _).trans (hHeld.2.2.2))))⟩ (fun hHeld => ?_)
            clear hK K
            refine one_ (i := 4) (N := none) #[true, true, true, true, true, false] rfl rfl (by kernel_rfl) (by decide) (fun K hK => ?_)
            have hs75 : w72.cell? ⟨gb261, 0, none⟩ = some (.int .i64 0) := (blk_cell BK261.out 0).trans rfl
            have hfs75 := blk_frozen BK261.out 0
            have hns75_0 := NB259_261.out
            have hns75_1 := NB260_261.out
            have hns75_3 := NB262_261.out
            have hms75_0 := NB261_259.out
            have hms75_1 := NB261_260.out
            have hms75_3 := NB261_262.out
            have hs76 : w72.cell? ⟨gb261, 1, none⟩ = some (.int .i64 0) := (blk_cell BK261.out 1).trans rfl
            have hfs76 := blk_frozen BK261.out 1
            have hns76_0 := NB259_261.out
            have hns76_1 := NB260_261.out
            have hns76_3 := NB262_261.out
            have hms76_0 := NB261_259.out
            have hms76_1 := NB261_260.out
            have hms76_3 := NB261_262.out
            refine skip_ (w1 := ?_) (by rfl) rfl ?_ ?_
            rotate_left
            · go_simp
              rfl
            refine hK.out _ _ ⟨((cell_far (p := ⟨gb261, _, none⟩) NB262_261.out _).trans (((cell_far (p := ⟨gb261, _, none⟩) NB262_261.out _).trans (hHeld.1)))), ((cell_far (p := ⟨gb261, _, none⟩) NB262_261.out _).trans (((cell_far (p := ⟨gb261, _, none⟩) NB262_261.out _).trans (hHeld.2.1)))), ((cell_far (p := ⟨gb261, _, none⟩) NB259_261.out _).trans (((cell_far (p := ⟨gb261, _, none⟩) NB259_261.out _).trans (hHeld.2.2.1)))), ((cell_far (p := ⟨gb261, _, none⟩) NB259_261.out _).trans (((cell_far (p := ⟨gb261, _, none⟩) NB259_261.out _).trans (hHeld.2.2.2))))⟩ (fun hHeld => ?_)
            clear hK K
            refine pure_ (i := 5) (N := some 6) (v := ?_) (a' := ?_) #[true, true, true, true, true, true] rfl rfl (by kernel_rfl) (fun _ _ _ h => h) (Or.inl ⟨by rfl, ?_⟩) ?_ ?_
            rotate_left
            · intro w'
              go_simp
              with_reducible rfl
            rotate_left
            · simp only [Act.put, List.setIfInBounds_toArray, List.set_cons_zero, List.set_cons_succ, i64_w, i32_w]
              rfl
            refine done_ (by kernel_rfl) ?_
            try go_wp2
            refine bodyPost_ret (results_list (rs := [.cell 4 27, .cell 5 23, .tmp 6]) rfl (by simp) (.cell gb260 27 #[.int .i64 2, .int .i64 2] (0, 0) _ rfl (by (with_reducible repeat (first | refine blk_drewN ?_ _ | refine blk_drew ?_ | refine blk_alloc ?_ _)); refine blk_far ?_ NB260_261.out _; (with_reducible repeat (first | refine blk_drewN ?_ _ | refine blk_drew ?_ | refine blk_alloc ?_ _)); refine blk_far ?_ NB260_261.out _; (with_reducible repeat (first | refine blk_drewN ?_ _ | refine blk_drew ?_ | refine blk_alloc ?_ _)); refine blk_put (cs := #[.int .i64 2, .int .i64 0]) ?_ 1 _ rfl; (with_reducible repeat (first | refine blk_drewN ?_ _ | refine blk_drew ?_ | refine blk_alloc ?_ _)); refine blk_put (cs := #[.int .i64 0, .int .i64 0]) ?_ 0 _ rfl; (with_reducible repeat (first | refine blk_drewN ?_ _ | refine blk_drew ?_ | refine blk_alloc ?_ _)); exact BK260.out) Try.underlying27 rfl (by kernel_rfl) (.cell gb261 23 #[.int .i64 (wrap64 (1 + (Int.tmod t263 5))), .int .i64 (Int.tmod t264 2)] (0, 0) _ rfl (by (with_reducible repeat (first | refine blk_drewN ?_ _ | refine blk_drew ?_ | refine blk_alloc ?_ _)); refine blk_put (cs := #[.int .i64 (wrap64 (1 + (Int.tmod t263 5))), .int .i64 0]) ?_ 1 _ rfl; (with_reducible repeat (first | refine blk_drewN ?_ _ | refine blk_drew ?_ | refine blk_alloc ?_ _)); refine blk_put (cs := #[.int .i64 0, .int .i64 0]) ?_ 0 _ rfl; (with_reducible repeat (first | refine blk_drewN ?_ _ | refine blk_drew ?_ | refine blk_alloc ?_ _)); refine blk_far ?_ NB261_260.out _; (with_reducible repeat (first | refine blk_drewN ?_ _ | refine blk_drew ?_ | refine blk_alloc ?_ _)); refine blk_far ?_ NB261_260.out _; (with_reducible repeat (first | refine blk_drewN ?_ _ | refine blk_drew ?_ | refine blk_alloc ?_ _)); exact BK261.out) Try.underlying23 rfl (by kernel_rfl) (.tmp .nil)))) rfl ?_
            exact ⟨_, by first | rfl | (simp [errW_none, errW_some] <;> rfl) | (simp [*, errW_none, errW_some] <;> rfl), by (with_reducible repeat (first | apply Kd.S_alloc | apply Kd.S_drewN | apply Kd.S_drew)); exact Kd.S_mono (Kd.S_far (p := ⟨gb261, 1, none⟩) (Kd.S_far (p := ⟨gb261, 0, none⟩) (Kd.S_far (p := ⟨gb260, 1, none⟩) (Kd.S_far (p := ⟨gb260, 0, none⟩) (Kd.S_types (Kd.S_types HO_8.out BK260.out (by decide)) BK261.out (by decide)) (fun _ hk => hk.1.2) (.int .i64 2)) (fun _ hk => hk.1.2) (.int .i64 2)) (fun _ hk => hk.2) (.int .i64 (wrap64 (1 + (Int.tmod t263 5))))) (fun _ hk => hk.2) (.int .i64 (Int.tmod t264 2))) (fun _ hk => trivial), by repeat (first | (with_reducible first | exact HB.out | apply below_alloc | apply pw_below_drewN | apply below_drew1 | refine below_set ?_ GE259.out | refine below_set ?_ GE260.out | refine below_set ?_ GE261.out | refine below_set ?_ GE262.out) | exact HB.out)⟩

end Go.Proofs.Ytnigmpckohncoaa.PAggCounts
