/- The law's first examples (awake). -/
import Derived.Test.YtnigmpckohncoaaB0
import Derived.Deep.RegionHeld3
set_option linter.unusedVariables false
set_option linter.unusedSimpArgs false
namespace Go.Proofs.Ytnigmpckohncoaa
open Go.RowKit Go.Sort YtnigmpckohncoaaW.PrintWords PAggCounts
theorem RT_al {w : World} {A : Option Addr} {n : Nat} {xs : List ByteArray} {o : Obj} (h : RT w A n xs) : RT (w.alloc o) A n xs := h.below (bAlloc (Below.refl _ _) _)
theorem RT_keep {w w1 : World} {A : Option Addr} {n : Nat} {xs : List ByteArray} (hb : Below w.heap.size w w1) (h : RT w A n xs) : RT w1 A n xs := h.below hb
theorem pat_set {w : World} {g h : Nat} {r : PV} {N V M U : Int} {A B : Option Addr} {n c m d : Nat} (hp : PAt w g r) (q : w.heap[h]? = some (.cells #[.int .u64 N, .int .i64 V, .slice A n c] 33)) (hne : g ≠ h) :
    PAt (((w.setCell ⟨h, 0, none⟩ (.int .u64 M)).setCell ⟨h, 1, none⟩ (.int .i64 U)).setCell ⟨h, 2, none⟩ (.slice B m d)) g r := by
  obtain ⟨A', c', p, hr, hc⟩ := hp
  have b0 : Blk w h 33 #[.int .u64 N, .int .i64 V, .slice A n c] := q
  have b1 := b0.set_ 0 (.int .u64 M)
  have b2 := b1.set_ 1 (.int .i64 U)
  have c0 : Blk w g 33 #[.int .u64 r.n, .int .i64 r.v, .slice A' r.xs.length c'] := p
  exact ⟨A', c', ((c0.far (p := ⟨h, 0, none⟩) hne _).far (p := ⟨h, 1, none⟩) hne _).far (p := ⟨h, 2, none⟩) hne _, ((hr.setCell (b0.cell 0) (by intro s; simp) _).setCell (b1.cell 1) (by intro s; simp) _).setCell (b2.cell 2) (by intro s; simp) _, hc⟩
theorem aat_set {w : World} {g h : Nat} {k : Int} {x y z : Value} (hp : AAt w g k) (hne : g ≠ h) : AAt (((w.setCell ⟨h, 0, none⟩ x).setCell ⟨h, 1, none⟩ y).setCell ⟨h, 2, none⟩ z) g k := by
  have c0 : Blk w g 23 #[.int .i64 k, .int .i64 0] := hp
  exact ((c0.far (p := ⟨h, 0, none⟩) hne _).far (p := ⟨h, 1, none⟩) hne _).far (p := ⟨h, 2, none⟩) hne _
theorem end6 {w wc w2 : World} {h g d : Nat} {r s : PV} {N V : Int} {A A9 : Option Addr} {c c9 n : Nat} (hb : Below w.heap.size w wc) (hp : PAt wc g s) (ha : AAt wc w.heap.size 2) (hd : AAt wc d 5) (F : Below wc.heap.size wc w2) (hr : RT w2 A r.xs.length r.xs) (hc : r.xs.length ≤ c)
    (q : w2.heap[h]? = some (.cells #[.int .u64 N, .int .i64 V, .slice A9 n c9] 33)) (h1 : w.heap.size < g) (h2 : g < d) (h3 : d < h) :
    PAt (((w2.setCell ⟨h, 0, none⟩ (.int .u64 r.n)).setCell ⟨h, 1, none⟩ (.int .i64 r.v)).setCell ⟨h, 2, none⟩ (.slice A r.xs.length c)) h r ∧ PAt (((w2.setCell ⟨h, 0, none⟩ (.int .u64 r.n)).setCell ⟨h, 1, none⟩ (.int .i64 r.v)).setCell ⟨h, 2, none⟩ (.slice A r.xs.length c)) g s ∧
      AAt (((w2.setCell ⟨h, 0, none⟩ (.int .u64 r.n)).setCell ⟨h, 1, none⟩ (.int .i64 r.v)).setCell ⟨h, 2, none⟩ (.slice A r.xs.length c)) w.heap.size 2 ∧ AAt (((w2.setCell ⟨h, 0, none⟩ (.int .u64 r.n)).setCell ⟨h, 1, none⟩ (.int .i64 r.v)).setCell ⟨h, 2, none⟩ (.slice A r.xs.length c)) d 5 ∧
      Below w.heap.size w (((w2.setCell ⟨h, 0, none⟩ (.int .u64 r.n)).setCell ⟨h, 1, none⟩ (.int .i64 r.v)).setCell ⟨h, 2, none⟩ (.slice A r.xs.length c)) := by
  have b0 : Blk w2 h 33 #[.int .u64 N, .int .i64 V, .slice A9 n c9] := q
  have b1 := b0.set_ 0 (.int .u64 r.n)
  have b2 := b1.set_ 1 (.int .i64 r.v)
  have hw : w.heap.size ≤ h := by omega
  exact ⟨⟨A, c, set3 q _ _ _, ((hr.setCell (b0.cell 0) (by intro s; simp) _).setCell (b1.cell 1) (by intro s; simp) _).setCell (b2.cell 2) (by intro s; simp) _, hc⟩, pat_set (hp.below F) q (by omega), aat_set (ha.below F) (by omega), aat_set (hd.below F) (by omega),
    bSet (bSet (bSet (bThen hb F) (p := ⟨h, 0, none⟩) hw (.int .u64 r.n)) (p := ⟨h, 1, none⟩) hw (.int .i64 r.v)) (p := ⟨h, 2, none⟩) hw (.slice A r.xs.length c)⟩
theorem value_p (A : Option Addr) (c : Nat) (w : World) : Calls Try.prog 11 #[.agg #[.int .i64 2, .int .i64 0], .agg #[.int .u64 3, .int .i64 5, .slice A 0 c]] w fun e w' => e = .returned (.int .i64 5) ∧ Below w.heap.size w w' := by
  have h := value_any 2 0 3 5 A 0 c w (by decide) (by decide)
  rwa [show valueV 2 3 5 0 = 5 by decide +kernel] at h
theorem value_q (A : Option Addr) (c : Nat) (w : World) : Calls Try.prog 11 #[.agg #[.int .i64 5, .int .i64 0], .agg #[.int .u64 2, .int .i64 0, .slice A 2 c]] w fun e w' => e = .returned (.int .i64 2) ∧ Below w.heap.size w w' := by
  have h := value_any 5 0 2 0 A 2 c w (by decide) (by decide)
  rwa [show valueV 5 2 0 2 = 2 by decide +kernel] at h
theorem check_s (g : Nat) (w : World) (h0 : w.cell? ⟨g, 0, none⟩ = some (.int .i64 2)) (h1 : w.cell? ⟨g, 1, none⟩ = some (.int .i64 0)) : Calls Try.prog 17 #[.agg #[.int .i64 0, .int .i64 0], .slice (some ⟨g, 0, none⟩) 1 1] w fun e w' => e = .returned (.int .i64 1) ∧ Below w.heap.size w w' := by
  have h := check_one 2 0 0 0 g w (by decide) h0 h1
  rwa [show (if wrongB 2 0 0 0 then (1 : Int) else 0) = 1 by decide +kernel] at h
set_option maxRecDepth 100000 in
set_option maxHeartbeats 40000000 in
theorem awake_any (w : World) : Calls Try.prog 6 #[] w fun e w' => e = .returned (.bool true) ∧ Below w.heap.size w w' := by
  go_enter Try.func6, Try.ntmps6
  go_upto_region 2 with fail
  go_cut [2] (fun s2 wx => PEnd w 2 ⟨2, 6, []⟩ s2 wx)
  case first =>
    have e0 : AAt (w.alloc (Obj.cells #[.int .i64 2, .int .i64 0] 23)) w.heap.size 2 := heap_alloc_last _ _
    have hb : Below w.heap.size w (w.alloc (Obj.cells #[.int .i64 2, .int .i64 0] 23)) := bAlloc (Below.refl _ _) _
    have hz : w.heap.size < (w.alloc (Obj.cells #[.int .i64 2, .int .i64 0] 23)).heap.size := by simp
    generalize w.alloc (Obj.cells #[.int .i64 2, .int .i64 0] 23) = w0 at *
    obtain ⟨q0, q1⟩ := blk2 e0
    have HB := Lib.hid hb
    have HE := Lib.hid e0
    clear hb e0
    go_region_held3 (fun w' => w'.cell? ⟨w.heap.size, 0, none⟩ = some (.int .i64 2) ∧ w'.cell? ⟨w.heap.size, 1, none⟩ = some (.int .i64 0)) ((refine ⟨?_, ?_⟩ <;> (with_reducible ((repeat' (first | assumption | refine cell_al ?_ | refine cell_drew ?_ | refine cell_keep (by assumption) ?_ | refine cell_far ?_ ?_ | (dsimp only; omega))); done)))) (first | (go_at_call 15; refine (start_any _ _ _).mono ?_; rintro e w1 ⟨rfl, hb1⟩; have hs1 : w.heap.size < w1.heap.size := (by have hx := hb1.size; simp at hx; omega)) | (go_at_call 16; refine (add_first ?_).mono ?_; (focus (with_reducible ((repeat' (first | exact cell_new _ _ _ | exact cell_new1 _ _ _ _ | exact cell_new2 _ _ _ _ _ | exact cell_newd _ _ _ | exact cell_newd1 _ _ _ _ | exact cell_newd2 _ _ _ _ _ | refine cell_al ?_ | refine cell_drew ?_ | refine cell_keep (by assumption) ?_)); done))); rintro e w2 ⟨A4, c4, rfl, hc4, hr4, hb4⟩; (first | (refine with_row (w := w2) (n := w1.heap.size) (o := (.cells #[.int .u64 0, .int .i64 0, .slice none 0 0] 33)) ?_ ?_; (focus (with_reducible ((repeat' (first | exact heap_alloc_last _ _ | exact row_new1 _ _ _ | exact row_new2 _ _ _ _ | exact row_newd _ _ | exact row_newd1 _ _ _ | exact row_newd2 _ _ _ _ | refine row_al ?_ | refine row_drew ?_ | refine row_keep (by assumption) ?_)); done))); intro q; obtain ⟨q0, q1, q2⟩ := blk3 q; obtain ⟨z0, z1, z2⟩ := frz3 q) | (refine with_row (w := w2) (n := w1.heap.size + 1) (o := (.cells #[.int .u64 0, .int .i64 0, .slice none 0 0] 33)) ?_ ?_; (focus (with_reducible ((repeat' (first | exact heap_alloc_last _ _ | exact row_new1 _ _ _ | exact row_new2 _ _ _ _ | exact row_newd _ _ | exact row_newd1 _ _ _ | exact row_newd2 _ _ _ _ | refine row_al ?_ | refine row_drew ?_ | refine row_keep (by assumption) ?_)); done))); intro q; obtain ⟨q0, q1, q2⟩ := blk3 q; obtain ⟨z0, z1, z2⟩ := frz3 q) | (refine with_row (w := w2) (n := w0.heap.size) (o := (.cells #[.int .u64 0, .int .i64 0, .slice none 0 0] 33)) ?_ ?_; (focus (with_reducible ((repeat' (first | exact heap_alloc_last _ _ | exact row_new1 _ _ _ | exact row_new2 _ _ _ _ | exact row_newd _ _ | exact row_newd1 _ _ _ | exact row_newd2 _ _ _ _ | refine row_al ?_ | refine row_drew ?_ | refine row_keep (by assumption) ?_)); done))); intro q; obtain ⟨q0, q1, q2⟩ := blk3 q; obtain ⟨z0, z1, z2⟩ := frz3 q) | (refine with_row (w := w2) (n := w0.heap.size + 1) (o := (.cells #[.int .u64 0, .int .i64 0, .slice none 0 0] 33)) ?_ ?_; (focus (with_reducible ((repeat' (first | exact heap_alloc_last _ _ | exact row_new1 _ _ _ | exact row_new2 _ _ _ _ | exact row_newd _ _ | exact row_newd1 _ _ _ | exact row_newd2 _ _ _ _ | refine row_al ?_ | refine row_drew ?_ | refine row_keep (by assumption) ?_)); done))); intro q; obtain ⟨q0, q1, q2⟩ := blk3 q; obtain ⟨z0, z1, z2⟩ := frz3 q) | skip)))
    all_goals (go_wp2_with fail; go_meet)
    all_goals have F : Below w0.heap.size w0 w2 := by (with_reducible ((repeat' (first | exact Below.refl _ _ | refine bAlloc ?_ _ | refine bDrew ?_ | refine bThen ?_ (by assumption))); done))
    all_goals have hs0 : w0.heap.size ≤ w1.heap.size := by (have hx := hb1.size; simp at hx; omega)
    all_goals first | exact end_new HB.out HE.out hz F hr4 hc4 | exact end_set HB.out HE.out hz F hr4 hc4 q (by omega)
  case rest =>
    obtain ⟨g, rfl, hp, ha, hb, hg⟩ := hcut
    obtain ⟨A1, c1, p1, hr1, hc1⟩ := hp
    have HP := Lib.hid p1
    have HA := Lib.hid ha
    have HB := Lib.hid hb
    have HR := Lib.hid hr1
    obtain ⟨q0, q1, q2⟩ := blk3 p1
    obtain ⟨z0, z1, z2⟩ := frz3 p1
    obtain ⟨a0, a1⟩ := blk2 ha
    have hgw := blk_lt p1
    clear p1 ha hb hr1
    go_upto_region 5 with (first | (go_at_call 16; refine (add_second (cell_new _ _ _)).mono ?_; rintro e w2 ⟨A4, c4, rfl, hc4, hr4, hb4⟩; (refine with_row (w := w2) (n := g) (o := .cells #[.int .u64 2, .int .i64 6, .slice A1 0 c1] 33) ?_ ?_); (focus (exact row_keep hb4 (row_al HP.out))); intro q; obtain ⟨q0, q1, q2⟩ := blk3 q; obtain ⟨z0, z1, z2⟩ := frz3 q))
    obtain ⟨hP, hA, hW⟩ := over_set (r := ⟨3, 5, []⟩) HB.out HA.out hg (bThen (bAlloc (Below.refl _ _) _) hb4) hr4 hc4 q
    simp only [List.length_nil] at hP hA hW
    have hd : AAt ((((w2.setCell ⟨g, 0, none⟩ (.int .u64 3)).setCell ⟨g, 1, none⟩ (.int .i64 5)).setCell ⟨g, 2, none⟩ (.slice A4 0 c4)).alloc (.cells #[.int .i64 5, .int .i64 0] 23)) w2.heap.size 5 := (by show (World.heap _)[_]? = _; rw [heap_alloc_at, if_pos (by simp)])
    have hP := hP.below (bAlloc (Below.refl _ _) (.cells #[.int .i64 5, .int .i64 0] 23))
    have hA := hA.below (bAlloc (Below.refl _ _) (.cells #[.int .i64 5, .int .i64 0] 23))
    have hW := bAlloc hW (.cells #[.int .i64 5, .int .i64 0] 23)
    have hgw : g < w2.heap.size := blk_lt q
    have hww : w2.heap.size < ((((w2.setCell ⟨g, 0, none⟩ (.int .u64 3)).setCell ⟨g, 1, none⟩ (.int .i64 5)).setCell ⟨g, 2, none⟩ (.slice A4 0 c4)).alloc (.cells #[.int .i64 5, .int .i64 0] 23)).heap.size := blk_lt hd
    clear q0 q1 q2 z0 z1 z2 a0 a1
    generalize ((((w2.setCell ⟨g, 0, none⟩ (.int .u64 3)).setCell ⟨g, 1, none⟩ (.int .i64 5)).setCell ⟨g, 2, none⟩ (.slice A4 0 c4)).alloc (.cells #[.int .i64 5, .int .i64 0] 23)) = w5 at *
    generalize w2.heap.size = d at *
    obtain ⟨q0, q1⟩ := blk2 hd
    have HP5 := Lib.hid hP
    have HA5 := Lib.hid hA
    have HW5 := Lib.hid hW
    have HD5 := Lib.hid hd
    clear hP hA hW hd q hb4 hr4 HP HA HB HR
    go_cut [4] (fun s4 wx => REnd w5 ⟨1, 0, [⟨#[98]⟩]⟩ s4 wx)
    case first =>
      go_region_held3 (fun w' => w'.cell? ⟨d, 0, none⟩ = some (.int .i64 5) ∧ w'.cell? ⟨d, 1, none⟩ = some (.int .i64 0)) ((refine ⟨?_, ?_⟩ <;> (with_reducible ((repeat' (first | assumption | refine cell_al ?_ | refine cell_drew ?_ | refine cell_keep (by assumption) ?_ | refine cell_far ?_ ?_ | (dsimp only; omega))); done)))) (first | (go_at_call 15; refine (start_any _ _ _).mono ?_; rintro e w6 ⟨rfl, hb6⟩; have hs1 : d < w6.heap.size := (by have hx := hb6.size; simp at hx; omega)) | (go_at_call 16; refine (add_text (s := ⟨#[98]⟩) ?_).mono ?_; (focus (with_reducible ((repeat' (first | exact cell_new _ _ _ | exact cell_new1 _ _ _ _ | exact cell_new2 _ _ _ _ _ | exact cell_newd _ _ _ | exact cell_newd1 _ _ _ _ | exact cell_newd2 _ _ _ _ _ | refine cell_al ?_ | refine cell_drew ?_ | refine cell_keep (by assumption) ?_)); done))); rintro e w7 ⟨A7, c7, rfl, hc7, hr7, hb7⟩; (first | (refine with_row (w := w7) (n := w6.heap.size) (o := (.cells #[.int .u64 0, .int .i64 0, .slice none 0 0] 33)) ?_ ?_; (focus (with_reducible ((repeat' (first | exact heap_alloc_last _ _ | exact row_new1 _ _ _ | exact row_new2 _ _ _ _ | exact row_newd _ _ | exact row_newd1 _ _ _ | exact row_newd2 _ _ _ _ | refine row_al ?_ | refine row_drew ?_ | refine row_keep (by assumption) ?_)); done))); intro q; obtain ⟨q0, q1, q2⟩ := blk3 q; obtain ⟨z0, z1, z2⟩ := frz3 q) | (refine with_row (w := w7) (n := w6.heap.size + 1) (o := (.cells #[.int .u64 0, .int .i64 0, .slice none 0 0] 33)) ?_ ?_; (focus (with_reducible ((repeat' (first | exact heap_alloc_last _ _ | exact row_new1 _ _ _ | exact row_new2 _ _ _ _ | exact row_newd _ _ | exact row_newd1 _ _ _ | exact row_newd2 _ _ _ _ | refine row_al ?_ | refine row_drew ?_ | refine row_keep (by assumption) ?_)); done))); intro q; obtain ⟨q0, q1, q2⟩ := blk3 q; obtain ⟨z0, z1, z2⟩ := frz3 q) | (refine with_row (w := w7) (n := w5.heap.size) (o := (.cells #[.int .u64 0, .int .i64 0, .slice none 0 0] 33)) ?_ ?_; (focus (with_reducible ((repeat' (first | exact heap_alloc_last _ _ | exact row_new1 _ _ _ | exact row_new2 _ _ _ _ | exact row_newd _ _ | exact row_newd1 _ _ _ | exact row_newd2 _ _ _ _ | refine row_al ?_ | refine row_drew ?_ | refine row_keep (by assumption) ?_)); done))); intro q; obtain ⟨q0, q1, q2⟩ := blk3 q; obtain ⟨z0, z1, z2⟩ := frz3 q) | (refine with_row (w := w7) (n := w5.heap.size + 1) (o := (.cells #[.int .u64 0, .int .i64 0, .slice none 0 0] 33)) ?_ ?_; (focus (with_reducible ((repeat' (first | exact heap_alloc_last _ _ | exact row_new1 _ _ _ | exact row_new2 _ _ _ _ | exact row_newd _ _ | exact row_newd1 _ _ _ | exact row_newd2 _ _ _ _ | refine row_al ?_ | refine row_drew ?_ | refine row_keep (by assumption) ?_)); done))); intro q; obtain ⟨q0, q1, q2⟩ := blk3 q; obtain ⟨z0, z1, z2⟩ := frz3 q) | skip)))
      all_goals (go_wp2_with fail; go_meet)
      all_goals have F : Below w5.heap.size w5 w7 := by (with_reducible ((repeat' (first | exact Below.refl _ _ | refine bAlloc ?_ _ | refine bDrew ?_ | refine bThen ?_ (by assumption))); done))
      all_goals have hs0 : w5.heap.size ≤ w6.heap.size := by (have hx := hb6.size; simp at hx; omega)
      all_goals first | exact rend_new F hr7 hc7 | exact rend_set F hr7 hc7 q (by omega)
    case rest =>
      obtain ⟨h, rfl, hq, hF5, hh⟩ := hcut
      obtain ⟨A9, c9, p9, hr9, hc9⟩ := hq
      have HD := Lib.hid (HD5.out.below hF5)
      have HP := Lib.hid (HP5.out.below hF5)
      have HA := Lib.hid (HA5.out.below hF5)
      have HW := Lib.hid (bThen HW5.out hF5)
      have p9 : wc.heap[h]? = some (.cells #[.int .u64 1, .int .i64 0, .slice A9 1 c9] 33) := p9
      have hr9 : RT wc A9 1 [⟨#[98]⟩] := hr9
      have HQ := Lib.hid p9
      have HR9 := Lib.hid hr9
      clear q0 q1
      obtain ⟨q0, q1⟩ := blk2 HD.out
      obtain ⟨h0, h1, h2⟩ := blk3 p9
      have hhw := blk_lt p9
      clear p9 hr9 hF5 hc9
      go_upto_region 6 with fail
      go_cut [] (fun wx => PAt wx h ⟨2, 0, [⟨#[97]⟩, ⟨#[98]⟩]⟩ ∧ PAt wx g ⟨3, 5, []⟩ ∧ AAt wx w.heap.size 2 ∧ AAt wx d 5 ∧ Below w.heap.size w wx)
      case first =>
        refine wp_region_held_drew (S := fun w' => w'.cell? ⟨d, 0, none⟩ = some (.int .i64 5) ∧ w'.cell? ⟨d, 1, none⟩ = some (.int .i64 0)) (by kernel_rfl) ?_ (fun hHeld => ?_)
        · (try dsimp only); (refine ⟨?_, ?_⟩ <;> (with_reducible ((repeat' (first | assumption | refine cell_al ?_ | refine cell_drew ?_ | refine cell_keep (by assumption) ?_ | refine cell_far ?_ ?_ | (dsimp only; omega))); done)))
        try simp only [Act.put, List.setIfInBounds_toArray, List.set_cons_zero, List.set_cons_succ]
        refine wpAnyH_take (i := 0) (oi := { dst := some 24, op := Go.Op.load 23 (Go.Operand.tmp 3), type := 23, pos := "law.go:18", after := #[], guard := none }) (v := ?v1) rfl (by kernel_rfl) (by kernel_rfl) (by kernel_rfl) (fun _ _ _ h => h) (Or.inl ⟨by rfl, ?hy1⟩) (by assumption) ?rest1
        case hy1 => (intro w hSw; (try dsimp only at hSw); go_simp; first | done | with_reducible rfl)
        try simp only [Act.put, List.setIfInBounds_toArray, List.set_cons_zero, List.set_cons_succ]
        refine wpAnyH_take (i := 2) (oi := { dst := some 26, op := Go.Op.load 23 (Go.Operand.tmp 3), type := 23, pos := "law.go:18", after := #[], guard := none }) (v := ?v2) rfl (by kernel_rfl) (by kernel_rfl) (by kernel_rfl) (fun _ _ _ h => h) (Or.inl ⟨by rfl, ?hy2⟩) (by assumption) ?rest2
        case hy2 => (intro w hSw; (try dsimp only at hSw); go_simp; first | done | with_reducible rfl)
        try simp only [Act.put, List.setIfInBounds_toArray, List.set_cons_zero, List.set_cons_succ]
        refine wpAnyH_take (i := 3) (oi := { dst := some 27, op := Go.Op.load 23 (Go.Operand.tmp 3), type := 23, pos := "law.go:18", after := #[], guard := none }) (v := ?v3) rfl (by kernel_rfl) (by kernel_rfl) (by kernel_rfl) (fun _ _ _ h => h) (Or.inl ⟨by rfl, ?hy3⟩) (by assumption) ?rest3
        case hy3 => (intro w hSw; (try dsimp only at hSw); go_simp; first | done | with_reducible rfl)
        try simp only [Act.put, List.setIfInBounds_toArray, List.set_cons_zero, List.set_cons_succ]
        refine wpAnyH_ready (rs := [1, 4, 5]) (by kernel_rfl) (by simp) ?_
        refine AllReadyH.cons (o := { dst := some 25, op := Go.Op.load 33 (Go.Operand.tmp 4), type := 33, pos := "law.go:18", after := #[], guard := none }) rfl (fun K hK => ?_) ?_
        · go_simp
          first | (refine hK.out _ _ ?_ (fun hHeld => ?_)) | (go_wp2_with fail; refine hK.out _ _ ?_ (fun hHeld => ?_))
          · (try dsimp only); (refine ⟨?_, ?_⟩ <;> (with_reducible ((repeat' (first | assumption | refine cell_al ?_ | refine cell_drew ?_ | refine cell_keep (by assumption) ?_ | refine cell_far ?_ ?_ | (dsimp only; omega))); done)))
          clear hK K
          try simp only [Act.put, List.setIfInBounds_toArray, List.set_cons_zero, List.set_cons_succ]
          refine wpAnyH_ready (rs := [4, 5]) (by kernel_rfl) (by simp) ?_
          refine AllReadyH.cons (o := { dst := some 28, op := Go.Op.call { callee := Go.Callee.value (Go.Operand.func 15), args := #[Go.Operand.tmp 27], argTypes := #[23] }, type := 33, pos := "law.go:18", after := #[{ on := 3, ground := Go.Ground.data }], guard := none }) rfl (fun K hK => ?_) ?_
          · go_simp
            go_at_call 15
            refine (start_any _ _ _).mono ?_
            rintro e w6 ⟨rfl, hb6⟩
            (refine with_row (w := w6) (n := h) (o := (.cells #[.int .u64 1, .int .i64 0, .slice A9 1 c9] 33)) ?_ ?_); (focus (with_reducible (repeat' (first | exact HQ.out | refine row_al ?_ | refine row_drew ?_ | refine row_keep (by assumption) ?_)))); intro q6; obtain ⟨h0, h1, h2⟩ := blk3 q6; have hl6 := blk_lt q6
            first | (refine hK.out _ _ ?_ (fun hHeld => ?_)) | (go_wp2_with fail; refine hK.out _ _ ?_ (fun hHeld => ?_))
            · (try dsimp only); (refine ⟨?_, ?_⟩ <;> (with_reducible ((repeat' (first | assumption | refine cell_al ?_ | refine cell_drew ?_ | refine cell_keep (by assumption) ?_ | refine cell_far ?_ ?_ | (dsimp only; omega))); done)))
            clear hK K
            try simp only [Act.put, List.setIfInBounds_toArray, List.set_cons_zero, List.set_cons_succ]
            refine wpAnyH_ready (rs := [5]) (by kernel_rfl) (by simp) ?_
            refine AllReadyH.cons (o := { dst := some 29, op := Go.Op.buildSlice 31 1 #[(0, Go.Operand.const (Go.Value.string { data := #[97] }))], type := 31, pos := "law.go:18", after := #[], guard := none }) rfl (fun K hK => ?_) ?_
            · go_simp
              first | (refine hK.out _ _ ?_ (fun hHeld => ?_)) | (go_wp2_with fail; refine hK.out _ _ ?_ (fun hHeld => ?_))
              · (try dsimp only); (refine ⟨?_, ?_⟩ <;> (with_reducible ((repeat' (first | assumption | refine cell_al ?_ | refine cell_drew ?_ | refine cell_keep (by assumption) ?_ | refine cell_far ?_ ?_ | (dsimp only; omega))); done)))
              clear hK K
              try simp only [Act.put, List.setIfInBounds_toArray, List.set_cons_zero, List.set_cons_succ]
              refine wpAnyH_take (i := 6) (oi := { dst := some 30, op := Go.Op.build 45 #[(1, Go.Operand.tmp 29)], type := 45, pos := "law.go:18", after := #[{ on := 5, ground := Go.Ground.data }], guard := none }) (v := ?v4) rfl (by kernel_rfl) (by kernel_rfl) (by kernel_rfl) (fun _ _ _ h => h) (Or.inl ⟨by rfl, ?hy4⟩) (by assumption) ?rest4
              case hy4 => (intro w hSw; (try dsimp only at hSw); go_simp; first | done | with_reducible rfl)
              try simp only [Act.put, List.setIfInBounds_toArray, List.set_cons_zero, List.set_cons_succ]
              refine wpAnyH_ready (rs := [7]) (by kernel_rfl) (by simp) ?_
              refine AllReadyH.cons (o := { dst := some 31, op := Go.Op.call { callee := Go.Callee.value (Go.Operand.func 16), args := #[Go.Operand.tmp 26, Go.Operand.tmp 28, Go.Operand.tmp 30, Go.Operand.const (Go.Value.int Go.IntKind.u64 1)], argTypes := #[23, 33, 45, 30] }, type := 33, pos := "law.go:18", after := #[{ on := 2, ground := Go.Ground.data }, { on := 4, ground := Go.Ground.data }, { on := 6, ground := Go.Ground.data }, { on := 4, ground := Go.Ground.chain }], guard := none }) rfl (fun K hK => ?_) ?_
              · go_simp
                go_at_call 16
                refine (add_text (s := ⟨#[97]⟩) ?_).mono ?_
                focus (with_reducible ((repeat' (first | exact cell_new _ _ _ | exact cell_new1 _ _ _ _ | exact cell_new2 _ _ _ _ _ | exact cell_newd _ _ _ | exact cell_newd1 _ _ _ _ | exact cell_newd2 _ _ _ _ _ | refine cell_al ?_ | refine cell_drew ?_ | refine cell_keep (by assumption) ?_)); done))
                rintro e w7 ⟨A7, c7, rfl, hc7, hr70, hb7⟩
                have hr7 : RT w7 A7 1 [⟨#[97]⟩] := hr70
                clear hr70
                (refine with_row (w := w7) (n := h) (o := (.cells #[.int .u64 1, .int .i64 0, .slice A9 1 c9] 33)) ?_ ?_); (focus (with_reducible (repeat' (first | exact HQ.out | refine row_al ?_ | refine row_drew ?_ | refine row_keep (by assumption) ?_)))); intro q7; obtain ⟨h0, h1, h2⟩ := blk3 q7; have hl7 := blk_lt q7
                first | (refine hK.out _ _ ?_ (fun hHeld => ?_)) | (go_wp2_with fail; refine hK.out _ _ ?_ (fun hHeld => ?_))
                · (try dsimp only); (refine ⟨?_, ?_⟩ <;> (with_reducible ((repeat' (first | assumption | refine cell_al ?_ | refine cell_drew ?_ | refine cell_keep (by assumption) ?_ | refine cell_far ?_ ?_ | (dsimp only; omega))); done)))
                clear hK K
                try simp only [Act.put, List.setIfInBounds_toArray, List.set_cons_zero, List.set_cons_succ]
                refine wpAnyH_ready (rs := [8]) (by kernel_rfl) (by simp) ?_
                refine AllReadyH.cons (o := { dst := some 32, op := Go.Op.call { callee := Go.Callee.value (Go.Operand.func 13), args := #[Go.Operand.tmp 24, Go.Operand.tmp 25, Go.Operand.tmp 31], argTypes := #[23, 33, 33] }, type := 33, pos := "law.go:18", after := #[{ on := 0, ground := Go.Ground.data }, { on := 1, ground := Go.Ground.data }, { on := 7, ground := Go.Ground.data }, { on := 7, ground := Go.Ground.chain }], guard := none }) rfl (fun K hK => ?_) ?_
                · go_simp
                  go_at_call 13
                  refine (merge_ba (A := A9) (B := A7) (c := c9) (d := c7) ?_ ?_).mono ?_
                  focus (with_reducible (repeat' (first | exact HR9.out | refine RT_keep (by assumption) ?_ | refine RT.drew ?_ | refine RT_al ?_)))
                  focus (with_reducible (repeat' (first | exact hr7 | refine RT_keep (by assumption) ?_ | refine RT.drew ?_ | refine RT_al ?_)))
                  rintro e w8 ⟨A8, c8, rfl, hc8, hr8, hb8⟩
                  refine with_row (w := w8) (n := h) (o := (.cells #[.int .u64 1, .int .i64 0, .slice A9 1 c9] 33)) ?_ ?_
                  focus (with_reducible (repeat' (first | exact HQ.out | refine row_al ?_ | refine row_drew ?_ | refine row_keep (by assumption) ?_)))
                  intro qq
                  obtain ⟨g0, g1, g2⟩ := blk3 qq
                  obtain ⟨z0, z1, z2⟩ := frz3 qq
                  first | (refine hK.out _ _ ?_ (fun hHeld => ?_)) | (go_wp2_with fail; refine hK.out _ _ ?_ (fun hHeld => ?_))
                  · (try dsimp only); (refine ⟨?_, ?_⟩ <;> (with_reducible ((repeat' (first | assumption | refine cell_al ?_ | refine cell_drew ?_ | refine cell_keep (by assumption) ?_ | refine cell_far ?_ ?_ | (dsimp only; omega))); done)))
                  clear hK K
                  try simp only [Act.put, List.setIfInBounds_toArray, List.set_cons_zero, List.set_cons_succ]
                  refine wpAnyH_ready (rs := [9]) (by kernel_rfl) (by simp) ?_
                  refine AllReadyH.cons (o := { dst := none, op := Go.Op.store 33 (Go.Operand.tmp 4) (Go.Operand.tmp 32), type := 0, pos := "law.go:18", after := #[{ on := 8, ground := Go.Ground.data }, { on := 8, ground := Go.Ground.chain }, { on := 0, ground := Go.Ground.phase }, { on := 1, ground := Go.Ground.phase }, { on := 2, ground := Go.Ground.phase }, { on := 3, ground := Go.Ground.phase }, { on := 4, ground := Go.Ground.phase }, { on := 5, ground := Go.Ground.phase }, { on := 6, ground := Go.Ground.phase }, { on := 7, ground := Go.Ground.phase }, { on := 8, ground := Go.Ground.phase }], guard := none }) rfl (fun K hK => ?_) ?_
                  · go_simp
                    first | (refine hK.out _ _ ?_ (fun hHeld => ?_)) | (go_wp2_with fail; refine hK.out _ _ ?_ (fun hHeld => ?_))
                    · (try dsimp only); (refine ⟨?_, ?_⟩ <;> (with_reducible ((repeat' (first | assumption | refine cell_al ?_ | refine cell_drew ?_ | refine cell_keep (by assumption) ?_ | refine cell_far ?_ ?_ | (dsimp only; omega))); done)))
                    clear hK K
                    try simp only [Act.put, List.setIfInBounds_toArray, List.set_cons_zero, List.set_cons_succ]
                    refine wpAnyH_done (by kernel_rfl) ?_ _
                    go_wp2_with fail
                    go_meet
                    exact end6 (r := ⟨2, 0, [⟨#[97]⟩, ⟨#[98]⟩]⟩) HW.out HP.out HA.out HD.out (by (with_reducible ((repeat' (first | exact Below.refl _ _ | refine bAlloc ?_ _ | refine bDrew ?_ | refine bThen ?_ (by assumption))); done))) hr8 hc8 qq hg hgw (by omega)
                  exact AllReadyH.nil
                exact AllReadyH.nil
              exact AllReadyH.nil
            exact AllReadyH.nil
          refine AllReadyH.cons (o := { dst := some 29, op := Go.Op.buildSlice 31 1 #[(0, Go.Operand.const (Go.Value.string { data := #[97] }))], type := 31, pos := "law.go:18", after := #[], guard := none }) rfl (fun K hK => ?_) ?_
          · go_simp
            first | (refine hK.out _ _ ?_ (fun hHeld => ?_)) | (go_wp2_with fail; refine hK.out _ _ ?_ (fun hHeld => ?_))
            · (try dsimp only); (refine ⟨?_, ?_⟩ <;> (with_reducible ((repeat' (first | assumption | refine cell_al ?_ | refine cell_drew ?_ | refine cell_keep (by assumption) ?_ | refine cell_far ?_ ?_ | (dsimp only; omega))); done)))
            clear hK K
            try simp only [Act.put, List.setIfInBounds_toArray, List.set_cons_zero, List.set_cons_succ]
            refine wpAnyH_take (i := 6) (oi := { dst := some 30, op := Go.Op.build 45 #[(1, Go.Operand.tmp 29)], type := 45, pos := "law.go:18", after := #[{ on := 5, ground := Go.Ground.data }], guard := none }) (v := ?v5) rfl (by kernel_rfl) (by kernel_rfl) (by kernel_rfl) (fun _ _ _ h => h) (Or.inl ⟨by rfl, ?hy5⟩) (by assumption) ?rest5
            case hy5 => (intro w hSw; (try dsimp only at hSw); go_simp; first | done | with_reducible rfl)
            try simp only [Act.put, List.setIfInBounds_toArray, List.set_cons_zero, List.set_cons_succ]
            refine wpAnyH_ready (rs := [4]) (by kernel_rfl) (by simp) ?_
            refine AllReadyH.cons (o := { dst := some 28, op := Go.Op.call { callee := Go.Callee.value (Go.Operand.func 15), args := #[Go.Operand.tmp 27], argTypes := #[23] }, type := 33, pos := "law.go:18", after := #[{ on := 3, ground := Go.Ground.data }], guard := none }) rfl (fun K hK => ?_) ?_
            · go_simp
              go_at_call 15
              refine (start_any _ _ _).mono ?_
              rintro e w6 ⟨rfl, hb6⟩
              (refine with_row (w := w6) (n := h) (o := (.cells #[.int .u64 1, .int .i64 0, .slice A9 1 c9] 33)) ?_ ?_); (focus (with_reducible (repeat' (first | exact HQ.out | refine row_al ?_ | refine row_drew ?_ | refine row_keep (by assumption) ?_)))); intro q6; obtain ⟨h0, h1, h2⟩ := blk3 q6; have hl6 := blk_lt q6
              first | (refine hK.out _ _ ?_ (fun hHeld => ?_)) | (go_wp2_with fail; refine hK.out _ _ ?_ (fun hHeld => ?_))
              · (try dsimp only); (refine ⟨?_, ?_⟩ <;> (with_reducible ((repeat' (first | assumption | refine cell_al ?_ | refine cell_drew ?_ | refine cell_keep (by assumption) ?_ | refine cell_far ?_ ?_ | (dsimp only; omega))); done)))
              clear hK K
              try simp only [Act.put, List.setIfInBounds_toArray, List.set_cons_zero, List.set_cons_succ]
              refine wpAnyH_ready (rs := [7]) (by kernel_rfl) (by simp) ?_
              refine AllReadyH.cons (o := { dst := some 31, op := Go.Op.call { callee := Go.Callee.value (Go.Operand.func 16), args := #[Go.Operand.tmp 26, Go.Operand.tmp 28, Go.Operand.tmp 30, Go.Operand.const (Go.Value.int Go.IntKind.u64 1)], argTypes := #[23, 33, 45, 30] }, type := 33, pos := "law.go:18", after := #[{ on := 2, ground := Go.Ground.data }, { on := 4, ground := Go.Ground.data }, { on := 6, ground := Go.Ground.data }, { on := 4, ground := Go.Ground.chain }], guard := none }) rfl (fun K hK => ?_) ?_
              · go_simp
                go_at_call 16
                refine (add_text (s := ⟨#[97]⟩) ?_).mono ?_
                focus (with_reducible ((repeat' (first | exact cell_new _ _ _ | exact cell_new1 _ _ _ _ | exact cell_new2 _ _ _ _ _ | exact cell_newd _ _ _ | exact cell_newd1 _ _ _ _ | exact cell_newd2 _ _ _ _ _ | refine cell_al ?_ | refine cell_drew ?_ | refine cell_keep (by assumption) ?_)); done))
                rintro e w7 ⟨A7, c7, rfl, hc7, hr70, hb7⟩
                have hr7 : RT w7 A7 1 [⟨#[97]⟩] := hr70
                clear hr70
                (refine with_row (w := w7) (n := h) (o := (.cells #[.int .u64 1, .int .i64 0, .slice A9 1 c9] 33)) ?_ ?_); (focus (with_reducible (repeat' (first | exact HQ.out | refine row_al ?_ | refine row_drew ?_ | refine row_keep (by assumption) ?_)))); intro q7; obtain ⟨h0, h1, h2⟩ := blk3 q7; have hl7 := blk_lt q7
                first | (refine hK.out _ _ ?_ (fun hHeld => ?_)) | (go_wp2_with fail; refine hK.out _ _ ?_ (fun hHeld => ?_))
                · (try dsimp only); (refine ⟨?_, ?_⟩ <;> (with_reducible ((repeat' (first | assumption | refine cell_al ?_ | refine cell_drew ?_ | refine cell_keep (by assumption) ?_ | refine cell_far ?_ ?_ | (dsimp only; omega))); done)))
                clear hK K
                try simp only [Act.put, List.setIfInBounds_toArray, List.set_cons_zero, List.set_cons_succ]
                refine wpAnyH_ready (rs := [8]) (by kernel_rfl) (by simp) ?_
                refine AllReadyH.cons (o := { dst := some 32, op := Go.Op.call { callee := Go.Callee.value (Go.Operand.func 13), args := #[Go.Operand.tmp 24, Go.Operand.tmp 25, Go.Operand.tmp 31], argTypes := #[23, 33, 33] }, type := 33, pos := "law.go:18", after := #[{ on := 0, ground := Go.Ground.data }, { on := 1, ground := Go.Ground.data }, { on := 7, ground := Go.Ground.data }, { on := 7, ground := Go.Ground.chain }], guard := none }) rfl (fun K hK => ?_) ?_
                · go_simp
                  go_at_call 13
                  refine (merge_ba (A := A9) (B := A7) (c := c9) (d := c7) ?_ ?_).mono ?_
                  focus (with_reducible (repeat' (first | exact HR9.out | refine RT_keep (by assumption) ?_ | refine RT.drew ?_ | refine RT_al ?_)))
                  focus (with_reducible (repeat' (first | exact hr7 | refine RT_keep (by assumption) ?_ | refine RT.drew ?_ | refine RT_al ?_)))
                  rintro e w8 ⟨A8, c8, rfl, hc8, hr8, hb8⟩
                  refine with_row (w := w8) (n := h) (o := (.cells #[.int .u64 1, .int .i64 0, .slice A9 1 c9] 33)) ?_ ?_
                  focus (with_reducible (repeat' (first | exact HQ.out | refine row_al ?_ | refine row_drew ?_ | refine row_keep (by assumption) ?_)))
                  intro qq
                  obtain ⟨g0, g1, g2⟩ := blk3 qq
                  obtain ⟨z0, z1, z2⟩ := frz3 qq
                  first | (refine hK.out _ _ ?_ (fun hHeld => ?_)) | (go_wp2_with fail; refine hK.out _ _ ?_ (fun hHeld => ?_))
                  · (try dsimp only); (refine ⟨?_, ?_⟩ <;> (with_reducible ((repeat' (first | assumption | refine cell_al ?_ | refine cell_drew ?_ | refine cell_keep (by assumption) ?_ | refine cell_far ?_ ?_ | (dsimp only; omega))); done)))
                  clear hK K
                  try simp only [Act.put, List.setIfInBounds_toArray, List.set_cons_zero, List.set_cons_succ]
                  refine wpAnyH_ready (rs := [9]) (by kernel_rfl) (by simp) ?_
                  refine AllReadyH.cons (o := { dst := none, op := Go.Op.store 33 (Go.Operand.tmp 4) (Go.Operand.tmp 32), type := 0, pos := "law.go:18", after := #[{ on := 8, ground := Go.Ground.data }, { on := 8, ground := Go.Ground.chain }, { on := 0, ground := Go.Ground.phase }, { on := 1, ground := Go.Ground.phase }, { on := 2, ground := Go.Ground.phase }, { on := 3, ground := Go.Ground.phase }, { on := 4, ground := Go.Ground.phase }, { on := 5, ground := Go.Ground.phase }, { on := 6, ground := Go.Ground.phase }, { on := 7, ground := Go.Ground.phase }, { on := 8, ground := Go.Ground.phase }], guard := none }) rfl (fun K hK => ?_) ?_
                  · go_simp
                    first | (refine hK.out _ _ ?_ (fun hHeld => ?_)) | (go_wp2_with fail; refine hK.out _ _ ?_ (fun hHeld => ?_))
                    · (try dsimp only); (refine ⟨?_, ?_⟩ <;> (with_reducible ((repeat' (first | assumption | refine cell_al ?_ | refine cell_drew ?_ | refine cell_keep (by assumption) ?_ | refine cell_far ?_ ?_ | (dsimp only; omega))); done)))
                    clear hK K
                    try simp only [Act.put, List.setIfInBounds_toArray, List.set_cons_zero, List.set_cons_succ]
                    refine wpAnyH_done (by kernel_rfl) ?_ _
                    go_wp2_with fail
                    go_meet
                    exact end6 (r := ⟨2, 0, [⟨#[97]⟩, ⟨#[98]⟩]⟩) HW.out HP.out HA.out HD.out (by (with_reducible ((repeat' (first | exact Below.refl _ _ | refine bAlloc ?_ _ | refine bDrew ?_ | refine bThen ?_ (by assumption))); done))) hr8 hc8 qq hg hgw (by omega)
                  exact AllReadyH.nil
                exact AllReadyH.nil
              exact AllReadyH.nil
            exact AllReadyH.nil
          exact AllReadyH.nil
        refine AllReadyH.cons (o := { dst := some 28, op := Go.Op.call { callee := Go.Callee.value (Go.Operand.func 15), args := #[Go.Operand.tmp 27], argTypes := #[23] }, type := 33, pos := "law.go:18", after := #[{ on := 3, ground := Go.Ground.data }], guard := none }) rfl (fun K hK => ?_) ?_
        · go_simp
          go_at_call 15
          refine (start_any _ _ _).mono ?_
          rintro e w6 ⟨rfl, hb6⟩
          (refine with_row (w := w6) (n := h) (o := (.cells #[.int .u64 1, .int .i64 0, .slice A9 1 c9] 33)) ?_ ?_); (focus (with_reducible (repeat' (first | exact HQ.out | refine row_al ?_ | refine row_drew ?_ | refine row_keep (by assumption) ?_)))); intro q6; obtain ⟨h0, h1, h2⟩ := blk3 q6; have hl6 := blk_lt q6
          first | (refine hK.out _ _ ?_ (fun hHeld => ?_)) | (go_wp2_with fail; refine hK.out _ _ ?_ (fun hHeld => ?_))
          · (try dsimp only); (refine ⟨?_, ?_⟩ <;> (with_reducible ((repeat' (first | assumption | refine cell_al ?_ | refine cell_drew ?_ | refine cell_keep (by assumption) ?_ | refine cell_far ?_ ?_ | (dsimp only; omega))); done)))
          clear hK K
          try simp only [Act.put, List.setIfInBounds_toArray, List.set_cons_zero, List.set_cons_succ]
          refine wpAnyH_ready (rs := [1, 5]) (by kernel_rfl) (by simp) ?_
          refine AllReadyH.cons (o := { dst := some 25, op := Go.Op.load 33 (Go.Operand.tmp 4), type := 33, pos := "law.go:18", after := #[], guard := none }) rfl (fun K hK => ?_) ?_
          · go_simp
            first | (refine hK.out _ _ ?_ (fun hHeld => ?_)) | (go_wp2_with fail; refine hK.out _ _ ?_ (fun hHeld => ?_))
            · (try dsimp only); (refine ⟨?_, ?_⟩ <;> (with_reducible ((repeat' (first | assumption | refine cell_al ?_ | refine cell_drew ?_ | refine cell_keep (by assumption) ?_ | refine cell_far ?_ ?_ | (dsimp only; omega))); done)))
            clear hK K
            try simp only [Act.put, List.setIfInBounds_toArray, List.set_cons_zero, List.set_cons_succ]
            refine wpAnyH_ready (rs := [5]) (by kernel_rfl) (by simp) ?_
            refine AllReadyH.cons (o := { dst := some 29, op := Go.Op.buildSlice 31 1 #[(0, Go.Operand.const (Go.Value.string { data := #[97] }))], type := 31, pos := "law.go:18", after := #[], guard := none }) rfl (fun K hK => ?_) ?_
            · go_simp
              first | (refine hK.out _ _ ?_ (fun hHeld => ?_)) | (go_wp2_with fail; refine hK.out _ _ ?_ (fun hHeld => ?_))
              · (try dsimp only); (refine ⟨?_, ?_⟩ <;> (with_reducible ((repeat' (first | assumption | refine cell_al ?_ | refine cell_drew ?_ | refine cell_keep (by assumption) ?_ | refine cell_far ?_ ?_ | (dsimp only; omega))); done)))
              clear hK K
              try simp only [Act.put, List.setIfInBounds_toArray, List.set_cons_zero, List.set_cons_succ]
              refine wpAnyH_take (i := 6) (oi := { dst := some 30, op := Go.Op.build 45 #[(1, Go.Operand.tmp 29)], type := 45, pos := "law.go:18", after := #[{ on := 5, ground := Go.Ground.data }], guard := none }) (v := ?v6) rfl (by kernel_rfl) (by kernel_rfl) (by kernel_rfl) (fun _ _ _ h => h) (Or.inl ⟨by rfl, ?hy6⟩) (by assumption) ?rest6
              case hy6 => (intro w hSw; (try dsimp only at hSw); go_simp; first | done | with_reducible rfl)
              try simp only [Act.put, List.setIfInBounds_toArray, List.set_cons_zero, List.set_cons_succ]
              refine wpAnyH_ready (rs := [7]) (by kernel_rfl) (by simp) ?_
              refine AllReadyH.cons (o := { dst := some 31, op := Go.Op.call { callee := Go.Callee.value (Go.Operand.func 16), args := #[Go.Operand.tmp 26, Go.Operand.tmp 28, Go.Operand.tmp 30, Go.Operand.const (Go.Value.int Go.IntKind.u64 1)], argTypes := #[23, 33, 45, 30] }, type := 33, pos := "law.go:18", after := #[{ on := 2, ground := Go.Ground.data }, { on := 4, ground := Go.Ground.data }, { on := 6, ground := Go.Ground.data }, { on := 4, ground := Go.Ground.chain }], guard := none }) rfl (fun K hK => ?_) ?_
              · go_simp
                go_at_call 16
                refine (add_text (s := ⟨#[97]⟩) ?_).mono ?_
                focus (with_reducible ((repeat' (first | exact cell_new _ _ _ | exact cell_new1 _ _ _ _ | exact cell_new2 _ _ _ _ _ | exact cell_newd _ _ _ | exact cell_newd1 _ _ _ _ | exact cell_newd2 _ _ _ _ _ | refine cell_al ?_ | refine cell_drew ?_ | refine cell_keep (by assumption) ?_)); done))
                rintro e w7 ⟨A7, c7, rfl, hc7, hr70, hb7⟩
                have hr7 : RT w7 A7 1 [⟨#[97]⟩] := hr70
                clear hr70
                (refine with_row (w := w7) (n := h) (o := (.cells #[.int .u64 1, .int .i64 0, .slice A9 1 c9] 33)) ?_ ?_); (focus (with_reducible (repeat' (first | exact HQ.out | refine row_al ?_ | refine row_drew ?_ | refine row_keep (by assumption) ?_)))); intro q7; obtain ⟨h0, h1, h2⟩ := blk3 q7; have hl7 := blk_lt q7
                first | (refine hK.out _ _ ?_ (fun hHeld => ?_)) | (go_wp2_with fail; refine hK.out _ _ ?_ (fun hHeld => ?_))
                · (try dsimp only); (refine ⟨?_, ?_⟩ <;> (with_reducible ((repeat' (first | assumption | refine cell_al ?_ | refine cell_drew ?_ | refine cell_keep (by assumption) ?_ | refine cell_far ?_ ?_ | (dsimp only; omega))); done)))
                clear hK K
                try simp only [Act.put, List.setIfInBounds_toArray, List.set_cons_zero, List.set_cons_succ]
                refine wpAnyH_ready (rs := [8]) (by kernel_rfl) (by simp) ?_
                refine AllReadyH.cons (o := { dst := some 32, op := Go.Op.call { callee := Go.Callee.value (Go.Operand.func 13), args := #[Go.Operand.tmp 24, Go.Operand.tmp 25, Go.Operand.tmp 31], argTypes := #[23, 33, 33] }, type := 33, pos := "law.go:18", after := #[{ on := 0, ground := Go.Ground.data }, { on := 1, ground := Go.Ground.data }, { on := 7, ground := Go.Ground.data }, { on := 7, ground := Go.Ground.chain }], guard := none }) rfl (fun K hK => ?_) ?_
                · go_simp
                  go_at_call 13
                  refine (merge_ba (A := A9) (B := A7) (c := c9) (d := c7) ?_ ?_).mono ?_
                  focus (with_reducible (repeat' (first | exact HR9.out | refine RT_keep (by assumption) ?_ | refine RT.drew ?_ | refine RT_al ?_)))
                  focus (with_reducible (repeat' (first | exact hr7 | refine RT_keep (by assumption) ?_ | refine RT.drew ?_ | refine RT_al ?_)))
                  rintro e w8 ⟨A8, c8, rfl, hc8, hr8, hb8⟩
                  refine with_row (w := w8) (n := h) (o := (.cells #[.int .u64 1, .int .i64 0, .slice A9 1 c9] 33)) ?_ ?_
                  focus (with_reducible (repeat' (first | exact HQ.out | refine row_al ?_ | refine row_drew ?_ | refine row_keep (by assumption) ?_)))
                  intro qq
                  obtain ⟨g0, g1, g2⟩ := blk3 qq
                  obtain ⟨z0, z1, z2⟩ := frz3 qq
                  first | (refine hK.out _ _ ?_ (fun hHeld => ?_)) | (go_wp2_with fail; refine hK.out _ _ ?_ (fun hHeld => ?_))
                  · (try dsimp only); (refine ⟨?_, ?_⟩ <;> (with_reducible ((repeat' (first | assumption | refine cell_al ?_ | refine cell_drew ?_ | refine cell_keep (by assumption) ?_ | refine cell_far ?_ ?_ | (dsimp only; omega))); done)))
                  clear hK K
                  try simp only [Act.put, List.setIfInBounds_toArray, List.set_cons_zero, List.set_cons_succ]
                  refine wpAnyH_ready (rs := [9]) (by kernel_rfl) (by simp) ?_
                  refine AllReadyH.cons (o := { dst := none, op := Go.Op.store 33 (Go.Operand.tmp 4) (Go.Operand.tmp 32), type := 0, pos := "law.go:18", after := #[{ on := 8, ground := Go.Ground.data }, { on := 8, ground := Go.Ground.chain }, { on := 0, ground := Go.Ground.phase }, { on := 1, ground := Go.Ground.phase }, { on := 2, ground := Go.Ground.phase }, { on := 3, ground := Go.Ground.phase }, { on := 4, ground := Go.Ground.phase }, { on := 5, ground := Go.Ground.phase }, { on := 6, ground := Go.Ground.phase }, { on := 7, ground := Go.Ground.phase }, { on := 8, ground := Go.Ground.phase }], guard := none }) rfl (fun K hK => ?_) ?_
                  · go_simp
                    first | (refine hK.out _ _ ?_ (fun hHeld => ?_)) | (go_wp2_with fail; refine hK.out _ _ ?_ (fun hHeld => ?_))
                    · (try dsimp only); (refine ⟨?_, ?_⟩ <;> (with_reducible ((repeat' (first | assumption | refine cell_al ?_ | refine cell_drew ?_ | refine cell_keep (by assumption) ?_ | refine cell_far ?_ ?_ | (dsimp only; omega))); done)))
                    clear hK K
                    try simp only [Act.put, List.setIfInBounds_toArray, List.set_cons_zero, List.set_cons_succ]
                    refine wpAnyH_done (by kernel_rfl) ?_ _
                    go_wp2_with fail
                    go_meet
                    exact end6 (r := ⟨2, 0, [⟨#[97]⟩, ⟨#[98]⟩]⟩) HW.out HP.out HA.out HD.out (by (with_reducible ((repeat' (first | exact Below.refl _ _ | refine bAlloc ?_ _ | refine bDrew ?_ | refine bThen ?_ (by assumption))); done))) hr8 hc8 qq hg hgw (by omega)
                  exact AllReadyH.nil
                exact AllReadyH.nil
              exact AllReadyH.nil
            exact AllReadyH.nil
          refine AllReadyH.cons (o := { dst := some 29, op := Go.Op.buildSlice 31 1 #[(0, Go.Operand.const (Go.Value.string { data := #[97] }))], type := 31, pos := "law.go:18", after := #[], guard := none }) rfl (fun K hK => ?_) ?_
          · go_simp
            first | (refine hK.out _ _ ?_ (fun hHeld => ?_)) | (go_wp2_with fail; refine hK.out _ _ ?_ (fun hHeld => ?_))
            · (try dsimp only); (refine ⟨?_, ?_⟩ <;> (with_reducible ((repeat' (first | assumption | refine cell_al ?_ | refine cell_drew ?_ | refine cell_keep (by assumption) ?_ | refine cell_far ?_ ?_ | (dsimp only; omega))); done)))
            clear hK K
            try simp only [Act.put, List.setIfInBounds_toArray, List.set_cons_zero, List.set_cons_succ]
            refine wpAnyH_take (i := 6) (oi := { dst := some 30, op := Go.Op.build 45 #[(1, Go.Operand.tmp 29)], type := 45, pos := "law.go:18", after := #[{ on := 5, ground := Go.Ground.data }], guard := none }) (v := ?v7) rfl (by kernel_rfl) (by kernel_rfl) (by kernel_rfl) (fun _ _ _ h => h) (Or.inl ⟨by rfl, ?hy7⟩) (by assumption) ?rest7
            case hy7 => (intro w hSw; (try dsimp only at hSw); go_simp; first | done | with_reducible rfl)
            try simp only [Act.put, List.setIfInBounds_toArray, List.set_cons_zero, List.set_cons_succ]
            refine wpAnyH_ready (rs := [1, 7]) (by kernel_rfl) (by simp) ?_
            refine AllReadyH.cons (o := { dst := some 25, op := Go.Op.load 33 (Go.Operand.tmp 4), type := 33, pos := "law.go:18", after := #[], guard := none }) rfl (fun K hK => ?_) ?_
            · go_simp
              first | (refine hK.out _ _ ?_ (fun hHeld => ?_)) | (go_wp2_with fail; refine hK.out _ _ ?_ (fun hHeld => ?_))
              · (try dsimp only); (refine ⟨?_, ?_⟩ <;> (with_reducible ((repeat' (first | assumption | refine cell_al ?_ | refine cell_drew ?_ | refine cell_keep (by assumption) ?_ | refine cell_far ?_ ?_ | (dsimp only; omega))); done)))
              clear hK K
              try simp only [Act.put, List.setIfInBounds_toArray, List.set_cons_zero, List.set_cons_succ]
              refine wpAnyH_ready (rs := [7]) (by kernel_rfl) (by simp) ?_
              refine AllReadyH.cons (o := { dst := some 31, op := Go.Op.call { callee := Go.Callee.value (Go.Operand.func 16), args := #[Go.Operand.tmp 26, Go.Operand.tmp 28, Go.Operand.tmp 30, Go.Operand.const (Go.Value.int Go.IntKind.u64 1)], argTypes := #[23, 33, 45, 30] }, type := 33, pos := "law.go:18", after := #[{ on := 2, ground := Go.Ground.data }, { on := 4, ground := Go.Ground.data }, { on := 6, ground := Go.Ground.data }, { on := 4, ground := Go.Ground.chain }], guard := none }) rfl (fun K hK => ?_) ?_
              · go_simp
                go_at_call 16
                refine (add_text (s := ⟨#[97]⟩) ?_).mono ?_
                focus (with_reducible ((repeat' (first | exact cell_new _ _ _ | exact cell_new1 _ _ _ _ | exact cell_new2 _ _ _ _ _ | exact cell_newd _ _ _ | exact cell_newd1 _ _ _ _ | exact cell_newd2 _ _ _ _ _ | refine cell_al ?_ | refine cell_drew ?_ | refine cell_keep (by assumption) ?_)); done))
                rintro e w7 ⟨A7, c7, rfl, hc7, hr70, hb7⟩
                have hr7 : RT w7 A7 1 [⟨#[97]⟩] := hr70
                clear hr70
                (refine with_row (w := w7) (n := h) (o := (.cells #[.int .u64 1, .int .i64 0, .slice A9 1 c9] 33)) ?_ ?_); (focus (with_reducible (repeat' (first | exact HQ.out | refine row_al ?_ | refine row_drew ?_ | refine row_keep (by assumption) ?_)))); intro q7; obtain ⟨h0, h1, h2⟩ := blk3 q7; have hl7 := blk_lt q7
                first | (refine hK.out _ _ ?_ (fun hHeld => ?_)) | (go_wp2_with fail; refine hK.out _ _ ?_ (fun hHeld => ?_))
                · (try dsimp only); (refine ⟨?_, ?_⟩ <;> (with_reducible ((repeat' (first | assumption | refine cell_al ?_ | refine cell_drew ?_ | refine cell_keep (by assumption) ?_ | refine cell_far ?_ ?_ | (dsimp only; omega))); done)))
                clear hK K
                try simp only [Act.put, List.setIfInBounds_toArray, List.set_cons_zero, List.set_cons_succ]
                refine wpAnyH_ready (rs := [8]) (by kernel_rfl) (by simp) ?_
                refine AllReadyH.cons (o := { dst := some 32, op := Go.Op.call { callee := Go.Callee.value (Go.Operand.func 13), args := #[Go.Operand.tmp 24, Go.Operand.tmp 25, Go.Operand.tmp 31], argTypes := #[23, 33, 33] }, type := 33, pos := "law.go:18", after := #[{ on := 0, ground := Go.Ground.data }, { on := 1, ground := Go.Ground.data }, { on := 7, ground := Go.Ground.data }, { on := 7, ground := Go.Ground.chain }], guard := none }) rfl (fun K hK => ?_) ?_
                · go_simp
                  go_at_call 13
                  refine (merge_ba (A := A9) (B := A7) (c := c9) (d := c7) ?_ ?_).mono ?_
                  focus (with_reducible (repeat' (first | exact HR9.out | refine RT_keep (by assumption) ?_ | refine RT.drew ?_ | refine RT_al ?_)))
                  focus (with_reducible (repeat' (first | exact hr7 | refine RT_keep (by assumption) ?_ | refine RT.drew ?_ | refine RT_al ?_)))
                  rintro e w8 ⟨A8, c8, rfl, hc8, hr8, hb8⟩
                  refine with_row (w := w8) (n := h) (o := (.cells #[.int .u64 1, .int .i64 0, .slice A9 1 c9] 33)) ?_ ?_
                  focus (with_reducible (repeat' (first | exact HQ.out | refine row_al ?_ | refine row_drew ?_ | refine row_keep (by assumption) ?_)))
                  intro qq
                  obtain ⟨g0, g1, g2⟩ := blk3 qq
                  obtain ⟨z0, z1, z2⟩ := frz3 qq
                  first | (refine hK.out _ _ ?_ (fun hHeld => ?_)) | (go_wp2_with fail; refine hK.out _ _ ?_ (fun hHeld => ?_))
                  · (try dsimp only); (refine ⟨?_, ?_⟩ <;> (with_reducible ((repeat' (first | assumption | refine cell_al ?_ | refine cell_drew ?_ | refine cell_keep (by assumption) ?_ | refine cell_far ?_ ?_ | (dsimp only; omega))); done)))
                  clear hK K
                  try simp only [Act.put, List.setIfInBounds_toArray, List.set_cons_zero, List.set_cons_succ]
                  refine wpAnyH_ready (rs := [9]) (by kernel_rfl) (by simp) ?_
                  refine AllReadyH.cons (o := { dst := none, op := Go.Op.store 33 (Go.Operand.tmp 4) (Go.Operand.tmp 32), type := 0, pos := "law.go:18", after := #[{ on := 8, ground := Go.Ground.data }, { on := 8, ground := Go.Ground.chain }, { on := 0, ground := Go.Ground.phase }, { on := 1, ground := Go.Ground.phase }, { on := 2, ground := Go.Ground.phase }, { on := 3, ground := Go.Ground.phase }, { on := 4, ground := Go.Ground.phase }, { on := 5, ground := Go.Ground.phase }, { on := 6, ground := Go.Ground.phase }, { on := 7, ground := Go.Ground.phase }, { on := 8, ground := Go.Ground.phase }], guard := none }) rfl (fun K hK => ?_) ?_
                  · go_simp
                    first | (refine hK.out _ _ ?_ (fun hHeld => ?_)) | (go_wp2_with fail; refine hK.out _ _ ?_ (fun hHeld => ?_))
                    · (try dsimp only); (refine ⟨?_, ?_⟩ <;> (with_reducible ((repeat' (first | assumption | refine cell_al ?_ | refine cell_drew ?_ | refine cell_keep (by assumption) ?_ | refine cell_far ?_ ?_ | (dsimp only; omega))); done)))
                    clear hK K
                    try simp only [Act.put, List.setIfInBounds_toArray, List.set_cons_zero, List.set_cons_succ]
                    refine wpAnyH_done (by kernel_rfl) ?_ _
                    go_wp2_with fail
                    go_meet
                    exact end6 (r := ⟨2, 0, [⟨#[97]⟩, ⟨#[98]⟩]⟩) HW.out HP.out HA.out HD.out (by (with_reducible ((repeat' (first | exact Below.refl _ _ | refine bAlloc ?_ _ | refine bDrew ?_ | refine bThen ?_ (by assumption))); done))) hr8 hc8 qq hg hgw (by omega)
                  exact AllReadyH.nil
                exact AllReadyH.nil
              exact AllReadyH.nil
            refine AllReadyH.cons (o := { dst := some 31, op := Go.Op.call { callee := Go.Callee.value (Go.Operand.func 16), args := #[Go.Operand.tmp 26, Go.Operand.tmp 28, Go.Operand.tmp 30, Go.Operand.const (Go.Value.int Go.IntKind.u64 1)], argTypes := #[23, 33, 45, 30] }, type := 33, pos := "law.go:18", after := #[{ on := 2, ground := Go.Ground.data }, { on := 4, ground := Go.Ground.data }, { on := 6, ground := Go.Ground.data }, { on := 4, ground := Go.Ground.chain }], guard := none }) rfl (fun K hK => ?_) ?_
            · go_simp
              go_at_call 16
              refine (add_text (s := ⟨#[97]⟩) ?_).mono ?_
              focus (with_reducible ((repeat' (first | exact cell_new _ _ _ | exact cell_new1 _ _ _ _ | exact cell_new2 _ _ _ _ _ | exact cell_newd _ _ _ | exact cell_newd1 _ _ _ _ | exact cell_newd2 _ _ _ _ _ | refine cell_al ?_ | refine cell_drew ?_ | refine cell_keep (by assumption) ?_)); done))
              rintro e w7 ⟨A7, c7, rfl, hc7, hr70, hb7⟩
              have hr7 : RT w7 A7 1 [⟨#[97]⟩] := hr70
              clear hr70
              (refine with_row (w := w7) (n := h) (o := (.cells #[.int .u64 1, .int .i64 0, .slice A9 1 c9] 33)) ?_ ?_); (focus (with_reducible (repeat' (first | exact HQ.out | refine row_al ?_ | refine row_drew ?_ | refine row_keep (by assumption) ?_)))); intro q7; obtain ⟨h0, h1, h2⟩ := blk3 q7; have hl7 := blk_lt q7
              first | (refine hK.out _ _ ?_ (fun hHeld => ?_)) | (go_wp2_with fail; refine hK.out _ _ ?_ (fun hHeld => ?_))
              · (try dsimp only); (refine ⟨?_, ?_⟩ <;> (with_reducible ((repeat' (first | assumption | refine cell_al ?_ | refine cell_drew ?_ | refine cell_keep (by assumption) ?_ | refine cell_far ?_ ?_ | (dsimp only; omega))); done)))
              clear hK K
              try simp only [Act.put, List.setIfInBounds_toArray, List.set_cons_zero, List.set_cons_succ]
              refine wpAnyH_ready (rs := [1]) (by kernel_rfl) (by simp) ?_
              refine AllReadyH.cons (o := { dst := some 25, op := Go.Op.load 33 (Go.Operand.tmp 4), type := 33, pos := "law.go:18", after := #[], guard := none }) rfl (fun K hK => ?_) ?_
              · go_simp
                first | (refine hK.out _ _ ?_ (fun hHeld => ?_)) | (go_wp2_with fail; refine hK.out _ _ ?_ (fun hHeld => ?_))
                · (try dsimp only); (refine ⟨?_, ?_⟩ <;> (with_reducible ((repeat' (first | assumption | refine cell_al ?_ | refine cell_drew ?_ | refine cell_keep (by assumption) ?_ | refine cell_far ?_ ?_ | (dsimp only; omega))); done)))
                clear hK K
                try simp only [Act.put, List.setIfInBounds_toArray, List.set_cons_zero, List.set_cons_succ]
                refine wpAnyH_ready (rs := [8]) (by kernel_rfl) (by simp) ?_
                refine AllReadyH.cons (o := { dst := some 32, op := Go.Op.call { callee := Go.Callee.value (Go.Operand.func 13), args := #[Go.Operand.tmp 24, Go.Operand.tmp 25, Go.Operand.tmp 31], argTypes := #[23, 33, 33] }, type := 33, pos := "law.go:18", after := #[{ on := 0, ground := Go.Ground.data }, { on := 1, ground := Go.Ground.data }, { on := 7, ground := Go.Ground.data }, { on := 7, ground := Go.Ground.chain }], guard := none }) rfl (fun K hK => ?_) ?_
                · go_simp
                  go_at_call 13
                  refine (merge_ba (A := A9) (B := A7) (c := c9) (d := c7) ?_ ?_).mono ?_
                  focus (with_reducible (repeat' (first | exact HR9.out | refine RT_keep (by assumption) ?_ | refine RT.drew ?_ | refine RT_al ?_)))
                  focus (with_reducible (repeat' (first | exact hr7 | refine RT_keep (by assumption) ?_ | refine RT.drew ?_ | refine RT_al ?_)))
                  rintro e w8 ⟨A8, c8, rfl, hc8, hr8, hb8⟩
                  refine with_row (w := w8) (n := h) (o := (.cells #[.int .u64 1, .int .i64 0, .slice A9 1 c9] 33)) ?_ ?_
                  focus (with_reducible (repeat' (first | exact HQ.out | refine row_al ?_ | refine row_drew ?_ | refine row_keep (by assumption) ?_)))
                  intro qq
                  obtain ⟨g0, g1, g2⟩ := blk3 qq
                  obtain ⟨z0, z1, z2⟩ := frz3 qq
                  first | (refine hK.out _ _ ?_ (fun hHeld => ?_)) | (go_wp2_with fail; refine hK.out _ _ ?_ (fun hHeld => ?_))
                  · (try dsimp only); (refine ⟨?_, ?_⟩ <;> (with_reducible ((repeat' (first | assumption | refine cell_al ?_ | refine cell_drew ?_ | refine cell_keep (by assumption) ?_ | refine cell_far ?_ ?_ | (dsimp only; omega))); done)))
                  clear hK K
                  try simp only [Act.put, List.setIfInBounds_toArray, List.set_cons_zero, List.set_cons_succ]
                  refine wpAnyH_ready (rs := [9]) (by kernel_rfl) (by simp) ?_
                  refine AllReadyH.cons (o := { dst := none, op := Go.Op.store 33 (Go.Operand.tmp 4) (Go.Operand.tmp 32), type := 0, pos := "law.go:18", after := #[{ on := 8, ground := Go.Ground.data }, { on := 8, ground := Go.Ground.chain }, { on := 0, ground := Go.Ground.phase }, { on := 1, ground := Go.Ground.phase }, { on := 2, ground := Go.Ground.phase }, { on := 3, ground := Go.Ground.phase }, { on := 4, ground := Go.Ground.phase }, { on := 5, ground := Go.Ground.phase }, { on := 6, ground := Go.Ground.phase }, { on := 7, ground := Go.Ground.phase }, { on := 8, ground := Go.Ground.phase }], guard := none }) rfl (fun K hK => ?_) ?_
                  · go_simp
                    first | (refine hK.out _ _ ?_ (fun hHeld => ?_)) | (go_wp2_with fail; refine hK.out _ _ ?_ (fun hHeld => ?_))
                    · (try dsimp only); (refine ⟨?_, ?_⟩ <;> (with_reducible ((repeat' (first | assumption | refine cell_al ?_ | refine cell_drew ?_ | refine cell_keep (by assumption) ?_ | refine cell_far ?_ ?_ | (dsimp only; omega))); done)))
                    clear hK K
                    try simp only [Act.put, List.setIfInBounds_toArray, List.set_cons_zero, List.set_cons_succ]
                    refine wpAnyH_done (by kernel_rfl) ?_ _
                    go_wp2_with fail
                    go_meet
                    exact end6 (r := ⟨2, 0, [⟨#[97]⟩, ⟨#[98]⟩]⟩) HW.out HP.out HA.out HD.out (by (with_reducible ((repeat' (first | exact Below.refl _ _ | refine bAlloc ?_ _ | refine bDrew ?_ | refine bThen ?_ (by assumption))); done))) hr8 hc8 qq hg hgw (by omega)
                  exact AllReadyH.nil
                exact AllReadyH.nil
              exact AllReadyH.nil
            exact AllReadyH.nil
          exact AllReadyH.nil
        refine AllReadyH.cons (o := { dst := some 29, op := Go.Op.buildSlice 31 1 #[(0, Go.Operand.const (Go.Value.string { data := #[97] }))], type := 31, pos := "law.go:18", after := #[], guard := none }) rfl (fun K hK => ?_) ?_
        · go_simp
          first | (refine hK.out _ _ ?_ (fun hHeld => ?_)) | (go_wp2_with fail; refine hK.out _ _ ?_ (fun hHeld => ?_))
          · (try dsimp only); (refine ⟨?_, ?_⟩ <;> (with_reducible ((repeat' (first | assumption | refine cell_al ?_ | refine cell_drew ?_ | refine cell_keep (by assumption) ?_ | refine cell_far ?_ ?_ | (dsimp only; omega))); done)))
          clear hK K
          try simp only [Act.put, List.setIfInBounds_toArray, List.set_cons_zero, List.set_cons_succ]
          refine wpAnyH_take (i := 6) (oi := { dst := some 30, op := Go.Op.build 45 #[(1, Go.Operand.tmp 29)], type := 45, pos := "law.go:18", after := #[{ on := 5, ground := Go.Ground.data }], guard := none }) (v := ?v8) rfl (by kernel_rfl) (by kernel_rfl) (by kernel_rfl) (fun _ _ _ h => h) (Or.inl ⟨by rfl, ?hy8⟩) (by assumption) ?rest8
          case hy8 => (intro w hSw; (try dsimp only at hSw); go_simp; first | done | with_reducible rfl)
          try simp only [Act.put, List.setIfInBounds_toArray, List.set_cons_zero, List.set_cons_succ]
          refine wpAnyH_ready (rs := [1, 4]) (by kernel_rfl) (by simp) ?_
          refine AllReadyH.cons (o := { dst := some 25, op := Go.Op.load 33 (Go.Operand.tmp 4), type := 33, pos := "law.go:18", after := #[], guard := none }) rfl (fun K hK => ?_) ?_
          · go_simp
            first | (refine hK.out _ _ ?_ (fun hHeld => ?_)) | (go_wp2_with fail; refine hK.out _ _ ?_ (fun hHeld => ?_))
            · (try dsimp only); (refine ⟨?_, ?_⟩ <;> (with_reducible ((repeat' (first | assumption | refine cell_al ?_ | refine cell_drew ?_ | refine cell_keep (by assumption) ?_ | refine cell_far ?_ ?_ | (dsimp only; omega))); done)))
            clear hK K
            try simp only [Act.put, List.setIfInBounds_toArray, List.set_cons_zero, List.set_cons_succ]
            refine wpAnyH_ready (rs := [4]) (by kernel_rfl) (by simp) ?_
            refine AllReadyH.cons (o := { dst := some 28, op := Go.Op.call { callee := Go.Callee.value (Go.Operand.func 15), args := #[Go.Operand.tmp 27], argTypes := #[23] }, type := 33, pos := "law.go:18", after := #[{ on := 3, ground := Go.Ground.data }], guard := none }) rfl (fun K hK => ?_) ?_
            · go_simp
              go_at_call 15
              refine (start_any _ _ _).mono ?_
              rintro e w6 ⟨rfl, hb6⟩
              (refine with_row (w := w6) (n := h) (o := (.cells #[.int .u64 1, .int .i64 0, .slice A9 1 c9] 33)) ?_ ?_); (focus (with_reducible (repeat' (first | exact HQ.out | refine row_al ?_ | refine row_drew ?_ | refine row_keep (by assumption) ?_)))); intro q6; obtain ⟨h0, h1, h2⟩ := blk3 q6; have hl6 := blk_lt q6
              first | (refine hK.out _ _ ?_ (fun hHeld => ?_)) | (go_wp2_with fail; refine hK.out _ _ ?_ (fun hHeld => ?_))
              · (try dsimp only); (refine ⟨?_, ?_⟩ <;> (with_reducible ((repeat' (first | assumption | refine cell_al ?_ | refine cell_drew ?_ | refine cell_keep (by assumption) ?_ | refine cell_far ?_ ?_ | (dsimp only; omega))); done)))
              clear hK K
              try simp only [Act.put, List.setIfInBounds_toArray, List.set_cons_zero, List.set_cons_succ]
              refine wpAnyH_ready (rs := [7]) (by kernel_rfl) (by simp) ?_
              refine AllReadyH.cons (o := { dst := some 31, op := Go.Op.call { callee := Go.Callee.value (Go.Operand.func 16), args := #[Go.Operand.tmp 26, Go.Operand.tmp 28, Go.Operand.tmp 30, Go.Operand.const (Go.Value.int Go.IntKind.u64 1)], argTypes := #[23, 33, 45, 30] }, type := 33, pos := "law.go:18", after := #[{ on := 2, ground := Go.Ground.data }, { on := 4, ground := Go.Ground.data }, { on := 6, ground := Go.Ground.data }, { on := 4, ground := Go.Ground.chain }], guard := none }) rfl (fun K hK => ?_) ?_
              · go_simp
                go_at_call 16
                refine (add_text (s := ⟨#[97]⟩) ?_).mono ?_
                focus (with_reducible ((repeat' (first | exact cell_new _ _ _ | exact cell_new1 _ _ _ _ | exact cell_new2 _ _ _ _ _ | exact cell_newd _ _ _ | exact cell_newd1 _ _ _ _ | exact cell_newd2 _ _ _ _ _ | refine cell_al ?_ | refine cell_drew ?_ | refine cell_keep (by assumption) ?_)); done))
                rintro e w7 ⟨A7, c7, rfl, hc7, hr70, hb7⟩
                have hr7 : RT w7 A7 1 [⟨#[97]⟩] := hr70
                clear hr70
                (refine with_row (w := w7) (n := h) (o := (.cells #[.int .u64 1, .int .i64 0, .slice A9 1 c9] 33)) ?_ ?_); (focus (with_reducible (repeat' (first | exact HQ.out | refine row_al ?_ | refine row_drew ?_ | refine row_keep (by assumption) ?_)))); intro q7; obtain ⟨h0, h1, h2⟩ := blk3 q7; have hl7 := blk_lt q7
                first | (refine hK.out _ _ ?_ (fun hHeld => ?_)) | (go_wp2_with fail; refine hK.out _ _ ?_ (fun hHeld => ?_))
                · (try dsimp only); (refine ⟨?_, ?_⟩ <;> (with_reducible ((repeat' (first | assumption | refine cell_al ?_ | refine cell_drew ?_ | refine cell_keep (by assumption) ?_ | refine cell_far ?_ ?_ | (dsimp only; omega))); done)))
                clear hK K
                try simp only [Act.put, List.setIfInBounds_toArray, List.set_cons_zero, List.set_cons_succ]
                refine wpAnyH_ready (rs := [8]) (by kernel_rfl) (by simp) ?_
                refine AllReadyH.cons (o := { dst := some 32, op := Go.Op.call { callee := Go.Callee.value (Go.Operand.func 13), args := #[Go.Operand.tmp 24, Go.Operand.tmp 25, Go.Operand.tmp 31], argTypes := #[23, 33, 33] }, type := 33, pos := "law.go:18", after := #[{ on := 0, ground := Go.Ground.data }, { on := 1, ground := Go.Ground.data }, { on := 7, ground := Go.Ground.data }, { on := 7, ground := Go.Ground.chain }], guard := none }) rfl (fun K hK => ?_) ?_
                · go_simp
                  go_at_call 13
                  refine (merge_ba (A := A9) (B := A7) (c := c9) (d := c7) ?_ ?_).mono ?_
                  focus (with_reducible (repeat' (first | exact HR9.out | refine RT_keep (by assumption) ?_ | refine RT.drew ?_ | refine RT_al ?_)))
                  focus (with_reducible (repeat' (first | exact hr7 | refine RT_keep (by assumption) ?_ | refine RT.drew ?_ | refine RT_al ?_)))
                  rintro e w8 ⟨A8, c8, rfl, hc8, hr8, hb8⟩
                  refine with_row (w := w8) (n := h) (o := (.cells #[.int .u64 1, .int .i64 0, .slice A9 1 c9] 33)) ?_ ?_
                  focus (with_reducible (repeat' (first | exact HQ.out | refine row_al ?_ | refine row_drew ?_ | refine row_keep (by assumption) ?_)))
                  intro qq
                  obtain ⟨g0, g1, g2⟩ := blk3 qq
                  obtain ⟨z0, z1, z2⟩ := frz3 qq
                  first | (refine hK.out _ _ ?_ (fun hHeld => ?_)) | (go_wp2_with fail; refine hK.out _ _ ?_ (fun hHeld => ?_))
                  · (try dsimp only); (refine ⟨?_, ?_⟩ <;> (with_reducible ((repeat' (first | assumption | refine cell_al ?_ | refine cell_drew ?_ | refine cell_keep (by assumption) ?_ | refine cell_far ?_ ?_ | (dsimp only; omega))); done)))
                  clear hK K
                  try simp only [Act.put, List.setIfInBounds_toArray, List.set_cons_zero, List.set_cons_succ]
                  refine wpAnyH_ready (rs := [9]) (by kernel_rfl) (by simp) ?_
                  refine AllReadyH.cons (o := { dst := none, op := Go.Op.store 33 (Go.Operand.tmp 4) (Go.Operand.tmp 32), type := 0, pos := "law.go:18", after := #[{ on := 8, ground := Go.Ground.data }, { on := 8, ground := Go.Ground.chain }, { on := 0, ground := Go.Ground.phase }, { on := 1, ground := Go.Ground.phase }, { on := 2, ground := Go.Ground.phase }, { on := 3, ground := Go.Ground.phase }, { on := 4, ground := Go.Ground.phase }, { on := 5, ground := Go.Ground.phase }, { on := 6, ground := Go.Ground.phase }, { on := 7, ground := Go.Ground.phase }, { on := 8, ground := Go.Ground.phase }], guard := none }) rfl (fun K hK => ?_) ?_
                  · go_simp
                    first | (refine hK.out _ _ ?_ (fun hHeld => ?_)) | (go_wp2_with fail; refine hK.out _ _ ?_ (fun hHeld => ?_))
                    · (try dsimp only); (refine ⟨?_, ?_⟩ <;> (with_reducible ((repeat' (first | assumption | refine cell_al ?_ | refine cell_drew ?_ | refine cell_keep (by assumption) ?_ | refine cell_far ?_ ?_ | (dsimp only; omega))); done)))
                    clear hK K
                    try simp only [Act.put, List.setIfInBounds_toArray, List.set_cons_zero, List.set_cons_succ]
                    refine wpAnyH_done (by kernel_rfl) ?_ _
                    go_wp2_with fail
                    go_meet
                    exact end6 (r := ⟨2, 0, [⟨#[97]⟩, ⟨#[98]⟩]⟩) HW.out HP.out HA.out HD.out (by (with_reducible ((repeat' (first | exact Below.refl _ _ | refine bAlloc ?_ _ | refine bDrew ?_ | refine bThen ?_ (by assumption))); done))) hr8 hc8 qq hg hgw (by omega)
                  exact AllReadyH.nil
                exact AllReadyH.nil
              exact AllReadyH.nil
            exact AllReadyH.nil
          refine AllReadyH.cons (o := { dst := some 28, op := Go.Op.call { callee := Go.Callee.value (Go.Operand.func 15), args := #[Go.Operand.tmp 27], argTypes := #[23] }, type := 33, pos := "law.go:18", after := #[{ on := 3, ground := Go.Ground.data }], guard := none }) rfl (fun K hK => ?_) ?_
          · go_simp
            go_at_call 15
            refine (start_any _ _ _).mono ?_
            rintro e w6 ⟨rfl, hb6⟩
            (refine with_row (w := w6) (n := h) (o := (.cells #[.int .u64 1, .int .i64 0, .slice A9 1 c9] 33)) ?_ ?_); (focus (with_reducible (repeat' (first | exact HQ.out | refine row_al ?_ | refine row_drew ?_ | refine row_keep (by assumption) ?_)))); intro q6; obtain ⟨h0, h1, h2⟩ := blk3 q6; have hl6 := blk_lt q6
            first | (refine hK.out _ _ ?_ (fun hHeld => ?_)) | (go_wp2_with fail; refine hK.out _ _ ?_ (fun hHeld => ?_))
            · (try dsimp only); (refine ⟨?_, ?_⟩ <;> (with_reducible ((repeat' (first | assumption | refine cell_al ?_ | refine cell_drew ?_ | refine cell_keep (by assumption) ?_ | refine cell_far ?_ ?_ | (dsimp only; omega))); done)))
            clear hK K
            try simp only [Act.put, List.setIfInBounds_toArray, List.set_cons_zero, List.set_cons_succ]
            refine wpAnyH_ready (rs := [1, 7]) (by kernel_rfl) (by simp) ?_
            refine AllReadyH.cons (o := { dst := some 25, op := Go.Op.load 33 (Go.Operand.tmp 4), type := 33, pos := "law.go:18", after := #[], guard := none }) rfl (fun K hK => ?_) ?_
            · go_simp
              first | (refine hK.out _ _ ?_ (fun hHeld => ?_)) | (go_wp2_with fail; refine hK.out _ _ ?_ (fun hHeld => ?_))
              · (try dsimp only); (refine ⟨?_, ?_⟩ <;> (with_reducible ((repeat' (first | assumption | refine cell_al ?_ | refine cell_drew ?_ | refine cell_keep (by assumption) ?_ | refine cell_far ?_ ?_ | (dsimp only; omega))); done)))
              clear hK K
              try simp only [Act.put, List.setIfInBounds_toArray, List.set_cons_zero, List.set_cons_succ]
              refine wpAnyH_ready (rs := [7]) (by kernel_rfl) (by simp) ?_
              refine AllReadyH.cons (o := { dst := some 31, op := Go.Op.call { callee := Go.Callee.value (Go.Operand.func 16), args := #[Go.Operand.tmp 26, Go.Operand.tmp 28, Go.Operand.tmp 30, Go.Operand.const (Go.Value.int Go.IntKind.u64 1)], argTypes := #[23, 33, 45, 30] }, type := 33, pos := "law.go:18", after := #[{ on := 2, ground := Go.Ground.data }, { on := 4, ground := Go.Ground.data }, { on := 6, ground := Go.Ground.data }, { on := 4, ground := Go.Ground.chain }], guard := none }) rfl (fun K hK => ?_) ?_
              · go_simp
                go_at_call 16
                refine (add_text (s := ⟨#[97]⟩) ?_).mono ?_
                focus (with_reducible ((repeat' (first | exact cell_new _ _ _ | exact cell_new1 _ _ _ _ | exact cell_new2 _ _ _ _ _ | exact cell_newd _ _ _ | exact cell_newd1 _ _ _ _ | exact cell_newd2 _ _ _ _ _ | refine cell_al ?_ | refine cell_drew ?_ | refine cell_keep (by assumption) ?_)); done))
                rintro e w7 ⟨A7, c7, rfl, hc7, hr70, hb7⟩
                have hr7 : RT w7 A7 1 [⟨#[97]⟩] := hr70
                clear hr70
                (refine with_row (w := w7) (n := h) (o := (.cells #[.int .u64 1, .int .i64 0, .slice A9 1 c9] 33)) ?_ ?_); (focus (with_reducible (repeat' (first | exact HQ.out | refine row_al ?_ | refine row_drew ?_ | refine row_keep (by assumption) ?_)))); intro q7; obtain ⟨h0, h1, h2⟩ := blk3 q7; have hl7 := blk_lt q7
                first | (refine hK.out _ _ ?_ (fun hHeld => ?_)) | (go_wp2_with fail; refine hK.out _ _ ?_ (fun hHeld => ?_))
                · (try dsimp only); (refine ⟨?_, ?_⟩ <;> (with_reducible ((repeat' (first | assumption | refine cell_al ?_ | refine cell_drew ?_ | refine cell_keep (by assumption) ?_ | refine cell_far ?_ ?_ | (dsimp only; omega))); done)))
                clear hK K
                try simp only [Act.put, List.setIfInBounds_toArray, List.set_cons_zero, List.set_cons_succ]
                refine wpAnyH_ready (rs := [8]) (by kernel_rfl) (by simp) ?_
                refine AllReadyH.cons (o := { dst := some 32, op := Go.Op.call { callee := Go.Callee.value (Go.Operand.func 13), args := #[Go.Operand.tmp 24, Go.Operand.tmp 25, Go.Operand.tmp 31], argTypes := #[23, 33, 33] }, type := 33, pos := "law.go:18", after := #[{ on := 0, ground := Go.Ground.data }, { on := 1, ground := Go.Ground.data }, { on := 7, ground := Go.Ground.data }, { on := 7, ground := Go.Ground.chain }], guard := none }) rfl (fun K hK => ?_) ?_
                · go_simp
                  go_at_call 13
                  refine (merge_ba (A := A9) (B := A7) (c := c9) (d := c7) ?_ ?_).mono ?_
                  focus (with_reducible (repeat' (first | exact HR9.out | refine RT_keep (by assumption) ?_ | refine RT.drew ?_ | refine RT_al ?_)))
                  focus (with_reducible (repeat' (first | exact hr7 | refine RT_keep (by assumption) ?_ | refine RT.drew ?_ | refine RT_al ?_)))
                  rintro e w8 ⟨A8, c8, rfl, hc8, hr8, hb8⟩
                  refine with_row (w := w8) (n := h) (o := (.cells #[.int .u64 1, .int .i64 0, .slice A9 1 c9] 33)) ?_ ?_
                  focus (with_reducible (repeat' (first | exact HQ.out | refine row_al ?_ | refine row_drew ?_ | refine row_keep (by assumption) ?_)))
                  intro qq
                  obtain ⟨g0, g1, g2⟩ := blk3 qq
                  obtain ⟨z0, z1, z2⟩ := frz3 qq
                  first | (refine hK.out _ _ ?_ (fun hHeld => ?_)) | (go_wp2_with fail; refine hK.out _ _ ?_ (fun hHeld => ?_))
                  · (try dsimp only); (refine ⟨?_, ?_⟩ <;> (with_reducible ((repeat' (first | assumption | refine cell_al ?_ | refine cell_drew ?_ | refine cell_keep (by assumption) ?_ | refine cell_far ?_ ?_ | (dsimp only; omega))); done)))
                  clear hK K
                  try simp only [Act.put, List.setIfInBounds_toArray, List.set_cons_zero, List.set_cons_succ]
                  refine wpAnyH_ready (rs := [9]) (by kernel_rfl) (by simp) ?_
                  refine AllReadyH.cons (o := { dst := none, op := Go.Op.store 33 (Go.Operand.tmp 4) (Go.Operand.tmp 32), type := 0, pos := "law.go:18", after := #[{ on := 8, ground := Go.Ground.data }, { on := 8, ground := Go.Ground.chain }, { on := 0, ground := Go.Ground.phase }, { on := 1, ground := Go.Ground.phase }, { on := 2, ground := Go.Ground.phase }, { on := 3, ground := Go.Ground.phase }, { on := 4, ground := Go.Ground.phase }, { on := 5, ground := Go.Ground.phase }, { on := 6, ground := Go.Ground.phase }, { on := 7, ground := Go.Ground.phase }, { on := 8, ground := Go.Ground.phase }], guard := none }) rfl (fun K hK => ?_) ?_
                  · go_simp
                    first | (refine hK.out _ _ ?_ (fun hHeld => ?_)) | (go_wp2_with fail; refine hK.out _ _ ?_ (fun hHeld => ?_))
                    · (try dsimp only); (refine ⟨?_, ?_⟩ <;> (with_reducible ((repeat' (first | assumption | refine cell_al ?_ | refine cell_drew ?_ | refine cell_keep (by assumption) ?_ | refine cell_far ?_ ?_ | (dsimp only; omega))); done)))
                    clear hK K
                    try simp only [Act.put, List.setIfInBounds_toArray, List.set_cons_zero, List.set_cons_succ]
                    refine wpAnyH_done (by kernel_rfl) ?_ _
                    go_wp2_with fail
                    go_meet
                    exact end6 (r := ⟨2, 0, [⟨#[97]⟩, ⟨#[98]⟩]⟩) HW.out HP.out HA.out HD.out (by (with_reducible ((repeat' (first | exact Below.refl _ _ | refine bAlloc ?_ _ | refine bDrew ?_ | refine bThen ?_ (by assumption))); done))) hr8 hc8 qq hg hgw (by omega)
                  exact AllReadyH.nil
                exact AllReadyH.nil
              exact AllReadyH.nil
            refine AllReadyH.cons (o := { dst := some 31, op := Go.Op.call { callee := Go.Callee.value (Go.Operand.func 16), args := #[Go.Operand.tmp 26, Go.Operand.tmp 28, Go.Operand.tmp 30, Go.Operand.const (Go.Value.int Go.IntKind.u64 1)], argTypes := #[23, 33, 45, 30] }, type := 33, pos := "law.go:18", after := #[{ on := 2, ground := Go.Ground.data }, { on := 4, ground := Go.Ground.data }, { on := 6, ground := Go.Ground.data }, { on := 4, ground := Go.Ground.chain }], guard := none }) rfl (fun K hK => ?_) ?_
            · go_simp
              go_at_call 16
              refine (add_text (s := ⟨#[97]⟩) ?_).mono ?_
              focus (with_reducible ((repeat' (first | exact cell_new _ _ _ | exact cell_new1 _ _ _ _ | exact cell_new2 _ _ _ _ _ | exact cell_newd _ _ _ | exact cell_newd1 _ _ _ _ | exact cell_newd2 _ _ _ _ _ | refine cell_al ?_ | refine cell_drew ?_ | refine cell_keep (by assumption) ?_)); done))
              rintro e w7 ⟨A7, c7, rfl, hc7, hr70, hb7⟩
              have hr7 : RT w7 A7 1 [⟨#[97]⟩] := hr70
              clear hr70
              (refine with_row (w := w7) (n := h) (o := (.cells #[.int .u64 1, .int .i64 0, .slice A9 1 c9] 33)) ?_ ?_); (focus (with_reducible (repeat' (first | exact HQ.out | refine row_al ?_ | refine row_drew ?_ | refine row_keep (by assumption) ?_)))); intro q7; obtain ⟨h0, h1, h2⟩ := blk3 q7; have hl7 := blk_lt q7
              first | (refine hK.out _ _ ?_ (fun hHeld => ?_)) | (go_wp2_with fail; refine hK.out _ _ ?_ (fun hHeld => ?_))
              · (try dsimp only); (refine ⟨?_, ?_⟩ <;> (with_reducible ((repeat' (first | assumption | refine cell_al ?_ | refine cell_drew ?_ | refine cell_keep (by assumption) ?_ | refine cell_far ?_ ?_ | (dsimp only; omega))); done)))
              clear hK K
              try simp only [Act.put, List.setIfInBounds_toArray, List.set_cons_zero, List.set_cons_succ]
              refine wpAnyH_ready (rs := [1]) (by kernel_rfl) (by simp) ?_
              refine AllReadyH.cons (o := { dst := some 25, op := Go.Op.load 33 (Go.Operand.tmp 4), type := 33, pos := "law.go:18", after := #[], guard := none }) rfl (fun K hK => ?_) ?_
              · go_simp
                first | (refine hK.out _ _ ?_ (fun hHeld => ?_)) | (go_wp2_with fail; refine hK.out _ _ ?_ (fun hHeld => ?_))
                · (try dsimp only); (refine ⟨?_, ?_⟩ <;> (with_reducible ((repeat' (first | assumption | refine cell_al ?_ | refine cell_drew ?_ | refine cell_keep (by assumption) ?_ | refine cell_far ?_ ?_ | (dsimp only; omega))); done)))
                clear hK K
                try simp only [Act.put, List.setIfInBounds_toArray, List.set_cons_zero, List.set_cons_succ]
                refine wpAnyH_ready (rs := [8]) (by kernel_rfl) (by simp) ?_
                refine AllReadyH.cons (o := { dst := some 32, op := Go.Op.call { callee := Go.Callee.value (Go.Operand.func 13), args := #[Go.Operand.tmp 24, Go.Operand.tmp 25, Go.Operand.tmp 31], argTypes := #[23, 33, 33] }, type := 33, pos := "law.go:18", after := #[{ on := 0, ground := Go.Ground.data }, { on := 1, ground := Go.Ground.data }, { on := 7, ground := Go.Ground.data }, { on := 7, ground := Go.Ground.chain }], guard := none }) rfl (fun K hK => ?_) ?_
                · go_simp
                  go_at_call 13
                  refine (merge_ba (A := A9) (B := A7) (c := c9) (d := c7) ?_ ?_).mono ?_
                  focus (with_reducible (repeat' (first | exact HR9.out | refine RT_keep (by assumption) ?_ | refine RT.drew ?_ | refine RT_al ?_)))
                  focus (with_reducible (repeat' (first | exact hr7 | refine RT_keep (by assumption) ?_ | refine RT.drew ?_ | refine RT_al ?_)))
                  rintro e w8 ⟨A8, c8, rfl, hc8, hr8, hb8⟩
                  refine with_row (w := w8) (n := h) (o := (.cells #[.int .u64 1, .int .i64 0, .slice A9 1 c9] 33)) ?_ ?_
                  focus (with_reducible (repeat' (first | exact HQ.out | refine row_al ?_ | refine row_drew ?_ | refine row_keep (by assumption) ?_)))
                  intro qq
                  obtain ⟨g0, g1, g2⟩ := blk3 qq
                  obtain ⟨z0, z1, z2⟩ := frz3 qq
                  first | (refine hK.out _ _ ?_ (fun hHeld => ?_)) | (go_wp2_with fail; refine hK.out _ _ ?_ (fun hHeld => ?_))
                  · (try dsimp only); (refine ⟨?_, ?_⟩ <;> (with_reducible ((repeat' (first | assumption | refine cell_al ?_ | refine cell_drew ?_ | refine cell_keep (by assumption) ?_ | refine cell_far ?_ ?_ | (dsimp only; omega))); done)))
                  clear hK K
                  try simp only [Act.put, List.setIfInBounds_toArray, List.set_cons_zero, List.set_cons_succ]
                  refine wpAnyH_ready (rs := [9]) (by kernel_rfl) (by simp) ?_
                  refine AllReadyH.cons (o := { dst := none, op := Go.Op.store 33 (Go.Operand.tmp 4) (Go.Operand.tmp 32), type := 0, pos := "law.go:18", after := #[{ on := 8, ground := Go.Ground.data }, { on := 8, ground := Go.Ground.chain }, { on := 0, ground := Go.Ground.phase }, { on := 1, ground := Go.Ground.phase }, { on := 2, ground := Go.Ground.phase }, { on := 3, ground := Go.Ground.phase }, { on := 4, ground := Go.Ground.phase }, { on := 5, ground := Go.Ground.phase }, { on := 6, ground := Go.Ground.phase }, { on := 7, ground := Go.Ground.phase }, { on := 8, ground := Go.Ground.phase }], guard := none }) rfl (fun K hK => ?_) ?_
                  · go_simp
                    first | (refine hK.out _ _ ?_ (fun hHeld => ?_)) | (go_wp2_with fail; refine hK.out _ _ ?_ (fun hHeld => ?_))
                    · (try dsimp only); (refine ⟨?_, ?_⟩ <;> (with_reducible ((repeat' (first | assumption | refine cell_al ?_ | refine cell_drew ?_ | refine cell_keep (by assumption) ?_ | refine cell_far ?_ ?_ | (dsimp only; omega))); done)))
                    clear hK K
                    try simp only [Act.put, List.setIfInBounds_toArray, List.set_cons_zero, List.set_cons_succ]
                    refine wpAnyH_done (by kernel_rfl) ?_ _
                    go_wp2_with fail
                    go_meet
                    exact end6 (r := ⟨2, 0, [⟨#[97]⟩, ⟨#[98]⟩]⟩) HW.out HP.out HA.out HD.out (by (with_reducible ((repeat' (first | exact Below.refl _ _ | refine bAlloc ?_ _ | refine bDrew ?_ | refine bThen ?_ (by assumption))); done))) hr8 hc8 qq hg hgw (by omega)
                  exact AllReadyH.nil
                exact AllReadyH.nil
              exact AllReadyH.nil
            exact AllReadyH.nil
          exact AllReadyH.nil
        exact AllReadyH.nil
      case rest =>
        obtain ⟨hP1, hP2, hA1, hA2, hB⟩ := hcut
        obtain ⟨A11, c11, p11, hr11, hc11⟩ := hP1
        obtain ⟨A12, c12, p12, hr12, hc12⟩ := hP2
        have p11 : wc.heap[h]? = some (.cells #[.int .u64 2, .int .i64 0, .slice A11 2 c11] 33) := p11
        have p12 : wc.heap[g]? = some (.cells #[.int .u64 3, .int .i64 5, .slice A12 0 c12] 33) := p12
        have HP11 := Lib.hid p11
        have HA21 := Lib.hid hA2
        have HA11 := Lib.hid hA1
        have HBB := Lib.hid hB
        obtain ⟨x0, x1, x2⟩ := blk3 p12
        obtain ⟨y0, y1⟩ := blk2 hA1
        clear q0 q1 h0 h1 h2 hr11 hr12 hc11 hc12 HD HP HA HW HQ HR9 p11 p12 hA1 hA2 hB hgw hww hh hg HP5 HA5 HW5 HD5
        go_wp2_with fail
        go_at_call 11
        refine (value_p A12 c12 _).mono ?_
        rintro e w9 ⟨rfl, hb9⟩
        have p11 := (hb9.block _ (blk_lt HP11.out)).trans HP11.out
        have hA2 := HA21.out.below hb9
        have hA1 := HA11.out.below hb9
        have HA12 := Lib.hid hA1
        have HBC := Lib.hid (bThen HBB.out hb9)
        clear x0 x1 x2 y0 y1 hb9
        obtain ⟨x0, x1, x2⟩ := blk3 p11
        obtain ⟨y0, y1⟩ := blk2 hA2
        clear p11 hA1 hA2
        go_wp2_with fail
        go_at_call 11
        refine (value_q A11 c11 _).mono ?_
        rintro e w10 ⟨rfl, hb10⟩
        have hA1 := HA12.out.below hb10
        have HBD := Lib.hid (bThen HBC.out hb10)
        clear x0 x1 x2 y0 y1 hb10
        obtain ⟨y0, y1⟩ := blk2 hA1
        clear hA1
        go_wp2_with fail
        go_at_call 17
        refine (check_s w10.heap.size _ ?_ ?_).mono ?_
        · simp [go_sem]
        · simp [go_sem]
        rintro e w11 ⟨rfl, hb11⟩
        go_wp2_with fail
        go_ret
        exact ⟨rfl, bThen (bAlloc HBD.out _) hb11⟩
end Go.Proofs.Ytnigmpckohncoaa
