/- The law's first examples (awake). -/
import Derived.Test.YtnigmpckohncoaaA9
import Derived.Test.YtnigmpckohncoaaP2
import Derived.Deep.RegionHeld3
set_option linter.unusedVariables false
namespace Go.Proofs.Ytnigmpckohncoaa
open Go.RowKit Go.Sort YtnigmpckohncoaaW.PrintWords PAggCounts

theorem norm_nil : normB [] = [] := by decide +kernel
theorem norm_b : normB [⟨#[98]⟩] = [⟨#[98]⟩] := by decide +kernel
theorem norm_a : normB [⟨#[97]⟩] = [⟨#[97]⟩] := by decide +kernel
def PAt (wx : World) (g : Nat) (r : PV) : Prop := ∃ (A : Option Addr) (c : Nat), wx.heap[g]? = some (.cells #[.int .u64 r.n, .int .i64 r.v, .slice A r.xs.length c] 33) ∧ RT wx A r.xs.length r.xs ∧ r.xs.length ≤ c
def AAt (wx : World) (g : Nat) (k : Int) : Prop := wx.heap[g]? = some (.cells #[.int .i64 k, .int .i64 0] 23)
theorem PAt.below {w w1 : World} {g : Nat} {r : PV} (h : PAt w g r) (hb : Below w.heap.size w w1) : PAt w1 g r := by
  obtain ⟨A, c, p, hr, hc⟩ := h
  exact ⟨A, c, (hb.block _ (blk_lt p)).trans p, hr.below hb, hc⟩
theorem AAt.below {w w1 : World} {g : Nat} {k : Int} (h : AAt w g k) (hb : Below w.heap.size w w1) : AAt w1 g k := (hb.block _ (blk_lt h)).trans h
/-- One number in a slice of its own. -/
theorem one_int {w : World} {g : Nat} {x : Int} (h : w.cell? ⟨g, 0, none⟩ = some (.int .i64 x)) : Kd.C (Kd.int .i64) w (some ⟨g, 0, none⟩) 1 [x] := by
  refine ⟨rfl, by omega, fun _ => ⟨_, rfl, fun j p hj => ⟨[.int .i64 p], rfl, rfl, fun i u hu => ?_⟩⟩⟩
  have hj0 : j = 0 := by
    have := (List.getElem?_eq_some_iff.1 hj).1
    simpa using this
  have hi0 : i = 0 := by
    have := (List.getElem?_eq_some_iff.1 hu).1
    simpa using this
  subst hj0; subst hi0
  simp at hj hu
  subst hj; subst hu
  simpa [Addr.add] using h
theorem one_text {w : World} {g : Nat} {x : ByteArray} (h : w.cell? ⟨g, 0, none⟩ = some (.string x)) : RT w (some ⟨g, 0, none⟩) 1 [x] := by
  refine RT.mk_ rfl (by omega) fun _ => ⟨_, rfl, fun j s hj => ?_⟩
  have hj0 : j = 0 := by
    have := (List.getElem?_eq_some_iff.1 hj).1
    simpa using this
  subst hj0
  simp at hj
  subst hj
  simpa [Addr.add] using h

theorem add_first {w : World} {g : Nat} (h : w.cell? ⟨g, 0, none⟩ = some (.int .i64 3)) : Calls Try.prog 16 #[.agg #[.int .i64 2, .int .i64 0], .agg #[.int .u64 0, .int .i64 0, .slice none 0 0], .agg #[.int .i64 0, .slice none 0 0, .slice (some ⟨g, 0, none⟩) 1 1], .int .u64 2] w (RetP w ⟨2, 6, []⟩) := by
  have := add_many 2 0 0 0 0 2 none none (some ⟨g, 0, none⟩) 0 0 0 0 1 1 [] [3] w (by decide) (by decide) (RT.nil_ _ _) (by decide) (by decide) (by decide) (one_int h) (by decide) (by decide)
  rwa [show mergeP 2 ⟨0, 0, []⟩ ⟨2, manyV 2 ([(3 : Int)].getD (Int.toNat 0) 0) 2, []⟩ = ⟨2, 6, normB []⟩ by unfold mergeP manyV; rw [if_pos rfl, if_neg (by decide), if_pos rfl]; show PV.mk 2 (wrap64 (IntKind.u64.wrap (IntKind.u64.wrap 3 * 2))) (normB []) = _; rw [show wrap64 (IntKind.u64.wrap (IntKind.u64.wrap 3 * 2)) = 6 by decide +kernel], norm_nil] at this
theorem cell_new (w : World) (v : Value) (t : Nat) : (w.alloc (.cells #[v] t)).cell? ⟨w.heap.size, 0, none⟩ = some v :=
  World.cell?_alloc_at _ _ _ _ rfl
theorem cell_new1 (w : World) (p : Obj) (v : Value) (t : Nat) : ((w.alloc p).alloc (.cells #[v] t)).cell? ⟨w.heap.size + 1, 0, none⟩ = some v :=
  World.cell?_alloc_at _ _ _ _ (by simp)
theorem cell_new2 (w : World) (p q : Obj) (v : Value) (t : Nat) : (((w.alloc p).alloc q).alloc (.cells #[v] t)).cell? ⟨w.heap.size + 1 + 1, 0, none⟩ = some v :=
  World.cell?_alloc_at _ _ _ _ (by simp)
theorem cell_al {w : World} {a : Addr} {v : Value} {o : Obj} (h : w.cell? a = some v) : (w.alloc o).cell? a = some v := (World.cell?_alloc_lt _ _ _ (World.block_lt_of_cell? w _ h)).trans h
theorem cell_keep {w w1 : World} {a : Addr} {v : Value} (hb : Below w.heap.size w w1) (h : w.cell? a = some v) : w1.cell? a = some v := (hb.cell (World.block_lt_of_cell? w _ h)).trans h
theorem cell_drew {w : World} {a : Addr} {v : Value} (h : w.cell? a = some v) : w.drew.cell? a = some v := h
theorem cell_newd (w : World) (v : Value) (t : Nat) : (w.drew.alloc (.cells #[v] t)).cell? ⟨w.heap.size, 0, none⟩ = some v := cell_new w.drew v t
theorem cell_newd1 (w : World) (p : Obj) (v : Value) (t : Nat) : ((w.drew.alloc p).alloc (.cells #[v] t)).cell? ⟨w.heap.size + 1, 0, none⟩ = some v := cell_new1 w.drew p v t
theorem cell_newd2 (w : World) (p q : Obj) (v : Value) (t : Nat) : (((w.drew.alloc p).alloc q).alloc (.cells #[v] t)).cell? ⟨w.heap.size + 1 + 1, 0, none⟩ = some v := cell_new2 w.drew p q v t
theorem row_new1 (w : World) (p o : Obj) : ((w.alloc p).alloc o).heap[w.heap.size + 1]? = some o := by rw [heap_alloc_at, if_pos (by simp)]
theorem row_new2 (w : World) (p q o : Obj) : (((w.alloc p).alloc q).alloc o).heap[w.heap.size + 1 + 1]? = some o := by rw [heap_alloc_at, if_pos (by simp)]
theorem row_al {w : World} {n : Nat} {o p : Obj} (h : w.heap[n]? = some o) : (w.alloc p).heap[n]? = some o := by
  have := blk_lt h
  rw [heap_alloc_at, if_neg (by omega)]
  exact h
theorem row_keep {w w1 : World} {n : Nat} {o : Obj} (hb : Below w.heap.size w w1) (h : w.heap[n]? = some o) : w1.heap[n]? = some o := (hb.block _ (blk_lt h)).trans h
theorem row_drew {w : World} {n : Nat} {o : Obj} (h : w.heap[n]? = some o) : w.drew.heap[n]? = some o := h
theorem row_newd (w : World) (o : Obj) : (w.drew.alloc o).heap[w.heap.size]? = some o := heap_alloc_last w.drew o
theorem row_newd1 (w : World) (p o : Obj) : ((w.drew.alloc p).alloc o).heap[w.heap.size + 1]? = some o := row_new1 w.drew p o
theorem row_newd2 (w : World) (p q o : Obj) : (((w.drew.alloc p).alloc q).alloc o).heap[w.heap.size + 1 + 1]? = some o := row_new2 w.drew p q o
theorem cell_far {w : World} {p a : Addr} {u v : Value} (h : w.cell? a = some v) (hne : p.block ≠ a.block) : (w.setCell p u).cell? a = some v := (World.cell?_setCell_far w p a u hne).trans h
theorem with_row {P : Prop} {w : World} {n : Nat} {o : Obj} (h : w.heap[n]? = some o) (f : w.heap[n]? = some o → P) : P := f h
def PEnd (w : World) (k : Int) (r : PV) (v : Value) (wx : World) : Prop := ∃ g : Nat, v = .pointer (some ⟨g, 0, none⟩) ∧ PAt wx g r ∧ AAt wx w.heap.size k ∧ Below w.heap.size w wx ∧ w.heap.size < g
theorem end_new {w w0 w2 : World} {k : Int} {r : PV} {A : Option Addr} {c : Nat} (hb : Below w.heap.size w w0) (he : AAt w0 w.heap.size k) (hz : w.heap.size < w0.heap.size) (F : Below w0.heap.size w0 w2) (hr : RT w2 A r.xs.length r.xs) (hc : r.xs.length ≤ c) :
    PEnd w k r (.pointer (some ⟨w2.heap.size, 0, none⟩)) (w2.alloc (.cells #[.int .u64 r.n, .int .i64 r.v, .slice A r.xs.length c] 33)) := by
  have F' := bAlloc F (.cells #[.int .u64 r.n, .int .i64 r.v, .slice A r.xs.length c] 33)
  refine ⟨_, rfl, ⟨A, c, heap_alloc_last _ _, hr.below (bAlloc (Below.refl _ _) _), hc⟩, he.below F', bThen hb F', ?_⟩
  have := F.size
  omega
theorem end_set {w w0 w2 : World} {k : Int} {r : PV} {A : Option Addr} {c g : Nat} (hb : Below w.heap.size w w0) (he : AAt w0 w.heap.size k) (hz : w.heap.size < w0.heap.size) (F : Below w0.heap.size w0 w2) (hr : RT w2 A r.xs.length r.xs) (hc : r.xs.length ≤ c)
    {n v : Int} {B : Option Addr} {m d : Nat} (q : w2.heap[g]? = some (.cells #[.int .u64 n, .int .i64 v, .slice B m d] 33)) (hg : w0.heap.size ≤ g) :
    PEnd w k r (.pointer (some ⟨g, 0, none⟩)) (((w2.setCell ⟨g, 0, none⟩ (.int .u64 r.n)).setCell ⟨g, 1, none⟩ (.int .i64 r.v)).setCell ⟨g, 2, none⟩ (.slice A r.xs.length c)) := by
  have b0 : Blk w2 g 33 #[.int .u64 n, .int .i64 v, .slice B m d] := q
  have b1 := b0.set_ 0 (.int .u64 r.n)
  have b2 := b1.set_ 1 (.int .i64 r.v)
  have F' := bSet (bSet (bSet F (p := ⟨g, 0, none⟩) hg (.int .u64 r.n)) (p := ⟨g, 1, none⟩) hg (.int .i64 r.v)) (p := ⟨g, 2, none⟩) hg (.slice A r.xs.length c)
  exact ⟨_, rfl, ⟨A, c, set3 q _ _ _, ((hr.setCell (b0.cell 0) (by intro s; simp) _).setCell (b1.cell 1) (by intro s; simp) _).setCell (b2.cell 2) (by intro s; simp) _, hc⟩, he.below F', bThen hb F', by omega⟩
theorem add_second {w : World} {g : Nat} {A : Option Addr} {c : Nat} (h : w.cell? ⟨g, 0, none⟩ = some (.int .i64 (-1))) : Calls Try.prog 16 #[.agg #[.int .i64 2, .int .i64 0], .agg #[.int .u64 2, .int .i64 6, .slice A 0 c], .agg #[.int .i64 0, .slice none 0 0, .slice (some ⟨g, 0, none⟩) 1 1], .int .u64 1] w (RetP w ⟨3, 5, []⟩) := by
  have := add_many 2 0 2 6 0 1 A none (some ⟨g, 0, none⟩) 0 c 0 0 1 1 [] [-1] w (by decide) (by decide) (RT.nil_ _ _) (by decide) (by decide) (by decide) (one_int h) (by decide) (by decide)
  rwa [show mergeP 2 ⟨2, 6, []⟩ ⟨1, manyV 2 ([(-1 : Int)].getD (Int.toNat 0) 0) 1, []⟩ = ⟨3, 5, normB []⟩ by unfold mergeP manyV; rw [if_neg (by decide), if_neg (by decide), if_pos rfl]; show PV.mk (IntKind.u64.wrap (2 + 1)) (mergeV 2 6 (wrap64 (IntKind.u64.wrap (IntKind.u64.wrap (-1) * 1)))) (normB []) = _; rw [show mergeV 2 6 (wrap64 (IntKind.u64.wrap (IntKind.u64.wrap (-1) * 1))) = 5 by decide +kernel, show IntKind.u64.wrap (2 + 1) = 3 by decide +kernel], norm_nil] at this
theorem add_text {w : World} {g : Nat} {s : ByteArray} (h : w.cell? ⟨g, 0, none⟩ = some (.string s)) : Calls Try.prog 16 #[.agg #[.int .i64 5, .int .i64 0], .agg #[.int .u64 0, .int .i64 0, .slice none 0 0], .agg #[.int .i64 0, .slice (some ⟨g, 0, none⟩) 1 1, .slice none 0 0], .int .u64 1] w (RetP w ⟨1, 0, [s]⟩) := by
  have := add_distinct 0 0 0 0 1 none (some ⟨g, 0, none⟩) none 0 0 1 1 0 0 [] [s] w (by decide) (by decide) (RT.nil_ _ _) (by decide) (by decide) (one_text h) (by decide) (by decide)
  rwa [show mergeP 5 ⟨0, 0, []⟩ ⟨1, 0, [[s].getD (Int.toNat 0) ⟨#[]⟩]⟩ = ⟨1, 0, normB [s]⟩ by unfold mergeP; rw [if_pos rfl, if_neg (by simp)]; rfl, norm_id [s] (by unfold UpB Up; simp)] at this
def REnd (w0 : World) (r : PV) (v : Value) (wx : World) : Prop := ∃ h : Nat, v = .pointer (some ⟨h, 0, none⟩) ∧ PAt wx h r ∧ Below w0.heap.size w0 wx ∧ w0.heap.size ≤ h
theorem rend_new {w0 w2 : World} {r : PV} {A : Option Addr} {c : Nat} (F : Below w0.heap.size w0 w2) (hr : RT w2 A r.xs.length r.xs) (hc : r.xs.length ≤ c) :
    REnd w0 r (.pointer (some ⟨w2.heap.size, 0, none⟩)) (w2.alloc (.cells #[.int .u64 r.n, .int .i64 r.v, .slice A r.xs.length c] 33)) :=
  ⟨_, rfl, ⟨A, c, heap_alloc_last _ _, hr.below (bAlloc (Below.refl _ _) _), hc⟩, bAlloc F _, F.size⟩
theorem rend_set {w0 w2 : World} {r : PV} {A : Option Addr} {c g : Nat} (F : Below w0.heap.size w0 w2) (hr : RT w2 A r.xs.length r.xs) (hc : r.xs.length ≤ c)
    {n v : Int} {B : Option Addr} {m d : Nat} (q : w2.heap[g]? = some (.cells #[.int .u64 n, .int .i64 v, .slice B m d] 33)) (hg : w0.heap.size ≤ g) :
    REnd w0 r (.pointer (some ⟨g, 0, none⟩)) (((w2.setCell ⟨g, 0, none⟩ (.int .u64 r.n)).setCell ⟨g, 1, none⟩ (.int .i64 r.v)).setCell ⟨g, 2, none⟩ (.slice A r.xs.length c)) := by
  have b0 : Blk w2 g 33 #[.int .u64 n, .int .i64 v, .slice B m d] := q
  have b1 := b0.set_ 0 (.int .u64 r.n)
  have b2 := b1.set_ 1 (.int .i64 r.v)
  exact ⟨_, rfl, ⟨A, c, set3 q _ _ _, ((hr.setCell (b0.cell 0) (by intro s; simp) _).setCell (b1.cell 1) (by intro s; simp) _).setCell (b2.cell 2) (by intro s; simp) _, hc⟩, bSet (bSet (bSet F (p := ⟨g, 0, none⟩) hg (.int .u64 r.n)) (p := ⟨g, 1, none⟩) hg (.int .i64 r.v)) (p := ⟨g, 2, none⟩) hg (.slice A r.xs.length c), hg⟩
/-- A partial written anew over an older one. -/
theorem over_set {w wc w2 : World} {k : Int} {r : PV} {A : Option Addr} {c g : Nat} (hb : Below w.heap.size w wc) (ha : AAt wc w.heap.size k) (hg : w.heap.size < g) (F : Below wc.heap.size wc w2) (hr : RT w2 A r.xs.length r.xs) (hc : r.xs.length ≤ c)
    {n v : Int} {B : Option Addr} {m d : Nat} (q : w2.heap[g]? = some (.cells #[.int .u64 n, .int .i64 v, .slice B m d] 33)) :
    PAt (((w2.setCell ⟨g, 0, none⟩ (.int .u64 r.n)).setCell ⟨g, 1, none⟩ (.int .i64 r.v)).setCell ⟨g, 2, none⟩ (.slice A r.xs.length c)) g r ∧ AAt (((w2.setCell ⟨g, 0, none⟩ (.int .u64 r.n)).setCell ⟨g, 1, none⟩ (.int .i64 r.v)).setCell ⟨g, 2, none⟩ (.slice A r.xs.length c)) w.heap.size k ∧ Below w.heap.size w (((w2.setCell ⟨g, 0, none⟩ (.int .u64 r.n)).setCell ⟨g, 1, none⟩ (.int .i64 r.v)).setCell ⟨g, 2, none⟩ (.slice A r.xs.length c)) := by
  have b0 : Blk w2 g 33 #[.int .u64 n, .int .i64 v, .slice B m d] := q
  have b1 := b0.set_ 0 (.int .u64 r.n)
  have b2 := b1.set_ 1 (.int .i64 r.v)
  have c0 : Blk w2 w.heap.size 23 #[.int .i64 k, .int .i64 0] := ha.below F
  have hg' : w.heap.size ≤ g := by omega
  have hne : (g : Nat) ≠ w.heap.size := by omega
  exact ⟨⟨A, c, set3 q _ _ _, ((hr.setCell (b0.cell 0) (by intro s; simp) _).setCell (b1.cell 1) (by intro s; simp) _).setCell (b2.cell 2) (by intro s; simp) _, hc⟩,
    ((c0.far (p := ⟨g, 0, none⟩) (by simp; omega) _).far (p := ⟨g, 1, none⟩) (by simp; omega) _).far (p := ⟨g, 2, none⟩) (by simp; omega) _,
    bSet (bSet (bSet (bThen hb F) (p := ⟨g, 0, none⟩) hg' (.int .u64 r.n)) (p := ⟨g, 1, none⟩) hg' (.int .i64 r.v)) (p := ⟨g, 2, none⟩) hg' (.slice A r.xs.length c)⟩
theorem norm_ba : normB ([⟨#[98]⟩] ++ [⟨#[97]⟩]) = [⟨#[97]⟩, ⟨#[98]⟩] := by
  rw [norm_put _ _ (by unfold UpB Up; simp)]
  decide +kernel
theorem merge_ba {w : World} {A B : Option Addr} {c d : Nat} (h : RT w A 1 [⟨#[98]⟩]) (h' : RT w B 1 [⟨#[97]⟩]) : Calls Try.prog 13 #[.agg #[.int .i64 5, .int .i64 0], .agg #[.int .u64 1, .int .i64 0, .slice A 1 c], .agg #[.int .u64 1, .int .i64 0, .slice B 1 d]] w (RetP w ⟨2, 0, [⟨#[97]⟩, ⟨#[98]⟩]⟩) := by
  have := merge_all 5 0 1 0 1 0 A B 1 1 c d [⟨#[98]⟩] [⟨#[97]⟩] w (by decide) h h' (by decide) (by decide) (by decide)
  rwa [show mergeP 5 ⟨1, 0, [⟨#[98]⟩]⟩ ⟨1, 0, [⟨#[97]⟩]⟩ = ⟨2, 0, normB ([⟨#[98]⟩] ++ [⟨#[97]⟩])⟩ by unfold mergeP; rw [if_neg (by simp), if_neg (by simp)]; rfl, norm_ba] at this
end Go.Proofs.Ytnigmpckohncoaa
