/- What the law's helper 'of' answers: the facts added one by one. -/
import Derived.Test.YtnigmpckohncoaaA5
import Derived.Test.YtnigmpckohncoaaPAggCountsx0
set_option linter.unusedVariables false
set_option linter.unusedSimpArgs false
namespace Go.Proofs.Ytnigmpckohncoaa
open Go.RowKit Go.Sort YtnigmpckohncoaaW.PrintWords PAggCounts

theorem start_any (k c : Int) (w : World) : Calls Try.prog 15 #[.agg #[.int .i64 k, .int .i64 c]] w fun e w' => e = .returned (.agg #[.int .u64 0, .int .i64 0, .slice none 0 0]) ∧ Below w.heap.size w w' := by
  go_enter Try.func15, Try.ntmps15
  go_wp2
  refine bodyPost_ret (v := .agg #[.int .u64 0, .int .i64 0, .slice none 0 0]) (results_cell_row rfl _ _ (w.heap.size + 1) 33 #[.int .u64 0, .int .i64 0, .slice none 0 0] (0, 0) _ rfl ?_ Try.underlying33 rfl (by kernel_rfl)) rfl ?_
  · simp only [heap_alloc_at, World.size_alloc]; (repeat' split) <;> first | rfl | (exfalso; omega) | simp_all
  · exact ⟨rfl, bAlloc (bAlloc (Below.refl _ _) _) _⟩

def factP (k c : Int) (f : S51) : PV := if k = 5 then ⟨f.f1, 0, [f.f0.f1.getD c.toNat ⟨#[]⟩]⟩ else if k = 1 then ⟨f.f1, 0, []⟩ else ⟨f.f1, manyV k (f.f0.f2.getD c.toNat 0) f.f1, []⟩
def addP (k c : Int) (p : PV) (f : S51) : PV := if f.f1 = 0 then mergeP k p ⟨0, 0, []⟩ else mergeP k p (factP k c f)
def ofP (k c : Int) (l : List S51) : PV := l.foldl (addP k c) ⟨0, 0, []⟩
/-- A fact that the law may add. -/
def Okf (c : Int) (f : S51) : Prop := 0 ≤ c ∧ c < (f.f0.f1.length : Int) ∧ c < (f.f0.f2.length : Int) ∧ 0 ≤ f.f1

theorem add_all (k c N V : Int) (A D E : Option Addr) (n ca cd ce : Nat) (xs : List ByteArray) (f : S51) (w : World) (hk : 1 ≤ k ∧ k ≤ 5) (hf : Okf c f) (hx : RT w A n xs) (hn : n + 1 ≤ 1048576) (hN : 0 ≤ N)
    (hd : RT w D f.f0.f1.length f.f0.f1) (he : Kd.C (Kd.int .i64) w E f.f0.f2.length f.f0.f2) :
    Calls Try.prog 16 #[.agg #[.int .i64 k, .int .i64 c], .agg #[.int .u64 N, .int .i64 V, .slice A n ca], .agg #[.int .i64 f.f0.f0, .slice D f.f0.f1.length cd, .slice E f.f0.f2.length ce], .int .u64 f.f1] w (RetP w (addP k c ⟨N, V, xs⟩ f)) := by
  obtain ⟨h0, h1, h2, h3⟩ := hf
  unfold addP
  by_cases hm : f.f1 = 0
  · rw [if_pos hm, hm]
    exact add_zero k c N V f.f0.f0 A D E n ca _ cd _ ce xs w hk hx (by omega) hN
  · rw [if_neg hm]
    unfold factP
    by_cases h5 : k = 5
    · subst h5
      rw [if_pos rfl]
      exact add_distinct c N V _ f.f1 A D E n ca _ cd _ ce xs f.f0.f1 w hm h3 hx hn hN hd h0 h1
    · rw [if_neg h5]
      by_cases h6 : k = 1
      · subst h6
        rw [if_pos rfl]
        exact add_count c N V _ f.f1 A D E n ca _ cd _ ce xs w hm h3 hx hn hN
      · rw [if_neg h6]
        exact add_many k c N V _ f.f1 A D E n ca _ cd _ ce xs f.f0.f2 w hm h3 hx hn hN (by omega) he h0 h2

theorem retG {r : PV} {w w4 : World} {g : Nat} {A2 : Option Addr} {c2 : Nat} (hlt : w.heap.size ≤ g)
    (e : w4.heap[g]? = some (.cells #[.int .u64 0, .int .i64 0, .slice none 0 0] 33))
    (hr : RT w4 A2 r.xs.length r.xs) (h1 : Below w.heap.size w w4) (hc : r.xs.length ≤ c2) :
    RetP w r (.returned (.agg #[.int .u64 r.n, .int .i64 r.v, .slice A2 r.xs.length c2]))
      (((w4.setCell ⟨g, 0, none⟩ (.int .u64 r.n)).setCell ⟨g, 1, none⟩ (.int .i64 r.v)).setCell ⟨g, 2, none⟩ (.slice A2 r.xs.length c2)) := by
  have b0 : Blk w4 g 33 #[.int .u64 0, .int .i64 0, .slice none 0 0] := e
  have b1 := b0.set_ 0 (.int .u64 r.n)
  have b2 := b1.set_ 1 (.int .i64 r.v)
  refine ⟨A2, c2, rfl, hc, ?_, bSet (bSet (bSet h1 hlt _) hlt _) hlt _⟩
  refine ((hr.setCell (b0.cell 0) (by intro s; simp) _).setCell (b1.cell 1) (by intro s; simp) _).setCell (b2.cell 2) (by intro s; simp) _
theorem RT.drew {w : World} {A : Option Addr} {n : Nat} {xs : List ByteArray} (h : RT w A n xs) : RT w.drew A n xs := h.below (bDrew (Below.refl _ _))
theorem C_drew {α : Type} {d : Kd α} {w : World} {A : Option Addr} {n : Nat} {xs : List α} (h : d.C w A n xs) : d.C w.drew A n xs := Kd.C_below h (bDrew (Below.refl _ _))
def ofAt (w wr : World) (g5 : Nat) (k c : Int) (r : PV) (L : Nat) : Prop :=
  ∃ (A : Option Addr) (ca : Nat), wr.heap[g5]? = some (.cells #[.int .u64 r.n, .int .i64 r.v, .slice A r.xs.length ca] 33) ∧ RT wr A r.xs.length r.xs ∧ r.xs.length ≤ L ∧ r.xs.length ≤ ca ∧ 0 ≤ r.n ∧
    wr.heap[w.heap.size]? = some (.cells #[.int .i64 k, .int .i64 c] 23) ∧ wr.heap[w.heap.size + 1]? = some (.cells #[.int .u64 0, .int .i64 0, .slice none 0 0] 33) ∧ Below w.heap.size w wr ∧ w.heap.size + 1 < g5

theorem ofP_succ (k c : Int) (l : List S51) (i : Nat) (h : i < l.length) : ofP k c (l.take (i + 1)) = addP k c (ofP k c (l.take i)) l[i] := by
  unfold ofP
  rw [List.take_succ_eq_append_getElem h, List.foldl_append]
  rfl
theorem normB_le (xs : List ByteArray) : (normB xs).length ≤ xs.length := by
  unfold normB
  exact Nat.le_trans (compactB_le _) (by rw [sortB_length]; exact Nat.le_refl _)
theorem mergeP_le (k : Int) (p q : PV) : (mergeP k p q).xs.length ≤ p.xs.length + q.xs.length := by
  unfold mergeP
  have h1 := normB_le p.xs
  have h2 := normB_le q.xs
  have h3 := normB_le (p.xs ++ q.xs)
  rw [List.length_append] at h3
  (repeat' split) <;> (simp only [List.length_nil]; omega)
theorem u64_nonneg (x : Int) : 0 ≤ IntKind.u64.wrap x := by
  have := IntKind.wrap_u64 x
  omega
theorem mergeP_n (k : Int) (p q : PV) (h : 0 ≤ p.n) (h' : 0 ≤ q.n) : 0 ≤ (mergeP k p q).n := by
  unfold mergeP
  (repeat' split) <;> first | exact u64_nonneg _ | assumption | exact Int.le_refl _
theorem factP_le (k c : Int) (f : S51) : (factP k c f).xs.length ≤ 1 := by
  unfold factP
  (repeat' split) <;> simp
theorem factP_n (k c : Int) (f : S51) : (factP k c f).n = f.f1 := by
  unfold factP
  (repeat' split) <;> rfl
theorem addP_le (k c : Int) (p : PV) (f : S51) : (addP k c p f).xs.length ≤ p.xs.length + 1 := by
  unfold addP
  split
  · exact Nat.le_trans (mergeP_le _ _ _) (by simp)
  · exact Nat.le_trans (mergeP_le _ _ _) (Nat.add_le_add_left (factP_le _ _ _) _)
theorem addP_n (k c : Int) (p : PV) (f : S51) (h : 0 ≤ p.n) (hf : 0 ≤ f.f1) : 0 ≤ (addP k c p f).n := by
  unfold addP
  split
  · exact mergeP_n _ _ _ h (Int.le_refl _)
  · exact mergeP_n _ _ _ h (by rw [factP_n]; exact hf)
theorem ofAt_set {w w' : World} {g5 : Nat} {k c : Int} {p : PV} {f : S51} {i ca c4 : Nat} {A A4 : Option Addr} (hL : p.xs.length ≤ i) (hN : 0 ≤ p.n) (hf : Okf c f)
    (hp : w'.heap[g5]? = some (.cells #[.int .u64 p.n, .int .i64 p.v, .slice A p.xs.length ca] 33)) (hr : RT w' A4 (addP k c p f).xs.length (addP k c p f).xs) (hc : (addP k c p f).xs.length ≤ c4)
    (h0 : w'.heap[w.heap.size]? = some (.cells #[.int .i64 k, .int .i64 c] 23)) (h1 : w'.heap[w.heap.size + 1]? = some (.cells #[.int .u64 0, .int .i64 0, .slice none 0 0] 33)) (hb : Below w.heap.size w w') (hg : w.heap.size + 1 < g5) :
    ofAt w (((w'.setCell ⟨g5, 0, none⟩ (.int .u64 (addP k c p f).n)).setCell ⟨g5, 1, none⟩ (.int .i64 (addP k c p f).v)).setCell ⟨g5, 2, none⟩ (.slice A4 (addP k c p f).xs.length c4)) g5 k c (addP k c p f) (i + 1) := by
  have b0 : Blk w' g5 33 #[.int .u64 p.n, .int .i64 p.v, .slice A p.xs.length ca] := hp
  have b1 := b0.set_ 0 (.int .u64 (addP k c p f).n)
  have b2 := b1.set_ 1 (.int .i64 (addP k c p f).v)
  have c0 : Blk w' w.heap.size 23 #[.int .i64 k, .int .i64 c] := h0
  have c1 : Blk w' (w.heap.size + 1) 33 #[.int .u64 0, .int .i64 0, .slice none 0 0] := h1
  have hle := addP_le k c p f
  refine ⟨A4, c4, set3 hp _ _ _, ((hr.setCell (b0.cell 0) (by intro s; simp) _).setCell (b1.cell 1) (by intro s; simp) _).setCell (b2.cell 2) (by intro s; simp) _, by omega, hc, addP_n k c p f hN hf.2.2.2, ?_, ?_, bSet (bSet (bSet hb (by simp; omega) _) (by simp; omega) _) (by simp; omega) _, hg⟩
  · exact ((c0.far (p := ⟨g5, 0, none⟩) (by simp; omega) _).far (p := ⟨g5, 1, none⟩) (by simp; omega) _).far (p := ⟨g5, 2, none⟩) (by simp; omega) _
  · exact ((c1.far (p := ⟨g5, 0, none⟩) (by simp; omega) _).far (p := ⟨g5, 1, none⟩) (by simp; omega) _).far (p := ⟨g5, 2, none⟩) (by simp; omega) _

set_option maxRecDepth 100000 in
set_option maxHeartbeats 4000000 in
theorem of_any (k c : Int) (A : Option Addr) (ca : Nat) (l : List S51) (w : World) (hk : 1 ≤ k ∧ k ≤ 5) (hl : Kd.C k51 w A l.length l) (hn : l.length ≤ 100000) (hf : ∀ f ∈ l, Okf c f) :
    Calls Try.prog 8 #[.agg #[.int .i64 k, .int .i64 c], .slice A l.length ca] w (RetP w (ofP k c l)) := by
  have HL := Lib.hid hl
  have HF := Lib.hid hf
  clear hl hf
  go_enter Try.func8, Try.ntmps8
  go_wp2_with fail
  go_at_call 15
  refine (start_any _ _ _).mono ?_
  rintro e w1 ⟨rfl, hb⟩
  obtain ⟨hz, HBw, e0, e1⟩ := boxes2 hb
  have HB := Lib.hid HBw
  have E0 := Lib.hid e0
  have E1 := Lib.hid e1
  clear hb HBw e0 e1
  go_wp2_with fail
  go_loopg [6] l.length (fun kq v6 wr => ∃ i : Nat, v6 = .int .i64 i ∧ i + kq = l.length ∧ ofAt w wr w1.heap.size k c (ofP k c (l.take i)) i)
  case atStart =>
    refine ⟨0, rfl, by omega, ?_⟩
    exact ⟨none, 0, heap_alloc_last _ _, RT.nil_ _ _, Nat.le_refl _, Nat.le_refl _, Int.le_refl _, (Below.heap_alloc _ _ _ (by omega)).trans E0.out, (Below.heap_alloc _ _ _ (by omega)).trans E1.out, bAlloc HB.out _, hz⟩
  case round =>
    obtain ⟨i, rfl, hi, A1, c1, p1, hr, hL, hc1, hN0, a0, a1, hb, hg⟩ := hrel
    have HP := Lib.hid p1
    have HA0 := Lib.hid a0
    have HA1 := Lib.hid a1
    have HR := Lib.hid hr
    have HW := Lib.hid hb
    have HI := Lib.hid hi
    have hg5 : w1.heap.size < wr.heap.size := blk_lt p1
    obtain ⟨q50, q51, q52⟩ := blk3 p1
    obtain ⟨z50, z51, z52⟩ := frz3 p1
    obtain ⟨q00, q01⟩ := blk2 a0
    have hile : i ≤ l.length := by omega
    clear p1 a0 a1 hr hb hi
    by_cases hlt : i < l.length
    · obtain ⟨ad, A2, c2, A3, c3, rfl, m0, m1, m2, m3, hl2, hr2, hl3, hr3⟩ := at_T51 HL.out (i : Int) (by omega) (by omega)
      have hget : rd_T51 l (i : Int) = l[i] := by unfold rd_T51; simp [List.getD_eq_getElem?_getD, List.getElem?_eq_getElem hlt]
      rw [hget] at m0 m1 m2 m3 hl2 hr2 hl3 hr3
      have n0 := (HW.out.cell (World.block_lt_of_cell? w _ m0)).trans m0
      have n1 := (HW.out.cell (World.block_lt_of_cell? w _ m1)).trans m1
      have n2 := (HW.out.cell (World.block_lt_of_cell? w _ m2)).trans m2
      have n3 := (HW.out.cell (World.block_lt_of_cell? w _ m3)).trans m3
      simp only [Int.toNat_natCast] at n0 n1 n2 n3
      have HR2 := Lib.hid (Kd.C_below hr2 HW.out)
      have HR3 := Lib.hid (Kd.C_below hr3 HW.out)
      have HOK := Lib.hid (HF.out l[i] (List.getElem_mem hlt))
      clear m0 m1 m2 m3 hl2 hl3 hr2 hr3 hget
      go_wp2_with fail
      go_still_tail 12, (by kernel_rfl)
      go_wp2_with fail
      go_at_call 16
      refine (add_all k c _ _ A1 A2 A3 _ c1 c2 c3 _ l[i] _ hk HOK.out (RT.drew HR.out) (by omega) hN0 (RT.drew HR2.out) (C_drew HR3.out)).mono ?_
      rintro e w' ⟨A4, c4, rfl, hc4, hr4, hb4⟩
      have hb5 := bUndrew hb4
      have hp5 := (hb5.block _ hg5).trans HP.out
      obtain ⟨y0, y1, y2⟩ := blk3 hp5
      obtain ⟨z0, z1, z2⟩ := frz3 hp5
      have HP5 := Lib.hid hp5
      have HB5 := Lib.hid hb5
      have HR5 := Lib.hid hr4
      clear hb4 hb5 hr4 hp5 q50 q51 q52 z50 z51 z52 n0 n1 n2 n3 q00 q01
      go_wp2_with fail
      go_roundg (gk - 1)
      case measure => have := HI.out; omega
      case rel =>
        refine ⟨i + 1, by go_num, by have := HI.out; omega, ?_⟩
        rw [ofP_succ k c l i hlt]
        exact ofAt_set hL hN0 HOK.out HP5.out HR5.out hc4 ((HB5.out.block _ (blk_lt HA0.out)).trans HA0.out) ((HB5.out.block _ (blk_lt HA1.out)).trans HA1.out) (bThen HW.out HB5.out) hg
    · obtain ⟨q10, q11, q12⟩ := blk3 HA1.out
      obtain ⟨z10, z11, z12⟩ := frz3 HA1.out
      go_wp2_with fail
      have hil : i = l.length := by omega
      have htk : l.take i = l := List.take_of_length_le (by omega)
      have HA1' := HA1.out
      have HR' := HR.out
      rw [htk] at HR' hc1 ⊢
      refine bodyPost_ret (results_cell_row rfl _ _ (w.heap.size + 1) 33 _ (0, 0) _ rfl (set3 HA1' _ _ _) Try.underlying33 rfl (by kernel_rfl)) rfl ?_
      exact retG (by omega) HA1' HR' HW.out hc1
end Go.Proofs.Ytnigmpckohncoaa
