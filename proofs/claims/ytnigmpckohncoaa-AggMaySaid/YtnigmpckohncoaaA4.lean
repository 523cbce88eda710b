/- What agg.Merge answers. -/
import Derived.Test.YtnigmpckohncoaaA1
import Derived.Test.YtnigmpckohncoaaA3
set_option linter.unusedVariables false
set_option linter.unusedSimpArgs false
namespace Go.Proofs.Ytnigmpckohncoaa
open Go.RowKit Go.Sort YtnigmpckohncoaaW.PrintWords

def mergeV (k V U : Int) : Int := if k = 2 then wrap64 (V + U) else if k = 3 then min V U else if k = 4 then max V U else V
def normB (xs : List ByteArray) : List ByteArray := compactB (sortB xs)

theorem sum_any (V U : Int) (w : World) : Calls Try.prog 40 #[.int .i64 V, .int .i64 U] w fun e w' => e = .returned (.int .i64 (wrap64 (V + U))) ∧ w = w' := by
  go_enter Try.func40, Try.ntmps40
  go_wp2
  go_ret
  exact ⟨rfl, rfl⟩
theorem min_any (V U : Int) (w : World) : Calls Try.prog 42 #[.int .i64 V, .int .i64 U] w fun e w' => e = .returned (.int .i64 (min V U)) ∧ w = w' := by
  go_enter Try.func42, Try.ntmps42
  go_wp2
  go_ret
  exact ⟨rfl, rfl⟩
theorem max_any (V U : Int) (w : World) : Calls Try.prog 43 #[.int .i64 V, .int .i64 U] w fun e w' => e = .returned (.int .i64 (max V U)) ∧ w = w' := by
  go_enter Try.func43, Try.ntmps43
  go_wp2
  go_ret
  exact ⟨rfl, rfl⟩

theorem nf1 (w : World) : (binOp .neq 54 .nilFunc .nilFunc).run Try.prog w = .ok (.bool false) w := by kernel_rfl
theorem nf2 (w : World) (j : Nat) : (binOp .neq 54 (.func (.func j) #[] #[]) .nilFunc).run Try.prog w = .ok (.bool true) w := by kernel_rfl
theorem kc_form (k : Int) (hk : 1 ≤ k ∧ k ≤ 5) : ∃ (d : Bool) (f1 f2 f3 : Value), kc k = #[.bool d, f1, f2, f3] ∧ f1.oneCell' = true ∧ f3.oneCell' = true ∧
    ((f2 = .nilFunc ∧ (k = 1 ∨ k = 5)) ∨ ∃ j, f2 = .func (.func j) #[] #[] ∧ (∀ (args : Array Value) (w : World), (callFunc j args).run Try.prog w = .ok (.enter j args) w) ∧ ∀ (V U : Int) (w : World), Calls Try.prog j #[.int .i64 V, .int .i64 U] w fun e w' => e = .returned (.int .i64 (mergeV k V U)) ∧ w = w') := by
  have h5 : k = 1 ∨ k = 2 ∨ k = 3 ∨ k = 4 ∨ k = 5 := by omega
  rcases h5 with rfl | rfl | rfl | rfl | rfl
  · exact ⟨_, _, _, _, rfl, rfl, rfl, .inl ⟨rfl, .inl rfl⟩⟩
  · exact ⟨_, _, _, _, rfl, rfl, rfl, .inr ⟨40, rfl, Try.call40, fun V U w => sum_any V U w⟩⟩
  · exact ⟨_, _, _, _, rfl, rfl, rfl, .inr ⟨42, rfl, Try.call42, fun V U w => min_any V U w⟩⟩
  · exact ⟨_, _, _, _, rfl, rfl, rfl, .inr ⟨43, rfl, Try.call43, fun V U w => max_any V U w⟩⟩
  · exact ⟨_, _, _, _, rfl, rfl, rfl, .inl ⟨rfl, .inr rfl⟩⟩

/-- What Merge comes to: of the numbers, of the texts. -/
structure PV where
  n : Int
  v : Int
  xs : List ByteArray
def mergeP (k : Int) (p q : PV) : PV :=
  if p.n = 0 then (if q.n = 0 then ⟨0, 0, []⟩ else ⟨q.n, q.v, normB q.xs⟩)
  else if q.n = 0 then ⟨p.n, p.v, normB p.xs⟩
  else ⟨IntKind.u64.wrap (p.n + q.n), mergeV k p.v q.v, normB (p.xs ++ q.xs)⟩
/-- What is put together ahead of the sort. -/
def midP (k : Int) (p q : PV) : PV := if p.n = 0 then q else if q.n = 0 then p else ⟨IntKind.u64.wrap (p.n + q.n), mergeV k p.v q.v, p.xs ++ q.xs⟩
theorem mergeP_mid (k : Int) (p q : PV) (h : p.n ≠ 0 ∨ q.n ≠ 0) : mergeP k p q = ⟨(midP k p q).n, (midP k p q).v, normB (midP k p q).xs⟩ := by
  unfold mergeP midP
  by_cases h1 : p.n = 0
  · have h2 : q.n ≠ 0 := by rcases h with h | h; exact absurd h1 h; exact h
    simp [h1, h2]
  · by_cases h2 : q.n = 0 <;> simp [h1, h2]
def MidAt (w wx : World) (r : PV) (L : Nat) : Prop :=
  ∃ (A : Option Addr) (n c : Nat), n ≤ L ∧ wx.heap[w.heap.size + 1]? = some (.cells #[.int .u64 r.n, .int .i64 r.v, .slice A n c] 33) ∧ RT wx A n r.xs ∧
    wx.heap[w.heap.size + 1 + 1 + 1]? = some (.cells #[.int .u64 0, .int .i64 0, .slice none 0 0] 33) ∧ Below w.heap.size w wx
theorem mid_keep {w w1 : World} {r : PV} {N V : Int} {A : Option Addr} {n ca L : Nat} {xs : List ByteArray} {o : Obj} (hr : r = ⟨N, V, xs⟩) (hn : n ≤ L) (hz : w.heap.size + 1 + 1 + 1 < w1.heap.size)
    (h1 : w1.heap[w.heap.size + 1]? = some (.cells #[.int .u64 N, .int .i64 V, .slice A n ca] 33)) (h3 : w1.heap[w.heap.size + 1 + 1 + 1]? = some (.cells #[.int .u64 0, .int .i64 0, .slice none 0 0] 33))
    (hx : RT w1 A n xs) (hb : Below w.heap.size w w1) : MidAt w (w1.alloc o) r L := by
  subst hr
  exact ⟨A, n, ca, hn, (Below.heap_alloc _ _ _ (by omega)).trans h1, hx.below (bAlloc (Below.refl _ _) _), (Below.heap_alloc _ _ _ (by omega)).trans h3, bAlloc hb _⟩
theorem mid_set {w w1 : World} {r : PV} {N V M U : Int} {A B : Option Addr} {n ca m cb L : Nat} {xs : List ByteArray} {o : Obj} (hr : r = ⟨M, U, xs⟩) (hn : m ≤ L) (hz : w.heap.size + 1 + 1 + 1 < w1.heap.size) (hlt : w.heap.size ≤ w.heap.size + 1)
    (h1 : w1.heap[w.heap.size + 1]? = some (.cells #[.int .u64 N, .int .i64 V, .slice A n ca] 33)) (h3 : w1.heap[w.heap.size + 1 + 1 + 1]? = some (.cells #[.int .u64 0, .int .i64 0, .slice none 0 0] 33))
    (hx : RT w1 B m xs) (hb : Below w.heap.size w w1) :
    MidAt w ((((w1.setCell ⟨w.heap.size + 1, 0, none⟩ (.int .u64 M)).setCell ⟨w.heap.size + 1, 1, none⟩ (.int .i64 U)).setCell ⟨w.heap.size + 1, 2, none⟩ (.slice B m cb)).alloc o) r L := by
  subst hr
  have b0 : Blk w1 (w.heap.size + 1) 33 #[.int .u64 N, .int .i64 V, .slice A n ca] := h1
  have b1 := b0.set_ 0 (.int .u64 M)
  have b2 := b1.set_ 1 (.int .i64 U)
  have b3 : Blk w1 (w.heap.size + 1 + 1 + 1) 33 #[.int .u64 0, .int .i64 0, .slice none 0 0] := h3
  have b3' := ((b3.far (p := ⟨w.heap.size + 1, 0, none⟩) (by simp; omega) (.int .u64 M)).far (p := ⟨w.heap.size + 1, 1, none⟩) (by simp; omega) (.int .i64 U)).far (p := ⟨w.heap.size + 1, 2, none⟩) (by simp; omega) (.slice B m cb)
  exact ⟨B, m, cb, hn, Blk.alloc (set3 h1 _ _ _) o, (((hx.setCell (b0.cell 0) (by intro s; simp) _).setCell (b1.cell 1) (by intro s; simp) _).setCell (b2.cell 2) (by intro s; simp) _).below (bAlloc (Below.refl _ _) _), b3'.alloc o, bAlloc (bSet (bSet (bSet hb hlt _) hlt _) hlt _) _⟩
theorem mid_two {w w2 : World} {r : PV} {N V S : Int} {A A3 : Option Addr} {n ca L L3 c3 : Nat} {xs : List ByteArray} (hr : r = ⟨S, V, xs⟩) (hL : L3 ≤ L) (hlt : w.heap.size ≤ w.heap.size + 1)
    (h1 : w2.heap[w.heap.size + 1]? = some (.cells #[.int .u64 N, .int .i64 V, .slice A n ca] 33)) (h3 : w2.heap[w.heap.size + 1 + 1 + 1]? = some (.cells #[.int .u64 0, .int .i64 0, .slice none 0 0] 33))
    (hx : RT w2 A3 L3 xs) (hb : Below w.heap.size w w2) :
    MidAt w ((w2.setCell ⟨w.heap.size + 1, 2, none⟩ (.slice A3 L3 c3)).setCell ⟨w.heap.size + 1, 0, none⟩ (.int .u64 S)) r L := by
  subst hr
  have b0 : Blk w2 (w.heap.size + 1) 33 #[.int .u64 N, .int .i64 V, .slice A n ca] := h1
  have b1 := b0.set_ 2 (.slice A3 L3 c3)
  have b2 := b1.set_ 0 (.int .u64 S)
  have b3 : Blk w2 (w.heap.size + 1 + 1 + 1) 33 #[.int .u64 0, .int .i64 0, .slice none 0 0] := h3
  have b3' := (b3.far (p := ⟨w.heap.size + 1, 2, none⟩) (by simp; omega) (.slice A3 L3 c3)).far (p := ⟨w.heap.size + 1, 0, none⟩) (by simp; omega) (.int .u64 S)
  exact ⟨A3, L3, c3, hL, b2, (hx.setCell (b0.cell 2) (by intro s; simp) _).setCell (b1.cell 0) (by intro s; simp) _, b3', bSet (bSet hb hlt _) hlt _⟩
def RetP (w : World) (r : PV) (e : Ending) (w' : World) : Prop :=
  ∃ (A : Option Addr) (c : Nat), e = .returned (.agg #[.int .u64 r.n, .int .i64 r.v, .slice A r.xs.length c]) ∧ r.xs.length ≤ c ∧ RT w' A r.xs.length r.xs ∧ Below w.heap.size w w'

theorem ret_post {k : Int} {p q : PV} {w wc w4 : World} {A2 : Option Addr} {c2 : Nat} (h0 : p.n ≠ 0 ∨ q.n ≠ 0) (hlt : w.heap.size ≤ w.heap.size + 1 + 1 + 1)
    (e : w4.heap[w.heap.size + 1 + 1 + 1]? = some (.cells #[.int .u64 0, .int .i64 0, .slice none 0 0] 33))
    (hr : RT w4 A2 (compactB (sortB (midP k p q).xs)).length (compactB (sortB (midP k p q).xs))) (h1 : Below w.heap.size w wc) (h4 : Below wc.heap.size wc w4) (hc : (compactB (sortB (midP k p q).xs)).length ≤ c2) :
    RetP w (mergeP k p q) (.returned (.agg #[.int .u64 (midP k p q).n, .int .i64 (midP k p q).v, .slice A2 (compactB (sortB (midP k p q).xs)).length c2]))
      (((w4.setCell ⟨w.heap.size + 1 + 1 + 1, 0, none⟩ (.int .u64 (midP k p q).n)).setCell ⟨w.heap.size + 1 + 1 + 1, 1, none⟩ (.int .i64 (midP k p q).v)).setCell ⟨w.heap.size + 1 + 1 + 1, 2, none⟩ (.slice A2 (compactB (sortB (midP k p q).xs)).length c2)) := by
  rw [mergeP_mid k p q h0]
  have b0 : Blk w4 (w.heap.size + 1 + 1 + 1) 33 #[.int .u64 0, .int .i64 0, .slice none 0 0] := e
  have b1 := b0.set_ 0 (.int .u64 (midP k p q).n)
  have b2 := b1.set_ 1 (.int .i64 (midP k p q).v)
  refine ⟨A2, c2, rfl, hc, ?_, bSet (bSet (bSet (bThen h1 h4) hlt _) hlt _) hlt _⟩
  refine ((hr.setCell (b0.cell 0) (by intro s; simp) _).setCell (b1.cell 1) (by intro s; simp) _).setCell (b2.cell 2) (by intro s; simp) _

set_option maxRecDepth 100000 in
set_option maxHeartbeats 4000000 in
theorem merge_any (k c N V M U : Int) (A B : Option Addr) (n m ca cb : Nat) (xs ys : List ByteArray) (w : World) (hk : 1 ≤ k ∧ k ≤ 5) (hx : RT w A n xs) (hy : RT w B m ys) (hn : n + m ≤ 1048576)
   (hN : 0 ≤ N) (hM : 0 ≤ M) (h0 : N ≠ 0 ∨ M ≠ 0) :
    Calls Try.prog 13 #[.agg #[.int .i64 k, .int .i64 c], .agg #[.int .u64 N, .int .i64 V, .slice A n ca], .agg #[.int .u64 M, .int .i64 U, .slice B m cb]] w (RetP w (mergeP k ⟨N, V, xs⟩ ⟨M, U, ys⟩)) := by
  have HX := Lib.hid hx
  have HY := Lib.hid hy
  clear hx hy
  obtain ⟨d, f1, f2, f3, hkc, h1c, h3c, hf⟩ := kc_form k hk
  have HC := Lib.hid (known_any k c hk)
  have HK := Lib.hid hkc
  have HF := Lib.hid hf
  clear hkc hf
  go_enter Try.func13, Try.ntmps13
  go_wp2_with fail
  go_at_call 20
  refine (HC.out _).mono ?_
  rw [HK.out]
  rintro e w1 ⟨rfl, hb⟩
  obtain ⟨hz, HBw, e0, e1, e2, e3⟩ := boxes4 hb
  have hz0 : w.heap.size < w1.heap.size := by omega
  have hz1 : w.heap.size + 1 < w1.heap.size := by omega
  have hz2 : w.heap.size + 1 + 1 < w1.heap.size := by omega
  obtain ⟨q10, q11, q12⟩ := blk3 e1
  obtain ⟨q20, q21, q22⟩ := blk3 e2
  obtain ⟨z10, z11, z12⟩ := frz3 e1
  have HB := Lib.hid HBw
  have HE1 := Lib.hid e1
  have HE2 := Lib.hid e2
  have HE3 := Lib.hid e3
  clear hb HBw e0 e1 e2 e3
  have s1 : ∀ (w : World) (a : Addr) (m : Mode), (store a f1 m).run Try.prog w = stored Try.prog w a f1 m := fun w a m => run_store _ _ _ _ _ h1c
  have s3 : ∀ (w : World) (a : Addr) (m : Mode), (store a f3 m).run Try.prog w = stored Try.prog w a f3 m := fun w a m => run_store _ _ _ _ _ h3c
  have s2 : ∀ (w : World) (a : Addr) (m : Mode), (store a f2 m).run Try.prog w = stored Try.prog w a f2 m := by
    rcases HF.out with ⟨rfl, _⟩ | ⟨j, rfl, _, _⟩ <;> exact fun w a m => run_store _ _ _ _ _ rfl
  clear h1c h3c
  go_upto_block 0 with (fail)
  go_cut [] (fun wx => MidAt w wx (midP k ⟨N, V, xs⟩ ⟨M, U, ys⟩) (n + m))
  case first =>
    have n1 := nf1
    have n2 := nf2
    by_cases a0 : N = 0
    · subst a0
      have hM0 : (M == 0) = false := beq_eq_false_iff_ne.2 (by omega)
      clear HX
      go_wp2_with fail
      go_meet
      exact mid_set (by simp [midP]) (by omega) (by omega) (by omega) HE1.out HE3.out (HY.out.below HB.out) HB.out
    · have hN0 : (N == 0) = false := beq_eq_false_iff_ne.2 a0
      by_cases b0 : M = 0
      · subst b0
        go_wp2_with fail
        go_meet
        exact mid_keep (by simp [midP, a0]) (by omega) (by omega) HE1.out HE3.out (HX.out.below HB.out) HB.out
      · have hM0 : (M == 0) = false := beq_eq_false_iff_ne.2 b0
        have hM1 : (M != 0) = true := bne_iff_ne.2 b0
        have ha0 := Lib.hid a0
        have hb0 := Lib.hid b0
        clear a0 b0
        rcases HF.out with ⟨hf2, hk15⟩ | ⟨j, hf2, hj⟩
        · subst hf2
          have HK15 := Lib.hid hk15
          clear hk15
          go_wp2_with fail
          go_at_call 21
          refine (concat_two (w1.heap.size + 1) A B n m ca cb xs ys _ (by simp [go_sem]) (by simp [go_sem]) (((HX.out.below HB.out).below (bAlloc (Below.refl _ _) _)).below (bAlloc (Below.refl _ _) _)) (((HY.out.below HB.out).below (bAlloc (Below.refl _ _) _)).below (bAlloc (Below.refl _ _) _)) (by omega)).mono ?_
          rintro e w2 ⟨v, rfl, hv, hb2⟩
          obtain ⟨hz3, hb3, e4, e5⟩ := boxes2 hb2
          obtain ⟨A3, c3, rfl, hc3, hr3⟩ := RT.of_own hv
          have f1 := (hb3.block _ hz1).trans HE1.out
          have f2 := (hb3.block _ hz2).trans HE2.out
          have f3 := (hb3.block _ hz).trans HE3.out
          obtain ⟨y10, y11, y12⟩ := blk3 f1
          obtain ⟨y20, y21, y22⟩ := blk3 f2
          obtain ⟨x10, x11, x12⟩ := frz3 f1
          have HF1 := Lib.hid f1
          have HF3 := Lib.hid f3
          have HB3 := Lib.hid (bThen HB.out hb3)
          have HR3 := Lib.hid hr3
          clear hv hb2 hb3 e4 e5 f1 f2 f3 hr3 q10 q11 q12 q20 q21 q22 z10 z11 z12
          go_wp2_with fail
          go_meet
          exact mid_two (by have := HK15.out; rcases this with rfl | rfl <;> simp [midP, mergeV, ha0.out, hb0.out]) (Nat.le_refl _) (by omega) HF1.out HF3.out HR3.out HB3.out
        · obtain ⟨hcf, hj⟩ := hj
          subst hf2
          have HJ := Lib.hid hj
          clear hj
          go_wp2_with fail
          refine (HJ.out V U _).mono ?_
          rintro e w2 ⟨rfl, rfl⟩
          go_wp2_with fail
          go_at_call 21
          have b1 : Blk w1 (w.heap.size + 1) 33 #[.int .u64 N, .int .i64 V, .slice A n ca] := HE1.out
          have b2 : Blk w1 (w.heap.size + 1 + 1) 33 #[.int .u64 M, .int .i64 U, .slice B m cb] := HE2.out
          have b3 : Blk w1 (w.heap.size + 1 + 1 + 1) 33 #[.int .u64 0, .int .i64 0, .slice none 0 0] := HE3.out
          have g1 := b1.set_ 1 (.int .i64 (mergeV k V U))
          have g2 := b2.far (p := ⟨w.heap.size + 1, 1, none⟩) (by simp) (.int .i64 (mergeV k V U))
          have g3 := b3.far (p := ⟨w.heap.size + 1, 1, none⟩) (by simp; omega) (.int .i64 (mergeV k V U))
          have hX := (HX.out.below HB.out).setCell (b1.cell 1) (by intro s; simp) (.int .i64 (mergeV k V U))
          have hY := (HY.out.below HB.out).setCell (b1.cell 1) (by intro s; simp) (.int .i64 (mergeV k V U))
          have hBW := bSet HB.out (p := ⟨w.heap.size + 1, 1, none⟩) (by simp) (.int .i64 (mergeV k V U))
          have hsz : (w1.setCell ⟨w.heap.size + 1, 1, none⟩ (.int .i64 (mergeV k V U))).heap.size = w1.heap.size := by simp
          refine (concat_two (w1.heap.size + 1) A B n m ca cb xs ys _ (by simp [go_sem]) (by simp [go_sem]) ((hX.below (bAlloc (Below.refl _ _) _)).below (bAlloc (Below.refl _ _) _)) ((hY.below (bAlloc (Below.refl _ _) _)).below (bAlloc (Below.refl _ _) _)) (by omega)).mono ?_
          rintro e w2 ⟨v, rfl, hv, hb2⟩
          obtain ⟨hz3, hb3, e4, e5⟩ := boxes2 hb2
          obtain ⟨A3, c3, rfl, hc3, hr3⟩ := RT.of_own hv
          have f1 := (hb3.block _ (by rw [hsz]; exact hz1)).trans g1
          have f2 := (hb3.block _ (by rw [hsz]; exact hz2)).trans g2
          have f3 := (hb3.block _ (by rw [hsz]; exact hz)).trans g3
          simp only [List.setIfInBounds_toArray, List.set_cons_succ, List.set_cons_zero] at f1
          obtain ⟨y10, y11, y12⟩ := blk3 f1
          obtain ⟨y20, y21, y22⟩ := blk3 f2
          obtain ⟨x10, x11, x12⟩ := frz3 f1
          have HF1 := Lib.hid f1
          have HF3 := Lib.hid f3
          have HB3 := Lib.hid (bThen hBW hb3)
          have HR3 := Lib.hid hr3
          clear hv hb2 hb3 e4 e5 f1 f2 f3 hr3 q10 q11 q12 q20 q21 q22 z10 z11 z12 b1 b2 b3 g1 g2 g3 hX hY hBW hsz hz3
          go_wp2_with fail
          go_meet
          exact mid_two (by simp [midP, ha0.out, hb0.out]) (Nat.le_refl _) (by omega) HF1.out HF3.out HR3.out HB3.out
  case rest =>
    obtain ⟨A1, n1, c1, hL, e1, hr, e3, hb⟩ := hcut
    have HM := Lib.hid hr.len
    obtain ⟨q10, q11, q12⟩ := blk3 e1
    have hlt := blk_lt e3
    have hlt1 := blk_lt e1
    have HE1 := Lib.hid e1
    have HE3 := Lib.hid e3
    have HB1 := Lib.hid hb
    have HR := Lib.hid hr
    clear e1 e3 hb hr s1 s2 s3 HB HC HF HK
    go_wp2_with fail
    go_at_call 22
    refine (clone_any _ _ _ _ _ HR.out (by omega)).mono ?_
    rintro e w2 ⟨v, rfl, hv, hb2⟩
    have HV := Lib.hid hv
    have HB2 := Lib.hid hb2
    clear hv hb2 q10 q11 q12
    go_wp2_with fail
    go_at_call 23
    refine (sort_any _ _ _ _ _ HV.out (by omega)).mono ?_
    rintro e w3 ⟨rfl, hv3, hg3⟩
    have hne : ∀ b, b < wc.heap.size → some b ≠ v.ownBlock := fun b hb he => by have := (HV.out.lt b he.symm).1; omega
    have hb3 : Below wc.heap.size wc w3 := HB2.out.grown hg3 HB2.out.size (fun b hb => (HV.out.lt b hb).1)
    have e1 := (hb3.block _ hlt1).trans HE1.out
    have e3 := (hb3.block _ hlt).trans HE3.out
    have HE1' := Lib.hid e1
    have HE3' := Lib.hid e3
    obtain ⟨q10, q11, q12⟩ := blk3 e1
    obtain ⟨q30, q31, q32⟩ := blk3 e3
    obtain ⟨z30, z31, z32⟩ := frz3 e3
    have HV3 := Lib.hid hv3
    have HB3 := Lib.hid hb3
    clear hv3 hg3 hb3 e1 e3 hne
    go_wp2_with fail
    have hvd : Hid (w3.drew.ownsRow wc.heap.size 9 1 v n1 (strV (sortB (midP k ⟨N, V, xs⟩ ⟨M, U, ys⟩).xs))) := HV3.out
    go_region_with (go_at_call 24; refine (compact_any _ _ _ _ _ (Hid.out hvd) (by omega)).mono ?_; rintro e w4 ⟨A2, c2, rfl, hc2, hr4, hg4⟩; have hb4 : Below wc.heap.size wc w4 := (bDrew HB3.out).grown hg4 HB3.out.size (fun b hb => (HV.out.lt b hb).1); have e1 := (hb4.block _ hlt1).trans HE1.out; have e3 := (hb4.block _ hlt).trans HE3.out; obtain ⟨y10, y11, y12⟩ := blk3 e1; obtain ⟨y30, y31, y32⟩ := blk3 e3; obtain ⟨x30, x31, x32⟩ := frz3 e3; have HB4 := Lib.hid hb4; have HR4 := Lib.hid hr4; have HE4 := Lib.hid e3; clear hb4 hg4 hr4 e1 e3)
    all_goals go_wp2
    all_goals (refine bodyPost_ret (results_cell_row rfl _ _ (w.heap.size + 1 + 1 + 1) 33 _ (0, 0) _ rfl (set3 HE4.out _ _ _) Try.underlying33 rfl (by kernel_rfl)) rfl ?_)
    all_goals exact ret_post h0 (by omega) HE4.out HR4.out HB1.out HB4.out hc2

set_option maxRecDepth 100000 in
set_option maxHeartbeats 4000000 in
/-- No facts on either side. -/
theorem merge_none (k c V U : Int) (A B : Option Addr) (n m ca cb : Nat) (xs ys : List ByteArray) (w : World) (hk : 1 ≤ k ∧ k ≤ 5) :
    Calls Try.prog 13 #[.agg #[.int .i64 k, .int .i64 c], .agg #[.int .u64 0, .int .i64 V, .slice A n ca], .agg #[.int .u64 0, .int .i64 U, .slice B m cb]] w (RetP w (mergeP k ⟨0, V, xs⟩ ⟨0, U, ys⟩)) := by
  obtain ⟨d, f1, f2, f3, hkc, h1c, h3c, hf⟩ := kc_form k hk
  have HC := Lib.hid (known_any k c hk)
  have HK := Lib.hid hkc
  have HF := Lib.hid hf
  clear hkc hf
  go_enter Try.func13, Try.ntmps13
  go_wp2_with fail
  go_at_call 20
  refine (HC.out _).mono ?_
  rw [HK.out]
  rintro e w1 ⟨rfl, hb⟩
  obtain ⟨hz, HBw, e0, e1, e2, e3⟩ := boxes4 hb
  have hz0 : w.heap.size < w1.heap.size := by omega
  have hz1 : w.heap.size + 1 < w1.heap.size := by omega
  have hz2 : w.heap.size + 1 + 1 < w1.heap.size := by omega
  obtain ⟨q10, q11, q12⟩ := blk3 e1
  obtain ⟨q20, q21, q22⟩ := blk3 e2
  obtain ⟨q30, q31, q32⟩ := blk3 e3
  obtain ⟨z30, z31, z32⟩ := frz3 e3
  have HB := Lib.hid HBw
  have HE3 := Lib.hid e3
  clear hb HBw e0 e1 e2 e3
  have s1 : ∀ (w : World) (a : Addr) (m : Mode), (store a f1 m).run Try.prog w = stored Try.prog w a f1 m := fun w a m => run_store _ _ _ _ _ h1c
  have s3 : ∀ (w : World) (a : Addr) (m : Mode), (store a f3 m).run Try.prog w = stored Try.prog w a f3 m := fun w a m => run_store _ _ _ _ _ h3c
  have s2 : ∀ (w : World) (a : Addr) (m : Mode), (store a f2 m).run Try.prog w = stored Try.prog w a f2 m := by
    rcases HF.out with ⟨rfl, _⟩ | ⟨j, rfl, _, _⟩ <;> exact fun w a m => run_store _ _ _ _ _ rfl
  clear h1c h3c
  go_wp2_with fail
  refine bodyPost_ret (v := .agg #[.int .u64 0, .int .i64 0, .slice none 0 0]) (results_cell_row rfl _ _ (w.heap.size + 1 + 1 + 1) 33 #[.int .u64 0, .int .i64 0, .slice none 0 0] (0, 0) _ rfl ?_ Try.underlying33 rfl (by kernel_rfl)) rfl ?_
  · exact Blk.alloc (set3 HE3.out _ _ _) _
  · exact ⟨none, 0, by simp [mergeP], by simp [mergeP], by simp [mergeP]; exact RT.nil_ _ _, bAlloc (bSet (bSet (bSet HB.out (by simp; omega) _) (by simp; omega) _) (by simp; omega) _) _⟩

/-- Merge, of whatever numbers. -/
theorem merge_all (k c N V M U : Int) (A B : Option Addr) (n m ca cb : Nat) (xs ys : List ByteArray) (w : World) (hk : 1 ≤ k ∧ k ≤ 5) (hx : RT w A n xs) (hy : RT w B m ys) (hn : n + m ≤ 1048576)
   (hN : 0 ≤ N) (hM : 0 ≤ M) :
    Calls Try.prog 13 #[.agg #[.int .i64 k, .int .i64 c], .agg #[.int .u64 N, .int .i64 V, .slice A n ca], .agg #[.int .u64 M, .int .i64 U, .slice B m cb]] w (RetP w (mergeP k ⟨N, V, xs⟩ ⟨M, U, ys⟩)) := by
  by_cases h0 : N ≠ 0 ∨ M ≠ 0
  · exact merge_any k c N V M U A B n m ca cb xs ys w hk hx hy hn hN hM h0
  · have h1 : N = 0 := by omega
    have h2 : M = 0 := by omega
    subst h1; subst h2
    exact merge_none k c V U A B n m ca cb xs ys w hk
end Go.Proofs.Ytnigmpckohncoaa
