/- What the reference's Of answers. -/
import Derived.Test.YtnigmpckohncoaaA7
set_option linter.unusedVariables false
set_option linter.unusedSimpArgs false
namespace Go.Proofs.Ytnigmpckohncoaa
open Go.RowKit Go.Sort YtnigmpckohncoaaW.PrintWords PAggCounts

def refV (k : Int) (first : Bool) (V x m : Int) : Int :=
  if k = 2 then wrap64 (V + wrap64 (x * wrap64 m)) else if k = 3 then (if first || decide (x < V) then x else V) else if k = 4 then (if first || decide (x > V) then x else V) else V
def refStep (k c : Int) (r : Bool × PV) (f : S51) : Bool × PV :=
  if f.f1 = 0 then r
  else (false, ⟨IntKind.u64.wrap (r.2.n + f.f1), refV k r.1 r.2.v (f.f0.f2.getD c.toNat 0) f.f1, if k = 5 then putB r.2.xs (f.f0.f1.getD c.toNat ⟨#[]⟩) else r.2.xs⟩)
def refOf (k c : Int) (l : List S51) : Bool × PV := l.foldl (refStep k c) (true, ⟨0, 0, []⟩)
theorem refOf_succ (k c : Int) (l : List S51) (i : Nat) (h : i < l.length) : refOf k c (l.take (i + 1)) = refStep k c (refOf k c (l.take i)) l[i] := by
  unfold refOf
  rw [List.take_succ_eq_append_getElem h, List.foldl_append]
  rfl

theorem ofAt_drew {w W : World} {g5 : Nat} {k c : Int} {r : PV} {L : Nat} (h : ofAt w W g5 k c r L) : ofAt w W.drew g5 k c r L := by
  obtain ⟨A, ca, p, hr, hL, hc, hN, h0, h1, hb, hg⟩ := h
  exact ⟨A, ca, p, RT.drew hr, hL, hc, hN, h0, h1, bDrew hb, hg⟩
theorem ofAt_drewN {w W : World} {g5 : Nat} {k c : Int} {r : PV} {L : Nat} (h : ofAt w W g5 k c r L) (n : Nat) : ofAt w (W.drewN n) g5 k c r L := by
  obtain ⟨A, ca, p, hr, hL, hc, hN, h0, h1, hb, hg⟩ := h
  exact ⟨A, ca, p, hr.below (bDrewN (Below.refl _ _) n), hL, hc, hN, h0, h1, bDrewN hb n, hg⟩
theorem ofAt_mono {w W : World} {g5 : Nat} {k c : Int} {r : PV} {L L' : Nat} (h : ofAt w W g5 k c r L) (hL : L ≤ L') : ofAt w W g5 k c r L' := by
  obtain ⟨A, ca, p, hr, hl, h⟩ := h
  exact ⟨A, ca, p, hr, by omega, h⟩
theorem ofAt_n {w W : World} {g5 : Nat} {k c n v n' : Int} {xs : List ByteArray} {L : Nat} (h : ofAt w W g5 k c ⟨n, v, xs⟩ L) (hn : 0 ≤ n') : ofAt w (W.setCell ⟨g5, 0, none⟩ (.int .u64 n')) g5 k c ⟨n', v, xs⟩ L := by
  obtain ⟨A, ca, p, hr, hL, hc, hN, h0, h1, hb, hg⟩ := h
  have b0 : Blk W g5 33 #[.int .u64 n, .int .i64 v, .slice A xs.length ca] := p
  have c0 : Blk W w.heap.size 23 #[.int .i64 k, .int .i64 c] := h0
  have c1 : Blk W (w.heap.size + 1) 33 #[.int .u64 0, .int .i64 0, .slice none 0 0] := h1
  exact ⟨A, ca, b0.set_ 0 _, hr.setCell (b0.cell 0) (by intro s; simp) _, hL, hc, hn, c0.far (p := ⟨g5, 0, none⟩) (by simp; omega) _, c1.far (p := ⟨g5, 0, none⟩) (by simp; omega) _, bSet hb (by simp; omega) _, hg⟩
theorem ofAt_v {w W : World} {g5 : Nat} {k c n v v' : Int} {xs : List ByteArray} {L : Nat} (h : ofAt w W g5 k c ⟨n, v, xs⟩ L) : ofAt w (W.setCell ⟨g5, 1, none⟩ (.int .i64 v')) g5 k c ⟨n, v', xs⟩ L := by
  obtain ⟨A, ca, p, hr, hL, hc, hN, h0, h1, hb, hg⟩ := h
  have b0 : Blk W g5 33 #[.int .u64 n, .int .i64 v, .slice A xs.length ca] := p
  have c0 : Blk W w.heap.size 23 #[.int .i64 k, .int .i64 c] := h0
  have c1 : Blk W (w.heap.size + 1) 33 #[.int .u64 0, .int .i64 0, .slice none 0 0] := h1
  exact ⟨A, ca, b0.set_ 1 _, hr.setCell (b0.cell 1) (by intro s; simp) _, hL, hc, hN, c0.far (p := ⟨g5, 1, none⟩) (by simp; omega) _, c1.far (p := ⟨g5, 1, none⟩) (by simp; omega) _, bSet hb (by simp; omega) _, hg⟩
theorem ofAt_xs {w W : World} {g5 : Nat} {k c n v : Int} {xs ys : List ByteArray} {L L' c' : Nat} {A' : Option Addr} (h : ofAt w W g5 k c ⟨n, v, xs⟩ L) (hr' : RT W A' ys.length ys) (hc' : ys.length ≤ c') (hL' : ys.length ≤ L') :
    ofAt w (W.setCell ⟨g5, 2, none⟩ (.slice A' ys.length c')) g5 k c ⟨n, v, ys⟩ L' := by
  obtain ⟨A, ca, p, hr, hL, hc, hN, h0, h1, hb, hg⟩ := h
  have b0 : Blk W g5 33 #[.int .u64 n, .int .i64 v, .slice A xs.length ca] := p
  have c0 : Blk W w.heap.size 23 #[.int .i64 k, .int .i64 c] := h0
  have c1 : Blk W (w.heap.size + 1) 33 #[.int .u64 0, .int .i64 0, .slice none 0 0] := h1
  exact ⟨A', c', b0.set_ 2 _, hr'.setCell (b0.cell 2) (by intro s; simp) _, hL', hc', hN, c0.far (p := ⟨g5, 2, none⟩) (by simp; omega) _, c1.far (p := ⟨g5, 2, none⟩) (by simp; omega) _, bSet hb (by simp; omega) _, hg⟩
theorem ofAt_below {w W W' : World} {g5 : Nat} {k c : Int} {r : PV} {L : Nat} (h : ofAt w W g5 k c r L) (hb' : Below W.heap.size W W') : ofAt w W' g5 k c r L := by
  obtain ⟨A, ca, p, hr, hL, hc, hN, h0, h1, hb, hg⟩ := h
  exact ⟨A, ca, (hb'.block _ (blk_lt p)).trans p, hr.below hb', hL, hc, hN, (hb'.block _ (blk_lt h0)).trans h0, (hb'.block _ (blk_lt h1)).trans h1, bThen hb hb', hg⟩

theorem putStep_le1 (s : ByteArray) (r : Bool × List ByteArray) (x : ByteArray) (n : Nat) (h : r.2.length ≤ n + r.1.toNat) : (putStep s r x).2.length ≤ n + 1 + (putStep s r x).1.toNat := by
  obtain ⟨d, ys⟩ := r
  unfold putStep
  cases d <;> cases hg : gtB x s <;> cases he : (x.toList == s.toList) <;> simp_all <;> omega
theorem putFold_le (s : ByteArray) (l : List ByteArray) : (putFold s l).2.length ≤ l.length + (putFold s l).1.toNat := by
  unfold putFold
  have h : ∀ (l : List ByteArray) (r : Bool × List ByteArray) (n : Nat), r.2.length ≤ n + r.1.toNat → (l.foldl (putStep s) r).2.length ≤ n + l.length + (l.foldl (putStep s) r).1.toNat := by
    intro l
    induction l with
    | nil => intro r n h; exact h
    | cons x l ih =>
      intro r n h
      have h1 := ih (putStep s r x) (n + 1) (putStep_le1 s r x n h)
      simp only [List.foldl_cons, List.length_cons]
      omega
  have := h l (false, []) 0 (Nat.le_refl _)
  omega
theorem putB_le (l : List ByteArray) (s : ByteArray) : (putB l s).length ≤ l.length + 1 := by
  have := putFold_le s l
  unfold putB
  cases h : (putFold s l).1
  · rw [h] at this
    simp at this ⊢; exact this
  · rw [h] at this
    simpa using this
set_option maxRecDepth 100000 in
set_option maxHeartbeats 8000000 in
theorem ref_any (k c : Int) (A : Option Addr) (ca : Nat) (l : List S51) (w : World) (hk : 1 ≤ k ∧ k ≤ 5) (hl : Kd.C k51 w A l.length l) (hn : l.length ≤ 1000) (hf : ∀ f ∈ l, Okf c f) :
    Calls Try.prog 9 #[.agg #[.int .i64 k, .int .i64 c], .slice A l.length ca] w (RetP w (refOf k c l).2) := by
  have HL := Lib.hid hl
  have HF := Lib.hid hf
  clear hl hf
  go_enter Try.func9, Try.ntmps9
  go_wp2_with fail
  go_loopg [6, 7] l.length (fun kq v6 v7 wr => ∃ i : Nat, v7 = .int .i64 i ∧ i + kq = l.length ∧ v6 = .bool (refOf k c (l.take i)).1 ∧ ofAt w wr (w.heap.size + 1 + 1) k c (refOf k c (l.take i)).2 i)
  case atStart =>
    refine ⟨0, rfl, by omega, rfl, ?_⟩
    have hbx := boxes3 (w := w) (w1 := ((w.alloc (.cells #[.int .i64 k, .int .i64 c] 23)).alloc (.cells #[.int .u64 0, .int .i64 0, .slice none 0 0] 33)).alloc (.cells #[.int .u64 0, .int .i64 0, .slice none 0 0] 33)) (Below.refl _ _)
    obtain ⟨hz, hB, e0, e1, e2⟩ := hbx
    exact ⟨none, 0, e2, RT.nil_ _ _, Nat.zero_le _, Nat.le_refl _, Int.le_refl _, e0, e1, hB, by omega⟩
  case round =>
    obtain ⟨i, rfl, hi, h6, hof⟩ := hrel
    have HOF := Lib.hid hof
    obtain ⟨A1, c1, p1, hr, hL, hc1, hN0, a0, a1, hb, hg⟩ := hof
    have HP := Lib.hid p1
    have HA0 := Lib.hid a0
    have HA1 := Lib.hid a1
    have HR := Lib.hid hr
    have HW := Lib.hid hb
    have HI := Lib.hid hi
    have HLen := Lib.hid hL
    have hg5 : w.heap.size + 1 + 1 < wr.heap.size := blk_lt p1
    obtain ⟨q50, q51, q52⟩ := blk3 p1
    obtain ⟨z50, z51, z52⟩ := frz3 p1
    obtain ⟨q00, q01⟩ := blk2 a0
    have hile : i ≤ l.length := by omega
    clear p1 a0 a1 hr hb hi hL
    by_cases hlt : i < l.length
    · obtain ⟨ad, A2, c2, A3, c3, rfl, m0, m1, m2, m3, hl2, hr2, hl3, hr3⟩ := at_T51 HL.out (i : Int) (by omega) (by omega)
      have hget : rd_T51 l (i : Int) = l[i] := by unfold rd_T51; simp [List.getD_eq_getElem?_getD, List.getElem?_eq_getElem hlt]
      rw [hget] at m0 m1 m2 m3 hl2 hr2 hl3 hr3
      simp only [Int.toNat_natCast] at m0 m1 m2 m3
      have HFacts : Hid (∀ W : World, Below w.heap.size w W → W.cell? (ad.add (i * 4)) = some (.int .i64 l[i].f0.f0) ∧ W.cell? ⟨(ad.add (i * 4)).block, (ad.add (i * 4)).off + 1, none⟩ = some (.slice A2 l[i].f0.f1.length c2) ∧ W.cell? ⟨(ad.add (i * 4)).block, (ad.add (i * 4)).off + 2, none⟩ = some (.slice A3 l[i].f0.f2.length c3) ∧ W.cell? ⟨(ad.add (i * 4)).block, (ad.add (i * 4)).off + 3, none⟩ = some (.int .u64 l[i].f1)) :=
        fun W hb => ⟨(hb.cell (World.block_lt_of_cell? w _ m0)).trans m0, (hb.cell (World.block_lt_of_cell? w _ m1)).trans m1, (hb.cell (World.block_lt_of_cell? w _ m2)).trans m2, (hb.cell (World.block_lt_of_cell? w _ m3)).trans m3⟩
      obtain ⟨n0, n1, n2, n3⟩ := HFacts.out wr HW.out
      have HR2 := Lib.hid hr2
      have HR3 := Lib.hid hr3
      have HOK := Lib.hid (HF.out l[i] (List.getElem_mem hlt))
      have HS := Lib.hid (refOf_succ k c l i hlt)
      clear m0 m1 m2 m3 hl2 hl3 hr2 hr3 hget
      obtain ⟨f, hfi⟩ : ∃ f, f = l[i] := ⟨_, rfl⟩
      rw [← hfi] at n0 n1 n2 n3 HR2 HR3 HOK HS HFacts
      clear hfi
      obtain ⟨r, hrr⟩ : ∃ r, r = refOf k c (l.take i) := ⟨_, rfl⟩
      rw [← hrr] at h6 HP HR HLen HS HOF q50 q51 q52 hN0 hc1
      clear hrr
      obtain ⟨first, N, V, T⟩ := r
      simp only [] at h6 q50 q51 q52 hN0 hc1
      subst h6
      by_cases hm : f.f1 = 0
      · have hm1 : (f.f1 == 0) = true := beq_iff_eq.2 hm
        have HM := Lib.hid hm
        clear hm
        go_wp2_with fail
        go_roundg (gk - 1)
        case measure => have := HI.out; omega
        case rel =>
          refine ⟨i + 1, by go_num, by have := HI.out; omega, by rw [HS.out]; simp [refStep, HM.out], ?_⟩
          rw [HS.out]
          simp only [refStep, HM.out, if_true, if_false]
          exact ofAt_mono HOF.out (by omega)
      · have hm1 : (f.f1 == 0) = false := beq_eq_false_iff_ne.2 hm
        have HM := Lib.hid hm
        clear hm
        have h5 : k = 1 ∨ k = 2 ∨ k = 3 ∨ k = 4 ∨ k = 5 := by omega
        clear hk
        rcases h5 with rfl | rfl | rfl | rfl | rfl
        · go_wp2_with fail
          go_still_tail 9, (by kernel_rfl)
          go_wp2_with fail
          go_roundg (gk - 1)
          case measure => have := HI.out; omega
          case rel =>
            refine ⟨i + 1, by go_num, by have := HI.out; omega, by rw [HS.out]; simp [refStep, HM.out], ?_⟩
            rw [HS.out]
            simp only [refStep, HM.out, if_true, if_false, refV]
            exact ofAt_mono (ofAt_n (ofAt_drew HOF.out) (u64_nonneg _)) (by omega)
        · obtain ⟨hc0, _, hce, _⟩ := HOK.out
          obtain ⟨ae, rfl, he⟩ := int_at HR3.out c hc0 hce
          go_wp2_with fail
          go_still_tail 9, (by kernel_rfl)
          go_wp2_with fail
          generalize hW7 : (wr.setCell ⟨w.heap.size + 1 + 1, 0, none⟩ (.int .u64 (IntKind.u64.wrap (N + f.f1)))).drew = W7
          have O7 : Hid (ofAt w W7 (w.heap.size + 1 + 1) 2 c ⟨IntKind.u64.wrap (N + f.f1), V, T⟩ i) := by rw [← hW7]; exact ofAt_drew (ofAt_n HOF.out (u64_nonneg _))
          clear hW7 q50 q51 q52 z50 z51 z52 n0 n1 n2 n3 q00 q01
          obtain ⟨A7, c7, p7, hr7, hL7, hc7, hN7, b0, b1, hb7, _⟩ := O7.out
          obtain ⟨n0, n1, n2, n3⟩ := HFacts.out W7 hb7
          obtain ⟨q50, q51, q52⟩ := blk3 p7
          obtain ⟨z50, z51, z52⟩ := frz3 p7
          obtain ⟨q00, q01⟩ := blk2 b0
          have HR7 := Lib.hid hr7
          have HB7 := Lib.hid hb7
          have HL7 := Lib.hid hL7
          have hg7 := blk_lt p7
          have he7 := (hb7.cell (World.block_lt_of_cell? w _ he)).trans he
          have HE := Lib.hid he
          obtain ⟨x, hx⟩ : ∃ x, x = f.f0.f2.getD c.toNat 0 := ⟨_, rfl⟩
          have HXX := Lib.hid hx
          rw [← hx] at he7
          clear p7 hr7 hL7 hc7 b0 b1 hb7 he hx
          go_still_tail 21, (by kernel_rfl)
          go_wp2_with fail
          go_roundg (gk - 1)
          case measure => have := HI.out; omega
          case rel =>
            refine ⟨i + 1, by go_num, by have := HI.out; omega, by rw [HS.out]; simp [refStep, HM.out], ?_⟩
            rw [HS.out]
            simp only [refStep, HM.out, if_true, if_false, ← HXX.out, refV, Int.reduceEq, reduceIte]
            exact ofAt_mono (ofAt_drew (ofAt_v O7.out)) (by omega)
        · obtain ⟨hc0, _, hce, _⟩ := HOK.out
          obtain ⟨ae, rfl, he⟩ := int_at HR3.out c hc0 hce
          go_wp2_with fail
          go_still_tail 9, (by kernel_rfl)
          go_wp2_with fail
          generalize hW7 : (wr.setCell ⟨w.heap.size + 1 + 1, 0, none⟩ (.int .u64 (IntKind.u64.wrap (N + f.f1)))).drew = W7
          have O7 : Hid (ofAt w W7 (w.heap.size + 1 + 1) 3 c ⟨IntKind.u64.wrap (N + f.f1), V, T⟩ i) := by rw [← hW7]; exact ofAt_drew (ofAt_n HOF.out (u64_nonneg _))
          clear hW7 q50 q51 q52 z50 z51 z52 n0 n1 n2 n3 q00 q01
          obtain ⟨A7, c7, p7, hr7, hL7, hc7, hN7, b0, b1, hb7, _⟩ := O7.out
          obtain ⟨n0, n1, n2, n3⟩ := HFacts.out W7 hb7
          obtain ⟨q50, q51, q52⟩ := blk3 p7
          obtain ⟨z50, z51, z52⟩ := frz3 p7
          obtain ⟨q00, q01⟩ := blk2 b0
          have HR7 := Lib.hid hr7
          have HB7 := Lib.hid hb7
          have HL7 := Lib.hid hL7
          have hg7 := blk_lt p7
          have he7 := (hb7.cell (World.block_lt_of_cell? w _ he)).trans he
          have HE := Lib.hid he
          obtain ⟨x, hx⟩ : ∃ x, x = f.f0.f2.getD c.toNat 0 := ⟨_, rfl⟩
          have HXX := Lib.hid hx
          rw [← hx] at he7
          clear p7 hr7 hL7 hc7 b0 b1 hb7 he hx
          cases first
          · by_cases hxv : x < V
            · have hxd : decide (x < V) = true := decide_eq_true hxv
              go_quiet (fail)
              go_wp2_with fail
              go_region_with (fail)
              all_goals go_wp2_with fail
              all_goals go_roundg (gk - 1)
              all_goals first | (have := HI.out; omega) | skip
              all_goals (refine ⟨i + 1, by go_num, by have := HI.out; omega, by rw [HS.out]; simp [refStep, HM.out], ?_⟩; rw [HS.out]; simp only [refStep, HM.out, if_true, if_false, ← HXX.out, refV, Int.reduceEq, reduceIte, hxd, Bool.or_false, Bool.or_true, Bool.true_or, Bool.false_or, Bool.false_eq_true]; exact ofAt_mono (ofAt_v (ofAt_drewN O7.out (nq + 1))) (by omega))
            · have hxd : decide (x < V) = false := decide_eq_false hxv
              go_quiet (fail)
              go_wp2_with fail
              go_roundg (gk - 1)
              case measure => have := HI.out; omega
              case rel =>
                refine ⟨i + 1, by go_num, by have := HI.out; omega, by rw [HS.out]; simp [refStep, HM.out], ?_⟩
                rw [HS.out]
                simp only [refStep, HM.out, if_true, if_false, ← HXX.out, refV, Int.reduceEq, reduceIte, hxd, Bool.or_false, Bool.or_true, Bool.true_or, Bool.false_or, Bool.false_eq_true]
                exact ofAt_mono (ofAt_drewN O7.out _) (by omega)
          · go_quiet (fail)
            go_wp2_with fail
            go_region_with (fail)
            all_goals go_wp2_with fail
            all_goals go_roundg (gk - 1)
            all_goals first | (have := HI.out; omega) | skip
            all_goals (refine ⟨i + 1, by go_num, by have := HI.out; omega, by rw [HS.out]; simp [refStep, HM.out], ?_⟩; rw [HS.out]; simp only [refStep, HM.out, if_true, if_false, ← HXX.out, refV, Int.reduceEq, reduceIte, Bool.or_false, Bool.or_true, Bool.true_or, Bool.false_or, Bool.false_eq_true]; exact ofAt_mono (ofAt_v (ofAt_drewN O7.out (nq + 1))) (by omega))
        · obtain ⟨hc0, _, hce, _⟩ := HOK.out
          obtain ⟨ae, rfl, he⟩ := int_at HR3.out c hc0 hce
          go_wp2_with fail
          go_still_tail 9, (by kernel_rfl)
          go_wp2_with fail
          generalize hW7 : (wr.setCell ⟨w.heap.size + 1 + 1, 0, none⟩ (.int .u64 (IntKind.u64.wrap (N + f.f1)))).drew = W7
          have O7 : Hid (ofAt w W7 (w.heap.size + 1 + 1) 4 c ⟨IntKind.u64.wrap (N + f.f1), V, T⟩ i) := by rw [← hW7]; exact ofAt_drew (ofAt_n HOF.out (u64_nonneg _))
          clear hW7 q50 q51 q52 z50 z51 z52 n0 n1 n2 n3 q00 q01
          obtain ⟨A7, c7, p7, hr7, hL7, hc7, hN7, b0, b1, hb7, _⟩ := O7.out
          obtain ⟨n0, n1, n2, n3⟩ := HFacts.out W7 hb7
          obtain ⟨q50, q51, q52⟩ := blk3 p7
          obtain ⟨z50, z51, z52⟩ := frz3 p7
          obtain ⟨q00, q01⟩ := blk2 b0
          have HR7 := Lib.hid hr7
          have HB7 := Lib.hid hb7
          have HL7 := Lib.hid hL7
          have hg7 := blk_lt p7
          have he7 := (hb7.cell (World.block_lt_of_cell? w _ he)).trans he
          have HE := Lib.hid he
          obtain ⟨x, hx⟩ : ∃ x, x = f.f0.f2.getD c.toNat 0 := ⟨_, rfl⟩
          have HXX := Lib.hid hx
          rw [← hx] at he7
          clear p7 hr7 hL7 hc7 b0 b1 hb7 he hx
          cases first
          · by_cases hxv : x > V
            · have hxd : decide (x > V) = true := decide_eq_true hxv
              go_quiet (fail)
              go_wp2_with fail
              go_region_with (fail)
              all_goals go_wp2_with fail
              all_goals go_roundg (gk - 1)
              all_goals first | (have := HI.out; omega) | skip
              all_goals (refine ⟨i + 1, by go_num, by have := HI.out; omega, by rw [HS.out]; simp [refStep, HM.out], ?_⟩; rw [HS.out]; simp only [refStep, HM.out, if_true, if_false, ← HXX.out, refV, Int.reduceEq, reduceIte, hxd, Bool.or_false, Bool.or_true, Bool.true_or, Bool.false_or, Bool.false_eq_true]; exact ofAt_mono (ofAt_v (ofAt_drewN O7.out (nq + 1))) (by omega))
            · have hxd : decide (x > V) = false := decide_eq_false hxv
              go_quiet (fail)
              go_wp2_with fail
              go_roundg (gk - 1)
              case measure => have := HI.out; omega
              case rel =>
                refine ⟨i + 1, by go_num, by have := HI.out; omega, by rw [HS.out]; simp [refStep, HM.out], ?_⟩
                rw [HS.out]
                simp only [refStep, HM.out, if_true, if_false, ← HXX.out, refV, Int.reduceEq, reduceIte, hxd, Bool.or_false, Bool.or_true, Bool.true_or, Bool.false_or, Bool.false_eq_true]
                exact ofAt_mono (ofAt_drewN O7.out _) (by omega)
          · go_quiet (fail)
            go_wp2_with fail
            go_region_with (fail)
            all_goals go_wp2_with fail
            all_goals go_roundg (gk - 1)
            all_goals first | (have := HI.out; omega) | skip
            all_goals (refine ⟨i + 1, by go_num, by have := HI.out; omega, by rw [HS.out]; simp [refStep, HM.out], ?_⟩; rw [HS.out]; simp only [refStep, HM.out, if_true, if_false, ← HXX.out, refV, Int.reduceEq, reduceIte, Bool.or_false, Bool.or_true, Bool.true_or, Bool.false_or, Bool.false_eq_true]; exact ofAt_mono (ofAt_v (ofAt_drewN O7.out (nq + 1))) (by omega))
        · obtain ⟨hc0, hcd, _, _⟩ := HOK.out
          obtain ⟨ae, rfl, hee⟩ := RT.at_ (show RT w A2 f.f0.f1.length f.f0.f1 from HR2.out) (by omega)
          have hdl : c.toNat < f.f0.f1.length := by omega
          have he := hee c.toNat (f.f0.f1.getD c.toNat ⟨#[]⟩) (by rw [List.getD_eq_getElem?_getD, List.getElem?_eq_getElem hdl]; rfl)
          clear hee
          go_wp2_with fail
          go_still_tail 9, (by kernel_rfl)
          go_wp2_with fail
          generalize hW7 : (wr.setCell ⟨w.heap.size + 1 + 1, 0, none⟩ (.int .u64 (IntKind.u64.wrap (N + f.f1)))).drew = W7
          have O7 : Hid (ofAt w W7 (w.heap.size + 1 + 1) 5 c ⟨IntKind.u64.wrap (N + f.f1), V, T⟩ i) := by rw [← hW7]; exact ofAt_drew (ofAt_n HOF.out (u64_nonneg _))
          clear hW7 q50 q51 q52 z50 z51 z52 n0 n1 n2 n3 q00 q01
          obtain ⟨A7, c7, p7, hr7, hL7, hc7, hN7, b0, b1, hb7, _⟩ := O7.out
          obtain ⟨n0, n1, n2, n3⟩ := HFacts.out W7 hb7
          obtain ⟨q50, q51, q52⟩ := blk3 p7
          obtain ⟨z50, z51, z52⟩ := frz3 p7
          obtain ⟨q00, q01⟩ := blk2 b0
          have HR7 := Lib.hid hr7
          have HB7 := Lib.hid hb7
          have HL7 := Lib.hid hL7
          have hg7 := blk_lt p7
          have he7 := (hb7.cell (World.block_lt_of_cell? w _ he)).trans he
          obtain ⟨x, hx⟩ : ∃ x, x = f.f0.f1.getD c.toNat ⟨#[]⟩ := ⟨_, rfl⟩
          have HXX := Lib.hid hx
          rw [← hx] at he7
          clear p7 hr7 hL7 hc7 b0 b1 hb7 he hx
          go_still_tail 12, (by kernel_rfl)
          go_wp2_with fail
          go_at_call 19
          refine (put_any A7 c7 T x _ (RT.drew HR7.out) (by have := HL7.out; omega)).mono ?_
          rintro e w' ⟨v, rfl, hv, hb'⟩
          have hb8 := bUndrew hb'
          obtain ⟨A8, c8, rfl, hc8, hr8⟩ := RT.of_own hv
          rw [strV_length] at hc8 hr8
          have O8 := Lib.hid (ofAt_below O7.out hb8)
          obtain ⟨A9, c9, p9, _⟩ := O8.out
          obtain ⟨y0, y1, y2⟩ := blk3 p9
          obtain ⟨x0, x1, x2⟩ := frz3 p9
          have HR8 := Lib.hid hr8
          have HC8 := Lib.hid hc8
          clear hv hb' hb8 hr8 hc8 p9 q50 q51 q52 z50 z51 z52 n0 n1 n2 n3 q00 q01 he7
          rw [strV_length]
          go_wp2_with fail
          go_roundg (gk - 1)
          case measure => have := HI.out; omega
          case rel =>
            refine ⟨i + 1, by go_num, by have := HI.out; omega, by rw [HS.out]; simp [refStep, HM.out], ?_⟩
            rw [HS.out]
            simp only [refStep, HM.out, if_true, if_false, ← HXX.out, refV, Int.reduceEq, reduceIte]
            exact ofAt_xs O8.out HR8.out HC8.out (by have := putB_le T x; have := HL7.out; omega)
    · obtain ⟨q10, q11, q12⟩ := blk3 HA1.out
      obtain ⟨z10, z11, z12⟩ := frz3 HA1.out
      go_wp2_with fail
      have hil : i = l.length := by have := HI.out; omega
      have htk : l.take i = l := List.take_of_length_le (by omega)
      have HA1' := HA1.out
      have HR' := HR.out
      rw [htk] at HR' hc1 ⊢
      refine bodyPost_ret (results_cell_row rfl _ _ (w.heap.size + 1) 33 _ (0, 0) _ rfl (set3 HA1' _ _ _) Try.underlying33 rfl (by kernel_rfl)) rfl ?_
      exact retG (by omega) HA1' HR' HW.out hc1
end Go.Proofs.Ytnigmpckohncoaa
