/- AggCounts, walked: what an aggregator has of facts is the reference's. -/
import Derived.Test.YtnigmpckohncoaaL1
import Derived.Test.YtnigmpckohncoaaB1
import Derived.Deep.RegionHeld3
set_option linter.unusedVariables false
set_option linter.unusedSimpArgs false
namespace Go.Proofs.Ytnigmpckohncoaa
open Go.RowKit Go.Sort YtnigmpckohncoaaW.PrintWords PAggCounts
theorem C_al {α : Type} {d : Kd α} {w : World} {A : Option Addr} {n : Nat} {xs : List α} (h : d.C w A n xs) (o : Obj) : d.C (w.alloc o) A n xs := Kd.C_below h (bAlloc (Below.refl _ _) _)
theorem same_calls (p : PV) (A B : Option Addr) (c d : Nat) (w : World) (hA : RT w A p.xs.length p.xs) (hc : p.xs.length ≤ c) (hB : RT w B p.xs.length p.xs) (hd : p.xs.length ≤ d) (hl : p.xs.length ≤ 1048576) :
    Calls Try.prog 10 #[.agg #[.int .u64 p.n, .int .i64 p.v, .slice A p.xs.length c], .agg #[.int .u64 p.n, .int .i64 p.v, .slice B p.xs.length d]] w fun e w' => e = .returned (.bool true) ∧ Below w.heap.size w w' := by
  obtain ⟨k, h⟩ := same_refl p.n p.v p.xs hl
  exact gristmillref06_Same.calls k p.n p.v A c p.xs p.n p.v B d p.xs true w hA hc hB hd h
theorem value_calls (k col : Int) (p : PV) (A : Option Addr) (c : Nat) (w : World) (hA : RT w A p.xs.length p.xs) (hc : p.xs.length ≤ c) :
    Calls Try.prog 12 #[.agg #[.int .i64 k, .int .i64 col], .agg #[.int .u64 p.n, .int .i64 p.v, .slice A p.xs.length c]] w fun e w' => e = .returned (.int .i64 (valueV k p.n p.v p.xs.length)) ∧ Below w.heap.size w w' :=
  gristmillref06_Value.calls k col p.n p.v A c p.xs _ w hA hc (value_ref k col p.n p.v p.xs)
set_option maxRecDepth 100000 in
set_option maxHeartbeats 4000000 in
theorem counts_any (k0 c0 : Int) (A : Option Addr) (ca : Nat) (raw : List S51) (w : World) (hk0 : -9223372036854775808 ≤ k0 ∧ k0 < 9223372036854775808) (hc0 : -9223372036854775808 ≤ c0 ∧ c0 < 9223372036854775808)
    (hr : Kd.C k51 w A raw.length raw) (hca : raw.length ≤ ca) (h0 : ∀ f ∈ raw, 0 ≤ f.f1) :
    Calls Try.prog 3 #[.agg #[.int .i64 k0, .int .i64 c0], .slice A raw.length ca] w fun e w' => e = .returned (.bool true) ∧ Below w.heap.size w w' := by
  obtain ⟨k, c, hk, hcc, hright⟩ := right_some k0 c0 hk0 hc0
  obtain ⟨n, l, hf, hl40, ht⟩ := hright raw h0
  have hl1000 : l.length ≤ 1000 := by omega
  have HOK := Lib.hid (fun f (hf : f ∈ l) => tidy_okf hcc (ht f hf))
  have HEQ := Lib.hid (of_ref k c l hk hl1000 (fun f hf => (ht f hf).2.2.1))
  have HLE := Lib.hid (of_le k c l)
  have HF := Lib.hid hf
  have HR := Lib.hid hr
  clear hright hf ht hr h0 hcc hk0 hc0
  go_enter Try.func3, Try.ntmps3
  go_wp2_with fail
  go_at_call 6
  refine (awake_any _).mono ?_
  rintro e w1 ⟨rfl, hb⟩
  obtain ⟨hz, hbw, e0⟩ := boxes1 hb
  obtain ⟨q0, q1⟩ := blk2 e0
  obtain ⟨z0, z1⟩ := frz2 e0
  have HB1 := Lib.hid hbw
  have E0 := Lib.hid e0
  clear hb hbw e0
  go_wp2_with fail
  go_at_call 7
  refine (gristmilllaw06_right.calls n k0 c0 A ca raw 2 2 k c l _ (Kd.C_below HR.out HB1.out) hca HF.out).mono ?_
  rintro e w2 ⟨v4, rfl, hv, hb2⟩
  have hz2 : w1.heap.size ≤ w2.heap.size := hb2.size
  have hzw : w.heap.size < w2.heap.size := by omega
  have e2 : w2.heap[w.heap.size]? = some (.cells #[.int .i64 k0, .int .i64 c0] 23) := (hb2.block _ hz).trans E0.out
  clear q0 q1 z0 z1
  obtain ⟨q0, q1⟩ := blk2 e2
  obtain ⟨z0, z1⟩ := frz2 e2
  have b2 : Blk w2 w.heap.size 23 #[.int .i64 k0, .int .i64 c0] := e2
  have b3 := b2.set_ 0 (.int .i64 k)
  have b4 := (b3.set_ 1 (.int .i64 c)).alloc (.cells #[.int .i64 2, .int .i64 2] 27)
  have hv3 := Kd.S_set hv e2 (by decide) 0 (.int .i64 k)
  have hv4 := Kd.S_alloc (Kd.S_set hv3 b3 (by decide) 1 (.int .i64 c)) (.cells #[.int .i64 2, .int .i64 2] 27)
  obtain ⟨A4, c4, rfl, hc4, hr4⟩ := Kd.R_reads (Kd.S_R hv4)
  have E4 := Lib.hid b4
  have HB2 := Lib.hid (bAlloc (bSet (bSet (bThen HB1.out hb2) (p := ⟨w.heap.size, 0, none⟩) (Nat.le_refl _) (.int .i64 k)) (p := ⟨w.heap.size, 1, none⟩) (Nat.le_refl _) (.int .i64 c)) (.cells #[.int .i64 2, .int .i64 2] 27))
  have HR4 := Lib.hid hr4
  clear hb2 hv hr4 e2 hv3 hv4 b2 b3 b4
  go_wp2_with fail
  go_at_call 8
  refine (of_any k c A4 c4 l _ hk HR4.out (by omega) HOK.out).mono ?_
  generalize ofP k c l = p at *
  rintro e w3 ⟨A5, c5, rfl, hc5, hr5, hb3⟩
  have E5 := Lib.hid (Blk.below E4.out hb3 (Blk.lt E4.out))
  have HB3 := Lib.hid (bThen HB2.out hb3)
  have HR5 := Lib.hid hr5
  have HR4' := Lib.hid (Kd.C_below HR4.out hb3)
  clear hb3 hr5 q0 q1 z0 z1
  obtain ⟨q0, q1⟩ := blk2 E5.out
  have hz3 : w.heap.size < w3.heap.size := Blk.lt E5.out
  go_wp2_with fail
  go_at_call 9
  refine (ref_any k c A4 c4 l _ hk (C_al HR4'.out _) hl1000 HOK.out).mono ?_
  rw [← HEQ.out]
  rintro e w4 ⟨A6, c6, rfl, hc6, hr6, hb4⟩
  obtain ⟨hz4, hb5, e5⟩ := boxes1 hb4
  have E6 := Lib.hid (Blk.below E5.out hb5 hz3)
  have HB4 := Lib.hid (bAlloc (bThen HB3.out hb5) (.cells #[.int .u64 p.n, .int .i64 p.v, .slice A6 p.xs.length c6] 33))
  have HR5' := Lib.hid (RT_al (o := .cells #[.int .u64 p.n, .int .i64 p.v, .slice A6 p.xs.length c6] 33) (HR5.out.below hb5))
  have HR6 := Lib.hid (RT_al (o := .cells #[.int .u64 p.n, .int .i64 p.v, .slice A6 p.xs.length c6] 33) hr6)
  have f0 := Blk.alloc E6.out (.cells #[.int .u64 p.n, .int .i64 p.v, .slice A6 p.xs.length c6] 33)
  have f1 : Blk (w4.alloc (.cells #[.int .u64 p.n, .int .i64 p.v, .slice A6 p.xs.length c6] 33)) w3.heap.size 33 #[.int .u64 p.n, .int .i64 p.v, .slice A5 p.xs.length c5] := Blk.alloc e5 _
  have f2 : Blk (w4.alloc (.cells #[.int .u64 p.n, .int .i64 p.v, .slice A6 p.xs.length c6] 33)) w4.heap.size 33 #[.int .u64 p.n, .int .i64 p.v, .slice A6 p.xs.length c6] := heap_alloc_last _ _
  clear hb4 hb5 hr6 q0 q1 e5 E0 E4 E5 E6 HB1 HB2 HB3 HR HF HR4 HR4' HR5 HOK HEQ
  go_wp2_with fail
  generalize w4.alloc (.cells #[.int .u64 p.n, .int .i64 p.v, .slice A6 p.xs.length c6] 33) = w5 at *
  obtain ⟨q0, q1⟩ := blk2 f0
  obtain ⟨x0, x1, x2⟩ := blk3 f1
  obtain ⟨y0, y1, y2⟩ := blk3 f2
  have hx := Blk.lt f1
  have hy := Blk.lt f2
  clear f0 f1 f2
  have hle : p.xs.length ≤ 1048576 := by have := HLE.out; omega
  go_region_held3 (fun w' => w'.cell? ⟨w.heap.size, 0, none⟩ = some (.int .i64 k) ∧ w'.cell? ⟨w.heap.size, 1, none⟩ = some (.int .i64 c) ∧ w'.cell? ⟨w3.heap.size, 0, none⟩ = some (.int .u64 p.n) ∧ w'.cell? ⟨w3.heap.size, 1, none⟩ = some (.int .i64 p.v) ∧ w'.cell? ⟨w3.heap.size, 2, none⟩ = some (.slice A5 p.xs.length c5) ∧ w'.cell? ⟨w4.heap.size, 0, none⟩ = some (.int .u64 p.n) ∧ w'.cell? ⟨w4.heap.size, 1, none⟩ = some (.int .i64 p.v) ∧ w'.cell? ⟨w4.heap.size, 2, none⟩ = some (.slice A6 p.xs.length c6))
    ((refine ⟨?_, ?_, ?_, ?_, ?_, ?_, ?_, ?_⟩ <;> (with_reducible ((repeat' (first | assumption | refine cell_al ?_ | refine cell_drew ?_ | refine cell_keep (by assumption) ?_)); done))))
    (first
      | (go_at_call 10; refine (same_calls p A5 A6 c5 c6 _ ?_ hc5 ?_ hc6 hle).mono ?_; (focus (with_reducible (repeat' (first | exact HR5'.out | refine RT_keep (by assumption) ?_ | refine RT.drew ?_)))); (focus (with_reducible (repeat' (first | exact HR6.out | refine RT_keep (by assumption) ?_ | refine RT.drew ?_)))); rintro e wa ⟨rfl, hba⟩)
      | (go_at_call 11; refine (value_any k c p.n p.v A5 p.xs.length c5 _ hk hle).mono ?_; rintro e wb ⟨rfl, hbb⟩)
      | (go_at_call 12; refine (value_calls k c p A6 c6 _ ?_ hc6).mono ?_; (focus (with_reducible (repeat' (first | exact HR6.out | refine RT_keep (by assumption) ?_ | refine RT.drew ?_)))); rintro e wd ⟨rfl, hbd⟩))
  all_goals (go_wp2_with fail; go_ret; exact ⟨rfl, bThen HB4.out (by with_reducible ((repeat' (first | exact Below.refl _ _ | refine bDrew ?_ | refine bThen ?_ (by assumption))); done))⟩)
end Go.Proofs.Ytnigmpckohncoaa
