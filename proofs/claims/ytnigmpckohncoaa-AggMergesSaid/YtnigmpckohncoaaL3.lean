/- AggMerges, walked: what an aggregator has of two rows, merged, is what the reference has of both. -/
import Derived.Test.YtnigmpckohncoaaL2
set_option linter.unusedVariables false
set_option linter.unusedSimpArgs false
namespace Go.Proofs.Ytnigmpckohncoaa
open Go.RowKit Go.Sort YtnigmpckohncoaaW.PrintWords PAggCounts
theorem C_keep {α : Type} {d : Kd α} {w w1 : World} {A : Option Addr} {n : Nat} {xs : List α} (hb : Below w.heap.size w w1) (h : d.C w A n xs) : d.C w1 A n xs := Kd.C_below h hb
/-- The kind of what was read in a world that has passed. -/
def atW {α : Type} (w0 : World) (d : Kd α) : Kd α where
  sz := d.sz
  E := []
  K := fun _ x cs => d.K w0 x cs
  M := fun _ _ _ x cs => d.K w0 x cs
  K_len := d.K_len
  K_one := d.K_one
  K_below := fun _ h => h
  K_of_M := fun h => h
  M_mono := fun _ h => h
  M_bound := fun h => h
  M_move := fun _ h => h
  M_lower := fun _ h => h
theorem atW_C {α : Type} {w0 w1 : World} {d : Kd α} {A : Option Addr} {n : Nat} {xs : List α} (h : (atW w0 d).C w1 A n xs) (hb : Below w0.heap.size w0 w1) : d.C w1 A n xs :=
  ReadsRow.imp_ h (Below.refl _ _) (fun _ _ hp => d.K_below hb hp)
theorem C_rows {α : Type} {w0 w1 : World} {d : Kd α} {A : Option Addr} {n : Nat} {xs : List α} (h : d.C w0 A n xs) (hb : Below w0.heap.size w0 w1) : ReadsRow (d.K w0) d.sz w1 A n xs :=
  ReadsRow.imp_ h hb (fun _ _ hp => hp)
theorem merge_to (k c : Int) (A B : Option Addr) (ca cb : Nat) (p q r : PV) (w : World) (hk : 1 ≤ k ∧ k ≤ 5) (hx : RT w A p.xs.length p.xs) (hy : RT w B q.xs.length q.xs) (hn : p.xs.length + q.xs.length ≤ 1048576) (hN : 0 ≤ p.n) (hM : 0 ≤ q.n) (h : mergeP k p q = r) :
    Calls Try.prog 13 #[.agg #[.int .i64 k, .int .i64 c], .agg #[.int .u64 p.n, .int .i64 p.v, .slice A p.xs.length ca], .agg #[.int .u64 q.n, .int .i64 q.v, .slice B q.xs.length cb]] w (RetP w r) := by
  rw [← h]
  exact merge_all k c p.n p.v q.n q.v A B _ _ ca cb p.xs q.xs w hk hx hy hn hN hM
theorem ref_to (k c : Int) (A : Option Addr) (ca : Nat) (l : List S51) (p : PV) (w : World) (hk : 1 ≤ k ∧ k ≤ 5) (hl : Kd.C k51 w A l.length l) (hn : l.length ≤ 1000) (hf : ∀ f ∈ l, Okf c f) (h : p = (refOf k c l).2) :
    Calls Try.prog 9 #[.agg #[.int .i64 k, .int .i64 c], .slice A l.length ca] w (RetP w p) := by
  rw [h]
  exact ref_any k c A ca l w hk hl hn hf
set_option maxRecDepth 100000 in
set_option maxHeartbeats 8000000 in
theorem merges_any (k0 c0 : Int) (A B : Option Addr) (ca cb : Nat) (one two : List S51) (w : World) (hk0 : -9223372036854775808 ≤ k0 ∧ k0 < 9223372036854775808) (hc0 : -9223372036854775808 ≤ c0 ∧ c0 < 9223372036854775808)
    (hr : Kd.C k51 w A one.length one) (hca : one.length ≤ ca) (h0 : ∀ f ∈ one, 0 ≤ f.f1) (hs : Kd.C k51 w B two.length two) (hcb : two.length ≤ cb) (h1 : ∀ f ∈ two, 0 ≤ f.f1) :
    Calls Try.prog 4 #[.agg #[.int .i64 k0, .int .i64 c0], .slice A one.length ca, .slice B two.length cb] w fun e w' => e = .returned (.bool true) ∧ Below w.heap.size w w' := by
  obtain ⟨k, c, hk, hcc, hright⟩ := right_some k0 c0 hk0 hc0
  obtain ⟨n, x, hf, hx40, htx⟩ := hright one h0
  obtain ⟨m, y, hg, hy40, hty⟩ := hright two h1
  have HOX := Lib.hid (fun f (hf : f ∈ x) => tidy_okf hcc (htx f hf))
  have HOY := Lib.hid (fun f (hf : f ∈ y) => tidy_okf hcc (hty f hf))
  have HFX : ∀ f ∈ x, Few f := fun f hf => (htx f hf).2.2.1
  have HFY : ∀ f ∈ y, Few f := fun f hf => (hty f hf).2.2.1
  have HAP := Lib.hid (of_append k c x y (by omega) HFX HFY)
  have HOB := Lib.hid (fun f (hf : f ∈ x ++ y) => (List.mem_append.1 hf).elim (fun h => tidy_okf hcc (htx f h)) (fun h => tidy_okf hcc (hty f h)))
  have HEQ := Lib.hid (of_ref k c (x ++ y) hk (by rw [List.length_append]; omega) (fun f hf => (List.mem_append.1 hf).elim (HFX f) (HFY f)))
  have HLX := Lib.hid (of_le k c x)
  have HLY := Lib.hid (of_le k c y)
  have HLB := Lib.hid (of_le k c (x ++ y))
  have HNX := Lib.hid (of_good k c x (by omega) HFX).1
  have HNY := Lib.hid (of_good k c y (by omega) HFY).1
  have HF := Lib.hid hf
  have HG := Lib.hid hg
  have HR := Lib.hid hr
  have HS := Lib.hid hs
  clear hright hf hg htx hty hr hs h0 h1 hcc hk0 hc0 HFX HFY
  go_enter Try.func4, Try.ntmps4
  go_wp2_with fail
  go_at_call 6
  refine (awake_any _).mono ?_
  rintro e w1 ⟨rfl, hb⟩
  obtain ⟨hz, hbw, e0⟩ := boxes1 hb
  obtain ⟨q0, q1⟩ := blk2 e0
  have HB1 := Lib.hid hbw
  have E0 := Lib.hid e0
  clear hb hbw e0
  go_wp2_with fail
  go_at_call 7
  refine (gristmilllaw06_right.calls n k0 c0 A ca one 2 2 k c x _ (Kd.C_below HR.out HB1.out) hca HF.out).mono ?_
  rintro e w2 ⟨v4, rfl, hv, hb2⟩
  obtain ⟨A4, c4, rfl, hc4, hr4⟩ := Kd.R_reads (Kd.S_R hv)
  have E2 := Lib.hid (Blk.below E0.out hb2 hz)
  have HB2 := Lib.hid (bThen HB1.out hb2)
  have HX2 := Lib.hid hr4
  have hz2 : w.heap.size < w2.heap.size := Blk.lt E2.out
  clear q0 q1 hv hb2 hr4
  obtain ⟨q0, q1⟩ := blk2 E2.out
  go_wp2_with fail
  go_at_call 7
  refine (gristmilllaw06_right.calls m k0 c0 B cb two 2 2 k c y _ (Kd.C_below HS.out (bAlloc (bAlloc HB2.out _) _)) hcb HG.out).mono ?_
  rintro e w3 ⟨v5, rfl, hv, hb3⟩
  obtain ⟨A5, c5, rfl, hc5, hr5⟩ := Kd.R_reads (Kd.S_R hv)
  obtain ⟨hz3, hb3', e3, e4⟩ := boxes2 hb3
  have HB3 := Lib.hid (bAlloc (bAlloc (bThen HB2.out hb3') (.cells #[.int .i64 2, .int .i64 2] 27)) (.cells #[.int .i64 k, .int .i64 c] 23))
  have HX3 := Lib.hid (C_al (C_al (C_keep hb3' HX2.out) (.cells #[.int .i64 2, .int .i64 2] 27)) (.cells #[.int .i64 k, .int .i64 c] 23))
  have HY3 := Lib.hid (C_al (C_al hr5 (.cells #[.int .i64 2, .int .i64 2] 27)) (.cells #[.int .i64 k, .int .i64 c] 23))
  have E4 := Lib.hid (Blk.alloc (Blk.alloc e4 (.cells #[.int .i64 2, .int .i64 2] 27)) (.cells #[.int .i64 k, .int .i64 c] 23))
  clear q0 q1 hv hb3 hb3' hr5 e3 e4
  go_upto_region 6 with fail
  generalize (w3.alloc (.cells #[.int .i64 2, .int .i64 2] 27)).alloc (.cells #[.int .i64 k, .int .i64 c] 23) = w5 at *
  obtain ⟨q0, q1⟩ := blk2 E4.out
  have hz5 : w2.heap.size + 1 < w5.heap.size := Blk.lt E4.out
  have tok1 : True := trivial
  go_cut [14] (fun s14 wx => REnd w5 (ofP k c (x ++ y)) s14 wx)
  case first =>
    go_region_held3 (fun w' => w'.cell? ⟨w2.heap.size + 1, 0, none⟩ = some (.int .i64 k) ∧ w'.cell? ⟨w2.heap.size + 1, 1, none⟩ = some (.int .i64 c))
      ((refine ⟨?_, ?_⟩ <;> (with_reducible ((repeat' (first | assumption | refine cell_al ?_ | refine cell_drew ?_ | refine cell_keep (by assumption) ?_ | refine cell_far ?_ ?_ | (dsimp only; omega))); done))))
      (first
        | (go_at_call 8; have _t := tok1; refine (of_any k c A4 c4 x _ hk ?_ (by omega) HOX.out).mono ?_; (focus (with_reducible (repeat' (first | exact HX3.out | refine C_keep (by assumption) ?_ | refine C_drew ?_ | refine C_al ?_ _)))); rintro e wa ⟨Aa, ka, rfl, hka, hra, hba⟩; clear tok1; have hsa : w2.heap.size + 1 < wa.heap.size := (by have hx := hba.size; (try simp at hx); omega))
        | (go_at_call 8; refine (of_any k c A5 c5 y _ hk ?_ (by omega) HOY.out).mono ?_; (focus (with_reducible (repeat' (first | exact HY3.out | refine C_keep (by assumption) ?_ | refine C_drew ?_ | refine C_al ?_ _)))); rintro e wb ⟨Ab, kb, rfl, hkb, hrb, hbb⟩; have hsb : w2.heap.size + 1 < wb.heap.size := (by have hx := hbb.size; (try simp at hx); omega))
        | (go_at_call 13; refine (merge_to k c Aa Ab ka kb (ofP k c x) (ofP k c y) (ofP k c (x ++ y)) _ hk ?_ ?_ (by have := HLX.out; have := HLY.out; omega) HNX.out HNY.out HAP.out).mono ?_; (focus (with_reducible (repeat' (first | exact hra | refine RT_keep (by assumption) ?_ | refine RT.drew ?_ | refine RT_al ?_)))); (focus (with_reducible (repeat' (first | exact hrb | refine RT_keep (by assumption) ?_ | refine RT.drew ?_ | refine RT_al ?_)))); rintro e w8 ⟨A8, k8, rfl, hk8, hr8, hb8⟩;
           (first | (refine with_row (w := w8) (n := w5.heap.size) (o := (.cells #[.int .u64 0, .int .i64 0, .slice none 0 0] 33)) ?_ ?_; (focus (with_reducible ((repeat' (first | exact heap_alloc_last _ _ | exact row_new1 _ _ _ | exact row_new2 _ _ _ _ | exact row_newd _ _ | exact row_newd1 _ _ _ | exact row_newd2 _ _ _ _ | refine row_al ?_ | refine row_drew ?_ | refine row_keep (by assumption) ?_)); done))); intro q; obtain ⟨g0, g1, g2⟩ := blk3 q; obtain ⟨z0, z1, z2⟩ := frz3 q) | (refine with_row (w := w8) (n := wa.heap.size) (o := (.cells #[.int .u64 0, .int .i64 0, .slice none 0 0] 33)) ?_ ?_; (focus (with_reducible ((repeat' (first | exact heap_alloc_last _ _ | exact row_new1 _ _ _ | exact row_new2 _ _ _ _ | exact row_newd _ _ | exact row_newd1 _ _ _ | exact row_newd2 _ _ _ _ | refine row_al ?_ | refine row_drew ?_ | refine row_keep (by assumption) ?_)); done))); intro q; obtain ⟨g0, g1, g2⟩ := blk3 q; obtain ⟨z0, z1, z2⟩ := frz3 q) | (refine with_row (w := w8) (n := wb.heap.size) (o := (.cells #[.int .u64 0, .int .i64 0, .slice none 0 0] 33)) ?_ ?_; (focus (with_reducible ((repeat' (first | exact heap_alloc_last _ _ | exact row_new1 _ _ _ | exact row_new2 _ _ _ _ | exact row_newd _ _ | exact row_newd1 _ _ _ | exact row_newd2 _ _ _ _ | refine row_al ?_ | refine row_drew ?_ | refine row_keep (by assumption) ?_)); done))); intro q; obtain ⟨g0, g1, g2⟩ := blk3 q; obtain ⟨z0, z1, z2⟩ := frz3 q) | skip)))
    all_goals (go_wp2_with fail; go_meet)
    all_goals have F : Below w5.heap.size w5 w8 := by (with_reducible ((repeat' (first | exact Below.refl _ _ | refine bAlloc ?_ _ | refine bDrew ?_ | refine bThen ?_ (by assumption))); done))
    all_goals first | exact rend_new F hr8 hk8 | exact rend_set F hr8 hk8 q (by first | omega | (have hx := hba.size; (try simp at hx); omega) | (have hx := hba.size; have hx' := hbb.size; (try simp at hx); (try simp at hx'); omega))
  case rest =>
    obtain ⟨g, rfl, hp, hb7, hg7⟩ := hcut
    obtain ⟨A8, k8, p8, hr8, hk8⟩ := hp
    have E7 := Lib.hid (Blk.below E4.out hb7 hz5)
    have HX7 := Lib.hid (C_keep hb7 HX3.out)
    have HY7 := Lib.hid (C_keep hb7 HY3.out)
    have HB7 := Lib.hid (bThen HB3.out hb7)
    have HP7 := Lib.hid p8
    have HR7 := Lib.hid hr8
    clear q0 q1 hb7 p8 hr8 tok1 hg7
    go_wp2_with (first | ((with_reducible refine gate_builtin (b := .append) (xs := #[.tmp 41, .tmp 42]) rfl ?_); at_builtin; refine Kd.R_append_rows (atW wc k51) (Rr := k51.K wc) (w0 := wc) wc.heap.size rfl (.tmp 41) (.tmp 42) 24 51 _ 64 rfl Try.underlying24 info51 rfl (show 0 < k51.sz by decide) (by decide) (.slice none 0 0) [] x A4 x.length c4 (fun _ => True) (fun _ => False) rfl rfl (Kd.R_nil _ _ _ _ _) (C_rows HX7.out (Below.refl _ _)) (fun _ _ h => h) (fun _ h => h.elim) (fun _ _ => trivial) (Below.refl _ _) (Nat.le_refl _) (by simp only [List.length_nil]; omega) ?_; intro v1 w9 hR1 hB1 hG1 hat1; have HR9 := Lib.hid hR1; have HB9 := Lib.hid hB1; clear hR1 hB1 hG1 hat1) | ((with_reducible refine gate_builtin (b := .append) (xs := #[.tmp 44, .tmp 45]) rfl ?_); at_builtin; refine Kd.R_append_rows (atW wc k51) (Rr := k51.K wc) (w0 := wc) wc.heap.size rfl (.tmp 44) (.tmp 45) 24 51 _ 64 rfl Try.underlying24 info51 rfl (show 0 < k51.sz by decide) (by decide) v1 ([] ++ x) y A5 y.length c5 (fun _ => True) (fun _ => False) rfl rfl HR9.out (C_rows HY7.out HB9.out) (fun _ _ h => h) (fun _ h => h.elim) (fun _ _ => trivial) HB9.out HB9.out.size (by simp only [List.nil_append]; omega) ?_; intro v2 w10 hR2 hB2 hG2 hat2))
    simp only [List.nil_append] at hR2
    obtain ⟨A9, c9, rfl, hc9, hr9⟩ := Kd.R_reads hR2
    have HXY := Lib.hid (atW_C hr9 hB2)
    have HB10 := Lib.hid (bThen HB7.out hB2)
    have e7 := Blk.below E7.out hB2 (Blk.lt E7.out)
    have p7 : Blk w10 g 33 #[.int .u64 (ofP k c (x ++ y)).n, .int .i64 (ofP k c (x ++ y)).v, .slice A8 (ofP k c (x ++ y)).xs.length k8] := (hB2.block _ (blk_lt HP7.out)).trans HP7.out
    have HRR := Lib.hid (RT_keep hB2 HR7.out)
    have hlen : (x ++ y).length ≤ 80 := by rw [List.length_append]; omega
    have hple : (ofP k c (x ++ y)).xs.length ≤ 1048576 := by have := HLB.out; omega
    clear hR2 hB2 hG2 hat2 hr9
    obtain ⟨q0, q1⟩ := blk2 e7
    obtain ⟨g0, g1, g2⟩ := blk3 p7
    have hgl := Blk.lt p7
    have hel := Blk.lt e7
    clear e7 p7
    generalize hxy : x ++ y = xy at *
    clear hxy
    generalize hpp : ofP k c xy = p at *
    have HQ := Lib.hid hpp
    clear hpp
    go_region_held3 (fun w' => w'.cell? ⟨w2.heap.size + 1, 0, none⟩ = some (.int .i64 k) ∧ w'.cell? ⟨w2.heap.size + 1, 1, none⟩ = some (.int .i64 c) ∧ w'.cell? ⟨g, 0, none⟩ = some (.int .u64 p.n) ∧ w'.cell? ⟨g, 1, none⟩ = some (.int .i64 p.v) ∧ w'.cell? ⟨g, 2, none⟩ = some (.slice A8 p.xs.length k8))
      ((refine ⟨?_, ?_, ?_, ?_, ?_⟩ <;> (with_reducible ((repeat' (first | assumption | refine cell_al ?_ | refine cell_drew ?_ | refine cell_keep (by assumption) ?_ | refine cell_far ?_ ?_ | (dsimp only; omega))); done))))
      (first
        | (go_at_call 9; refine (ref_to k c A9 c9 xy p _ hk ?_ (by omega) HOB.out HEQ.out).mono ?_; (focus (with_reducible (repeat' (first | exact HXY.out | refine C_keep (by assumption) ?_ | refine C_drew ?_ | refine C_al ?_ _)))); rintro e wa ⟨Aa, ka, rfl, hka, hra, hba⟩)
        | (go_at_call 10; refine (same_calls p A8 Aa k8 ka _ ?_ hk8 ?_ hka hple).mono ?_; (focus (with_reducible (repeat' (first | exact HRR.out | refine RT_keep (by assumption) ?_ | refine RT.drew ?_ | refine RT_al ?_)))); (focus (with_reducible (repeat' (first | exact hra | refine RT_keep (by assumption) ?_ | refine RT.drew ?_ | refine RT_al ?_)))); rintro e wb ⟨rfl, hbb⟩))
    all_goals (go_wp2_with fail; go_ret; exact ⟨rfl, bThen HB10.out (by (with_reducible ((repeat' (first | exact Below.refl _ _ | refine bAlloc ?_ _ | refine bDrew ?_ | refine bThen ?_ (by assumption))); done)))⟩)
end Go.Proofs.Ytnigmpckohncoaa
