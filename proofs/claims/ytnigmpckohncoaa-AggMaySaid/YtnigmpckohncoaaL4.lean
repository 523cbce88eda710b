/- AggMay, walked: what an aggregator has of facts may be what it has. -/
import Derived.Test.YtnigmpckohncoaaL2
import Derived.Test.YtnigmpckohncoaaP5
import Derived.Deep.RegionHeld3
import Derived.IntWalk
set_option linter.unusedVariables false
set_option linter.unusedSimpArgs false
namespace Go.Proofs.Ytnigmpckohncoaa
open Go.RowKit Go.Sort YtnigmpckohncoaaW.PrintWords PAggCounts
set_option maxHeartbeats 1000000 in
theorem isnan_any (s : ByteArray) (w : World) : Calls Try.prog 55 #[.string s] w fun e w' => e = .returned (.bool false) ∧ w = w' := by
  have h : (s.toList == s.toList) = true := beq_self_eq_true _
  have h2 : (s.toList != s.toList) = false := bne_self_eq_false _
  go_enter Try.func55, Try.ntmps55
  go_wp2
  go_ret
  exact ⟨rfl, rfl⟩
set_option maxHeartbeats 1000000 in
theorem less_no (s t : ByteArray) (w : World) (h : Op.bytesLess s.toList t.toList = false) : Calls Try.prog 34 #[.string s, .string t] w fun e w' => e = .returned (.bool false) ∧ w' = w := by
  go_enter Try.func34, Try.ntmps34
  go_wp2_with (first | (go_at_call 55; refine (isnan_any _ _).mono ?_; rintro e w' ⟨rfl, rfl⟩))
  go_ret
  exact ⟨rfl, rfl⟩
theorem up_no {xs : List ByteArray} (h : UpB xs) (m : Nat) (hm : m + 1 < xs.length) : Op.bytesLess (xs[m + 1]).toList (xs[m]).toList = false := by
  rw [less_eq]
  have h1 := List.pairwise_iff_getElem.1 h m (m + 1) (by simp; omega) (by simp; omega) (by omega)
  simp only [List.getElem_map] at h1
  exact decide_eq_false fun h2 => lt_irr _ (lt_tr h1 h2)
set_option maxRecDepth 100000 in
set_option maxHeartbeats 2000000 in
theorem sorted_any (A : Option Addr) (n c : Nat) (xs : List ByteArray) (w : World) (h : RT w A n xs) (hn : n ≤ 1048576) (hu : UpB xs) :
    Calls Try.prog 25 #[.slice A n c] w fun e w' => e = .returned (.bool true) ∧ ∃ q, w' = w.drewN q := by
  have hl : xs.length = n := h.len
  have HR := Lib.hid h
  have HU := Lib.hid hu
  clear h hu
  go_enter Try.func25, Try.ntmps25
  go_wp2_with fail
  go_loopg [3] n (fun kq v3 wr => ∃ i : Int, v3 = .int .i64 i ∧ i = (kq : Int) - 1 ∧ kq ≤ n ∧ ∃ q, wr = w.drewN q)
  case atStart => exact ⟨_, rfl, rfl, Nat.le_refl _, 0, rfl⟩
  case round =>
    obtain ⟨i, rfl, hi, hk, hq⟩ := hrel
    have HQ := Lib.hid hq
    clear hq
    by_cases h1 : 0 < i
    · obtain ⟨m, rfl⟩ : ∃ m : Nat, i = (m : Int) + 1 := ⟨i.toNat - 1, by omega⟩
      obtain ⟨ad, rfl, hcells⟩ := HR.out.at_ (by omega)
      have c1 := hcells (m + 1) _ (List.getElem?_eq_getElem (by omega))
      have c0 := hcells m _ (List.getElem?_eq_getElem (by omega))
      have HNO := Lib.hid (up_no HU.out m (by omega))
      generalize xs[m + 1] = s1 at *
      generalize xs[m] = s0 at *
      have hmn : (m : Int) + 1 < (n : Int) := by omega
      have hw : IntKind.i64.wrap ((m : Int) + 1 - 1) = (m : Int) := by rw [show (m : Int) + 1 - 1 = (m : Int) by omega]; exact IntWalk.i64_in _ (by omega)
      have c1 : wr.cell? (ad.add (m + 1)) = some (.string s1) := by obtain ⟨q, e⟩ := HQ.out; rw [e]; exact c1
      have c0 : wr.cell? (ad.add m) = some (.string s0) := by obtain ⟨q, e⟩ := HQ.out; rw [e]; exact c0
      have HI := Lib.hid hi
      have c1 : wr.cell? ⟨ad.block, ad.off + (m + 1), none⟩ = some (.string s1) := by simpa [Addr.add] using c1
      have g0 : (0 : Int) ≤ (m : Int) + 1 := by omega
      have gt : ((m : Int) + 1).toNat = m + 1 := by omega
      have g1 : (0 : Int) ≤ (m : Int) := by omega
      have g2 : (m : Int) < (n : Int) := by omega
      clear hcells hi
      go_wp2_with fail
      go_quiet ((go_at_call 34; exact Calls.quiet_of_same (less_no _ _ _ HNO.out)))
      go_wp2_with fail
      go_roundg (gk - 1)
      case measure => have := HI.out; omega
      case rel => exact ⟨_, rfl, by have := HI.out; omega, by omega, by obtain ⟨q, e⟩ := HQ.out; rw [e, World.drewN_drewN]; exact ⟨_, rfl⟩⟩
    · go_wp2_with fail
      go_ret
      exact ⟨rfl, HQ.out⟩
set_option maxHeartbeats 1000000 in
theorem long_no (s : ByteArray) (w : World) (h : s.size ≤ 64) : Calls Try.prog 27 #[.string s] w fun e w' => e = .returned (.bool false) ∧ w = w' := by
  have hd : decide (64 < (s.size : Int)) = false := decide_eq_false (by omega)
  go_enter Try.func27, Try.ntmps27
  go_wp2
  go_ret
  exact ⟨rfl, rfl⟩
set_option maxRecDepth 100000 in
set_option maxHeartbeats 2000000 in
theorem index_short (A : Option Addr) (n c : Nat) (xs : List ByteArray) (w : World) (h : RT w A n xs) (hn : n ≤ 1048576) (hs : ∀ s ∈ xs, s.size ≤ 64) :
    Calls Try.prog 35 #[.slice A n c, .func (.func 27) #[] #[]] w fun e w' => e = .returned (.int .i64 (-1)) ∧ w = w' := by
  have hl : xs.length = n := h.len
  have HR := Lib.hid h
  have HS := Lib.hid hs
  clear h hs
  go_enter Try.func35, Try.ntmps35
  go_wp2_with fail
  go_loopg [5, 8] n (fun kq v5 v8 wr => ∃ i : Nat, v8 = .int .i64 i ∧ i + kq = n ∧ wr = w)
  case atStart => exact ⟨0, rfl, by omega, rfl⟩
  case round =>
    obtain ⟨i, rfl, hi, rfl⟩ := hrel
    have HI := Lib.hid hi
    clear hi
    by_cases h1 : i < n
    · obtain ⟨ad, rfl, hcells⟩ := HR.out.at_ (by omega)
      have c1 := hcells i _ (List.getElem?_eq_getElem (by omega))
      have HL := Lib.hid (HS.out _ (List.getElem_mem (show i < xs.length by omega)))
      generalize xs[i] = s1 at *
      clear hcells
      go_wp2_with (go_at_call 27; refine (long_no _ _ HL.out).mono ?_; rintro e w' ⟨rfl, rfl⟩)
      go_roundg (gk - 1)
      case measure => have := HI.out; omega
      case rel => exact ⟨i + 1, by go_num, by have := HI.out; omega, rfl⟩
    · go_wp2_with fail
      go_ret
      exact ⟨rfl, rfl⟩
set_option maxHeartbeats 1000000 in
theorem contains_short (A : Option Addr) (n c : Nat) (xs : List ByteArray) (w : World) (h : RT w A n xs) (hn : n ≤ 1048576) (hs : ∀ s ∈ xs, s.size ≤ 64) :
    Calls Try.prog 26 #[.slice A n c, .func (.func 27) #[] #[]] w fun e w' => e = .returned (.bool false) ∧ w = w' := by
  have H := Lib.hid (index_short A n c xs w h hn hs)
  clear h hs
  go_enter Try.func26, Try.ntmps26
  go_wp2_with (go_at_call 35; refine H.out.mono ?_; rintro e w' ⟨rfl, rfl⟩)
  go_ret
  exact ⟨rfl, rfl⟩
theorem check_ok (k c : Int) (g : Nat) (w : World) (hk : 1 ≤ k ∧ k ≤ 5) (hc : 0 ≤ c ∧ c < 2) (h0 : w.cell? ⟨g, 0, none⟩ = some (.int .i64 k)) (h1 : w.cell? ⟨g, 1, none⟩ = some (.int .i64 c)) :
    Calls Try.prog 17 #[.agg #[.int .i64 2, .int .i64 2], .slice (some ⟨g, 0, none⟩) 1 1] w fun e w' => e = .returned (.int .i64 0) ∧ Below w.heap.size w w' := by
  have h := check_one k c 2 2 g w hk h0 h1
  have hw : wrongB k c 2 2 = false := by
    unfold wrongB
    rw [ite_self, decide_eq_false (by omega : ¬ c < 0), decide_eq_false (by omega : ¬ c ≥ 2)]
    simp
  rwa [hw, if_neg (by decide)] at h
set_option maxRecDepth 100000 in
set_option maxHeartbeats 4000000 in
theorem may_many (k c n v : Int) (A : Option Addr) (ca : Nat) (w : World) (hk : 1 ≤ k ∧ k ≤ 5) (hk5 : k ≠ 5) (hc : 0 ≤ c ∧ c < 2) (hv : v = 0 ∨ (n ≠ 0 ∧ k ≠ 1)) :
    Calls Try.prog 14 #[.agg #[.int .i64 2, .int .i64 2], .agg #[.int .i64 k, .int .i64 c], .agg #[.int .u64 n, .int .i64 v, .slice A 0 ca]] w fun e w' => e = .returned (.bool true) ∧ Below w.heap.size w w' := by
  have h5 : (k != 5) = true := bne_iff_ne.2 hk5
  have HV := Lib.hid hv
  have HC := Lib.hid (fun (g : Nat) (W : World) => check_ok k c g W hk hc)
  clear hv hk5 hk hc
  go_enter Try.func14, Try.ntmps14
  go_wp2_with fail
  go_at_call 17
  refine (HC.out _ _ ?_ ?_).mono ?_
  · simp [go_sem]
  · simp [go_sem]
  rintro e w1 ⟨rfl, hb⟩
  obtain ⟨hz, HBw, e0, e1, e2, e3⟩ := boxes4 hb
  have HB := Lib.hid HBw
  obtain ⟨q10, q11⟩ := blk2 e1
  obtain ⟨q20, q21, q22⟩ := blk3 e2
  clear hb HBw e0 e1 e2 e3 HC
  by_cases h0 : v = 0
  · have hv0 : (v == 0) = true := beq_iff_eq.2 h0
    clear h0
    go_wp2_with fail
    go_ret
    exact ⟨rfl, HB.out⟩
  · have hv0 : (v == 0) = false := beq_eq_false_iff_ne.2 h0
    obtain ⟨h1, h2⟩ : n ≠ 0 ∧ k ≠ 1 := by
      rcases HV.out with h | h
      · exact absurd h h0
      · exact h
    have hn0 : (n != 0) = true := bne_iff_ne.2 h1
    have hk1 : (k != 1) = true := bne_iff_ne.2 h2
    clear h0 h1 h2
    go_wp2_with fail
    go_ret
    exact ⟨rfl, HB.out⟩
set_option maxRecDepth 100000 in
set_option maxHeartbeats 4000000 in
theorem may_distinct (c n : Int) (A : Option Addr) (ca : Nat) (xs : List ByteArray) (w : World) (hc : 0 ≤ c ∧ c < 2) (hr : RT w A xs.length xs) (hca : xs.length ≤ ca) (hl : xs.length ≤ 1048576) (hu : UpB xs) (hs : ∀ s ∈ xs, s.size ≤ 64) (hf : (xs.length : Int) ≤ n) (hp : 0 < xs.length ↔ 0 < n) :
    Calls Try.prog 14 #[.agg #[.int .i64 2, .int .i64 2], .agg #[.int .i64 5, .int .i64 c], .agg #[.int .u64 n, .int .i64 0, .slice A xs.length ca]] w fun e w' => e = .returned (.bool true) ∧ Below w.heap.size w w' := by
  have HC := Lib.hid (fun (g : Nat) (W : World) => check_ok 5 c g W (by omega) hc)
  have HR := Lib.hid hr
  have HU := Lib.hid hu
  have HS := Lib.hid hs
  have HP := Lib.hid hp
  have HN := Lib.hid (compact_up_id hu)
  clear hr hu hs hp hc
  go_enter Try.func14, Try.ntmps14
  go_wp2_with fail
  go_at_call 17
  refine (HC.out _ _ ?_ ?_).mono ?_
  · simp [go_sem]
  · simp [go_sem]
  rintro e w1 ⟨rfl, hb⟩
  obtain ⟨hz, HBw, e0, e1, e2, e3⟩ := boxes4 hb
  have HB := Lib.hid HBw
  have HR1 := Lib.hid (HR.out.below HBw)
  have E2 := Lib.hid e2
  obtain ⟨q10, q11⟩ := blk2 e1
  obtain ⟨q20, q21, q22⟩ := blk3 e2
  clear hb HBw e0 e1 e2 e3 HC
  go_wp2_with fail
  go_at_call 25
  refine (sorted_any A xs.length ca xs _ HR1.out hl HU.out).mono ?_
  rintro e w2 ⟨rfl, q, rfl⟩
  go_wp2_with fail
  go_at_call 22
  refine (clone_any A xs.length ca xs _ (HR1.out.below (bDrewN (Below.refl _ _) q)) hl).mono ?_
  rintro e w3 ⟨v3, rfl, ho3, hb3⟩
  go_wp2_with fail
  go_at_call 24
  refine (compact_any _ v3 xs.length xs _ ho3 hl).mono ?_
  rw [HN.out]
  rintro e w4 ⟨A4, c4, rfl, hc4, hr4, hg4⟩
  have hb4 : Below w1.heap.size w1 w4 := Below.grown (⟨hb3.os, hb3.tape, hb3.output, hb3.size, hb3.block⟩ : Below w1.heap.size w1 w3) hg4 hb3.size (own_base ho3)
  have e4 := (hb4.block _ (by omega)).trans E2.out
  have HB4 := Lib.hid (bThen HB.out hb4)
  have HR4 := Lib.hid (HR1.out.below hb4)
  clear q10 q11 q20 q21 q22 ho3 hb3 hg4 hr4 hb4
  obtain ⟨q20, q21, q22⟩ := blk3 e4
  clear e4
  go_wp2_with fail
  go_at_call 26
  refine (contains_short A xs.length ca xs _ HR4.out hl HS.out).mono ?_
  rintro e w5 ⟨rfl, rfl⟩
  by_cases hp0 : 0 < xs.length
  · have d1 : decide (0 < (xs.length : Int)) = true := decide_eq_true (by omega)
    have d2 : decide (0 < n) = true := decide_eq_true (HP.out.1 hp0)
    go_wp2_with fail
    go_ret
    exact ⟨rfl, HB4.out⟩
  · have d1 : decide (0 < (xs.length : Int)) = false := decide_eq_false (by omega)
    have d2 : decide (0 < n) = false := decide_eq_false (fun h => hp0 (HP.out.2 h))
    go_wp2_with fail
    go_ret
    exact ⟨rfl, HB4.out⟩
theorem may_one (k c : Int) (p : PV) (A : Option Addr) (ca : Nat) (w : World) (hk : 1 ≤ k ∧ k ≤ 5) (hc : 0 ≤ c ∧ c < 2) (hf : Fine k p) (hr : RT w A p.xs.length p.xs) (hca : p.xs.length ≤ ca) (hl : p.xs.length ≤ 1048576) :
    Calls Try.prog 14 #[.agg #[.int .i64 2, .int .i64 2], .agg #[.int .i64 k, .int .i64 c], .agg #[.int .u64 p.n, .int .i64 p.v, .slice A p.xs.length ca]] w fun e w' => e = .returned (.bool true) ∧ Below w.heap.size w w' := by
  by_cases h5 : k = 5
  · have h := may_distinct c p.n A ca p.xs w hc hr hca hl hf.up hf.short hf.few (hf.some_ h5)
    rw [h5, hf.zer h5]
    exact h
  · have h := may_many k c p.n p.v A ca w hk h5 hc (hf.cnt h5)
    rw [hf.one h5]
    exact h
theorem may_zero (k c : Int) (w : World) (hk : 1 ≤ k ∧ k ≤ 5) (hc : 0 ≤ c ∧ c < 2) :
    Calls Try.prog 14 #[.agg #[.int .i64 2, .int .i64 2], .agg #[.int .i64 k, .int .i64 c], .agg #[.int .u64 0, .int .i64 0, .slice none 0 0]] w fun e w' => e = .returned (.bool true) ∧ Below w.heap.size w w' :=
  may_one k c zP none 0 w hk hc (fine_z k) (RT.nil_ _ _) (Nat.le_refl _) (by simp [zP])
set_option maxRecDepth 100000 in
set_option maxHeartbeats 8000000 in
theorem may_any (k0 c0 : Int) (A : Option Addr) (ca : Nat) (raw : List S51) (w : World) (hk0 : -9223372036854775808 ≤ k0 ∧ k0 < 9223372036854775808) (hc0 : -9223372036854775808 ≤ c0 ∧ c0 < 9223372036854775808)
    (hr : Kd.C k51 w A raw.length raw) (hca : raw.length ≤ ca) (h0 : ∀ f ∈ raw, 0 ≤ f.f1) :
    Calls Try.prog 5 #[.agg #[.int .i64 k0, .int .i64 c0], .slice A raw.length ca] w fun e w' => e = .returned (.bool true) ∧ Below w.heap.size w w' := by
  obtain ⟨k, c, hk, hcc, hright⟩ := right_some k0 c0 hk0 hc0
  obtain ⟨n, l, hf, hl40, ht⟩ := hright raw h0
  have HOK := Lib.hid (fun f (hf : f ∈ l) => tidy_okf hcc (ht f hf))
  have HFI := Lib.hid (fine_of k c hcc l (by omega) ht)
  have HLE := Lib.hid (of_le k c l)
  have HCC := Lib.hid hcc
  have HF := Lib.hid hf
  have HR := Lib.hid hr
  clear hright hf ht hr h0 hk0 hc0 hcc
  go_enter Try.func5, Try.ntmps5
  go_wp2_with fail
  go_at_call 6
  refine (awake_any _).mono ?_
  rintro e w1 ⟨rfl, hb⟩
  obtain ⟨hz, hbw, e0⟩ := boxes1 hb
  obtain ⟨q0, q1⟩ := blk2 e0
  have HB1 := Lib.hid hbw
  clear hb hbw e0
  go_wp2_with fail
  go_at_call 7
  refine (gristmilllaw06_right.calls n k0 c0 A ca raw 2 2 k c l _ (Kd.C_below HR.out HB1.out) hca HF.out).mono ?_
  rintro e w2 ⟨v4, rfl, hv, hb2⟩
  obtain ⟨A4, c4, rfl, hc4, hr4⟩ := Kd.R_reads (Kd.S_R hv)
  have HB2 := Lib.hid (bAlloc (bAlloc (bThen HB1.out hb2) (.cells #[.int .i64 2, .int .i64 2] 27)) (.cells #[.int .i64 k, .int .i64 c] 23))
  have HR4 := Lib.hid (C_al (C_al hr4 (.cells #[.int .i64 2, .int .i64 2] 27)) (.cells #[.int .i64 k, .int .i64 c] 23))
  have b2 : Blk ((w2.alloc (.cells #[.int .i64 2, .int .i64 2] 27)).alloc (.cells #[.int .i64 k, .int .i64 c] 23)) w2.heap.size 27 #[.int .i64 2, .int .i64 2] := Blk.alloc (heap_alloc_last _ _) _
  have b3 : Blk ((w2.alloc (.cells #[.int .i64 2, .int .i64 2] 27)).alloc (.cells #[.int .i64 k, .int .i64 c] 23)) (w2.heap.size + 1) 23 #[.int .i64 k, .int .i64 c] := row_new1 _ _ _
  have E2 := Lib.hid b2
  have E3 := Lib.hid b3
  clear hv hb2 hr4 q0 q1 b2 b3
  go_wp2_with fail
  go_at_call 8
  generalize (w2.alloc (.cells #[.int .i64 2, .int .i64 2] 27)).alloc (.cells #[.int .i64 k, .int .i64 c] 23) = w3 at *
  refine (of_any k c A4 c4 l _ hk HR4.out (by omega) HOK.out).mono ?_
  generalize ofP k c l = p at *
  rintro e w4 ⟨A5, c5, rfl, hc5, hr5, hb3⟩
  have b2 := Blk.alloc (Blk.below E2.out hb3 (Blk.lt E2.out)) (.cells #[.int .u64 p.n, .int .i64 p.v, .slice A5 p.xs.length c5] 33)
  have b3 := Blk.alloc (Blk.below E3.out hb3 (Blk.lt E3.out)) (.cells #[.int .u64 p.n, .int .i64 p.v, .slice A5 p.xs.length c5] 33)
  have b4 : Blk (w4.alloc (.cells #[.int .u64 p.n, .int .i64 p.v, .slice A5 p.xs.length c5] 33)) w4.heap.size 33 #[.int .u64 p.n, .int .i64 p.v, .slice A5 p.xs.length c5] := heap_alloc_last _ _
  have HB4 := Lib.hid (bAlloc (bThen HB2.out hb3) (.cells #[.int .u64 p.n, .int .i64 p.v, .slice A5 p.xs.length c5] 33))
  have HR5 := Lib.hid (RT_al (o := .cells #[.int .u64 p.n, .int .i64 p.v, .slice A5 p.xs.length c5] 33) hr5)
  clear hb3 hr5
  go_wp2_with fail
  generalize w4.alloc (.cells #[.int .u64 p.n, .int .i64 p.v, .slice A5 p.xs.length c5] 33) = w5 at *
  obtain ⟨q0, q1⟩ := blk2 b2
  obtain ⟨x0, x1⟩ := blk2 b3
  obtain ⟨y0, y1, y2⟩ := blk3 b4
  have hx := Blk.lt b2
  have hy := Blk.lt b3
  have hz5 := Blk.lt b4
  clear b2 b3 b4 E2 E3 HB1 HB2 HR HF HR4 HOK
  have hle : p.xs.length ≤ 1048576 := by have := HLE.out; omega
  have tok1 : True := trivial
  have hfld : ∀ (W : World), (Instr.field 33 (.agg #[.int .u64 0, .int .i64 0, .slice none 0 0]) 0).run Try.prog W = .ok (.int .u64 0) W := fun _ => by kernel_rfl
  go_region_held3 (fun w' => w'.cell? ⟨w2.heap.size, 0, none⟩ = some (.int .i64 2) ∧ w'.cell? ⟨w2.heap.size, 1, none⟩ = some (.int .i64 2) ∧ w'.cell? ⟨w2.heap.size + 1, 0, none⟩ = some (.int .i64 k) ∧ w'.cell? ⟨w2.heap.size + 1, 1, none⟩ = some (.int .i64 c) ∧ w'.cell? ⟨w4.heap.size, 0, none⟩ = some (.int .u64 p.n) ∧ w'.cell? ⟨w4.heap.size, 1, none⟩ = some (.int .i64 p.v) ∧ w'.cell? ⟨w4.heap.size, 2, none⟩ = some (.slice A5 p.xs.length c5))
    ((refine ⟨?_, ?_, ?_, ?_, ?_, ?_, ?_⟩ <;> (with_reducible ((repeat' (first | assumption | refine cell_al ?_ | refine cell_drew ?_ | refine cell_keep (by assumption) ?_)); done))))
    (first
      | (go_at_call 14; have _t := tok1; refine (may_one k c p A5 c5 _ hk HCC.out HFI.out ?_ hc5 hle).mono ?_; (focus (with_reducible (repeat' (first | exact HR5.out | refine RT_keep (by assumption) ?_ | refine RT.drew ?_)))); rintro e wa ⟨rfl, hba⟩; clear tok1)
      | (go_at_call 14; refine (may_zero k c _ hk HCC.out).mono ?_; rintro e wb ⟨rfl, hbb⟩)
      | (go_at_call 15; refine (start_any _ _ _).mono ?_; rintro e wd ⟨rfl, hbd⟩))
  all_goals (go_wp2_with fail; go_ret; exact ⟨rfl, bThen HB4.out (by with_reducible ((repeat' (first | exact Below.refl _ _ | refine bDrew ?_ | refine bThen ?_ (by assumption))); done))⟩)
end Go.Proofs.Ytnigmpckohncoaa
