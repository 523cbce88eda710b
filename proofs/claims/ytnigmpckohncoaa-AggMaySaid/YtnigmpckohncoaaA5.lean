/- What agg.Value and agg.Add answer. -/
import Derived.Test.YtnigmpckohncoaaA4
set_option linter.unusedVariables false
set_option linter.unusedSimpArgs false
namespace Go.Proofs.Ytnigmpckohncoaa
open Go.RowKit Go.Sort YtnigmpckohncoaaW.PrintWords

theorem once_any (x : Int) (m : Int) (w : World) : Calls Try.prog 37 #[.int .i64 x, .int .u64 m] w fun e w' => e = .returned (.int .i64 x) ∧ w = w' := by
  go_enter Try.func37, Try.ntmps37
  go_wp2
  go_ret
  exact ⟨rfl, rfl⟩
theorem times_any (x : Int) (m : Int) (w : World) : Calls Try.prog 39 #[.int .i64 x, .int .u64 m] w fun e w' => e = .returned (.int .i64 (wrap64 (IntKind.u64.wrap (IntKind.u64.wrap x * m)))) ∧ w = w' := by
  go_enter Try.func39, Try.ntmps39
  go_wp2
  go_ret
  exact ⟨rfl, rfl⟩
theorem vN_any (N V : Int) (A : Option Addr) (n c : Nat) (w : World) : Calls Try.prog 38 #[.agg #[.int .u64 N, .int .i64 V, .slice A n c]] w fun e w' => e = .returned (.int .i64 (wrap64 N)) ∧ Below w.heap.size w w' := by
  go_enter Try.func38, Try.ntmps38
  go_wp2
  go_ret
  exact ⟨rfl, bAlloc (Below.refl _ _) _⟩
theorem vV_any (N V : Int) (A : Option Addr) (n c : Nat) (w : World) : Calls Try.prog 41 #[.agg #[.int .u64 N, .int .i64 V, .slice A n c]] w fun e w' => e = .returned (.int .i64 V) ∧ Below w.heap.size w w' := by
  go_enter Try.func41, Try.ntmps41
  go_wp2
  go_ret
  exact ⟨rfl, bAlloc (Below.refl _ _) _⟩
theorem vT_any (N V : Int) (A : Option Addr) (n c : Nat) (w : World) (hn : n ≤ 1048576) : Calls Try.prog 44 #[.agg #[.int .u64 N, .int .i64 V, .slice A n c]] w fun e w' => e = .returned (.int .i64 n) ∧ Below w.heap.size w w' := by
  go_enter Try.func44, Try.ntmps44
  go_wp2
  go_ret
  exact ⟨rfl, bAlloc (Below.refl _ _) _⟩

def manyV (k x m : Int) : Int := if k = 2 then wrap64 (IntKind.u64.wrap (IntKind.u64.wrap x * m)) else x
def valueV (k N V : Int) (n : Nat) : Int := if k = 1 then wrap64 N else if k = 5 then (n : Int) else V
def CallsAt (j : Nat) : Prop := ∀ (args : Array Value) (w : World), (callFunc j args).run Try.prog w = .ok (.enter j args) w
def ManyAt (k : Int) (j : Nat) : Prop := ∀ (x m : Int) (w : World), Calls Try.prog j #[.int .i64 x, .int .u64 m] w fun e w' => e = .returned (.int .i64 (manyV k x m)) ∧ w = w'
def ValueAt (k : Int) (j : Nat) : Prop := ∀ (N V : Int) (A : Option Addr) (n c : Nat) (w : World), n ≤ 1048576 → Calls Try.prog j #[.agg #[.int .u64 N, .int .i64 V, .slice A n c]] w fun e w' => e = .returned (.int .i64 (valueV k N V n)) ∧ Below w.heap.size w w'
theorem kc_all (k : Int) (hk : 1 ≤ k ∧ k ≤ 5) : ∃ (f1 f2 : Value) (j3 : Nat), kc k = #[.bool (decide (k = 5)), f1, f2, .func (.func j3) #[] #[]] ∧ f1.oneCell' = true ∧ f2.oneCell' = true ∧
    ((f1 = .nilFunc ∧ (k = 1 ∨ k = 5)) ∨ ∃ j, f1 = .func (.func j) #[] #[] ∧ (k = 2 ∨ k = 3 ∨ k = 4) ∧ CallsAt j ∧ ManyAt k j) ∧ CallsAt j3 ∧ ValueAt k j3 := by
  have h5 : k = 1 ∨ k = 2 ∨ k = 3 ∨ k = 4 ∨ k = 5 := by omega
  rcases h5 with rfl | rfl | rfl | rfl | rfl
  · exact ⟨_, _, _, rfl, rfl, rfl, .inl ⟨rfl, .inl rfl⟩, Try.call38, fun N V A n c w _ => vN_any N V A n c w⟩
  · exact ⟨_, _, _, rfl, rfl, rfl, .inr ⟨39, rfl, .inl rfl, Try.call39, fun x m w => times_any x m w⟩, Try.call41, fun N V A n c w _ => vV_any N V A n c w⟩
  · exact ⟨_, _, _, rfl, rfl, rfl, .inr ⟨37, rfl, .inr (.inl rfl), Try.call37, fun x m w => once_any x m w⟩, Try.call41, fun N V A n c w _ => vV_any N V A n c w⟩
  · exact ⟨_, _, _, rfl, rfl, rfl, .inr ⟨37, rfl, .inr (.inr rfl), Try.call37, fun x m w => once_any x m w⟩, Try.call41, fun N V A n c w _ => vV_any N V A n c w⟩
  · exact ⟨_, _, _, rfl, rfl, rfl, .inl ⟨rfl, .inr rfl⟩, Try.call44, fun N V A n c w h => vT_any N V A n c w h⟩

set_option maxRecDepth 100000 in
set_option maxHeartbeats 4000000 in
theorem value_any (k c N V : Int) (A : Option Addr) (n ca : Nat) (w : World) (hk : 1 ≤ k ∧ k ≤ 5) (hn : n ≤ 1048576) :
    Calls Try.prog 11 #[.agg #[.int .i64 k, .int .i64 c], .agg #[.int .u64 N, .int .i64 V, .slice A n ca]] w fun e w' => e = .returned (.int .i64 (valueV k N V n)) ∧ Below w.heap.size w w' := by
  obtain ⟨f1, f2, j3, hkc, h1c, h2c, hf1, hcl, hv⟩ := kc_all k hk
  have HC := Lib.hid (known_any k c hk)
  have HK := Lib.hid hkc
  have HV := Lib.hid hv
  clear hkc hf1 hv
  have hcl' : ∀ (args : Array Value) (w : World), (callFunc j3 args).run Try.prog w = .ok (.enter j3 args) w := hcl
  clear hcl
  go_enter Try.func11, Try.ntmps11
  go_wp2_with fail
  go_at_call 20
  refine (HC.out _).mono ?_
  rw [HK.out]
  rintro e w1 ⟨rfl, hb⟩
  obtain ⟨hz, HBw, e0, e1⟩ := boxes2 hb
  have hz0 : w.heap.size < w1.heap.size := by omega
  obtain ⟨q10, q11, q12⟩ := blk3 e1
  have HB := Lib.hid HBw
  clear hb HBw e0 e1
  have s1 : ∀ (w : World) (a : Addr) (m : Mode), (store a f1 m).run Try.prog w = stored Try.prog w a f1 m := fun w a m => run_store _ _ _ _ _ h1c
  have s2 : ∀ (w : World) (a : Addr) (m : Mode), (store a f2 m).run Try.prog w = stored Try.prog w a f2 m := fun w a m => run_store _ _ _ _ _ h2c
  clear h1c h2c
  go_wp2_with fail
  refine ((HV.out) N V A n ca _ hn).mono ?_
  rintro e w2 ⟨rfl, hb2⟩
  go_wp2_with fail
  go_ret
  exact ⟨rfl, bThen (bAlloc HB.out _) hb2⟩

theorem ret3 {r : PV} {w w4 : World} {A2 : Option Addr} {c2 : Nat} (hlt : w.heap.size ≤ w.heap.size + 1 + 1 + 1)
    (e : w4.heap[w.heap.size + 1 + 1 + 1]? = some (.cells #[.int .u64 0, .int .i64 0, .slice none 0 0] 33))
    (hr : RT w4 A2 r.xs.length r.xs) (h1 : Below w.heap.size w w4) (hc : r.xs.length ≤ c2) :
    RetP w r (.returned (.agg #[.int .u64 r.n, .int .i64 r.v, .slice A2 r.xs.length c2]))
      (((w4.setCell ⟨w.heap.size + 1 + 1 + 1, 0, none⟩ (.int .u64 r.n)).setCell ⟨w.heap.size + 1 + 1 + 1, 1, none⟩ (.int .i64 r.v)).setCell ⟨w.heap.size + 1 + 1 + 1, 2, none⟩ (.slice A2 r.xs.length c2)) := by
  have b0 : Blk w4 (w.heap.size + 1 + 1 + 1) 33 #[.int .u64 0, .int .i64 0, .slice none 0 0] := e
  have b1 := b0.set_ 0 (.int .u64 r.n)
  have b2 := b1.set_ 1 (.int .i64 r.v)
  refine ⟨A2, c2, rfl, hc, ?_, bSet (bSet (bSet h1 hlt _) hlt _) hlt _⟩
  refine ((hr.setCell (b0.cell 0) (by intro s; simp) _).setCell (b1.cell 1) (by intro s; simp) _).setCell (b2.cell 2) (by intro s; simp) _

set_option maxRecDepth 100000 in
set_option maxHeartbeats 4000000 in
/-- A fact no times. -/
theorem add_zero (k c N V t : Int) (A D E : Option Addr) (n ca nd cd ne ce : Nat) (xs : List ByteArray) (w : World) (hk : 1 ≤ k ∧ k ≤ 5) (hx : RT w A n xs) (hn : n ≤ 1048576) (hN : 0 ≤ N) :
    Calls Try.prog 16 #[.agg #[.int .i64 k, .int .i64 c], .agg #[.int .u64 N, .int .i64 V, .slice A n ca], .agg #[.int .i64 t, .slice D nd cd, .slice E ne ce], .int .u64 0] w (RetP w (mergeP k ⟨N, V, xs⟩ ⟨0, 0, []⟩)) := by
  obtain ⟨f1, f2, j3, hkc, h1c, h2c, hf1, hcl, hv⟩ := kc_all k hk
  have HC := Lib.hid (known_any k c hk)
  have HK := Lib.hid hkc
  have HX := Lib.hid hx
  clear hkc hf1 hv hcl hx
  go_enter Try.func16, Try.ntmps16
  go_wp2_with fail
  go_at_call 20
  refine (HC.out _).mono ?_
  rw [HK.out]
  rintro e w1 ⟨rfl, hb⟩
  obtain ⟨hz, HBw, e0, e1, e2, e3⟩ := boxes4 hb
  have hz0 : w.heap.size < w1.heap.size := by omega
  have hz1 : w.heap.size + 1 < w1.heap.size := by omega
  obtain ⟨q00, q01⟩ := blk2 e0
  obtain ⟨q10, q11, q12⟩ := blk3 e1
  have HB := Lib.hid HBw
  have HE3 := Lib.hid e3
  clear hb HBw e0 e1 e2 e3
  have s1 : ∀ (w : World) (a : Addr) (m : Mode), (store a f1 m).run Try.prog w = stored Try.prog w a f1 m := fun w a m => run_store _ _ _ _ _ h1c
  have s2 : ∀ (w : World) (a : Addr) (m : Mode), (store a f2 m).run Try.prog w = stored Try.prog w a f2 m := fun w a m => run_store _ _ _ _ _ h2c
  clear h1c h2c
  go_wp2_with fail
  go_at_call 13
  refine (merge_all k c N V 0 0 A none n 0 ca 0 xs [] _ hk ((HX.out.below HB.out).below (bAlloc (Below.refl _ _) _)) (RT.nil_ _ _) (by omega) hN (by omega)).mono ?_
  rintro e w3 ⟨A4, c4, rfl, hc4, hr4, hb4⟩
  obtain ⟨hz5, hb5, e5⟩ := boxes1 hb4
  have f3 := (hb5.block _ hz).trans HE3.out
  obtain ⟨y30, y31, y32⟩ := blk3 f3
  obtain ⟨x30, x31, x32⟩ := frz3 f3
  have HF3 := Lib.hid f3
  have HR4 := Lib.hid hr4
  have HB5 := Lib.hid (bThen HB.out hb5)
  clear hb4 hb5 e5 f3 hr4
  go_wp2_with fail
  refine bodyPost_ret (results_cell_row rfl _ _ (w.heap.size + 1 + 1 + 1) 33 _ (0, 0) _ rfl (set3 HF3.out _ _ _) Try.underlying33 rfl (by kernel_rfl)) rfl ?_
  exact ret3 (by omega) HF3.out HR4.out HB5.out hc4
theorem bUndrew {w w' : World} (h : Below w.drew.heap.size w.drew w') : Below w.heap.size w w' := ⟨h.os, h.tape, h.output, h.size, h.block⟩
theorem int_at {w : World} {A : Option Addr} {n : Nat} {xs : List Int} (h : Kd.C (Kd.int .i64) w A n xs) (c : Int) (h0 : 0 ≤ c) (h1 : c < (n : Int)) : ∃ ad, A = some ad ∧ w.cell? (ad.add c.toNat) = some (.int .i64 (xs.getD c.toNat 0)) := by
  obtain ⟨ad, e, hc⟩ := h.2.2 (by omega)
  have hl : c.toNat < xs.length := by rw [h.1]; omega
  refine ⟨ad, e, ?_⟩
  obtain ⟨cs, _, hk, hcell⟩ := hc c.toNat _ (List.getElem?_eq_getElem hl)
  have hk' : cs = [.int .i64 (xs[c.toNat])] := hk
  subst hk'
  have := hcell 0 _ rfl
  rw [List.getD_eq_getElem?_getD, List.getElem?_eq_getElem hl]
  simpa [show (Kd.int .i64).sz = 1 from rfl] using this
theorem nf53 (w : World) : (binOp .neq 53 .nilFunc .nilFunc).run Try.prog w = .ok (.bool false) w := by kernel_rfl
theorem nf53' (w : World) (j : Nat) : (binOp .neq 53 (.func (.func j) #[] #[]) .nilFunc).run Try.prog w = .ok (.bool true) w := by kernel_rfl
set_option maxRecDepth 100000 in
set_option maxHeartbeats 8000000 in
theorem add_count (c N V t m : Int) (A D E : Option Addr) (n ca nd cd ne ce : Nat) (xs : List ByteArray) (w : World) (hm : m ≠ 0) (hm0 : 0 ≤ m) (hx : RT w A n xs) (hn : n + 1 ≤ 1048576) (hN : 0 ≤ N) :
    Calls Try.prog 16 #[.agg #[.int .i64 1, .int .i64 c], .agg #[.int .u64 N, .int .i64 V, .slice A n ca], .agg #[.int .i64 t, .slice D nd cd, .slice E ne ce], .int .u64 m] w (RetP w (mergeP 1 ⟨N, V, xs⟩ ⟨m, 0, []⟩)) := by
  have hk : 1 ≤ (1 : Int) ∧ (1 : Int) ≤ 5 := by omega
  have hmm : (m == 0) = false := beq_eq_false_iff_ne.2 hm
  obtain ⟨f1, f2, j3, hkc, h1c, h2c, hf1, hcl, hv⟩ := kc_all 1 hk
  obtain ⟨rfl, _⟩ | ⟨j, rfl, h234, _⟩ := hf1
  rotate_left
  · omega
  have n53 := nf53
  have HC := Lib.hid (known_any 1 c hk)
  have HK := Lib.hid hkc
  have HX := Lib.hid hx
  clear hkc hv hcl hx hm
  go_enter Try.func16, Try.ntmps16
  go_wp2_with fail
  go_at_call 20
  refine (HC.out _).mono ?_
  rw [HK.out]
  rintro e w1 ⟨rfl, hb⟩
  obtain ⟨hz, HBw, e0, e1, e2, e3⟩ := boxes4 hb
  have hz0 : w.heap.size < w1.heap.size := by omega
  have hz1 : w.heap.size + 1 < w1.heap.size := by omega
  have hz2 : w.heap.size + 1 + 1 < w1.heap.size := by omega
  obtain ⟨q00, q01⟩ := blk2 e0
  obtain ⟨q10, q11, q12⟩ := blk3 e1
  obtain ⟨q20, q21, q22⟩ := blk3 e2
  have HB := Lib.hid HBw
  have HE3 := Lib.hid e3
  clear hb HBw e0 e1 e2 e3
  have s2 : ∀ (w : World) (a : Addr) (m : Mode), (store a f2 m).run Try.prog w = stored Try.prog w a f2 m := fun w a m => run_store _ _ _ _ _ h2c
  clear h1c h2c
  go_wp2_with fail
  go_at_call 13
  refine (merge_all 1 c N V m 0 A none n 0 ca 0 xs [] _ hk (((HX.out.below HB.out).below (bAlloc (Below.refl _ _) _)).below (bAlloc (Below.refl _ _) _)) (RT.nil_ _ _) (by omega) hN hm0).mono ?_
  rintro e w3 ⟨A4, c4, rfl, hc4, hr4, hb4⟩
  obtain ⟨hz5, hb5, e5, e6⟩ := boxes2 hb4
  have f3 := (hb5.block _ hz).trans HE3.out
  obtain ⟨y30, y31, y32⟩ := blk3 f3
  obtain ⟨x30, x31, x32⟩ := frz3 f3
  have HF3 := Lib.hid f3
  have HR4 := Lib.hid hr4
  have HB5 := Lib.hid (bThen HB.out hb5)
  clear hb4 hb5 e5 e6 f3 hr4
  go_wp2_with fail
  refine bodyPost_ret (results_cell_row rfl _ _ (w.heap.size + 1 + 1 + 1) 33 _ (0, 0) _ rfl (set3 HF3.out _ _ _) Try.underlying33 rfl (by kernel_rfl)) rfl ?_
  exact ret3 (by omega) HF3.out HR4.out HB5.out hc4

set_option maxRecDepth 100000 in
set_option maxHeartbeats 8000000 in
theorem add_distinct (c N V t m : Int) (A D E : Option Addr) (n ca nd cd ne ce : Nat) (xs : List ByteArray) (ds : List ByteArray) (w : World) (hm : m ≠ 0) (hm0 : 0 ≤ m) (hx : RT w A n xs) (hn : n + 1 ≤ 1048576) (hN : 0 ≤ N) (hd : RT w D nd ds) (h0 : 0 ≤ c) (h1 : c < (nd : Int)):
    Calls Try.prog 16 #[.agg #[.int .i64 5, .int .i64 c], .agg #[.int .u64 N, .int .i64 V, .slice A n ca], .agg #[.int .i64 t, .slice D nd cd, .slice E ne ce], .int .u64 m] w (RetP w (mergeP 5 ⟨N, V, xs⟩ ⟨m, 0, [ds.getD c.toNat ⟨#[]⟩]⟩)) := by
  have hk : 1 ≤ (5 : Int) ∧ (5 : Int) ≤ 5 := by omega
  have hmm : (m == 0) = false := beq_eq_false_iff_ne.2 hm
  obtain ⟨f1, f2, j3, hkc, h1c, h2c, hf1, hcl, hv⟩ := kc_all 5 hk
  obtain ⟨rfl, _⟩ | ⟨j, rfl, h234, _⟩ := hf1
  rotate_left
  · omega
  have n53 := nf53
  have hbl : w.heap.size = w.heap.size := rfl
  clear hbl
  have hcn : c.toNat < nd := by omega
  obtain ⟨ad, hD, hcells⟩ := hd.at_ (by omega)
  have hds : ds[c.toNat]? = some (ds.getD c.toNat ⟨#[]⟩) := by
    have hl : c.toNat < ds.length := by rw [hd.len]; exact hcn
    rw [List.getD_eq_getElem?_getD, List.getElem?_eq_getElem hl]; rfl
  have hcell := hcells _ _ hds
  subst hD
  have HCell := Lib.hid hcell
  clear hcells hcell hds hd
  obtain ⟨sx, hsx⟩ : ∃ sx, sx = ds.getD c.toNat ⟨#[]⟩ := ⟨_, rfl⟩
  rw [← hsx] at HCell ⊢
  clear hsx
  have HC := Lib.hid (known_any 5 c hk)
  have HK := Lib.hid hkc
  have HX := Lib.hid hx
  clear hkc hv hcl hx hm
  go_enter Try.func16, Try.ntmps16
  go_wp2_with fail
  go_at_call 20
  refine (HC.out _).mono ?_
  rw [HK.out]
  rintro e w1 ⟨rfl, hb⟩
  obtain ⟨hz, HBw, e0, e1, e2, e3⟩ := boxes4 hb
  have hz0 : w.heap.size < w1.heap.size := by omega
  have hz1 : w.heap.size + 1 < w1.heap.size := by omega
  have hz2 : w.heap.size + 1 + 1 < w1.heap.size := by omega
  have hy01 : w.heap.size < w1.heap.size + 1 := by omega
  have hy02 : w.heap.size < w1.heap.size + 1 + 1 := by omega
  have hy11 : w.heap.size + 1 < w1.heap.size + 1 := by omega
  have hy12 : w.heap.size + 1 < w1.heap.size + 1 + 1 := by omega
  have hy21 : w.heap.size + 1 + 1 < w1.heap.size + 1 := by omega
  have hy22 : w.heap.size + 1 + 1 < w1.heap.size + 1 + 1 := by omega
  obtain ⟨q00, q01⟩ := blk2 e0
  obtain ⟨q10, q11, q12⟩ := blk3 e1
  obtain ⟨q20, q21, q22⟩ := blk3 e2
  have HB := Lib.hid HBw
  have HE3 := Lib.hid e3
  clear hb HBw e0 e1 e2 e3
  have s2 : ∀ (w : World) (a : Addr) (m : Mode), (store a f2 m).run Try.prog w = stored Try.prog w a f2 m := fun w a m => run_store _ _ _ _ _ h2c
  clear h1c h2c
  have hce : w1.cell? (ad.add c.toNat) = some (.string sx) := pw_cell_below HB.out HCell.out
  have hl0 : (ad.add c.toNat).block < w1.heap.size := World.block_lt_of_cell? _ _ hce
  have hl1 : (ad.add c.toNat).block < w1.heap.size + 1 := by omega
  go_wp2_with fail
  go_at_call 13
  refine (merge_all 5 c N V m 0 A (some ⟨w1.heap.size + 1 + 1, 0, none⟩) n 1 ca 1 xs [sx] _ hk ((((HX.out.below HB.out).below (bAlloc (Below.refl _ _) _)).below (bAlloc (Below.refl _ _) _)).below (bAlloc (Below.refl _ _) _)) (RT.mk_ rfl (by omega) fun _ => ⟨_, rfl, fun j s hj => ?_⟩) (by omega) hN hm0).mono ?_
  · have hj0 : j = 0 := by
      have := (List.getElem?_eq_some_iff.1 hj).1
      simpa using this
    subst hj0
    simp at hj
    subst hj
    simp [go_sem]
  rintro e w3 ⟨A4, c4, rfl, hc4, hr4, hb4⟩
  obtain ⟨hz5, hb5, e5, e6, e7⟩ := boxes3 hb4
  have f3 := (hb5.block _ hz).trans HE3.out
  obtain ⟨y30, y31, y32⟩ := blk3 f3
  obtain ⟨x30, x31, x32⟩ := frz3 f3
  have HF3 := Lib.hid f3
  have HR4 := Lib.hid hr4
  have HB5 := Lib.hid (bThen HB.out hb5)
  clear hb4 hb5 e5 e6 e7 f3 hr4
  go_wp2_with fail
  refine bodyPost_ret (results_cell_row rfl _ _ (w.heap.size + 1 + 1 + 1) 33 _ (0, 0) _ rfl (set3 HF3.out _ _ _) Try.underlying33 rfl (by kernel_rfl)) rfl ?_
  exact ret3 (by omega) HF3.out HR4.out HB5.out hc4

set_option maxRecDepth 100000 in
set_option maxHeartbeats 8000000 in
theorem add_many (k c N V t m : Int) (A D E : Option Addr) (n ca nd cd ne ce : Nat) (xs : List ByteArray) (es : List Int) (w : World) (hm : m ≠ 0) (hm0 : 0 ≤ m) (hx : RT w A n xs) (hn : n + 1 ≤ 1048576) (hN : 0 ≤ N) (hk3 : 2 ≤ k ∧ k ≤ 4) (he : Kd.C (Kd.int .i64) w E ne es) (h0 : 0 ≤ c) (h1 : c < (ne : Int)):
    Calls Try.prog 16 #[.agg #[.int .i64 k, .int .i64 c], .agg #[.int .u64 N, .int .i64 V, .slice A n ca], .agg #[.int .i64 t, .slice D nd cd, .slice E ne ce], .int .u64 m] w (RetP w (mergeP k ⟨N, V, xs⟩ ⟨m, manyV k (es.getD c.toNat 0) m, []⟩)) := by
  have hk : 1 ≤ (k : Int) ∧ (k : Int) ≤ 5 := by omega
  have hmm : (m == 0) = false := beq_eq_false_iff_ne.2 hm
  obtain ⟨f1, f2, j3, hkc, h1c, h2c, hf1, hcl, hv⟩ := kc_all k hk
  have hd5 : decide (k = 5) = false := decide_eq_false (by omega)
  rw [hd5] at hkc
  clear hd5
  obtain ⟨rfl, h15⟩ | ⟨j, rfl, h234, hcl2, hmany⟩ := hf1
  · omega
  have HM := Lib.hid hmany
  have hcl' : ∀ (args : Array Value) (w : World), (callFunc j args).run Try.prog w = .ok (.enter j args) w := hcl2
  clear hmany hcl2 h234
  have n53 := nf53'
  obtain ⟨ad, hE, hcell⟩ := int_at he c h0 h1
  subst hE
  have HCell := Lib.hid hcell
  clear hcell he
  obtain ⟨sx, hsx⟩ : ∃ sx, sx = es.getD c.toNat 0 := ⟨_, rfl⟩
  rw [← hsx] at HCell ⊢
  clear hsx
  have HC := Lib.hid (known_any k c hk)
  have HK := Lib.hid hkc
  have HX := Lib.hid hx
  clear hkc hv hcl hx hm
  go_enter Try.func16, Try.ntmps16
  go_wp2_with fail
  go_at_call 20
  refine (HC.out _).mono ?_
  rw [HK.out]
  rintro e w1 ⟨rfl, hb⟩
  obtain ⟨hz, HBw, e0, e1, e2, e3⟩ := boxes4 hb
  have hz0 : w.heap.size < w1.heap.size := by omega
  have hz1 : w.heap.size + 1 < w1.heap.size := by omega
  have hz2 : w.heap.size + 1 + 1 < w1.heap.size := by omega
  obtain ⟨q00, q01⟩ := blk2 e0
  obtain ⟨q10, q11, q12⟩ := blk3 e1
  obtain ⟨q20, q21, q22⟩ := blk3 e2
  have HB := Lib.hid HBw
  have HE3 := Lib.hid e3
  clear hb HBw e0 e1 e2 e3
  have s2 : ∀ (w : World) (a : Addr) (m : Mode), (store a f2 m).run Try.prog w = stored Try.prog w a f2 m := fun w a m => run_store _ _ _ _ _ h2c
  clear h1c h2c
  have hy01 : w.heap.size < w1.heap.size + 1 := by omega
  have hy02 : w.heap.size < w1.heap.size + 1 + 1 := by omega
  have hy11 : w.heap.size + 1 < w1.heap.size + 1 := by omega
  have hy12 : w.heap.size + 1 < w1.heap.size + 1 + 1 := by omega
  have hy21 : w.heap.size + 1 + 1 < w1.heap.size + 1 := by omega
  have hy22 : w.heap.size + 1 + 1 < w1.heap.size + 1 + 1 := by omega
  have hce : w1.cell? (ad.add c.toNat) = some (.int .i64 sx) := pw_cell_below HB.out HCell.out
  have hl0 : (ad.add c.toNat).block < w1.heap.size := World.block_lt_of_cell? _ _ hce
  have hl1 : (ad.add c.toNat).block < w1.heap.size + 1 := by omega
  have hl2 : (ad.add c.toNat).block < w1.heap.size + 1 + 1 := by omega
  go_upto_block 0 with (fail)
  go_cut [] (fun wx => wx = ((w1.alloc (.cells #[.bool false, .func (.func j) #[] #[], f2, .func (.func j3) #[] #[]] 57)).alloc (.cells #[.int .u64 m, .int .i64 (manyV k sx m), .slice none 0 0] 33)).drew)
  case first =>
    go_wp2_with fail
    go_region_with (refine (HM.out sx m _).mono ?_; rintro e w2 ⟨rfl, rfl⟩)
    all_goals (go_wp2_with fail; go_meet; rfl)
  case rest =>
    subst hcut
    go_wp2_with fail
    go_at_call 13
    refine (merge_all k c N V m (manyV k sx m) A none n 0 ca 0 xs [] _ hk (((HX.out.below HB.out).below (bAlloc (Below.refl _ _) _)).below (bDrew (bAlloc (Below.refl _ _) _))) (RT.nil_ _ _) (by omega) hN hm0).mono ?_
    rintro e w3 ⟨A4, c4, rfl, hc4, hr4, hb4⟩
    obtain ⟨hz5, hb5, e5, e6⟩ := boxes2 (bUndrew hb4)
    have f3 := (hb5.block _ hz).trans HE3.out
    obtain ⟨y30, y31, y32⟩ := blk3 f3
    obtain ⟨x30, x31, x32⟩ := frz3 f3
    have HF3 := Lib.hid f3
    have HR4 := Lib.hid hr4
    have HB5 := Lib.hid (bThen HB.out hb5)
    clear hb4 hb5 e5 e6 f3 hr4
    go_wp2_with fail
    refine bodyPost_ret (results_cell_row rfl _ _ (w.heap.size + 1 + 1 + 1) 33 _ (0, 0) _ rfl (set3 HF3.out _ _ _) Try.underlying33 rfl (by kernel_rfl)) rfl ?_
    exact ret3 (by omega) HF3.out HR4.out HB5.out hc4
end Go.Proofs.Ytnigmpckohncoaa
