/- What a dictionary tells: how many texts, a number's text, a text's place, a beginning's numbers. -/
import Derived.Test.YtkbbbeklgpgolaaDP
import Derived.Test.YtkbbbeklgpgolaaD1
import Derived.IntWalk
import Derived.Deep.RegionHeld3
set_option linter.unusedVariables false
set_option linter.unusedSimpArgs false
namespace Go.Proofs.Ytkbbbeklgpgolaa
open Go.RowKit Go.Sort Go.Proofs.YtkbbbeklgpgolaaW.PrintWords Pref

/-- A dictionary that lies in memory. -/
def DictAt (w : World) (d : Nat) (l : List ByteArray) : Prop := ∃ A c, w.heap[d]? = some (.cells #[.slice A l.length c] 52 (0, 0)) ∧ l.length ≤ c ∧ RT w A l.length l
theorem dict_lt {w : World} {d : Nat} {l : List ByteArray} (h : DictAt w d l) : d < w.heap.size := by
  obtain ⟨A, c, h, _⟩ := h
  exact Blk.lt (t := 52) h
theorem DictAt.below {w w1 : World} {d : Nat} {l : List ByteArray} (h : DictAt w d l) (hb : Below w.heap.size w w1) : DictAt w1 d l := by
  have hd := dict_lt h
  obtain ⟨A, c, h, hc, hr⟩ := h
  exact ⟨A, c, (hb.block _ hd).trans h, hc, hr.below hb⟩
abbrev dptr (d : Nat) : Value := .pointer (some ⟨d, 0, none⟩)
set_option maxHeartbeats 1000000 in
theorem len_any (d : Nat) (l : List ByteArray) (w : World) (h : DictAt w d l) :
    Calls Try.prog 13 #[dptr d] w fun e w' => e = .returned (.int .i64 l.length) ∧ w = w' := by
  have hd := dict_lt h
  obtain ⟨A, c, hb, hc, hr⟩ := h
  have q0 := blk1 hb
  clear hb hr
  go_enter Try.func13, Try.ntmps13
  go_wp2
  go_ret
  exact ⟨rfl, rfl⟩
/-- The text of a number that a dictionary has. -/
theorem text_in (d : Nat) (l : List ByteArray) (i : Nat) (w : World) (h : DictAt w d l) (hi : i < l.length) :
    Calls Try.prog 14 #[dptr d, .int .i64 i] w fun e w' => e = .returned (.tuple #[.string l[i], .bool true]) ∧ w = w' := by
  have HL := Lib.hid (len_any d l w h)
  obtain ⟨A, c, hb, hc, hr⟩ := h
  have q0 := blk1 hb
  obtain ⟨ad, rfl, hcells⟩ := hr.at_ (by omega)
  have c1 := hcells i _ (List.getElem?_eq_getElem hi)
  generalize l[i] = s1 at *
  clear hb hr hcells
  go_enter Try.func14, Try.ntmps14
  go_wp2_with ((go_at_call 13); refine HL.out.mono ?_; rintro e w' ⟨rfl, rfl⟩)
  go_ret2
  exact ⟨rfl, rfl⟩
/-- A number that it hasn't. -/
theorem text_out (d : Nat) (l : List ByteArray) (i : Int) (w : World) (h : DictAt w d l) (hi : i < 0 ∨ (l.length : Int) ≤ i) :
    Calls Try.prog 14 #[dptr d, .int .i64 i] w fun e w' => e = .returned (.tuple #[.string ⟨#[]⟩, .bool false]) ∧ w = w' := by
  have HL := Lib.hid (len_any d l w h)
  clear h
  by_cases h0 : i < 0
  · clear hi
    go_enter Try.func14, Try.ntmps14
    go_wp2_with ((go_at_call 13); refine HL.out.mono ?_; rintro e w' ⟨rfl, rfl⟩)
    go_ret2
    exact ⟨rfl, rfl⟩
  · have h1 : (l.length : Int) ≤ i := by omega
    clear hi
    go_enter Try.func14, Try.ntmps14
    go_wp2_with ((go_at_call 13); refine HL.out.mono ?_; rintro e w' ⟨rfl, rfl⟩)
    go_ret2
    exact ⟨rfl, rfl⟩
set_option maxRecDepth 100000 in
set_option maxHeartbeats 2000000 in
/-- 'd.l[i] >= text', the captured variables in the blocks b and c. -/
theorem geq_any (d b g : Nat) (l : List ByteArray) (s : ByteArray) (i : Nat) (W : World) (h : DictAt W d l) (hi : i < l.length) (hb : W.cell? ⟨b, 0, none⟩ = some (dptr d)) (hg : W.cell? ⟨g, 0, none⟩ = some (.string s)) :
    Calls Try.prog 42 #[.int .i64 i, .pointer (some ⟨b, 0, none⟩), .pointer (some ⟨g, 0, none⟩)] W fun e w' => e = .returned (.bool !(Op.bytesLess (l.getD i ByteArray.empty).toList s.toList)) ∧ ∃ q, w' = W.drewN q := by
  obtain ⟨A, c, hbk, hc, hr⟩ := h
  have q0 := blk1 hbk
  obtain ⟨ad, rfl, hcells⟩ := hr.at_ (by omega)
  have c1 := hcells i _ (List.getElem?_eq_getElem hi)
  have e1 : l.getD i ByteArray.empty = l[i] := by simp [List.getD_eq_getElem?_getD, List.getElem?_eq_getElem hi]
  rw [e1]
  generalize l[i] = s1 at *
  have g1 : (0 : Int) ≤ (i : Int) := by omega
  have g2 : (i : Int) < (l.length : Int) := by omega
  clear hbk hr hcells e1
  go_enter Try.func42, Try.ntmps42
  go_wp2_with fail
  go_quiet (fail)
  go_wp2_with fail
  go_ret
  exact ⟨rfl, _, rfl⟩
theorem cellD {w : World} {a : Addr} {v : Value} (h : w.cell? a = some v) : w.drew.cell? a = some v := h
theorem cellK {w w1 : World} {a : Addr} {v : Value} (hb : Below w.heap.size w w1) (h : w.cell? a = some v) : w1.cell? a = some v := (hb.cell (World.block_lt_of_cell? w _ h)).trans h
theorem below_grow (w : World) (q : Nat) (os : Array Obj) : RowKit.Below w.heap.size w (grow (w.drewN q) os) := below_grown_sl _ _ _ _ (Nat.le_refl _)
theorem less_mono {l : List ByteArray} (h : UpB l) (s : ByteArray) (a b : Nat) (hab : a ≤ b) (hb : b < l.length) (hp : (!(Op.bytesLess (l.getD a ByteArray.empty).toList s.toList)) = true) : (!(Op.bytesLess (l.getD b ByteArray.empty).toList s.toList)) = true := by
  have ea : l.getD a ByteArray.empty = l[a] := by simp [List.getD_eq_getElem?_getD, List.getElem?_eq_getElem (show a < l.length by omega)]
  have eb : l.getD b ByteArray.empty = l[b] := by simp [List.getD_eq_getElem?_getD, List.getElem?_eq_getElem hb]
  rw [ea, less_eq, Bool.not_eq_true', decide_eq_false_iff_not] at hp
  rw [eb, less_eq, Bool.not_eq_true', decide_eq_false_iff_not]
  rcases Nat.lt_or_eq_of_le hab with hlt | rfl
  · have h1 := List.pairwise_iff_getElem.1 h a b (by simp; omega) (by simp; omega) hlt
    simp only [List.getElem_map] at h1
    exact fun h2 => hp (lt_tr h1 h2)
  · exact hp
set_option maxRecDepth 100000 in
set_option maxHeartbeats 2000000 in
/-- A text's place. -/
theorem from_any (d : Nat) (l : List ByteArray) (s : ByteArray) (w : World) (h : DictAt w d l) (hu : UpB l) (hl : l.length < 4611686018427387904) :
    Calls Try.prog 17 #[dptr d, .string s] w fun e w' => e = .returned (.int .i64 (low l s : Nat)) ∧ Below w.heap.size w w' := by
  have HS : ∀ W : World, Below w.heap.size w W → W.cell? ⟨w.heap.size, 0, none⟩ = some (dptr d) → W.cell? ⟨w.heap.size + 1, 0, none⟩ = some (.string s) →
      Calls Try.prog 39 #[.int .i64 l.length, .func (.func 42) #[] #[.pointer (some ⟨w.heap.size, 0, none⟩), .pointer (some ⟨w.heap.size + 1, 0, none⟩)]] W fun e w' => e = .returned (.int .i64 (low l s : Nat)) ∧ Below W.heap.size W w' := by
    intro W hb c1 c2
    have h1 := Try.sort_Search 42 #[.pointer (some ⟨w.heap.size, 0, none⟩), .pointer (some ⟨w.heap.size + 1, 0, none⟩)] l.length (fun i => !(Op.bytesLess (l.getD i ByteArray.empty).toList s.toList)) W Try.call42 hl
      (fun m os i hi => by
        have hg := below_grow W m os
        refine (geq_any d w.heap.size (w.heap.size + 1) l s i _ ((h.below hb).below hg) hi ((hg.cell (World.block_lt_of_cell? _ _ c1)).trans c1) ((hg.cell (World.block_lt_of_cell? _ _ c2)).trans c2)).mono ?_
        rintro e w' ⟨rfl, q, rfl⟩
        exact ⟨rfl, q, #[], (grow_empty _).symm⟩)
      (less_mono hu s)
    refine h1.mono ?_
    rintro e w' ⟨rfl, q, os, rfl⟩
    refine ⟨?_, below_grow W q os⟩
    simp only [Bool.not_not]
    rw [low_count hu s]
  have HSS := Lib.hid HS
  have HL := Lib.hid (fun W (hb : Below w.heap.size w W) => len_any d l W (h.below hb))
  clear h HS
  go_enter Try.func17, Try.ntmps17
  go_wp2_with fail
  refine (HL.out _ (bAlloc (bAlloc (Below.refl _ _) _) _)).mono ?_
  rintro e w' ⟨rfl, rfl⟩
  go_wp2_with fail
  refine (HSS.out _ (bAlloc (bAlloc (Below.refl _ _) _) _) (by simp [go_sem]) (by simp [go_sem])).mono ?_
  rintro e w2 ⟨rfl, hb2⟩
  go_wp2_with fail
  go_ret
  exact ⟨rfl, bThen (bAlloc (bAlloc (Below.refl _ _) _) _) hb2⟩
set_option maxRecDepth 100000 in
set_option maxHeartbeats 2000000 in
/-- '!strings.HasPrefix(d.l[lo+i], prefix)', the captured variables in the blocks b, c and g. -/
theorem nopre_any (d b c g lo : Nat) (l : List ByteArray) (s : ByteArray) (i : Nat) (W : World) (h : DictAt W d l) (hl : l.length < 4611686018427387904) (hi : lo + i < l.length) (hb : W.cell? ⟨b, 0, none⟩ = some (dptr d)) (hc : W.cell? ⟨c, 0, none⟩ = some (.int .i64 lo)) (hg : W.cell? ⟨g, 0, none⟩ = some (.string s)) :
    Calls Try.prog 40 #[.int .i64 i, .pointer (some ⟨b, 0, none⟩), .pointer (some ⟨c, 0, none⟩), .pointer (some ⟨g, 0, none⟩)] W fun e w' => e = .returned (.bool !(hp s (l.getD (lo + i) ByteArray.empty))) ∧ ∃ q, w' = W.drewN q := by
  obtain ⟨A, ca, hbk, hca, hr⟩ := h
  have q0 := blk1 hbk
  obtain ⟨ad, rfl, hcells⟩ := hr.at_ (by omega)
  have c1 := hcells (lo + i) _ (List.getElem?_eq_getElem hi)
  have e1 : l.getD (lo + i) ByteArray.empty = l[lo + i] := by simp [List.getD_eq_getElem?_getD, List.getElem?_eq_getElem hi]
  rw [e1]
  generalize l[lo + i] = s1 at *
  have HP : ∀ W : World, Calls Try.prog 41 #[.string s1, .string s] W fun e w' => e = .returned (.bool (hp s s1)) ∧ w' = W := fun W => Try.strings_HasPrefix s1 s W
  generalize hp s s1 = r at *
  have H := Lib.hid HP
  have g0 : IntKind.i64.wrap ((lo : Int) + (i : Int)) = (lo : Int) + (i : Int) := IntWalk.i64_in _ (by omega)
  have g1 : (0 : Int) ≤ (lo : Int) + (i : Int) := by omega
  have g2 : (lo : Int) + (i : Int) < (l.length : Int) := by omega
  have g3 : ((lo : Int) + (i : Int)).toNat = lo + i := by omega
  clear hbk hr hcells e1 HP hi hl
  go_enter Try.func40, Try.ntmps40
  go_wp2_with fail
  go_quiet ((go_at_call 41; exact Calls.quiet_of_same (H.out _)))
  go_wp2_with fail
  go_ret
  exact ⟨rfl, _, rfl⟩
theorem pre_mono {l : List ByteArray} (h : UpB l) (s : ByteArray) (a b : Nat) (hab : a ≤ b) (hb : b < l.length - low l s) (hp0 : (!(hp s (l.getD (low l s + a) ByteArray.empty))) = true) : (!(hp s (l.getD (low l s + b) ByteArray.empty))) = true := by
  rcases Nat.lt_or_eq_of_le hab with hlt | rfl
  · have h1 := List.pairwise_iff_getElem.1 (many_pair h s) a b (by rw [List.length_drop]; omega) (by rw [List.length_drop]; omega) hlt
    simp only [List.getElem_drop] at h1
    have ea : l.getD (low l s + a) ByteArray.empty = l[low l s + a] := by simp [List.getD_eq_getElem?_getD, List.getElem?_eq_getElem (show low l s + a < l.length by omega)]
    have eb : l.getD (low l s + b) ByteArray.empty = l[low l s + b] := by simp [List.getD_eq_getElem?_getD, List.getElem?_eq_getElem (show low l s + b < l.length by omega)]
    rw [ea] at hp0
    rw [eb]
    cases hx : hp s l[low l s + b]
    · rfl
    · rw [h1 hx] at hp0
      cases hp0
  · exact hp0
set_option maxRecDepth 100000 in
set_option maxHeartbeats 4000000 in
/-- The numbers of the texts that begin so. -/
theorem begin_any (d : Nat) (l : List ByteArray) (s : ByteArray) (w : World) (h : DictAt w d l) (hu : UpB l) (hl : l.length < 4611686018427387904) :
    Calls Try.prog 16 #[dptr d, .string s] w fun e w' => e = .returned (.tuple #[.int .i64 (low l s : Nat), .int .i64 ((low l s + many l s : Nat) : Int)]) ∧ Below w.heap.size w w' := by
  have HS : ∀ (W : World) (B : Nat), Below w.heap.size w W → W.cell? ⟨w.heap.size, 0, none⟩ = some (dptr d) → W.cell? ⟨w.heap.size + 1, 0, none⟩ = some (.string s) → W.cell? ⟨B, 0, none⟩ = some (.int .i64 (low l s : Nat)) →
      Calls Try.prog 39 #[.int .i64 (l.length - low l s : Nat), .func (.func 40) #[] #[.pointer (some ⟨w.heap.size, 0, none⟩), .pointer (some ⟨B, 0, none⟩), .pointer (some ⟨w.heap.size + 1, 0, none⟩)]] W fun e w' => e = .returned (.int .i64 (many l s : Nat)) ∧ Below W.heap.size W w' := by
    intro W B hb c1 c2 c3
    have h1 := Try.sort_Search 40 #[.pointer (some ⟨w.heap.size, 0, none⟩), .pointer (some ⟨B, 0, none⟩), .pointer (some ⟨w.heap.size + 1, 0, none⟩)] (l.length - low l s) (fun i => !(hp s (l.getD (low l s + i) ByteArray.empty))) W Try.call40 (by omega)
      (fun m os i hi => by
        have hg := below_grow W m os
        refine (nopre_any d w.heap.size B (w.heap.size + 1) (low l s) l s i _ ((h.below hb).below hg) hl (by omega) ((hg.cell (World.block_lt_of_cell? _ _ c1)).trans c1) ((hg.cell (World.block_lt_of_cell? _ _ c3)).trans c3) ((hg.cell (World.block_lt_of_cell? _ _ c2)).trans c2)).mono ?_
        rintro e w' ⟨rfl, q, rfl⟩
        exact ⟨rfl, q, #[], (grow_empty _).symm⟩)
      (pre_mono hu s)
    refine h1.mono ?_
    rintro e w' ⟨rfl, q, os, rfl⟩
    refine ⟨?_, below_grow W q os⟩
    simp only [Bool.not_not]
    rw [many_count hu s]
  have hle := low_le l s
  have hml := many_le l s
  have HSS := Lib.hid HS
  have HL := Lib.hid (fun W (hb : Below w.heap.size w W) => len_any d l W (h.below hb))
  have HF := Lib.hid (fun W (hb : Below w.heap.size w W) => from_any d l s W (h.below hb) hu hl)
  generalize low l s = lo at *
  generalize many l s = mn at *
  have hsub : IntKind.i64.wrap ((l.length : Int) - (lo : Int)) = ((l.length - lo : Nat) : Int) := by
    rw [show (l.length : Int) - (lo : Int) = ((l.length - lo : Nat) : Int) by omega]
    exact IntWalk.i64_in _ (by omega)
  have HSUB := Lib.hid hsub
  clear h HS hu hsub
  go_enter Try.func16, Try.ntmps16
  go_wp2_with fail
  refine (HF.out _ (bAlloc (bAlloc (Below.refl _ _) _) _)).mono ?_
  rintro e w1 ⟨rfl, hb1⟩
  obtain ⟨hz, hbw, e0, e1⟩ := boxes2 hb1
  have E0 := Lib.hid (Blk.alloc e0 (.cells #[.int .i64 lo] 3))
  have E1 := Lib.hid (Blk.alloc e1 (.cells #[.int .i64 lo] 3))
  have HB := Lib.hid (bAlloc hbw (.cells #[.int .i64 lo] 3))
  have e2 : Blk (w1.alloc (.cells #[.int .i64 lo] 3)) w1.heap.size 3 #[.int .i64 lo] := heap_alloc_last _ _
  have E2 := Lib.hid e2
  clear hb1 hbw e0 e1 e2
  go_upto_region 2 with fail
  generalize w1.alloc (.cells #[.int .i64 lo] 3) = w2 at *
  generalize w1.heap.size = b6 at *
  have q0 := blk1 E0.out
  have q1 := blk1 E1.out
  have q2 := blk1 E2.out
  have hsub := HSUB.out
  go_cut [7] (fun v7 wx => v7 = .int .i64 mn ∧ wx.cell? ⟨b6, 0, none⟩ = some (.int .i64 lo) ∧ Below w.heap.size w wx)
  case first =>
    go_region_held3 (fun w' => w'.cell? ⟨w.heap.size, 0, none⟩ = some (dptr d) ∧ w'.cell? ⟨w.heap.size + 1, 0, none⟩ = some (.string s) ∧ w'.cell? ⟨b6, 0, none⟩ = some (.int .i64 lo))
      ((refine ⟨?_, ?_, ?_⟩ <;> (with_reducible ((repeat' (first | assumption | refine cellD ?_ | refine cellK (by assumption) ?_)); done))))
      (first
        | (go_at_call 13; refine (HL.out _ ?_).mono ?_; (focus (with_reducible (repeat' (first | exact HB.out | refine bDrew ?_ | refine bThen ?_ (by assumption))))); rintro e w' ⟨rfl, rfl⟩)
        | (go_at_call 39; refine (HSS.out _ b6 ?_ ?_ ?_ ?_).mono ?_; (focus (with_reducible (repeat' (first | exact HB.out | refine bDrew ?_ | refine bThen ?_ (by assumption))))); (focus (with_reducible ((repeat' (first | assumption | refine cellD ?_ | refine cellK (by assumption) ?_)); done))); (focus (with_reducible ((repeat' (first | assumption | refine cellD ?_ | refine cellK (by assumption) ?_)); done))); (focus (with_reducible ((repeat' (first | assumption | refine cellD ?_ | refine cellK (by assumption) ?_)); done))); rintro e w5 ⟨rfl, hb5⟩))
    all_goals (go_wp2_with fail; go_meet)
    all_goals (refine ⟨rfl, ?_, ?_⟩)
    all_goals first
      | (with_reducible ((repeat' (first | assumption | refine cellD ?_ | refine cellK (by assumption) ?_)); done))
      | (with_reducible (repeat' (first | exact HB.out | refine bDrew ?_ | refine bThen ?_ (by assumption))))
  case rest =>
    obtain ⟨rfl, hc6, hb⟩ := hcut
    have HB7 := Lib.hid hb
    have hadd : IntKind.i64.wrap ((lo : Int) + (mn : Int)) = ((lo + mn : Nat) : Int) := by
      rw [show (lo : Int) + (mn : Int) = ((lo + mn : Nat) : Int) by omega]
      exact IntWalk.i64_in _ (by omega)
    clear q0 q1 q2 hsub hb
    go_wp2_with fail
    go_quiet (fail)
    go_wp2_with fail
    go_ret2
    exact ⟨by go_num, bDrewN HB7.out _⟩
theorem get_eq {l : List ByteArray} {i : Nat} (h : i < l.length) : l.getD i ByteArray.empty = l[i] := by simp [List.getD_eq_getElem?_getD, List.getElem?_eq_getElem h]
/-- Does a row have a text? -/
def has (l : List ByteArray) (s : ByteArray) : Bool := decide (low l s < l.length) && (l.getD (low l s) ByteArray.empty).toList == s.toList
set_option maxRecDepth 100000 in
set_option maxHeartbeats 2000000 in
/-- A text's number. -/
theorem id_any (d : Nat) (l : List ByteArray) (s : ByteArray) (w : World) (h : DictAt w d l) (hu : UpB l) (hl : l.length < 4611686018427387904) :
    Calls Try.prog 15 #[dptr d, .string s] w fun e w' => e = .returned (if has l s then .tuple #[.int .i64 (low l s : Nat), .bool true] else .tuple #[.int .i64 0, .bool false]) ∧ Below w.heap.size w w' := by
  have HF := Lib.hid (from_any d l s w h hu hl)
  have HT := Lib.hid (fun (i : Nat) (hi : i < l.length) W (hb : Below w.heap.size w W) => text_in d l i W (h.below hb) hi)
  have HO := Lib.hid (fun (i : Int) (hi : i < 0 ∨ (l.length : Int) ≤ i) W (hb : Below w.heap.size w W) => text_out d l i W (h.below hb) hi)
  have hle := low_le l s
  clear h hu
  by_cases hlt : low l s < l.length
  · have he : has l s = (l[low l s].toList == s.toList) := by
      unfold has
      rw [decide_eq_true hlt, get_eq hlt, Bool.true_and]
    rw [he]
    have HT1 := Lib.hid (HT.out (low l s) hlt)
    generalize low l s = lo at *
    generalize l[lo] = t at *
    cases hx : t.toList == s.toList
    · have hx2 : (t.toList != s.toList) = true := by rw [bne, hx]; rfl
      have hx3 : ¬ t.toList = s.toList := fun e => by rw [e, beq_self_eq_true] at hx; cases hx
      clear he
      go_enter Try.func15, Try.ntmps15
      go_wp2_with fail
      refine HF.out.mono ?_
      rintro e w1 ⟨rfl, hb⟩
      have HB := Lib.hid hb
      clear hb
      go_wp2_with fail
      refine (HT1.out _ HB.out).mono ?_
      rintro e w2 ⟨rfl, rfl⟩
      go_wp2_with fail
      go_ret2
      exact ⟨rfl, HB.out⟩
    · have hx2 : (t.toList != s.toList) = false := by rw [bne, hx]; rfl
      have hx3 : t.toList = s.toList := beq_iff_eq.1 hx
      have HX3 := Lib.hid hx3
      clear he hx3
      go_enter Try.func15, Try.ntmps15
      go_wp2_with fail
      refine HF.out.mono ?_
      rintro e w1 ⟨rfl, hb⟩
      have HB := Lib.hid hb
      clear hb
      go_wp2_with fail
      refine (HT1.out _ HB.out).mono ?_
      rintro e w2 ⟨rfl, rfl⟩
      go_wp2_with fail
      go_ret2
      exact ⟨rfl, HB.out⟩
  · have he : has l s = false := by
      unfold has
      rw [decide_eq_false hlt, Bool.false_and]
    rw [he]
    generalize low l s = lo at *
    clear he
    go_enter Try.func15, Try.ntmps15
    go_wp2_with fail
    refine HF.out.mono ?_
    rintro e w1 ⟨rfl, hb⟩
    have HB := Lib.hid hb
    clear hb
    go_wp2_with fail
    refine (HO.out (lo : Int) (by omega) _ HB.out).mono ?_
    rintro e w2 ⟨rfl, rfl⟩
    go_wp2_with fail
    go_ret2
    exact ⟨rfl, HB.out⟩
end Go.Proofs.Ytkbbbeklgpgolaa
