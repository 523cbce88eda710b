/- awake: the law's own three texts. -/
import Derived.Test.YtkbbbeklgpgolaaD5
set_option linter.unusedVariables false
set_option linter.unusedSimpArgs false
namespace Go.Proofs.Ytkbbbeklgpgolaa
open Go.RowKit Go.Sort Go.Proofs.YtkbbbeklgpgolaaW.PrintWords Pref

def tB : ByteArray := ⟨#[98]⟩
def tAB : ByteArray := ⟨#[97, 98]⟩
def tABC : ByteArray := ⟨#[97, 98, 99]⟩
def three_ : List ByteArray := [tAB, tABC, tB]
theorem three_up : UpB three_ := by unfold UpB Up; decide
theorem norm_three : normB [tB, tAB, tB, tABC] = three_ := by
  refine upB_ext (normB_up _).1 three_up fun z => ?_
  rw [(normB_up _).2]
  simp only [three_, List.map_cons, List.map_nil, List.mem_cons, List.not_mem_nil, or_false]
  constructor
  · rintro (h | h | h | h) <;> simp [h]
  · rintro (h | h | h) <;> simp [h]
theorem three_bytes : strOfNums (dictB three_) = ⟨#[3, 0, 2, 97, 98, 2, 1, 99, 0, 1, 98]⟩ := by decide +kernel
theorem low_abd : low three_ ⟨#[97, 98, 100]⟩ = 2 := by decide +kernel
theorem low_b : low three_ tB = 2 := by decide +kernel
theorem has_b : has three_ tB = true := by decide +kernel
theorem low_ab : low three_ tAB = 0 := by decide +kernel
theorem many_ab : many three_ tAB = 2 := by decide +kernel
theorem none_long : ([tB, tAB, tB, tABC].any long || decide (4096 < three_.length)) = false := by decide +kernel
theorem four_at (w : World) : RT (w.alloc (.cells #[.string tB, .string tAB, .string tB, .string tABC] 9)) (some ⟨w.heap.size, 0, none⟩) [tB, tAB, tB, tABC].length [tB, tAB, tB, tABC] := by
  refine RT.mk_ rfl (by decide) fun _ => ⟨_, rfl, fun j s hj => ?_⟩
  have e : (⟨w.heap.size, 0, none⟩ : Addr).add j = ⟨w.heap.size, j, none⟩ := by simp [Addr.add]; intro h; omega
  rw [e, World.cell?_alloc_at _ _ _ _ rfl]
  have hj4 : j < 4 := (List.getElem?_eq_some_iff.1 hj).1
  rcases j with _ | _ | _ | _ | j
  · injection hj with hj; subst hj; rfl
  · injection hj with hj; subst hj; rfl
  · injection hj with hj; subst hj; rfl
  · injection hj with hj; subst hj; rfl
  · omega
set_option maxRecDepth 100000 in
set_option maxHeartbeats 4000000 in
theorem awake_any (w : World) : Calls Try.prog 6 #[] w fun e w' => e = .returned (.bool true) ∧ Below w.heap.size w w' := by
  go_enter Try.func6, Try.ntmps6
  go_wp2_with fail
  refine (build_any _ _ _ _ _ (four_at w) (by decide)).mono ?_
  rintro e w1 ⟨v, rfl, hm, hb⟩
  rcases hm with ⟨_, h⟩ | ⟨d, rfl, _, hd0, hD⟩
  · rw [norm_three, none_long] at h; cases h
  rw [norm_three] at hD
  have HB := Lib.hid (bThen (bAlloc (Below.refl _ _) _) hb)
  have hT0 : Calls Try.prog 14 #[dptr d, .int .i64 0] w1 fun e w' => e = .returned (.tuple #[.string ⟨#[97, 98]⟩, .bool true]) ∧ w1 = w' := text_in d three_ 0 w1 hD (by decide)
  have HT := Lib.hid hT0
  clear hT0
  have HI := Lib.hid (id_yes d three_ tB w1 hD three_up (by decide) has_b)
  have HE := Lib.hid (fun W hW => begin_any d three_ tAB W hW three_up (by decide))
  have HF := Lib.hid (fun W hW => from_any d three_ ⟨#[97, 98, 100]⟩ W hW three_up (by decide))
  have hL0 : ∀ W : World, DictAt W d three_ → Calls Try.prog 13 #[dptr d] W fun e w' => e = .returned (.int .i64 3) ∧ W = w' := fun W hW => len_any d three_ W hW
  have HL := Lib.hid hL0
  clear hL0
  have HY := Lib.hid (fun W hW => bytes_any d three_ W hW (by decide) (by decide))
  rw [low_b] at HI
  simp only [low_ab, many_ab, low_abd] at HE HF
  have HD := Lib.hid hD
  clear hb hd0 hD
  go_wp2_with fail
  refine HT.out.mono ?_
  rintro e w' ⟨rfl, rfl⟩
  clear HT
  go_wp2_with fail
  refine HI.out.mono ?_
  rintro e w2 ⟨rfl, hb2⟩
  have HD2 := Lib.hid (HD.out.below hb2)
  have HB2 := Lib.hid (bThen HB.out hb2)
  clear hb2 HI HD HB
  go_wp2_with fail
  refine (HE.out _ HD2.out).mono ?_
  rintro e w3 ⟨rfl, hb3⟩
  have HD3 := Lib.hid (HD2.out.below hb3)
  have HB3 := Lib.hid (bThen HB2.out hb3)
  clear hb3 HE HD2 HB2
  go_wp2_with fail
  refine (HL.out _ HD3.out).mono ?_
  rintro e w4 ⟨rfl, rfl⟩
  clear HL
  go_wp2_with fail
  refine (HF.out _ HD3.out).mono ?_
  rintro e w5 ⟨rfl, hb5⟩
  have HD5 := Lib.hid (HD3.out.below hb5)
  have HB5 := Lib.hid (bThen HB3.out hb5)
  clear hb5 HF HD3 HB3
  go_wp2_with fail
  refine (HY.out _ HD5.out).mono ?_
  rintro e w6 ⟨v, rfl, hv, hb6⟩
  obtain ⟨Ab, cb, rfl, hcb, ht⟩ := hv.reads
  have hcv := ht.str cb
  rw [three_bytes] at hcv
  have HB6 := Lib.hid (bThen HB5.out hb6)
  clear hb6 HY HD5 HB5 hv ht
  generalize (dictB three_).length = m at *
  go_wp2_with fail
  go_ret
  exact ⟨rfl, HB6.out⟩
end Go.Proofs.Ytkbbbeklgpgolaa
