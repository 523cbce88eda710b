/- DictBuilds, walked. -/
import Derived.Test.YtkbbbeklgpgolaaD6
set_option linter.unusedVariables false
set_option linter.unusedSimpArgs false
namespace Go.Proofs.Ytkbbbeklgpgolaa
open Go.RowKit Go.Sort Go.Proofs.YtkbbbeklgpgolaaW.PrintWords Pref

theorem norm_short {l : List ByteArray} (h : l.any long = false) : ∀ s ∈ normB l, s.size ≤ 1000 := by
  intro s hs
  have h1 : bl s ∈ l.map bl := ((normB_up l).2 _).1 (List.mem_map_of_mem hs)
  obtain ⟨t, ht, e⟩ := List.mem_map.1 h1
  have h2 : long t = false := by simpa using (List.any_eq_false.1 h t ht)
  unfold long at h2
  have h3 := of_decide_eq_false h2
  have h4 := congrArg List.length e
  rw [bl_len, bl_len] at h4
  omega
theorem refbuild_any (A : Option Addr) (c : Nat) (l : List ByteArray) (w : World) (h : RT w A l.length l) (hc : l.length ≤ c) (hl : l.length ≤ 8796093021952) (r1 : List ByteArray) (r2 : Int) (hr : (if l.any long = true then ([], 1) else if ((normB l).length : Int) > 4096 then ([], 1) else (normB l, 0)) = (r1, r2)) :
    Calls Try.prog 8 #[.slice A l.length c] w fun e w' => ∃ B cb, e = .returned (.tuple #[.slice B r1.length cb, .int .i64 r2]) ∧ r1.length ≤ cb ∧ RT w' B r1.length r1 ∧ Below w.heap.size w w' := by
  obtain ⟨k, hk⟩ := ref_build (l := l) (by omega)
  rw [hr] at hk
  refine (gristmillref03_Build.calls k A c l r1 r2 w h hc hk).mono ?_
  rintro e w' ⟨v, rfl, hv, hb⟩
  obtain ⟨B, cb, rfl, hcb, ht⟩ := Kd.R_reads hv
  exact ⟨B, cb, rfl, hcb, ht, hb⟩
set_option maxRecDepth 100000 in
set_option maxHeartbeats 4000000 in
theorem builds_any (A1 A2 A3 : Option Addr) (c1 c2 c3 : Nat) (l asks : List ByteArray) (ids : List Int) (w : World) (h1 : RT w A1 l.length l) (hc1 : l.length ≤ c1) (hl : l.length ≤ 8796093021952) (h2 : RT w A2 asks.length asks) (h3 : (Kd.int .i64).C w A3 ids.length ids) :
    Calls Try.prog 3 #[.slice A1 l.length c1, .slice A2 asks.length c2, .slice A3 ids.length c3] w fun e w' => e = .returned (.bool true) ∧ Below w.heap.size w w' := by
  have H1 := Lib.hid h1
  have H2 := Lib.hid h2
  have H3 := Lib.hid h3
  clear h1 h2 h3
  go_enter Try.func3, Try.ntmps3
  go_wp2_with fail
  refine (awake_any _).mono ?_
  rintro e w1 ⟨rfl, hb1⟩
  go_wp2_with fail
  refine (build_any A1 l.length c1 l _ (H1.out.below hb1) hl).mono ?_
  rintro e w2 ⟨v, rfl, hm, hb2⟩
  have HB2 := Lib.hid (bThen hb1 hb2)
  clear hb1 hb2
  rcases hm with ⟨rfl, hbad⟩ | ⟨d, rfl, hgood, hd0, hD⟩
  · have hr : (if l.any long = true then (([] : List ByteArray), (1 : Int)) else if ((normB l).length : Int) > 4096 then ([], 1) else (normB l, 0)) = ([], 1) := by
      by_cases h : l.any long = true
      · rw [if_pos h]
      · rw [if_neg h, if_pos]
        rw [Bool.eq_false_iff.2 h, Bool.false_or] at hbad
        have := of_decide_eq_true hbad
        omega
    have HR := Lib.hid (refbuild_any A1 c1 l w2 (H1.out.below HB2.out) hc1 hl _ _ hr)
    clear hbad hr
    go_wp2_with fail
    refine HR.out.mono ?_
    rintro e w3 ⟨B, cb, rfl, hcb, hrt, hb3⟩
    have HB3 := Lib.hid (bThen HB2.out hb3)
    clear hb3 hrt HR
    go_wp2_with fail
    go_ret
    exact ⟨rfl, HB3.out⟩
  · obtain ⟨ha, hlen⟩ := Bool.or_eq_false_iff.1 hgood
    have hlen := of_decide_eq_false hlen
    have hr : (if l.any long = true then (([] : List ByteArray), (1 : Int)) else if ((normB l).length : Int) > 4096 then ([], 1) else (normB l, 0)) = (normB l, 0) := by
      rw [if_neg (by rw [ha]; decide), if_neg (by omega)]
    have HR := Lib.hid (refbuild_any A1 c1 l w2 (H1.out.below HB2.out) hc1 hl _ _ hr)
    have HS := Lib.hid (norm_short ha)
    have HU := Lib.hid (normB_up l).1
    have HD := Lib.hid hD
    have HLN := Lib.hid (show (normB l).length < 100000 by omega)
    clear hgood hr ha hlen hD hd0
    generalize normB l = nl at *
    go_wp2_with fail
    refine HR.out.mono ?_
    rintro e w3 ⟨B, cb, rfl, hcb, hrt, hb3⟩
    have HB3 := Lib.hid (bThen HB2.out hb3)
    have HT := Lib.hid (tells_any d nl asks ids B A2 A3 cb c2 c3 w3 (HD.out.below hb3) HU.out HLN.out HS.out hrt hcb (H2.out.below HB3.out) (Kd.C_below H3.out HB3.out))
    clear hb3 hrt HR
    go_wp2_with fail
    refine HT.out.mono ?_
    rintro e w4 ⟨rfl, hb4⟩
    have HB4 := Lib.hid (bThen HB3.out hb4)
    clear hb4 HT
    go_wp2_with fail
    go_ret
    exact ⟨rfl, HB4.out⟩
end Go.Proofs.Ytkbbbeklgpgolaa
