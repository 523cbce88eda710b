/- A dictionary's bytes, as the program writes them. -/
import Derived.Test.YtkbbbeklgpgolaaD2
import Derived.Test.YtkbbbeklgpgolaaDB
set_option linter.unusedVariables false
set_option linter.unusedSimpArgs false
namespace Go.Proofs.Ytkbbbeklgpgolaa
open Go.RowKit Go.Sort Go.Proofs.YtkbbbeklgpgolaaW.PrintWords Pref

theorem shared_any (a b : ByteArray) (w : World) (ha : a.size < 9223372036854775807) :
    Calls Try.prog 37 #[.string a, .string b] w fun e w' => e = .returned (.int .i64 (sh a b : Nat)) ∧ Below w.heap.size w w' := by
  refine (dict_shared.calls _ a b _ w (shared_f a b ha)).mono ?_
  rintro e w' ⟨rfl, h⟩
  exact ⟨rfl, h.below⟩
theorem prev_succ (l : List ByteArray) (i : Nat) (h : i < l.length) : prev l (i + 1) = l[i] := by
  unfold prev
  rw [if_neg (by omega), Nat.add_sub_cancel, List.getD_eq_getElem?_getD, List.getElem?_eq_getElem h]; rfl
theorem row_pre {l : List ByteArray} (hl : l.length < 100000) (hs : ∀ s ∈ l, s.size ≤ 1000) (i : Nat) : (uint l.length ++ dbody ByteArray.empty (l.take i)).length < 140737488000000 := by
  have h3 := uint_ten (n := l.length) (by omega)
  have h4 := dbody_len (l.take i) ByteArray.empty (fun s hs' => hs s (List.mem_of_mem_take hs'))
  rw [List.length_take] at h4
  rw [List.length_append]
  exact lt_near h3 h4 hl
theorem take_i (l : List ByteArray) (i : Nat) (h : i < l.length) : (uint l.length ++ dbody ByteArray.empty (l.take i)) ++ uint (sh (prev l i) l[i]) ++ uint (l[i].extract (sh (prev l i) l[i]) l[i].size).size ++ bytesOf (l[i].extract (sh (prev l i) l[i]) l[i].size) = uint l.length ++ dbody ByteArray.empty (l.take (i + 1)) := by
  rw [dbody_take l i h]
  unfold entry
  simp only [List.append_assoc]
theorem BT_drew {w : World} {A : Option Addr} {n : Nat} {xs : List Int} (h : BT w A n xs) : BT w.drew A n xs := h.below (bDrew (Below.refl _ _))
theorem BT_keep {w w1 : World} {A : Option Addr} {n : Nat} {xs : List Int} (hb : Below w.heap.size w w1) (h : BT w A n xs) : BT w1 A n xs := h.below hb
theorem fit1 {a b : Nat} (h : a < 140737488000000) (hb : b ≤ 10) : a + b ≤ 140737488355328 := by omega
theorem fit2 {a b c d n : Nat} (h : a < 140737488000000) (hb : b ≤ 10) (hc : c ≤ 10) (hd : d ≤ 1000) : a + b + c + (d - n) ≤ 140737488355328 := by omega
set_option maxRecDepth 100000 in
set_option maxHeartbeats 4000000 in
theorem bytes_any (d : Nat) (l : List ByteArray) (w : World) (h : DictAt w d l) (hl : l.length < 100000) (hs : ∀ s ∈ l, s.size ≤ 1000) :
    Calls Try.prog 12 #[dptr d] w fun e w' => ∃ v, e = .returned v ∧ BR w' w.heap.size v (dictB l) ∧ Below w.heap.size w w' := by
  have hd := dict_lt h
  have HS := Lib.hid hs
  have HL := Lib.hid hl
  have hw := u64_nat (n := l.length) (by omega)
  have HU := Lib.hid (uint_any none 0 0 [] l.length w (BT.nil_ w none) (by omega) (by have := uint_ten (n := l.length) (by omega); omega))
  obtain ⟨A, c, hb, hc, hr⟩ := h
  have q0 := blk1 hb
  have HBK := Lib.hid hb
  have HR := Lib.hid hr
  clear hb hr hs
  go_enter Try.func12, Try.ntmps12
  go_wp2_with fail
  refine HU.out.mono ?_
  rintro e w1 ⟨v, rfl, hv, hb1⟩
  rw [List.nil_append] at hv
  have HV := Lib.hid hv
  have HB1 := Lib.hid hb1
  have q1 := cellK hb1 q0
  clear hv hb1 HU q0
  go_wp2_with fail
  clear q1
  go_loopg [3, 4, 22] l.length (fun kq v3 v4 v22 wr => ∃ i : Nat, v22 = .int .i64 (i : Nat) ∧ v4 = .string (prev l i) ∧ kq + i = l.length ∧ Hid (BR wr w.heap.size v3 (uint l.length ++ dbody ByteArray.empty (l.take i))) ∧ Hid (Below w.heap.size w wr))
  case atStart => exact ⟨0, rfl, rfl, rfl, by simp only [List.take_zero, dbody, List.append_nil]; exact HV.out, HB1.out⟩
  case round =>
    obtain ⟨i, rfl, rfl, hki, HV, HB⟩ := hrel
    by_cases hi : i < l.length
    · have hsz := HS.out _ (List.getElem_mem hi)
      obtain ⟨ad, rfl, hcells⟩ := (HR.out.below HB.out).at_ (by omega)
      have c1 := hcells i _ (List.getElem?_eq_getElem hi)
      have hT := Lib.hid (take_i l i hi)
      have hnx := prev_succ l i hi
      have hpz : (prev l i).size < 9223372036854775807 := by
        by_cases h0 : i = 0
        · have : prev l i = ByteArray.empty := by unfold prev; rw [if_pos h0]
          rw [this]; decide
        · rw [prev_at h0 hi]
          exact far9c (HS.out _ (List.getElem_mem _))
      have hRP := row_pre HL.out HS.out i
      have hshl := sh_le' (prev l i) l[i]
      generalize hT1 : uint l.length ++ dbody ByteArray.empty (l.take i) = T1 at *
      generalize hT2 : uint l.length ++ dbody ByteArray.empty (l.take (i + 1)) = T2 at *
      have HNX := Lib.hid hnx
      have HT2 := Lib.hid hT2
      generalize hsn : sh (prev l i) l[i] = n at *
      generalize l[i] = s at *
      generalize prev l i = p at *
      have HSH := Lib.hid (fun W : World => (hsn ▸ shared_any p s W hpz : Calls Try.prog 37 #[.string p, .string s] W fun e w' => e = .returned (.int .i64 (n : Nat)) ∧ Below W.heap.size W w'))
      clear hcells hpz hsn hnx hT1 hT2
      have hlt : decide ((i : Int) < (l.length : Int)) = true := decide_eq_true (by omega)
      go_wp2_with fail
      refine (HSH.out _).mono ?_
      rintro e w2 ⟨rfl, hb2⟩
      go_upto_region 9 with fail
      have hnu := u64_nat (n := n) (far8 hshl hsz)
      have hle : (n : Int) ≤ (s.size : Int) := Int.ofNat_le.2 hshl
      have HB2 := Lib.hid (bThen HB.out hb2)
      have HV2 := Lib.hid (BR.below HV.out hb2)
      obtain ⟨Au, cu, rfl, hcu, hbt⟩ := HV2.out.reads
      have HTU := Lib.hid hbt
      have h18 := far8 hshl hsz
      have hl1 : T1.length + (uint n).length ≤ 140737488355328 := fit1 hRP (uint_ten h18)
      have hl2 : (T1 ++ uint n).length + (uint (s.extract n s.size).size).length + (s.extract n s.size).size ≤ 140737488355328 := by
        rw [ext_size, List.length_append]
        exact fit2 hRP (uint_ten h18) (uint_ten (far8 (Nat.sub_le _ _) hsz)) hsz
      have hx18 : (s.extract n s.size).size < 18446744073709551616 := by rw [ext_size]; exact far8 (Nat.sub_le _ _) hsz
      generalize hT3 : T1 ++ uint n = T3 at hl2 hT
      have HT3 := Lib.hid hT3
      have HL2 := Lib.hid hl2
      have HL1 := Lib.hid hl1
      have HX18 := Lib.hid hx18
      have H18 := Lib.hid h18
      have htn : ((n : Int)).toNat = n := Int.toNat_natCast n
      clear hT3 hl2 hl1 hx18 h18 hbt hb2 hsz c1 hRP hshl
      go_cut [3] (fun v3 wx => BR wx w.heap.size v3 T2 ∧ Below w.heap.size w wx)
      case first =>
        go_region_held3 (fun w' => True) (exact trivial)
          (first
            | (go_at_call 36; refine (uint_any Au T1.length cu T1 n _ ?_ H18.out HL1.out).mono ?_; (focus (with_reducible (repeat' (first | exact HTU.out | refine BT_drew ?_ | refine BT_keep (by assumption) ?_)))); rintro e wa ⟨va, rfl, hva, hba⟩; rw [HT3.out] at hva; obtain ⟨Aa, ca, rfl, hca, hta⟩ := hva.reads)
            | (go_at_call 38; refine (text_any Aa _ ca T3 (s.extract n s.size) _ ?_ HX18.out HL2.out).mono ?_; (focus (with_reducible (repeat' (first | exact hta | refine BT_drew ?_ | refine BT_keep (by assumption) ?_)))); rintro e wb ⟨vb, rfl, hvb, hbb⟩))
        all_goals (go_wp2_with fail; go_meet)
        all_goals (have Fa : Below w.heap.size w wa := by with_reducible ((repeat' (first | exact HB2.out | refine bDrew ?_ | refine bThen ?_ (by assumption))); done))
        all_goals (rw [hT.out] at hvb)
        all_goals first
          | exact ⟨hvb.lower Fa.size, bThen Fa hbb⟩
          | exact ⟨hvb.lower (Nat.le_trans Fa.size (Nat.le_refl _)), bThen (bDrew Fa) hbb⟩
      case rest =>
        obtain ⟨hv3, hb3⟩ := hcut
        have HV3 := Lib.hid hv3
        have HB3 := Lib.hid hb3
        clear hv3 hb3
        go_wp2_with fail
        go_roundg (gk - 1)
        case measure => omega
        case rel => exact ⟨i + 1, rfl, by rw [HNX.out], by omega, by rw [HT2.out]; exact HV3.out, HB3.out⟩
    · have hi2 : decide ((i : Int) < (l.length : Int)) = false := decide_eq_false (by omega)
      have he : i = l.length := by omega
      subst he
      rw [List.take_length] at HV
      go_wp2_with fail
      go_ret
      exact ⟨_, rfl, HV.out, HB.out⟩
end Go.Proofs.Ytkbbbeklgpgolaa
