/- What the reference's put answers. -/
import Derived.Test.YtnigmpckohncoaaA6
set_option linter.unusedVariables false
set_option linter.unusedSimpArgs false
namespace Go.Proofs.Ytnigmpckohncoaa
open Go.RowKit Go.Sort YtnigmpckohncoaaW.PrintWords PAggCounts

def gtB (x s : ByteArray) : Bool := !Op.bytesLess x.toList s.toList && !(x.toList == s.toList)
def putStep (s : ByteArray) (r : Bool × List ByteArray) (x : ByteArray) : Bool × List ByteArray :=
  let d := r.1 || (x.toList == s.toList)
  if gtB x s && !d then (true, r.2 ++ [s, x]) else (d, r.2 ++ [x])
def putFold (s : ByteArray) (l : List ByteArray) : Bool × List ByteArray := l.foldl (putStep s) (false, [])
def putB (l : List ByteArray) (s : ByteArray) : List ByteArray := if (putFold s l).1 then (putFold s l).2 else (putFold s l).2 ++ [s]
theorem putFold_succ (s : ByteArray) (l : List ByteArray) (i : Nat) (h : i < l.length) : putFold s (l.take (i + 1)) = putStep s (putFold s (l.take i)) l[i] := by
  unfold putFold
  rw [List.take_succ_eq_append_getElem h, List.foldl_append]
  rfl
theorem putStep_le (s : ByteArray) (r : Bool × List ByteArray) (x : ByteArray) : (putStep s r x).2.length ≤ r.2.length + 2 := by
  unfold putStep
  simp only []
  split <;> simp

def PutAt (w wr : World) (v5 v6 : Value) (r : Bool × List ByteArray) (L : Nat) : Prop :=
  v6 = .bool r.1 ∧ wr.ownsRow w.heap.size 9 1 v5 (strV r.2).length (strV r.2) ∧ r.2.length ≤ L ∧ Below w.heap.size w wr

theorem putAt_one {w w1 : World} {v1 : Value} {d d' : Bool} {ys : List ByteArray} {s x : ByteArray} {i : Nat} (hp : putStep s (d, ys) x = (d', ys ++ [x])) (hle : ys.length ≤ 2 * i)
    (ho : w1.ownsRow w.heap.size 9 1 v1 (strV ys ++ [Value.string x]).length (strV ys ++ [Value.string x])) (hb : Below w.heap.size w w1) : PutAt w w1 v1 (.bool d') (putStep s (d, ys) x) (2 * (i + 1)) := by
  rw [hp]
  exact ⟨rfl, by simpa [strV] using ho, by simp; omega, hb⟩
theorem putAt_two {w w1 : World} {v1 : Value} {d d' : Bool} {ys : List ByteArray} {s x : ByteArray} {i : Nat} (hp : putStep s (d, ys) x = (d', ys ++ [s, x])) (hle : ys.length ≤ 2 * i)
    (ho : w1.ownsRow w.heap.size 9 1 v1 (strV ys ++ [Value.string s] ++ [Value.string x]).length (strV ys ++ [Value.string s] ++ [Value.string x])) (hb : Below w.heap.size w w1) : PutAt w w1 v1 (.bool d') (putStep s (d, ys) x) (2 * (i + 1)) := by
  rw [hp]
  exact ⟨rfl, by simpa [strV] using ho, by simp; omega, hb⟩
set_option maxRecDepth 100000 in
set_option maxHeartbeats 4000000 in
theorem put_any (A : Option Addr) (c : Nat) (l : List ByteArray) (s : ByteArray) (w : World) (hl : RT w A l.length l) (hn : l.length ≤ 100000) :
    Calls Try.prog 19 #[.slice A l.length c, .string s] w fun e w' => ∃ v, e = .returned v ∧ w'.ownsRow w.heap.size 9 1 v (strV (putB l s)).length (strV (putB l s)) ∧ Below w.heap.size w w' := by
  have HL := Lib.hid hl
  clear hl
  go_enter Try.func19, Try.ntmps19
  go_wp2_with fail
  go_loopg [5, 6, 7] l.length (fun kq v5 v6 v7 wr => ∃ i : Nat, v7 = .int .i64 i ∧ i + kq = l.length ∧ PutAt w wr v5 v6 (putFold s (l.take i)) (2 * i))
  case atStart => exact ⟨0, rfl, by omega, rfl, World.ownsRow_nil _ _ _ _, Nat.le_refl _, Below.refl _ _⟩
  case round =>
    obtain ⟨i, rfl, hi, h6, ho, hle, hb⟩ := hrel
    have HI := Lib.hid hi
    have HO := Lib.hid ho
    have HW := Lib.hid hb
    clear hi ho hb
    have hbz : w.heap.size ≤ wr.heap.size := HW.out.size
    by_cases hlt : i < l.length
    · obtain ⟨ad, rfl, hc⟩ := HL.out.at_ (by omega)
      have m0 := hc i l[i] (List.getElem?_eq_getElem hlt)
      have n0 := (HW.out.cell (World.block_lt_of_cell? w _ m0)).trans m0
      have hbw : (ad.add i).block < w.heap.size := World.block_lt_of_cell? _ _ m0
      have hbl : (ad.add i).block < wr.heap.size := World.block_lt_of_cell? _ _ n0
      clear m0 hc
      obtain ⟨x, hx⟩ : ∃ x, x = l[i] := ⟨_, rfl⟩
      have HS := Lib.hid (putFold_succ s l i hlt)
      rw [← hx] at n0 HS
      have hst := putStep_le s (putFold s (l.take i)) x
      have HST := Lib.hid hst
      clear hst
      obtain ⟨r, hr⟩ : ∃ r, r = putFold s (l.take i) := ⟨_, rfl⟩
      rw [← hr] at h6 HO hle HS HST
      clear hr hx
      obtain ⟨d, ys⟩ := r
      have h6' : u6 = .bool d := h6
      subst h6'
      clear h6
      have hle' : ys.length ≤ 2 * i := hle
      clear hle
      by_cases he : (x.toList == s.toList) = true
      · cases hb : Op.bytesLess x.toList s.toList
        · go_wp2_with (at_builtin; refine print_append (w0 := w) w.heap.size rfl _ _ 31 9 (.string ⟨#[]⟩) 16 rfl Try.underlying31 info9 rfl (by decide) u5 (strV ys) (.string x) rfl rfl rfl HO.out HW.out hbz (by rw [strV_length]; omega) ?_; intro v1 w1 ho1 hb1 hg1 ha1; clear ha1 hg1)
          have HO1 := Lib.hid ho1
          have HB1 := Lib.hid hb1
          clear ho1 hb1
          go_roundg (gk - 1)
          case measure => have := HI.out; omega
          case rel =>
            refine ⟨i + 1, by go_num, by have := HI.out; omega, ?_⟩
            rw [HS.out]
            exact putAt_one (by simp [putStep, he, gtB]) hle' HO1.out HB1.out
        · go_wp2_with (at_builtin; refine print_append (w0 := w) w.heap.size rfl _ _ 31 9 (.string ⟨#[]⟩) 16 rfl Try.underlying31 info9 rfl (by decide) u5 (strV ys) (.string x) rfl rfl rfl HO.out HW.out hbz (by rw [strV_length]; omega) ?_; intro v1 w1 ho1 hb1 hg1 ha1; clear ha1 hg1)
          have HO1 := Lib.hid ho1
          have HB1 := Lib.hid hb1
          clear ho1 hb1
          go_roundg (gk - 1)
          case measure => have := HI.out; omega
          case rel =>
            refine ⟨i + 1, by go_num, by have := HI.out; omega, ?_⟩
            rw [HS.out]
            exact putAt_one (by simp [putStep, he, gtB]) hle' HO1.out HB1.out
      · have he' : (x.toList == s.toList) = false := by simpa using he
        clear he
        cases hb : Op.bytesLess x.toList s.toList
        · cases d
          · go_wp2_with (first | (at_builtin; refine print_append (w0 := w) w.heap.size rfl _ _ 31 9 (.string ⟨#[]⟩) 16 rfl Try.underlying31 info9 rfl (by decide) u5 (strV ys) (.string s) rfl rfl rfl HO.out HW.out hbz (by rw [strV_length]; omega) ?_; intro v1 w1 ho1 hb1 hg1 ha1; have hz1 := hb1.size; have HO1 := Lib.hid ho1; have HB1 := Lib.hid hb1; have n1 : w1.cell? (ad.add i) = some (.string x) := (HB1.out.cell hbw).trans ((HW.out.cell hbw).symm.trans n0); clear ho1 hb1 hg1 ha1 HO HW n0) | (at_builtin; refine print_append (w0 := w) w.heap.size rfl _ _ 31 9 (.string ⟨#[]⟩) 16 rfl Try.underlying31 info9 rfl (by decide) v1 (strV ys ++ [.string s]) (.string x) rfl rfl rfl HO1.out HB1.out hz1 (by rw [List.length_append, strV_length]; simp; omega) ?_; intro v2 w2 ho2 hb2 hg2 ha2; have HO2 := Lib.hid ho2; have HB2 := Lib.hid hb2; clear ho2 hb2 hg2 ha2))
            go_roundg (gk - 1)
            case measure => have := HI.out; omega
            case rel =>
              refine ⟨i + 1, by go_num, by have := HI.out; omega, ?_⟩
              rw [HS.out]
              exact putAt_two (by simp [putStep, he', gtB, hb]) hle' HO2.out HB2.out
          · go_wp2_with (at_builtin; refine print_append (w0 := w) w.heap.size rfl _ _ 31 9 (.string ⟨#[]⟩) 16 rfl Try.underlying31 info9 rfl (by decide) u5 (strV ys) (.string x) rfl rfl rfl HO.out HW.out hbz (by rw [strV_length]; omega) ?_; intro v1 w1 ho1 hb1 hg1 ha1; clear ha1 hg1)
            have HO1 := Lib.hid ho1
            have HB1 := Lib.hid hb1
            clear ho1 hb1
            go_roundg (gk - 1)
            case measure => have := HI.out; omega
            case rel =>
              refine ⟨i + 1, by go_num, by have := HI.out; omega, ?_⟩
              rw [HS.out]
              exact putAt_one (by simp [putStep, he', gtB, hb]) hle' HO1.out HB1.out
        · go_wp2_with (at_builtin; refine print_append (w0 := w) w.heap.size rfl _ _ 31 9 (.string ⟨#[]⟩) 16 rfl Try.underlying31 info9 rfl (by decide) u5 (strV ys) (.string x) rfl rfl rfl HO.out HW.out hbz (by rw [strV_length]; omega) ?_; intro v1 w1 ho1 hb1 hg1 ha1; clear ha1 hg1)
          have HO1 := Lib.hid ho1
          have HB1 := Lib.hid hb1
          clear ho1 hb1
          go_roundg (gk - 1)
          case measure => have := HI.out; omega
          case rel =>
            refine ⟨i + 1, by go_num, by have := HI.out; omega, ?_⟩
            rw [HS.out]
            exact putAt_one (by simp [putStep, he', gtB, hb]) hle' HO1.out HB1.out
    · have hil : i = l.length := by have := HI.out; omega
      have htk : l.take i = l := List.take_of_length_le (by omega)
      rw [htk] at HO hle h6
      clear htk
      obtain ⟨d, hd⟩ : ∃ d, d = (putFold s l).1 := ⟨_, rfl⟩
      have h6' : u6 = .bool d := by rw [hd]; exact h6
      subst h6'
      have HD := Lib.hid hd
      have hle' : (putFold s l).2.length ≤ 2 * i := hle
      clear h6 hd hle
      cases d
      · go_wp2_with (at_builtin; refine print_append (w0 := w) w.heap.size rfl _ _ 31 9 (.string ⟨#[]⟩) 16 rfl Try.underlying31 info9 rfl (by decide) u5 (strV (putFold s l).2) (.string s) rfl rfl rfl HO.out HW.out hbz (by rw [strV_length]; omega) ?_; intro v1 w1 ho1 hb1 hg1 ha1; clear ha1 hg1)
        go_ret
        refine ⟨v1, rfl, ?_, hb1⟩
        have : putB l s = (putFold s l).2 ++ [s] := by unfold putB; rw [← HD.out]; simp
        rw [this]
        simpa [strV] using ho1
      · go_wp2_with fail
        go_ret
        refine ⟨_, rfl, ?_, HW.out⟩
        have : putB l s = (putFold s l).2 := by unfold putB; rw [← HD.out]; simp
        rw [this]
        exact HO.out
end Go.Proofs.Ytnigmpckohncoaa
