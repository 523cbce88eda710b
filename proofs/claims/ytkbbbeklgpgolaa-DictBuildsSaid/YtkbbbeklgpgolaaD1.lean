/- What the program's wire writes of numbers and texts. -/
import Derived.Test.YtkbbbeklgpgolaaDU
import Derived.Test.YtkbbbeklgpgolaaA2
import Derived.Deep.RegionHeld3
import Derived.ArgAppend
set_option linter.unusedVariables false
set_option linter.unusedSimpArgs false
namespace Go.Proofs.Ytkbbbeklgpgolaa
open Go.RowKit Go.Sort Go.Proofs.YtkbbbeklgpgolaaW.PrintWords Pref

/-- Bytes that are read. -/
def BT (w : World) (A : Option Addr) (n : Nat) (xs : List Int) : Prop := (Kd.int .u8).C w A n xs
/-- A row of bytes of the call's own. -/
def BR (w : World) (base : Nat) (v : Value) (xs : List Int) : Prop := (Kd.int .u8).R 5 w base (fun _ => True) v xs
theorem BT.below {w w1 : World} {A : Option Addr} {n : Nat} {xs : List Int} (h : BT w A n xs) (hb : Below w.heap.size w w1) : BT w1 A n xs := Kd.C_below h hb
theorem BR.reads {w : World} {base : Nat} {v : Value} {xs : List Int} (h : BR w base v xs) : ∃ A c, v = .slice A xs.length c ∧ xs.length ≤ c ∧ BT w A xs.length xs := Kd.R_reads h
theorem BR.lower {w : World} {base base' : Nat} {v : Value} {xs : List Int} (h : BR w base v xs) (hb : base' ≤ base) : BR w base' v xs := Kd.R_lower h hb
theorem BR.below {w w1 : World} {base : Nat} {v : Value} {xs : List Int} (h : BR w base v xs) (hb : Below w.heap.size w w1) : BR w1 base v xs := Kd.R_below h hb
theorem BT.nil_ (w : World) (A : Option Addr) : BT w A 0 [] := ⟨rfl, by omega, fun h => by omega⟩
theorem BT.len {w : World} {A : Option Addr} {n : Nat} {xs : List Int} (h : BT w A n xs) : xs.length = n := h.1
theorem BT.none_ {w : World} {n : Nat} {xs : List Int} (h : BT w none n xs) : n = 0 ∧ xs = [] := by
  have h0 : n = 0 := by
    rcases Nat.eq_zero_or_pos n with h0 | h0
    · exact h0
    · obtain ⟨ad, e, _⟩ := h.2.2 h0
      cases e
  subst h0
  exact ⟨rfl, List.eq_nil_of_length_eq_zero h.1⟩
theorem BT.cells {w : World} {ad : Addr} {n : Nat} {xs : List Int} (h : BT w (some ad) n xs) : ∀ j u, (xs.map (Value.int .u8))[j]? = some u → w.cell? (ad.add j) = some u := by
  intro j u hj
  rw [List.getElem?_map] at hj
  obtain ⟨x, hx, rfl⟩ := Option.map_eq_some_iff.1 hj
  have hjl : j < n := by rw [← h.1]; exact (List.getElem?_eq_some_iff.1 hx).1
  obtain ⟨ad', e, hc⟩ := h.2.2 (by omega)
  injection e with e
  subst e
  obtain ⟨c, _, hk, hcell⟩ := hc j x hx
  have hk' : c = [.int .u8 x] := hk
  subst hk'
  have := hcell 0 _ rfl
  simpa [show (Kd.int .u8).sz = 1 from rfl] using this
theorem ownBR {w : World} {base : Nat} {v : Value} {n : Nat} {xs : List Int} (h : w.ownsRow base 5 1 v n (xs.map (Value.int .u8))) : BR w base v xs := by
  have hl : xs.length = n := by have := h.1; rw [List.length_map] at this; omega
  subst hl
  exact Kd.R_of_own (enc := Value.int .u8) (h1 := fun _ => rfl) h (fun _ _ => trivial)
theorem infoB : (Try.prog.info? 5).map (fun i => (i.zero, i.size, i.bytes)) = some (some (.int .u8 0), 1, 1) := by kernel_rfl
set_option maxHeartbeats 1000000 in
theorem cloneB_any (A : Option Addr) (n c : Nat) (xs : List Int) (w : World) (h : BT w A n xs) (hn : n ≤ 140737488355328) :
    Calls Try.prog 66 #[.slice A n c] w fun e w' => ∃ v, e = .returned v ∧ BR w' w.heap.size v xs ∧ Below w.heap.size w w' := by
  have q31 : ∀ (w : World) (a : Option Addr) (n c n' c' : Nat), (binOp .eql 33 (.slice a n c) (.slice none n' c')).run Try.prog w = .ok (.bool a.isNone) w := fun w a n c n' c' => Lib.run_eql_slice_nil w _ _ a n c n' c' Try.underlying33
  rcases A with _ | ad
  · obtain ⟨rfl, rfl⟩ := h.none_
    clear h
    go_enter Try.func66, Try.ntmps66
    go_wp2
    go_ret
    exact ⟨_, rfl, Kd.R_nil _ _ _ _ _, Below.refl _ _⟩
  · have HR := Lib.hid h
    clear h
    go_enter Try.func66, Try.ntmps66
    go_wp2_with ((with_reducible refine gate_builtin (b := .append) (xs := #[.tmp 5, .tmp 6]) rfl ?_); at_builtin; refine Kd.R_append_rows (Kd.int .u8) (Rr := (Kd.int .u8).K w) (w0 := w) w.heap.size rfl (.tmp 5) (.tmp 6) 33 5 _ 1 rfl Try.underlying33 infoB rfl (by decide) (by decide) (.slice (some ⟨w.heap.size, 0, none⟩) 0 0) [] xs (some ad) n c (fun _ => True) (fun _ => False) rfl rfl (ownBR (xs := []) (World.ownsRow_made w #[] 0 (Nat.le_refl _) (Nat.zero_le _) rfl)) (HR.out.below (bAlloc (Below.refl _ _) _)) (fun _ _ h => h) (fun _ h => h.elim) (fun _ _ => trivial) (bAlloc (Below.refl _ _) _) (by simp) (by simp only [List.length_nil]; omega) ?_; intro v1 w1 hR1 hB1 hG1 hat1)
    go_ret
    exact ⟨v1, rfl, by rw [List.nil_append] at hR1; exact hR1, hB1⟩
set_option maxHeartbeats 1000000 in
theorem clipB_any (A : Option Addr) (n c : Nat) (w : World) (hc : n ≤ c) :
    Calls Try.prog 65 #[.slice A n c] w fun e w' => e = .returned (.slice A n n) ∧ w = w' := by
  go_enter Try.func65, Try.ntmps65
  go_wp2
  go_ret
  exact ⟨rfl, rfl⟩
theorem own_any (A : Option Addr) (n c : Nat) (xs : List Int) (w : World) (h : BT w A n xs) (hn : n ≤ 140737488355328) :
    Calls Try.prog 52 #[.slice A n c] w fun e w' => ∃ B, e = .returned (.slice B n n) ∧ BT w' B n xs ∧ Below w.heap.size w w' := by
  have HC := Lib.hid (cloneB_any A n c xs w h hn)
  have hl := h.len
  clear h
  go_enter Try.func52, Try.ntmps52
  go_wp2_with fail
  refine HC.out.mono ?_
  rintro e w1 ⟨v, rfl, hv, hb⟩
  obtain ⟨B, cb, rfl, hcb, hB⟩ := hv.reads
  rw [hl] at hcb hB ⊢
  have HB := Lib.hid hb
  have HT := Lib.hid hB
  clear hb hB hv hl HC
  go_wp2_with fail
  refine (clipB_any B n cb _ hcb).mono ?_
  rintro e w2 ⟨rfl, rfl⟩
  go_wp2_with fail
  go_ret
  exact ⟨B, rfl, HT.out, HB.out⟩
theorem u8_one (x : Int) : ∀ u ∈ [Value.int .u8 x], u.oneCell' = true := by simp [Value.oneCell']
def NumAt (w wr : World) (A : Option Addr) (n : Nat) (xs : List Int) (v0 : Value) (ys : List Int) : Prop := (v0 = .slice A n n ∧ ys = xs ∧ BT wr A n xs) ∨ BR wr w.heap.size v0 ys
section
variable {ops : Array Oper} {rest : List Oper} {o : Oper} {a : Act} {Q : Exit → Act → World → Prop}
/-- One byte more. -/
theorem wp_append_num {w W : World} (hgd : o.guard = none) (s x : Operand) (ho : o.op = .call { callee := .builtin .append, args := #[s, x], argTypes := #[33, 33] })
    (A : Option Addr) (n : Nat) (xs ys : List Int) (v : Value) (b : Int) (hs : a.eval s = v) (hx : a.eval x = .slice (some ⟨W.heap.size, 0, none⟩) 1 1) (HA : NumAt w W A n xs v ys) (HB : Below w.heap.size w W) (hl : ys.length + 1 ≤ 140737488355328)
    (h : ∀ v1 w1, BR w1 w.heap.size v1 (ys ++ [b]) → Below w.heap.size w w1 → wpList Try.prog ops Q rest (a.put o.dst v1) w1) : wpList Try.prog ops Q (o :: rest) a (W.alloc (.cells #[.int .u8 b] 5)) := by
  rcases HA with ⟨rfl, rfl, hb⟩ | hb
  · obtain ⟨i0, hi0, hz0, hz1, hz2⟩ := info_parts infoB
    have hlen := hb.len
    refine wpList_append_grows (W.alloc (.cells #[.int .u8 b] 5)) hgd s x _ ho 5 i0 _ 1 1 Try.underlying33 hi0 hz0 hz1 hz2 rfl (by omega) A n n (ys.map (Value.int .u8)) hs (fun e => by subst e; exact ⟨hb.none_.1, hb.none_.1⟩) (by rw [List.length_map]; omega) (fun ad e j u hu => ?_) ⟨W.heap.size, 0, none⟩ 1 1 [.int .u8 b] hx rfl (fun j u hu => ?_) (by simp [Value.oneCell']) (by omega) (by unfold maxLen; omega) (by omega) ?_
    · subst e
      have h1 := hb.cells j u hu
      exact (World.cell?_alloc_lt _ _ _ (World.block_lt_of_cell? _ _ h1)).trans h1
    · have hj : j = 0 := by
        have := (List.getElem?_eq_some_iff.1 hu).1
        simpa using this
      subst hj
      simp at hu
      subst hu
      exact World.cell?_alloc_at _ _ _ _ (by simp [Addr.add])
    · intro v1 w1 h1 h2
      have hb1 : Below (W.alloc (.cells #[.int .u8 b] 5)).heap.size (W.alloc (.cells #[.int .u8 b] 5)) w1 := (Below.refl _ _).grown h2 (Nat.le_refl _) (fun k hk => by cases hk)
      refine h v1 w1 (BR.lower (ownBR (n := n + 1) (by rw [List.map_append]; exact h1)) ?_) (bThen (bAlloc HB _) hb1)
      have := HB.size
      simp
      omega
  · exact Kd.R_append (Kd.int .u8) (w0 := w) w.heap.size hgd s x 33 5 _ 1 ho Try.underlying33 infoB rfl (by decide) (by decide) v ys b [.int .u8 b] (fun _ => True) (fun _ => False) hs hx rfl (fun _ hk => hk.elim) (fun _ _ => trivial) hb HB HB.size (by omega) (fun v1 w1 h1 h2 _ _ => h v1 w1 h1 h2)
end
set_option maxRecDepth 100000 in
set_option maxHeartbeats 4000000 in
/-- A number behind bytes of which the capacity is the length (or behind a row of the call's own). -/
theorem number_any (A : Option Addr) (n : Nat) (xs : List Int) (x : Nat) (w : World) (h : BT w A n xs) (hx : x < 18446744073709551616) (hn : n + (uint x).length ≤ 140737488355328) :
    Calls Try.prog 51 #[.slice A n n, .int .u64 x] w fun e w' => ∃ v, e = .returned v ∧ BR w' w.heap.size v (xs ++ uint x) ∧ Below w.heap.size w w' := by
  have hl : xs.length = n := h.len
  have HR := Lib.hid h
  have hn2 := hn
  rw [← hl] at hn2
  have HN := Lib.hid hn2
  clear h hn hn2 hl
  go_enter Try.func51, Try.ntmps51
  go_wp2_with fail
  go_loopg [0, 1] x (fun kq v0 v1 wr => ∃ ys : List Int, v1 = .int .u64 (kq : Nat) ∧ kq < 18446744073709551616 ∧ Hid (ys ++ uint kq = xs ++ uint x) ∧ Hid (NumAt w wr A n xs v0 ys) ∧ Hid (Below w.heap.size w wr))
  case atStart => exact ⟨xs, rfl, hx, rfl, .inl ⟨rfl, rfl, HR.out⟩, Below.refl _ _⟩
  case round =>
    obtain ⟨ys, rfl, hk, HE, HA, HB⟩ := hrel
    have hlen : ys.length + (uint gk).length ≤ 140737488355328 := by
      have h1 := congrArg List.length HE.out
      rw [List.length_append, List.length_append] at h1
      have := HN.out
      omega
    have hpos := uint_pos gk
    by_cases h128 : gk < 128
    · have hd : decide (128 ≤ (gk : Int)) = false := decide_eq_false (by omega)
      rw [uint_small h128] at HE hlen
      have HM : Hid (ys.length + 1 ≤ 140737488355328) := hlen
      have hm : (gk : Int) % 256 = gk := by omega
      go_wp2_with ((with_reducible refine gate_builtin (b := .append) (xs := #[.tmp 15, .tmp 18]) rfl ?_); at_builtin; refine wp_append_num (w := w) rfl (.tmp 15) (.tmp 18) rfl A n xs ys u0 gk rfl rfl HA.out HB.out HM.out ?_; intro v1 w1 h1 h2)
      go_ret
      exact ⟨v1, rfl, by rw [← HE.out]; exact h1, h2⟩
    · have hd : decide (128 ≤ (gk : Int)) = true := decide_eq_true (by omega)
      rw [uint_big h128] at HE hlen
      have HM : Hid (ys.length + 1 ≤ 140737488355328) := by
        rw [List.length_cons] at hlen
        exact Nat.le_trans (by omega) hlen
      have ho := or_128 gk
      go_wp2_with ((with_reducible refine gate_builtin (b := .append) (xs := #[.tmp 7, .tmp 11]) rfl ?_); at_builtin; refine wp_append_num (w := w) rfl (.tmp 7) (.tmp 11) rfl A n xs ys u0 (((gk % 128 : Nat) : Int) + 128) rfl rfl HA.out HB.out HM.out ?_; intro v1 w1 h1 h2; have H1 := Lib.hid h1; have H2 := Lib.hid h2; clear h1 h2)
      go_roundg (gk / 128)
      case measure => omega
      case rel => exact ⟨ys ++ [((gk % 128 : Nat) : Int) + 128], by go_num, by omega, by rw [List.append_assoc, List.singleton_append]; exact HE.out, .inr H1.out, H2.out⟩
/-- What wire.Uint answers. -/
theorem uint_any (A : Option Addr) (n c : Nat) (xs : List Int) (x : Nat) (w : World) (h : BT w A n xs) (hx : x < 18446744073709551616) (hn : n + (uint x).length ≤ 140737488355328) :
    Calls Try.prog 36 #[.slice A n c, .int .u64 x] w fun e w' => ∃ v, e = .returned v ∧ BR w' w.heap.size v (xs ++ uint x) ∧ Below w.heap.size w w' := by
  have HO := Lib.hid (own_any A n c xs w h (by omega))
  clear h
  go_enter Try.func36, Try.ntmps36
  go_wp2_with fail
  refine HO.out.mono ?_
  rintro e w1 ⟨B, rfl, hB, hb⟩
  have HB := Lib.hid hb
  have HN := Lib.hid (number_any B n xs x w1 hB hx hn)
  clear hb hB HO
  go_wp2_with fail
  refine HN.out.mono ?_
  rintro e w2 ⟨v, rfl, hv, hb⟩
  have HV := Lib.hid (hv.lower HB.out.size)
  have HB2 := Lib.hid (bThen HB.out hb)
  clear hv hb HN
  go_wp2_with fail
  go_ret
  exact ⟨v, rfl, HV.out, HB2.out⟩
/-- What wire.Text answers. -/
theorem text_any (A : Option Addr) (n c : Nat) (xs : List Int) (s : ByteArray) (w : World) (h : BT w A n xs) (hs : s.size < 18446744073709551616) (hn : n + (uint s.size).length + s.size ≤ 140737488355328) :
    Calls Try.prog 38 #[.slice A n c, .string s] w fun e w' => ∃ v, e = .returned v ∧ BR w' w.heap.size v (xs ++ uint s.size ++ bytesOf s) ∧ Below w.heap.size w w' := by
  have HO := Lib.hid (own_any A n c xs w h (by omega))
  have hw := u64_nat hs
  have hl := h.len
  clear h
  go_enter Try.func38, Try.ntmps38
  go_wp2_with fail
  refine HO.out.mono ?_
  rintro e w1 ⟨B, rfl, hB, hb⟩
  have HB := Lib.hid hb
  have HN := Lib.hid (number_any B n xs s.size w1 hB hs (by omega))
  clear hb hB HO
  go_wp2_with fail
  refine HN.out.mono ?_
  rintro e w2 ⟨v, rfl, hv, hb⟩
  have HV := Lib.hid (hv.lower HB.out.size)
  have HB2 := Lib.hid (bThen HB.out hb)
  have HL : Hid ((xs ++ uint s.size).length + s.size ≤ 140737488355328) := by rw [List.length_append, hl]; exact hn
  clear hv hb HN hl
  go_wp2_with ((with_reducible refine gate_builtin (b := .append) (xs := #[.tmp 10, .tmp 11]) rfl ?_); at_builtin; refine print_append_str (w0 := w) w.heap.size rfl (.tmp 10) (.tmp 11) 33 9 5 rfl Try.underlying33 Try.underlying9 infoB v (xs ++ uint s.size) s rfl rfl (Kd.own_of_R HV.out) HB2.out HB2.out.size HL.out ?_; intro v1 w3 h1 h2 _; have H1 := Lib.hid h1; have H2 := Lib.hid h2; clear h1 h2)
  go_ret
  exact ⟨v1, rfl, Kd.R_of_own (enc := Value.int .u8) (h1 := fun _ => rfl) H1.out (fun _ _ => trivial), H2.out⟩
end Go.Proofs.Ytkbbbeklgpgolaa
