/- What a dictionary tells, asked by the law: tells. -/
import Derived.Test.YtkbbbeklgpgolaaD3
import Derived.Test.YtkbbbeklgpgolaaD4
import Derived.Test.YtkbbbeklgpgolaaB2
set_option linter.unusedVariables false
set_option linter.unusedSimpArgs false
namespace Go.Proofs.Ytkbbbeklgpgolaa
open Go.RowKit Go.Sort Go.Proofs.YtkbbbeklgpgolaaW.PrintWords Pref

theorem refb_any (A : Option Addr) (c : Nat) (l : List ByteArray) (w : World) (h : RT w A l.length l) (hc : l.length ≤ c) (hl : l.length < 100000) (hs : ∀ s ∈ l, s.size ≤ 1000) :
    Calls Try.prog 24 #[.slice A l.length c] w fun e w' => ∃ v, e = .returned v ∧ BR w' w.heap.size v (dictB l) ∧ Below w.heap.size w w' := by
  obtain ⟨k, hk⟩ := ref_bytes hl hs
  exact gristmillref03_Bytes.calls k A c l _ w h hc hk
theorem BT.str {w : World} {A : Option Addr} {n : Nat} {xs : List Int} (h : BT w A n xs) (c : Nat) : (convert 33 9 (.slice A n c)).run Try.prog w = .ok (.string (strOfNums xs)) w :=
  Kd.C_string Try.underlying33 Try.underlying5 Try.underlying9 h
theorem low_at {l : List ByteArray} (h : UpB l) (i : Nat) (hi : i < l.length) : low l l[i] = i := by
  have h1 : ∀ j (hj : j < l.length), (Op.bytesLess l[j].toList l[i].toList) = decide (j < i) := by
    intro j hj
    rw [less_eq]
    have hp := List.pairwise_iff_getElem.1 h
    by_cases hji : j < i
    · have := hp j i (by simpa using hj) (by simpa using hi) hji
      simp only [List.getElem_map] at this
      rw [decide_eq_true this, decide_eq_true hji]
    · rw [decide_eq_false hji]
      refine decide_eq_false fun h2 => ?_
      rcases Nat.lt_or_eq_of_le (Nat.le_of_not_lt hji) with h3 | h3
      · have := hp i j (by simpa using hi) (by simpa using hj) h3
        simp only [List.getElem_map] at this
        exact lt_irr _ (lt_tr this h2)
      · subst h3
        exact lt_irr _ h2
  have hle := low_le l l[i]
  unfold low at hle ⊢
  generalize hf : (fun t : ByteArray => Op.bytesLess t.toList l[i].toList) = f at *
  have hfj : ∀ j (hj : j < l.length), f l[j] = decide (j < i) := by
    intro j hj
    rw [← hf]
    exact h1 j hj
  clear hf h1 h hle
  have hsplit : l.takeWhile f = l.take i := by
    have e : l = l.take i ++ l.drop i := (List.take_append_drop i l).symm
    have h2 : ∀ x ∈ l.take i, f x = true := by
      intro x hx
      obtain ⟨j, hj, rfl⟩ := List.getElem_of_mem hx
      rw [List.getElem_take, hfj]
      rw [List.length_take] at hj
      exact decide_eq_true (by omega)
    have h3 : (l.drop i).takeWhile f = [] := by
      rw [List.drop_eq_getElem_cons hi, List.takeWhile_cons, hfj i hi, decide_eq_false (Nat.lt_irrefl i)]
      rfl
    calc l.takeWhile f = (l.take i ++ l.drop i).takeWhile f := by rw [← e]
      _ = l.take i ++ (l.drop i).takeWhile f := List.takeWhile_append_of_pos h2
      _ = l.take i := by rw [h3, List.append_nil]
  rw [hsplit, List.length_take]
  omega
theorem has_at {l : List ByteArray} (h : UpB l) (i : Nat) (hi : i < l.length) : has l l[i] = true := by
  unfold has
  rw [low_at h i hi, get_eq hi, decide_eq_true hi]
  simp
theorem id_at (d : Nat) (l : List ByteArray) (i : Nat) (w : World) (h : DictAt w d l) (hu : UpB l) (hl : l.length < 100000) (hi : i < l.length) :
    Calls Try.prog 15 #[dptr d, .string l[i]] w fun e w' => e = .returned (.tuple #[.int .i64 (i : Nat), .bool true]) ∧ Below w.heap.size w w' := by
  have h1 := id_any d l l[i] w h hu (by omega)
  rw [has_at hu i hi, low_at hu i hi] at h1
  refine h1.mono ?_
  rintro e w' ⟨rfl, hb⟩
  exact ⟨rfl, hb⟩
theorem reff_any (A : Option Addr) (c : Nat) (l : List ByteArray) (s : ByteArray) (w : World) (h : RT w A l.length l) (hc : l.length ≤ c) (hl : l.length < 100000) :
    Calls Try.prog 23 #[.slice A l.length c, .string s] w fun e w' => e = .returned (.int .i64 (low l s : Nat)) ∧ Below w.heap.size w w' := by
  refine (gristmillref03_From.calls _ A c l s _ w h hc (ref_from l s (by omega))).mono ?_
  rintro e w' ⟨rfl, hd⟩
  exact ⟨rfl, hd.below⟩
theorem refg_any (A : Option Addr) (c : Nat) (l : List ByteArray) (s : ByteArray) (w : World) (h : RT w A l.length l) (hc : l.length ≤ c) (hl : l.length < 100000) :
    Calls Try.prog 25 #[.slice A l.length c, .string s] w fun e w' => e = .returned (.tuple #[.int .i64 (low l s : Nat), .int .i64 ((low l s + many l s : Nat) : Int)]) ∧ Below w.heap.size w w' := by
  obtain ⟨k, hk⟩ := ref_begin l s (by omega)
  refine (gristmillref03_Begin.calls k A c l s _ _ w h hc hk).mono ?_
  rintro e w' ⟨rfl, hd⟩
  exact ⟨rfl, hd.below⟩
theorem id_yes (d : Nat) (l : List ByteArray) (s : ByteArray) (w : World) (h : DictAt w d l) (hu : UpB l) (hl : l.length < 100000) (hs : has l s = true) :
    Calls Try.prog 15 #[dptr d, .string s] w fun e w' => e = .returned (.tuple #[.int .i64 (low l s : Nat), .bool true]) ∧ Below w.heap.size w w' := by
  have h1 := id_any d l s w h hu (by omega)
  rw [hs] at h1
  refine h1.mono ?_
  rintro e w' ⟨rfl, hb⟩
  exact ⟨rfl, hb⟩
theorem id_no (d : Nat) (l : List ByteArray) (s : ByteArray) (w : World) (h : DictAt w d l) (hu : UpB l) (hl : l.length < 100000) (hs : has l s = false) :
    Calls Try.prog 15 #[dptr d, .string s] w fun e w' => e = .returned (.tuple #[.int .i64 0, .bool false]) ∧ Below w.heap.size w w' := by
  have h1 := id_any d l s w h hu (by omega)
  rw [hs] at h1
  refine h1.mono ?_
  rintro e w' ⟨rfl, hb⟩
  exact ⟨rfl, hb⟩
theorem C64_at {w : World} {A : Option Addr} {n : Nat} {xs : List Int} (h : (Kd.int .i64).C w A n xs) (i : Nat) (hi : i < xs.length) : ∃ ad, A = some ad ∧ w.cell? (ad.add i) = some (.int .i64 xs[i]) := by
  obtain ⟨ad, e, hc⟩ := h.2.2 (by have := h.1; omega)
  obtain ⟨c, _, hk, hcell⟩ := hc i _ (List.getElem?_eq_getElem hi)
  have hk' : c = [.int .i64 xs[i]] := hk
  subst hk'
  have := hcell 0 _ rfl
  exact ⟨ad, e, by simpa [show (Kd.int .i64).sz = 1 from rfl] using this⟩
theorem DictAt_drew {w : World} {d : Nat} {l : List ByteArray} (h : DictAt w d l) : DictAt w.drew d l := h.below (bDrew (Below.refl _ _))
theorem DictAt_keep {w w1 : World} {d : Nat} {l : List ByteArray} (hb : Below w.heap.size w w1) (h : DictAt w d l) : DictAt w1 d l := h.below hb
theorem RT_drew {w : World} {A : Option Addr} {n : Nat} {xs : List ByteArray} (h : RT w A n xs) : RT w.drew A n xs := h.below (bDrew (Below.refl _ _))
theorem RT_keep {w w1 : World} {A : Option Addr} {n : Nat} {xs : List ByteArray} (hb : Below w.heap.size w w1) (h : RT w A n xs) : RT w1 A n xs := h.below hb
set_option maxRecDepth 100000 in
set_option maxHeartbeats 8000000 in
theorem tells_any (d : Nat) (l asks : List ByteArray) (ids : List Int) (A1 A2 A3 : Option Addr) (c1 c2 c3 : Nat) (w : World) (hd : DictAt w d l) (hu : UpB l) (hl : l.length < 100000) (hs : ∀ s ∈ l, s.size ≤ 1000)
    (h1 : RT w A1 l.length l) (hc1 : l.length ≤ c1) (h2 : RT w A2 asks.length asks) (h3 : (Kd.int .i64).C w A3 ids.length ids) :
    Calls Try.prog 9 #[dptr d, .slice A1 l.length c1, .slice A2 asks.length c2, .slice A3 ids.length c3] w fun e w' => e = .returned (.bool true) ∧ Below w.heap.size w w' := by
  have HD := Lib.hid hd
  have HU := Lib.hid hu
  have HL := Lib.hid hl
  have HS := Lib.hid hs
  have H1 := Lib.hid h1
  have H2 := Lib.hid h2
  have H3 := Lib.hid h3
  have HLE := Lib.hid (fun W hW => len_any d l W hW)
  have HBY := Lib.hid (fun W hW => bytes_any d l W hW hl hs)
  have HRB := Lib.hid (fun W hW => refb_any A1 c1 l W hW hc1 hl hs)
  clear hd hu hs h1 h2 h3
  generalize hbb : dictB l = bb at HBY HRB
  clear hbb
  go_enter Try.func9, Try.ntmps9
  go_upto_region 1 with fail
  go_cut [40] (fun v40 wx => v40 = .bool false ∧ Below w.heap.size w wx)
  case first =>
    refine wp_region_held_drew (S := fun _ => True) (by kernel_rfl) ?_ (fun hHeld => ?_)
    · (try dsimp only); (try exact trivial)
    try simp only [Act.put, List.setIfInBounds_toArray, List.set_cons_zero, List.set_cons_succ]
    refine wpAnyH_take (i := 0) (oi := { dst := some 27, op := Go.Op.move (Go.Operand.tmp 0), type := 25, pos := "law.go:25", after := #[], guard := none }) (v := ?v1) rfl (by kernel_rfl) (by kernel_rfl) (by kernel_rfl) (fun _ _ _ h => h) (Or.inl ⟨by rfl, ?hy1⟩) (by assumption) ?rest1
    case hy1 => (intro w hSw; (try dsimp only at hSw); go_simp; first | done | with_reducible rfl)
    try simp only [Act.put, List.setIfInBounds_toArray, List.set_cons_zero, List.set_cons_succ]
    refine wpAnyH_take (i := 2) (oi := { dst := some 29, op := Go.Op.move (Go.Operand.tmp 1), type := 22, pos := "law.go:25", after := #[], guard := none }) (v := ?v2) rfl (by kernel_rfl) (by kernel_rfl) (by kernel_rfl) (fun _ _ _ h => h) (Or.inl ⟨by rfl, ?hy2⟩) (by assumption) ?rest2
    case hy2 => (intro w hSw; (try dsimp only at hSw); go_simp; first | done | with_reducible rfl)
    try simp only [Act.put, List.setIfInBounds_toArray, List.set_cons_zero, List.set_cons_succ]
    refine wpAnyH_take (i := 3) (oi := { dst := some 30, op := Go.Op.call { callee := Go.Callee.builtin Go.Builtin.len, args := #[Go.Operand.tmp 29], argTypes := #[22] }, type := 3, pos := "law.go:25", after := #[{ on := 2, ground := Go.Ground.data }], guard := none }) (v := ?v3) rfl (by kernel_rfl) (by kernel_rfl) (by kernel_rfl) (fun _ _ _ h => h) (Or.inl ⟨by rfl, ?hy3⟩) (by assumption) ?rest3
    case hy3 => (intro w hSw; (try dsimp only at hSw); go_simp; first | done | with_reducible rfl)
    try simp only [Act.put, List.setIfInBounds_toArray, List.set_cons_zero, List.set_cons_succ]
    refine wpAnyH_ready (rs := [1]) (by kernel_rfl) (by simp) ?_
    refine AllReadyH.cons (o := { dst := some 28, op := Go.Op.call { callee := Go.Callee.value (Go.Operand.func 13), args := #[Go.Operand.tmp 27], argTypes := #[25] }, type := 3, pos := "law.go:25", after := #[{ on := 0, ground := Go.Ground.data }], guard := none }) rfl (fun K hK => ?_) ?_
    · go_simp
      go_at_call 13
      refine (HLE.out _ ?_).mono ?_
      · (focus (with_reducible (repeat' (first | exact HD.out | refine DictAt_drew ?_ | refine DictAt_keep (by assumption) ?_))))
      rintro e wa ⟨rfl, rfl⟩
      first | (refine hK.out _ _ ?_ (fun hHeld => ?_)) | (go_wp2_with fail; refine hK.out _ _ ?_ (fun hHeld => ?_))
      · (try dsimp only); (try exact trivial)
      clear hK K
      try simp only [Act.put, List.setIfInBounds_toArray, List.set_cons_zero, List.set_cons_succ]
      refine wpAnyH_take (i := 4) (oi := { dst := some 31, op := Go.Op.binOp Go.BinOp.neq 3 (Go.Operand.tmp 28) (Go.Operand.tmp 30) 3, type := 4, pos := "law.go:25", after := #[{ on := 1, ground := Go.Ground.data }, { on := 3, ground := Go.Ground.data }], guard := none }) (v := ?v4) rfl (by kernel_rfl) (by kernel_rfl) (by kernel_rfl) (fun _ _ _ h => h) (Or.inl ⟨by rfl, ?hy4⟩) (by assumption) ?rest4
      case hy4 => (intro w hSw; (try dsimp only at hSw); go_simp; first | done | with_reducible rfl)
      try simp only [Act.put, List.setIfInBounds_toArray, List.set_cons_zero, List.set_cons_succ]
      refine wpAnyH_take (i := 5) (oi := { dst := some 32, op := Go.Op.move (Go.Operand.tmp 31), type := 4, pos := "law.go:25", after := #[{ on := 4, ground := Go.Ground.data }, { on := 1, ground := Go.Ground.chain }], guard := none }) (v := ?v5) rfl (by kernel_rfl) (by kernel_rfl) (by kernel_rfl) (fun _ _ _ h => h) (Or.inl ⟨by rfl, ?hy5⟩) (by assumption) ?rest5
      case hy5 => (intro w hSw; (try dsimp only at hSw); go_simp; first | done | with_reducible rfl)
      try simp only [Act.put, List.setIfInBounds_toArray, List.set_cons_zero, List.set_cons_succ]
      refine wpAnyH_take (i := 6) (oi := { dst := some 33, op := Go.Op.move (Go.Operand.tmp 0), type := 25, pos := "law.go:25", after := #[{ on := 5, ground := Go.Ground.guard }], guard := some (5, false) }) (v := ?v6) rfl (by kernel_rfl) (by kernel_rfl) (by kernel_rfl) (fun _ _ _ h => h) (Or.inl ⟨by rfl, ?hy6⟩) (by assumption) ?rest6
      case hy6 => (intro w hSw; (try dsimp only at hSw); go_simp; first | done | with_reducible rfl)
      try simp only [Act.put, List.setIfInBounds_toArray, List.set_cons_zero, List.set_cons_succ]
      refine wpAnyH_take (i := 9) (oi := { dst := some 36, op := Go.Op.move (Go.Operand.tmp 1), type := 22, pos := "law.go:25", after := #[{ on := 5, ground := Go.Ground.guard }], guard := some (5, false) }) (v := ?v7) rfl (by kernel_rfl) (by kernel_rfl) (by kernel_rfl) (fun _ _ _ h => h) (Or.inl ⟨by rfl, ?hy7⟩) (by assumption) ?rest7
      case hy7 => (intro w hSw; (try dsimp only at hSw); go_simp; first | done | with_reducible rfl)
      try simp only [Act.put, List.setIfInBounds_toArray, List.set_cons_zero, List.set_cons_succ]
      refine wpAnyH_ready (rs := [7]) (by kernel_rfl) (by simp) ?_
      refine AllReadyH.cons (o := { dst := some 34, op := Go.Op.call { callee := Go.Callee.value (Go.Operand.func 12), args := #[Go.Operand.tmp 33], argTypes := #[25] }, type := 33, pos := "law.go:25", after := #[{ on := 6, ground := Go.Ground.data }, { on := 5, ground := Go.Ground.chain }, { on := 5, ground := Go.Ground.guard }], guard := some (5, false) }) rfl (fun K hK => ?_) ?_
      · go_simp
        go_at_call 12
        refine (HBY.out _ ?_).mono ?_
        · (focus (with_reducible (repeat' (first | exact HD.out | refine DictAt_drew ?_ | refine DictAt_keep (by assumption) ?_))))
        rintro e wb ⟨vb, rfl, hvb, hbb⟩
        obtain ⟨Ab, cb, rfl, hcb, htb⟩ := hvb.reads
        have hcvb := htb.str cb
        first | (refine hK.out _ _ ?_ (fun hHeld => ?_)) | (go_wp2_with fail; refine hK.out _ _ ?_ (fun hHeld => ?_))
        · (try dsimp only); (try exact trivial)
        clear hK K
        try simp only [Act.put, List.setIfInBounds_toArray, List.set_cons_zero, List.set_cons_succ]
        refine wpAnyH_ready (rs := [8, 10]) (by kernel_rfl) (by simp) ?_
        refine AllReadyH.cons (o := { dst := some 35, op := Go.Op.convert 33 9 (Go.Operand.tmp 34), type := 9, pos := "law.go:25", after := #[{ on := 7, ground := Go.Ground.data }, { on := 5, ground := Go.Ground.guard }], guard := some (5, false) }) rfl (fun K hK => ?_) ?_
        · go_simp
          first | (refine hK.out _ _ ?_ (fun hHeld => ?_)) | (go_wp2_with fail; refine hK.out _ _ ?_ (fun hHeld => ?_))
          · (try dsimp only); (try exact trivial)
          clear hK K
          try simp only [Act.put, List.setIfInBounds_toArray, List.set_cons_zero, List.set_cons_succ]
          refine wpAnyH_ready (rs := [10]) (by kernel_rfl) (by simp) ?_
          refine AllReadyH.cons (o := { dst := some 37, op := Go.Op.call { callee := Go.Callee.value (Go.Operand.func 24), args := #[Go.Operand.tmp 36], argTypes := #[22] }, type := 33, pos := "law.go:25", after := #[{ on := 9, ground := Go.Ground.data }, { on := 7, ground := Go.Ground.chain }, { on := 5, ground := Go.Ground.guard }], guard := some (5, false) }) rfl (fun K hK => ?_) ?_
          · go_simp
            go_at_call 24
            refine (HRB.out _ ?_).mono ?_
            · (focus (with_reducible (repeat' (first | exact H1.out | refine RT_drew ?_ | refine RT_keep (by assumption) ?_))))
            rintro e wc ⟨vc, rfl, hvc, hbc⟩
            obtain ⟨Ac, cc, rfl, hcc, htc⟩ := hvc.reads
            have hcvc := htc.str cc
            have hcvb2 := (BT_keep hbc htb).str cb
            first | (refine hK.out _ _ ?_ (fun hHeld => ?_)) | (go_wp2_with fail; refine hK.out _ _ ?_ (fun hHeld => ?_))
            · (try dsimp only); (try exact trivial)
            clear hK K
            try simp only [Act.put, List.setIfInBounds_toArray, List.set_cons_zero, List.set_cons_succ]
            refine wpAnyH_ready (rs := [11]) (by kernel_rfl) (by simp) ?_
            refine AllReadyH.cons (o := { dst := some 38, op := Go.Op.convert 33 9 (Go.Operand.tmp 37), type := 9, pos := "law.go:25", after := #[{ on := 10, ground := Go.Ground.data }, { on := 5, ground := Go.Ground.guard }], guard := some (5, false) }) rfl (fun K hK => ?_) ?_
            · go_simp
              first | (refine hK.out _ _ ?_ (fun hHeld => ?_)) | (go_wp2_with fail; refine hK.out _ _ ?_ (fun hHeld => ?_))
              · (try dsimp only); (try exact trivial)
              clear hK K
              try simp only [Act.put, List.setIfInBounds_toArray, List.set_cons_zero, List.set_cons_succ]
              refine wpAnyH_take (i := 12) (oi := { dst := some 39, op := Go.Op.binOp Go.BinOp.neq 9 (Go.Operand.tmp 35) (Go.Operand.tmp 38) 9, type := 4, pos := "law.go:25", after := #[{ on := 8, ground := Go.Ground.data }, { on := 11, ground := Go.Ground.data }, { on := 5, ground := Go.Ground.guard }], guard := some (5, false) }) (v := ?v8) rfl (by kernel_rfl) (by kernel_rfl) (by kernel_rfl) (fun _ _ _ h => h) (Or.inl ⟨by rfl, ?hy8⟩) (by assumption) ?rest8
              case hy8 => (intro w hSw; (try dsimp only at hSw); go_simp; first | done | with_reducible rfl)
              try simp only [Act.put, List.setIfInBounds_toArray, List.set_cons_zero, List.set_cons_succ]
              refine wpAnyH_take (i := 13) (oi := { dst := some 40, op := Go.Op.pick (Go.Operand.tmp 32) (Go.Operand.const (Go.Value.bool true)) (Go.Operand.tmp 39), type := 4, pos := "law.go:25", after := #[{ on := 5, ground := Go.Ground.data }, { on := 12, ground := Go.Ground.data }], guard := none }) (v := ?v9) rfl (by kernel_rfl) (by kernel_rfl) (by kernel_rfl) (fun _ _ _ h => h) (Or.inl ⟨by rfl, ?hy9⟩) (by assumption) ?rest9
              case hy9 => (intro w hSw; (try dsimp only at hSw); go_simp; first | done | with_reducible rfl)
              try simp only [Act.put, List.setIfInBounds_toArray, List.set_cons_zero, List.set_cons_succ]
              refine wpAnyH_done (by kernel_rfl) ?_ _
              go_wp2_with fail
              go_meet
              exact ⟨rfl, by with_reducible ((repeat' (first | exact Below.refl _ _ | refine bDrew ?_ | refine bThen ?_ (by assumption))); done)⟩
            exact AllReadyH.nil
          exact AllReadyH.nil
        refine AllReadyH.cons (o := { dst := some 37, op := Go.Op.call { callee := Go.Callee.value (Go.Operand.func 24), args := #[Go.Operand.tmp 36], argTypes := #[22] }, type := 33, pos := "law.go:25", after := #[{ on := 9, ground := Go.Ground.data }, { on := 7, ground := Go.Ground.chain }, { on := 5, ground := Go.Ground.guard }], guard := some (5, false) }) rfl (fun K hK => ?_) ?_
        · go_simp
          go_at_call 24
          refine (HRB.out _ ?_).mono ?_
          · (focus (with_reducible (repeat' (first | exact H1.out | refine RT_drew ?_ | refine RT_keep (by assumption) ?_))))
          rintro e wc ⟨vc, rfl, hvc, hbc⟩
          obtain ⟨Ac, cc, rfl, hcc, htc⟩ := hvc.reads
          have hcvc := htc.str cc
          have hcvb2 := (BT_keep hbc htb).str cb
          first | (refine hK.out _ _ ?_ (fun hHeld => ?_)) | (go_wp2_with fail; refine hK.out _ _ ?_ (fun hHeld => ?_))
          · (try dsimp only); (try exact trivial)
          clear hK K
          try simp only [Act.put, List.setIfInBounds_toArray, List.set_cons_zero, List.set_cons_succ]
          refine wpAnyH_ready (rs := [8, 11]) (by kernel_rfl) (by simp) ?_
          refine AllReadyH.cons (o := { dst := some 35, op := Go.Op.convert 33 9 (Go.Operand.tmp 34), type := 9, pos := "law.go:25", after := #[{ on := 7, ground := Go.Ground.data }, { on := 5, ground := Go.Ground.guard }], guard := some (5, false) }) rfl (fun K hK => ?_) ?_
          · go_simp
            first | (refine hK.out _ _ ?_ (fun hHeld => ?_)) | (go_wp2_with fail; refine hK.out _ _ ?_ (fun hHeld => ?_))
            · (try dsimp only); (try exact trivial)
            clear hK K
            try simp only [Act.put, List.setIfInBounds_toArray, List.set_cons_zero, List.set_cons_succ]
            refine wpAnyH_ready (rs := [11]) (by kernel_rfl) (by simp) ?_
            refine AllReadyH.cons (o := { dst := some 38, op := Go.Op.convert 33 9 (Go.Operand.tmp 37), type := 9, pos := "law.go:25", after := #[{ on := 10, ground := Go.Ground.data }, { on := 5, ground := Go.Ground.guard }], guard := some (5, false) }) rfl (fun K hK => ?_) ?_
            · go_simp
              first | (refine hK.out _ _ ?_ (fun hHeld => ?_)) | (go_wp2_with fail; refine hK.out _ _ ?_ (fun hHeld => ?_))
              · (try dsimp only); (try exact trivial)
              clear hK K
              try simp only [Act.put, List.setIfInBounds_toArray, List.set_cons_zero, List.set_cons_succ]
              refine wpAnyH_take (i := 12) (oi := { dst := some 39, op := Go.Op.binOp Go.BinOp.neq 9 (Go.Operand.tmp 35) (Go.Operand.tmp 38) 9, type := 4, pos := "law.go:25", after := #[{ on := 8, ground := Go.Ground.data }, { on := 11, ground := Go.Ground.data }, { on := 5, ground := Go.Ground.guard }], guard := some (5, false) }) (v := ?v10) rfl (by kernel_rfl) (by kernel_rfl) (by kernel_rfl) (fun _ _ _ h => h) (Or.inl ⟨by rfl, ?hy10⟩) (by assumption) ?rest10
              case hy10 => (intro w hSw; (try dsimp only at hSw); go_simp; first | done | with_reducible rfl)
              try simp only [Act.put, List.setIfInBounds_toArray, List.set_cons_zero, List.set_cons_succ]
              refine wpAnyH_take (i := 13) (oi := { dst := some 40, op := Go.Op.pick (Go.Operand.tmp 32) (Go.Operand.const (Go.Value.bool true)) (Go.Operand.tmp 39), type := 4, pos := "law.go:25", after := #[{ on := 5, ground := Go.Ground.data }, { on := 12, ground := Go.Ground.data }], guard := none }) (v := ?v11) rfl (by kernel_rfl) (by kernel_rfl) (by kernel_rfl) (fun _ _ _ h => h) (Or.inl ⟨by rfl, ?hy11⟩) (by assumption) ?rest11
              case hy11 => (intro w hSw; (try dsimp only at hSw); go_simp; first | done | with_reducible rfl)
              try simp only [Act.put, List.setIfInBounds_toArray, List.set_cons_zero, List.set_cons_succ]
              refine wpAnyH_done (by kernel_rfl) ?_ _
              go_wp2_with fail
              go_meet
              exact ⟨rfl, by with_reducible ((repeat' (first | exact Below.refl _ _ | refine bDrew ?_ | refine bThen ?_ (by assumption))); done)⟩
            exact AllReadyH.nil
          refine AllReadyH.cons (o := { dst := some 38, op := Go.Op.convert 33 9 (Go.Operand.tmp 37), type := 9, pos := "law.go:25", after := #[{ on := 10, ground := Go.Ground.data }, { on := 5, ground := Go.Ground.guard }], guard := some (5, false) }) rfl (fun K hK => ?_) ?_
          · go_simp
            first | (refine hK.out _ _ ?_ (fun hHeld => ?_)) | (go_wp2_with fail; refine hK.out _ _ ?_ (fun hHeld => ?_))
            · (try dsimp only); (try exact trivial)
            clear hK K
            try simp only [Act.put, List.setIfInBounds_toArray, List.set_cons_zero, List.set_cons_succ]
            refine wpAnyH_ready (rs := [8]) (by kernel_rfl) (by simp) ?_
            refine AllReadyH.cons (o := { dst := some 35, op := Go.Op.convert 33 9 (Go.Operand.tmp 34), type := 9, pos := "law.go:25", after := #[{ on := 7, ground := Go.Ground.data }, { on := 5, ground := Go.Ground.guard }], guard := some (5, false) }) rfl (fun K hK => ?_) ?_
            · go_simp
              first | (refine hK.out _ _ ?_ (fun hHeld => ?_)) | (go_wp2_with fail; refine hK.out _ _ ?_ (fun hHeld => ?_))
              · (try dsimp only); (try exact trivial)
              clear hK K
              try simp only [Act.put, List.setIfInBounds_toArray, List.set_cons_zero, List.set_cons_succ]
              refine wpAnyH_take (i := 12) (oi := { dst := some 39, op := Go.Op.binOp Go.BinOp.neq 9 (Go.Operand.tmp 35) (Go.Operand.tmp 38) 9, type := 4, pos := "law.go:25", after := #[{ on := 8, ground := Go.Ground.data }, { on := 11, ground := Go.Ground.data }, { on := 5, ground := Go.Ground.guard }], guard := some (5, false) }) (v := ?v12) rfl (by kernel_rfl) (by kernel_rfl) (by kernel_rfl) (fun _ _ _ h => h) (Or.inl ⟨by rfl, ?hy12⟩) (by assumption) ?rest12
              case hy12 => (intro w hSw; (try dsimp only at hSw); go_simp; first | done | with_reducible rfl)
              try simp only [Act.put, List.setIfInBounds_toArray, List.set_cons_zero, List.set_cons_succ]
              refine wpAnyH_take (i := 13) (oi := { dst := some 40, op := Go.Op.pick (Go.Operand.tmp 32) (Go.Operand.const (Go.Value.bool true)) (Go.Operand.tmp 39), type := 4, pos := "law.go:25", after := #[{ on := 5, ground := Go.Ground.data }, { on := 12, ground := Go.Ground.data }], guard := none }) (v := ?v13) rfl (by kernel_rfl) (by kernel_rfl) (by kernel_rfl) (fun _ _ _ h => h) (Or.inl ⟨by rfl, ?hy13⟩) (by assumption) ?rest13
              case hy13 => (intro w hSw; (try dsimp only at hSw); go_simp; first | done | with_reducible rfl)
              try simp only [Act.put, List.setIfInBounds_toArray, List.set_cons_zero, List.set_cons_succ]
              refine wpAnyH_done (by kernel_rfl) ?_ _
              go_wp2_with fail
              go_meet
              exact ⟨rfl, by with_reducible ((repeat' (first | exact Below.refl _ _ | refine bDrew ?_ | refine bThen ?_ (by assumption))); done)⟩
            exact AllReadyH.nil
          exact AllReadyH.nil
        exact AllReadyH.nil
      exact AllReadyH.nil
    exact AllReadyH.nil
  case rest =>
    obtain ⟨rfl, hb0⟩ := hcut
    have HB0 := Lib.hid hb0
    clear hb0 HBY HRB HLE
    go_wp2_with fail
    go_loopg [9] l.length (fun kq v9 wr => ∃ i : Nat, v9 = .int .i64 (i : Nat) ∧ kq + i = l.length ∧ Hid (Below w.heap.size w wr))
    case atStart => exact ⟨0, rfl, rfl, HB0.out⟩
    case round =>
      obtain ⟨i, rfl, hki, HB⟩ := hrel
      by_cases hi : i < l.length
      · have HT := Lib.hid (text_in d l i wr (HD.out.below HB.out) hi)
        have HI := Lib.hid (fun W hW => id_at d l i W hW HU.out HL.out hi)
        obtain ⟨ad, rfl, hcells⟩ := (H1.out.below HB.out).at_ (by omega)
        have q1 := hcells i _ (List.getElem?_eq_getElem hi)
        generalize l[i] = s at *
        have hlt : decide ((i : Int) < (l.length : Int)) = true := decide_eq_true (by omega)
        have hne : (s.toList != s.toList) = false := bne_self_eq_false _
        clear hcells
        go_wp2_with (go_at_call 14; refine HT.out.mono ?_; rintro e w' ⟨rfl, rfl⟩)
        refine (HI.out _ (HD.out.below HB.out)).mono ?_
        rintro e w2 ⟨rfl, hb2⟩
        have q2 := cellK hb2 q1
        have HB2 := Lib.hid (bThen HB.out hb2)
        clear hb2 q1 HT HI
        go_wp2_with fail
        go_roundg (gk - 1)
        case measure => omega
        case rel => exact ⟨i + 1, by go_num, by omega, HB2.out⟩
      · go_wp2_with fail
        go_loopg [14] asks.length (fun kq v14 wr => ∃ i : Nat, v14 = .int .i64 (i : Nat) ∧ kq + i = asks.length ∧ Hid (Below w.heap.size w wr))
        case atStart => exact ⟨0, rfl, rfl, HB.out⟩
        case round =>
          clear hki hi HB
          obtain ⟨i, rfl, hki, HB⟩ := hrel
          have hal : asks.length ≤ 9223372036854775807 := H2.out.2.1
          by_cases hi : i < asks.length
          · obtain ⟨ad, rfl, hcells⟩ := (H2.out.below HB.out).at_ (by omega)
            have q2 := hcells i _ (List.getElem?_eq_getElem hi)
            generalize asks[i] = s at *
            clear hcells
            have hl9 : l.length < 4611686018427387904 := by have := HL.out; omega
            have HF := Lib.hid (fun W hW => reff_any A1 c1 l s W hW hc1 HL.out)
            have HG := Lib.hid (fun W hW => refg_any A1 c1 l s W hW hc1 HL.out)
            have HE := Lib.hid (fun W hW => begin_any d l s W hW HU.out hl9)
            have HFR := Lib.hid (fun W hW => from_any d l s W hW HU.out hl9)
            have hlow := low_le l s
            have hmany := many_le l s
            clear hl9
            rcases has_cases l s with ⟨t, hk, hkt, hhas⟩ | ⟨hk, hhas⟩
            · have HKT := Lib.hid hkt
              by_cases hbt : (t.toList == s.toList) = true
              · have HI := Lib.hid (fun W hW => id_yes d l s W hW HU.out HL.out (hhas.trans hbt))
                clear hhas hkt
                generalize low l s = k at *
                generalize many l s = m at *
                go_wp2_with fail
                refine (HF.out _ (H1.out.below HB.out)).mono ?_
                rintro e w3 ⟨rfl, hb3⟩
                have q3 := cellK hb3 q2
                have HB3 := Lib.hid (bThen HB.out hb3)
                clear hb3 q2
                go_wp2_with fail
                refine (HG.out _ (H1.out.below HB3.out)).mono ?_
                rintro e w4 ⟨rfl, hb4⟩
                have q4 := cellK hb4 q3
                have HB4 := Lib.hid (bThen HB3.out hb4)
                clear hb4 q3
                go_wp2_with fail
                refine (HE.out _ (HD.out.below HB4.out)).mono ?_
                rintro e w5 ⟨rfl, hb5⟩
                have q5 := cellK hb5 q4
                have HB5 := Lib.hid (bThen HB4.out hb5)
                clear hb5 q4
                go_wp2_with fail
                refine (HI.out _ (HD.out.below HB5.out)).mono ?_
                rintro e w6 ⟨rfl, hb6⟩
                have q6 := cellK hb6 q5
                have HB6 := Lib.hid (bThen HB5.out hb6)
                clear hb6 q5
                have r6 := (H1.out.below HB6.out)
                obtain ⟨ad1, rfl, hcells⟩ := r6.at_ (by omega)
                have p6 := hcells k t HKT.out
                clear hcells r6
                go_upto_region 17 with fail
                go_quiet (fail)
                go_wp2_with fail
                refine (HFR.out _ (HD.out.below (bDrewN HB6.out _))).mono ?_
                rintro e w7 ⟨rfl, hb7⟩
                have HB7 := Lib.hid (bThen (bDrewN HB6.out _) hb7)
                clear hb7
                go_wp2_with fail
                go_roundg (gk - 1)
                case measure => omega
                case rel => exact ⟨i + 1, by go_num, by omega, HB7.out⟩
              · have hbt := Bool.eq_false_iff.2 hbt
                have HI := Lib.hid (fun W hW => id_no d l s W hW HU.out HL.out (hhas.trans hbt))
                clear hhas hkt
                generalize low l s = k at *
                generalize many l s = m at *
                go_wp2_with fail
                refine (HF.out _ (H1.out.below HB.out)).mono ?_
                rintro e w3 ⟨rfl, hb3⟩
                have q3 := cellK hb3 q2
                have HB3 := Lib.hid (bThen HB.out hb3)
                clear hb3 q2
                go_wp2_with fail
                refine (HG.out _ (H1.out.below HB3.out)).mono ?_
                rintro e w4 ⟨rfl, hb4⟩
                have q4 := cellK hb4 q3
                have HB4 := Lib.hid (bThen HB3.out hb4)
                clear hb4 q3
                go_wp2_with fail
                refine (HE.out _ (HD.out.below HB4.out)).mono ?_
                rintro e w5 ⟨rfl, hb5⟩
                have q5 := cellK hb5 q4
                have HB5 := Lib.hid (bThen HB4.out hb5)
                clear hb5 q4
                go_wp2_with fail
                refine (HI.out _ (HD.out.below HB5.out)).mono ?_
                rintro e w6 ⟨rfl, hb6⟩
                have q6 := cellK hb6 q5
                have HB6 := Lib.hid (bThen HB5.out hb6)
                clear hb6 q5
                have r6 := (H1.out.below HB6.out)
                obtain ⟨ad1, rfl, hcells⟩ := r6.at_ (by omega)
                have p6 := hcells k t HKT.out
                clear hcells r6
                go_upto_region 17 with fail
                go_quiet (fail)
                go_wp2_with fail
                refine (HFR.out _ (HD.out.below (bDrewN HB6.out _))).mono ?_
                rintro e w7 ⟨rfl, hb7⟩
                have HB7 := Lib.hid (bThen (bDrewN HB6.out _) hb7)
                clear hb7
                go_wp2_with fail
                go_roundg (gk - 1)
                case measure => omega
                case rel => exact ⟨i + 1, by go_num, by omega, HB7.out⟩
            · have HI := Lib.hid (fun W hW => id_no d l s W hW HU.out HL.out hhas)
              clear hhas
              generalize low l s = k at *
              generalize many l s = m at *
              go_wp2_with fail
              refine (HF.out _ (H1.out.below HB.out)).mono ?_
              rintro e w3 ⟨rfl, hb3⟩
              have q3 := cellK hb3 q2
              have HB3 := Lib.hid (bThen HB.out hb3)
              clear hb3 q2
              go_wp2_with fail
              refine (HG.out _ (H1.out.below HB3.out)).mono ?_
              rintro e w4 ⟨rfl, hb4⟩
              have q4 := cellK hb4 q3
              have HB4 := Lib.hid (bThen HB3.out hb4)
              clear hb4 q3
              go_wp2_with fail
              refine (HE.out _ (HD.out.below HB4.out)).mono ?_
              rintro e w5 ⟨rfl, hb5⟩
              have q5 := cellK hb5 q4
              have HB5 := Lib.hid (bThen HB4.out hb5)
              clear hb5 q4
              go_wp2_with fail
              refine (HI.out _ (HD.out.below HB5.out)).mono ?_
              rintro e w6 ⟨rfl, hb6⟩
              have q6 := cellK hb6 q5
              have HB6 := Lib.hid (bThen HB5.out hb6)
              clear hb6 q5
              go_upto_region 17 with fail
              go_quiet (fail)
              go_wp2_with fail
              refine (HFR.out _ (HD.out.below (bDrewN HB6.out _))).mono ?_
              rintro e w7 ⟨rfl, hb7⟩
              have HB7 := Lib.hid (bThen (bDrewN HB6.out _) hb7)
              clear hb7
              go_wp2_with fail
              go_roundg (gk - 1)
              case measure => omega
              case rel => exact ⟨i + 1, by go_num, by omega, HB7.out⟩
          · go_wp2_with fail
            go_loopg [23] ids.length (fun kq v23 wr => ∃ i : Nat, v23 = .int .i64 (i : Nat) ∧ kq + i = ids.length ∧ Hid (Below w.heap.size w wr))
            case atStart => exact ⟨0, rfl, rfl, HB.out⟩
            case round =>
              clear hki hi HB
              obtain ⟨i, rfl, hki, HB⟩ := hrel
              have hal : ids.length ≤ 9223372036854775807 := H3.out.2.1
              by_cases hi : i < ids.length
              · obtain ⟨ad, rfl, q2⟩ := C64_at (Kd.C_below H3.out HB.out) i (by omega)
                generalize ids[i] = z at *
                by_cases hz : 0 ≤ z ∧ z < (l.length : Int)
                · obtain ⟨j, rfl⟩ : ∃ j : Nat, z = (j : Int) := ⟨z.toNat, by omega⟩
                  have hj : j < l.length := by omega
                  have HT := Lib.hid (text_in d l j wr (HD.out.below HB.out) hj)
                  obtain ⟨ad1, rfl, hcells⟩ := (H1.out.below HB.out).at_ (by omega)
                  have p1 := hcells j _ (List.getElem?_eq_getElem hj)
                  generalize l[j] = s at *
                  have hne : (s.toList != s.toList) = false := bne_self_eq_false _
                  have hz0 : (0 : Int) ≤ (j : Int) := by omega
                  clear hcells hz
                  go_wp2_with fail
                  refine HT.out.mono ?_
                  rintro e w' ⟨rfl, rfl⟩
                  go_wp2_with fail
                  go_roundg (gk - 1)
                  case measure => omega
                  case rel => exact ⟨i + 1, by go_num, by omega, HB.out⟩
                · have HT := Lib.hid (text_out d l z wr (HD.out.below HB.out) (by omega))
                  by_cases hz0 : (0 : Int) ≤ z
                  · have hz1 : ¬ z < (l.length : Int) := fun h => hz ⟨hz0, h⟩
                    clear hz
                    go_wp2_with fail
                    refine HT.out.mono ?_
                    rintro e w' ⟨rfl, rfl⟩
                    go_wp2_with fail
                    go_roundg (gk - 1)
                    case measure => omega
                    case rel => exact ⟨i + 1, by go_num, by omega, HB.out⟩
                  · clear hz
                    go_wp2_with fail
                    refine HT.out.mono ?_
                    rintro e w' ⟨rfl, rfl⟩
                    go_wp2_with fail
                    go_roundg (gk - 1)
                    case measure => omega
                    case rel => exact ⟨i + 1, by go_num, by omega, HB.out⟩
              · go_wp2_with fail
                go_ret
                exact ⟨rfl, HB.out⟩
end Go.Proofs.Ytkbbbeklgpgolaa
