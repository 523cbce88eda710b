/- What slices.Clone, Sort and Compact at []string answer, in this seat's words. -/
import Derived.Test.YtkbbbeklgpgolaaA0
import Derived.Test.YtkbbbeklgpgolaaShelf
import Derived.Test.YtkbbbeklgpgolaaWWords
import Derived.Sort.OwnSorted
set_option linter.unusedVariables false
set_option linter.unusedSimpArgs false
namespace Go.Proofs.Ytkbbbeklgpgolaa
open Go.RowKit Go.Sort YtkbbbeklgpgolaaW.PrintWords

def strV (xs : List ByteArray) : List Value := xs.map Value.string
def bl (s : ByteArray) : List UInt8 := s.data.toList
def lb (l : List UInt8) : ByteArray := ⟨l.toArray⟩
theorem lb_bl (s : ByteArray) : lb (bl s) = s := by unfold lb bl; simp
theorem bl_lb (l : List UInt8) : bl (lb l) = l := by unfold lb bl; simp
theorem strV_map (ls : List (List UInt8)) : strV (ls.map lb) = ls.map encStr := by simp [strV, lb, encStr]
theorem strV_bl (xs : List ByteArray) : strV xs = (xs.map bl).map encStr := by
  rw [← strV_map, List.map_map]
  congr 1
  conv => lhs; rw [← List.map_id xs]
  exact List.map_congr_left fun s _ => (lb_bl s).symm
theorem strV_length (xs : List ByteArray) : (strV xs).length = xs.length := by simp [strV]
def sortB (xs : List ByteArray) : List ByteArray := ((xs.map bl).mergeSort fun x y => decide (x ≤ y)).map lb
def compactB (xs : List ByteArray) : List ByteArray := (Lib.compact (xs.map bl)).map lb
theorem sortB_length (xs : List ByteArray) : (sortB xs).length = xs.length := by simp [sortB]

/-- Texts that are read: nil, empty, or at any address. -/
def RT (w : World) (A : Option Addr) (n : Nat) (xs : List ByteArray) : Prop := Kd.C Kd.string w A n xs
theorem RT.mk_ {w : World} {A : Option Addr} {n : Nat} {xs : List ByteArray} (h1 : xs.length = n) (h2 : n ≤ 9223372036854775807) (h3 : 0 < n → ∃ ad, A = some ad ∧ ∀ j s, xs[j]? = some s → w.cell? (ad.add j) = some (.string s)) : RT w A n xs := by
  refine ⟨h1, h2, fun h0 => ?_⟩
  obtain ⟨ad, e, hc⟩ := h3 h0
  refine ⟨ad, e, fun j p hj => ⟨[.string p], rfl, rfl, fun i u hu => ?_⟩⟩
  have hi : i = 0 := by
    have := (List.getElem?_eq_some_iff.1 hu).1
    simp at this
    exact this
  subst hi
  simp at hu
  subst hu
  simpa [show Kd.string.sz = 1 from rfl] using hc j p hj
theorem RT.at_ {w : World} {A : Option Addr} {n : Nat} {xs : List ByteArray} (h : RT w A n xs) (h0 : 0 < n) : ∃ ad, A = some ad ∧ ∀ j s, xs[j]? = some s → w.cell? (ad.add j) = some (.string s) := by
  obtain ⟨ad, e, hc⟩ := h.2.2 h0
  refine ⟨ad, e, fun j s hj => ?_⟩
  obtain ⟨c, hl, hk, hcell⟩ := hc j s hj
  have hk' : c = [.string s] := hk
  subst hk'
  have := hcell 0 (.string s) rfl
  simpa [show Kd.string.sz = 1 from rfl] using this
theorem RT.len {w : World} {A : Option Addr} {n : Nat} {xs : List ByteArray} (h : RT w A n xs) : xs.length = n := h.1
theorem RT.below {w w1 : World} {A : Option Addr} {n : Nat} {xs : List ByteArray} (h : RT w A n xs) (hb : Below w.heap.size w w1) : RT w1 A n xs := Kd.C_below h hb
theorem RT.nil_ (w : World) (A : Option Addr) : RT w A 0 [] := RT.mk_ rfl (by omega) (by omega)
theorem RT.reads {w : World} {A : Option Addr} {n : Nat} {xs : List ByteArray} (h : RT w A n xs) : Reads w w.heap.size 1 A n (strV xs) := by
  refine ⟨by rw [strV_length, h.len]; simp, fun h0 => ?_⟩
  obtain ⟨ad, e, hc⟩ := h.at_ h0
  have hx : 0 < xs.length := by rw [h.len]; exact h0
  have hc0 := hc 0 (xs[0]) (List.getElem?_eq_getElem hx)
  have hlt := World.block_lt_of_cell? w _ hc0
  rw [block_of_add] at hlt
  refine ⟨ad, e, hlt, fun j u hj => ?_⟩
  unfold strV at hj
  rw [List.getElem?_map] at hj
  obtain ⟨s, hs, rfl⟩ := Option.map_eq_some_iff.1 hj
  exact hc j s hs
theorem RT.setCell {w : World} {A : Option Addr} {n : Nat} {xs : List ByteArray} (h : RT w A n xs) {p : Addr} {u : Value} (hp : w.cell? p = some u) (hu : ∀ s, u ≠ .string s) (x : Value) : RT (w.setCell p x) A n xs := by
  refine RT.mk_ h.len h.2.1 fun h0 => ?_
  obtain ⟨ad, e, hc⟩ := h.at_ h0
  refine ⟨ad, e, fun j s hj => ?_⟩
  have h1 := hc j s hj
  rw [World.cell?_setCell_other _ _ _ _ (fun e => by
    rw [e, h1] at hp
    injection hp with hp
    exact hu s hp.symm)]
  exact h1
theorem strV_one (xs : List ByteArray) : ∀ u ∈ strV xs, u.oneCell' = true := by
  intro u hu
  obtain ⟨s, _, rfl⟩ := List.mem_map.1 hu
  rfl
/-- A row of texts of the call's own is read. -/
theorem RT.of_own {w : World} {base n : Nat} {v : Value} {xs : List ByteArray} (h : w.ownsRow base 9 1 v n (strV xs)) : ∃ A c, v = .slice A n c ∧ n ≤ c ∧ RT w A n xs := by
  have hl : xs.length = n := by have := h.1; rw [strV_length] at this; omega
  rcases h.2 with ⟨rfl, rfl⟩ | ⟨g, cap, cur, rfl, _, _, hn, hm, _⟩
  · exact ⟨none, 0, rfl, Nat.le_refl _, RT.mk_ hl (by omega) (by omega)⟩
  · refine ⟨_, cap, rfl, hn, RT.mk_ hl (by unfold maxLen at hm; omega) fun _ => ⟨_, rfl, fun j s hj => ?_⟩⟩
    exact h.cells (g := g) rfl j _ (by simp [strV, hj])

theorem infoS : (Try.prog.info? 9).map (fun i => (i.zero, i.size, i.bytes)) = some (some (.string ⟨#[]⟩), 1, 16) := by kernel_rfl

set_option maxHeartbeats 1000000 in
theorem clone_any (A : Option Addr) (n c : Nat) (xs : List ByteArray) (w : World) (h : RT w A n xs) (hn : n ≤ 8796093021952) :
    Calls Try.prog 20 #[.slice A n c] w fun e w' => ∃ v, e = .returned v ∧ w'.ownsRow w.heap.size 9 1 v n (strV xs) ∧ Below w.heap.size w w' := by
  obtain ⟨i0, hi0, hz0, hz1, hz2⟩ := info_parts infoS
  have q31 : ∀ (w : World) (a : Option Addr) (n c n' c' : Nat), (binOp .eql 22 (.slice a n c) (.slice none n' c')).run Try.prog w = .ok (.bool a.isNone) w := fun w a n c n' c' => Lib.run_eql_slice_nil w _ _ a n c n' c' Try.underlying22
  rcases A with _ | ad
  · have hn0 : n = 0 := by
      rcases Nat.eq_zero_or_pos n with h0 | h0
      · exact h0
      · obtain ⟨ad, e, _⟩ := h.at_ h0
        cases e
    subst hn0
    have hx : xs = [] := List.eq_nil_of_length_eq_zero h.len
    subst hx
    clear h
    go_enter Try.func20, Try.ntmps20
    go_wp2
    go_ret
    exact ⟨_, rfl, ⟨by simp [strV], .inl ⟨rfl, rfl⟩⟩, Below.refl _ _⟩
  · have HR := Lib.hid h.reads
    clear h
    go_enter Try.func20, Try.ntmps20
    go_wp2_with (at_builtin; refine wpList_append_any _ rfl _ _ 22 rfl w.heap.size 9 i0 _ 1 16 Try.underlying22 hi0 hz0 hz1 hz2 rfl (by omega) (.slice (some ⟨w.heap.size, 0, none⟩) 0 0) 0 [] rfl (World.ownsRow_made w #[] 0 (Nat.le_refl _) (Nat.zero_le _) rfl) w.heap.size (some ad) n c (strV xs) rfl (HR.out.alloc (Nat.le_refl _) _) (strV_one xs) (by unfold maxLen; omega) (by omega) (by simp) ?_; intro v' w1 hown hg hat)
    go_ret
    refine ⟨v', rfl, by simpa using hown, ((Below.refl _ w).alloc (Nat.le_refl _) _).grown hg (by simp) (fun k hk => Nat.le_of_eq (by simpa [Value.ownBlock] using hk))⟩

theorem sort_any (base : Nat) (v : Value) (n : Nat) (xs : List ByteArray) (w : World) (h : w.ownsRow base 9 1 v n (strV xs)) (hn : n ≤ 8796093021952) :
    Calls Try.prog 21 #[v] w fun e w' => e = .returned (.tuple #[]) ∧ w'.ownsRow base 9 1 v n (strV (sortB xs)) ∧ w.grownBy w' v.ownBlock := by
  have hl : xs.length = n := by have := h.1; rw [strV_length] at this; omega
  rcases h.2 with ⟨rfl, rfl⟩ | ⟨g, cap, cur, rfl, hg, hh, h1, h2, h3, h4⟩
  · refine (Try.slices_Sort_string_none none 0 w).mono ?_
    rintro e w' ⟨rfl, rfl⟩
    have hx : xs = [] := List.eq_nil_of_length_eq_zero hl
    subst hx
    exact ⟨rfl, by simpa [sortB] using h, World.grownBy.refl _ _⟩
  · have hH : Holds encStr w g 0 (xs.map bl).toArray := holds_of_block hh (by rw [List.length_map, hl, ← strV_bl]; simpa using h4)
    have hs := Try.slices_Sort_string g 0 cap (xs.map bl) w hH (Array.getElem?_eq_some_iff.1 hh).1 (by rw [List.length_map]; omega)
    rw [List.length_map, hl] at hs
    refine hs.mono ?_
    rintro e w' ⟨rfl, m, os, rfl⟩
    refine ⟨rfl, ?_, grownBy_sorted _⟩
    have := ownsRow_sorted (w := w) (base := base) (g := g) (cap := cap) (n := m) (e := 9) (os := os) (cur := cur) (ss := xs.map bl) (ts := (xs.map bl).mergeSort fun x y => decide (x ≤ y)) (by simp) hg hh (by rw [List.length_map]; omega) h2 h3
    rw [List.length_map, hl] at this
    rw [sortB, strV_map]
    exact this

theorem compact_le {α : Type} [DecidableEq α] [Inhabited α] (l : List α) : (Lib.compact l).length ≤ l.length := by
  simp only [Lib.compact, Lib.compactUpTo, List.length_map]
  exact Nat.le_trans (List.length_filter_le _ _) (by simp)
theorem compactB_le (xs : List ByteArray) : (compactB xs).length ≤ xs.length := by
  have := compact_le (xs.map bl)
  simpa [compactB] using this

theorem compact_any (base : Nat) (v : Value) (n : Nat) (xs : List ByteArray) (w : World) (h : w.ownsRow base 9 1 v n (strV xs)) (hn : n ≤ 8796093021952) :
    Calls Try.prog 22 #[v] w fun e w' => ∃ A c, e = .returned (.slice A (compactB xs).length c) ∧ (compactB xs).length ≤ c ∧ RT w' A (compactB xs).length (compactB xs) ∧ w.grownBy w' v.ownBlock := by
  have hl : xs.length = n := by have := h.1; rw [strV_length] at this; omega
  rcases h.2 with ⟨rfl, rfl⟩ | ⟨g, cap, cur, rfl, hg, hh, h1, h2, h3, h4⟩
  · refine (Try.slices_Compact_string_empty none 0 w).mono ?_
    rintro e w' ⟨rfl, rfl⟩
    have hx : xs = [] := List.eq_nil_of_length_eq_zero hl
    subst hx
    exact ⟨none, 0, rfl, Nat.le_refl _, RT.nil_ _ _, World.grownBy.refl _ _⟩
  · have hH : Holds encStr w g 0 (xs.map bl).toArray := holds_of_block hh (by rw [List.length_map, hl, ← strV_bl]; simpa using h4)
    have hs := Try.slices_Compact_string g 0 cap (xs.map bl) w hH (by rw [List.length_map]; omega) (by rw [List.length_map]; omega)
    have hle := compact_le (xs.map bl)
    rw [List.length_map, hl] at hs
    have hle' : (Lib.compact (xs.map bl)).length ≤ n := by rw [List.length_map, hl] at hle; exact hle
    refine hs.mono ?_
    rintro e w' ⟨rfl, q, rfl⟩
    have hc : (compactB xs).length = (Lib.compact (xs.map bl)).length := by simp [compactB]
    rw [hc]
    refine ⟨_, cap, rfl, by omega, ?_, ?_⟩
    · refine RT.mk_ hc (by omega) fun _ => ⟨_, rfl, fun j s hj => ?_⟩
      have hj1 : j < (Lib.compact (xs.map bl)).length := by rw [← hc]; exact (List.getElem?_eq_some_iff.1 hj).1
      have h0 : Holds encStr (Sort.ahead w q) g 0 (xs.map bl).toArray := hH
      have hd := (holds_putRow encStr (Sort.ahead w q) g 0 _ (Lib.compact (xs.map bl) ++ List.replicate (n - (Lib.compact (xs.map bl)).length) []).toArray h0 (by simp [hl]; omega)) j (by simp; omega)
      have ha : (⟨g, 0, none⟩ : Addr).add j = ⟨g, 0 + j, none⟩ := by unfold Addr.add; split <;> simp_all
      rw [ha, hd.1]
      simp only [compactB, List.getElem?_map] at hj
      obtain ⟨l, hl1, rfl⟩ := Option.map_eq_some_iff.1 hj
      have : (Lib.compact (xs.map bl) ++ List.replicate (n - (Lib.compact (xs.map bl)).length) []).toArray[j]! = l := by
        rw [getElem!_pos _ j (by simp; omega)]
        simp only [List.getElem_toArray]
        rw [List.getElem_append_left hj1]
        exact Option.some.inj ((List.getElem?_eq_getElem hj1).symm.trans hl1)
      rw [this]
      rfl
    · have := grownBy_sorted (w := w) (g := g) (n := q) (os := #[]) (Lib.compact (xs.map bl) ++ List.replicate (n - (Lib.compact (xs.map bl)).length) []).toArray
      rw [grow_empty] at this
      exact this
end Go.Proofs.Ytkbbbeklgpgolaa
