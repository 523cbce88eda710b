/- A dictionary's bytes: plain; what the reference writes of a row of texts. -/
import Derived.Test.YtkbbbeklgpgolaaDP
import Derived.Test.YtkbbbeklgpgolaaDU
set_option linter.unusedVariables false
set_option linter.unusedSimpArgs false
namespace Go.Proofs.Ytkbbbeklgpgolaa
open Go.RowKit Go.Sort Go.Proofs.YtkbbbeklgpgolaaW.PrintWords Pref

/-- How many bytes two texts begin with alike. -/
def shL : List UInt8 → List UInt8 → Nat
  | x :: a, y :: b => if x = y then shL a b + 1 else 0
  | _, _ => 0
theorem shL_nil (b : List UInt8) : shL [] b = 0 := by cases b <;> rfl
theorem shL_comm : ∀ a b, shL a b = shL b a
  | [], [] => rfl
  | [], _ :: _ => rfl
  | _ :: _, [] => rfl
  | x :: a, y :: b => by
    unfold shL
    by_cases h : x = y
    · rw [if_pos h, if_pos h.symm, shL_comm a b]
    · rw [if_neg h, if_neg (fun e => h e.symm)]
theorem shL_le : ∀ a b, shL a b ≤ a.length
  | [], b => by rw [shL_nil]; exact Nat.le_refl _
  | x :: a, [] => Nat.zero_le _
  | x :: a, y :: b => by
    unfold shL
    split
    · have := shL_le a b
      simp only [List.length_cons]; omega
    · exact Nat.zero_le _
theorem shL_le' (a b : List UInt8) : shL a b ≤ b.length := by rw [shL_comm]; exact shL_le b a
theorem shL_eq : ∀ (a b : List UInt8) (n : Nat), n < shL a b → a[n]? = b[n]?
  | [], b, n, h => by rw [shL_nil] at h; omega
  | x :: a, [], n, h => by unfold shL at h; omega
  | x :: a, y :: b, n, h => by
    unfold shL at h
    split at h
    · rename_i e
      cases n with
      | zero => simp [e]
      | succ n => simpa using shL_eq a b n (by omega)
    · omega
theorem shL_ne : ∀ (a b : List UInt8), shL a b < a.length → shL a b < b.length → a[shL a b]? ≠ b[shL a b]?
  | [], b, h, _ => by rw [shL_nil] at h; simp at h
  | x :: a, [], _, h => by simp at h
  | x :: a, y :: b, h1, h2 => by
    unfold shL at h1 h2 ⊢
    by_cases e : x = y
    · rw [if_pos e] at h1 h2 ⊢
      simp only [List.length_cons] at h1 h2
      simpa using shL_ne a b (by omega) (by omega)
    · rw [if_neg e]
      simp [e]
theorem bt_get (s : ByteArray) (n : Nat) (h : n < s.size) : ∃ c : UInt8, (bl s)[n]? = some c ∧ bt s (n : Int) = (c.toNat : Int) := by
  refine ⟨s[n], ?_, ?_⟩
  · unfold bl
    rw [Array.getElem?_toList]
    exact Array.getElem?_eq_getElem h
  · have := bt_at s (n : Int) (by simpa using h)
    simpa using this.symm
theorem bl_len (s : ByteArray) : (bl s).length = s.size := data_length s
theorem bt_iff (a b : ByteArray) (n : Nat) (ha : n < a.size) (hb : n < b.size) : bt a (n : Int) = bt b (n : Int) ↔ (bl a)[n]? = (bl b)[n]? := by
  obtain ⟨c, h1, h2⟩ := bt_get a n ha
  obtain ⟨d, h3, h4⟩ := bt_get b n hb
  rw [h1, h2, h3, h4]
  constructor
  · intro h
    have h5 : c.toNat = d.toNat := by omega
    rw [UInt8.toNat_inj.1 h5]
  · intro h
    injection h with h
    rw [h]
def sh (a b : ByteArray) : Nat := shL (bl a) (bl b)
theorem sh_le (a b : ByteArray) : sh a b ≤ a.size := by have := shL_le (bl a) (bl b); rwa [bl_len] at this
theorem sh_le' (a b : ByteArray) : sh a b ≤ b.size := by have := shL_le' (bl a) (bl b); rwa [bl_len] at this
theorem sh_comm (a b : ByteArray) : sh a b = sh b a := shL_comm _ _
theorem sh_eq {a b : ByteArray} {n : Nat} (h : n < sh a b) : bt a (n : Int) = bt b (n : Int) := by
  have h1 := sh_le a b
  have h2 := sh_le' a b
  exact (bt_iff a b n (by omega) (by omega)).2 (shL_eq _ _ n h)
theorem sh_ne {a b : ByteArray} (h1 : sh a b < a.size) (h2 : sh a b < b.size) : bt a (sh a b : Nat) ≠ bt b (sh a b : Nat) := by
  intro h
  exact shL_ne (bl a) (bl b) (by rw [bl_len]; exact h1) (by rw [bl_len]; exact h2) ((bt_iff a b _ h1 h2).1 h)
/-- What the program's shared answers. -/
theorem shared_all (a b : ByteArray) (ha : a.size < 9223372036854775807) (d : Nat) : ∀ n : Nat, n ≤ sh a b → sh a b - n = d → dict_shared.l0 (d + 1) a b (n : Int) = some ((sh a b : Nat) : Int) := by
  have h1 := sh_le a b
  have h2 := sh_le' a b
  induction d with
  | zero =>
    intro n hn he
    have e : n = sh a b := by omega
    subst e
    rw [dict_shared.l0]
    by_cases c1 : sh a b < a.size
    · rw [if_pos (by omega)]
      by_cases c2 : sh a b < b.size
      · rw [if_pos (by omega), if_pos (by omega), if_neg (sh_ne c1 c2)]
      · rw [if_neg (by omega)]
    · rw [if_neg (by omega)]
  | succ d ih =>
    intro n hn he
    rw [dict_shared.l0, if_pos (by omega), if_pos (by omega), if_pos (by omega), if_pos (sh_eq (by omega)), w64_nat (by omega)]
    exact ih (n + 1) (by omega) (by omega)
theorem shared_f (a b : ByteArray) (ha : a.size < 9223372036854775807) : dict_shared.f (sh a b + 1) a b = some ((sh a b : Nat) : Int) := by
  unfold dict_shared.f
  exact shared_all a b ha (sh a b) 0 (Nat.zero_le _) rfl

/-- One text behind another one. -/
def entry (was s : ByteArray) : List Int := uint (sh was s) ++ (uint (s.extract (sh was s) s.size).size ++ bytesOf (s.extract (sh was s) s.size))
def dbody : ByteArray → List ByteArray → List Int
  | _, [] => []
  | was, s :: r => entry was s ++ dbody s r
/-- The bytes of a row of texts. -/
def dictB (l : List ByteArray) : List Int := uint l.length ++ dbody ByteArray.empty l
theorem ext_size (s : ByteArray) (n : Nat) : (s.extract n s.size).size = s.size - n := by
  rw [ByteArray.size_extract]; omega
theorem entry_len (was s : ByteArray) (h : s.size ≤ 1000) : (entry was s).length ≤ 1020 := by
  have h1 := sh_le' was s
  unfold entry
  rw [List.length_append, List.length_append, bytesOf_len, ext_size]
  have h2 := uint_ten (n := sh was s) (by omega)
  have h3 := uint_ten (n := s.size - sh was s) (by omega)
  omega
theorem dbody_len : ∀ (l : List ByteArray) (was : ByteArray), (∀ s ∈ l, s.size ≤ 1000) → (dbody was l).length ≤ 1020 * l.length
  | [], _, _ => Nat.le_refl _
  | s :: r, was, h => by
    have h1 := entry_len was s (h s (by simp))
    have h2 := dbody_len r s (fun t ht => h t (by simp [ht]))
    unfold dbody
    rw [List.length_append, List.length_cons]
    omega
theorem dbody_snoc : ∀ (l : List ByteArray) (was s : ByteArray), dbody was (l ++ [s]) = dbody was l ++ entry ((was :: l).getLast (by simp)) s
  | [], was, s => by simp [dbody]
  | t :: r, was, s => by
    rw [List.cons_append]
    unfold dbody
    rw [dbody_snoc r t s, List.append_assoc]
    rw [show (was :: t :: r).getLast (by simp) = (t :: r).getLast (by simp) from List.getLast_cons_cons ..]
/-- The text ahead of a place. -/
def prev (l : List ByteArray) (i : Nat) : ByteArray := if i = 0 then ByteArray.empty else l.getD (i - 1) ByteArray.empty
theorem dbody_take (l : List ByteArray) (i : Nat) (h : i < l.length) : dbody ByteArray.empty (l.take (i + 1)) = dbody ByteArray.empty (l.take i) ++ entry (prev l i) l[i] := by
  rw [List.take_succ_eq_append_getElem h, dbody_snoc]
  congr 2
  unfold prev
  cases i with
  | zero => simp
  | succ j =>
    have hj : j < l.length := by omega
    rw [if_neg (by omega), Nat.add_sub_cancel, List.getLast_cons (by rw [List.ne_nil_iff_length_pos, List.length_take]; omega), List.getLast_eq_getElem]
    simp only [List.length_take, List.getElem_take]
    rw [List.getD_eq_getElem?_getD, List.getElem?_eq_getElem hj]
    have : min (j + 1) l.length - 1 = j := by omega
    simp [this]
theorem empty_sh (s : ByteArray) : sh ByteArray.empty s = 0 := shL_nil _

theorem ev_uint (n : Nat) (h : n < 18446744073709551616) : Ev (fun k => gristmillref01_Uint.f k (n : Int)) (uint n) := by
  obtain ⟨k, hk⟩ := ref_uint n h
  exact Ev.of (gristmillref01_Uint.mono _) hk
theorem ev_text (s : ByteArray) (h : s.size < 140737488355000) : Ev (fun k => gristmillref01_Text.f k s) (uint s.size ++ bytesOf s) := by
  obtain ⟨k, hk⟩ := ref_text s h
  exact Ev.of (gristmillref01_Text.mono _) hk
theorem w64_pred {i : Nat} (h0 : 0 < i) (h : i < 9223372036854775807) : wrap64 ((i : Int) - 1) = ((i - 1 : Nat) : Int) := by unfold wrap64; omega
section
variable {k : Nat} {l : List ByteArray} {acc U X r : List Int} {i n p u : Int} {a b : ByteArray}
theorem l1_go (h1 : i > 0) (h2 : 0 ≤ i) (h3 : i < (l.length : Int)) (h4 : rdOf ByteArray.empty l i = a) (h5 : n < (a.size : Int)) (h6 : wrap64 (i - 1) = p) (h7 : 0 ≤ p) (h8 : p < (l.length : Int)) (h9 : rdOf ByteArray.empty l p = b) (h10 : n < (b.size : Int)) (h11 : 0 ≤ n) (h12 : bt a n = bt b n) :
    gristmillref03_Bytes.l1 (k + 1) l acc i n = gristmillref03_Bytes.l1 k l acc i (wrap64 (n + 1)) := by
  rw [gristmillref03_Bytes.l1, if_pos h1, if_pos h2, if_pos h3, h4, if_pos h5, h6, if_pos h7, if_pos h8, h9, if_pos h10, if_pos h11, if_pos h12]
theorem l1_s1 (h1 : i > 0) (h2 : 0 ≤ i) (h3 : i < (l.length : Int)) (h4 : rdOf ByteArray.empty l i = a) (h5 : n < (a.size : Int)) (h6 : wrap64 (i - 1) = p) (h7 : 0 ≤ p) (h8 : p < (l.length : Int)) (h9 : rdOf ByteArray.empty l p = b) (h10 : n < (b.size : Int)) (h11 : 0 ≤ n) (h12 : ¬ bt a n = bt b n)
    (e0 : IntKind.u64.wrap n = u) (e1 : gristmillref01_Uint.f k u = some U) (l1 : acc.length + U.length < 140737488355328) (h13 : n ≤ (a.size : Int)) (e2 : gristmillref01_Text.f k (a.extract (n : Int).toNat a.size) = some X) (l2 : (acc ++ U).length + X.length < 140737488355328) (e3 : gristmillref03_Bytes.l0 k l (acc ++ U ++ X) (wrap64 (i + 1)) = some r) :
    gristmillref03_Bytes.l1 (k + 1) l acc i n = some r := by
  rw [gristmillref03_Bytes.l1, if_pos h1, if_pos h2, if_pos h3, h4, if_pos h5, h6, if_pos h7, if_pos h8, h9, if_pos h10, if_pos h11, if_neg h12, e0, e1, Option.bind_some, if_pos l1, Option.bind_some, if_pos h13, e2, Option.bind_some, if_pos l2, e3]
theorem l1_s2 (h1 : i > 0) (h2 : 0 ≤ i) (h3 : i < (l.length : Int)) (h4 : rdOf ByteArray.empty l i = a) (h5 : n < (a.size : Int)) (h6 : wrap64 (i - 1) = p) (h7 : 0 ≤ p) (h8 : p < (l.length : Int)) (h9 : rdOf ByteArray.empty l p = b) (h10 : ¬ n < (b.size : Int)) (h11 : 0 ≤ n)
    (e0 : IntKind.u64.wrap n = u) (e1 : gristmillref01_Uint.f k u = some U) (l1 : acc.length + U.length < 140737488355328) (h13 : n ≤ (a.size : Int)) (e2 : gristmillref01_Text.f k (a.extract (n : Int).toNat a.size) = some X) (l2 : (acc ++ U).length + X.length < 140737488355328) (e3 : gristmillref03_Bytes.l0 k l (acc ++ U ++ X) (wrap64 (i + 1)) = some r) :
    gristmillref03_Bytes.l1 (k + 1) l acc i n = some r := by
  rw [gristmillref03_Bytes.l1, if_pos h1, if_pos h2, if_pos h3, h4, if_pos h5, h6, if_pos h7, if_pos h8, h9, if_neg h10, e0, e1, Option.bind_some, if_pos l1, Option.bind_some, if_pos h11, if_pos h13, e2, Option.bind_some, if_pos l2, e3]
theorem l1_s3 (h1 : i > 0) (h2 : 0 ≤ i) (h3 : i < (l.length : Int)) (h4 : rdOf ByteArray.empty l i = a) (h5 : ¬ n < (a.size : Int)) (h11 : 0 ≤ n)
    (e0 : IntKind.u64.wrap n = u) (e1 : gristmillref01_Uint.f k u = some U) (l1 : acc.length + U.length < 140737488355328) (h13 : n ≤ (a.size : Int)) (e2 : gristmillref01_Text.f k (a.extract (n : Int).toNat a.size) = some X) (l2 : (acc ++ U).length + X.length < 140737488355328) (e3 : gristmillref03_Bytes.l0 k l (acc ++ U ++ X) (wrap64 (i + 1)) = some r) :
    gristmillref03_Bytes.l1 (k + 1) l acc i n = some r := by
  rw [gristmillref03_Bytes.l1, if_pos h1, if_pos h2, if_pos h3, h4, if_neg h5, e0, e1, Option.bind_some, if_pos l1, Option.bind_some, if_pos h11, if_pos h13, e2, Option.bind_some, if_pos l2, e3]
theorem l1_s4 (h1 : ¬ i > 0) (h2 : 0 ≤ i) (h3 : i < (l.length : Int)) (h4 : rdOf ByteArray.empty l i = a) (h11 : 0 ≤ n)
    (e0 : IntKind.u64.wrap n = u) (e1 : gristmillref01_Uint.f k u = some U) (l1 : acc.length + U.length < 140737488355328) (h13 : n ≤ (a.size : Int)) (e2 : gristmillref01_Text.f k (a.extract (n : Int).toNat a.size) = some X) (l2 : (acc ++ U).length + X.length < 140737488355328) (e3 : gristmillref03_Bytes.l0 k l (acc ++ U ++ X) (wrap64 (i + 1)) = some r) :
    gristmillref03_Bytes.l1 (k + 1) l acc i n = some r := by
  rw [gristmillref03_Bytes.l1, if_neg h1, e0, e1, Option.bind_some, if_pos l1, Option.bind_some, if_pos h2, if_pos h3, h4, if_pos h11, if_pos h13, e2, Option.bind_some, if_pos l2, e3]
end
theorem prev_at {l : List ByteArray} {i : Nat} (c0 : i ≠ 0) (hi : i < l.length) : prev l i = l[i - 1] := by
  unfold prev
  rw [if_neg c0, List.getD_eq_getElem?_getD, List.getElem?_eq_getElem (by omega)]; rfl
theorem far9c {a : Nat} (h2 : a ≤ 1000) : a < 9223372036854775807 := by omega
theorem far8 {n a : Nat} (h : n ≤ a) (h2 : a ≤ 1000) : n < 18446744073709551616 := by omega
theorem far7 {n a : Nat} (h2 : a ≤ 1000) : a - n < 140737488355000 := by omega
theorem three {a b c n : Nat} (h : a + b + c + 1 ≤ n) : ∃ k, n = k + 1 ∧ a ≤ k ∧ b ≤ k ∧ c ≤ k := ⟨n - 1, by omega, by omega, by omega, by omega⟩
theorem add_le_1010 {a b n : Nat} (h : a ≤ 10) (h2 : b ≤ 1000) : a + (b - n) ≤ 1010 := by omega
theorem rest_len (s : ByteArray) (n : Nat) (h : s.size ≤ 1000) : (uint (s.extract n s.size).size ++ bytesOf (s.extract n s.size)).length ≤ 1010 := by
  rw [List.length_append, bytesOf_len, ext_size]
  exact add_le_1010 (uint_ten (far8 (Nat.sub_le _ _) h)) h
theorem far9 {n a : Nat} (h : n < a) (h2 : a ≤ 1000) : n < 9223372036854775807 := by omega
theorem far9b {n a : Nat} (h : n < a) (h2 : a < 100000) : n < 9223372036854775807 := by omega
theorem i_pos {i : Nat} (c0 : i ≠ 0) : (i : Int) > 0 := by omega
theorem i_pre {i n : Nat} (h : i < n) : i - 1 < n := by omega
theorem go_down {s n d m : Nat} (h1 : n ≤ s) (h2 : s - n = d + 1) (h : s ≤ m) : n + 1 ≤ s ∧ s - (n + 1) = d ∧ n < s ∧ (n : Int) < (m : Int) := by omega
attribute [local irreducible] sh bt rdOf entry dbody prev bytesOf
theorem lt_far {a b c : Nat} (ha : a < 140737488000000) (hb : b ≤ 10) (hc : c ≤ 1010) : a + b + c < 140737488355328 := by omega
theorem lt_near {a b t n : Nat} (ha : a ≤ 10) (hb : b ≤ 1020 * min t n) (hn : n < 100000) : a + b < 140737488000000 := by omega

set_option maxHeartbeats 1000000 in
theorem ref_stop {l : List ByteArray} {acc r : List Int} {i n : Nat} (hi : i < l.length) (hl : l.length < 100000) (hs : ∀ s ∈ l, s.size ≤ 1000) (ha : acc.length < 140737488000000) (hn : n = sh (prev l i) l[i])
    (h : Ev (fun k => gristmillref03_Bytes.l0 k l (acc ++ entry (prev l i) l[i]) ((i + 1 : Nat) : Int)) r) : Ev (fun k => gristmillref03_Bytes.l1 k l acc (i : Int) (n : Int)) r := by
  have hle : n ≤ l[i].size := by rw [hn]; exact sh_le' _ _
  have hsz : l[i].size ≤ 1000 := hs _ (List.getElem_mem hi)
  have q9 : n < 18446744073709551616 ∧ i < 9223372036854775807 := ⟨far8 hle hsz, far9b hi hl⟩
  have qN : (i : Int) < ((l.length : Nat) : Int) := Int.ofNat_lt.2 hi
  have q0 : (0 : Int) ≤ (i : Int) := Int.natCast_nonneg _
  have qn : (0 : Int) ≤ (n : Int) := Int.natCast_nonneg _
  have qs : (n : Int) ≤ (l[i].size : Int) := Int.ofNat_le.2 hle
  have L1 := uint_ten q9.1
  have L2 := rest_len l[i] n hsz
  have qx : (l[i].extract n l[i].size).size < 140737488355000 := by rw [ext_size]; exact far7 hsz
  have qi := q9.2
  have u1 := u64_nat q9.1
  have w1 := w64_nat qi
  have c0' : ∀ {p : Prop}, (i = 0 → p) → (i ≠ 0 → p) → p := fun a b => if h : i = 0 then a h else b h
  obtain ⟨K1, h1⟩ := ev_uint n q9.1
  obtain ⟨K2, h2⟩ := ev_text (l[i].extract n l[i].size) qx
  obtain ⟨K3, h3⟩ := h
  refine ⟨K1 + K2 + K3 + 1, fun k hk => ?_⟩
  obtain ⟨k, rfl, k1, k2, k3⟩ := three hk
  have e1 := h1 k k1
  have e2 := h2 k k2
  have e3 := h3 k k3
  clear h1 h2 h3 hk k1 k2 k3
  simp only [] at e1 e2 e3
  unfold entry at e3
  rw [← hn, ← List.append_assoc] at e3
  generalize hX : uint (l[i].extract n l[i].size).size ++ bytesOf (l[i].extract n l[i].size) = X at e2 e3 L2
  generalize hU : uint n = U at e1 e3 L1
  clear hX hU
  have LA : (acc ++ U).length + X.length < 140737488355328 := by
    rw [show (acc ++ U).length = acc.length + U.length from List.length_append]
    exact lt_far ha L1 L2
  rw [← w1] at e3
  have ri := rdOf_get hi
  have qA : acc.length + U.length < 140737488355328 := lt_far (c := 0) ha L1 (Nat.zero_le _)
  show gristmillref03_Bytes.l1 (k + 1) l acc (i : Int) (n : Int) = some r
  by_cases c0 : i = 0
  · have qc : ¬ (i : Int) > 0 := by rw [c0]; decide
    exact l1_s4 qc q0 qN ri qn u1 e1 qA qs e2 LA e3
  · have hp := prev_at c0 hi
    rw [hp] at hn
    have hle2 : n ≤ l[i - 1].size := Nat.le_trans (Nat.le_of_eq hn) (sh_le _ _)
    have qc : (i : Int) > 0 := i_pos c0
    have rp := rdOf_get (show i - 1 < l.length from i_pre hi)
    have wp := w64_pred (i := i) (Nat.pos_of_ne_zero c0) qi
    have qp0 : (0 : Int) ≤ ((i - 1 : Nat) : Int) := Int.natCast_nonneg _
    have qpN : ((i - 1 : Nat) : Int) < ((l.length : Nat) : Int) := Int.ofNat_lt.2 (i_pre hi)
    by_cases c1 : n < l[i].size
    · have q1 : (n : Int) < (l[i].size : Int) := Int.ofNat_lt.2 c1
      by_cases c2 : n < l[i - 1].size
      · have hne : ¬ bt l[i] (n : Int) = bt l[i - 1] (n : Int) := by
          have := sh_ne (a := l[i - 1]) (b := l[i]) (Nat.lt_of_le_of_lt (Nat.le_of_eq hn.symm) c2) (Nat.lt_of_le_of_lt (Nat.le_of_eq hn.symm) c1)
          rw [show ((sh l[i - 1] l[i] : Nat) : Int) = (n : Int) from congrArg _ hn.symm] at this
          exact fun e => this e.symm
        have q2 : (n : Int) < (l[i - 1].size : Int) := Int.ofNat_lt.2 c2
        exact l1_s1 qc q0 qN ri q1 wp qp0 qpN rp q2 qn hne u1 e1 qA qs e2 LA e3
      · have q2 : ¬ (n : Int) < (l[i - 1].size : Int) := fun h => c2 (Int.ofNat_lt.1 h)
        exact l1_s2 qc q0 qN ri q1 wp qp0 qpN rp q2 qn u1 e1 qA qs e2 LA e3
    · have q1 : ¬ (n : Int) < (l[i].size : Int) := fun h => c1 (Int.ofNat_lt.1 h)
      exact l1_s3 qc q0 qN ri q1 qn u1 e1 qA qs e2 LA e3
theorem ref_go {l : List ByteArray} {acc r : List Int} {i : Nat} (hi : i < l.length) (hl : l.length < 100000) (hs : ∀ s ∈ l, s.size ≤ 1000) (ha : acc.length < 140737488000000)
    (h : Ev (fun k => gristmillref03_Bytes.l0 k l (acc ++ entry (prev l i) l[i]) ((i + 1 : Nat) : Int)) r) (d : Nat) : ∀ n : Nat, n ≤ sh (prev l i) l[i] → sh (prev l i) l[i] - n = d → Ev (fun k => gristmillref03_Bytes.l1 k l acc (i : Int) (n : Int)) r := by
  induction d with
  | zero => exact fun n h1 h2 => ref_stop hi hl hs ha (by omega) h
  | succ d ih =>
    intro n h1 h2
    refine Ev.step (f := fun k => gristmillref03_Bytes.l1 k l acc (i : Int) ((n + 1 : Nat) : Int)) (fun k => ?_) (ih (n + 1) (go_down h1 h2 (Nat.le_refl _)).1 (go_down h1 h2 (Nat.le_refl _)).2.1)
    have c0 : i ≠ 0 := fun c0 => by
      have : prev l i = ByteArray.empty := by unfold prev; rw [if_pos c0]
      rw [this, empty_sh] at h2
      exact absurd h2 (by omega)
    have hle := sh_le' (prev l i) l[i]
    have hle2 := sh_le (prev l i) l[i]
    have hsz : l[i].size ≤ 1000 := hs _ (List.getElem_mem hi)
    have f1 := go_down h1 h2 hle
    have f2 := go_down h1 h2 hle2
    have he : bt l[i] (n : Int) = bt (prev l i) (n : Int) := (sh_eq f1.2.2.1).symm
    have qn9 : n < 9223372036854775807 := far9 (Nat.lt_of_lt_of_le f1.2.2.1 hle) hsz
    have qi9 : i < 9223372036854775807 := far9b hi hl
    have hp := prev_at c0 hi
    rw [hp] at he f2
    have qN : (i : Int) < ((l.length : Nat) : Int) := Int.ofNat_lt.2 hi
    have q0 : (0 : Int) ≤ (i : Int) := Int.natCast_nonneg _
    have qc : (i : Int) > 0 := i_pos c0
    have qn : (0 : Int) ≤ (n : Int) := Int.natCast_nonneg _
    have ri := rdOf_get hi
    have rp := rdOf_get (show i - 1 < l.length from i_pre hi)
    have wp := w64_pred (i := i) (Nat.pos_of_ne_zero c0) qi9
    have wn := w64_nat (i := n) qn9
    have qp0 : (0 : Int) ≤ ((i - 1 : Nat) : Int) := Int.natCast_nonneg _
    have qpN : ((i - 1 : Nat) : Int) < ((l.length : Nat) : Int) := Int.ofNat_lt.2 (i_pre hi)
    have q1 : (n : Int) < (l[i].size : Int) := f1.2.2.2
    have q2 : (n : Int) < (l[i - 1].size : Int) := f2.2.2.2
    rw [← wn]
    exact l1_go qc q0 qN ri q1 wp qp0 qpN rp q2 qn he
theorem ref_rows {l : List ByteArray} (hl : l.length < 100000) (hs : ∀ s ∈ l, s.size ≤ 1000) (d : Nat) : ∀ i : Nat, i ≤ l.length → l.length - i = d →
    Ev (fun k => gristmillref03_Bytes.l0 k l (uint l.length ++ dbody ByteArray.empty (l.take i)) (i : Int)) (dictB l) := by
  induction d with
  | zero =>
    intro i h1 h2
    refine Ev.step (f := fun _ => some (dictB l)) (fun k => ?_) (Ev.now _)
    rw [gristmillref03_Bytes.l0, if_neg (by omega), List.take_of_length_le (by omega)]
    rfl
  | succ d ih =>
    intro i h1 h2
    have hi : i < l.length := by omega
    refine Ev.step (f := fun k => gristmillref03_Bytes.l1 k l (uint l.length ++ dbody ByteArray.empty (l.take i)) (i : Int) ((0 : Nat) : Int)) (fun k => ?_) (ref_go hi hl hs ?_ ?_ (sh (prev l i) l[i]) 0 (Nat.zero_le _) rfl)
    · rw [gristmillref03_Bytes.l0, if_pos (by omega)]
      rfl
    · have h3 := uint_ten (n := l.length) (by omega)
      have h4 := dbody_len (l.take i) ByteArray.empty (fun s hs' => hs s (List.mem_of_mem_take hs'))
      rw [List.length_take] at h4
      rw [List.length_append]
      exact lt_near h3 h4 hl
    · have h3 := ih (i + 1) (by omega) (by omega)
      rw [dbody_take l i hi, ← List.append_assoc] at h3
      exact h3
theorem ref_bytes {l : List ByteArray} (hl : l.length < 100000) (hs : ∀ s ∈ l, s.size ≤ 1000) : ∃ k, gristmillref03_Bytes.f k l = some (dictB l) := by
  have h1 := ref_rows hl hs l.length 0 (Nat.zero_le _) rfl
  have h2 := Ev.bind (f := fun k t => gristmillref03_Bytes.l0 k l t 0) (ev_uint l.length (by omega)) (by simpa [dbody] using h1)
  obtain ⟨k, hk⟩ := h2.rounds
  refine ⟨k, ?_⟩
  unfold gristmillref03_Bytes.f
  rw [u64_nat (by omega)]
  exact hk
end Go.Proofs.Ytkbbbeklgpgolaa
