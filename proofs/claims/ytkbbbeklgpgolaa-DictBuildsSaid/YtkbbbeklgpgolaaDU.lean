/- A number as bytes: plain; what the reference writes of it. -/
import Derived.Test.YtkbbbeklgpgolaaR7
set_option linter.unusedVariables false
set_option linter.unusedSimpArgs false
namespace Go.Proofs.Ytkbbbeklgpgolaa
open Go.RowKit Go.Proofs.YtkbbbeklgpgolaaW.PrintWords Pref

/-- A number's bytes: seven bits in each, the lowest first; all but the last one are 128 more. -/
def uint (n : Nat) : List Int := if h : n < 128 then [(n : Int)] else (((n % 128 : Nat) : Int) + 128) :: uint (n / 128)
termination_by n
decreasing_by omega
theorem uint_small {n : Nat} (h : n < 128) : uint n = [(n : Int)] := by rw [uint, dif_pos h]
theorem uint_big {n : Nat} (h : ¬ n < 128) : uint n = (((n % 128 : Nat) : Int) + 128) :: uint (n / 128) := by
  conv => lhs; rw [uint]
  rw [dif_neg h]
theorem uint_len : ∀ (d n : Nat), n < 128 ^ (d + 1) → (uint n).length ≤ d + 1
  | 0, n, h => by rw [uint_small (by simpa using h)]; exact Nat.le_refl _
  | d + 1, n, h => by
    by_cases hn : n < 128
    · rw [uint_small hn]; simp
    · rw [uint_big hn, List.length_cons]
      have h1 : n / 128 < 128 ^ (d + 1) := by
        rw [Nat.div_lt_iff_lt_mul (by omega)]
        rw [Nat.pow_succ] at h
        exact h
      have := uint_len d (n / 128) h1
      omega
theorem uint_ten {n : Nat} (h : n < 18446744073709551616) : (uint n).length ≤ 10 := uint_len 9 n (Nat.lt_of_lt_of_le h (by decide))
theorem uint_pos (n : Nat) : 0 < (uint n).length := by
  rw [uint]
  split <;> simp
theorem or_128 (x : Nat) : Go.bits .or .u8 ((x : Int) % 256) 128 = ((x % 128 : Nat) : Int) + 128 := by
  have h : ∀ m : Fin 256, Go.bits .or .u8 ((m.val : Nat) : Int) 128 = ((m.val % 128 : Nat) : Int) + 128 := by decide +kernel
  have h1 := h ⟨x % 256, Nat.mod_lt _ (by decide)⟩
  have e1 : (x : Int) % 256 = ((x % 256 : Nat) : Int) := by omega
  have e2 : x % 256 % 128 = x % 128 := by omega
  rw [e1, h1]
  simp only [e2]
theorem u64_nat {n : Nat} (h : n < 18446744073709551616) : IntKind.u64.wrap (n : Int) = n := by
  have h2 : IntKind.u64.wrap (n : Int) = (n : Int) % 18446744073709551616 := by simp [IntKind.wrap, IntKind.bits, IntKind.signed]
  rw [h2]; omega
theorem ref_uint_all : ∀ (n : Nat), n < 18446744073709551616 → ∃ k, ∀ acc : List Int, acc.length + (uint n).length < 140737488355328 → gristmillref01_Uint.l0 k (n : Int) acc = some (acc ++ uint n) := by
  intro n
  induction n using Nat.strongRecOn with
  | ind n ih =>
    intro hn
    have e1 : Int.tdiv (n : Int) 128 = ((n / 128 : Nat) : Int) := by rw [Int.tdiv_eq_ediv_of_nonneg (by omega)]; omega
    have e2 : Int.tmod (n : Int) 128 = ((n % 128 : Nat) : Int) := by rw [Int.tmod_eq_emod_of_nonneg (by omega)]; omega
    by_cases h : n < 128
    · refine ⟨1, fun acc ha => ?_⟩
      rw [uint_small h] at ha ⊢
      rw [gristmillref01_Uint.l0, e1, e2, u64_nat (by omega), if_pos (by omega), if_pos (by simp at ha; omega)]
      congr 3
      omega
    · obtain ⟨k, hk⟩ := ih (n / 128) (by omega) (by omega)
      refine ⟨k + 1, fun acc ha => ?_⟩
      rw [uint_big h] at ha ⊢
      rw [List.length_cons] at ha
      have hp := uint_pos (n / 128)
      rw [gristmillref01_Uint.l0, e1, e2, u64_nat (by omega), if_neg (by omega), if_pos (by omega), hk _ (by rw [List.length_append, List.length_singleton]; omega)]
      rw [List.append_assoc, List.singleton_append]
      congr 3
      omega
theorem ref_uint (n : Nat) (h : n < 18446744073709551616) : ∃ k, gristmillref01_Uint.f k (n : Int) = some (uint n) := by
  obtain ⟨k, hk⟩ := ref_uint_all n h
  refine ⟨k, ?_⟩
  unfold gristmillref01_Uint.f
  have := uint_ten h
  rw [hk [] (by simp; omega), List.nil_append]
theorem bytesOf_len (s : ByteArray) : (bytesOf s).length = s.size := bytesOf_length s
theorem ref_text (s : ByteArray) (h : s.size < 140737488355000) : ∃ k, gristmillref01_Text.f k s = some (uint s.size ++ bytesOf s) := by
  obtain ⟨k, hk⟩ := ref_uint s.size (by omega)
  refine ⟨k, ?_⟩
  unfold gristmillref01_Text.f
  rw [u64_nat (by omega), hk, Option.bind_some, if_pos]
  have := uint_ten (n := s.size) (by omega)
  omega
end Go.Proofs.Ytkbbbeklgpgolaa
