/- The digits of a number, in numbers. -/
import Derived.Test.YtpcefmocphbdgaaDoorCom
namespace Go.Proofs.YtpcefmocphbdgaaDoor
set_option linter.unusedVariables false
set_option linter.unusedSimpArgs false
set_option maxRecDepth 100000
/-- A digit's byte. -/
def hexDig (n : Nat) : Nat := if n < 10 then 48 + n else 87 + n
/-- A number's last k digits. -/
def hexL : Nat → Nat → List Nat
  | 0, _ => []
  | k + 1, n => hexL k (n / 16) ++ [hexDig (n % 16)]
/-- A number's digits, no nought ahead. -/
def hexMin (n : Nat) : List Nat := if _h : n < 16 then [hexDig n] else hexMin (n / 16) ++ [hexDig (n % 16)]
termination_by n
decreasing_by omega
theorem hexMin_small {n : Nat} (h : n < 16) : hexMin n = [hexDig n] := by rw [hexMin, dif_pos h]
theorem hexMin_big {n : Nat} (h : ¬ n < 16) : hexMin n = hexMin (n / 16) ++ [hexDig (n % 16)] := by rw [hexMin, dif_neg h]
theorem hexDig_lt {n : Nat} (h : n < 16) : hexDig n < 256 := by unfold hexDig; split <;> omega
theorem hexDig_inj {a b : Nat} (ha : a < 16) (hb : b < 16) (h : hexDig a = hexDig b) : a = b := by unfold hexDig at h; split at h <;> split at h <;> omega
theorem hexL_length : ∀ k n, (hexL k n).length = k
  | 0, _ => rfl
  | k + 1, n => by simp [hexL, hexL_length k]
theorem hexL_lt : ∀ k n, ∀ x ∈ hexL k n, x < 256
  | 0, _, _, h => by cases h
  | k + 1, n, x, h => by
    rcases List.mem_append.1 h with h | h
    · exact hexL_lt k _ x h
    · rw [List.mem_singleton] at h; subst h; exact hexDig_lt (by omega)
theorem hexL_zero : ∀ k, hexL k 0 = List.replicate k 48
  | 0 => rfl
  | k + 1 => by rw [hexL, Nat.zero_div, hexL_zero k, List.replicate_succ']; rfl
theorem hexL_inj : ∀ {k n m : Nat}, n < 16 ^ k → m < 16 ^ k → hexL k n = hexL k m → n = m
  | 0, n, m, hn, hm, _ => by simp at hn hm; omega
  | k + 1, n, m, hn, hm, h => by
    rw [Nat.pow_succ] at hn hm
    rw [hexL, hexL] at h
    have h1 := List.append_inj h (by rw [hexL_length, hexL_length])
    have h2 := hexL_inj (by omega) (by omega) h1.1
    have h3 := hexDig_inj (by omega) (by omega) (List.cons.inj h1.2).1
    omega
theorem hexMin_L : ∀ (k n : Nat), n < 16 ^ (k + 1) → (hexMin n).length ≤ k + 1 ∧ hexL (k + 1) n = List.replicate (k + 1 - (hexMin n).length) 48 ++ hexMin n
  | 0, n, h => by
    rw [hexMin_small (by simpa using h)]
    refine ⟨by simp, ?_⟩
    simp only [hexL, List.length_singleton, Nat.zero_add, Nat.sub_self, List.replicate_zero, List.nil_append, Nat.mod_eq_of_lt (show n < 16 by simpa using h)]
  | k + 1, n, h => by
    by_cases hn : n < 16
    · rw [hexMin_small hn, hexL, show n / 16 = 0 by omega, hexL_zero, Nat.mod_eq_of_lt hn]
      exact ⟨by simp, by simp⟩
    · rw [Nat.pow_succ] at h
      have ih := hexMin_L k (n / 16) (by omega)
      rw [hexMin_big hn, hexL, ih.2]
      refine ⟨by simp; omega, ?_⟩
      rw [List.length_append, List.length_singleton, List.append_assoc, show k + 1 + 1 - ((hexMin (n / 16)).length + 1) = k + 1 - (hexMin (n / 16)).length by omega]
theorem hexMin_lt : ∀ (n : Nat), ∀ x ∈ hexMin n, x < 256 := by
  intro n
  induction n using Nat.strongRecOn with
  | _ n ih =>
    intro x hx
    by_cases hn : n < 16
    · rw [hexMin_small hn, List.mem_singleton] at hx; subst hx; exact hexDig_lt hn
    · rw [hexMin_big hn] at hx
      rcases List.mem_append.1 hx with h | h
      · exact ih _ (by omega) x h
      · rw [List.mem_singleton] at h; subst h; exact hexDig_lt (by omega)
theorem hexMin_pos (n : Nat) : 1 ≤ (hexMin n).length := by
  by_cases hn : n < 16
  · rw [hexMin_small hn]; simp
  · rw [hexMin_big hn]; simp
end Go.Proofs.YtpcefmocphbdgaaDoor
