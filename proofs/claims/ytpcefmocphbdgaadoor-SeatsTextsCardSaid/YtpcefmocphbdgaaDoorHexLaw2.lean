/- Digits read: what a text's first digits tell. -/
import Derived.Test.YtpcefmocphbdgaaDoorHexLaw
namespace Go.Proofs.YtpcefmocphbdgaaDoor
set_option linter.unusedVariables false
set_option linter.unusedSimpArgs false
set_option maxRecDepth 100000
/-- A byte's digit. -/
def rdig (c : Nat) : Option Nat := if 48 ≤ c ∧ c ≤ 57 then some (c - 48) else if 97 ≤ c ∧ c ≤ 102 then some (c - 87) else none
/-- The number that the first i bytes tell; what is no digit is passed over. -/
def rN (l : List Nat) : Nat → Nat
  | 0 => 0
  | i + 1 => match rdig (l.getD i 0) with
    | some k => 16 * rN l i + k
    | none => rN l i
theorem rdig_hex {d : Nat} (h : d < 16) : rdig (hexDig d) = some d := by
  unfold hexDig
  split
  · unfold rdig; rw [if_pos (by omega)]; congr 1; omega
  · unfold rdig; rw [if_neg (by omega), if_pos (by omega)]; congr 1; omega
theorem rdig_spec {c k : Nat} (h : rdig c = some k) : k < 16 ∧ hexDig k = c := by
  unfold rdig at h
  split at h
  · cases h; unfold hexDig; rw [if_pos (by omega)]; omega
  · split at h
    · cases h; unfold hexDig; rw [if_neg (by omega)]; omega
    · cases h
theorem hexL_at : ∀ (k n i : Nat), i < k → (hexL k n).getD i 0 = hexDig (n / 16 ^ (k - 1 - i) % 16)
  | 0, _, _, h => by omega
  | k + 1, n, i, h => by
    have hl := hexL_length k (n / 16)
    unfold hexL
    by_cases hi : i < k
    · have ih := hexL_at k (n / 16) i hi
      rw [List.getD_eq_getElem?_getD, List.getElem?_append_left (by omega), ← List.getD_eq_getElem?_getD, ih, Nat.div_div_eq_div_mul, ← Nat.pow_succ', show (k - 1 - i).succ = k + 1 - 1 - i by omega]
    · obtain rfl : i = k := by omega
      rw [List.getD_eq_getElem?_getD, List.getElem?_append_right (by omega), hl]
      simp
theorem rN_lt (l : List Nat) : ∀ i, rN l i < 16 ^ i
  | 0 => by simp [rN]
  | i + 1 => by
    have ih := rN_lt l i
    unfold rN
    rw [Nat.pow_succ]
    split
    · rename_i k hk; have := (rdig_spec hk).1; omega
    · omega
theorem rN_hex {v : Nat} (hv : v < 16 ^ 16) : ∀ i, i ≤ 16 → rN (hexL 16 v) i = v / 16 ^ (16 - i)
  | 0, _ => by rw [rN, Nat.div_eq_of_lt hv]
  | i + 1, h => by
    have ih := rN_hex hv i (by omega)
    rw [rN, hexL_at 16 v i (by omega), rdig_hex (Nat.mod_lt _ (by omega))]
    show 16 * rN (hexL 16 v) i + _ = _
    rw [ih, show 16 - i = (16 - (i + 1)) + 1 by omega, Nat.pow_succ, ← Nat.div_div_eq_div_mul, show 16 - 1 - i = 16 - (i + 1) by omega]
    exact Nat.div_add_mod _ 16
/-- The value of 16 digits, if the text is such. -/
def hexV (l : List Nat) : Nat := rN l (min l.length 16)
theorem hexV_lt (l : List Nat) : hexV l < 18446744073709551616 := by
  have h := rN_lt l (min l.length 16)
  have : 16 ^ (min l.length 16) ≤ 16 ^ 16 := Nat.pow_le_pow_right (by omega) (Nat.min_le_right _ _)
  unfold hexV
  have e : (16 : Nat) ^ 16 = 18446744073709551616 := by decide
  omega
theorem hexV_hex {v : Nat} (hv : v < 18446744073709551616) : hexV (hexL 16 v) = v := by
  unfold hexV
  rw [hexL_length, Nat.min_self, rN_hex hv 16 (Nat.le_refl _)]
  simp
end Go.Proofs.YtpcefmocphbdgaaDoor
