/- Words of 64 bits as sets of slots; in numbers. -/
import Derived.Test.YtpcefmocphbdgaaDoorCom
import Derived.Lib.TrailingZeros
namespace Go.Proofs.YtpcefmocphbdgaaDoor
set_option linter.unusedVariables false
set_option linter.unusedSimpArgs false
set_option maxRecDepth 100000
open Go.Lib

/-- The slots, rising. -/
def slots (s : Nat) : List Nat := (List.range 64).filter fun i => s.testBit i
/-- The least slot from here on. -/
def firstFrom (s k : Nat) : Option Nat := (List.range 64).find? fun i => decide (k ≤ i) && s.testBit i
def optI : Option Nat → Int
  | some i => (i : Int)
  | none => -1
/-- What isn't in. -/
def cmp (s : Nat) : Nat := 18446744073709551615 - s
theorem cmp_lt (s : Nat) : cmp s < 18446744073709551616 := by unfold cmp; omega
theorem cmp_bit {s : Nat} (hs : s < 18446744073709551616) (i : Nat) : (cmp s).testBit i = (decide (i < 64) && !s.testBit i) := by
  have := Nat.testBit_two_pow_sub_succ (n := 64) (x := s) (by simpa using hs) i
  rw [show cmp s = 2 ^ 64 - (s + 1) by unfold cmp; omega]
  exact this
theorem bit_lt {s i : Nat} (hs : s < 18446744073709551616) (h : s.testBit i = true) : i < 64 := by
  by_cases hi : i < 64
  · exact hi
  · have : s.testBit i = false := Nat.testBit_lt_two_pow (Nat.lt_of_lt_of_le hs (by rw [show (18446744073709551616 : Nat) = 2 ^ 64 by decide]; exact Nat.pow_le_pow_right (by decide) (by omega)))
    rw [this] at h; cases h
theorem bits_ext {a b : Nat} (ha : a < 18446744073709551616) (hb : b < 18446744073709551616) (h : ∀ i, i < 64 → a.testBit i = b.testBit i) : a = b := by
  apply Nat.eq_of_testBit_eq
  intro i
  by_cases hi : i < 64
  · exact h i hi
  · have e1 : a.testBit i = false := by
      cases hx : a.testBit i with
      | false => rfl
      | true => exact absurd (bit_lt ha hx) hi
    have e2 : b.testBit i = false := by
      cases hx : b.testBit i with
      | false => rfl
      | true => exact absurd (bit_lt hb hx) hi
    rw [e1, e2]
/-- The least bit. -/
structure Least (s k : Nat) : Prop where
  on : s.testBit k = true
  off : ∀ j, j < k → s.testBit j = false
theorem Least.unique {s k k' : Nat} (h : Least s k) (h' : Least s k') : k = k' := by
  rcases Nat.lt_trichotomy k k' with h1 | h1 | h1
  · have := h'.off k h1; rw [h.on] at this; cases this
  · exact h1
  · have := h.off k' h1; rw [h'.on] at this; cases this
theorem odd_form {k m j : Nat} : (2 ^ k * (2 * m + 1)).testBit j = (decide (k ≤ j) && (2 * m + 1).testBit (j - k)) := by
  rw [Nat.mul_comm, Nat.testBit_mul_two_pow]
theorem ctz_least {s : Nat} (h0 : s ≠ 0) (hs : s < 18446744073709551616) : Least s (ctz 64 s) ∧ ctz 64 s < 64 := by
  obtain ⟨m, hm, hk⟩ := ctzFrom_spec 64 s (by omega) (by simpa using hs)
  have e : ctz 64 s = ctzFrom 64 s := by simp [ctz, h0]
  rw [e]
  refine ⟨⟨?_, fun j hj => ?_⟩, hk⟩
  · have h1 := odd_form (k := ctzFrom 64 s) (m := m) (j := ctzFrom 64 s)
    rw [← hm] at h1
    rw [h1, Nat.sub_self, Nat.testBit_zero]
    simp
  · generalize ctzFrom 64 s = k at *
    rw [hm, odd_form]
    simp; omega
/-- The word without its least bit. -/
theorem drop_least {s : Nat} (h0 : s ≠ 0) (hs : s < 18446744073709551616) (i : Nat) : (s &&& (s - 1)).testBit i = (decide (ctz 64 s < i) && s.testBit i) := by
  obtain ⟨m, hm, hk⟩ := ctzFrom_spec 64 s (by omega) (by simpa using hs)
  have hl := (ctz_least h0 hs).1
  have e : ctz 64 s = ctzFrom 64 s := by simp [ctz, h0]
  rw [e] at hl ⊢
  generalize ctzFrom 64 s = k at *
  rw [Nat.testBit_and]
  rcases Nat.lt_trichotomy i k with h | h | h
  · rw [hl.off i h]; simp
  · subst h
    have : (s - 1).testBit i = false := by
      have hp : 0 < 2 ^ i := Nat.two_pow_pos i
      have e1 : s - 1 = 2 ^ i * (2 * m) + (2 ^ i - 1) := by rw [hm, Nat.mul_add]; omega
      rw [Nat.testBit_eq_decide_div_mod_eq, e1, Nat.mul_add_div hp, Nat.div_eq_of_lt (by omega)]
      simp
    rw [this]; simp
  · have hp : 0 < 2 ^ k := Nat.two_pow_pos k
    have e1 : s - 1 = 2 ^ (k + 1) * m + (2 ^ k - 1) := by
      rw [hm, Nat.mul_add, Nat.pow_succ, Nat.mul_assoc]; omega
    have e2 : s = 2 ^ (k + 1) * m + 2 ^ k := by
      rw [hm, Nat.mul_add, Nat.pow_succ, Nat.mul_assoc]; omega
    have hlt : 2 ^ k < 2 ^ (k + 1) := by rw [Nat.pow_succ]; omega
    have h1 : (s - 1) / 2 ^ (k + 1) = m := by rw [e1, Nat.mul_add_div (by omega), Nat.div_eq_of_lt (by omega), Nat.add_zero]
    have h2 : s / 2 ^ (k + 1) = m := by rw [e2, Nat.mul_add_div (by omega), Nat.div_eq_of_lt hlt, Nat.add_zero]
    obtain ⟨d, rfl⟩ : ∃ d, i = (k + 1) + d := ⟨i - (k + 1), by omega⟩
    have t1 : (s - 1).testBit (k + 1 + d) = m.testBit d := by rw [← h1, Nat.testBit_div_two_pow]; congr 1; omega
    have t2 : s.testBit (k + 1 + d) = m.testBit d := by rw [← h2, Nat.testBit_div_two_pow]; congr 1; omega
    rw [t1, t2]
    have : decide (k < k + 1 + d) = true := decide_eq_true (by omega)
    rw [this]; simp
theorem filter_split (p : Nat → Bool) (k : Nat) : ∀ n, k < n → (∀ j, j < k → p j = false) → (List.range n).filter p = (if p k = true then [k] else []) ++ (List.range n).filter (fun i => decide (k < i) && p i)
  | 0, h, _ => absurd h (by omega)
  | n + 1, h, hj => by
    rw [List.range_succ, List.filter_append, List.filter_append]
    by_cases hkn : k < n
    · rw [filter_split p k n hkn hj, List.append_assoc]
      congr 2
      exact List.filter_congr fun i hi => by rw [List.mem_singleton] at hi; subst hi; simp [hkn]
    · obtain rfl : k = n := by omega
      have h1 : (List.range k).filter p = [] := List.filter_eq_nil_iff.2 fun a ha => by rw [hj a (List.mem_range.1 ha)]; simp
      have h2 : (List.range k).filter (fun i => decide (k < i) && p i) = [] := List.filter_eq_nil_iff.2 fun a ha => by rw [hj a (List.mem_range.1 ha)]; simp
      rw [h1, h2]
      cases hp : p k <;> simp [hp]
theorem slots_zero : slots 0 = [] := by unfold slots; exact List.filter_eq_nil_iff.2 fun a _ => by simp
theorem slots_cons {s : Nat} (h0 : s ≠ 0) (hs : s < 18446744073709551616) : slots s = ctz 64 s :: slots (s &&& (s - 1)) := by
  obtain ⟨hl, hk⟩ := ctz_least h0 hs
  unfold slots
  rw [filter_split _ _ 64 hk hl.off, if_pos hl.on]
  show ctz 64 s :: _ = _
  congr 1
  exact List.filter_congr fun i _ => (drop_least h0 hs i).symm
theorem drop_lt {s : Nat} (hs : s < 18446744073709551616) : s &&& (s - 1) < 18446744073709551616 := Nat.lt_of_le_of_lt Nat.and_le_left hs
theorem mem_slots {s i : Nat} : i ∈ slots s ↔ i < 64 ∧ s.testBit i = true := by unfold slots; simp
theorem slots_inj {a b : Nat} (ha : a < 18446744073709551616) (hb : b < 18446744073709551616) (h : slots a = slots b) : a = b :=
  bits_ext ha hb fun i hi => by
    have h1 : i ∈ slots a ↔ i ∈ slots b := by rw [h]
    rw [mem_slots, mem_slots] at h1
    exact Bool.eq_iff_iff.2 ⟨fun h2 => (h1.1 ⟨hi, h2⟩).2, fun h2 => (h1.2 ⟨hi, h2⟩).2⟩
theorem slots_sorted (s : Nat) : (slots s).Pairwise (· < ·) := List.Pairwise.filter _ (List.pairwise_lt_range)
theorem slots_length_le (s : Nat) : (slots s).length ≤ 64 := by
  have := List.length_filter_le (fun i => s.testBit i) (List.range 64)
  rwa [List.length_range] at this
theorem firstFrom_slots (s k : Nat) : firstFrom s k = (slots s).find? fun i => decide (k ≤ i) := by
  unfold firstFrom slots
  rw [List.find?_filter]
  congr 1
  funext i
  cases s.testBit i <;> simp
theorem firstFrom_zero {s : Nat} : firstFrom s 0 = (slots s).head? := by
  rw [firstFrom_slots]
  cases slots s <;> simp
theorem firstFrom_some {s k i : Nat} : firstFrom s k = some i ↔ i < 64 ∧ k ≤ i ∧ s.testBit i = true ∧ ∀ j, j < i → k ≤ j → s.testBit j = false := by
  unfold firstFrom
  rw [List.find?_range_eq_some]
  simp only [List.mem_range, Bool.and_eq_true, decide_eq_true_eq]
  constructor
  · rintro ⟨⟨h1, h2⟩, h3, h4⟩
    refine ⟨h3, h1, h2, fun j hj hk => ?_⟩
    have := h4 j hj
    simpa [hk] using this
  · rintro ⟨h1, h2, h3, h4⟩
    refine ⟨⟨h2, h3⟩, h1, fun j hj => ?_⟩
    by_cases hk : k ≤ j
    · simp [h4 j hj hk]
    · simp [hk]
theorem firstFrom_none {s k : Nat} : firstFrom s k = none ↔ ∀ j, j < 64 → k ≤ j → s.testBit j = false := by
  unfold firstFrom
  rw [List.find?_eq_none]
  constructor
  · intro h j hj hk
    have := h j (List.mem_range.2 hj)
    simpa [hk] using this
  · intro h j hj
    by_cases hk : k ≤ j
    · simp [h j (List.mem_range.1 hj) hk]
    · simp [hk]
/-- The bits from here on. -/
theorem mask_bit (f i : Nat) : (18446744073709551615 * 2 ^ f % 18446744073709551616).testBit i = (decide (i < 64) && decide (f ≤ i)) := by
  rw [show (18446744073709551616 : Nat) = 2 ^ 64 by decide, Nat.testBit_mod_two_pow, Nat.testBit_mul_two_pow]
  by_cases hi : i < 64
  · by_cases hf : f ≤ i
    · have : (18446744073709551615 : Nat).testBit (i - f) = true := by
        rw [show (18446744073709551615 : Nat) = 2 ^ 64 - 1 by decide, Nat.testBit_two_pow_sub_one]
        simp; omega
      simp [hi, hf, this]
    · simp [hf]
  · simp [hi]
theorem next_law {s f : Nat} (hs : s < 18446744073709551616) : let x := s &&& (18446744073709551615 * 2 ^ f % 18446744073709551616)
    (x = 0 → firstFrom s f = none) ∧ (x ≠ 0 → firstFrom s f = some (ctz 64 x)) := by
  intro x
  have hx : x < 18446744073709551616 := Nat.lt_of_le_of_lt Nat.and_le_left hs
  have hb : ∀ i, x.testBit i = (s.testBit i && (decide (i < 64) && decide (f ≤ i))) := fun i => by
    show (s &&& _).testBit i = _
    rw [Nat.testBit_and, mask_bit]
  refine ⟨fun h0 => firstFrom_none.2 fun j hj hk => ?_, fun h0 => ?_⟩
  · have := hb j
    rw [h0] at this
    simpa [hj, hk] using this.symm
  · obtain ⟨hl, hk⟩ := ctz_least h0 hx
    have h1 := hl.on
    rw [hb] at h1
    simp only [Bool.and_eq_true, decide_eq_true_eq] at h1
    refine firstFrom_some.2 ⟨hk, h1.2.2, h1.1, fun j hj hfj => ?_⟩
    have := hl.off j hj
    rw [hb] at this
    simpa [hfj, show j < 64 by omega] using this
end Go.Proofs.YtpcefmocphbdgaaDoor
