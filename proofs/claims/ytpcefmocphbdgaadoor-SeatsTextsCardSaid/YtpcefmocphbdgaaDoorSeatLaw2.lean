/- Sets of slots: places, put and drop, the lowest one after the other. -/
import Derived.Test.YtpcefmocphbdgaaDoorSeatLaw
namespace Go.Proofs.YtpcefmocphbdgaaDoor
set_option linter.unusedVariables false
set_option linter.unusedSimpArgs false
set_option maxRecDepth 100000
open Go.Lib

abbrev okSlot (n : Int) : Prop := 0 ≤ n ∧ n < 64
def errS (n : Int) : Int := if okSlot n then 0 else 1
def putN (s : Nat) (n : Int) : Nat := if okSlot n then s ||| 2 ^ n.toNat else 0
def dropN (s : Nat) (n : Int) : Nat := if okSlot n then s &&& cmp (2 ^ n.toNat) else 0
def hasN (s : Nat) (n : Int) : Bool := decide (0 ≤ n ∧ n < 64) && s.testBit n.toNat
def nextI (s : Nat) (n : Int) : Int := optI (firstFrom s (max n 0).toNat)
theorem pow_lt {n : Nat} (h : n < 64) : 2 ^ n < 18446744073709551616 := by
  rw [show (18446744073709551616 : Nat) = 2 ^ 64 by decide]; exact Nat.pow_lt_pow_right (by decide) h
theorem or_lt {a b : Nat} (ha : a < 18446744073709551616) (hb : b < 18446744073709551616) : a ||| b < 18446744073709551616 := Nat.or_lt_two_pow (n := 64) ha hb
theorem putN_lt {s : Nat} (hs : s < 18446744073709551616) (n : Int) : putN s n < 18446744073709551616 := by
  unfold putN; split
  · exact or_lt hs (pow_lt (by omega))
  · decide
theorem dropN_lt {s : Nat} (hs : s < 18446744073709551616) (n : Int) : dropN s n < 18446744073709551616 := by
  unfold dropN; split
  · exact Nat.lt_of_le_of_lt Nat.and_le_left hs
  · decide
theorem put_bit (s n i : Nat) : (s ||| 2 ^ n).testBit i = (s.testBit i || decide (n = i)) := by rw [Nat.testBit_or, Nat.testBit_two_pow]
theorem drop_bit {s n i : Nat} (hn : n < 64) (hi : i < 64) : (s &&& cmp (2 ^ n)).testBit i = (s.testBit i && !decide (n = i)) := by
  rw [Nat.testBit_and, cmp_bit (pow_lt hn), Nat.testBit_two_pow]; simp [hi]
/-! ### The places of the reference -/
def places (s : Nat) : List Bool := (List.range 64).map fun i => s.testBit i
theorem places_length (s : Nat) : (places s).length = 64 := by simp [places]
theorem places_at {s i : Nat} (h : i < 64) : (places s)[i]? = some (s.testBit i) := by simp [places, h]
def wordL : List Bool → Nat
  | [] => 0
  | b :: l => 2 * wordL l + (if b = true then 1 else 0)
theorem wordL_bit : ∀ (l : List Bool) (i : Nat), (wordL l).testBit i = l.getD i false
  | [], i => by simp [wordL]
  | b :: l, 0 => by simp only [wordL, Nat.testBit_zero]; cases b <;> simp
  | b :: l, i + 1 => by
    rw [Nat.testBit_succ, show wordL (b :: l) / 2 = wordL l by simp only [wordL]; split <;> omega, wordL_bit l i]; rfl
theorem wordL_lt : ∀ (l : List Bool), wordL l < 2 ^ l.length
  | [] => by decide
  | b :: l => by
    have := wordL_lt l
    simp only [wordL, List.length_cons, Nat.pow_succ]
    split <;> omega
theorem wordL_places {s : Nat} (hs : s < 18446744073709551616) : wordL (places s) = s := by
  refine bits_ext ?_ hs fun i hi => ?_
  · have := wordL_lt (places s); rw [places_length] at this; exact this
  · rw [wordL_bit, List.getD_eq_getElem?_getD, places_at hi]; rfl
def setN (s : Nat) (n : Int) (b : Bool) : Nat := if b = true then putN s n else dropN s n
theorem word_set {s n : Nat} (hs : s < 18446744073709551616) (hn : n < 64) (b : Bool) : wordL ((places s).set n b) = setN s (n : Int) b := by
  have hok : okSlot (n : Int) := by constructor <;> omega
  have hl : wordL ((places s).set n b) < 18446744073709551616 := by
    have := wordL_lt ((places s).set n b); rw [List.length_set, places_length] at this; exact this
  unfold setN putN dropN
  rw [if_pos hok, if_pos hok, Int.toNat_natCast]
  cases b
  · refine bits_ext hl (Nat.lt_of_le_of_lt Nat.and_le_left hs) fun i hi => ?_
    simp only [Bool.false_eq_true, if_false]
    rw [wordL_bit, drop_bit hn hi, List.getD_eq_getElem?_getD, List.getElem?_set, places_length, places_at hi]
    by_cases h : n = i
    · subst h; simp [hn]
    · simp [h]
  · refine bits_ext hl (or_lt hs (pow_lt hn)) fun i hi => ?_
    simp only [if_true]
    rw [wordL_bit, put_bit, List.getD_eq_getElem?_getD, List.getElem?_set, places_length, places_at hi]
    by_cases h : n = i
    · subst h; simp [hn]
    · simp [h]
/-! ### Counts -/
theorem count_step (p : Nat → Bool) (n : Nat) : ∀ k, ((List.range k).filter fun i => p i || decide (n = i)).length = ((List.range k).filter fun i => p i && !decide (n = i)).length + (if n < k then 1 else 0)
  | 0 => by simp
  | k + 1 => by
    rw [List.range_succ, List.filter_append, List.filter_append, List.length_append, List.length_append, count_step p n k]
    by_cases h : n = k
    · subst h; simp
    · have h1 : (n < k + 1) ↔ n < k := by omega
      cases hp : p k <;> simp [hp, h, h1] <;> omega
theorem count_put_drop {s n : Nat} (hn : n < 64) : (slots (s ||| 2 ^ n)).length = (slots (s &&& cmp (2 ^ n))).length + 1 := by
  have h := count_step (fun i => s.testBit i) n 64
  rw [if_pos hn] at h
  unfold slots
  rw [← show _ = (List.filter (fun i => (s ||| 2 ^ n).testBit i) (List.range 64)) from List.filter_congr fun i _ => (put_bit s n i).symm, h]
  congr 2
  exact List.filter_congr fun i hi => (drop_bit hn (List.mem_range.1 hi)).symm
theorem count_cmp {s : Nat} (hs : s < 18446744073709551616) : (slots (cmp s)).length + (slots s).length = 64 := by
  unfold slots
  rw [show (List.filter (fun i => (cmp s).testBit i) (List.range 64)) = List.filter (fun i => !s.testBit i) (List.range 64) from List.filter_congr fun i hi => by rw [cmp_bit hs]; simp [List.mem_range.1 hi]]
  have key : ∀ k, ((List.range k).filter fun i => !s.testBit i).length + ((List.range k).filter fun i => s.testBit i).length = k := by
    intro k
    induction k with
    | zero => rfl
    | succ k ih =>
      rw [List.range_succ, List.filter_append, List.filter_append, List.length_append, List.length_append]
      cases hk : s.testBit k <;> simp [hk] <;> omega
  exact key 64
/-! ### One after the other -/
theorem head_least {s i : Nat} (h : firstFrom s 0 = some i) : i < 64 ∧ Least s i := by
  obtain ⟨h1, _, h3, h4⟩ := firstFrom_some.1 h
  exact ⟨h1, h3, fun j hj => h4 j hj (Nat.zero_le _)⟩
/-- Where the least that isn't in is put, the others that aren't in stay. -/
theorem cmp_put {s : Nat} (hs : s < 18446744073709551616) {i : Nat} {l : List Nat} (h : slots (cmp s) = i :: l) : i < 64 ∧ slots (cmp (s ||| 2 ^ i)) = l ∧ firstFrom (cmp s) 0 = some i := by
  have hf : firstFrom (cmp s) 0 = some i := by rw [firstFrom_zero, h]; rfl
  obtain ⟨hi, hl⟩ := head_least hf
  refine ⟨hi, ?_, hf⟩
  have h1 := filter_split (fun j => (cmp s).testBit j) i 64 hi hl.off
  rw [if_pos hl.on] at h1
  have h2 : i :: l = [i] ++ (List.range 64).filter (fun j => decide (i < j) && (cmp s).testBit j) := by rw [← h]; exact h1
  rw [List.singleton_append, List.cons.injEq] at h2
  rw [h2.2]
  unfold slots
  refine List.filter_congr fun j hj => ?_
  have hj := List.mem_range.1 hj
  rw [cmp_bit (or_lt hs (pow_lt hi)), put_bit, cmp_bit hs]
  simp only [hj, decide_true, Bool.true_and]
  rcases Nat.lt_trichotomy i j with hij | hij | hij
  · have : ¬ i = j := by omega
    simp [this, hij]
  · subst hij; simp
  · have := hl.off j hij
    rw [cmp_bit hs] at this
    have h5 : ¬ i = j := by omega
    have h6 : ¬ i < j := by omega
    simp only [hj, decide_true, Bool.true_and] at this
    simp [h5, h6, this]
/-- The set behind some steps. -/
def putL (s : Nat) : List Nat → Nat
  | [] => s
  | i :: l => putL (s ||| 2 ^ i) l
theorem putL_append (s : Nat) (a b : List Nat) : putL s (a ++ b) = putL (putL s a) b := by
  induction a generalizing s with
  | nil => rfl
  | cons i a ih => exact ih _
theorem putL_lt {s : Nat} (hs : s < 18446744073709551616) : ∀ {l : List Nat}, (∀ i ∈ l, i < 64) → putL s l < 18446744073709551616
  | [], _ => hs
  | i :: l, h => putL_lt (or_lt hs (pow_lt (h i (by simp)))) fun j hj => h j (by simp [hj])
theorem putL_bit (s : Nat) : ∀ (l : List Nat) (i : Nat), (putL s l).testBit i = (s.testBit i || decide (i ∈ l))
  | [], i => by simp [putL]
  | k :: l, i => by
    rw [putL, putL_bit, put_bit]
    by_cases h : k = i
    · subst h; simp
    · have : ¬ i = k := fun e => h e.symm
      simp [h, this]
theorem putL_slots {s : Nat} (hs : s < 18446744073709551616) : putL 0 (slots s) = s :=
  bits_ext (putL_lt (by decide) fun i hi => (mem_slots.1 hi).1) hs fun i hi => by
    rw [putL_bit, Nat.zero_testBit, Bool.false_or]
    cases h : s.testBit i
    · exact decide_eq_false fun hm => by rw [(mem_slots.1 hm).2] at h; cases h
    · exact decide_eq_true (mem_slots.2 ⟨hi, h⟩)
/-- The set after i steps of taking the least. -/
theorem take_steps {s : Nat} (hs : s < 18446744073709551616) : ∀ (i : Nat), i ≤ (slots (cmp s)).length → slots (cmp (putL s ((slots (cmp s)).take i))) = (slots (cmp s)).drop i ∧ putL s ((slots (cmp s)).take i) < 18446744073709551616
  | 0, _ => ⟨by simp [putL], by simpa [putL] using hs⟩
  | i + 1, h => by
    obtain ⟨h1, h2⟩ := take_steps hs i (by omega)
    have hi : i < (slots (cmp s)).length := by omega
    rw [← List.take_append_getElem hi, putL_append]
    generalize putL s ((slots (cmp s)).take i) = t at *
    have h3 : slots (cmp t) = (slots (cmp s))[i] :: (slots (cmp s)).drop (i + 1) := by rw [h1]; exact List.drop_eq_getElem_cons hi
    obtain ⟨h4, h5, _⟩ := cmp_put h2 h3
    exact ⟨h5, or_lt h2 (pow_lt h4)⟩
theorem take_low {s : Nat} (hs : s < 18446744073709551616) {i : Nat} (h : i < (slots (cmp s)).length) : nextI (cmp (putL s ((slots (cmp s)).take i))) 0 = ((slots (cmp s))[i] : Int) ∧ (slots (cmp s))[i] < 64 := by
  obtain ⟨h1, h2⟩ := take_steps hs i (by omega)
  obtain ⟨h4, _, h6⟩ := cmp_put h2 (show _ = (slots (cmp s))[i] :: (slots (cmp s)).drop (i + 1) by rw [h1]; exact List.drop_eq_getElem_cons h)
  exact ⟨by unfold nextI; rw [show (max (0 : Int) 0).toNat = 0 from rfl, h6]; rfl, h4⟩
theorem take_put {s : Nat} {i : Nat} (h : i < (slots (cmp s)).length) (hl : (slots (cmp s))[i] < 64) : putN (putL s ((slots (cmp s)).take i)) ((slots (cmp s))[i] : Int) = putL s ((slots (cmp s)).take (i + 1)) := by
  rw [← List.take_append_getElem h, putL_append]
  unfold putN
  rw [if_pos (by constructor <;> omega), Int.toNat_natCast]; rfl
/-- Next leads through the list. -/
theorem walk_next {s i k : Nat} (h1 : ∀ x ∈ (slots s).take i, x < k) (h2 : ∀ x ∈ (slots s).drop i, k ≤ x) : firstFrom s k = ((slots s).drop i).head? := by
  rw [firstFrom_slots]
  generalize slots s = l at *
  conv => lhs; rw [← List.take_append_drop i l]
  rw [List.find?_append, show (l.take i).find? (fun j => decide (k ≤ j)) = none from List.find?_eq_none.2 fun x hx => by have := h1 x hx; simp; omega]
  cases hd : l.drop i with
  | nil => rfl
  | cons y m => rw [List.find?_cons_of_pos (by have := h2 y (by rw [hd]; simp); simpa using this)]; rfl
theorem walk_more {s i : Nat} (hi : i < (slots s).length) : (∀ x ∈ (slots s).take (i + 1), x < (slots s)[i] + 1) ∧ (∀ x ∈ (slots s).drop (i + 1), (slots s)[i] + 1 ≤ x) := by
  have hs := slots_sorted s
  generalize slots s = l at *
  have e : l = l.take i ++ l[i] :: l.drop (i + 1) := by rw [← List.drop_eq_getElem_cons hi]; exact (List.take_append_drop i l).symm
  have hp : (l.take i ++ l[i] :: l.drop (i + 1)).Pairwise (· < ·) := e ▸ hs
  obtain ⟨_, h2, h3⟩ := List.pairwise_append.1 hp
  obtain ⟨h4, _⟩ := List.pairwise_cons.1 h2
  refine ⟨fun x hx => ?_, fun x hx => h4 x hx⟩
  rw [← List.take_append_getElem hi] at hx
  rcases List.mem_append.1 hx with hx | hx
  · have := h3 x hx l[i] List.mem_cons_self; omega
  · simp at hx; omega
end Go.Proofs.YtpcefmocphbdgaaDoor
