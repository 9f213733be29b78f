/- Bits, bytes and numbers: the plain law; no program stands here. -/
namespace Go.Proofs.Ytlbdnkkaacccoaa
set_option linter.unusedVariables false
set_option linter.unusedSimpArgs false
set_option maxRecDepth 100000

/-- The w low bits of a number, the highest first. -/
def bitsOf (w v : Nat) : List Bool := (List.range w).map fun i => v.testBit (w - 1 - i)
/-- The number of a row of bits. -/
def num (l : List Bool) : Nat := l.foldl (fun a b => 2 * a + b.toNat) 0
theorem bitsOf_length (w v : Nat) : (bitsOf w v).length = w := by simp [bitsOf]
theorem bitsOf_zero (v : Nat) : bitsOf 0 v = [] := rfl
theorem bitsOf_add (a b v : Nat) : bitsOf (a + b) v = bitsOf a (v / 2 ^ b) ++ bitsOf b v := by
  apply List.ext_getElem
  · simp [bitsOf_length]
  · intro i h1 h2
    simp only [bitsOf_length] at h1
    by_cases hi : i < a
    · rw [List.getElem_append_left (by simpa [bitsOf_length] using hi)]
      simp only [bitsOf, List.getElem_map, List.getElem_range]
      rw [← Nat.shiftRight_eq_div_pow, Nat.testBit_shiftRight]
      congr 1; omega
    · rw [List.getElem_append_right (by simp [bitsOf_length]; omega)]
      simp only [bitsOf, List.getElem_map, List.getElem_range, List.length_map, List.length_range]
      congr 1; omega
theorem bitsOf_succ (w v : Nat) : bitsOf (w + 1) v = bitsOf w (v / 2) ++ [v.testBit 0] := by
  rw [bitsOf_add]; rfl
theorem bitsOf_cons (w v : Nat) : bitsOf (w + 1) v = v.testBit w :: bitsOf w v := by
  rw [Nat.add_comm, bitsOf_add]
  simp [bitsOf, Nat.testBit_eq_decide_div_mod_eq]
theorem num_snoc (l : List Bool) (b : Bool) : num (l ++ [b]) = 2 * num l + b.toNat := by simp [num]
theorem num_nil : num [] = 0 := rfl
theorem num_append (l : List Bool) : ∀ m : List Bool, num (l ++ m) = num l * 2 ^ m.length + num m := by
  have key : ∀ (n : Nat) (m : List Bool), m.length = n → num (l ++ m) = num l * 2 ^ m.length + num m := by
    intro n
    induction n with
    | zero => intro m h; have := List.eq_nil_of_length_eq_zero h; subst this; simp [num_nil]
    | succ n ih =>
      intro m h
      obtain ⟨m', b, rfl⟩ : ∃ m' b, m = m' ++ [b] := ⟨m.dropLast, m.getLast (by intro e; subst e; simp at h), (List.dropLast_concat_getLast _).symm⟩
      have h' : m'.length = n := by simpa using h
      rw [← List.append_assoc, num_snoc, ih m' h', num_snoc, List.length_append, List.length_singleton, Nat.pow_succ, Nat.mul_add, Nat.add_assoc, Nat.mul_left_comm, Nat.mul_comm 2 (2 ^ m'.length), ← Nat.mul_assoc]
  exact fun m => key _ m rfl
theorem num_lt (l : List Bool) : num l < 2 ^ l.length := by
  have key : ∀ (n : Nat) (m : List Bool), m.length = n → num m < 2 ^ n := by
    intro n
    induction n with
    | zero => intro m h; have := List.eq_nil_of_length_eq_zero h; subst this; simp [num_nil]
    | succ n ih =>
      intro m h
      obtain ⟨m', b, rfl⟩ : ∃ m' b, m = m' ++ [b] := ⟨m.dropLast, m.getLast (by intro e; subst e; simp at h), (List.dropLast_concat_getLast _).symm⟩
      have := ih m' (by simpa using h)
      rw [num_snoc, Nat.pow_succ]
      have hb : b.toNat ≤ 1 := by cases b <;> simp
      omega
  exact key _ l rfl
theorem testBit_zero_toNat (v : Nat) : (v.testBit 0).toNat = v % 2 := by
  rw [Nat.testBit_zero]
  rcases Nat.mod_two_eq_zero_or_one v with h | h <;> simp [h]
theorem testBit_toNat (v w : Nat) : (v.testBit w).toNat = v / 2 ^ w % 2 := by
  rw [Nat.testBit_eq_decide_div_mod_eq]
  rcases Nat.mod_two_eq_zero_or_one (v / 2 ^ w) with h | h <;> simp [h]
theorem num_bitsOf (w v : Nat) : num (bitsOf w v) = v % 2 ^ w := by
  induction w generalizing v with
  | zero => simp [bitsOf_zero, num_nil, Nat.mod_one]
  | succ w ih =>
    rw [bitsOf_succ, num_snoc, ih, testBit_zero_toNat]
    have h1 : v % 2 ^ (w + 1) = 2 * (v / 2 % 2 ^ w) + v % 2 := by
      rw [Nat.pow_succ, Nat.mul_comm, Nat.mod_mul, Nat.add_comm]
    omega
theorem bitsOf_num (l : List Bool) : bitsOf l.length (num l) = l := by
  have key : ∀ (n : Nat) (m : List Bool), m.length = n → bitsOf n (num m) = m := by
    intro n
    induction n with
    | zero => intro m h; have := List.eq_nil_of_length_eq_zero h; subst this; rfl
    | succ n ih =>
      intro m h
      obtain ⟨m', b, rfl⟩ : ∃ m' b, m = m' ++ [b] := ⟨m.dropLast, m.getLast (by intro e; subst e; simp at h), (List.dropLast_concat_getLast _).symm⟩
      rw [bitsOf_succ, num_snoc]
      have hb : b.toNat ≤ 1 := by cases b <;> simp
      rw [show (2 * num m' + b.toNat) / 2 = num m' by omega, ih m' (by simpa using h)]
      congr 2
      rw [Nat.testBit_zero]
      cases b <;> simp [Nat.add_mod]
  exact key _ l rfl
theorem bitsOf_mod {w k v : Nat} (h : w ≤ k) : bitsOf w (v % 2 ^ k) = bitsOf w v := by
  apply List.ext_getElem
  · simp [bitsOf_length]
  · intro i h1 h2
    simp only [bitsOf_length] at h1
    simp only [bitsOf, List.getElem_map, List.getElem_range, Nat.testBit_mod_two_pow]
    rw [decide_eq_true (by omega), Bool.true_and]
theorem num_inj {l m : List Bool} (h : l.length = m.length) (e : num l = num m) : l = m := by
  rw [← bitsOf_num l, ← bitsOf_num m, h, e]
theorem num_zero {l : List Bool} : num l = 0 ↔ ∀ b ∈ l, b = false := by
  have key : ∀ (n : Nat) (m : List Bool), m.length = n → (num m = 0 ↔ ∀ b ∈ m, b = false) := by
    intro n
    induction n with
    | zero => intro m h; have := List.eq_nil_of_length_eq_zero h; subst this; simp [num_nil]
    | succ n ih =>
      intro m h
      obtain ⟨m', b, rfl⟩ : ∃ m' b, m = m' ++ [b] := ⟨m.dropLast, m.getLast (by intro e; subst e; simp at h), (List.dropLast_concat_getLast _).symm⟩
      have := ih m' (by simpa using h)
      rw [num_snoc]
      cases b
      · simp only [Bool.toNat_false, Nat.add_zero, Nat.mul_eq_zero, List.mem_append, List.mem_singleton]
        constructor
        · intro hz c hc
          rcases hc with hc | hc
          · exact this.1 (by omega) c hc
          · exact hc
        · intro hz; right; exact this.2 fun c hc => hz c (.inl hc)
      · simp
  exact key _ l rfl

/-! ### Bytes -/
/-- A byte of a row of bits; noughts fill the last. -/
def byteOf (B : List Bool) (j : Nat) : Nat := num ((B.drop (8 * j)).take 8) * 2 ^ (8 - ((B.drop (8 * j)).take 8).length)
def packB (B : List Bool) : List Nat := (List.range ((B.length + 7) / 8)).map (byteOf B)
theorem packB_length (B : List Bool) : (packB B).length = (B.length + 7) / 8 := by simp [packB]
theorem byteOf_lt (B : List Bool) (j : Nat) : byteOf B j < 256 := by
  unfold byteOf
  have h := num_lt ((B.drop (8 * j)).take 8)
  have hl : ((B.drop (8 * j)).take 8).length ≤ 8 := by rw [List.length_take]; omega
  calc num ((B.drop (8 * j)).take 8) * 2 ^ (8 - ((B.drop (8 * j)).take 8).length)
      < 2 ^ ((B.drop (8 * j)).take 8).length * 2 ^ (8 - ((B.drop (8 * j)).take 8).length) := Nat.mul_lt_mul_of_pos_right h (Nat.two_pow_pos _)
    _ = 256 := by rw [← Nat.pow_add, Nat.add_sub_cancel' hl]
theorem packB_lt (B : List Bool) : ∀ x ∈ packB B, x < 256 := by
  intro x hx
  obtain ⟨j, _, rfl⟩ := List.mem_map.1 hx
  exact byteOf_lt B j
theorem byteOf_append {B c : List Bool} {j : Nat} (h : 8 * (j + 1) ≤ B.length) : byteOf (B ++ c) j = byteOf B j := by
  unfold byteOf
  have : ((B ++ c).drop (8 * j)).take 8 = (B.drop (8 * j)).take 8 := by
    rw [List.drop_append_of_le_length (by omega), List.take_append_of_le_length (by simp; omega)]
  rw [this]
/-- Bits behind whole bytes: a byte more. -/
theorem packB_new {B c : List Bool} (hr : B.length % 8 = 0) (h0 : 0 < c.length) (h8 : c.length ≤ 8) : packB (B ++ c) = packB B ++ [num c * 2 ^ (8 - c.length)] := by
  unfold packB
  rw [show ((B ++ c).length + 7) / 8 = (B.length + 7) / 8 + 1 by rw [List.length_append]; omega, List.range_succ, List.map_append]
  congr 1
  · refine List.map_congr_left fun j hj => byteOf_append ?_
    simp only [List.mem_range] at hj
    omega
  · simp only [List.map_cons, List.map_nil, List.cons.injEq, and_true]
    unfold byteOf
    have h1 : 8 * ((B.length + 7) / 8) = B.length := by omega
    rw [h1, List.drop_left, List.take_of_length_le h8]
theorem packB_last {B : List Bool} (hr : B.length % 8 ≠ 0) : packB B = (packB B).dropLast ++ [byteOf B (B.length / 8)] := by
  have e : (B.length + 7) / 8 = B.length / 8 + 1 := by omega
  unfold packB
  rw [e, List.range_succ, List.map_append, List.map_cons, List.map_nil, List.dropLast_concat]
theorem packB_dropLast {B : List Bool} (hr : B.length % 8 ≠ 0) : (packB B).dropLast = (List.range (B.length / 8)).map (byteOf B) := by
  have e : (B.length + 7) / 8 = B.length / 8 + 1 := by omega
  unfold packB
  rw [e, List.range_succ, List.map_append, List.map_cons, List.map_nil, List.dropLast_concat]
/-- Bits that the last byte has room for. -/
theorem packB_more {B c : List Bool} (hr : B.length % 8 ≠ 0) (h8 : B.length % 8 + c.length ≤ 8) :
    packB (B ++ c) = (packB B).dropLast ++ [byteOf B (B.length / 8) ||| num c * 2 ^ (8 - B.length % 8 - c.length)] := by
  have hq : ((B ++ c).length + 7) / 8 = B.length / 8 + 1 := by rw [List.length_append]; omega
  rw [packB_dropLast hr]
  unfold packB
  rw [hq, List.range_succ, List.map_append]
  congr 1
  · refine List.map_congr_left fun j hj => byteOf_append ?_
    simp only [List.mem_range] at hj
    omega
  · simp only [List.map_cons, List.map_nil, List.cons.injEq, and_true]
    have hd : ((B.drop (8 * (B.length / 8))).take 8) = B.drop (8 * (B.length / 8)) := List.take_of_length_le (by rw [List.length_drop]; omega)
    have hl : (B.drop (8 * (B.length / 8))).length = B.length % 8 := by rw [List.length_drop]; omega
    have hd2 : (((B ++ c).drop (8 * (B.length / 8))).take 8) = B.drop (8 * (B.length / 8)) ++ c := by
      rw [List.drop_append_of_le_length (by omega), List.take_of_length_le (by rw [List.length_append, hl]; omega)]
    unfold byteOf
    rw [hd2, hd, num_append, List.length_append, hl]
    generalize hN : num (B.drop (8 * (B.length / 8))) = N
    have hc := num_lt c
    generalize num c = M at hc
    have hr' : B.length % 8 < 8 := Nat.mod_lt _ (by decide)
    generalize B.length % 8 = r at *
    generalize c.length = k at *
    have e1 : 8 - r = k + (8 - r - k) := by omega
    have e2 : 8 - (r + k) = 8 - r - k := by omega
    rw [e2, Nat.add_mul, Nat.mul_assoc, ← Nat.pow_add, ← e1]
    have h2 : M * 2 ^ (8 - r - k) < 2 ^ (8 - r) := by
      calc M * 2 ^ (8 - r - k) < 2 ^ k * 2 ^ (8 - r - k) := Nat.mul_lt_mul_of_pos_right hc (Nat.two_pow_pos _)
        _ = 2 ^ (8 - r) := by rw [← Nat.pow_add, ← e1]
    rw [Nat.mul_comm N, Nat.two_pow_add_eq_or_of_lt h2]

/-- How a byte row grows. -/
theorem pack_prep (B : List Bool) : ∃ A last, A.length ≤ B.length ∧ last < 256 ∧ (B.length % 8 = 0 → A = packB B ∧ last = 0) ∧ (B.length % 8 ≠ 0 → packB B = A ++ [last]) ∧
    ∀ c : List Bool, 0 < c.length → c.length ≤ 8 - B.length % 8 → packB (B ++ c) = A ++ [last ||| num c * 2 ^ (8 - B.length % 8 - c.length)] := by
  by_cases hr : B.length % 8 = 0
  · refine ⟨packB B, 0, by rw [packB_length]; omega, by decide, fun _ => ⟨rfl, rfl⟩, fun h => absurd hr h, fun c h0 h8 => ?_⟩
    rw [packB_new hr h0 (by omega), hr, Nat.zero_or]
  · refine ⟨(packB B).dropLast, byteOf B (B.length / 8), by rw [List.length_dropLast, packB_length]; omega, byteOf_lt _ _, fun h => absurd h hr, fun _ => packB_last hr, fun c h0 h8 => ?_⟩
    exact packB_more hr (by omega)

/-! ### Texts as bits -/
def textBits (t : List Nat) : List Bool := t.flatMap (bitsOf 8)
theorem textBits_length (t : List Nat) : (textBits t).length = 8 * t.length := by
  induction t with
  | nil => rfl
  | cons x t ih => simp only [textBits, List.flatMap_cons, List.length_append, bitsOf_length, List.length_cons] at ih ⊢; omega
theorem textBits_append (s t : List Nat) : textBits (s ++ t) = textBits s ++ textBits t := by simp [textBits]
/-- Some bits within one byte of a text. -/
theorem textBits_part (t : List Nat) (n m : Nat) (h : n / 8 < t.length) (hm : n % 8 + m ≤ 8) : ((textBits t).drop n).take m = bitsOf m (t[n / 8] / 2 ^ (8 - n % 8 - m)) := by
  have hs : t = t.take (n / 8) ++ t[n / 8] :: t.drop (n / 8 + 1) := by rw [List.getElem_cons_drop, List.take_append_drop]
  have hl : (textBits (t.take (n / 8))).length = 8 * (n / 8) := by rw [textBits_length, List.length_take]; omega
  have e1 : (textBits t).drop n = ((bitsOf 8 t[n / 8]).drop (n % 8)) ++ textBits (t.drop (n / 8 + 1)) := by
    conv => lhs; rw [hs]
    rw [textBits_append, List.drop_append, List.drop_of_length_le (by rw [hl]; omega), List.nil_append, hl]
    rw [show n - 8 * (n / 8) = n % 8 by omega]
    simp only [textBits, List.flatMap_cons]
    rw [List.drop_append_of_le_length (by rw [bitsOf_length]; omega)]
  have hr : n % 8 < 8 := Nat.mod_lt _ (by decide)
  have e2 : bitsOf 8 t[n / 8] = bitsOf (n % 8) (t[n / 8] / 2 ^ (8 - n % 8)) ++ bitsOf (8 - n % 8) t[n / 8] := by
    rw [← bitsOf_add]; congr 1; omega
  have e3 : bitsOf (8 - n % 8) t[n / 8] = bitsOf m (t[n / 8] / 2 ^ (8 - n % 8 - m)) ++ bitsOf (8 - n % 8 - m) t[n / 8] := by
    rw [← bitsOf_add]; congr 1; omega
  rw [e1, e2, List.drop_append, List.drop_of_length_le (by rw [bitsOf_length]; omega), List.nil_append, bitsOf_length, Nat.sub_self, List.drop_zero, e3, List.append_assoc, List.take_append_of_le_length (by rw [bitsOf_length]; omega), List.take_of_length_le (by rw [bitsOf_length]; omega)]
/-- The bits of bytes: the bits, and noughts behind. -/
theorem bitsOf_mul (w k x : Nat) : bitsOf (w + k) (x * 2 ^ k) = bitsOf w x ++ List.replicate k false := by
  rw [bitsOf_add, Nat.mul_div_cancel _ (Nat.two_pow_pos _)]
  congr 1
  apply List.ext_getElem
  · simp [bitsOf_length]
  · intro i h1 h2
    simp only [bitsOf_length] at h1
    simp only [bitsOf, List.getElem_map, List.getElem_range, List.getElem_replicate]
    rw [Nat.testBit_mul_two_pow]
    rw [decide_eq_false (by omega)]; rfl
theorem textBits_pack (B : List Bool) : textBits (packB B) = B ++ List.replicate (8 * ((B.length + 7) / 8) - B.length) false := by
  have key : ∀ (n : Nat) (B : List Bool), B.length ≤ n → textBits (packB B) = B ++ List.replicate (8 * ((B.length + 7) / 8) - B.length) false := by
    intro n
    induction n using Nat.strongRecOn with
    | _ n ih =>
      intro B hB
      by_cases h0 : B.length = 0
      · have := List.eq_nil_of_length_eq_zero h0; subst this; rfl
      · have hsplit : packB B = byteOf B 0 :: packB (B.drop 8) := by
          unfold packB
          have e : (B.length + 7) / 8 = ((B.drop 8).length + 7) / 8 + 1 := by rw [List.length_drop]; omega
          rw [e, List.range_succ_eq_map, List.map_cons, List.map_map]
          congr 1
          refine List.map_congr_left fun j _ => ?_
          simp only [Function.comp, byteOf, List.drop_drop]
          rw [show 8 + 8 * j = 8 * (j + 1) by omega]
        rw [hsplit]
        simp only [textBits, List.flatMap_cons]
        have ih' := ih (n - 1) (by omega) (B.drop 8) (by rw [List.length_drop]; omega)
        simp only [textBits] at ih'
        rw [ih']
        have hb : bitsOf 8 (byteOf B 0) = B.take 8 ++ List.replicate (8 - (B.take 8).length) false := by
          unfold byteOf
          rw [Nat.mul_zero, List.drop_zero]
          have hl : (B.take 8).length ≤ 8 := by rw [List.length_take]; omega
          have := bitsOf_mul (B.take 8).length (8 - (B.take 8).length) (num (B.take 8))
          rw [Nat.add_sub_cancel' hl, bitsOf_num] at this
          exact this
        rw [hb]
        by_cases h8 : 8 ≤ B.length
        · have hl : (B.take 8).length = 8 := by rw [List.length_take]; omega
          rw [hl, Nat.sub_self, List.replicate_zero, List.append_nil, ← List.append_assoc, List.take_append_drop, List.length_drop]
          congr 2
          omega
        · have hl : (B.take 8).length = B.length := by rw [List.length_take]; omega
          have hd : B.drop 8 = [] := List.drop_of_length_le (by omega)
          rw [hl, hd, List.take_of_length_le (by omega)]
          simp only [List.length_nil, List.nil_append]
          rw [show 8 * ((0 + 7) / 8) - 0 = 0 by omega, List.replicate_zero, List.append_nil]
          congr 2
          omega
  exact key _ B (Nat.le_refl _)
theorem packB_textBits (t : List Nat) (h : ∀ x ∈ t, x < 256) : packB (textBits t) = t := by
  apply List.ext_getElem
  · rw [packB_length, textBits_length]; omega
  · intro j h1 h2
    simp only [packB, List.getElem_map, List.getElem_range, byteOf]
    have := textBits_part t (8 * j) 8 (by omega) (by omega)
    rw [this, bitsOf_length, num_bitsOf]
    have hx := h _ (List.getElem_mem (h := h2))
    have e : 8 * j / 8 = j := by omega
    simp only [show 8 - 8 * j % 8 - 8 = 0 by omega, Nat.pow_zero, Nat.div_one, e, Nat.sub_self, Nat.mul_one]
    omega
end Go.Proofs.Ytlbdnkkaacccoaa
