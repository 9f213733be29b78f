/- The law of the sum, in numbers: a register of bits, moved bit by bit. -/
import Derived.Test.YtphnpchblkpjhaaCom
namespace Go.Proofs.Ytphnpchblkpjhaa
set_option linter.unusedVariables false
set_option linter.unusedSimpArgs false
set_option maxRecDepth 100000
/-- One bit of the sum. -/
def step1 (r : Nat) : Nat := r / 2 ^^^ (if r % 2 = 1 then 0xedb88320 else 0)
def stepN : Nat → Nat → Nat
  | 0, r => r
  | n + 1, r => stepN n (step1 r)
def crc (r : Nat) (l : List Nat) : Nat := l.foldl (fun r b => stepN 8 (r ^^^ b)) r

theorem xor_mod2 (a b : Nat) : (a ^^^ b) % 2 = (a % 2 + b % 2) % 2 := by
  have h := @Nat.testBit_xor a b 0
  simp only [Nat.testBit_zero] at h
  rcases Nat.mod_two_eq_zero_or_one a with ha | ha <;> rcases Nat.mod_two_eq_zero_or_one b with hb | hb <;> rcases Nat.mod_two_eq_zero_or_one (a ^^^ b) with hc | hc <;> simp_all
theorem xor_div2 (a b : Nat) : (a ^^^ b) / 2 = a / 2 ^^^ b / 2 := by
  apply Nat.eq_of_testBit_eq
  intro i
  simp [Nat.testBit_div_two, Nat.testBit_xor]
theorem step1_xor (a b : Nat) : step1 (a ^^^ b) = step1 a ^^^ step1 b := by
  have e : (if (a ^^^ b) % 2 = 1 then 0xedb88320 else 0 : Nat) = (if a % 2 = 1 then 0xedb88320 else 0) ^^^ (if b % 2 = 1 then 0xedb88320 else 0) := by
    rw [xor_mod2]
    rcases Nat.mod_two_eq_zero_or_one a with ha | ha <;> rcases Nat.mod_two_eq_zero_or_one b with hb | hb <;> rw [ha, hb] <;> decide
  unfold step1
  rw [e, xor_div2]
  ac_rfl
theorem stepN_xor : ∀ n a b, stepN n (a ^^^ b) = stepN n a ^^^ stepN n b
  | 0, _, _ => rfl
  | n + 1, a, b => by rw [stepN, step1_xor, stepN_xor n]; rfl
theorem step1_even (x : Nat) : step1 (2 * x) = x := by
  unfold step1
  rw [if_neg (by omega), Nat.xor_zero]
  omega
theorem stepN_even : ∀ n x, stepN n (2 ^ n * x) = x
  | 0, x => by simp [stepN]
  | n + 1, x => by
    rw [stepN, show 2 ^ (n + 1) * x = 2 * (2 ^ n * x) by rw [Nat.pow_succ]; ac_rfl, step1_even, stepN_even n]
theorem step1_lt {r : Nat} (h : r < 2 ^ 32) : step1 r < 2 ^ 32 := by
  unfold step1
  apply Nat.xor_lt_two_pow
  · omega
  · split <;> decide
theorem stepN_lt : ∀ n r, r < 2 ^ 32 → stepN n r < 2 ^ 32
  | 0, _, h => h
  | n + 1, _, h => stepN_lt n _ (step1_lt h)
theorem step1_top {r : Nat} (h : r < 2 ^ 32) : (step1 r).testBit 31 = decide (r % 2 = 1) := by
  unfold step1
  rw [Nat.testBit_xor]
  have : (r / 2).testBit 31 = false := Nat.testBit_lt_two_pow (by omega)
  rw [this]
  split
  · next h => rw [h]; decide
  · next h => rw [decide_eq_false h]; decide
theorem step1_zero {r : Nat} (h : r < 2 ^ 32) (h0 : step1 r = 0) : r = 0 := by
  have ht := step1_top h
  rw [h0] at ht
  have hm : ¬ r % 2 = 1 := by intro hm; rw [hm] at ht; simp at ht
  unfold step1 at h0
  rw [if_neg hm, Nat.xor_zero] at h0
  omega
theorem stepN_zero : ∀ n r, r < 2 ^ 32 → stepN n r = 0 → r = 0
  | 0, _, _, h => h
  | n + 1, _, h, h0 => step1_zero h (stepN_zero n _ (step1_lt h) h0)
theorem xor_eq_zero {a b : Nat} (h : a ^^^ b = 0) : a = b := by
  have : a ^^^ b ^^^ b = b := by rw [h, Nat.zero_xor]
  rwa [Nat.xor_assoc, Nat.xor_self, Nat.xor_zero] at this
theorem stepN_inj {n a b : Nat} (ha : a < 2 ^ 32) (hb : b < 2 ^ 32) (h : stepN n a = stepN n b) : a = b := by
  apply xor_eq_zero
  apply stepN_zero n _ (Nat.xor_lt_two_pow ha hb)
  rw [stepN_xor, h, Nat.xor_self]
/-- The bytes as one number, the first the least. -/
def leN : List Nat → Nat
  | [] => 0
  | b :: l => b ^^^ 256 * leN l
theorem stepN_add : ∀ m n r, stepN (m + n) r = stepN n (stepN m r)
  | 0, n, r => by rw [Nat.zero_add]; rfl
  | m + 1, n, r => by rw [show m + 1 + n = (m + n) + 1 by omega, stepN, stepN_add m n]; rfl
theorem crc_le : ∀ (l : List Nat) (r : Nat), crc r l = stepN (8 * l.length) (r ^^^ leN l)
  | [], r => by simp [crc, stepN, leN]
  | b :: l, r => by
    have ih := crc_le l (stepN 8 (r ^^^ b))
    have e : crc r (b :: l) = crc (stepN 8 (r ^^^ b)) l := rfl
    rw [e, ih, show 8 * (b :: l).length = 8 + 8 * l.length by simp; omega, stepN_add, leN, ← Nat.xor_assoc, stepN_xor 8 (r ^^^ b), show 256 * leN l = 2 ^ 8 * leN l from rfl, stepN_even]
theorem leN_lt : ∀ (l : List Nat), (∀ b ∈ l, b < 256) → leN l < 256 ^ l.length
  | [], _ => by decide
  | b :: l, h => by
    have ih := leN_lt l (fun b hb => h b (by simp [hb]))
    have hb := h b (by simp)
    rw [leN, show 256 ^ (b :: l).length = 2 ^ (8 * (l.length + 1)) by rw [Nat.pow_mul]; simp]
    apply Nat.xor_lt_two_pow
    · exact Nat.lt_of_lt_of_le hb (by rw [show (256 : Nat) = 2 ^ 8 from rfl]; exact Nat.pow_le_pow_right (by decide) (by omega))
    · rw [Nat.pow_mul, Nat.pow_succ, show (2 : Nat) ^ 8 = 256 from rfl]; omega
theorem leN_inj : ∀ {l m : List Nat}, (∀ b ∈ l, b < 256) → (∀ b ∈ m, b < 256) → l.length = m.length → leN l = leN m → l = m
  | [], [], _, _, _, _ => rfl
  | [], _ :: _, _, _, h, _ => by cases h
  | _ :: _, [], _, _, h, _ => by cases h
  | a :: l, b :: m, hl, hm, hlen, h => by
    have ha := hl a (by simp)
    have hb := hm b (by simp)
    rw [leN, leN] at h
    have e1 : ∀ x y : Nat, x < 256 → (x ^^^ 256 * y) % 256 = x := fun x y hx => by
      rw [show (256 : Nat) = 2 ^ 8 from rfl, Nat.xor_mod_two_pow, Nat.mul_mod_right, Nat.xor_zero, Nat.mod_eq_of_lt hx]
    have e2 : ∀ x y : Nat, x < 256 → (x ^^^ 256 * y) / 256 = y := fun x y hx => by
      rw [show (256 : Nat) = 2 ^ 8 from rfl, Nat.xor_div_two_pow, Nat.div_eq_of_lt hx, Nat.zero_xor, Nat.mul_div_cancel_left _ (by decide)]
    have h1 : a = b := by rw [← e1 a (leN l) ha, h, e1 b _ hb]
    have h2 : leN l = leN m := by rw [← e2 a (leN l) ha, h, e2 b _ hb]
    rw [h1, leN_inj (fun b hb => hl b (by simp [hb])) (fun b hb => hm b (by simp [hb])) (by simpa using hlen) h2]
theorem crc_lt : ∀ (l : List Nat) (r : Nat), (∀ b ∈ l, b < 256) → r < 2 ^ 32 → crc r l < 2 ^ 32
  | [], r, _, h => h
  | b :: l, r, hl, h => crc_lt l _ (fun b hb => hl b (by simp [hb])) (stepN_lt _ _ (Nat.xor_lt_two_pow h (Nat.lt_trans (hl b (by simp)) (by decide))))
/-- Texts of one length of at most four bytes are told apart. -/
theorem crc_four {l m : List Nat} {r : Nat} (hl : ∀ b ∈ l, b < 256) (hm : ∀ b ∈ m, b < 256) (hlen : l.length = m.length) (h4 : l.length ≤ 4) (hr : r < 2 ^ 32) (h : crc r l = crc r m) : l = m := by
  rw [crc_le, crc_le, ← hlen] at h
  have b1 := Nat.lt_of_lt_of_le (leN_lt l hl) (Nat.pow_le_pow_right (by decide) h4 : 256 ^ l.length ≤ 256 ^ 4)
  have b2 := Nat.lt_of_lt_of_le (leN_lt m hm) (Nat.pow_le_pow_right (by decide) (hlen ▸ h4) : 256 ^ m.length ≤ 256 ^ 4)
  have h2 := stepN_inj (Nat.xor_lt_two_pow hr b1) (Nat.xor_lt_two_pow hr b2) h
  apply leN_inj hl hm hlen
  have : r ^^^ (r ^^^ leN l) = r ^^^ (r ^^^ leN m) := by rw [h2]
  rwa [← Nat.xor_assoc, ← Nat.xor_assoc, Nat.xor_self, Nat.zero_xor, Nat.zero_xor] at this
theorem crc_append (l m : List Nat) (r : Nat) : crc r (l ++ m) = crc (crc r l) m := List.foldl_append
/-- The register is told apart behind any text. -/
theorem crc_reg {l : List Nat} (hl : ∀ b ∈ l, b < 256) : ∀ {r s : Nat}, r < 2 ^ 32 → s < 2 ^ 32 → crc r l = crc s l → r = s := by
  induction l with
  | nil => intro r s _ _ h; exact h
  | cons b l ih =>
    intro r s hr hs h
    have hb : b < 2 ^ 32 := Nat.lt_trans (hl b (by simp)) (by decide)
    have h1 := ih (fun b hb => hl b (by simp [hb])) (stepN_lt 8 _ (Nat.xor_lt_two_pow hr hb)) (stepN_lt 8 _ (Nat.xor_lt_two_pow hs hb)) h
    have h2 := stepN_inj (Nat.xor_lt_two_pow hr hb) (Nat.xor_lt_two_pow hs hb) h1
    have : r ^^^ b ^^^ b = s ^^^ b ^^^ b := by rw [h2]
    rwa [Nat.xor_assoc, Nat.xor_assoc, Nat.xor_self, Nat.xor_zero, Nat.xor_zero] at this
/-- Texts that differ within four neighbouring bytes. -/
theorem crc_tells {p l m q : List Nat} {r : Nat} (hp : ∀ b ∈ p, b < 256) (hl : ∀ b ∈ l, b < 256) (hm : ∀ b ∈ m, b < 256) (hq : ∀ b ∈ q, b < 256) (hlen : l.length = m.length) (h4 : l.length ≤ 4) (hr : r < 2 ^ 32)
    (h : crc r (p ++ l ++ q) = crc r (p ++ m ++ q)) : l = m := by
  rw [crc_append, crc_append, crc_append, crc_append] at h
  have hr' := crc_lt p r hp hr
  exact crc_four hl hm hlen h4 hr' (crc_reg hq (crc_lt _ _ hl hr') (crc_lt _ _ hm hr') h)
/-- Four texts. -/
theorem crc_mix : ∀ {a b c d : List Nat} {r s t u : Nat}, a.length = b.length → a.length = c.length → d = List.zipWith (· ^^^ ·) (List.zipWith (· ^^^ ·) a b) c → r ^^^ s ^^^ t ^^^ u = 0 → crc r a ^^^ crc s b ^^^ crc t c ^^^ crc u d = 0
  | [], [], [], _, _, _, _, _, _, _, rfl, h => h
  | a :: al, b :: bl, c :: cl, _, r, s, t, u, h1, h2, rfl, h => by
    show crc (stepN 8 (r ^^^ a)) al ^^^ crc (stepN 8 (s ^^^ b)) bl ^^^ crc (stepN 8 (t ^^^ c)) cl ^^^ crc (stepN 8 (u ^^^ (a ^^^ b ^^^ c))) (List.zipWith (· ^^^ ·) (List.zipWith (· ^^^ ·) al bl) cl) = 0
    refine crc_mix (a := al) (b := bl) (c := cl) (by simpa using h1) (by simpa using h2) rfl ?_
    rw [← stepN_xor, ← stepN_xor, ← stepN_xor]
    have : r ^^^ a ^^^ (s ^^^ b) ^^^ (t ^^^ c) ^^^ (u ^^^ (a ^^^ b ^^^ c)) = (r ^^^ s ^^^ t ^^^ u) ^^^ ((a ^^^ b ^^^ c) ^^^ (a ^^^ b ^^^ c)) := by ac_rfl
    rw [this, h, Nat.xor_self]
    decide
  | [], _ :: _, _, _, _, _, _, _, h, _, _, _ => by cases h
  | _ :: _, [], _, _, _, _, _, _, h, _, _, _ => by cases h
  | [], [], _ :: _, _, _, _, _, _, _, h, _, _ => by cases h
  | _ :: _, _ :: _, [], _, _, _, _, _, _, h, _, _ => by cases h
end Go.Proofs.Ytphnpchblkpjhaa
