/- What the laws' proofs stand on, in one row: laws in numbers and lists, contracts of functions. No condition. -/
import Derived.Test.YtgodkfaacjllcaaSl2
import Derived.Test.YtgodkfaacjllcaaProg
import Derived.Test.YtgodkfaacjllcaaSl
import Derived.Laws.Bits128
import Derived.Test.YtgodkfaacjllcaaShelf
import Derived.Laws.BitsAllLaws
/- What all layers use. -/
namespace Go.Proofs.Ytgodkfaacjllcaa
set_option linter.unusedVariables false
set_option linter.unusedSimpArgs false
set_option maxRecDepth 100000
open SL Go.RowKit Go.Maps

abbrev Ret (v : Value) : Ending → Heap → Prop := fun e H => e = .returned v ∧ H = []
theorem ret_int {k : IntKind} {a b : Int} (h : a = b) : Ending.returned (.int k a) = .returned (.int k b) := by rw [h]
theorem ret_bool {a b : Bool} (h : a = b) : Ending.returned (.bool a) = .returned (.bool b) := by rw [h]
theorem ret_str {a b : ByteArray} (h : a = b) : Ending.returned (.string a) = .returned (.string b) := by rw [h]
theorem gsome {g : Option (Nat × Nat)} {α : Type} {l : List α} (h : g = none ↔ l = []) (hl : l ≠ []) : ∃ b c, g = some (b, c) := by
  cases g with
  | none => exact absurd (h.1 rfl) hl
  | some p => exact ⟨p.1, p.2, rfl⟩
theorem take_eq_step {α : Type} [DecidableEq α] {a b : List α} {i : Nat} (h : a.take i = b.take i) (ha : i < a.length) (hb : i < b.length) (he : a[i] = b[i]) : a.take (i + 1) = b.take (i + 1) := by
  rw [← List.take_append_getElem ha, ← List.take_append_getElem hb, h, he]
abbrev strs (a : List ByteArray) : List Value := a.map .string
abbrev intsV (l : List Int) : List Value := l.map fun x => Value.int .i64 x
theorem elemOff_nat (o i sz : Nat) (h : sz = 1) : elemOff o (i : Int) sz = o + i := by subst h; rfl
theorem u64_mod (v : Int) (n : Int) (h0 : 0 < n) : ∃ x : Nat, (IntKind.u64.wrap v).tmod n = (x : Int) ∧ (x : Int) < n := by
  have h : 0 ≤ IntKind.u64.wrap v := by simp [IntKind.wrap, IntKind.signed]; omega
  have h2 := Int.tmod_nonneg n h
  have h3 := Int.tmod_lt_of_pos (IntKind.u64.wrap v) h0
  exact ⟨((IntKind.u64.wrap v).tmod n).toNat, by omega, by omega⟩
end Go.Proofs.Ytgodkfaacjllcaa

/- The same texts. -/
namespace Go.Proofs.Ytgodkfaacjllcaa
set_option linter.unusedVariables false
set_option linter.unusedSimpArgs false
set_option maxRecDepth 100000
open SL Go.RowKit Go.Maps

theorem bytes_inj {x y : ByteArray} (h : x.toList = y.toList) : x = y := by
  rw [ByteArray.toList_eq, ByteArray.toList_eq] at h
  obtain ⟨⟨x⟩⟩ := x
  obtain ⟨⟨y⟩⟩ := y
  simp at h
  rw [h]
theorem bytes_beq (x y : ByteArray) : (x.toList == y.toList) = decide (x = y) := by
  by_cases h : x = y
  · subst h; simp
  · rw [decide_eq_false h, beq_eq_false_iff_ne]; exact fun e => h (bytes_inj e)
theorem same_ok (F : Mem) (oa ob : Option Addr) (ca cb : Nat) (a b : List ByteArray) (ha : SlF F 1 oa a.length (strs a)) (hb : SlF F 1 ob b.length (strs b)) (hn : a.length ≤ 9223372036854775807) :
    FT Try.prog 10 [.slice oa a.length ca, .slice ob b.length cb].toArray F [] (Ret (.bool (decide (a = b)))) := by
  refine FT.of_body Try.func10 rfl Try.ntmps10 (by simp) fun C hC => ?_
  subst hC
  conv => whnf
  refine cond_split ?_ ?_
  · intro hne
    conv => whnf
    refine RetI.one Try.results10 rfl ?_
    conv => whnf
    refine ⟨_, Sub.refl _, ret_bool ?_, rfl⟩
    have hne : ((a.length : Nat) : Int) ≠ ((b.length : Nat) : Int) := by simpa using hne
    rw [decide_eq_false]
    intro e; subst e; exact hne rfl
  · intro he
    have he : a.length = b.length := by have : ((a.length : Nat) : Int) = ((b.length : Nat) : Int) := by simpa using he
                                        omega
    conv => whnf
    refine LoopI.by_state (σ := Nat) (fun i => [(0, .slice oa a.length ca), (1, .slice ob b.length cb), (12, .int .i64 (a.length : Int)), (13, .int .i64 (i : Int))]) (fun _ => []) (fun i => i ≤ a.length ∧ a.take i = b.take i) (fun i => a.length - i) 0 (by simp) ⟨rfl, rfl, rfl, rfl, trivial⟩ (Sub.refl _) ?_
    rintro i f0 ⟨hi, ht⟩
    conv => whnf
    refine cond_dec (fun h => ?_) (fun h => ?_)
    · obtain ⟨xa, ya, rfl, hra⟩ := ha.at (i := i) (by omega)
      obtain ⟨xb, yb, rfl, hrb⟩ := hb.at (i := i) (by omega)
      conv => whnf
      refine DrawI.quiet (by kernel_rfl) (by kernel_rfl) ?_
      conv => whnf
      refine ⟨by omega, ?_⟩
      conv => whnf
      refine LoadV.f (hra i (.string (a[i]'(by omega))) (by simp [strs])) rfl ?_
      conv => whnf
      refine ⟨by omega, ?_⟩
      conv => whnf
      refine LoadV.f (hrb i (.string (b[i]'(by omega))) (by simp [strs])) rfl ?_
      conv => whnf
      cases hq : (a[i].toList == b[i].toList) with
      | true =>
        conv => whnf
        refine ArI.to64 ((i + 1 : Nat) : Int) (by omega) (by omega) ?_
        conv => whnf
        exact ⟨i + 1, [], by omega, Sub.refl _, ⟨by omega, take_eq_step ht (by omega) (by omega) (bytes_inj (by simpa using hq))⟩, ⟨rfl, rfl, rfl, rfl, trivial⟩, rfl⟩
      | false =>
        conv => whnf
        refine RetI.one Try.results10 rfl ?_
        conv => whnf
        refine ⟨_, Sub.refl _, ret_bool ?_, rfl⟩
        rw [decide_eq_false]
        intro e; subst e; simp at hq
    · conv => whnf
      refine RetI.one Try.results10 rfl ?_
      conv => whnf
      refine ⟨_, Sub.refl _, ret_bool ?_, rfl⟩
      have : i = a.length := by omega
      subst this
      rw [decide_eq_true]
      have h1 : a.take a.length = a := List.take_length
      have h2 : b.take a.length = b := by rw [he]; exact List.take_length
      rw [← h1, ht, h2]
end Go.Proofs.Ytgodkfaacjllcaa

/- The law of the sum, in numbers: a register of bits, moved bit by bit. -/
namespace Go.Proofs.Ytgodkfaacjllcaa
set_option linter.unusedVariables false
set_option linter.unusedSimpArgs false
set_option maxRecDepth 100000
/-- One bit of the sum. -/
def step1 (r : Nat) : Nat := r / 2 ^^^ (if r % 2 = 1 then 0xedb88320 else 0)
def stepN : Nat → Nat → Nat
  | 0, r => r
  | n + 1, r => stepN n (step1 r)
def crc (r : Nat) (l : List Nat) : Nat := l.foldl (fun r b => stepN 8 (r ^^^ b)) r

theorem xor_mod2 (a b : Nat) : (a ^^^ b) % 2 = (a % 2 + b % 2) % 2 := by
  have h := @Nat.testBit_xor a b 0
  simp only [Nat.testBit_zero] at h
  rcases Nat.mod_two_eq_zero_or_one a with ha | ha <;> rcases Nat.mod_two_eq_zero_or_one b with hb | hb <;> rcases Nat.mod_two_eq_zero_or_one (a ^^^ b) with hc | hc <;> simp_all
theorem xor_div2 (a b : Nat) : (a ^^^ b) / 2 = a / 2 ^^^ b / 2 := by
  apply Nat.eq_of_testBit_eq
  intro i
  simp [Nat.testBit_div_two, Nat.testBit_xor]
theorem step1_xor (a b : Nat) : step1 (a ^^^ b) = step1 a ^^^ step1 b := by
  have e : (if (a ^^^ b) % 2 = 1 then 0xedb88320 else 0 : Nat) = (if a % 2 = 1 then 0xedb88320 else 0) ^^^ (if b % 2 = 1 then 0xedb88320 else 0) := by
    rw [xor_mod2]
    rcases Nat.mod_two_eq_zero_or_one a with ha | ha <;> rcases Nat.mod_two_eq_zero_or_one b with hb | hb <;> rw [ha, hb] <;> decide
  unfold step1
  rw [e, xor_div2]
  ac_rfl
theorem stepN_xor : ∀ n a b, stepN n (a ^^^ b) = stepN n a ^^^ stepN n b
  | 0, _, _ => rfl
  | n + 1, a, b => by rw [stepN, step1_xor, stepN_xor n]; rfl
theorem step1_even (x : Nat) : step1 (2 * x) = x := by
  unfold step1
  rw [if_neg (by omega), Nat.xor_zero]
  omega
theorem stepN_even : ∀ n x, stepN n (2 ^ n * x) = x
  | 0, x => by simp [stepN]
  | n + 1, x => by
    rw [stepN, show 2 ^ (n + 1) * x = 2 * (2 ^ n * x) by rw [Nat.pow_succ]; ac_rfl, step1_even, stepN_even n]
theorem step1_lt {r : Nat} (h : r < 2 ^ 32) : step1 r < 2 ^ 32 := by
  unfold step1
  apply Nat.xor_lt_two_pow
  · omega
  · split <;> decide
theorem stepN_lt : ∀ n r, r < 2 ^ 32 → stepN n r < 2 ^ 32
  | 0, _, h => h
  | n + 1, _, h => stepN_lt n _ (step1_lt h)
theorem step1_top {r : Nat} (h : r < 2 ^ 32) : (step1 r).testBit 31 = decide (r % 2 = 1) := by
  unfold step1
  rw [Nat.testBit_xor]
  have : (r / 2).testBit 31 = false := Nat.testBit_lt_two_pow (by omega)
  rw [this]
  split
  · next h => rw [h]; decide
  · next h => rw [decide_eq_false h]; decide
theorem step1_zero {r : Nat} (h : r < 2 ^ 32) (h0 : step1 r = 0) : r = 0 := by
  have ht := step1_top h
  rw [h0] at ht
  have hm : ¬ r % 2 = 1 := by intro hm; rw [hm] at ht; simp at ht
  unfold step1 at h0
  rw [if_neg hm, Nat.xor_zero] at h0
  omega
theorem stepN_zero : ∀ n r, r < 2 ^ 32 → stepN n r = 0 → r = 0
  | 0, _, _, h => h
  | n + 1, _, h, h0 => step1_zero h (stepN_zero n _ (step1_lt h) h0)
theorem xor_eq_zero {a b : Nat} (h : a ^^^ b = 0) : a = b := by
  have : a ^^^ b ^^^ b = b := by rw [h, Nat.zero_xor]
  rwa [Nat.xor_assoc, Nat.xor_self, Nat.xor_zero] at this
theorem stepN_inj {n a b : Nat} (ha : a < 2 ^ 32) (hb : b < 2 ^ 32) (h : stepN n a = stepN n b) : a = b := by
  apply xor_eq_zero
  apply stepN_zero n _ (Nat.xor_lt_two_pow ha hb)
  rw [stepN_xor, h, Nat.xor_self]
/-- The bytes as one number, the first the least. -/
def leN : List Nat → Nat
  | [] => 0
  | b :: l => b ^^^ 256 * leN l
theorem stepN_add : ∀ m n r, stepN (m + n) r = stepN n (stepN m r)
  | 0, n, r => by rw [Nat.zero_add]; rfl
  | m + 1, n, r => by rw [show m + 1 + n = (m + n) + 1 by omega, stepN, stepN_add m n]; rfl
theorem crc_le : ∀ (l : List Nat) (r : Nat), crc r l = stepN (8 * l.length) (r ^^^ leN l)
  | [], r => by simp [crc, stepN, leN]
  | b :: l, r => by
    have ih := crc_le l (stepN 8 (r ^^^ b))
    have e : crc r (b :: l) = crc (stepN 8 (r ^^^ b)) l := rfl
    rw [e, ih, show 8 * (b :: l).length = 8 + 8 * l.length by simp; omega, stepN_add, leN, ← Nat.xor_assoc, stepN_xor 8 (r ^^^ b), show 256 * leN l = 2 ^ 8 * leN l from rfl, stepN_even]
theorem leN_lt : ∀ (l : List Nat), (∀ b ∈ l, b < 256) → leN l < 256 ^ l.length
  | [], _ => by decide
  | b :: l, h => by
    have ih := leN_lt l (fun b hb => h b (by simp [hb]))
    have hb := h b (by simp)
    rw [leN, show 256 ^ (b :: l).length = 2 ^ (8 * (l.length + 1)) by rw [Nat.pow_mul]; simp]
    apply Nat.xor_lt_two_pow
    · exact Nat.lt_of_lt_of_le hb (by rw [show (256 : Nat) = 2 ^ 8 from rfl]; exact Nat.pow_le_pow_right (by decide) (by omega))
    · rw [Nat.pow_mul, Nat.pow_succ, show (2 : Nat) ^ 8 = 256 from rfl]; omega
theorem leN_inj : ∀ {l m : List Nat}, (∀ b ∈ l, b < 256) → (∀ b ∈ m, b < 256) → l.length = m.length → leN l = leN m → l = m
  | [], [], _, _, _, _ => rfl
  | [], _ :: _, _, _, h, _ => by cases h
  | _ :: _, [], _, _, h, _ => by cases h
  | a :: l, b :: m, hl, hm, hlen, h => by
    have ha := hl a (by simp)
    have hb := hm b (by simp)
    rw [leN, leN] at h
    have e1 : ∀ x y : Nat, x < 256 → (x ^^^ 256 * y) % 256 = x := fun x y hx => by
      rw [show (256 : Nat) = 2 ^ 8 from rfl, Nat.xor_mod_two_pow, Nat.mul_mod_right, Nat.xor_zero, Nat.mod_eq_of_lt hx]
    have e2 : ∀ x y : Nat, x < 256 → (x ^^^ 256 * y) / 256 = y := fun x y hx => by
      rw [show (256 : Nat) = 2 ^ 8 from rfl, Nat.xor_div_two_pow, Nat.div_eq_of_lt hx, Nat.zero_xor, Nat.mul_div_cancel_left _ (by decide)]
    have h1 : a = b := by rw [← e1 a (leN l) ha, h, e1 b _ hb]
    have h2 : leN l = leN m := by rw [← e2 a (leN l) ha, h, e2 b _ hb]
    rw [h1, leN_inj (fun b hb => hl b (by simp [hb])) (fun b hb => hm b (by simp [hb])) (by simpa using hlen) h2]
theorem crc_lt : ∀ (l : List Nat) (r : Nat), (∀ b ∈ l, b < 256) → r < 2 ^ 32 → crc r l < 2 ^ 32
  | [], r, _, h => h
  | b :: l, r, hl, h => crc_lt l _ (fun b hb => hl b (by simp [hb])) (stepN_lt _ _ (Nat.xor_lt_two_pow h (Nat.lt_trans (hl b (by simp)) (by decide))))
/-- Texts of one length of at most four bytes are told apart. -/
theorem crc_four {l m : List Nat} {r : Nat} (hl : ∀ b ∈ l, b < 256) (hm : ∀ b ∈ m, b < 256) (hlen : l.length = m.length) (h4 : l.length ≤ 4) (hr : r < 2 ^ 32) (h : crc r l = crc r m) : l = m := by
  rw [crc_le, crc_le, ← hlen] at h
  have b1 := Nat.lt_of_lt_of_le (leN_lt l hl) (Nat.pow_le_pow_right (by decide) h4 : 256 ^ l.length ≤ 256 ^ 4)
  have b2 := Nat.lt_of_lt_of_le (leN_lt m hm) (Nat.pow_le_pow_right (by decide) (hlen ▸ h4) : 256 ^ m.length ≤ 256 ^ 4)
  have h2 := stepN_inj (Nat.xor_lt_two_pow hr b1) (Nat.xor_lt_two_pow hr b2) h
  apply leN_inj hl hm hlen
  have : r ^^^ (r ^^^ leN l) = r ^^^ (r ^^^ leN m) := by rw [h2]
  rwa [← Nat.xor_assoc, ← Nat.xor_assoc, Nat.xor_self, Nat.zero_xor, Nat.zero_xor] at this
theorem crc_append (l m : List Nat) (r : Nat) : crc r (l ++ m) = crc (crc r l) m := List.foldl_append
/-- The register is told apart behind any text. -/
theorem crc_reg {l : List Nat} (hl : ∀ b ∈ l, b < 256) : ∀ {r s : Nat}, r < 2 ^ 32 → s < 2 ^ 32 → crc r l = crc s l → r = s := by
  induction l with
  | nil => intro r s _ _ h; exact h
  | cons b l ih =>
    intro r s hr hs h
    have hb : b < 2 ^ 32 := Nat.lt_trans (hl b (by simp)) (by decide)
    have h1 := ih (fun b hb => hl b (by simp [hb])) (stepN_lt 8 _ (Nat.xor_lt_two_pow hr hb)) (stepN_lt 8 _ (Nat.xor_lt_two_pow hs hb)) h
    have h2 := stepN_inj (Nat.xor_lt_two_pow hr hb) (Nat.xor_lt_two_pow hs hb) h1
    have : r ^^^ b ^^^ b = s ^^^ b ^^^ b := by rw [h2]
    rwa [Nat.xor_assoc, Nat.xor_assoc, Nat.xor_self, Nat.xor_zero, Nat.xor_zero] at this
/-- Texts that differ within four neighbouring bytes. -/
theorem crc_tells {p l m q : List Nat} {r : Nat} (hp : ∀ b ∈ p, b < 256) (hl : ∀ b ∈ l, b < 256) (hm : ∀ b ∈ m, b < 256) (hq : ∀ b ∈ q, b < 256) (hlen : l.length = m.length) (h4 : l.length ≤ 4) (hr : r < 2 ^ 32)
    (h : crc r (p ++ l ++ q) = crc r (p ++ m ++ q)) : l = m := by
  rw [crc_append, crc_append, crc_append, crc_append] at h
  have hr' := crc_lt p r hp hr
  exact crc_four hl hm hlen h4 hr' (crc_reg hq (crc_lt _ _ hl hr') (crc_lt _ _ hm hr') h)
/-- Four texts. -/
theorem crc_mix : ∀ {a b c d : List Nat} {r s t u : Nat}, a.length = b.length → a.length = c.length → d = List.zipWith (· ^^^ ·) (List.zipWith (· ^^^ ·) a b) c → r ^^^ s ^^^ t ^^^ u = 0 → crc r a ^^^ crc s b ^^^ crc t c ^^^ crc u d = 0
  | [], [], [], _, _, _, _, _, _, _, rfl, h => h
  | a :: al, b :: bl, c :: cl, _, r, s, t, u, h1, h2, rfl, h => by
    show crc (stepN 8 (r ^^^ a)) al ^^^ crc (stepN 8 (s ^^^ b)) bl ^^^ crc (stepN 8 (t ^^^ c)) cl ^^^ crc (stepN 8 (u ^^^ (a ^^^ b ^^^ c))) (List.zipWith (· ^^^ ·) (List.zipWith (· ^^^ ·) al bl) cl) = 0
    refine crc_mix (a := al) (b := bl) (c := cl) (by simpa using h1) (by simpa using h2) rfl ?_
    rw [← stepN_xor, ← stepN_xor, ← stepN_xor]
    have : r ^^^ a ^^^ (s ^^^ b) ^^^ (t ^^^ c) ^^^ (u ^^^ (a ^^^ b ^^^ c)) = (r ^^^ s ^^^ t ^^^ u) ^^^ ((a ^^^ b ^^^ c) ^^^ (a ^^^ b ^^^ c)) := by ac_rfl
    rw [this, h, Nat.xor_self]
    decide
  | [], _ :: _, _, _, _, _, _, _, h, _, _, _ => by cases h
  | _ :: _, [], _, _, _, _, _, _, h, _, _, _ => by cases h
  | [], [], _ :: _, _, _, _, _, _, _, h, _, _ => by cases h
  | _ :: _, _ :: _, [], _, _, _, _, _, _, h, _, _ => by cases h
end Go.Proofs.Ytgodkfaacjllcaa

/- The digits of a number, in numbers. -/
namespace Go.Proofs.Ytgodkfaacjllcaa
set_option linter.unusedVariables false
set_option linter.unusedSimpArgs false
set_option maxRecDepth 100000
/-- A digit's byte. -/
def hexDig (n : Nat) : Nat := if n < 10 then 48 + n else 87 + n
/-- A number's last k digits. -/
def hexL : Nat → Nat → List Nat
  | 0, _ => []
  | k + 1, n => hexL k (n / 16) ++ [hexDig (n % 16)]
/-- A number's digits, no nought ahead. -/
def hexMin (n : Nat) : List Nat := if _h : n < 16 then [hexDig n] else hexMin (n / 16) ++ [hexDig (n % 16)]
termination_by n
decreasing_by omega
theorem hexMin_small {n : Nat} (h : n < 16) : hexMin n = [hexDig n] := by rw [hexMin, dif_pos h]
theorem hexMin_big {n : Nat} (h : ¬ n < 16) : hexMin n = hexMin (n / 16) ++ [hexDig (n % 16)] := by rw [hexMin, dif_neg h]
theorem hexDig_lt {n : Nat} (h : n < 16) : hexDig n < 256 := by unfold hexDig; split <;> omega
theorem hexDig_inj {a b : Nat} (ha : a < 16) (hb : b < 16) (h : hexDig a = hexDig b) : a = b := by unfold hexDig at h; split at h <;> split at h <;> omega
theorem hexL_length : ∀ k n, (hexL k n).length = k
  | 0, _ => rfl
  | k + 1, n => by simp [hexL, hexL_length k]
theorem hexL_lt : ∀ k n, ∀ x ∈ hexL k n, x < 256
  | 0, _, _, h => by cases h
  | k + 1, n, x, h => by
    rcases List.mem_append.1 h with h | h
    · exact hexL_lt k _ x h
    · rw [List.mem_singleton] at h; subst h; exact hexDig_lt (by omega)
theorem hexL_zero : ∀ k, hexL k 0 = List.replicate k 48
  | 0 => rfl
  | k + 1 => by rw [hexL, Nat.zero_div, hexL_zero k, List.replicate_succ']; rfl
theorem hexL_inj : ∀ {k n m : Nat}, n < 16 ^ k → m < 16 ^ k → hexL k n = hexL k m → n = m
  | 0, n, m, hn, hm, _ => by simp at hn hm; omega
  | k + 1, n, m, hn, hm, h => by
    rw [Nat.pow_succ] at hn hm
    rw [hexL, hexL] at h
    have h1 := List.append_inj h (by rw [hexL_length, hexL_length])
    have h2 := hexL_inj (by omega) (by omega) h1.1
    have h3 := hexDig_inj (by omega) (by omega) (List.cons.inj h1.2).1
    omega
theorem hexMin_L : ∀ (k n : Nat), n < 16 ^ (k + 1) → (hexMin n).length ≤ k + 1 ∧ hexL (k + 1) n = List.replicate (k + 1 - (hexMin n).length) 48 ++ hexMin n
  | 0, n, h => by
    rw [hexMin_small (by simpa using h)]
    refine ⟨by simp, ?_⟩
    simp only [hexL, List.length_singleton, Nat.zero_add, Nat.sub_self, List.replicate_zero, List.nil_append, Nat.mod_eq_of_lt (show n < 16 by simpa using h)]
  | k + 1, n, h => by
    by_cases hn : n < 16
    · rw [hexMin_small hn, hexL, show n / 16 = 0 by omega, hexL_zero, Nat.mod_eq_of_lt hn]
      exact ⟨by simp, by simp⟩
    · rw [Nat.pow_succ] at h
      have ih := hexMin_L k (n / 16) (by omega)
      rw [hexMin_big hn, hexL, ih.2]
      refine ⟨by simp; omega, ?_⟩
      rw [List.length_append, List.length_singleton, List.append_assoc, show k + 1 + 1 - ((hexMin (n / 16)).length + 1) = k + 1 - (hexMin (n / 16)).length by omega]
theorem hexMin_lt : ∀ (n : Nat), ∀ x ∈ hexMin n, x < 256 := by
  intro n
  induction n using Nat.strongRecOn with
  | _ n ih =>
    intro x hx
    by_cases hn : n < 16
    · rw [hexMin_small hn, List.mem_singleton] at hx; subst hx; exact hexDig_lt hn
    · rw [hexMin_big hn] at hx
      rcases List.mem_append.1 hx with h | h
      · exact ih _ (by omega) x h
      · rw [List.mem_singleton] at h; subst h; exact hexDig_lt (by omega)
theorem hexMin_pos (n : Nat) : 1 ≤ (hexMin n).length := by
  by_cases hn : n < 16
  · rw [hexMin_small hn]; simp
  · rw [hexMin_big hn]; simp
end Go.Proofs.Ytgodkfaacjllcaa

/- Shifts and masks of whole numbers, as natural numbers. -/
namespace Go.Proofs.Ytgodkfaacjllcaa
set_option linter.unusedVariables false
set_option linter.unusedSimpArgs false
set_option maxRecDepth 100000
open SL Go.RowKit

theorem shr_nat (V W k : Nat) : Int.fdiv (V : Int) (2 ^ min (Int.toNat (W : Int)) k) = ((V / 2 ^ min W k : Nat) : Int) := by
  rw [Int.toNat_natCast, Int.fdiv_eq_ediv_of_nonneg _ (Int.le_of_lt (Int.pow_pos (by decide)))]
  rw [Int.natCast_ediv, Int.natCast_pow]; rfl
theorem shr_le {V W k : Nat} (h : W ≤ k) : Int.fdiv (V : Int) (2 ^ min (Int.toNat (W : Int)) k) = ((V / 2 ^ W : Nat) : Int) := by
  rw [shr_nat, Nat.min_eq_left h]
theorem mul_pow_nat (V W k : Nat) : (V : Int) * 2 ^ min (Int.toNat (W : Int)) k = ((V * 2 ^ min W k : Nat) : Int) := by
  rw [Int.toNat_natCast, Int.natCast_mul, Int.natCast_pow]; rfl
theorem wrap_u8_nat (V : Nat) : IntKind.u8.wrap (V : Int) = ((V % 256 : Nat) : Int) := by rw [IntKind.wrap_u8']; omega
theorem wrap_u64_nat (V : Nat) : IntKind.u64.wrap (V : Int) = ((V % 18446744073709551616 : Nat) : Int) := by rw [IntKind.wrap_u64]; omega
theorem wrap_u32_nat (V : Nat) : IntKind.u32.wrap (V : Int) = ((V % 4294967296 : Nat) : Int) := by rw [IntKind.wrap_u32']; omega
theorem i64_and_mask (n : Int) (k : Nat) (hk : k ≤ 62) : bits .and .i64 n ((2 ^ k - 1 : Nat) : Int) = n % ((2 ^ k : Nat) : Int) := by
  have hp : 2 ^ k ≤ 2 ^ 62 := Nat.pow_le_pow_right (by decide) hk
  have hp0 : 0 < 2 ^ k := Nat.two_pow_pos k
  have hm : (BitVec.ofInt 64 ((2 ^ k - 1 : Nat) : Int)).toNat = 2 ^ k - 1 := by
    rw [BitVec.ofInt_natCast, BitVec.toNat_ofNat]; exact Nat.mod_eq_of_lt (by omega)
  have key : (BitVec.ofInt 64 n &&& BitVec.ofInt 64 ((2 ^ k - 1 : Nat) : Int)).toNat = (n % ((2 ^ 64 : Nat) : Int)).toNat % 2 ^ k := by
    rw [BitVec.toNat_and, BitVec.toNat_ofInt, hm, Nat.and_two_pow_sub_one_eq_mod]
  show IntKind.i64.wrap ((BitVec.ofInt 64 n &&& BitVec.ofInt 64 ((2 ^ k - 1 : Nat) : Int)).toNat : Nat) = _
  rw [key, IntKind.wrap_i64]
  have h1 : ((n % ((2 ^ 64 : Nat) : Int)).toNat % 2 ^ k : Nat) < 2 ^ k := Nat.mod_lt _ hp0
  have h2 : (((n % ((2 ^ 64 : Nat) : Int)).toNat % 2 ^ k : Nat) : Int) = n % ((2 ^ k : Nat) : Int) := by
    rw [Int.natCast_emod, Int.toNat_of_nonneg (Int.emod_nonneg _ (by decide))]
    exact Int.emod_emod_of_dvd n (by
      refine Int.natCast_dvd_natCast.2 (Nat.pow_dvd_pow 2 (by omega)))
  rw [← h2]
  omega
theorem i64_and7 (n : Int) : bits .and .i64 n 7 = n % 8 := i64_and_mask n 3 (by decide)
/-- The low bits of a byte. -/
theorem u8_mask (X W : Nat) (hx : X < 256) (hW : W ≤ 8) : bits .and .u8 (X : Int) ((2 ^ W - 1 : Nat) : Int) = ((X % 2 ^ W : Nat) : Int) := by
  have hp : 2 ^ W ≤ 2 ^ 8 := Nat.pow_le_pow_right (by decide) hW
  rw [u8_and_nat _ _ hx (by omega), Nat.and_two_pow_sub_one_eq_mod]
/-- 1<<n - 1 as a byte. -/
theorem u8_ones (W : Nat) (hW : W ≤ 8) : IntKind.u8.wrap (IntKind.u8.wrap ((1 : Int) * 2 ^ min (Int.toNat (W : Int)) IntKind.u8.bits) - 1) = ((2 ^ W - 1 : Nat) : Int) := by
  have h : ∀ W : Fin 9, IntKind.u8.wrap (IntKind.u8.wrap ((1 : Int) * 2 ^ min (Int.toNat ((W.1 : Nat) : Int)) IntKind.u8.bits) - 1) = ((2 ^ W.1 - 1 : Nat) : Int) := by decide +kernel
  exact h ⟨W, by omega⟩
end Go.Proofs.Ytgodkfaacjllcaa

/- Bits, bytes and numbers: the plain law; no program stands here. -/
namespace Go.Proofs.Ytgodkfaacjllcaa
set_option linter.unusedVariables false
set_option linter.unusedSimpArgs false
set_option maxRecDepth 100000

/-- The w low bits of a number, the highest first. -/
def bitsOf (w v : Nat) : List Bool := (List.range w).map fun i => v.testBit (w - 1 - i)
/-- The number of a row of bits. -/
def num (l : List Bool) : Nat := l.foldl (fun a b => 2 * a + b.toNat) 0
theorem bitsOf_length (w v : Nat) : (bitsOf w v).length = w := by simp [bitsOf]
theorem bitsOf_zero (v : Nat) : bitsOf 0 v = [] := rfl
theorem bitsOf_add (a b v : Nat) : bitsOf (a + b) v = bitsOf a (v / 2 ^ b) ++ bitsOf b v := by
  apply List.ext_getElem
  · simp [bitsOf_length]
  · intro i h1 h2
    simp only [bitsOf_length] at h1
    by_cases hi : i < a
    · rw [List.getElem_append_left (by simpa [bitsOf_length] using hi)]
      simp only [bitsOf, List.getElem_map, List.getElem_range]
      rw [← Nat.shiftRight_eq_div_pow, Nat.testBit_shiftRight]
      congr 1; omega
    · rw [List.getElem_append_right (by simp [bitsOf_length]; omega)]
      simp only [bitsOf, List.getElem_map, List.getElem_range, List.length_map, List.length_range]
      congr 1; omega
theorem bitsOf_succ (w v : Nat) : bitsOf (w + 1) v = bitsOf w (v / 2) ++ [v.testBit 0] := by
  rw [bitsOf_add]; rfl
theorem bitsOf_cons (w v : Nat) : bitsOf (w + 1) v = v.testBit w :: bitsOf w v := by
  rw [Nat.add_comm, bitsOf_add]
  simp [bitsOf, Nat.testBit_eq_decide_div_mod_eq]
theorem num_snoc (l : List Bool) (b : Bool) : num (l ++ [b]) = 2 * num l + b.toNat := by simp [num]
theorem num_nil : num [] = 0 := rfl
theorem num_append (l : List Bool) : ∀ m : List Bool, num (l ++ m) = num l * 2 ^ m.length + num m := by
  have key : ∀ (n : Nat) (m : List Bool), m.length = n → num (l ++ m) = num l * 2 ^ m.length + num m := by
    intro n
    induction n with
    | zero => intro m h; have := List.eq_nil_of_length_eq_zero h; subst this; simp [num_nil]
    | succ n ih =>
      intro m h
      obtain ⟨m', b, rfl⟩ : ∃ m' b, m = m' ++ [b] := ⟨m.dropLast, m.getLast (by intro e; subst e; simp at h), (List.dropLast_concat_getLast _).symm⟩
      have h' : m'.length = n := by simpa using h
      rw [← List.append_assoc, num_snoc, ih m' h', num_snoc, List.length_append, List.length_singleton, Nat.pow_succ, Nat.mul_add, Nat.add_assoc, Nat.mul_left_comm, Nat.mul_comm 2 (2 ^ m'.length), ← Nat.mul_assoc]
  exact fun m => key _ m rfl
theorem num_lt (l : List Bool) : num l < 2 ^ l.length := by
  have key : ∀ (n : Nat) (m : List Bool), m.length = n → num m < 2 ^ n := by
    intro n
    induction n with
    | zero => intro m h; have := List.eq_nil_of_length_eq_zero h; subst this; simp [num_nil]
    | succ n ih =>
      intro m h
      obtain ⟨m', b, rfl⟩ : ∃ m' b, m = m' ++ [b] := ⟨m.dropLast, m.getLast (by intro e; subst e; simp at h), (List.dropLast_concat_getLast _).symm⟩
      have := ih m' (by simpa using h)
      rw [num_snoc, Nat.pow_succ]
      have hb : b.toNat ≤ 1 := by cases b <;> simp
      omega
  exact key _ l rfl
theorem testBit_zero_toNat (v : Nat) : (v.testBit 0).toNat = v % 2 := by
  rw [Nat.testBit_zero]
  rcases Nat.mod_two_eq_zero_or_one v with h | h <;> simp [h]
theorem testBit_toNat (v w : Nat) : (v.testBit w).toNat = v / 2 ^ w % 2 := by
  rw [Nat.testBit_eq_decide_div_mod_eq]
  rcases Nat.mod_two_eq_zero_or_one (v / 2 ^ w) with h | h <;> simp [h]
theorem num_bitsOf (w v : Nat) : num (bitsOf w v) = v % 2 ^ w := by
  induction w generalizing v with
  | zero => simp [bitsOf_zero, num_nil, Nat.mod_one]
  | succ w ih =>
    rw [bitsOf_succ, num_snoc, ih, testBit_zero_toNat]
    have h1 : v % 2 ^ (w + 1) = 2 * (v / 2 % 2 ^ w) + v % 2 := by
      rw [Nat.pow_succ, Nat.mul_comm, Nat.mod_mul, Nat.add_comm]
    omega
theorem bitsOf_num (l : List Bool) : bitsOf l.length (num l) = l := by
  have key : ∀ (n : Nat) (m : List Bool), m.length = n → bitsOf n (num m) = m := by
    intro n
    induction n with
    | zero => intro m h; have := List.eq_nil_of_length_eq_zero h; subst this; rfl
    | succ n ih =>
      intro m h
      obtain ⟨m', b, rfl⟩ : ∃ m' b, m = m' ++ [b] := ⟨m.dropLast, m.getLast (by intro e; subst e; simp at h), (List.dropLast_concat_getLast _).symm⟩
      rw [bitsOf_succ, num_snoc]
      have hb : b.toNat ≤ 1 := by cases b <;> simp
      rw [show (2 * num m' + b.toNat) / 2 = num m' by omega, ih m' (by simpa using h)]
      congr 2
      rw [Nat.testBit_zero]
      cases b <;> simp [Nat.add_mod]
  exact key _ l rfl
theorem bitsOf_mod {w k v : Nat} (h : w ≤ k) : bitsOf w (v % 2 ^ k) = bitsOf w v := by
  apply List.ext_getElem
  · simp [bitsOf_length]
  · intro i h1 h2
    simp only [bitsOf_length] at h1
    simp only [bitsOf, List.getElem_map, List.getElem_range, Nat.testBit_mod_two_pow]
    rw [decide_eq_true (by omega), Bool.true_and]
theorem num_inj {l m : List Bool} (h : l.length = m.length) (e : num l = num m) : l = m := by
  rw [← bitsOf_num l, ← bitsOf_num m, h, e]
theorem num_zero {l : List Bool} : num l = 0 ↔ ∀ b ∈ l, b = false := by
  have key : ∀ (n : Nat) (m : List Bool), m.length = n → (num m = 0 ↔ ∀ b ∈ m, b = false) := by
    intro n
    induction n with
    | zero => intro m h; have := List.eq_nil_of_length_eq_zero h; subst this; simp [num_nil]
    | succ n ih =>
      intro m h
      obtain ⟨m', b, rfl⟩ : ∃ m' b, m = m' ++ [b] := ⟨m.dropLast, m.getLast (by intro e; subst e; simp at h), (List.dropLast_concat_getLast _).symm⟩
      have := ih m' (by simpa using h)
      rw [num_snoc]
      cases b
      · simp only [Bool.toNat_false, Nat.add_zero, Nat.mul_eq_zero, List.mem_append, List.mem_singleton]
        constructor
        · intro hz c hc
          rcases hc with hc | hc
          · exact this.1 (by omega) c hc
          · exact hc
        · intro hz; right; exact this.2 fun c hc => hz c (.inl hc)
      · simp
  exact key _ l rfl

/-! ### Bytes -/
/-- A byte of a row of bits; noughts fill the last. -/
def byteOf (B : List Bool) (j : Nat) : Nat := num ((B.drop (8 * j)).take 8) * 2 ^ (8 - ((B.drop (8 * j)).take 8).length)
def packB (B : List Bool) : List Nat := (List.range ((B.length + 7) / 8)).map (byteOf B)
theorem packB_length (B : List Bool) : (packB B).length = (B.length + 7) / 8 := by simp [packB]
theorem byteOf_lt (B : List Bool) (j : Nat) : byteOf B j < 256 := by
  unfold byteOf
  have h := num_lt ((B.drop (8 * j)).take 8)
  have hl : ((B.drop (8 * j)).take 8).length ≤ 8 := by rw [List.length_take]; omega
  calc num ((B.drop (8 * j)).take 8) * 2 ^ (8 - ((B.drop (8 * j)).take 8).length)
      < 2 ^ ((B.drop (8 * j)).take 8).length * 2 ^ (8 - ((B.drop (8 * j)).take 8).length) := Nat.mul_lt_mul_of_pos_right h (Nat.two_pow_pos _)
    _ = 256 := by rw [← Nat.pow_add, Nat.add_sub_cancel' hl]
theorem packB_lt (B : List Bool) : ∀ x ∈ packB B, x < 256 := by
  intro x hx
  obtain ⟨j, _, rfl⟩ := List.mem_map.1 hx
  exact byteOf_lt B j
theorem byteOf_append {B c : List Bool} {j : Nat} (h : 8 * (j + 1) ≤ B.length) : byteOf (B ++ c) j = byteOf B j := by
  unfold byteOf
  have : ((B ++ c).drop (8 * j)).take 8 = (B.drop (8 * j)).take 8 := by
    rw [List.drop_append_of_le_length (by omega), List.take_append_of_le_length (by simp; omega)]
  rw [this]
/-- Bits behind whole bytes: a byte more. -/
theorem packB_new {B c : List Bool} (hr : B.length % 8 = 0) (h0 : 0 < c.length) (h8 : c.length ≤ 8) : packB (B ++ c) = packB B ++ [num c * 2 ^ (8 - c.length)] := by
  unfold packB
  rw [show ((B ++ c).length + 7) / 8 = (B.length + 7) / 8 + 1 by rw [List.length_append]; omega, List.range_succ, List.map_append]
  congr 1
  · refine List.map_congr_left fun j hj => byteOf_append ?_
    simp only [List.mem_range] at hj
    omega
  · simp only [List.map_cons, List.map_nil, List.cons.injEq, and_true]
    unfold byteOf
    have h1 : 8 * ((B.length + 7) / 8) = B.length := by omega
    rw [h1, List.drop_left, List.take_of_length_le h8]
theorem packB_last {B : List Bool} (hr : B.length % 8 ≠ 0) : packB B = (packB B).dropLast ++ [byteOf B (B.length / 8)] := by
  have e : (B.length + 7) / 8 = B.length / 8 + 1 := by omega
  unfold packB
  rw [e, List.range_succ, List.map_append, List.map_cons, List.map_nil, List.dropLast_concat]
theorem packB_dropLast {B : List Bool} (hr : B.length % 8 ≠ 0) : (packB B).dropLast = (List.range (B.length / 8)).map (byteOf B) := by
  have e : (B.length + 7) / 8 = B.length / 8 + 1 := by omega
  unfold packB
  rw [e, List.range_succ, List.map_append, List.map_cons, List.map_nil, List.dropLast_concat]
/-- Bits that the last byte has room for. -/
theorem packB_more {B c : List Bool} (hr : B.length % 8 ≠ 0) (h8 : B.length % 8 + c.length ≤ 8) :
    packB (B ++ c) = (packB B).dropLast ++ [byteOf B (B.length / 8) ||| num c * 2 ^ (8 - B.length % 8 - c.length)] := by
  have hq : ((B ++ c).length + 7) / 8 = B.length / 8 + 1 := by rw [List.length_append]; omega
  rw [packB_dropLast hr]
  unfold packB
  rw [hq, List.range_succ, List.map_append]
  congr 1
  · refine List.map_congr_left fun j hj => byteOf_append ?_
    simp only [List.mem_range] at hj
    omega
  · simp only [List.map_cons, List.map_nil, List.cons.injEq, and_true]
    have hd : ((B.drop (8 * (B.length / 8))).take 8) = B.drop (8 * (B.length / 8)) := List.take_of_length_le (by rw [List.length_drop]; omega)
    have hl : (B.drop (8 * (B.length / 8))).length = B.length % 8 := by rw [List.length_drop]; omega
    have hd2 : (((B ++ c).drop (8 * (B.length / 8))).take 8) = B.drop (8 * (B.length / 8)) ++ c := by
      rw [List.drop_append_of_le_length (by omega), List.take_of_length_le (by rw [List.length_append, hl]; omega)]
    unfold byteOf
    rw [hd2, hd, num_append, List.length_append, hl]
    generalize hN : num (B.drop (8 * (B.length / 8))) = N
    have hc := num_lt c
    generalize num c = M at hc
    have hr' : B.length % 8 < 8 := Nat.mod_lt _ (by decide)
    generalize B.length % 8 = r at *
    generalize c.length = k at *
    have e1 : 8 - r = k + (8 - r - k) := by omega
    have e2 : 8 - (r + k) = 8 - r - k := by omega
    rw [e2, Nat.add_mul, Nat.mul_assoc, ← Nat.pow_add, ← e1]
    have h2 : M * 2 ^ (8 - r - k) < 2 ^ (8 - r) := by
      calc M * 2 ^ (8 - r - k) < 2 ^ k * 2 ^ (8 - r - k) := Nat.mul_lt_mul_of_pos_right hc (Nat.two_pow_pos _)
        _ = 2 ^ (8 - r) := by rw [← Nat.pow_add, ← e1]
    rw [Nat.mul_comm N, Nat.two_pow_add_eq_or_of_lt h2]

/-- How a byte row grows. -/
theorem pack_prep (B : List Bool) : ∃ A last, A.length ≤ B.length ∧ last < 256 ∧ (B.length % 8 = 0 → A = packB B ∧ last = 0) ∧ (B.length % 8 ≠ 0 → packB B = A ++ [last]) ∧
    ∀ c : List Bool, 0 < c.length → c.length ≤ 8 - B.length % 8 → packB (B ++ c) = A ++ [last ||| num c * 2 ^ (8 - B.length % 8 - c.length)] := by
  by_cases hr : B.length % 8 = 0
  · refine ⟨packB B, 0, by rw [packB_length]; omega, by decide, fun _ => ⟨rfl, rfl⟩, fun h => absurd hr h, fun c h0 h8 => ?_⟩
    rw [packB_new hr h0 (by omega), hr, Nat.zero_or]
  · refine ⟨(packB B).dropLast, byteOf B (B.length / 8), by rw [List.length_dropLast, packB_length]; omega, byteOf_lt _ _, fun h => absurd h hr, fun _ => packB_last hr, fun c h0 h8 => ?_⟩
    exact packB_more hr (by omega)

/-! ### Texts as bits -/
def textBits (t : List Nat) : List Bool := t.flatMap (bitsOf 8)
theorem textBits_length (t : List Nat) : (textBits t).length = 8 * t.length := by
  induction t with
  | nil => rfl
  | cons x t ih => simp only [textBits, List.flatMap_cons, List.length_append, bitsOf_length, List.length_cons] at ih ⊢; omega
theorem textBits_append (s t : List Nat) : textBits (s ++ t) = textBits s ++ textBits t := by simp [textBits]
/-- Some bits within one byte of a text. -/
theorem textBits_part (t : List Nat) (n m : Nat) (h : n / 8 < t.length) (hm : n % 8 + m ≤ 8) : ((textBits t).drop n).take m = bitsOf m (t[n / 8] / 2 ^ (8 - n % 8 - m)) := by
  have hs : t = t.take (n / 8) ++ t[n / 8] :: t.drop (n / 8 + 1) := by rw [List.getElem_cons_drop, List.take_append_drop]
  have hl : (textBits (t.take (n / 8))).length = 8 * (n / 8) := by rw [textBits_length, List.length_take]; omega
  have e1 : (textBits t).drop n = ((bitsOf 8 t[n / 8]).drop (n % 8)) ++ textBits (t.drop (n / 8 + 1)) := by
    conv => lhs; rw [hs]
    rw [textBits_append, List.drop_append, List.drop_of_length_le (by rw [hl]; omega), List.nil_append, hl]
    rw [show n - 8 * (n / 8) = n % 8 by omega]
    simp only [textBits, List.flatMap_cons]
    rw [List.drop_append_of_le_length (by rw [bitsOf_length]; omega)]
  have hr : n % 8 < 8 := Nat.mod_lt _ (by decide)
  have e2 : bitsOf 8 t[n / 8] = bitsOf (n % 8) (t[n / 8] / 2 ^ (8 - n % 8)) ++ bitsOf (8 - n % 8) t[n / 8] := by
    rw [← bitsOf_add]; congr 1; omega
  have e3 : bitsOf (8 - n % 8) t[n / 8] = bitsOf m (t[n / 8] / 2 ^ (8 - n % 8 - m)) ++ bitsOf (8 - n % 8 - m) t[n / 8] := by
    rw [← bitsOf_add]; congr 1; omega
  rw [e1, e2, List.drop_append, List.drop_of_length_le (by rw [bitsOf_length]; omega), List.nil_append, bitsOf_length, Nat.sub_self, List.drop_zero, e3, List.append_assoc, List.take_append_of_le_length (by rw [bitsOf_length]; omega), List.take_of_length_le (by rw [bitsOf_length]; omega)]
/-- The bits of bytes: the bits, and noughts behind. -/
theorem bitsOf_mul (w k x : Nat) : bitsOf (w + k) (x * 2 ^ k) = bitsOf w x ++ List.replicate k false := by
  rw [bitsOf_add, Nat.mul_div_cancel _ (Nat.two_pow_pos _)]
  congr 1
  apply List.ext_getElem
  · simp [bitsOf_length]
  · intro i h1 h2
    simp only [bitsOf_length] at h1
    simp only [bitsOf, List.getElem_map, List.getElem_range, List.getElem_replicate]
    rw [Nat.testBit_mul_two_pow]
    rw [decide_eq_false (by omega)]; rfl
theorem textBits_pack (B : List Bool) : textBits (packB B) = B ++ List.replicate (8 * ((B.length + 7) / 8) - B.length) false := by
  have key : ∀ (n : Nat) (B : List Bool), B.length ≤ n → textBits (packB B) = B ++ List.replicate (8 * ((B.length + 7) / 8) - B.length) false := by
    intro n
    induction n using Nat.strongRecOn with
    | _ n ih =>
      intro B hB
      by_cases h0 : B.length = 0
      · have := List.eq_nil_of_length_eq_zero h0; subst this; rfl
      · have hsplit : packB B = byteOf B 0 :: packB (B.drop 8) := by
          unfold packB
          have e : (B.length + 7) / 8 = ((B.drop 8).length + 7) / 8 + 1 := by rw [List.length_drop]; omega
          rw [e, List.range_succ_eq_map, List.map_cons, List.map_map]
          congr 1
          refine List.map_congr_left fun j _ => ?_
          simp only [Function.comp, byteOf, List.drop_drop]
          rw [show 8 + 8 * j = 8 * (j + 1) by omega]
        rw [hsplit]
        simp only [textBits, List.flatMap_cons]
        have ih' := ih (n - 1) (by omega) (B.drop 8) (by rw [List.length_drop]; omega)
        simp only [textBits] at ih'
        rw [ih']
        have hb : bitsOf 8 (byteOf B 0) = B.take 8 ++ List.replicate (8 - (B.take 8).length) false := by
          unfold byteOf
          rw [Nat.mul_zero, List.drop_zero]
          have hl : (B.take 8).length ≤ 8 := by rw [List.length_take]; omega
          have := bitsOf_mul (B.take 8).length (8 - (B.take 8).length) (num (B.take 8))
          rw [Nat.add_sub_cancel' hl, bitsOf_num] at this
          exact this
        rw [hb]
        by_cases h8 : 8 ≤ B.length
        · have hl : (B.take 8).length = 8 := by rw [List.length_take]; omega
          rw [hl, Nat.sub_self, List.replicate_zero, List.append_nil, ← List.append_assoc, List.take_append_drop, List.length_drop]
          congr 2
          omega
        · have hl : (B.take 8).length = B.length := by rw [List.length_take]; omega
          have hd : B.drop 8 = [] := List.drop_of_length_le (by omega)
          rw [hl, hd, List.take_of_length_le (by omega)]
          simp only [List.length_nil, List.nil_append]
          rw [show 8 * ((0 + 7) / 8) - 0 = 0 by omega, List.replicate_zero, List.append_nil]
          congr 2
          omega
  exact key _ B (Nat.le_refl _)
theorem packB_textBits (t : List Nat) (h : ∀ x ∈ t, x < 256) : packB (textBits t) = t := by
  apply List.ext_getElem
  · rw [packB_length, textBits_length]; omega
  · intro j h1 h2
    simp only [packB, List.getElem_map, List.getElem_range, byteOf]
    have := textBits_part t (8 * j) 8 (by omega) (by omega)
    rw [this, bitsOf_length, num_bitsOf]
    have hx := h _ (List.getElem_mem (h := h2))
    have e : 8 * j / 8 = j := by omega
    simp only [show 8 - 8 * j % 8 - 8 = 0 by omega, Nat.pow_zero, Nat.div_one, e, Nat.sub_self, Nat.mul_one]
    omega
end Go.Proofs.Ytgodkfaacjllcaa

/- strings.Repeat of one byte. -/
namespace Go.Proofs.Ytgodkfaacjllcaa
set_option linter.unusedVariables false
set_option linter.unusedSimpArgs false
set_option maxRecDepth 100000
open SL Go.RowKit Go.Maps

theorem rep_bytes (x : Nat) : ∀ c : Nat, (⟨(Lib.repeatL (strB [x]).data.toList c).toArray⟩ : ByteArray) = strB (List.replicate c x)
  | 0 => rfl
  | c + 1 => by
    have ih := rep_bytes x c
    have e : Lib.repeatL (strB [x]).data.toList c = (List.replicate c x).map UInt8.ofNat := by
      have := congrArg (fun b : ByteArray => b.data.toList) ih
      simpa [strB] using this
    rw [Lib.repeatL, e]
    simp [strB, List.replicate_succ]
theorem repeat_ok (F : Mem) (x c : Nat) (hc : c ≤ 140737488355328) : FT Try.prog 60 [.string (strB [x]), .int .i64 (c : Int)].toArray F [] (Ret (.string (strB (List.replicate c x)))) :=
  FT.of_below fun w _ => by
    have := Try.strings_Repeat (strB [x]) c w (by omega) (by rw [strB_size]; simpa using hc)
    rwa [rep_bytes] at this
end Go.Proofs.Ytgodkfaacjllcaa

/- The bits: writer and reader. -/
namespace Go.Proofs.Ytgodkfaacjllcaa
set_option linter.unusedVariables false
set_option linter.unusedSimpArgs false
set_option maxRecDepth 100000
open SL Go.RowKit Go.Maps

/-- A writer's memory. -/
abbrev wrH (w : Nat) (n : Int) (g : Option (Nat × Nat)) (o : List Nat) : Heap := [.cells w [.int .i64 n, svOf g o.length] 145 (0, 0), .own (svOf g o.length) o.length 5 1 (bytesV o)]
theorem bNew_ok (F : Mem) : FT Try.prog 68 [].toArray F [] (fun e H => ∃ w, e = .returned (.pointer (some ⟨w, 0, none⟩)) ∧ H = wrH w 0 none []) := by
  refine FT.of_body Try.func68 rfl Try.ntmps68 (by simp) fun C hC => ?_
  subst hC
  conv => whnf
  intro w
  conv => whnf
  repeat (first | (refine LoadV.s rfl rfl (forceV_of ?_); conv => whnf) | (refine LoadV.s rfl rfl ?_; conv => whnf) | (refine StoreV.c rfl rfl (Nat.le_of_ble_eq_true rfl) rfl ?_; conv => whnf) | (refine LoadV.a _ rfl (Nat.le_of_ble_eq_true rfl) ?_; conv => whnf) | (refine DrawI.quiet (by kernel_rfl) (by kernel_rfl) ?_; conv => whnf) | (refine ArI.in64 (by omega) ?_; conv => whnf) | (refine ArI.inU8 (by omega) ?_; conv => whnf) | (refine ArI.inU64 (by omega) ?_; conv => whnf) | (refine ArI.inU32 (by omega) ?_; conv => whnf) | (refine RetI.one Try.results68 rfl ?_; conv => whnf) | (refine RetI.two Try.results68 rfl rfl ?_; conv => whnf) | (refine RetI.three Try.results68 rfl rfl rfl ?_; conv => whnf) | (refine RetI.none Try.results68 ?_; conv => whnf) | (refine ⟨by first | decide | omega, ?_⟩; conv => whnf))
  exact ⟨_, Sub.trans (Sub.nil 5 1) (Sub.sel [1, 0] rfl), w, rfl, rfl⟩
theorem bLen_ok (F : Mem) (w : Nat) (n : Int) (x : Value) (T : TypeId) : FT Try.prog 82 [.pointer (some ⟨w, 0, none⟩)].toArray F [.cells w [.int .i64 n, x] T (0, 0)] (fun e H => e = .returned (.int .i64 n) ∧ H = [.cells w [.int .i64 n, x] T (0, 0)]) := by
  refine FT.of_body Try.func82 rfl Try.ntmps82 (by simp) fun C hC => ?_
  subst hC
  conv => whnf
  repeat (first | (refine LoadV.s rfl rfl (forceV_of ?_); conv => whnf) | (refine LoadV.s rfl rfl ?_; conv => whnf) | (refine StoreV.c rfl rfl (Nat.le_of_ble_eq_true rfl) rfl ?_; conv => whnf) | (refine LoadV.a _ rfl (Nat.le_of_ble_eq_true rfl) ?_; conv => whnf) | (refine DrawI.quiet (by kernel_rfl) (by kernel_rfl) ?_; conv => whnf) | (refine ArI.in64 (by omega) ?_; conv => whnf) | (refine ArI.inU8 (by omega) ?_; conv => whnf) | (refine ArI.inU64 (by omega) ?_; conv => whnf) | (refine ArI.inU32 (by omega) ?_; conv => whnf) | (refine RetI.one Try.results82 rfl ?_; conv => whnf) | (refine RetI.two Try.results82 rfl rfl ?_; conv => whnf) | (refine RetI.three Try.results82 rfl rfl rfl ?_; conv => whnf) | (refine RetI.none Try.results82 ?_; conv => whnf) | (refine ⟨by first | decide | omega, ?_⟩; conv => whnf))
  exact ⟨_, Sub.refl _, rfl, rfl⟩
theorem bAdd_ok (F : Mem) (w : Nat) (n m : Int) (x : Value) (T : TypeId) (h : -9223372036854775808 ≤ n + m ∧ n + m ≤ 9223372036854775807) :
    FT Try.prog 83 [.pointer (some ⟨w, 0, none⟩), .int .i64 m].toArray F [.cells w [.int .i64 n, x] T (0, 0)] (fun e H => e = .returned (.tuple #[]) ∧ H = [.cells w [.int .i64 (n + m), x] T (0, 0)]) := by
  refine FT.of_body Try.func83 rfl Try.ntmps83 (by simp) fun C hC => ?_
  subst hC
  conv => whnf
  repeat (first | (refine LoadV.s rfl rfl (forceV_of ?_); conv => whnf) | (refine LoadV.s rfl rfl ?_; conv => whnf) | (refine StoreV.c rfl rfl (Nat.le_of_ble_eq_true rfl) rfl ?_; conv => whnf) | (refine LoadV.a _ rfl (Nat.le_of_ble_eq_true rfl) ?_; conv => whnf) | (refine DrawI.quiet (by kernel_rfl) (by kernel_rfl) ?_; conv => whnf) | (refine ArI.in64 (by omega) ?_; conv => whnf) | (refine ArI.inU8 (by omega) ?_; conv => whnf) | (refine ArI.inU64 (by omega) ?_; conv => whnf) | (refine ArI.inU32 (by omega) ?_; conv => whnf) | (refine RetI.one Try.results83 rfl ?_; conv => whnf) | (refine RetI.two Try.results83 rfl rfl ?_; conv => whnf) | (refine RetI.three Try.results83 rfl rfl rfl ?_; conv => whnf) | (refine RetI.none Try.results83 ?_; conv => whnf) | (refine ⟨by first | decide | omega, ?_⟩; conv => whnf))
  exact ⟨_, Sub.refl _, rfl, rfl⟩
def fitsB (V : Nat) (width : Int) : Bool := decide (1 ≤ width ∧ width ≤ 64 ∧ V < 2 ^ width.toNat)
theorem bFits_ok (F : Mem) (V : Nat) (width : Int) (hv : V < 18446744073709551616) : FT Try.prog 81 [.int .u64 (V : Int), .int .i64 width].toArray F [] (Ret (.bool (fitsB V width))) := by
  refine FT.of_body Try.func81 rfl Try.ntmps81 (by simp) fun C hC => ?_
  subst hC
  conv => whnf
  repeat' (first | (refine LoadV.s rfl rfl (forceV_of ?_); conv => whnf) | (refine LoadV.s rfl rfl ?_; conv => whnf) | (refine StoreV.c rfl rfl (Nat.le_of_ble_eq_true rfl) rfl ?_; conv => whnf) | (refine LoadV.a _ rfl (Nat.le_of_ble_eq_true rfl) ?_; conv => whnf) | (refine DrawI.quiet (by kernel_rfl) (by kernel_rfl) ?_; conv => whnf) | (refine ArI.in64 (by omega) ?_; conv => whnf) | (refine ArI.inU8 (by omega) ?_; conv => whnf) | (refine ArI.inU64 (by omega) ?_; conv => whnf) | (refine ArI.inU32 (by omega) ?_; conv => whnf) | (refine RetI.one Try.results81 rfl ?_; conv => whnf) | (refine RetI.two Try.results81 rfl rfl ?_; conv => whnf) | (refine RetI.three Try.results81 rfl rfl rfl ?_; conv => whnf) | (refine RetI.none Try.results81 ?_; conv => whnf) | (refine ⟨by first | decide | omega, ?_⟩; conv => whnf) | (refine cond_dec ?_ ?_ <;> intro <;> conv => whnf))
  · rename_i h1 h2 h3
    subst h3
    exact ⟨_, Sub.refl _, ret_bool (by unfold fitsB; rw [decide_eq_true ⟨h1, h2, by simpa using hv⟩]), rfl⟩
  · rename_i h1 h2 h3
    obtain ⟨W, rfl⟩ := Int.eq_ofNat_of_zero_le (show 0 ≤ width by omega)
    refine ⟨_, Sub.refl _, ret_bool ?_, rfl⟩
    have hs : Int.fdiv (V : Int) (2 ^ min (Int.toNat (W : Int)) 64) = ((V / 2 ^ W : Nat) : Int) := shr_le (by omega)
    have e : fitsB V (W : Int) = decide (V < 2 ^ W) := by unfold fitsB; rw [Int.toNat_natCast]; exact decide_eq_decide.2 ⟨fun h => h.2.2, fun h => ⟨by omega, by omega, h⟩⟩
    rw [e]
    show (Int.fdiv (V : Int) (2 ^ min (Int.toNat (W : Int)) 64) == 0) = _
    rw [hs]
    by_cases h : V < 2 ^ W
    · rw [Nat.div_eq_of_lt h, decide_eq_true h]; rfl
    · have : V / 2 ^ W ≠ 0 := fun e => h ((Nat.div_eq_zero_iff.1 e).resolve_left (by have := Nat.two_pow_pos W; omega))
      rw [decide_eq_false h, beq_eq_false_iff_ne]
      exact fun e => this (by exact_mod_cast e)
  · rename_i h1 h2
    exact ⟨_, Sub.refl _, ret_bool (by unfold fitsB; rw [decide_eq_false (by omega)]), rfl⟩
  · rename_i h1
    exact ⟨_, Sub.refl _, ret_bool (by unfold fitsB; rw [decide_eq_false (by omega)]), rfl⟩
theorem bytesV_put (A : List Nat) (x y : Nat) : putAt (bytesV (A ++ [x])) (0 + A.length) [.int .u8 (y : Int)] = bytesV (A ++ [y]) := by
  unfold putAt
  rw [Nat.zero_add]
  simp
theorem bytesV_at (A : List Nat) (x : Nat) : (bytesV (A ++ [x]))[0 + A.length]? = some (.int .u8 (x : Int)) := by
  rw [Nat.zero_add]; simp
theorem packB_nil {B : List Bool} : packB B = [] ↔ B = [] := by
  constructor
  · intro h
    have := congrArg List.length h
    rw [packB_length] at this
    simp at this
    exact List.eq_nil_of_length_eq_zero (by omega)
  · intro h; subst h; rfl
theorem wrH_mk {w : Nat} {n : Int} {gb gc nn : Nat} {o : List Nat} (h : o.length = nn) :
    [HObj.cells w [.int .i64 n, .slice (some ⟨gb, 0, none⟩) nn gc] 145 (0, 0), .own (.slice (some ⟨gb, 0, none⟩) nn gc) nn 5 1 (bytesV o)] = wrH w n (some (gb, gc)) o := by subst h; rfl
/-- The bits behind a putting. -/
theorem bPut_ok (F : Mem) (w : Nat) (B : List Bool) (g : Option (Nat × Nat)) (hg : g = none ↔ B = []) (V : Nat) (width : Int) (hv : V < 18446744073709551616) (hB : B.length ≤ 35184372088832) :
    FT Try.prog 69 [.pointer (some ⟨w, 0, none⟩), .int .u64 (V : Int), .int .i64 width].toArray F (wrH w B.length g (packB B))
    (fun e H => (fitsB V width = false ∧ e = .returned (.int .i64 6) ∧ H = wrH w B.length g (packB B)) ∨
      (fitsB V width = true ∧ e = .returned (.int .i64 0) ∧ ∃ g', (g' = none ↔ B ++ bitsOf width.toNat V = []) ∧ H = wrH w ((B ++ bitsOf width.toNat V).length : Nat) g' (packB (B ++ bitsOf width.toNat V)))) := by
  refine FT.of_body Try.func69 rfl Try.ntmps69 (by simp) fun C hC => ?_
  subst hC
  conv => whnf
  repeat (first | (refine LoadV.s rfl rfl (forceV_of ?_); conv => whnf) | (refine LoadV.s rfl rfl ?_; conv => whnf) | (refine StoreV.c rfl rfl (Nat.le_of_ble_eq_true rfl) rfl ?_; conv => whnf) | (refine LoadV.a _ rfl (Nat.le_of_ble_eq_true rfl) ?_; conv => whnf) | (refine DrawI.quiet (by kernel_rfl) (by kernel_rfl) ?_; conv => whnf) | (refine ArI.in64 (by omega) ?_; conv => whnf) | (refine ArI.inU8 (by omega) ?_; conv => whnf) | (refine ArI.inU64 (by omega) ?_; conv => whnf) | (refine ArI.inU32 (by omega) ?_; conv => whnf) | (refine RetI.one Try.results69 rfl ?_; conv => whnf) | (refine RetI.two Try.results69 rfl rfl ?_; conv => whnf) | (refine RetI.three Try.results69 rfl rfl rfl ?_; conv => whnf) | (refine RetI.none Try.results69 ?_; conv => whnf) | (refine ⟨by first | decide | omega, ?_⟩; conv => whnf))
  refine CallS.mk Try.call81 ⟨[], _, _, Sub.refl _, fun F' hF' => bFits_ok F' V width hv, ?_⟩
  rintro e A' ⟨rfl, rfl⟩
  cases hf : fitsB V width with
  | false =>
    conv => whnf
    repeat (first | (refine LoadV.s rfl rfl (forceV_of ?_); conv => whnf) | (refine LoadV.s rfl rfl ?_; conv => whnf) | (refine StoreV.c rfl rfl (Nat.le_of_ble_eq_true rfl) rfl ?_; conv => whnf) | (refine LoadV.a _ rfl (Nat.le_of_ble_eq_true rfl) ?_; conv => whnf) | (refine DrawI.quiet (by kernel_rfl) (by kernel_rfl) ?_; conv => whnf) | (refine ArI.in64 (by omega) ?_; conv => whnf) | (refine ArI.inU8 (by omega) ?_; conv => whnf) | (refine ArI.inU64 (by omega) ?_; conv => whnf) | (refine ArI.inU32 (by omega) ?_; conv => whnf) | (refine RetI.one Try.results69 rfl ?_; conv => whnf) | (refine RetI.two Try.results69 rfl rfl ?_; conv => whnf) | (refine RetI.three Try.results69 rfl rfl rfl ?_; conv => whnf) | (refine RetI.none Try.results69 ?_; conv => whnf) | (refine ⟨by first | decide | omega, ?_⟩; conv => whnf))
    exact ⟨_, Sub.refl _, .inl ⟨rfl, rfl, rfl⟩⟩
  | true =>
    conv => whnf
    repeat (first | (refine LoadV.s rfl rfl (forceV_of ?_); conv => whnf) | (refine LoadV.s rfl rfl ?_; conv => whnf) | (refine StoreV.c rfl rfl (Nat.le_of_ble_eq_true rfl) rfl ?_; conv => whnf) | (refine LoadV.a _ rfl (Nat.le_of_ble_eq_true rfl) ?_; conv => whnf) | (refine DrawI.quiet (by kernel_rfl) (by kernel_rfl) ?_; conv => whnf) | (refine ArI.in64 (by omega) ?_; conv => whnf) | (refine ArI.inU8 (by omega) ?_; conv => whnf) | (refine ArI.inU64 (by omega) ?_; conv => whnf) | (refine ArI.inU32 (by omega) ?_; conv => whnf) | (refine RetI.one Try.results69 rfl ?_; conv => whnf) | (refine RetI.two Try.results69 rfl rfl ?_; conv => whnf) | (refine RetI.three Try.results69 rfl rfl rfl ?_; conv => whnf) | (refine RetI.none Try.results69 ?_; conv => whnf) | (refine ⟨by first | decide | omega, ?_⟩; conv => whnf))
    have hf' : 1 ≤ width ∧ width ≤ 64 ∧ V < 2 ^ width.toNat := of_decide_eq_true hf
    obtain ⟨W, rfl⟩ := Int.eq_ofNat_of_zero_le (show 0 ≤ width by omega)
    simp only [Int.toNat_natCast] at hf'
    refine LoopI.by_state (σ := Nat × List Bool × Option (Nat × Nat)) (fun x => [(0, .pointer (some ⟨w, 0, none⟩)), (1, .int .u64 (V : Int)), (7, .int .i64 (x.1 : Int))]) (fun x => wrH w (x.2.1.length : Nat) x.2.2 (packB x.2.1))
      (fun x => x.1 ≤ W ∧ x.2.1 = B ++ bitsOf (W - x.1) (V / 2 ^ x.1) ∧ (x.2.2 = none ↔ x.2.1 = [])) (fun x => x.1) (W, B, g) ⟨Nat.le_refl _, by simp [bitsOf_zero], hg⟩ ⟨rfl, rfl, rfl, trivial⟩ (Sub.refl _) ?_
    rintro ⟨left, B', g'⟩ f0 ⟨hl, hB', hg'⟩
    dsimp only at hl hB' hg' ⊢
    have hBl : B'.length ≤ B.length + 64 := by rw [hB', List.length_append, bitsOf_length]; omega
    obtain ⟨A, last, hAl, hlast, hA0, hA1, hpack⟩ := pack_prep B'
    conv => whnf
    refine cond_dec (fun h => ?_) (fun h => ?_)
    · conv => whnf
      repeat (first | (refine LoadV.s rfl rfl (forceV_of ?_); conv => whnf) | (refine LoadV.s rfl rfl ?_; conv => whnf) | (refine StoreV.c rfl rfl (Nat.le_of_ble_eq_true rfl) rfl ?_; conv => whnf) | (refine LoadV.a _ rfl (Nat.le_of_ble_eq_true rfl) ?_; conv => whnf) | (refine DrawI.quiet (by kernel_rfl) (by kernel_rfl) ?_; conv => whnf) | (refine ArI.in64 (by omega) ?_; conv => whnf) | (refine ArI.inU8 (by omega) ?_; conv => whnf) | (refine ArI.inU64 (by omega) ?_; conv => whnf) | (refine ArI.inU32 (by omega) ?_; conv => whnf) | (refine RetI.one Try.results69 rfl ?_; conv => whnf) | (refine RetI.two Try.results69 rfl rfl ?_; conv => whnf) | (refine RetI.three Try.results69 rfl rfl rfl ?_; conv => whnf) | (refine RetI.none Try.results69 ?_; conv => whnf) | (refine ⟨by first | decide | omega, ?_⟩; conv => whnf))
      refine CallS.mk Try.call82 ⟨[_], _, _, Sub.split [0] rfl, fun F' hF' => bLen_ok F' w _ _ _, ?_⟩
      rintro e A' ⟨rfl, rfl⟩
      conv => whnf
      rw [i64_and7]
      repeat (first | (refine LoadV.s rfl rfl (forceV_of ?_); conv => whnf) | (refine LoadV.s rfl rfl ?_; conv => whnf) | (refine StoreV.c rfl rfl (Nat.le_of_ble_eq_true rfl) rfl ?_; conv => whnf) | (refine LoadV.a _ rfl (Nat.le_of_ble_eq_true rfl) ?_; conv => whnf) | (refine DrawI.quiet (by kernel_rfl) (by kernel_rfl) ?_; conv => whnf) | (refine ArI.in64 (by omega) ?_; conv => whnf) | (refine ArI.inU8 (by omega) ?_; conv => whnf) | (refine ArI.inU64 (by omega) ?_; conv => whnf) | (refine ArI.inU32 (by omega) ?_; conv => whnf) | (refine RetI.one Try.results69 rfl ?_; conv => whnf) | (refine RetI.two Try.results69 rfl rfl ?_; conv => whnf) | (refine RetI.three Try.results69 rfl rfl rfl ?_; conv => whnf) | (refine RetI.none Try.results69 ?_; conv => whnf) | (refine ⟨by first | decide | omega, ?_⟩; conv => whnf))
      refine cond_split (fun h2 => ?_) (fun h2 => ?_)
      · have h2 : B'.length % 8 = 0 := by have := of_decide_eq_true h2; omega
        obtain ⟨hA, hlast0⟩ := hA0 h2
        conv => whnf
        repeat (first | (refine LoadV.s rfl rfl (forceV_of ?_); conv => whnf) | (refine LoadV.s rfl rfl ?_; conv => whnf) | (refine StoreV.c rfl rfl (Nat.le_of_ble_eq_true rfl) rfl ?_; conv => whnf) | (refine LoadV.a _ rfl (Nat.le_of_ble_eq_true rfl) ?_; conv => whnf) | (refine DrawI.quiet (by kernel_rfl) (by kernel_rfl) ?_; conv => whnf) | (refine ArI.in64 (by omega) ?_; conv => whnf) | (refine ArI.inU8 (by omega) ?_; conv => whnf) | (refine ArI.inU64 (by omega) ?_; conv => whnf) | (refine ArI.inU32 (by omega) ?_; conv => whnf) | (refine RetI.one Try.results69 rfl ?_; conv => whnf) | (refine RetI.two Try.results69 rfl rfl ?_; conv => whnf) | (refine RetI.three Try.results69 rfl rfl rfl ?_; conv => whnf) | (refine RetI.none Try.results69 ?_; conv => whnf) | (refine ⟨by first | decide | omega, ?_⟩; conv => whnf))
        intro b
        conv => whnf
        refine BuiltV.append (sv := svOf g' (packB B').length) (m := 1) Try.underlying118 rfl rfl rfl rfl (by decide) (Row.cells 1) rfl (by decide) rfl (by show ((packB B').length + 1) * 1 ≤ _; rw [packB_length]; omega) (by rw [packB_length]; omega) fun gb gc => ?_
        have hrow : bytesV (packB B') ++ ((([Value.int .u8 0] : List Value).drop 0).take 1) = bytesV (A ++ [last]) := by subst hA; subst hlast0; simp
        rw [hrow]
        have hnn : (packB B').length + 1 = A.length + 1 := by rw [hA]
        generalize (packB B').length + 1 = nn at hnn ⊢
        conv => whnf
        repeat (first | (refine LoadV.s rfl rfl (forceV_of ?_); conv => whnf) | (refine LoadV.s rfl rfl ?_; conv => whnf) | (refine StoreV.c rfl rfl (Nat.le_of_ble_eq_true rfl) rfl ?_; conv => whnf) | (refine LoadV.a _ rfl (Nat.le_of_ble_eq_true rfl) ?_; conv => whnf) | (refine DrawI.quiet (by kernel_rfl) (by kernel_rfl) ?_; conv => whnf) | (refine RetI.one Try.results69 rfl ?_; conv => whnf) | (refine RetI.two Try.results69 rfl rfl ?_; conv => whnf) | (refine RetI.three Try.results69 rfl rfl rfl ?_; conv => whnf) | (refine RetI.none Try.results69 ?_; conv => whnf) | (refine ⟨by first | decide | omega, ?_⟩; conv => whnf))
        obtain ⟨m, k, hm, hlk, hm0, hm8⟩ : ∃ m k : Nat, min (8 - (B'.length : Int) % 8) (left : Int) = (m : Int) ∧ left = m + k ∧ 0 < m ∧ m ≤ 8 - B'.length % 8 :=
          ⟨min (8 - B'.length % 8) left, left - min (8 - B'.length % 8) left, by omega, by omega, by omega, by omega⟩
        rw [hm]
        refine ArI.to64 (k : Int) (by omega) (by omega) ?_
        conv => whnf
        repeat (first | (refine LoadV.s rfl rfl (forceV_of ?_); conv => whnf) | (refine LoadV.s rfl rfl ?_; conv => whnf) | (refine StoreV.c rfl rfl (Nat.le_of_ble_eq_true rfl) rfl ?_; conv => whnf) | (refine LoadV.a _ rfl (Nat.le_of_ble_eq_true rfl) ?_; conv => whnf) | (refine DrawI.quiet (by kernel_rfl) (by kernel_rfl) ?_; conv => whnf) | (refine ArI.in64 (by omega) ?_; conv => whnf) | (refine ArI.inU8 (by omega) ?_; conv => whnf) | (refine ArI.inU64 (by omega) ?_; conv => whnf) | (refine ArI.inU32 (by omega) ?_; conv => whnf) | (refine RetI.one Try.results69 rfl ?_; conv => whnf) | (refine RetI.two Try.results69 rfl rfl ?_; conv => whnf) | (refine RetI.three Try.results69 rfl rfl rfl ?_; conv => whnf) | (refine RetI.none Try.results69 ?_; conv => whnf) | (refine ⟨by first | decide | omega, ?_⟩; conv => whnf))
        have hs : Int.fdiv (V : Int) (2 ^ min (Int.toNat (k : Int)) IntKind.u64.bits) = ((V / 2 ^ k : Nat) : Int) := shr_le (show k ≤ 64 by omega)
        rw [hs]
        refine ArI.mk _ (wrap_u8_nat _) ?_
        conv => whnf
        repeat (first | (refine LoadV.s rfl rfl (forceV_of ?_); conv => whnf) | (refine LoadV.s rfl rfl ?_; conv => whnf) | (refine StoreV.c rfl rfl (Nat.le_of_ble_eq_true rfl) rfl ?_; conv => whnf) | (refine LoadV.a _ rfl (Nat.le_of_ble_eq_true rfl) ?_; conv => whnf) | (refine DrawI.quiet (by kernel_rfl) (by kernel_rfl) ?_; conv => whnf) | (refine ArI.in64 (by omega) ?_; conv => whnf) | (refine ArI.inU8 (by omega) ?_; conv => whnf) | (refine ArI.inU64 (by omega) ?_; conv => whnf) | (refine ArI.inU32 (by omega) ?_; conv => whnf) | (refine RetI.one Try.results69 rfl ?_; conv => whnf) | (refine RetI.two Try.results69 rfl rfl ?_; conv => whnf) | (refine RetI.three Try.results69 rfl rfl rfl ?_; conv => whnf) | (refine RetI.none Try.results69 ?_; conv => whnf) | (refine ⟨by first | decide | omega, ?_⟩; conv => whnf))
        refine ArI.mk _ (u8_ones m (by omega)) ?_
        conv => whnf
        have hmod : V / 2 ^ k % 256 % 2 ^ m = num (bitsOf m (V / 2 ^ k)) := by
          rw [num_bitsOf, show 256 = 2 ^ 8 from rfl, Nat.mod_mod_of_dvd _ (Nat.pow_dvd_pow 2 (by omega))]
        rw [u8_mask _ m (Nat.mod_lt _ (by decide)) (by omega), hmod]
        have hc := bitsOf_length m (V / 2 ^ k)
        have hN := num_lt (bitsOf m (V / 2 ^ k))
        have hpk := hpack (bitsOf m (V / 2 ^ k)) (by omega) (by omega)
        have hbits : B' ++ bitsOf m (V / 2 ^ k) = B ++ bitsOf (W - k) (V / 2 ^ k) := by
          rw [hB', List.append_assoc, hlk, show V / 2 ^ (m + k) = V / 2 ^ k / 2 ^ m by rw [Nat.div_div_eq_div_mul, ← Nat.pow_add, Nat.add_comm], ← bitsOf_add, show W - (m + k) + m = W - k by omega]
        generalize bitsOf m (V / 2 ^ k) = c at hc hN hpk hbits ⊢
        obtain ⟨j, hj⟩ : ∃ j : Nat, 8 - B'.length % 8 = m + j := ⟨8 - B'.length % 8 - m, by omega⟩
        have hNj : num c * 2 ^ j < 256 := by
          have h8 : 2 ^ (m + j) ≤ 2 ^ 8 := Nat.pow_le_pow_right (by decide) (by omega)
          have : num c * 2 ^ j < 2 ^ m * 2 ^ j := Nat.mul_lt_mul_of_pos_right (by rw [hc] at hN; exact hN) (Nat.two_pow_pos _)
          rw [← Nat.pow_add] at this; omega
        refine DrawI.tail 20 (by kernel_rfl) (by kernel_rfl) ?_
        conv => whnf
        repeat (first | (refine LoadV.s rfl rfl (forceV_of ?_); conv => whnf) | (refine LoadV.s rfl rfl ?_; conv => whnf) | (refine StoreV.c rfl rfl (Nat.le_of_ble_eq_true rfl) rfl ?_; conv => whnf) | (refine LoadV.a _ rfl (Nat.le_of_ble_eq_true rfl) ?_; conv => whnf) | (refine DrawI.quiet (by kernel_rfl) (by kernel_rfl) ?_; conv => whnf) | (refine RetI.one Try.results69 rfl ?_; conv => whnf) | (refine RetI.two Try.results69 rfl rfl ?_; conv => whnf) | (refine RetI.three Try.results69 rfl rfl rfl ?_; conv => whnf) | (refine RetI.none Try.results69 ?_; conv => whnf) | (refine ⟨by first | decide | omega, ?_⟩; conv => whnf))
        refine ArI.to64 (A.length : Int) (by omega) (by omega) ?_
        conv => whnf
        refine ⟨by omega, ?_⟩
        conv => whnf
        refine LoadV.os rfl (bytesV_at A last) ?_
        conv => whnf
        refine ArI.to64 (j : Int) (by omega) (by omega) ?_
        conv => whnf
        repeat (first | (refine LoadV.s rfl rfl (forceV_of ?_); conv => whnf) | (refine LoadV.s rfl rfl ?_; conv => whnf) | (refine StoreV.c rfl rfl (Nat.le_of_ble_eq_true rfl) rfl ?_; conv => whnf) | (refine LoadV.a _ rfl (Nat.le_of_ble_eq_true rfl) ?_; conv => whnf) | (refine DrawI.quiet (by kernel_rfl) (by kernel_rfl) ?_; conv => whnf) | (refine ArI.in64 (by omega) ?_; conv => whnf) | (refine ArI.inU8 (by omega) ?_; conv => whnf) | (refine ArI.inU64 (by omega) ?_; conv => whnf) | (refine ArI.inU32 (by omega) ?_; conv => whnf) | (refine RetI.one Try.results69 rfl ?_; conv => whnf) | (refine RetI.two Try.results69 rfl rfl ?_; conv => whnf) | (refine RetI.three Try.results69 rfl rfl rfl ?_; conv => whnf) | (refine RetI.none Try.results69 ?_; conv => whnf) | (refine ⟨by first | decide | omega, ?_⟩; conv => whnf))
        have hsl : IntKind.u8.wrap ((num c : Int) * 2 ^ min (Int.toNat (j : Int)) IntKind.u8.bits) = ((num c * 2 ^ j : Nat) : Int) := by
          rw [mul_pow_nat, wrap_u8_nat]
          have : min j IntKind.u8.bits = j := Nat.min_eq_left (show j ≤ 8 by omega)
          rw [this, Nat.mod_eq_of_lt hNj]
        rw [hsl, u8_or_nat _ _ hlast hNj]
        refine StoreV.os (l := bytesV (A ++ [last])) rfl rfl (by show 0 + A.length + 1 ≤ _; simp) rfl ?_
        have hput := bytesV_put A last (last ||| num c * 2 ^ j)
        rw [show (Value.int IntKind.u8 ((last ||| num c * 2 ^ j : Nat) : Int)).cells.toList = [.int .u8 ((last ||| num c * 2 ^ j : Nat) : Int)] from rfl]
        rw [show elemOff 0 (A.length : Int) (Try.prog.types[5]'(by decide)).size = 0 + A.length from rfl, hput]
        conv => whnf
        refine CallS.mk Try.call83 ⟨[_], _, _, Sub.split [1] rfl, fun F' hF' => bAdd_ok F' w _ _ _ _ (by omega), ?_⟩
        rintro e A' ⟨rfl, rfl⟩
        conv => whnf
        refine ArI.to64 (k : Int) (by omega) (by omega) ?_
        conv => whnf
        have hpk' : packB (B' ++ c) = A ++ [last ||| num c * 2 ^ j] := by rw [hpk]; congr 5; omega
        refine ⟨(k, B' ++ c, some (gb, gc)), _, by dsimp only; omega, Sub.sel [0, 2] rfl, ⟨by dsimp only; omega, by dsimp only; exact hbits, by simp; intro _ e; subst e; simp at hc; omega⟩, ⟨rfl, rfl, rfl, trivial⟩, ?_⟩
        dsimp only
        rw [hpk', show (((B' ++ c).length : Nat) : Int) = (B'.length : Int) + (m : Int) by rw [List.length_append, hc]; omega]
        exact wrH_mk (by rw [hnn]; simp)
      · have h2 : B'.length % 8 ≠ 0 := by have := of_decide_eq_false h2; omega
        have hA := hA1 h2
        have hnn : (packB B').length = A.length + 1 := by rw [hA]; simp
        cases g' with
        | none => exact absurd (hg'.1 rfl) (by intro e; subst e; simp at h2)
        | some gg =>
          obtain ⟨gb, gc⟩ := gg
          rw [show svOf (some (gb, gc)) (packB B').length = .slice (some ⟨gb, 0, none⟩) (packB B').length gc from rfl]
          generalize (packB B').length = nn at hnn ⊢
          rw [hA]
          conv => whnf
          repeat (first | (refine LoadV.s rfl rfl (forceV_of ?_); conv => whnf) | (refine LoadV.s rfl rfl ?_; conv => whnf) | (refine StoreV.c rfl rfl (Nat.le_of_ble_eq_true rfl) rfl ?_; conv => whnf) | (refine LoadV.a _ rfl (Nat.le_of_ble_eq_true rfl) ?_; conv => whnf) | (refine DrawI.quiet (by kernel_rfl) (by kernel_rfl) ?_; conv => whnf) | (refine RetI.one Try.results69 rfl ?_; conv => whnf) | (refine RetI.two Try.results69 rfl rfl ?_; conv => whnf) | (refine RetI.three Try.results69 rfl rfl rfl ?_; conv => whnf) | (refine RetI.none Try.results69 ?_; conv => whnf) | (refine ⟨by first | decide | omega, ?_⟩; conv => whnf))
          obtain ⟨m, k, hm, hlk, hm0, hm8⟩ : ∃ m k : Nat, min (8 - (B'.length : Int) % 8) (left : Int) = (m : Int) ∧ left = m + k ∧ 0 < m ∧ m ≤ 8 - B'.length % 8 :=
            ⟨min (8 - B'.length % 8) left, left - min (8 - B'.length % 8) left, by omega, by omega, by omega, by omega⟩
          rw [hm]
          refine ArI.to64 (k : Int) (by omega) (by omega) ?_
          conv => whnf
          repeat (first | (refine LoadV.s rfl rfl (forceV_of ?_); conv => whnf) | (refine LoadV.s rfl rfl ?_; conv => whnf) | (refine StoreV.c rfl rfl (Nat.le_of_ble_eq_true rfl) rfl ?_; conv => whnf) | (refine LoadV.a _ rfl (Nat.le_of_ble_eq_true rfl) ?_; conv => whnf) | (refine DrawI.quiet (by kernel_rfl) (by kernel_rfl) ?_; conv => whnf) | (refine ArI.in64 (by omega) ?_; conv => whnf) | (refine ArI.inU8 (by omega) ?_; conv => whnf) | (refine ArI.inU64 (by omega) ?_; conv => whnf) | (refine ArI.inU32 (by omega) ?_; conv => whnf) | (refine RetI.one Try.results69 rfl ?_; conv => whnf) | (refine RetI.two Try.results69 rfl rfl ?_; conv => whnf) | (refine RetI.three Try.results69 rfl rfl rfl ?_; conv => whnf) | (refine RetI.none Try.results69 ?_; conv => whnf) | (refine ⟨by first | decide | omega, ?_⟩; conv => whnf))
          have hs : Int.fdiv (V : Int) (2 ^ min (Int.toNat (k : Int)) IntKind.u64.bits) = ((V / 2 ^ k : Nat) : Int) := shr_le (show k ≤ 64 by omega)
          rw [hs]
          refine ArI.mk _ (wrap_u8_nat _) ?_
          conv => whnf
          repeat (first | (refine LoadV.s rfl rfl (forceV_of ?_); conv => whnf) | (refine LoadV.s rfl rfl ?_; conv => whnf) | (refine StoreV.c rfl rfl (Nat.le_of_ble_eq_true rfl) rfl ?_; conv => whnf) | (refine LoadV.a _ rfl (Nat.le_of_ble_eq_true rfl) ?_; conv => whnf) | (refine DrawI.quiet (by kernel_rfl) (by kernel_rfl) ?_; conv => whnf) | (refine ArI.in64 (by omega) ?_; conv => whnf) | (refine ArI.inU8 (by omega) ?_; conv => whnf) | (refine ArI.inU64 (by omega) ?_; conv => whnf) | (refine ArI.inU32 (by omega) ?_; conv => whnf) | (refine RetI.one Try.results69 rfl ?_; conv => whnf) | (refine RetI.two Try.results69 rfl rfl ?_; conv => whnf) | (refine RetI.three Try.results69 rfl rfl rfl ?_; conv => whnf) | (refine RetI.none Try.results69 ?_; conv => whnf) | (refine ⟨by first | decide | omega, ?_⟩; conv => whnf))
          refine ArI.mk _ (u8_ones m (by omega)) ?_
          conv => whnf
          have hmod : V / 2 ^ k % 256 % 2 ^ m = num (bitsOf m (V / 2 ^ k)) := by
            rw [num_bitsOf, show 256 = 2 ^ 8 from rfl, Nat.mod_mod_of_dvd _ (Nat.pow_dvd_pow 2 (by omega))]
          rw [u8_mask _ m (Nat.mod_lt _ (by decide)) (by omega), hmod]
          have hc := bitsOf_length m (V / 2 ^ k)
          have hN := num_lt (bitsOf m (V / 2 ^ k))
          have hpk := hpack (bitsOf m (V / 2 ^ k)) (by omega) (by omega)
          have hbits : B' ++ bitsOf m (V / 2 ^ k) = B ++ bitsOf (W - k) (V / 2 ^ k) := by
            rw [hB', List.append_assoc, hlk, show V / 2 ^ (m + k) = V / 2 ^ k / 2 ^ m by rw [Nat.div_div_eq_div_mul, ← Nat.pow_add, Nat.add_comm], ← bitsOf_add, show W - (m + k) + m = W - k by omega]
          generalize bitsOf m (V / 2 ^ k) = c at hc hN hpk hbits ⊢
          obtain ⟨j, hj⟩ : ∃ j : Nat, 8 - B'.length % 8 = m + j := ⟨8 - B'.length % 8 - m, by omega⟩
          have hNj : num c * 2 ^ j < 256 := by
            have h8 : 2 ^ (m + j) ≤ 2 ^ 8 := Nat.pow_le_pow_right (by decide) (by omega)
            have : num c * 2 ^ j < 2 ^ m * 2 ^ j := Nat.mul_lt_mul_of_pos_right (by rw [hc] at hN; exact hN) (Nat.two_pow_pos _)
            rw [← Nat.pow_add] at this; omega
          refine DrawI.tail 20 (by kernel_rfl) (by kernel_rfl) ?_
          conv => whnf
          repeat (first | (refine LoadV.s rfl rfl (forceV_of ?_); conv => whnf) | (refine LoadV.s rfl rfl ?_; conv => whnf) | (refine StoreV.c rfl rfl (Nat.le_of_ble_eq_true rfl) rfl ?_; conv => whnf) | (refine LoadV.a _ rfl (Nat.le_of_ble_eq_true rfl) ?_; conv => whnf) | (refine DrawI.quiet (by kernel_rfl) (by kernel_rfl) ?_; conv => whnf) | (refine RetI.one Try.results69 rfl ?_; conv => whnf) | (refine RetI.two Try.results69 rfl rfl ?_; conv => whnf) | (refine RetI.three Try.results69 rfl rfl rfl ?_; conv => whnf) | (refine RetI.none Try.results69 ?_; conv => whnf) | (refine ⟨by first | decide | omega, ?_⟩; conv => whnf))
          refine ArI.to64 (A.length : Int) (by omega) (by omega) ?_
          conv => whnf
          refine ⟨by omega, ?_⟩
          conv => whnf
          refine LoadV.os rfl (bytesV_at A last) ?_
          conv => whnf
          refine ArI.to64 (j : Int) (by omega) (by omega) ?_
          conv => whnf
          repeat (first | (refine LoadV.s rfl rfl (forceV_of ?_); conv => whnf) | (refine LoadV.s rfl rfl ?_; conv => whnf) | (refine StoreV.c rfl rfl (Nat.le_of_ble_eq_true rfl) rfl ?_; conv => whnf) | (refine LoadV.a _ rfl (Nat.le_of_ble_eq_true rfl) ?_; conv => whnf) | (refine DrawI.quiet (by kernel_rfl) (by kernel_rfl) ?_; conv => whnf) | (refine ArI.in64 (by omega) ?_; conv => whnf) | (refine ArI.inU8 (by omega) ?_; conv => whnf) | (refine ArI.inU64 (by omega) ?_; conv => whnf) | (refine ArI.inU32 (by omega) ?_; conv => whnf) | (refine RetI.one Try.results69 rfl ?_; conv => whnf) | (refine RetI.two Try.results69 rfl rfl ?_; conv => whnf) | (refine RetI.three Try.results69 rfl rfl rfl ?_; conv => whnf) | (refine RetI.none Try.results69 ?_; conv => whnf) | (refine ⟨by first | decide | omega, ?_⟩; conv => whnf))
          have hsl : IntKind.u8.wrap ((num c : Int) * 2 ^ min (Int.toNat (j : Int)) IntKind.u8.bits) = ((num c * 2 ^ j : Nat) : Int) := by
            rw [mul_pow_nat, wrap_u8_nat]
            have : min j IntKind.u8.bits = j := Nat.min_eq_left (show j ≤ 8 by omega)
            rw [this, Nat.mod_eq_of_lt hNj]
          rw [hsl, u8_or_nat _ _ hlast hNj]
          refine StoreV.os (l := bytesV (A ++ [last])) rfl rfl (by show 0 + A.length + 1 ≤ _; simp) rfl ?_
          have hput := bytesV_put A last (last ||| num c * 2 ^ j)
          rw [show (Value.int IntKind.u8 ((last ||| num c * 2 ^ j : Nat) : Int)).cells.toList = [.int .u8 ((last ||| num c * 2 ^ j : Nat) : Int)] from rfl]
          rw [show elemOff 0 (A.length : Int) (Try.prog.types[5]'(by decide)).size = 0 + A.length from rfl, hput]
          conv => whnf
          refine CallS.mk Try.call83 ⟨[_], _, _, Sub.split [0] rfl, fun F' hF' => bAdd_ok F' w _ _ _ _ (by omega), ?_⟩
          rintro e A' ⟨rfl, rfl⟩
          conv => whnf
          refine ArI.to64 (k : Int) (by omega) (by omega) ?_
          conv => whnf
          have hpk' : packB (B' ++ c) = A ++ [last ||| num c * 2 ^ j] := by rw [hpk]; congr 5; omega
          refine ⟨(k, B' ++ c, some (gb, gc)), _, by dsimp only; omega, Sub.sel [0, 1] rfl, ⟨by dsimp only; omega, by dsimp only; exact hbits, by simp; intro _ e; subst e; simp at hc; omega⟩, ⟨rfl, rfl, rfl, trivial⟩, ?_⟩
          dsimp only
          rw [hpk', show (((B' ++ c).length : Nat) : Int) = (B'.length : Int) + (m : Int) by rw [List.length_append, hc]; omega]
          exact wrH_mk (by rw [hnn]; simp)
    · conv => whnf
      repeat (first | (refine LoadV.s rfl rfl (forceV_of ?_); conv => whnf) | (refine LoadV.s rfl rfl ?_; conv => whnf) | (refine StoreV.c rfl rfl (Nat.le_of_ble_eq_true rfl) rfl ?_; conv => whnf) | (refine LoadV.a _ rfl (Nat.le_of_ble_eq_true rfl) ?_; conv => whnf) | (refine DrawI.quiet (by kernel_rfl) (by kernel_rfl) ?_; conv => whnf) | (refine ArI.in64 (by omega) ?_; conv => whnf) | (refine ArI.inU8 (by omega) ?_; conv => whnf) | (refine ArI.inU64 (by omega) ?_; conv => whnf) | (refine ArI.inU32 (by omega) ?_; conv => whnf) | (refine RetI.one Try.results69 rfl ?_; conv => whnf) | (refine RetI.two Try.results69 rfl rfl ?_; conv => whnf) | (refine RetI.three Try.results69 rfl rfl rfl ?_; conv => whnf) | (refine RetI.none Try.results69 ?_; conv => whnf) | (refine ⟨by first | decide | omega, ?_⟩; conv => whnf))
      have hl0 : left = 0 := by omega
      subst hl0
      simp only [Nat.sub_zero, Nat.pow_zero, Nat.div_one] at hB'
      subst hB'
      exact ⟨_, Sub.refl _, .inr ⟨rfl, rfl, g', hg', rfl⟩⟩
end Go.Proofs.Ytgodkfaacjllcaa

/- The bits: the reader, packing and unpacking. -/
namespace Go.Proofs.Ytgodkfaacjllcaa
set_option linter.unusedVariables false
set_option linter.unusedSimpArgs false
set_option maxRecDepth 100000
open SL Go.RowKit Go.Maps

theorem bBytes_ok (F : Mem) (w : Nat) (n : Int) (g : Option (Nat × Nat)) (o : List Nat) (hg : g = none → o = []) :
    FT Try.prog 70 [.pointer (some ⟨w, 0, none⟩)].toArray F (wrH w n g o) (fun e H => e = .returned (.string (strB o)) ∧ H = wrH w n g o) := by
  cases g with
  | none =>
    obtain rfl := hg rfl
    refine FT.of_body Try.func70 rfl Try.ntmps70 (by simp) fun C hC => ?_
    subst hC
    conv => whnf
    repeat (first | (refine LoadV.s rfl rfl (forceV_of ?_); conv => whnf) | (refine LoadV.s rfl rfl ?_; conv => whnf) | (refine StoreV.c rfl rfl (Nat.le_of_ble_eq_true rfl) rfl ?_; conv => whnf) | (refine LoadV.a _ rfl (Nat.le_of_ble_eq_true rfl) ?_; conv => whnf) | (refine DrawI.quiet (by kernel_rfl) (by kernel_rfl) ?_; conv => whnf) | (refine ArI.in64 (by omega) ?_; conv => whnf) | (refine ArI.inU8 (by omega) ?_; conv => whnf) | (refine ArI.inU64 (by omega) ?_; conv => whnf) | (refine ArI.inU32 (by omega) ?_; conv => whnf) | (refine RetI.one Try.results70 rfl ?_; conv => whnf) | (refine RetI.two Try.results70 rfl rfl ?_; conv => whnf) | (refine RetI.three Try.results70 rfl rfl rfl ?_; conv => whnf) | (refine RetI.none Try.results70 ?_; conv => whnf) | (refine ⟨by first | decide | omega, ?_⟩; conv => whnf))
    refine DoV.nil_string Try.underlying118 Try.underlying5 Try.underlying9 ?_
    conv => whnf
    repeat (first | (refine LoadV.s rfl rfl (forceV_of ?_); conv => whnf) | (refine LoadV.s rfl rfl ?_; conv => whnf) | (refine StoreV.c rfl rfl (Nat.le_of_ble_eq_true rfl) rfl ?_; conv => whnf) | (refine LoadV.a _ rfl (Nat.le_of_ble_eq_true rfl) ?_; conv => whnf) | (refine DrawI.quiet (by kernel_rfl) (by kernel_rfl) ?_; conv => whnf) | (refine ArI.in64 (by omega) ?_; conv => whnf) | (refine ArI.inU8 (by omega) ?_; conv => whnf) | (refine ArI.inU64 (by omega) ?_; conv => whnf) | (refine ArI.inU32 (by omega) ?_; conv => whnf) | (refine RetI.one Try.results70 rfl ?_; conv => whnf) | (refine RetI.two Try.results70 rfl rfl ?_; conv => whnf) | (refine RetI.three Try.results70 rfl rfl rfl ?_; conv => whnf) | (refine RetI.none Try.results70 ?_; conv => whnf) | (refine ⟨by first | decide | omega, ?_⟩; conv => whnf))
    exact ⟨_, Sub.refl _, rfl, rfl⟩
  | some p =>
    obtain ⟨b, cap⟩ := p
    have e0 : wrH w n (some (b, cap)) o = [.cells w [.int .i64 n, .slice (some ⟨b, 0, none⟩) o.length cap] 145 (0, 0), .own (.slice (some ⟨b, 0, none⟩) o.length cap) o.length 5 1 (bytesV o)] := rfl
    rw [e0]
    refine FT.of_body Try.func70 rfl Try.ntmps70 (by simp) fun C hC => ?_
    subst hC
    conv => whnf
    repeat (first | (refine LoadV.s rfl rfl (forceV_of ?_); conv => whnf) | (refine LoadV.s rfl rfl ?_; conv => whnf) | (refine StoreV.c rfl rfl (Nat.le_of_ble_eq_true rfl) rfl ?_; conv => whnf) | (refine LoadV.a _ rfl (Nat.le_of_ble_eq_true rfl) ?_; conv => whnf) | (refine DrawI.quiet (by kernel_rfl) (by kernel_rfl) ?_; conv => whnf) | (refine ArI.in64 (by omega) ?_; conv => whnf) | (refine ArI.inU8 (by omega) ?_; conv => whnf) | (refine ArI.inU64 (by omega) ?_; conv => whnf) | (refine ArI.inU32 (by omega) ?_; conv => whnf) | (refine RetI.one Try.results70 rfl ?_; conv => whnf) | (refine RetI.two Try.results70 rfl rfl ?_; conv => whnf) | (refine RetI.three Try.results70 rfl rfl rfl ?_; conv => whnf) | (refine RetI.none Try.results70 ?_; conv => whnf) | (refine ⟨by first | decide | omega, ?_⟩; conv => whnf))
    refine DoV.bytes_string (l := o) Try.underlying118 Try.underlying5 Try.underlying9 rfl (by
      have := Row.own (C := C) (H := [.cells w [.int .i64 n, .slice (some ⟨b, 0, none⟩) o.length cap] 145 (0, 0), .own (.slice (some ⟨b, 0, none⟩) o.length cap) o.length 5 1 (bytesV o)]) (b := b) (o := 0) o.length
      rwa [List.drop_zero, List.take_of_length_le (by simp)] at this) ?_
    conv => whnf
    repeat (first | (refine LoadV.s rfl rfl (forceV_of ?_); conv => whnf) | (refine LoadV.s rfl rfl ?_; conv => whnf) | (refine StoreV.c rfl rfl (Nat.le_of_ble_eq_true rfl) rfl ?_; conv => whnf) | (refine LoadV.a _ rfl (Nat.le_of_ble_eq_true rfl) ?_; conv => whnf) | (refine DrawI.quiet (by kernel_rfl) (by kernel_rfl) ?_; conv => whnf) | (refine ArI.in64 (by omega) ?_; conv => whnf) | (refine ArI.inU8 (by omega) ?_; conv => whnf) | (refine ArI.inU64 (by omega) ?_; conv => whnf) | (refine ArI.inU32 (by omega) ?_; conv => whnf) | (refine RetI.one Try.results70 rfl ?_; conv => whnf) | (refine RetI.two Try.results70 rfl rfl ?_; conv => whnf) | (refine RetI.three Try.results70 rfl rfl rfl ?_; conv => whnf) | (refine RetI.none Try.results70 ?_; conv => whnf) | (refine ⟨by first | decide | omega, ?_⟩; conv => whnf))
    exact ⟨_, Sub.refl _, rfl, rfl⟩
/-- A reader's memory. -/
abbrev rdH (r : Nat) (n : Int) (s : ByteArray) : Heap := [.cells r [.int .i64 n, .string s] 153 (0, 0)]
theorem bRead_ok (F : Mem) (s : ByteArray) : FT Try.prog 77 [.string s].toArray F [] (fun e H => ∃ r, e = .returned (.pointer (some ⟨r, 0, none⟩)) ∧ H = rdH r 0 s) := by
  refine FT.of_body Try.func77 rfl Try.ntmps77 (by simp) fun C hC => ?_
  subst hC
  conv => whnf
  intro r
  conv => whnf
  repeat (first | (refine LoadV.s rfl rfl (forceV_of ?_); conv => whnf) | (refine LoadV.s rfl rfl ?_; conv => whnf) | (refine StoreV.c rfl rfl (Nat.le_of_ble_eq_true rfl) rfl ?_; conv => whnf) | (refine LoadV.a _ rfl (Nat.le_of_ble_eq_true rfl) ?_; conv => whnf) | (refine DrawI.quiet (by kernel_rfl) (by kernel_rfl) ?_; conv => whnf) | (refine ArI.in64 (by omega) ?_; conv => whnf) | (refine ArI.inU8 (by omega) ?_; conv => whnf) | (refine ArI.inU64 (by omega) ?_; conv => whnf) | (refine ArI.inU32 (by omega) ?_; conv => whnf) | (refine RetI.one Try.results77 rfl ?_; conv => whnf) | (refine RetI.two Try.results77 rfl rfl ?_; conv => whnf) | (refine RetI.three Try.results77 rfl rfl rfl ?_; conv => whnf) | (refine RetI.none Try.results77 ?_; conv => whnf) | (refine ⟨by first | decide | omega, ?_⟩; conv => whnf))
  exact ⟨_, Sub.refl _, r, rfl, rfl⟩
theorem bLeft_ok (F : Mem) (r n : Nat) (s : ByteArray) (hs : s.size ≤ 140737488355328) (hn : n ≤ 8 * s.size) :
    FT Try.prog 89 [.pointer (some ⟨r, 0, none⟩)].toArray F (rdH r n s) (fun e H => e = .returned (.int .i64 (8 * (s.size : Int) - n)) ∧ H = rdH r n s) := by
  refine FT.of_body Try.func89 rfl Try.ntmps89 (by simp) fun C hC => ?_
  subst hC
  conv => whnf
  repeat (first | (refine LoadV.s rfl rfl (forceV_of ?_); conv => whnf) | (refine LoadV.s rfl rfl ?_; conv => whnf) | (refine StoreV.c rfl rfl (Nat.le_of_ble_eq_true rfl) rfl ?_; conv => whnf) | (refine LoadV.a _ rfl (Nat.le_of_ble_eq_true rfl) ?_; conv => whnf) | (refine DrawI.quiet (by kernel_rfl) (by kernel_rfl) ?_; conv => whnf) | (refine ArI.in64 (by omega) ?_; conv => whnf) | (refine ArI.inU8 (by omega) ?_; conv => whnf) | (refine ArI.inU64 (by omega) ?_; conv => whnf) | (refine ArI.inU32 (by omega) ?_; conv => whnf) | (refine RetI.one Try.results89 rfl ?_; conv => whnf) | (refine RetI.two Try.results89 rfl rfl ?_; conv => whnf) | (refine RetI.three Try.results89 rfl rfl rfl ?_; conv => whnf) | (refine RetI.none Try.results89 ?_; conv => whnf) | (refine ⟨by first | decide | omega, ?_⟩; conv => whnf))
  exact ⟨_, Sub.refl _, rfl, rfl⟩
/-- What a taking answers: the number, the error, where the reader stands behind. -/
def takeB (T : List Bool) (n : Nat) (width : Int) : Nat × Int × Nat :=
  if 1 ≤ width ∧ width ≤ 64 ∧ width.toNat ≤ T.length - n then (num ((T.drop n).take width.toNat), 0, n + width.toNat) else (0, 6, n)
theorem bTake_ok (F : Mem) (r n : Nat) (s : ByteArray) (width : Int) (hs : s.size ≤ 140737488355328) (hn : n ≤ 8 * s.size) :
    FT Try.prog 78 [.pointer (some ⟨r, 0, none⟩), .int .i64 width].toArray F (rdH r n s)
    (fun e H => e = .returned (.tuple #[.int .u64 ((takeB (textBits (txt s)) n width).1 : Nat), .int .i64 (takeB (textBits (txt s)) n width).2.1]) ∧ H = rdH r ((takeB (textBits (txt s)) n width).2.2 : Nat) s) := by
  refine FT.of_body Try.func78 rfl Try.ntmps78 (by simp) fun C hC => ?_
  subst hC
  conv => whnf
  have hT : (textBits (txt s)).length = 8 * s.size := by rw [textBits_length, txt_length]
  have bad : ¬ (1 ≤ width ∧ width ≤ 64 ∧ width.toNat ≤ 8 * s.size - n) → takeB (textBits (txt s)) n width = (0, 6, n) := fun h => by unfold takeB; rw [hT, if_neg h]
  repeat (first | (refine LoadV.s rfl rfl (forceV_of ?_); conv => whnf) | (refine LoadV.s rfl rfl ?_; conv => whnf) | (refine StoreV.c rfl rfl (Nat.le_of_ble_eq_true rfl) rfl ?_; conv => whnf) | (refine LoadV.a _ rfl (Nat.le_of_ble_eq_true rfl) ?_; conv => whnf) | (refine DrawI.quiet (by kernel_rfl) (by kernel_rfl) ?_; conv => whnf) | (refine ArI.in64 (by omega) ?_; conv => whnf) | (refine ArI.inU8 (by omega) ?_; conv => whnf) | (refine ArI.inU64 (by omega) ?_; conv => whnf) | (refine ArI.inU32 (by omega) ?_; conv => whnf) | (refine RetI.one Try.results78 rfl ?_; conv => whnf) | (refine RetI.two Try.results78 rfl rfl ?_; conv => whnf) | (refine RetI.three Try.results78 rfl rfl rfl ?_; conv => whnf) | (refine RetI.none Try.results78 ?_; conv => whnf) | (refine ⟨by first | decide | omega, ?_⟩; conv => whnf))
  refine cond_dec (fun h1 => ?_) (fun h1 => ?_)
  · rw [bad (by omega)]
    conv => whnf
    repeat (first | (refine LoadV.s rfl rfl (forceV_of ?_); conv => whnf) | (refine LoadV.s rfl rfl ?_; conv => whnf) | (refine StoreV.c rfl rfl (Nat.le_of_ble_eq_true rfl) rfl ?_; conv => whnf) | (refine LoadV.a _ rfl (Nat.le_of_ble_eq_true rfl) ?_; conv => whnf) | (refine DrawI.quiet (by kernel_rfl) (by kernel_rfl) ?_; conv => whnf) | (refine ArI.in64 (by omega) ?_; conv => whnf) | (refine ArI.inU8 (by omega) ?_; conv => whnf) | (refine ArI.inU64 (by omega) ?_; conv => whnf) | (refine ArI.inU32 (by omega) ?_; conv => whnf) | (refine RetI.one Try.results78 rfl ?_; conv => whnf) | (refine RetI.two Try.results78 rfl rfl ?_; conv => whnf) | (refine RetI.three Try.results78 rfl rfl rfl ?_; conv => whnf) | (refine RetI.none Try.results78 ?_; conv => whnf) | (refine ⟨by first | decide | omega, ?_⟩; conv => whnf))
    exact ⟨_, Sub.refl _, rfl, rfl⟩
  conv => whnf
  refine cond_dec (fun h2 => ?_) (fun h2 => ?_)
  · rw [bad (by omega)]
    conv => whnf
    repeat (first | (refine LoadV.s rfl rfl (forceV_of ?_); conv => whnf) | (refine LoadV.s rfl rfl ?_; conv => whnf) | (refine StoreV.c rfl rfl (Nat.le_of_ble_eq_true rfl) rfl ?_; conv => whnf) | (refine LoadV.a _ rfl (Nat.le_of_ble_eq_true rfl) ?_; conv => whnf) | (refine DrawI.quiet (by kernel_rfl) (by kernel_rfl) ?_; conv => whnf) | (refine ArI.in64 (by omega) ?_; conv => whnf) | (refine ArI.inU8 (by omega) ?_; conv => whnf) | (refine ArI.inU64 (by omega) ?_; conv => whnf) | (refine ArI.inU32 (by omega) ?_; conv => whnf) | (refine RetI.one Try.results78 rfl ?_; conv => whnf) | (refine RetI.two Try.results78 rfl rfl ?_; conv => whnf) | (refine RetI.three Try.results78 rfl rfl rfl ?_; conv => whnf) | (refine RetI.none Try.results78 ?_; conv => whnf) | (refine ⟨by first | decide | omega, ?_⟩; conv => whnf))
    exact ⟨_, Sub.refl _, rfl, rfl⟩
  conv => whnf
  refine CallS.mk Try.call89 ⟨[_], _, _, Sub.split [0] rfl, fun F' hF' => bLeft_ok F' r n s hs hn, ?_⟩
  rintro e A' ⟨rfl, rfl⟩
  conv => whnf
  refine cond_dec (fun h3 => ?_) (fun h3 => ?_)
  · rw [bad (by omega)]
    conv => whnf
    repeat (first | (refine LoadV.s rfl rfl (forceV_of ?_); conv => whnf) | (refine LoadV.s rfl rfl ?_; conv => whnf) | (refine StoreV.c rfl rfl (Nat.le_of_ble_eq_true rfl) rfl ?_; conv => whnf) | (refine LoadV.a _ rfl (Nat.le_of_ble_eq_true rfl) ?_; conv => whnf) | (refine DrawI.quiet (by kernel_rfl) (by kernel_rfl) ?_; conv => whnf) | (refine ArI.in64 (by omega) ?_; conv => whnf) | (refine ArI.inU8 (by omega) ?_; conv => whnf) | (refine ArI.inU64 (by omega) ?_; conv => whnf) | (refine ArI.inU32 (by omega) ?_; conv => whnf) | (refine RetI.one Try.results78 rfl ?_; conv => whnf) | (refine RetI.two Try.results78 rfl rfl ?_; conv => whnf) | (refine RetI.three Try.results78 rfl rfl rfl ?_; conv => whnf) | (refine RetI.none Try.results78 ?_; conv => whnf) | (refine ⟨by first | decide | omega, ?_⟩; conv => whnf))
    exact ⟨_, Sub.refl _, rfl, rfl⟩
  conv => whnf
  repeat (first | (refine LoadV.s rfl rfl (forceV_of ?_); conv => whnf) | (refine LoadV.s rfl rfl ?_; conv => whnf) | (refine StoreV.c rfl rfl (Nat.le_of_ble_eq_true rfl) rfl ?_; conv => whnf) | (refine LoadV.a _ rfl (Nat.le_of_ble_eq_true rfl) ?_; conv => whnf) | (refine DrawI.quiet (by kernel_rfl) (by kernel_rfl) ?_; conv => whnf) | (refine ArI.in64 (by omega) ?_; conv => whnf) | (refine ArI.inU8 (by omega) ?_; conv => whnf) | (refine ArI.inU64 (by omega) ?_; conv => whnf) | (refine ArI.inU32 (by omega) ?_; conv => whnf) | (refine RetI.one Try.results78 rfl ?_; conv => whnf) | (refine RetI.two Try.results78 rfl rfl ?_; conv => whnf) | (refine RetI.three Try.results78 rfl rfl rfl ?_; conv => whnf) | (refine RetI.none Try.results78 ?_; conv => whnf) | (refine ⟨by first | decide | omega, ?_⟩; conv => whnf))
  obtain ⟨W, rfl⟩ := Int.eq_ofNat_of_zero_le (show 0 ≤ width by omega)
  have good : takeB (textBits (txt s)) n (W : Int) = (num (((textBits (txt s)).drop n).take W), 0, n + W) := by unfold takeB; rw [hT, if_pos ⟨by omega, by omega, by simp; omega⟩]; rfl
  rw [good]
  generalize hTT : textBits (txt s) = T at hT ⊢
  refine LoopI.by_state (σ := Nat) (fun x => [(0, .pointer (some ⟨r, 0, none⟩)), (6, .int .u64 (num ((T.drop n).take (W - x)) : Nat)), (7, .int .i64 (x : Int))]) (fun x => rdH r ((n + (W - x) : Nat) : Int) s)
    (fun x => x ≤ W) (fun x => x) W (Nat.le_refl _) ⟨rfl, ?_, rfl, trivial⟩ ?_ ?_
  · show Value.int .u64 0 = _
    rw [Nat.sub_self, List.take_zero]; rfl
  · rw [Nat.sub_self]; exact Sub.refl _
  rintro left f0 hl
  conv => whnf
  refine cond_dec (fun h => ?_) (fun h => ?_)
  · obtain ⟨N, hN⟩ : ∃ N, n + (W - left) = N := ⟨_, rfl⟩
    rw [hN]
    obtain ⟨m, k, hm, hlk, hm0, hm8⟩ : ∃ m k : Nat, min (8 - (N : Int) % 8) (left : Int) = (m : Int) ∧ left = m + k ∧ 0 < m ∧ m ≤ 8 - N % 8 :=
      ⟨min (8 - N % 8) left, left - min (8 - N % 8) left, by omega, by omega, by omega, by omega⟩
    obtain ⟨j, hj⟩ : ∃ j : Nat, 8 - N % 8 = m + j := ⟨8 - N % 8 - m, by omega⟩
    have hi : N / 8 < (txt s).length := by rw [txt_length]; omega
    conv => whnf
    repeat (first | (refine LoadV.s rfl rfl (forceV_of ?_); conv => whnf) | (refine LoadV.s rfl rfl ?_; conv => whnf) | (refine StoreV.c rfl rfl (Nat.le_of_ble_eq_true rfl) rfl ?_; conv => whnf) | (refine LoadV.a _ rfl (Nat.le_of_ble_eq_true rfl) ?_; conv => whnf) | (refine DrawI.quiet (by kernel_rfl) (by kernel_rfl) ?_; conv => whnf) | (refine RetI.one Try.results78 rfl ?_; conv => whnf) | (refine RetI.two Try.results78 rfl rfl ?_; conv => whnf) | (refine RetI.three Try.results78 rfl rfl rfl ?_; conv => whnf) | (refine RetI.none Try.results78 ?_; conv => whnf) | (refine ⟨by first | decide | omega, ?_⟩; conv => whnf))
    rw [i64_and7]
    (first | (refine LoadV.s rfl rfl (forceV_of ?_); conv => whnf) | (refine LoadV.s rfl rfl ?_; conv => whnf) | (refine StoreV.c rfl rfl (Nat.le_of_ble_eq_true rfl) rfl ?_; conv => whnf) | (refine LoadV.a _ rfl (Nat.le_of_ble_eq_true rfl) ?_; conv => whnf) | (refine DrawI.quiet (by kernel_rfl) (by kernel_rfl) ?_; conv => whnf) | (refine ArI.in64 (by omega) ?_; conv => whnf) | (refine ArI.inU8 (by omega) ?_; conv => whnf) | (refine ArI.inU64 (by omega) ?_; conv => whnf) | (refine ArI.inU32 (by omega) ?_; conv => whnf) | (refine RetI.one Try.results78 rfl ?_; conv => whnf) | (refine RetI.two Try.results78 rfl rfl ?_; conv => whnf) | (refine RetI.three Try.results78 rfl rfl rfl ?_; conv => whnf) | (refine RetI.none Try.results78 ?_; conv => whnf) | (refine ⟨by first | decide | omega, ?_⟩; conv => whnf))
    repeat (first | (refine LoadV.s rfl rfl (forceV_of ?_); conv => whnf) | (refine LoadV.s rfl rfl ?_; conv => whnf) | (refine StoreV.c rfl rfl (Nat.le_of_ble_eq_true rfl) rfl ?_; conv => whnf) | (refine LoadV.a _ rfl (Nat.le_of_ble_eq_true rfl) ?_; conv => whnf) | (refine DrawI.quiet (by kernel_rfl) (by kernel_rfl) ?_; conv => whnf) | (refine RetI.one Try.results78 rfl ?_; conv => whnf) | (refine RetI.two Try.results78 rfl rfl ?_; conv => whnf) | (refine RetI.three Try.results78 rfl rfl rfl ?_; conv => whnf) | (refine RetI.none Try.results78 ?_; conv => whnf) | (refine ⟨by first | decide | omega, ?_⟩; conv => whnf))
    rw [hm]
    have hs1 : Int.fdiv (N : Int) (2 ^ min (Int.toNat 3) IntKind.i64.bits) = ((N / 8 : Nat) : Int) := shr_le (V := N) (W := 3) (k := 64) (by decide)
    rw [hs1]
    refine ⟨by omega, ?_⟩
    conv => whnf
    repeat (first | (refine LoadV.s rfl rfl (forceV_of ?_); conv => whnf) | (refine LoadV.s rfl rfl ?_; conv => whnf) | (refine StoreV.c rfl rfl (Nat.le_of_ble_eq_true rfl) rfl ?_; conv => whnf) | (refine LoadV.a _ rfl (Nat.le_of_ble_eq_true rfl) ?_; conv => whnf) | (refine DrawI.quiet (by kernel_rfl) (by kernel_rfl) ?_; conv => whnf) | (refine RetI.one Try.results78 rfl ?_; conv => whnf) | (refine RetI.two Try.results78 rfl rfl ?_; conv => whnf) | (refine RetI.three Try.results78 rfl rfl rfl ?_; conv => whnf) | (refine RetI.none Try.results78 ?_; conv => whnf) | (refine ⟨by first | decide | omega, ?_⟩; conv => whnf))
    rw [byteAt_txt s (N / 8) hi]
    refine ArI.to64 (j : Int) (by omega) (by omega) ?_
    conv => whnf
    refine ArI.inU64 (by omega) ?_
    conv => whnf
    repeat (first | (refine LoadV.s rfl rfl (forceV_of ?_); conv => whnf) | (refine LoadV.s rfl rfl ?_; conv => whnf) | (refine StoreV.c rfl rfl (Nat.le_of_ble_eq_true rfl) rfl ?_; conv => whnf) | (refine LoadV.a _ rfl (Nat.le_of_ble_eq_true rfl) ?_; conv => whnf) | (refine DrawI.quiet (by kernel_rfl) (by kernel_rfl) ?_; conv => whnf) | (refine ArI.in64 (by omega) ?_; conv => whnf) | (refine ArI.inU8 (by omega) ?_; conv => whnf) | (refine ArI.inU64 (by omega) ?_; conv => whnf) | (refine ArI.inU32 (by omega) ?_; conv => whnf) | (refine RetI.one Try.results78 rfl ?_; conv => whnf) | (refine RetI.two Try.results78 rfl rfl ?_; conv => whnf) | (refine RetI.three Try.results78 rfl rfl rfl ?_; conv => whnf) | (refine RetI.none Try.results78 ?_; conv => whnf) | (refine ⟨by first | decide | omega, ?_⟩; conv => whnf))
    refine ArI.mk _ (u8_ones m (by omega)) ?_
    conv => whnf
    have hx : (txt s)[N / 8] < 256 := txt_lt s _ (List.getElem_mem hi)
    have hpart := textBits_part (txt s) N m hi (by omega)
    rw [hTT, show 8 - N % 8 - m = j by omega] at hpart
    generalize (txt s)[N / 8] = x at hx hpart ⊢
    have hs2 : Int.fdiv (x : Int) (2 ^ min (Int.toNat (j : Int)) IntKind.u8.bits) = ((x / 2 ^ j : Nat) : Int) := shr_le (show j ≤ 8 by omega)
    have hx2 : x / 2 ^ j < 256 := Nat.lt_of_le_of_lt (Nat.div_le_self _ _) hx
    have hmod : x / 2 ^ j % 2 ^ m = num ((T.drop N).take m) := by rw [hpart, num_bitsOf]
    rw [hs2, u8_mask _ m hx2 (by omega), hmod]
    have hc : ((T.drop N).take m).length = m := by rw [List.length_take, List.length_drop]; omega
    have hcat : (T.drop n).take (W - k) = (T.drop n).take (W - left) ++ (T.drop N).take m := by
      rw [show W - k = (W - left) + m by omega, List.take_add, List.drop_drop, hN]
    have hvl : ((T.drop n).take (W - left)).length = W - left := by rw [List.length_take, List.length_drop]; omega
    have hN1 := num_lt ((T.drop N).take m)
    have hN2 := num_lt ((T.drop n).take (W - left))
    rw [hc] at hN1
    rw [hvl] at hN2
    have hnum : num ((T.drop n).take (W - k)) = num ((T.drop n).take (W - left)) * 2 ^ m + num ((T.drop N).take m) := by rw [hcat, num_append, hc]
    generalize num ((T.drop n).take (W - left)) = v at hN2 hnum ⊢
    generalize num ((T.drop N).take m) = p at hN1 hnum ⊢
    have hp8 : p < 256 := by
      have : 2 ^ m ≤ 2 ^ 8 := Nat.pow_le_pow_right (by decide) (by omega)
      omega
    have hvm : v * 2 ^ m + p < 18446744073709551616 := by
      have h1 : (v + 1) * 2 ^ m ≤ 2 ^ (W - left) * 2 ^ m := Nat.mul_le_mul_right _ hN2
      rw [← Nat.pow_add] at h1
      have h2 : 2 ^ (W - left + m) ≤ 2 ^ 64 := Nat.pow_le_pow_right (by decide) (by omega)
      rw [Nat.succ_mul] at h1
      omega
    have hs3 : IntKind.u64.wrap ((v : Int) * 2 ^ min (Int.toNat (m : Int)) IntKind.u64.bits) = ((v * 2 ^ m : Nat) : Int) := by
      rw [mul_pow_nat, wrap_u64_nat]
      have : min m IntKind.u64.bits = m := Nat.min_eq_left (show m ≤ 64 by omega)
      rw [this, Nat.mod_eq_of_lt (by omega)]
    repeat (first | (refine LoadV.s rfl rfl (forceV_of ?_); conv => whnf) | (refine LoadV.s rfl rfl ?_; conv => whnf) | (refine StoreV.c rfl rfl (Nat.le_of_ble_eq_true rfl) rfl ?_; conv => whnf) | (refine LoadV.a _ rfl (Nat.le_of_ble_eq_true rfl) ?_; conv => whnf) | (refine DrawI.quiet (by kernel_rfl) (by kernel_rfl) ?_; conv => whnf) | (refine ArI.in64 (by omega) ?_; conv => whnf) | (refine ArI.inU8 (by omega) ?_; conv => whnf) | (refine ArI.inU64 (by omega) ?_; conv => whnf) | (refine ArI.inU32 (by omega) ?_; conv => whnf) | (refine RetI.one Try.results78 rfl ?_; conv => whnf) | (refine RetI.two Try.results78 rfl rfl ?_; conv => whnf) | (refine RetI.three Try.results78 rfl rfl rfl ?_; conv => whnf) | (refine RetI.none Try.results78 ?_; conv => whnf) | (refine ⟨by first | decide | omega, ?_⟩; conv => whnf))
    rw [hs3, bits_or_u64_nat _ _ (by omega) (by omega), show v * 2 ^ m ||| p = v * 2 ^ m + p by rw [Nat.mul_comm, Nat.two_pow_add_eq_or_of_lt hN1]]
    refine CallS.mk Try.call83 ⟨[_], _, _, Sub.split [0] rfl, fun F' hF' => bAdd_ok F' r _ _ _ _ (by omega), ?_⟩
    rintro e A' ⟨rfl, rfl⟩
    conv => whnf
    refine ArI.to64 (k : Int) (by omega) (by omega) ?_
    conv => whnf
    refine ⟨k, _, by omega, Sub.refl _, by omega, ⟨rfl, ?_, rfl, trivial⟩, ?_⟩
    · rw [hnum]; rfl
    · rw [show ((n + (W - k) : Nat) : Int) = (N : Int) + (m : Int) by omega]
  · conv => whnf
    repeat (first | (refine LoadV.s rfl rfl (forceV_of ?_); conv => whnf) | (refine LoadV.s rfl rfl ?_; conv => whnf) | (refine StoreV.c rfl rfl (Nat.le_of_ble_eq_true rfl) rfl ?_; conv => whnf) | (refine LoadV.a _ rfl (Nat.le_of_ble_eq_true rfl) ?_; conv => whnf) | (refine DrawI.quiet (by kernel_rfl) (by kernel_rfl) ?_; conv => whnf) | (refine ArI.in64 (by omega) ?_; conv => whnf) | (refine ArI.inU8 (by omega) ?_; conv => whnf) | (refine ArI.inU64 (by omega) ?_; conv => whnf) | (refine ArI.inU32 (by omega) ?_; conv => whnf) | (refine RetI.one Try.results78 rfl ?_; conv => whnf) | (refine RetI.two Try.results78 rfl rfl ?_; conv => whnf) | (refine RetI.three Try.results78 rfl rfl rfl ?_; conv => whnf) | (refine RetI.none Try.results78 ?_; conv => whnf) | (refine ⟨by first | decide | omega, ?_⟩; conv => whnf))
    obtain rfl : left = 0 := by omega
    exact ⟨_, Sub.refl _, rfl, rfl⟩
/-- Is nothing left but noughts that fill a byte? -/
def doneB (T : List Bool) (n : Nat) : Bool := decide (T.length - n < 8 ∧ num (T.drop n) = 0)
theorem bDone_ok (F : Mem) (r n : Nat) (s : ByteArray) (hs : s.size ≤ 140737488355328) (hn : n ≤ 8 * s.size) :
    FT Try.prog 79 [.pointer (some ⟨r, 0, none⟩)].toArray F (rdH r n s) (fun e H => e = .returned (.bool (doneB (textBits (txt s)) n)) ∧ H = rdH r n s) := by
  refine FT.of_body Try.func79 rfl Try.ntmps79 (by simp) fun C hC => ?_
  subst hC
  conv => whnf
  have hT : (textBits (txt s)).length = 8 * s.size := by rw [textBits_length, txt_length]
  refine CallS.mk Try.call89 ⟨[_], _, _, Sub.split [0] rfl, fun F' hF' => bLeft_ok F' r n s hs hn, ?_⟩
  rintro e A' ⟨rfl, rfl⟩
  conv => whnf
  refine cond_dec (fun h1 => ?_) (fun h1 => ?_)
  · conv => whnf
    repeat (first | (refine LoadV.s rfl rfl (forceV_of ?_); conv => whnf) | (refine LoadV.s rfl rfl ?_; conv => whnf) | (refine StoreV.c rfl rfl (Nat.le_of_ble_eq_true rfl) rfl ?_; conv => whnf) | (refine LoadV.a _ rfl (Nat.le_of_ble_eq_true rfl) ?_; conv => whnf) | (refine DrawI.quiet (by kernel_rfl) (by kernel_rfl) ?_; conv => whnf) | (refine ArI.in64 (by omega) ?_; conv => whnf) | (refine ArI.inU8 (by omega) ?_; conv => whnf) | (refine ArI.inU64 (by omega) ?_; conv => whnf) | (refine ArI.inU32 (by omega) ?_; conv => whnf) | (refine RetI.one Try.results79 rfl ?_; conv => whnf) | (refine RetI.two Try.results79 rfl rfl ?_; conv => whnf) | (refine RetI.three Try.results79 rfl rfl rfl ?_; conv => whnf) | (refine RetI.none Try.results79 ?_; conv => whnf) | (refine ⟨by first | decide | omega, ?_⟩; conv => whnf))
    exact ⟨_, Sub.refl _, ret_bool (by unfold doneB; rw [decide_eq_false (by omega)]), rfl⟩
  conv => whnf
  repeat (first | (refine LoadV.s rfl rfl (forceV_of ?_); conv => whnf) | (refine LoadV.s rfl rfl ?_; conv => whnf) | (refine StoreV.c rfl rfl (Nat.le_of_ble_eq_true rfl) rfl ?_; conv => whnf) | (refine LoadV.a _ rfl (Nat.le_of_ble_eq_true rfl) ?_; conv => whnf) | (refine DrawI.quiet (by kernel_rfl) (by kernel_rfl) ?_; conv => whnf) | (refine ArI.in64 (by omega) ?_; conv => whnf) | (refine ArI.inU8 (by omega) ?_; conv => whnf) | (refine ArI.inU64 (by omega) ?_; conv => whnf) | (refine ArI.inU32 (by omega) ?_; conv => whnf) | (refine RetI.one Try.results79 rfl ?_; conv => whnf) | (refine RetI.two Try.results79 rfl rfl ?_; conv => whnf) | (refine RetI.three Try.results79 rfl rfl rfl ?_; conv => whnf) | (refine RetI.none Try.results79 ?_; conv => whnf) | (refine ⟨by first | decide | omega, ?_⟩; conv => whnf))
  refine cond_split (fun h2 => ?_) (fun h2 => ?_)
  · have h2 : 8 * (s.size : Int) - n = 0 := of_decide_eq_true h2
    conv => whnf
    repeat (first | (refine LoadV.s rfl rfl (forceV_of ?_); conv => whnf) | (refine LoadV.s rfl rfl ?_; conv => whnf) | (refine StoreV.c rfl rfl (Nat.le_of_ble_eq_true rfl) rfl ?_; conv => whnf) | (refine LoadV.a _ rfl (Nat.le_of_ble_eq_true rfl) ?_; conv => whnf) | (refine DrawI.quiet (by kernel_rfl) (by kernel_rfl) ?_; conv => whnf) | (refine ArI.in64 (by omega) ?_; conv => whnf) | (refine ArI.inU8 (by omega) ?_; conv => whnf) | (refine ArI.inU64 (by omega) ?_; conv => whnf) | (refine ArI.inU32 (by omega) ?_; conv => whnf) | (refine RetI.one Try.results79 rfl ?_; conv => whnf) | (refine RetI.two Try.results79 rfl rfl ?_; conv => whnf) | (refine RetI.three Try.results79 rfl rfl rfl ?_; conv => whnf) | (refine RetI.none Try.results79 ?_; conv => whnf) | (refine ⟨by first | decide | omega, ?_⟩; conv => whnf))
    have hd : (textBits (txt s)).drop n = [] := List.drop_of_length_le (by omega)
    exact ⟨_, Sub.refl _, ret_bool (by unfold doneB; rw [hd, decide_eq_true ⟨by omega, rfl⟩]), rfl⟩
  · have h2 : ¬ 8 * (s.size : Int) - n = 0 := of_decide_eq_false h2
    obtain ⟨L, hL⟩ : ∃ L, 8 * s.size - n = L := ⟨_, rfl⟩
    have hLi : 8 * (s.size : Int) - n = (L : Int) := by omega
    have hi : s.size - 1 < (txt s).length := by rw [txt_length]; omega
    conv => whnf
    rw [hLi]
    repeat (first | (refine LoadV.s rfl rfl (forceV_of ?_); conv => whnf) | (refine LoadV.s rfl rfl ?_; conv => whnf) | (refine StoreV.c rfl rfl (Nat.le_of_ble_eq_true rfl) rfl ?_; conv => whnf) | (refine LoadV.a _ rfl (Nat.le_of_ble_eq_true rfl) ?_; conv => whnf) | (refine DrawI.quiet (by kernel_rfl) (by kernel_rfl) ?_; conv => whnf) | (refine RetI.one Try.results79 rfl ?_; conv => whnf) | (refine RetI.two Try.results79 rfl rfl ?_; conv => whnf) | (refine RetI.three Try.results79 rfl rfl rfl ?_; conv => whnf) | (refine RetI.none Try.results79 ?_; conv => whnf) | (refine ⟨by first | decide | omega, ?_⟩; conv => whnf))
    refine ArI.to64 ((s.size - 1 : Nat) : Int) (by omega) (by omega) ?_
    conv => whnf
    repeat (first | (refine LoadV.s rfl rfl (forceV_of ?_); conv => whnf) | (refine LoadV.s rfl rfl ?_; conv => whnf) | (refine StoreV.c rfl rfl (Nat.le_of_ble_eq_true rfl) rfl ?_; conv => whnf) | (refine LoadV.a _ rfl (Nat.le_of_ble_eq_true rfl) ?_; conv => whnf) | (refine DrawI.quiet (by kernel_rfl) (by kernel_rfl) ?_; conv => whnf) | (refine ArI.in64 (by omega) ?_; conv => whnf) | (refine ArI.inU8 (by omega) ?_; conv => whnf) | (refine ArI.inU64 (by omega) ?_; conv => whnf) | (refine ArI.inU32 (by omega) ?_; conv => whnf) | (refine RetI.one Try.results79 rfl ?_; conv => whnf) | (refine RetI.two Try.results79 rfl rfl ?_; conv => whnf) | (refine RetI.three Try.results79 rfl rfl rfl ?_; conv => whnf) | (refine RetI.none Try.results79 ?_; conv => whnf) | (refine ⟨by first | decide | omega, ?_⟩; conv => whnf))
    rw [byteAt_txt s (s.size - 1) hi]
    refine ArI.mk _ (u8_ones L (by omega)) ?_
    conv => whnf
    have hx := txt_lt s _ (List.getElem_mem hi)
    rw [u8_mask _ L hx (by omega)]
    repeat (first | (refine LoadV.s rfl rfl (forceV_of ?_); conv => whnf) | (refine LoadV.s rfl rfl ?_; conv => whnf) | (refine StoreV.c rfl rfl (Nat.le_of_ble_eq_true rfl) rfl ?_; conv => whnf) | (refine LoadV.a _ rfl (Nat.le_of_ble_eq_true rfl) ?_; conv => whnf) | (refine DrawI.quiet (by kernel_rfl) (by kernel_rfl) ?_; conv => whnf) | (refine ArI.in64 (by omega) ?_; conv => whnf) | (refine ArI.inU8 (by omega) ?_; conv => whnf) | (refine ArI.inU64 (by omega) ?_; conv => whnf) | (refine ArI.inU32 (by omega) ?_; conv => whnf) | (refine RetI.one Try.results79 rfl ?_; conv => whnf) | (refine RetI.two Try.results79 rfl rfl ?_; conv => whnf) | (refine RetI.three Try.results79 rfl rfl rfl ?_; conv => whnf) | (refine RetI.none Try.results79 ?_; conv => whnf) | (refine ⟨by first | decide | omega, ?_⟩; conv => whnf))
    have hpart := textBits_part (txt s) n L (by rw [txt_length]; omega) (by omega)
    have hdrop : ((textBits (txt s)).drop n).take L = (textBits (txt s)).drop n := List.take_of_length_le (by rw [List.length_drop]; omega)
    rw [hdrop, show 8 - n % 8 - L = 0 by omega] at hpart
    have hidx : (txt s)[n / 8]'(by rw [txt_length]; omega) = (txt s)[s.size - 1] := by congr 1; omega
    rw [hidx, Nat.pow_zero, Nat.div_one] at hpart
    refine ⟨_, Sub.refl _, ret_bool ?_, rfl⟩
    unfold doneB
    rw [hpart, num_bitsOf, hT, hL]
    show ((((txt s)[s.size - 1] % 2 ^ L : Nat) : Int) == 0) = _
    by_cases h0 : (txt s)[s.size - 1] % 2 ^ L = 0
    · rw [decide_eq_true ⟨by omega, h0⟩, h0]; rfl
    · rw [decide_eq_false (fun h => h0 h.2), beq_eq_false_iff_ne]
      exact fun e => h0 (by exact_mod_cast e)
end Go.Proofs.Ytgodkfaacjllcaa

/- The bits: packing and unpacking. -/
namespace Go.Proofs.Ytgodkfaacjllcaa
set_option linter.unusedVariables false
set_option linter.unusedSimpArgs false
set_option maxRecDepth 100000
open SL Go.RowKit Go.Maps

/-- A field's cells. -/
def fldF (p : Nat × Int) : List Value := [.int .u64 (p.1 : Int), .int .i64 p.2]
theorem fldF_length (p : Nat × Int) : (fldF p).length = 2 := rfl
def allFit (fs : List (Nat × Int)) : Bool := fs.all fun p => fitsB p.1 p.2
def fieldsBits (fs : List (Nat × Int)) : List Bool := fs.flatMap fun p => bitsOf p.2.toNat p.1
theorem fitsB_width {V : Nat} {w : Int} (h : fitsB V w = true) : 1 ≤ w ∧ w ≤ 64 ∧ V < 2 ^ w.toNat := of_decide_eq_true h
theorem fieldsBits_length {fs : List (Nat × Int)} (h : allFit fs = true) : (fieldsBits fs).length ≤ 64 * fs.length := by
  induction fs with
  | nil => simp [fieldsBits]
  | cons p fs ih =>
    simp only [allFit, List.all_cons, Bool.and_eq_true] at h
    have h1 := fitsB_width h.1
    have h2 := ih h.2
    simp only [fieldsBits, List.flatMap_cons, List.length_append, bitsOf_length, List.length_cons] at h2 ⊢
    omega
theorem fieldsBits_snoc (fs : List (Nat × Int)) (p : Nat × Int) : fieldsBits (fs ++ [p]) = fieldsBits fs ++ bitsOf p.2.toNat p.1 := by simp [fieldsBits]
theorem allFit_snoc (fs : List (Nat × Int)) (p : Nat × Int) : allFit (fs ++ [p]) = (allFit fs && fitsB p.1 p.2) := by simp [allFit]
theorem allFit_take {fs : List (Nat × Int)} (h : allFit fs = true) (i : Nat) : allFit (fs.take i) = true := by
  unfold allFit at *
  rw [List.all_eq_true] at *
  exact fun x hx => h x (List.mem_of_mem_take hx)
theorem allFit_false {fs : List (Nat × Int)} {i : Nat} (hi : i < fs.length) (h : fitsB (fs[i]).1 (fs[i]).2 = false) : allFit fs = false := by
  unfold allFit
  rw [List.all_eq_false]
  exact ⟨fs[i], List.getElem_mem hi, by simp [h]⟩
/-- Fields whose values are of 64 bits. -/
def U64s (fs : List (Nat × Int)) : Prop := ∀ p ∈ fs, p.1 < 18446744073709551616
def packR (fs : List (Nat × Int)) : ByteArray × Int := if allFit fs = true then (strB (packB (fieldsBits fs)), 0) else (⟨#[]⟩, 6)
theorem bPack_ok (F : Mem) (oa : Option Addr) (ca : Nat) (fs : List (Nat × Int)) (hw : SlF F 2 oa fs.length (fs.flatMap fldF)) (hu : U64s fs) (hn : fs.length ≤ 549755813887) :
    FT Try.prog 59 [.slice oa fs.length ca].toArray F [] (Ret (.tuple #[.string (packR fs).1, .int .i64 (packR fs).2])) := by
  refine FT.of_body Try.func59 rfl Try.ntmps59 (by simp) fun C hC => ?_
  subst hC
  conv => whnf
  refine CallS.mk Try.call68 ⟨[], _, _, Sub.refl _, fun F' hF' => bNew_ok F', ?_⟩
  rintro e A' ⟨w, rfl, rfl⟩
  conv => whnf
  refine LoopI.by_state (σ := Nat × Option (Nat × Nat)) (fun x => [(4, .pointer (some ⟨w, 0, none⟩)), (9, .slice oa fs.length ca), (10, .int .i64 (fs.length : Int)), (11, .int .i64 (x.1 : Int))]) (fun x => wrH w ((fieldsBits (fs.take x.1)).length : Nat) x.2 (packB (fieldsBits (fs.take x.1))))
    (fun x => x.1 ≤ fs.length ∧ allFit (fs.take x.1) = true ∧ (x.2 = none ↔ fieldsBits (fs.take x.1) = [])) (fun x => fs.length - x.1) (0, none) ⟨by omega, rfl, by simp [fieldsBits]⟩ ⟨rfl, rfl, rfl, rfl, trivial⟩ (by simp only [List.take_zero]; exact Sub.refl _) ?_
  rintro ⟨i, g⟩ f0 ⟨hi, hfit, hg⟩
  dsimp only at hi hfit hg ⊢
  conv => whnf
  refine cond_dec (fun h => ?_) (fun h => ?_)
  · have hil : i < fs.length := by omega
    obtain ⟨xa, ya, rfl, hra⟩ := hw.at (i := i) hil
    conv => whnf
    refine ⟨by omega, ?_⟩
    conv => whnf
    refine LoadV.fa (cs := fldF fs[i]) (flat_row fldF_length hra hil rfl) rfl ?_
    have hp64 := hu _ (List.getElem_mem hil)
    have hbad := allFit_false hil
    have htk := take_snoc hil
    have hbl := fieldsBits_length hfit
    rw [List.length_take] at hbl
    obtain ⟨p, hp⟩ : ∃ p, fs[i] = p := ⟨_, rfl⟩
    rw [hp] at hp64 hbad htk ⊢
    conv => whnf
    intro b
    conv => whnf
    repeat (first | (refine LoadV.s rfl rfl (forceV_of ?_); conv => whnf) | (refine LoadV.s rfl rfl ?_; conv => whnf) | (refine StoreV.c rfl rfl (Nat.le_of_ble_eq_true rfl) rfl ?_; conv => whnf) | (refine LoadV.a _ rfl (Nat.le_of_ble_eq_true rfl) ?_; conv => whnf) | (refine DrawI.quiet (by kernel_rfl) (by kernel_rfl) ?_; conv => whnf) | (refine ArI.in64 (by omega) ?_; conv => whnf) | (refine ArI.inU8 (by omega) ?_; conv => whnf) | (refine ArI.inU64 (by omega) ?_; conv => whnf) | (refine ArI.inU32 (by omega) ?_; conv => whnf) | (refine RetI.one Try.results59 rfl ?_; conv => whnf) | (refine RetI.two Try.results59 rfl rfl ?_; conv => whnf) | (refine RetI.three Try.results59 rfl rfl rfl ?_; conv => whnf) | (refine RetI.none Try.results59 ?_; conv => whnf) | (refine ⟨by first | decide | omega, ?_⟩; conv => whnf))
    refine CallS.mk Try.call69 ⟨[_, _], _, _, Sub.split [1, 2] rfl, fun F' hF' => bPut_ok F' w (fieldsBits (fs.take i)) g hg p.1 p.2 hp64 (by omega), ?_⟩
    rintro e A' (⟨hf, rfl, rfl⟩ | ⟨hf, rfl, g', hg', rfl⟩)
    · conv => whnf
      repeat (first | (refine LoadV.s rfl rfl (forceV_of ?_); conv => whnf) | (refine LoadV.s rfl rfl ?_; conv => whnf) | (refine StoreV.c rfl rfl (Nat.le_of_ble_eq_true rfl) rfl ?_; conv => whnf) | (refine LoadV.a _ rfl (Nat.le_of_ble_eq_true rfl) ?_; conv => whnf) | (refine DrawI.quiet (by kernel_rfl) (by kernel_rfl) ?_; conv => whnf) | (refine ArI.in64 (by omega) ?_; conv => whnf) | (refine ArI.inU8 (by omega) ?_; conv => whnf) | (refine ArI.inU64 (by omega) ?_; conv => whnf) | (refine ArI.inU32 (by omega) ?_; conv => whnf) | (refine RetI.one Try.results59 rfl ?_; conv => whnf) | (refine RetI.two Try.results59 rfl rfl ?_; conv => whnf) | (refine RetI.three Try.results59 rfl rfl rfl ?_; conv => whnf) | (refine RetI.none Try.results59 ?_; conv => whnf) | (refine ⟨by first | decide | omega, ?_⟩; conv => whnf))
      exact ⟨_, Sub.sel [] rfl, by unfold packR; rw [if_neg (by rw [hbad hf]; simp)], rfl⟩
    · conv => whnf
      refine ArI.to64 ((i + 1 : Nat) : Int) (by omega) (by omega) ?_
      conv => whnf
      have hbits : fieldsBits (fs.take (i + 1)) = fieldsBits (fs.take i) ++ bitsOf p.2.toNat p.1 := by rw [htk, fieldsBits_snoc]
      refine ⟨(i + 1, g'), _, by dsimp only; omega, Sub.sel [0, 1] rfl, ⟨by dsimp only; omega, by dsimp only; rw [htk, allFit_snoc, hfit, hf]; rfl, by dsimp only; rw [hbits]; exact hg'⟩, ⟨rfl, rfl, rfl, rfl, trivial⟩, ?_⟩
      dsimp only
      rw [hbits]
  · have hie : i = fs.length := by omega
    subst hie
    rw [List.take_length] at hfit hg ⊢
    conv => whnf
    refine CallS.mk Try.call70 ⟨[_, _], _, _, Sub.split [0, 1] rfl, fun F' hF' => bBytes_ok F' w _ g _ (fun e => by rw [hg.1 e]; rfl), ?_⟩
    rintro e A' ⟨rfl, rfl⟩
    conv => whnf
    repeat (first | (refine LoadV.s rfl rfl (forceV_of ?_); conv => whnf) | (refine LoadV.s rfl rfl ?_; conv => whnf) | (refine StoreV.c rfl rfl (Nat.le_of_ble_eq_true rfl) rfl ?_; conv => whnf) | (refine LoadV.a _ rfl (Nat.le_of_ble_eq_true rfl) ?_; conv => whnf) | (refine DrawI.quiet (by kernel_rfl) (by kernel_rfl) ?_; conv => whnf) | (refine ArI.in64 (by omega) ?_; conv => whnf) | (refine ArI.inU8 (by omega) ?_; conv => whnf) | (refine ArI.inU64 (by omega) ?_; conv => whnf) | (refine ArI.inU32 (by omega) ?_; conv => whnf) | (refine RetI.one Try.results59 rfl ?_; conv => whnf) | (refine RetI.two Try.results59 rfl rfl ?_; conv => whnf) | (refine RetI.three Try.results59 rfl rfl rfl ?_; conv => whnf) | (refine RetI.none Try.results59 ?_; conv => whnf) | (refine ⟨by first | decide | omega, ?_⟩; conv => whnf))
    exact ⟨_, Sub.sel [] rfl, by unfold packR; rw [if_pos hfit], rfl⟩
/-- Taking by taking: the numbers, and where the reader stands behind. -/
def takeOk (T : List Bool) (n : Nat) (w : Int) : Prop := 1 ≤ w ∧ w ≤ 64 ∧ w.toNat ≤ T.length - n
instance (T : List Bool) (n : Nat) (w : Int) : Decidable (takeOk T n w) := by unfold takeOk; infer_instance
def takeAll (T : List Bool) : Nat → List Int → Option (List Nat × Nat)
  | n, [] => some ([], n)
  | n, w :: ws => if takeOk T n w then (takeAll T (n + w.toNat) ws).map fun p => (num ((T.drop n).take w.toNat) :: p.1, p.2) else none
theorem takeAll_append (T : List Bool) (v : List Int) : ∀ (ws : List Int) (n : Nat), takeAll T n (ws ++ v) = (takeAll T n ws).bind fun p => (takeAll T p.2 v).map fun q => (p.1 ++ q.1, q.2)
  | [], n => by
    simp only [List.nil_append, takeAll, Option.bind_some]
    cases takeAll T n v <;> rfl
  | w :: ws, n => by
    simp only [List.cons_append, takeAll]
    split
    · rw [takeAll_append T v ws (n + w.toNat)]
      cases takeAll T (n + w.toNat) ws with
      | none => rfl
      | some p =>
        simp only [Option.bind_some, Option.map_some]
        cases takeAll T p.2 v <;> simp
    · rfl
theorem takeAll_le {T : List Bool} : ∀ {ws : List Int} {n : Nat} {l : List Nat} {m : Nat}, n ≤ T.length → takeAll T n ws = some (l, m) → m ≤ T.length ∧ l.length = ws.length ∧ n + ws.length ≤ m
  | [], n, l, m, hn, h => by simp only [takeAll, Option.some.injEq, Prod.mk.injEq] at h; obtain ⟨rfl, rfl⟩ := h; exact ⟨hn, rfl, by simp⟩
  | w :: ws, n, l, m, hn, h => by
    simp only [takeAll] at h
    split at h
    · rename_i hok
      obtain ⟨p, hp, he⟩ := Option.map_eq_some_iff.1 h
      simp only [Prod.mk.injEq] at he
      obtain ⟨rfl, rfl⟩ := he
      unfold takeOk at hok
      have ⟨h1, h2, h3⟩ := takeAll_le (by omega) (show takeAll T (n + w.toNat) ws = some (p.1, p.2) from hp)
      exact ⟨h1, by simp [h2], by simp only [List.length_cons]; omega⟩
    · cases h
def unpackB (T : List Bool) (ws : List Int) : Option (List Nat) := match takeAll T 0 ws with
  | some (l, n) => if doneB T n = true then some l else none
  | none => none
theorem takeB_ok {T : List Bool} {n : Nat} {w : Int} (h : takeOk T n w) : takeB T n w = (num ((T.drop n).take w.toNat), 0, n + w.toNat) := by unfold takeB; exact if_pos h
theorem takeB_no {T : List Bool} {n : Nat} {w : Int} (h : ¬ takeOk T n w) : takeB T n w = (0, 6, n) := by unfold takeB; exact if_neg h
abbrev u64V (l : List Nat) : List Value := l.map fun (x : Nat) => Value.int .u64 (x : Int)
/-- What unpacking answers. -/
def unpackR (o : Option (List Nat)) : List Nat × Int := match o with | some l => (l, 0) | none => ([], 6)
theorem unpackR_le {T : List Bool} {ws : List Int} : (unpackR (unpackB T ws)).1.length ≤ ws.length := by
  unfold unpackB
  cases h : takeAll T 0 ws with
  | none => simp [unpackR]
  | some p =>
    obtain ⟨_, h2, _⟩ := takeAll_le (Nat.zero_le _) (show takeAll T 0 ws = some (p.1, p.2) from h)
    dsimp only
    split
    · simp [unpackR, h2]
    · simp [unpackR]
theorem bUnpack_ok (F : Mem) (oa : Option Addr) (ca : Nat) (s : ByteArray) (ws : List Int) (hw : SlF F 1 oa ws.length (intsV ws)) (hs : s.size ≤ 140737488355328) (hn : ws.length ≤ 1099511627776) :
    FT Try.prog 65 [.string s, .slice oa ws.length ca].toArray F []
    (fun e H => ∃ g, (g = none ↔ (unpackR (unpackB (textBits (txt s)) ws)).1 = []) ∧ e = .returned (.tuple #[svOf g (unpackR (unpackB (textBits (txt s)) ws)).1.length, .int .i64 (unpackR (unpackB (textBits (txt s)) ws)).2]) ∧
      H = [.own (svOf g (unpackR (unpackB (textBits (txt s)) ws)).1.length) (unpackR (unpackB (textBits (txt s)) ws)).1.length 110 1 (u64V (unpackR (unpackB (textBits (txt s)) ws)).1)]) := by
  refine FT.of_body Try.func65 rfl Try.ntmps65 (by simp) fun C hC => ?_
  subst hC
  conv => whnf
  have hT : (textBits (txt s)).length = 8 * s.size := by rw [textBits_length, txt_length]
  refine CallS.mk Try.call77 ⟨[], _, _, Sub.refl _, fun F' hF' => bRead_ok F' s, ?_⟩
  rintro e A' ⟨r, rfl, rfl⟩
  conv => whnf
  refine LoopI.by_state (σ := Nat × Nat × List Nat × Option (Nat × Nat)) (fun x => [(6, .pointer (some ⟨r, 0, none⟩)), (7, svOf x.2.2.2 x.2.2.1.length), (14, .slice oa ws.length ca), (15, .int .i64 (ws.length : Int)), (16, .int .i64 (x.1 : Int))])
    (fun x => [.cells r [.int .i64 (x.2.1 : Int), .string s] 153 (0, 0), .own (svOf x.2.2.2 x.2.2.1.length) x.2.2.1.length 110 1 (u64V x.2.2.1)])
    (fun x => x.1 ≤ ws.length ∧ takeAll (textBits (txt s)) 0 (ws.take x.1) = some (x.2.2.1, x.2.1) ∧ (x.2.2.2 = none ↔ x.2.2.1 = [])) (fun x => ws.length - x.1) (0, 0, [], none) ⟨by omega, rfl, by simp⟩ ⟨rfl, rfl, rfl, rfl, rfl, trivial⟩ (Sub.trans (Sub.nil 110 1) (Sub.sel [1, 0] rfl)) ?_
  rintro ⟨i, n, l, g⟩ f0 ⟨hi, hta, hg⟩
  dsimp only at hi hta hg ⊢
  obtain ⟨hn8, hll, -⟩ := takeAll_le (Nat.zero_le _) hta
  rw [List.length_take] at hll
  conv => whnf
  refine cond_dec (fun h => ?_) (fun h => ?_)
  · have hil : i < ws.length := by omega
    obtain ⟨xa, ya, rfl, hra⟩ := hw.at (i := i) hil
    conv => whnf
    refine ⟨by omega, ?_⟩
    conv => whnf
    refine LoadV.f (hra i (.int .i64 ws[i]) (by simp [intsV])) rfl ?_
    have htk := take_snoc hil
    obtain ⟨p, hp⟩ : ∃ p, ws[i] = p := ⟨_, rfl⟩
    rw [hp] at htk ⊢
    have hsplit : ws = ws.take i ++ (p :: ws.drop (i + 1)) := by
      rw [← hp, List.getElem_cons_drop, List.take_append_drop]
    conv => whnf
    refine CallS.mk Try.call78 ⟨[_], _, _, Sub.split [0] rfl, fun F' hF' => bTake_ok F' r n s p hs (by omega), ?_⟩
    rintro e A' ⟨rfl, rfl⟩
    by_cases hok : takeOk (textBits (txt s)) n p
    · rw [takeB_ok hok]
      conv => whnf
      intro b
      conv => whnf
      refine BuiltV.append (sv := svOf g l.length) (m := 1) Try.underlying119 rfl rfl rfl rfl (by decide) (Row.cells 1) rfl (by decide) rfl (by show (l.length + 1) * 8 ≤ _; omega) (by omega) fun gb gc => ?_
      conv => whnf
      refine ArI.to64 ((i + 1 : Nat) : Int) (by omega) (by omega) ?_
      conv => whnf
      refine ⟨(i + 1, n + p.toNat, l ++ [num (((textBits (txt s)).drop n).take p.toNat)], some (gb, gc)), _, by dsimp only; omega, Sub.sel [1, 2] rfl, ⟨by dsimp only; omega, ?_, by simp⟩, ⟨rfl, ?_, rfl, rfl, rfl, trivial⟩, ?_⟩
      · dsimp only
        rw [htk, takeAll_append, hta]
        simp only [Option.bind_some, takeAll, if_pos hok, Option.map_some]
      · dsimp only
        rw [List.length_append]; rfl
      · dsimp only
        rw [own_snoc]; rfl
    · rw [takeB_no hok]
      conv => whnf
      repeat (first | (refine LoadV.s rfl rfl (forceV_of ?_); conv => whnf) | (refine LoadV.s rfl rfl ?_; conv => whnf) | (refine StoreV.c rfl rfl (Nat.le_of_ble_eq_true rfl) rfl ?_; conv => whnf) | (refine LoadV.a _ rfl (Nat.le_of_ble_eq_true rfl) ?_; conv => whnf) | (refine DrawI.quiet (by kernel_rfl) (by kernel_rfl) ?_; conv => whnf) | (refine ArI.in64 (by omega) ?_; conv => whnf) | (refine ArI.inU8 (by omega) ?_; conv => whnf) | (refine ArI.inU64 (by omega) ?_; conv => whnf) | (refine ArI.inU32 (by omega) ?_; conv => whnf) | (refine RetI.one Try.results65 rfl ?_; conv => whnf) | (refine RetI.two Try.results65 rfl rfl ?_; conv => whnf) | (refine RetI.three Try.results65 rfl rfl rfl ?_; conv => whnf) | (refine RetI.none Try.results65 ?_; conv => whnf) | (refine ⟨by first | decide | omega, ?_⟩; conv => whnf))
      have hnone : unpackB (textBits (txt s)) ws = none := by
        unfold unpackB
        rw [hsplit, takeAll_append, hta]
        simp only [Option.bind_some, takeAll, if_neg hok, Option.map_none]
      rw [hnone]
      exact ⟨_, Sub.trans (Sub.nil 110 1) (Sub.sel [0] rfl), none, by simp [unpackR], rfl, rfl⟩
  · have hie : i = ws.length := by omega
    subst hie
    rw [List.take_length] at hta
    conv => whnf
    refine CallS.mk Try.call79 ⟨[_], _, _, Sub.split [0] rfl, fun F' hF' => bDone_ok F' r n s hs (by omega), ?_⟩
    rintro e A' ⟨rfl, rfl⟩
    cases hd : doneB (textBits (txt s)) n with
    | true =>
      conv => whnf
      have hsome : unpackB (textBits (txt s)) ws = some l := by unfold unpackB; rw [hta]; simp only [hd, if_true]
      rw [hsome]
      refine RetI.two Try.results65 rfl rfl ?_
      conv => whnf
      exact ⟨_, Sub.sel [1] rfl, g, hg, rfl, rfl⟩
    | false =>
      conv => whnf
      repeat (first | (refine LoadV.s rfl rfl (forceV_of ?_); conv => whnf) | (refine LoadV.s rfl rfl ?_; conv => whnf) | (refine StoreV.c rfl rfl (Nat.le_of_ble_eq_true rfl) rfl ?_; conv => whnf) | (refine LoadV.a _ rfl (Nat.le_of_ble_eq_true rfl) ?_; conv => whnf) | (refine DrawI.quiet (by kernel_rfl) (by kernel_rfl) ?_; conv => whnf) | (refine ArI.in64 (by omega) ?_; conv => whnf) | (refine ArI.inU8 (by omega) ?_; conv => whnf) | (refine ArI.inU64 (by omega) ?_; conv => whnf) | (refine ArI.inU32 (by omega) ?_; conv => whnf) | (refine RetI.one Try.results65 rfl ?_; conv => whnf) | (refine RetI.two Try.results65 rfl rfl ?_; conv => whnf) | (refine RetI.three Try.results65 rfl rfl rfl ?_; conv => whnf) | (refine RetI.none Try.results65 ?_; conv => whnf) | (refine ⟨by first | decide | omega, ?_⟩; conv => whnf))
      have hnone : unpackB (textBits (txt s)) ws = none := by unfold unpackB; rw [hta]; simp only [hd]; rfl
      rw [hnone]
      exact ⟨_, Sub.trans (Sub.nil 110 1) (Sub.sel [0] rfl), none, by simp [unpackR], rfl, rfl⟩
end Go.Proofs.Ytgodkfaacjllcaa

/- The sum: a byte taken, a text taken. -/
namespace Go.Proofs.Ytgodkfaacjllcaa
set_option linter.unusedVariables false
set_option linter.unusedSimpArgs false
set_option maxRecDepth 100000
open SL Go.RowKit Go.Maps

theorem stepN_succ (n r : Nat) : stepN (n + 1) r = step1 (stepN n r) := by rw [stepN_add n 1]; rfl
theorem take_bit (x : Nat) (hx : x < 4294967296) : bits .xor .u32 ((x / 2 ^ 1 : Nat) : Int) (bits .and .u32 3988292384 (IntKind.u32.wrap (0 - ((x &&& 1 : Nat) : Int)))) = (step1 x : Nat) := by
  have e : bits .and .u32 3988292384 (IntKind.u32.wrap (0 - ((x &&& 1 : Nat) : Int))) = ((if x % 2 = 1 then 3988292384 else 0 : Nat) : Int) := by
    rw [Nat.and_one_is_mod]
    rcases Nat.mod_two_eq_zero_or_one x with h | h <;> rw [h] <;> decide +kernel
  have hb : (if x % 2 = 1 then 3988292384 else 0 : Nat) < 4294967296 := by split <;> decide
  rw [e, u32_xor_nat _ _ (by omega) hb]; rfl
theorem take_ok (F : Mem) (r b : Nat) (hr : r < 4294967296) (hb : b < 256) : FT Try.prog 88 [.int .u32 (r : Int), .int .u8 (b : Int)].toArray F [] (Ret (.int .u32 (stepN 8 (r ^^^ b) : Nat))) := by
  refine FT.of_body Try.func88 rfl Try.ntmps88 (by simp) fun C hC => ?_
  subst hC
  conv => whnf
  refine ArI.inU32 (by omega) ?_
  conv => whnf
  rw [u32_xor_nat r b hr (by omega)]
  have hx : r ^^^ b < 4294967296 := Nat.xor_lt_two_pow (n := 32) hr (by omega)
  generalize r ^^^ b = x at hx ⊢
  conv => whnf
  refine LoopI.by_state (σ := Nat) (fun i => [(0, .int .u32 (stepN i x : Nat)), (9, .int .i64 (i : Int))]) (fun _ => []) (fun i => i ≤ 8) (fun i => 8 - i) 0 (by simp) ⟨rfl, rfl, trivial⟩ (Sub.refl _) ?_
  rintro i f0 hi
  have hs := stepN_lt i x hx
  conv => whnf
  refine cond_dec (fun h => ?_) (fun h => ?_)
  · conv => whnf
    refine ⟨by decide, ?_⟩
    conv => whnf
    rw [show (1 : Int) = ((1 : Nat) : Int) from rfl, shr_le (by decide), u32_and_nat _ 1 hs (by decide)]
    conv => whnf
    rw [take_bit _ hs, ← stepN_succ]
    refine ArI.to64 ((i + 1 : Nat) : Int) (by omega) (by omega) ?_
    conv => whnf
    exact ⟨i + 1, _, by omega, Sub.refl _, by omega, ⟨rfl, rfl, trivial⟩, rfl⟩
  · obtain rfl : i = 8 := by omega
    conv => whnf
    repeat (first | (refine LoadV.s rfl rfl (forceV_of ?_); conv => whnf) | (refine LoadV.s rfl rfl ?_; conv => whnf) | (refine StoreV.c rfl rfl (Nat.le_of_ble_eq_true rfl) rfl ?_; conv => whnf) | (refine LoadV.a _ rfl (Nat.le_of_ble_eq_true rfl) ?_; conv => whnf) | (refine DrawI.quiet (by kernel_rfl) (by kernel_rfl) ?_; conv => whnf) | (refine ArI.in64 (by omega) ?_; conv => whnf) | (refine ArI.inU8 (by omega) ?_; conv => whnf) | (refine ArI.inU64 (by omega) ?_; conv => whnf) | (refine ArI.inU32 (by omega) ?_; conv => whnf) | (refine RetI.one Try.results88 rfl ?_; conv => whnf) | (refine RetI.two Try.results88 rfl rfl ?_; conv => whnf) | (refine RetI.three Try.results88 rfl rfl rfl ?_; conv => whnf) | (refine RetI.none Try.results88 ?_; conv => whnf) | (refine ⟨by first | decide | omega, ?_⟩; conv => whnf))
    exact ⟨_, Sub.refl _, rfl, rfl⟩
def extN (n : Nat) (l : List Nat) : Nat := 4294967295 - crc (4294967295 - n) l
theorem ones_xor (n : Nat) (h : n < 4294967296) : 4294967295 ^^^ n = 4294967295 - n := by
  have e : 4294967295 - n = 2 ^ 32 - (n + 1) := by omega
  rw [e]
  apply Nat.eq_of_testBit_eq
  intro i
  rw [Nat.testBit_two_pow_sub_succ h, Nat.testBit_xor, show (4294967295 : Nat) = 2 ^ 32 - 1 from rfl, Nat.testBit_two_pow_sub_one]
  by_cases hi : i < 32
  · simp [hi]
  · have : n.testBit i = false := Nat.testBit_lt_two_pow (Nat.lt_of_lt_of_le h (Nat.pow_le_pow_right (n := 2) (by decide) (show 32 ≤ i by omega)))
    simp [hi, this]
theorem not_u32 (n : Nat) (h : n < 4294967296) : IntKind.u32.wrap ((BitVec.ofInt IntKind.u32.bits (if IntKind.u32.signed = true then -1 else IntKind.u32.max) ^^^ BitVec.ofInt IntKind.u32.bits (n : Int)).toNat : Nat) = ((4294967295 - n : Nat) : Int) := by
  have : bits .xor .u32 ((4294967295 : Nat) : Int) (n : Int) = ((4294967295 - n : Nat) : Int) := by rw [u32_xor_nat _ _ (by decide) h, ones_xor n h]
  exact this
theorem crc_snoc (r : Nat) (l : List Nat) (i : Nat) (h : i < l.length) : crc r (l.take (i + 1)) = stepN 8 (crc r (l.take i) ^^^ l[i]) := by
  rw [← List.take_append_getElem h, crc_append]; rfl
theorem ext_ok (F : Mem) (n : Nat) (s : ByteArray) (hn : n < 4294967296) (hs : s.size ≤ 9223372036854775807) : FT Try.prog 75 [.int .u32 (n : Int), .string s].toArray F [] (Ret (.int .u32 (extN n (txt s) : Nat))) := by
  refine FT.of_body Try.func75 rfl Try.ntmps75 (by simp) fun C hC => ?_
  subst hC
  conv => whnf
  have hl := txt_length s
  have hr0 : 4294967295 - n < 4294967296 := by omega
  refine LoopI.by_state (σ := Nat) (fun i => [(1, .string s), (5, .int .u32 (crc (4294967295 - n) ((txt s).take i) : Nat)), (10, .int .i64 (s.size : Int)), (11, .int .i64 (i : Int))]) (fun _ => []) (fun i => i ≤ s.size) (fun i => s.size - i) 0 (by simp) ⟨rfl, ?_, rfl, rfl, trivial⟩ (Sub.refl _) ?_
  · show Value.int .u32 (IntKind.u32.wrap ((BitVec.ofInt IntKind.u32.bits (if IntKind.u32.signed = true then -1 else IntKind.u32.max) ^^^ BitVec.ofInt IntKind.u32.bits (n : Int)).toNat : Nat)) = _
    rw [not_u32 n hn]; rfl
  rintro i f0 hi
  have hc : crc (4294967295 - n) ((txt s).take i) < 2 ^ 32 := crc_lt _ _ (fun b hb => txt_lt s b (List.mem_of_mem_take hb)) hr0
  conv => whnf
  refine cond_dec (fun h => ?_) (fun h => ?_)
  · have hil : i < (txt s).length := by omega
    conv => whnf
    refine ⟨by omega, ?_⟩
    conv => whnf
    rw [byteAt_txt s i hil]
    have hb : (txt s)[i] < 256 := txt_lt s _ (List.getElem_mem hil)
    refine CallS.mk Try.call88 ⟨[], _, _, Sub.refl _, fun F' hF' => take_ok F' _ _ hc hb, ?_⟩
    rintro e A' ⟨rfl, rfl⟩
    rw [← crc_snoc _ _ _ hil]
    conv => whnf
    refine ArI.to64 ((i + 1 : Nat) : Int) (by omega) (by omega) ?_
    conv => whnf
    exact ⟨i + 1, _, by omega, Sub.refl _, by omega, ⟨rfl, rfl, rfl, rfl, trivial⟩, rfl⟩
  · obtain rfl : i = s.size := by omega
    rw [← hl, List.take_length] at hc ⊢
    conv => whnf
    rw [not_u32 _ hc]
    conv => whnf
    repeat (first | (refine LoadV.s rfl rfl (forceV_of ?_); conv => whnf) | (refine LoadV.s rfl rfl ?_; conv => whnf) | (refine StoreV.c rfl rfl (Nat.le_of_ble_eq_true rfl) rfl ?_; conv => whnf) | (refine LoadV.a _ rfl (Nat.le_of_ble_eq_true rfl) ?_; conv => whnf) | (refine DrawI.quiet (by kernel_rfl) (by kernel_rfl) ?_; conv => whnf) | (refine ArI.in64 (by omega) ?_; conv => whnf) | (refine ArI.inU8 (by omega) ?_; conv => whnf) | (refine ArI.inU64 (by omega) ?_; conv => whnf) | (refine ArI.inU32 (by omega) ?_; conv => whnf) | (refine RetI.one Try.results75 rfl ?_; conv => whnf) | (refine RetI.two Try.results75 rfl rfl ?_; conv => whnf) | (refine RetI.three Try.results75 rfl rfl rfl ?_; conv => whnf) | (refine RetI.none Try.results75 ?_; conv => whnf) | (refine ⟨by first | decide | omega, ?_⟩; conv => whnf))
    exact ⟨_, Sub.refl _, rfl, rfl⟩
theorem sum_ok (F : Mem) (s : ByteArray) (hs : s.size ≤ 9223372036854775807) : FT Try.prog 62 [.string s].toArray F [] (Ret (.int .u32 (extN 0 (txt s) : Nat))) := by
  refine FT.of_body Try.func62 rfl Try.ntmps62 (by simp) fun C hC => ?_
  subst hC
  conv => whnf
  refine CallS.mk Try.call75 ⟨[], _, _, Sub.refl _, fun F' hF' => ext_ok F' 0 s (by decide) hs, ?_⟩
  rintro e A' ⟨rfl, rfl⟩
  conv => whnf
  repeat (first | (refine LoadV.s rfl rfl (forceV_of ?_); conv => whnf) | (refine LoadV.s rfl rfl ?_; conv => whnf) | (refine StoreV.c rfl rfl (Nat.le_of_ble_eq_true rfl) rfl ?_; conv => whnf) | (refine LoadV.a _ rfl (Nat.le_of_ble_eq_true rfl) ?_; conv => whnf) | (refine DrawI.quiet (by kernel_rfl) (by kernel_rfl) ?_; conv => whnf) | (refine ArI.in64 (by omega) ?_; conv => whnf) | (refine ArI.inU8 (by omega) ?_; conv => whnf) | (refine ArI.inU64 (by omega) ?_; conv => whnf) | (refine ArI.inU32 (by omega) ?_; conv => whnf) | (refine RetI.one Try.results62 rfl ?_; conv => whnf) | (refine RetI.two Try.results62 rfl rfl ?_; conv => whnf) | (refine RetI.three Try.results62 rfl rfl rfl ?_; conv => whnf) | (refine RetI.none Try.results62 ?_; conv => whnf) | (refine ⟨by first | decide | omega, ?_⟩; conv => whnf))
  exact ⟨_, Sub.refl _, rfl, rfl⟩
theorem extN_lt (n : Nat) (l : List Nat) : extN n l < 4294967296 := by unfold extN; omega
theorem rext_ok (F : Mem) (n : Nat) (s : ByteArray) (hn : n < 4294967296) (hs : s.size ≤ 9223372036854775807) : FT Try.prog 76 [.int .u32 (n : Int), .string s].toArray F [] (Ret (.int .u32 (extN n (txt s) : Nat))) := by
  refine FT.of_body Try.func76 rfl Try.ntmps76 (by simp) fun C hC => ?_
  subst hC
  conv => whnf
  have hl := txt_length s
  have hr0 : 4294967295 - n < 4294967296 := by omega
  refine ArI.mk ((4294967295 - n : Nat) : Int) (by rw [IntKind.wrap_u32']; omega) ?_
  conv => whnf
  refine LoopI.by_state (σ := Nat) (fun i => [(1, .string s), (5, .int .u32 (crc (4294967295 - n) ((txt s).take i) : Nat)), (6, .int .i64 (i : Int))]) (fun _ => []) (fun i => i ≤ s.size) (fun i => s.size - i) 0 (by simp) ⟨rfl, rfl, rfl, trivial⟩ (Sub.refl _) ?_
  rintro i f0 hi
  have hc : crc (4294967295 - n) ((txt s).take i) < 2 ^ 32 := crc_lt _ _ (fun b hb => txt_lt s b (List.mem_of_mem_take hb)) hr0
  conv => whnf
  refine cond_dec (fun h => ?_) (fun h => ?_)
  · have hil : i < (txt s).length := by omega
    conv => whnf
    refine ⟨by omega, ?_⟩
    conv => whnf
    rw [byteAt_txt s i hil]
    have hb : (txt s)[i] < 256 := txt_lt s _ (List.getElem_mem hil)
    have hsn := crc_snoc (4294967295 - n) (txt s) i hil
    generalize (txt s)[i] = b at hb hsn
    generalize crc (4294967295 - n) ((txt s).take i) = r at hc hsn ⊢
    refine ArI.inU32 (by omega) ?_
    conv => whnf
    rw [u32_xor_nat r b hc (by omega)]
    have hx : r ^^^ b < 4294967296 := Nat.xor_lt_two_pow (n := 32) hc (by omega)
    generalize r ^^^ b = x at hx hsn ⊢
    conv => whnf
    refine LoopI.by_state (σ := Nat) (fun k => [(1, .string s), (5, .int .u32 (stepN k x : Nat)), (6, .int .i64 (i : Int)), (7, .int .i64 (k : Int))]) (fun _ => []) (fun k => k ≤ 8) (fun k => 8 - k) 0 (by simp) ⟨rfl, rfl, rfl, rfl, trivial⟩ (Sub.refl _) ?_
    rintro k f1 hk
    have hsk := stepN_lt k x hx
    conv => whnf
    refine cond_dec (fun h2 => ?_) (fun h2 => ?_)
    · have hstep := stepN_succ k x
      generalize stepN k x = y at hsk hstep ⊢
      conv => whnf
      refine ⟨⟨rfl, by decide⟩, ?_⟩
      conv => whnf
      refine ⟨⟨rfl, by decide⟩, ?_⟩
      refine ArI.mk ((y / 2 : Nat) : Int) (by rw [IntKind.wrap_u32', Int.tdiv_eq_ediv_of_nonneg (by omega)]; omega) ?_
      conv => whnf
      rw [Int.tmod_eq_emod_of_nonneg (by omega)]
      refine cond_split (fun h3 => ?_) (fun h3 => ?_)
      · have h4 : y % 2 = 1 := by have := eq_of_beq h3; omega
        conv => whnf
        rw [show (3988292384 : Int) = ((3988292384 : Nat) : Int) from rfl, u32_xor_nat _ _ (by omega) (by decide), show y / 2 ^^^ 3988292384 = stepN (k + 1) x by rw [hstep, step1, if_pos h4]]
        refine ArI.to64 ((k + 1 : Nat) : Int) (by omega) (by omega) ?_
        conv => whnf
        exact ⟨k + 1, _, by omega, Sub.refl _, by omega, ⟨rfl, rfl, rfl, rfl, trivial⟩, rfl⟩
      · have h4 : ¬ y % 2 = 1 := by have := beq_eq_false_iff_ne.1 h3; omega
        conv => whnf
        rw [show y / 2 = stepN (k + 1) x by rw [hstep, step1, if_neg h4, Nat.xor_zero]]
        refine ArI.to64 ((k + 1 : Nat) : Int) (by omega) (by omega) ?_
        conv => whnf
        exact ⟨k + 1, _, by omega, Sub.refl _, by omega, ⟨rfl, rfl, rfl, rfl, trivial⟩, rfl⟩
    · obtain rfl : k = 8 := by omega
      rw [← hsn]
      conv => whnf
      refine ArI.to64 ((i + 1 : Nat) : Int) (by omega) (by omega) ?_
      conv => whnf
      exact ⟨i + 1, _, by omega, Sub.refl _, by omega, ⟨rfl, rfl, rfl, trivial⟩, rfl⟩
  · obtain rfl : i = s.size := by omega
    rw [← hl, List.take_length] at hc ⊢
    conv => whnf
    refine ArI.mk ((extN n (txt s) : Nat) : Int) (by rw [IntKind.wrap_u32']; unfold extN; omega) ?_
    conv => whnf
    repeat (first | (refine LoadV.s rfl rfl (forceV_of ?_); conv => whnf) | (refine LoadV.s rfl rfl ?_; conv => whnf) | (refine StoreV.c rfl rfl (Nat.le_of_ble_eq_true rfl) rfl ?_; conv => whnf) | (refine LoadV.a _ rfl (Nat.le_of_ble_eq_true rfl) ?_; conv => whnf) | (refine DrawI.quiet (by kernel_rfl) (by kernel_rfl) ?_; conv => whnf) | (refine ArI.in64 (by omega) ?_; conv => whnf) | (refine ArI.inU8 (by omega) ?_; conv => whnf) | (refine ArI.inU64 (by omega) ?_; conv => whnf) | (refine ArI.inU32 (by omega) ?_; conv => whnf) | (refine RetI.one Try.results76 rfl ?_; conv => whnf) | (refine RetI.two Try.results76 rfl rfl ?_; conv => whnf) | (refine RetI.three Try.results76 rfl rfl rfl ?_; conv => whnf) | (refine RetI.none Try.results76 ?_; conv => whnf) | (refine ⟨by first | decide | omega, ?_⟩; conv => whnf))
    exact ⟨_, Sub.refl _, rfl, rfl⟩
theorem rsum_ok (F : Mem) (s : ByteArray) (hs : s.size ≤ 9223372036854775807) : FT Try.prog 64 [.string s].toArray F [] (Ret (.int .u32 (extN 0 (txt s) : Nat))) := by
  refine FT.of_body Try.func64 rfl Try.ntmps64 (by simp) fun C hC => ?_
  subst hC
  conv => whnf
  refine CallS.mk Try.call76 ⟨[], _, _, Sub.refl _, fun F' hF' => rext_ok F' 0 s (by decide) hs, ?_⟩
  rintro e A' ⟨rfl, rfl⟩
  conv => whnf
  repeat (first | (refine LoadV.s rfl rfl (forceV_of ?_); conv => whnf) | (refine LoadV.s rfl rfl ?_; conv => whnf) | (refine StoreV.c rfl rfl (Nat.le_of_ble_eq_true rfl) rfl ?_; conv => whnf) | (refine LoadV.a _ rfl (Nat.le_of_ble_eq_true rfl) ?_; conv => whnf) | (refine DrawI.quiet (by kernel_rfl) (by kernel_rfl) ?_; conv => whnf) | (refine ArI.in64 (by omega) ?_; conv => whnf) | (refine ArI.inU8 (by omega) ?_; conv => whnf) | (refine ArI.inU64 (by omega) ?_; conv => whnf) | (refine ArI.inU32 (by omega) ?_; conv => whnf) | (refine RetI.one Try.results64 rfl ?_; conv => whnf) | (refine RetI.two Try.results64 rfl rfl ?_; conv => whnf) | (refine RetI.three Try.results64 rfl rfl rfl ?_; conv => whnf) | (refine RetI.none Try.results64 ?_; conv => whnf) | (refine ⟨by first | decide | omega, ?_⟩; conv => whnf))
  exact ⟨_, Sub.refl _, rfl, rfl⟩
theorem Row.all {C : Ctx} {H : Heap} {b : Nat} {l : List Value} {T : TypeId} {fr : Nat × Nat} [hf : Find H b l T fr] : Row C H ⟨b, 0, none⟩ l := by
  have := Row.cells (C := C) (H := H) (b := b) (o := 0) l.length
  rwa [List.drop_zero, List.take_length] at this
def bytesN (n : Nat) : List Nat := [n / 16777216, n / 65536 % 256, n / 256 % 256, n % 256]
theorem byte_shr (n k c : Nat) (hk : k ≤ 32) (hc : n / 2 ^ k % 256 = c) : IntKind.u8.wrap (Int.fdiv (n : Int) (2 ^ min (Int.toNat (k : Int)) IntKind.u32.bits)) = (c : Int) := by
  rw [shr_le (k := IntKind.u32.bits) hk, wrap_u8_nat, hc]
theorem u8_nat (n c : Nat) (hc : n % 256 = c) : IntKind.u8.wrap (n : Int) = (c : Int) := by rw [wrap_u8_nat, hc]
theorem quo_u32 (n k c : Nat) (hn : n < 4294967296) (h : n / k = c) : IntKind.u32.wrap ((n : Int).tdiv (k : Int)) = (c : Int) := by
  rw [Int.tdiv_eq_ediv_of_nonneg (by omega), ← Int.natCast_ediv, wrap_u32_nat, h, Nat.mod_eq_of_lt]
  exact Nat.lt_of_le_of_lt (h ▸ Nat.div_le_self n k) hn
theorem mod_u8 (n k c : Nat) (h : n % k % 256 = c) : IntKind.u8.wrap ((n : Int).tmod (k : Int)) = (c : Int) := by
  rw [Int.tmod_eq_emod_of_nonneg (by omega), ← Int.natCast_emod, wrap_u8_nat, h]
theorem bytes_ok (F : Mem) (n : Nat) (hn : n < 4294967296) : FT Try.prog 61 [.int .u32 (n : Int)].toArray F [] (Ret (.string (strB (bytesN n)))) := by
  refine FT.of_body Try.func61 rfl Try.ntmps61 (by simp) fun C hC => ?_
  subst hC
  conv => whnf
  refine ⟨by decide, ?_⟩
  conv => whnf
  refine ArI.mk ((n / 16777216 : Nat) : Int) (byte_shr n 24 _ (by decide) (by omega)) ?_
  conv => whnf
  refine ⟨by decide, ?_⟩
  conv => whnf
  refine ArI.mk ((n / 65536 % 256 : Nat) : Int) (byte_shr n 16 _ (by decide) rfl) ?_
  conv => whnf
  refine ⟨by decide, ?_⟩
  conv => whnf
  refine ArI.mk ((n / 256 % 256 : Nat) : Int) (byte_shr n 8 _ (by decide) rfl) ?_
  conv => whnf
  refine ArI.mk ((n % 256 : Nat) : Int) (u8_nat _ _ rfl) ?_
  conv => whnf
  intro b
  conv => whnf
  refine DoV.bytes_string (l := bytesN n) Try.underlying118 Try.underlying5 Try.underlying9 rfl (by have := Row.all (C := C) (H := [.cells b [.int .u8 (n / 16777216 : Nat), .int .u8 (n / 65536 % 256 : Nat), .int .u8 (n / 256 % 256 : Nat), .int .u8 (n % 256 : Nat)] 5 (0, 0)]) (b := b); exact this) ?_
  conv => whnf
  repeat (first | (refine LoadV.s rfl rfl (forceV_of ?_); conv => whnf) | (refine LoadV.s rfl rfl ?_; conv => whnf) | (refine StoreV.c rfl rfl (Nat.le_of_ble_eq_true rfl) rfl ?_; conv => whnf) | (refine LoadV.a _ rfl (Nat.le_of_ble_eq_true rfl) ?_; conv => whnf) | (refine DrawI.quiet (by kernel_rfl) (by kernel_rfl) ?_; conv => whnf) | (refine ArI.in64 (by omega) ?_; conv => whnf) | (refine ArI.inU8 (by omega) ?_; conv => whnf) | (refine ArI.inU64 (by omega) ?_; conv => whnf) | (refine ArI.inU32 (by omega) ?_; conv => whnf) | (refine RetI.one Try.results61 rfl ?_; conv => whnf) | (refine RetI.two Try.results61 rfl rfl ?_; conv => whnf) | (refine RetI.three Try.results61 rfl rfl rfl ?_; conv => whnf) | (refine RetI.none Try.results61 ?_; conv => whnf) | (refine ⟨by first | decide | omega, ?_⟩; conv => whnf))
  exact ⟨_, Sub.sel [] rfl, rfl, rfl⟩
theorem rbytes_ok (F : Mem) (n : Nat) (hn : n < 4294967296) : FT Try.prog 63 [.int .u32 (n : Int)].toArray F [] (Ret (.string (strB (bytesN n)))) := by
  refine FT.of_body Try.func63 rfl Try.ntmps63 (by simp) fun C hC => ?_
  subst hC
  conv => whnf
  refine ⟨⟨rfl, by decide⟩, ?_⟩
  refine ArI.mk ((n / 16777216 : Nat) : Int) (quo_u32 n 16777216 _ hn rfl) ?_
  conv => whnf
  refine ArI.mk ((n / 16777216 : Nat) : Int) (u8_nat _ _ (by omega)) ?_
  conv => whnf
  refine ⟨⟨rfl, by decide⟩, ?_⟩
  refine ArI.mk ((n / 65536 : Nat) : Int) (quo_u32 n 65536 _ hn rfl) ?_
  conv => whnf
  refine ⟨⟨rfl, by decide⟩, ?_⟩
  conv => whnf
  refine ArI.mk ((n / 65536 % 256 : Nat) : Int) (mod_u8 (n / 65536) 256 _ (by omega)) ?_
  conv => whnf
  refine ⟨⟨rfl, by decide⟩, ?_⟩
  refine ArI.mk ((n / 256 : Nat) : Int) (quo_u32 n 256 _ hn rfl) ?_
  conv => whnf
  refine ⟨⟨rfl, by decide⟩, ?_⟩
  conv => whnf
  refine ArI.mk ((n / 256 % 256 : Nat) : Int) (mod_u8 (n / 256) 256 _ (by omega)) ?_
  conv => whnf
  refine ⟨⟨rfl, by decide⟩, ?_⟩
  conv => whnf
  refine ArI.mk ((n % 256 : Nat) : Int) (mod_u8 n 256 _ (by omega)) ?_
  conv => whnf
  intro b
  conv => whnf
  refine DoV.bytes_string (l := bytesN n) Try.underlying118 Try.underlying5 Try.underlying9 rfl (by have := Row.all (C := C) (H := [.cells b [.int .u8 (n / 16777216 : Nat), .int .u8 (n / 65536 % 256 : Nat), .int .u8 (n / 256 % 256 : Nat), .int .u8 (n % 256 : Nat)] 5 (0, 0)]) (b := b); exact this) ?_
  conv => whnf
  repeat (first | (refine LoadV.s rfl rfl (forceV_of ?_); conv => whnf) | (refine LoadV.s rfl rfl ?_; conv => whnf) | (refine StoreV.c rfl rfl (Nat.le_of_ble_eq_true rfl) rfl ?_; conv => whnf) | (refine LoadV.a _ rfl (Nat.le_of_ble_eq_true rfl) ?_; conv => whnf) | (refine DrawI.quiet (by kernel_rfl) (by kernel_rfl) ?_; conv => whnf) | (refine ArI.in64 (by omega) ?_; conv => whnf) | (refine ArI.inU8 (by omega) ?_; conv => whnf) | (refine ArI.inU64 (by omega) ?_; conv => whnf) | (refine ArI.inU32 (by omega) ?_; conv => whnf) | (refine RetI.one Try.results63 rfl ?_; conv => whnf) | (refine RetI.two Try.results63 rfl rfl ?_; conv => whnf) | (refine RetI.three Try.results63 rfl rfl rfl ?_; conv => whnf) | (refine RetI.none Try.results63 ?_; conv => whnf) | (refine ⟨by first | decide | omega, ?_⟩; conv => whnf))
  exact ⟨_, Sub.sel [] rfl, rfl, rfl⟩
end Go.Proofs.Ytgodkfaacjllcaa

/- A frame's pieces: which are right; how many there are. -/
namespace Go.Proofs.Ytgodkfaacjllcaa
set_option linter.unusedVariables false
set_option linter.unusedSimpArgs false
set_option maxRecDepth 100000
open SL Go.RowKit Go.Maps

def RightP (sq pt ps : Int) (n : Nat) : Prop := 1 ≤ sq ∧ sq ≤ 65535 ∧ 1 ≤ ps ∧ ps ≤ 255 ∧ 0 ≤ pt ∧ pt < ps ∧ n ≤ 23 ∧ (if pt = ps - 1 then n = 0 → ps = 1 else n = 23)
instance (sq pt ps : Int) (n : Nat) : Decidable (RightP sq pt ps n) := by unfold RightP; infer_instance
def rightB (sq pt ps : Int) (n : Nat) : Bool := decide (RightP sq pt ps n)
theorem right_no {sq pt ps : Int} {n : Nat} (h : ¬ RightP sq pt ps n) : Ending.returned (.bool false) = .returned (.bool (rightB sq pt ps n)) := by rw [rightB, decide_eq_false h]
theorem right_is {sq pt ps : Int} {n : Nat} {b : Bool} (h : b = true ↔ RightP sq pt ps n) : Ending.returned (.bool b) = .returned (.bool (rightB sq pt ps n)) := by
  have : b = rightB sq pt ps n := by
    unfold rightB
    cases b with
    | true => exact (decide_eq_true (h.1 rfl)).symm
    | false => exact (decide_eq_false (fun k => by have := h.2 k; cases this)).symm
  rw [this]
abbrev pieceV (sq pt ps : Int) (d : ByteArray) : Value := .agg #[.int .i64 sq, .int .i64 pt, .int .i64 ps, .string d]
theorem right_ok (F : Mem) (sq pt ps : Int) (d : ByteArray) : FT Try.prog 58 [pieceV sq pt ps d].toArray F [] (Ret (.bool (rightB sq pt ps d.size))) := by
  refine FT.of_body Try.func58 rfl Try.ntmps58 (by simp) fun C hC => ?_
  subst hC
  conv => whnf
  intro b
  conv => whnf
  repeat (first | (refine LoadV.s rfl rfl (forceV_of ?_); conv => whnf) | (refine LoadV.s rfl rfl ?_; conv => whnf) | (refine StoreV.c rfl rfl (Nat.le_of_ble_eq_true rfl) rfl ?_; conv => whnf) | (refine LoadV.a _ rfl (Nat.le_of_ble_eq_true rfl) ?_; conv => whnf) | (refine DrawI.quiet (by kernel_rfl) (by kernel_rfl) ?_; conv => whnf) | (refine ArI.in64 (by omega) ?_; conv => whnf) | (refine ArI.inU8 (by omega) ?_; conv => whnf) | (refine ArI.inU64 (by omega) ?_; conv => whnf) | (refine ArI.inU32 (by omega) ?_; conv => whnf) | (refine RetI.one Try.results58 rfl ?_; conv => whnf) | (refine RetI.two Try.results58 rfl rfl ?_; conv => whnf) | (refine RetI.three Try.results58 rfl rfl rfl ?_; conv => whnf) | (refine RetI.none Try.results58 ?_; conv => whnf) | (refine ⟨by first | decide | omega, ?_⟩; conv => whnf))
  refine cond_dec (fun h1 => ?_) (fun h1 => ?_)
  · conv => whnf
    repeat (first | (refine LoadV.s rfl rfl (forceV_of ?_); conv => whnf) | (refine LoadV.s rfl rfl ?_; conv => whnf) | (refine StoreV.c rfl rfl (Nat.le_of_ble_eq_true rfl) rfl ?_; conv => whnf) | (refine LoadV.a _ rfl (Nat.le_of_ble_eq_true rfl) ?_; conv => whnf) | (refine DrawI.quiet (by kernel_rfl) (by kernel_rfl) ?_; conv => whnf) | (refine ArI.in64 (by omega) ?_; conv => whnf) | (refine ArI.inU8 (by omega) ?_; conv => whnf) | (refine ArI.inU64 (by omega) ?_; conv => whnf) | (refine ArI.inU32 (by omega) ?_; conv => whnf) | (refine RetI.one Try.results58 rfl ?_; conv => whnf) | (refine RetI.two Try.results58 rfl rfl ?_; conv => whnf) | (refine RetI.three Try.results58 rfl rfl rfl ?_; conv => whnf) | (refine RetI.none Try.results58 ?_; conv => whnf) | (refine ⟨by first | decide | omega, ?_⟩; conv => whnf))
    exact ⟨_, Sub.sel [] rfl, right_no (by unfold RightP; omega), rfl⟩
  conv => whnf
  repeat (first | (refine LoadV.s rfl rfl (forceV_of ?_); conv => whnf) | (refine LoadV.s rfl rfl ?_; conv => whnf) | (refine StoreV.c rfl rfl (Nat.le_of_ble_eq_true rfl) rfl ?_; conv => whnf) | (refine LoadV.a _ rfl (Nat.le_of_ble_eq_true rfl) ?_; conv => whnf) | (refine DrawI.quiet (by kernel_rfl) (by kernel_rfl) ?_; conv => whnf) | (refine ArI.in64 (by omega) ?_; conv => whnf) | (refine ArI.inU8 (by omega) ?_; conv => whnf) | (refine ArI.inU64 (by omega) ?_; conv => whnf) | (refine ArI.inU32 (by omega) ?_; conv => whnf) | (refine RetI.one Try.results58 rfl ?_; conv => whnf) | (refine RetI.two Try.results58 rfl rfl ?_; conv => whnf) | (refine RetI.three Try.results58 rfl rfl rfl ?_; conv => whnf) | (refine RetI.none Try.results58 ?_; conv => whnf) | (refine ⟨by first | decide | omega, ?_⟩; conv => whnf))
  refine cond_dec (fun h2 => ?_) (fun h2 => ?_)
  · conv => whnf
    repeat (first | (refine LoadV.s rfl rfl (forceV_of ?_); conv => whnf) | (refine LoadV.s rfl rfl ?_; conv => whnf) | (refine StoreV.c rfl rfl (Nat.le_of_ble_eq_true rfl) rfl ?_; conv => whnf) | (refine LoadV.a _ rfl (Nat.le_of_ble_eq_true rfl) ?_; conv => whnf) | (refine DrawI.quiet (by kernel_rfl) (by kernel_rfl) ?_; conv => whnf) | (refine ArI.in64 (by omega) ?_; conv => whnf) | (refine ArI.inU8 (by omega) ?_; conv => whnf) | (refine ArI.inU64 (by omega) ?_; conv => whnf) | (refine ArI.inU32 (by omega) ?_; conv => whnf) | (refine RetI.one Try.results58 rfl ?_; conv => whnf) | (refine RetI.two Try.results58 rfl rfl ?_; conv => whnf) | (refine RetI.three Try.results58 rfl rfl rfl ?_; conv => whnf) | (refine RetI.none Try.results58 ?_; conv => whnf) | (refine ⟨by first | decide | omega, ?_⟩; conv => whnf))
    exact ⟨_, Sub.sel [] rfl, right_no (by unfold RightP; omega), rfl⟩
  conv => whnf
  repeat (first | (refine LoadV.s rfl rfl (forceV_of ?_); conv => whnf) | (refine LoadV.s rfl rfl ?_; conv => whnf) | (refine StoreV.c rfl rfl (Nat.le_of_ble_eq_true rfl) rfl ?_; conv => whnf) | (refine LoadV.a _ rfl (Nat.le_of_ble_eq_true rfl) ?_; conv => whnf) | (refine DrawI.quiet (by kernel_rfl) (by kernel_rfl) ?_; conv => whnf) | (refine ArI.in64 (by omega) ?_; conv => whnf) | (refine ArI.inU8 (by omega) ?_; conv => whnf) | (refine ArI.inU64 (by omega) ?_; conv => whnf) | (refine ArI.inU32 (by omega) ?_; conv => whnf) | (refine RetI.one Try.results58 rfl ?_; conv => whnf) | (refine RetI.two Try.results58 rfl rfl ?_; conv => whnf) | (refine RetI.three Try.results58 rfl rfl rfl ?_; conv => whnf) | (refine RetI.none Try.results58 ?_; conv => whnf) | (refine ⟨by first | decide | omega, ?_⟩; conv => whnf))
  refine cond_dec (fun h3 => ?_) (fun h3 => ?_)
  · conv => whnf
    repeat (first | (refine LoadV.s rfl rfl (forceV_of ?_); conv => whnf) | (refine LoadV.s rfl rfl ?_; conv => whnf) | (refine StoreV.c rfl rfl (Nat.le_of_ble_eq_true rfl) rfl ?_; conv => whnf) | (refine LoadV.a _ rfl (Nat.le_of_ble_eq_true rfl) ?_; conv => whnf) | (refine DrawI.quiet (by kernel_rfl) (by kernel_rfl) ?_; conv => whnf) | (refine ArI.in64 (by omega) ?_; conv => whnf) | (refine ArI.inU8 (by omega) ?_; conv => whnf) | (refine ArI.inU64 (by omega) ?_; conv => whnf) | (refine ArI.inU32 (by omega) ?_; conv => whnf) | (refine RetI.one Try.results58 rfl ?_; conv => whnf) | (refine RetI.two Try.results58 rfl rfl ?_; conv => whnf) | (refine RetI.three Try.results58 rfl rfl rfl ?_; conv => whnf) | (refine RetI.none Try.results58 ?_; conv => whnf) | (refine ⟨by first | decide | omega, ?_⟩; conv => whnf))
    exact ⟨_, Sub.sel [] rfl, right_no (by unfold RightP; omega), rfl⟩
  conv => whnf
  repeat (first | (refine LoadV.s rfl rfl (forceV_of ?_); conv => whnf) | (refine LoadV.s rfl rfl ?_; conv => whnf) | (refine StoreV.c rfl rfl (Nat.le_of_ble_eq_true rfl) rfl ?_; conv => whnf) | (refine LoadV.a _ rfl (Nat.le_of_ble_eq_true rfl) ?_; conv => whnf) | (refine DrawI.quiet (by kernel_rfl) (by kernel_rfl) ?_; conv => whnf) | (refine ArI.in64 (by omega) ?_; conv => whnf) | (refine ArI.inU8 (by omega) ?_; conv => whnf) | (refine ArI.inU64 (by omega) ?_; conv => whnf) | (refine ArI.inU32 (by omega) ?_; conv => whnf) | (refine RetI.one Try.results58 rfl ?_; conv => whnf) | (refine RetI.two Try.results58 rfl rfl ?_; conv => whnf) | (refine RetI.three Try.results58 rfl rfl rfl ?_; conv => whnf) | (refine RetI.none Try.results58 ?_; conv => whnf) | (refine ⟨by first | decide | omega, ?_⟩; conv => whnf))
  refine cond_dec (fun h4 => ?_) (fun h4 => ?_)
  · conv => whnf
    repeat (first | (refine LoadV.s rfl rfl (forceV_of ?_); conv => whnf) | (refine LoadV.s rfl rfl ?_; conv => whnf) | (refine StoreV.c rfl rfl (Nat.le_of_ble_eq_true rfl) rfl ?_; conv => whnf) | (refine LoadV.a _ rfl (Nat.le_of_ble_eq_true rfl) ?_; conv => whnf) | (refine DrawI.quiet (by kernel_rfl) (by kernel_rfl) ?_; conv => whnf) | (refine ArI.in64 (by omega) ?_; conv => whnf) | (refine ArI.inU8 (by omega) ?_; conv => whnf) | (refine ArI.inU64 (by omega) ?_; conv => whnf) | (refine ArI.inU32 (by omega) ?_; conv => whnf) | (refine RetI.one Try.results58 rfl ?_; conv => whnf) | (refine RetI.two Try.results58 rfl rfl ?_; conv => whnf) | (refine RetI.three Try.results58 rfl rfl rfl ?_; conv => whnf) | (refine RetI.none Try.results58 ?_; conv => whnf) | (refine ⟨by first | decide | omega, ?_⟩; conv => whnf))
    exact ⟨_, Sub.sel [] rfl, right_no (by unfold RightP; omega), rfl⟩
  conv => whnf
  repeat (first | (refine LoadV.s rfl rfl (forceV_of ?_); conv => whnf) | (refine LoadV.s rfl rfl ?_; conv => whnf) | (refine StoreV.c rfl rfl (Nat.le_of_ble_eq_true rfl) rfl ?_; conv => whnf) | (refine LoadV.a _ rfl (Nat.le_of_ble_eq_true rfl) ?_; conv => whnf) | (refine DrawI.quiet (by kernel_rfl) (by kernel_rfl) ?_; conv => whnf) | (refine ArI.in64 (by omega) ?_; conv => whnf) | (refine ArI.inU8 (by omega) ?_; conv => whnf) | (refine ArI.inU64 (by omega) ?_; conv => whnf) | (refine ArI.inU32 (by omega) ?_; conv => whnf) | (refine RetI.one Try.results58 rfl ?_; conv => whnf) | (refine RetI.two Try.results58 rfl rfl ?_; conv => whnf) | (refine RetI.three Try.results58 rfl rfl rfl ?_; conv => whnf) | (refine RetI.none Try.results58 ?_; conv => whnf) | (refine ⟨by first | decide | omega, ?_⟩; conv => whnf))
  refine cond_dec (fun h5 => ?_) (fun h5 => ?_)
  · conv => whnf
    repeat (first | (refine LoadV.s rfl rfl (forceV_of ?_); conv => whnf) | (refine LoadV.s rfl rfl ?_; conv => whnf) | (refine StoreV.c rfl rfl (Nat.le_of_ble_eq_true rfl) rfl ?_; conv => whnf) | (refine LoadV.a _ rfl (Nat.le_of_ble_eq_true rfl) ?_; conv => whnf) | (refine DrawI.quiet (by kernel_rfl) (by kernel_rfl) ?_; conv => whnf) | (refine ArI.in64 (by omega) ?_; conv => whnf) | (refine ArI.inU8 (by omega) ?_; conv => whnf) | (refine ArI.inU64 (by omega) ?_; conv => whnf) | (refine ArI.inU32 (by omega) ?_; conv => whnf) | (refine RetI.one Try.results58 rfl ?_; conv => whnf) | (refine RetI.two Try.results58 rfl rfl ?_; conv => whnf) | (refine RetI.three Try.results58 rfl rfl rfl ?_; conv => whnf) | (refine RetI.none Try.results58 ?_; conv => whnf) | (refine ⟨by first | decide | omega, ?_⟩; conv => whnf))
    exact ⟨_, Sub.sel [] rfl, right_no (by unfold RightP; omega), rfl⟩
  conv => whnf
  repeat (first | (refine LoadV.s rfl rfl (forceV_of ?_); conv => whnf) | (refine LoadV.s rfl rfl ?_; conv => whnf) | (refine StoreV.c rfl rfl (Nat.le_of_ble_eq_true rfl) rfl ?_; conv => whnf) | (refine LoadV.a _ rfl (Nat.le_of_ble_eq_true rfl) ?_; conv => whnf) | (refine DrawI.quiet (by kernel_rfl) (by kernel_rfl) ?_; conv => whnf) | (refine ArI.in64 (by omega) ?_; conv => whnf) | (refine ArI.inU8 (by omega) ?_; conv => whnf) | (refine ArI.inU64 (by omega) ?_; conv => whnf) | (refine ArI.inU32 (by omega) ?_; conv => whnf) | (refine RetI.one Try.results58 rfl ?_; conv => whnf) | (refine RetI.two Try.results58 rfl rfl ?_; conv => whnf) | (refine RetI.three Try.results58 rfl rfl rfl ?_; conv => whnf) | (refine RetI.none Try.results58 ?_; conv => whnf) | (refine ⟨by first | decide | omega, ?_⟩; conv => whnf))
  refine cond_dec (fun h6 => ?_) (fun h6 => ?_)
  · conv => whnf
    repeat (first | (refine LoadV.s rfl rfl (forceV_of ?_); conv => whnf) | (refine LoadV.s rfl rfl ?_; conv => whnf) | (refine StoreV.c rfl rfl (Nat.le_of_ble_eq_true rfl) rfl ?_; conv => whnf) | (refine LoadV.a _ rfl (Nat.le_of_ble_eq_true rfl) ?_; conv => whnf) | (refine DrawI.quiet (by kernel_rfl) (by kernel_rfl) ?_; conv => whnf) | (refine ArI.in64 (by omega) ?_; conv => whnf) | (refine ArI.inU8 (by omega) ?_; conv => whnf) | (refine ArI.inU64 (by omega) ?_; conv => whnf) | (refine ArI.inU32 (by omega) ?_; conv => whnf) | (refine RetI.one Try.results58 rfl ?_; conv => whnf) | (refine RetI.two Try.results58 rfl rfl ?_; conv => whnf) | (refine RetI.three Try.results58 rfl rfl rfl ?_; conv => whnf) | (refine RetI.none Try.results58 ?_; conv => whnf) | (refine ⟨by first | decide | omega, ?_⟩; conv => whnf))
    exact ⟨_, Sub.sel [] rfl, right_no (by unfold RightP; omega), rfl⟩
  conv => whnf
  repeat (first | (refine LoadV.s rfl rfl (forceV_of ?_); conv => whnf) | (refine LoadV.s rfl rfl ?_; conv => whnf) | (refine StoreV.c rfl rfl (Nat.le_of_ble_eq_true rfl) rfl ?_; conv => whnf) | (refine LoadV.a _ rfl (Nat.le_of_ble_eq_true rfl) ?_; conv => whnf) | (refine DrawI.quiet (by kernel_rfl) (by kernel_rfl) ?_; conv => whnf) | (refine ArI.in64 (by omega) ?_; conv => whnf) | (refine ArI.inU8 (by omega) ?_; conv => whnf) | (refine ArI.inU64 (by omega) ?_; conv => whnf) | (refine ArI.inU32 (by omega) ?_; conv => whnf) | (refine RetI.one Try.results58 rfl ?_; conv => whnf) | (refine RetI.two Try.results58 rfl rfl ?_; conv => whnf) | (refine RetI.three Try.results58 rfl rfl rfl ?_; conv => whnf) | (refine RetI.none Try.results58 ?_; conv => whnf) | (refine ⟨by first | decide | omega, ?_⟩; conv => whnf))
  refine cond_split (fun h7 => ?_) (fun h7 => ?_)
  · have h8 : ¬ pt = ps - 1 := by simpa using h7
    conv => whnf
    repeat (first | (refine LoadV.s rfl rfl (forceV_of ?_); conv => whnf) | (refine LoadV.s rfl rfl ?_; conv => whnf) | (refine StoreV.c rfl rfl (Nat.le_of_ble_eq_true rfl) rfl ?_; conv => whnf) | (refine LoadV.a _ rfl (Nat.le_of_ble_eq_true rfl) ?_; conv => whnf) | (refine DrawI.quiet (by kernel_rfl) (by kernel_rfl) ?_; conv => whnf) | (refine ArI.in64 (by omega) ?_; conv => whnf) | (refine ArI.inU8 (by omega) ?_; conv => whnf) | (refine ArI.inU64 (by omega) ?_; conv => whnf) | (refine ArI.inU32 (by omega) ?_; conv => whnf) | (refine RetI.one Try.results58 rfl ?_; conv => whnf) | (refine RetI.two Try.results58 rfl rfl ?_; conv => whnf) | (refine RetI.three Try.results58 rfl rfl rfl ?_; conv => whnf) | (refine RetI.none Try.results58 ?_; conv => whnf) | (refine ⟨by first | decide | omega, ?_⟩; conv => whnf))
    refine ⟨_, Sub.sel [] rfl, right_is ?_, rfl⟩
    unfold RightP
    rw [beq_iff_eq, if_neg h8]
    omega
  have h8 : pt = ps - 1 := by simpa using h7
  conv => whnf
  refine cond_split (fun h9 => ?_) (fun h9 => ?_)
  · have h10 : d.size = 0 := by have := eq_of_beq h9; omega
    conv => whnf
    repeat (first | (refine LoadV.s rfl rfl (forceV_of ?_); conv => whnf) | (refine LoadV.s rfl rfl ?_; conv => whnf) | (refine StoreV.c rfl rfl (Nat.le_of_ble_eq_true rfl) rfl ?_; conv => whnf) | (refine LoadV.a _ rfl (Nat.le_of_ble_eq_true rfl) ?_; conv => whnf) | (refine DrawI.quiet (by kernel_rfl) (by kernel_rfl) ?_; conv => whnf) | (refine ArI.in64 (by omega) ?_; conv => whnf) | (refine ArI.inU8 (by omega) ?_; conv => whnf) | (refine ArI.inU64 (by omega) ?_; conv => whnf) | (refine ArI.inU32 (by omega) ?_; conv => whnf) | (refine RetI.one Try.results58 rfl ?_; conv => whnf) | (refine RetI.two Try.results58 rfl rfl ?_; conv => whnf) | (refine RetI.three Try.results58 rfl rfl rfl ?_; conv => whnf) | (refine RetI.none Try.results58 ?_; conv => whnf) | (refine ⟨by first | decide | omega, ?_⟩; conv => whnf))
    refine ⟨_, Sub.sel [] rfl, right_is ?_, rfl⟩
    unfold RightP
    rw [beq_iff_eq, if_pos h8]
    omega
  have h10 : ¬ d.size = 0 := by have := beq_eq_false_iff_ne.1 h9; omega
  conv => whnf
  repeat (first | (refine LoadV.s rfl rfl (forceV_of ?_); conv => whnf) | (refine LoadV.s rfl rfl ?_; conv => whnf) | (refine StoreV.c rfl rfl (Nat.le_of_ble_eq_true rfl) rfl ?_; conv => whnf) | (refine LoadV.a _ rfl (Nat.le_of_ble_eq_true rfl) ?_; conv => whnf) | (refine DrawI.quiet (by kernel_rfl) (by kernel_rfl) ?_; conv => whnf) | (refine ArI.in64 (by omega) ?_; conv => whnf) | (refine ArI.inU8 (by omega) ?_; conv => whnf) | (refine ArI.inU64 (by omega) ?_; conv => whnf) | (refine ArI.inU32 (by omega) ?_; conv => whnf) | (refine RetI.one Try.results58 rfl ?_; conv => whnf) | (refine RetI.two Try.results58 rfl rfl ?_; conv => whnf) | (refine RetI.three Try.results58 rfl rfl rfl ?_; conv => whnf) | (refine RetI.none Try.results58 ?_; conv => whnf) | (refine ⟨by first | decide | omega, ?_⟩; conv => whnf))
  refine ⟨_, Sub.sel [] rfl, right_is ?_, rfl⟩
  unfold RightP
  rw [decide_eq_true_iff, if_pos h8]
  omega
theorem rright_ok (F : Mem) (sq pt ps : Int) (d : ByteArray) : FT Try.prog 54 [pieceV sq pt ps d].toArray F [] (Ret (.bool (rightB sq pt ps d.size))) := by
  refine FT.of_body Try.func54 rfl Try.ntmps54 (by simp) fun C hC => ?_
  subst hC
  conv => whnf
  intro b
  conv => whnf
  repeat (first | (refine LoadV.s rfl rfl (forceV_of ?_); conv => whnf) | (refine LoadV.s rfl rfl ?_; conv => whnf) | (refine StoreV.c rfl rfl (Nat.le_of_ble_eq_true rfl) rfl ?_; conv => whnf) | (refine LoadV.a _ rfl (Nat.le_of_ble_eq_true rfl) ?_; conv => whnf) | (refine DrawI.quiet (by kernel_rfl) (by kernel_rfl) ?_; conv => whnf) | (refine ArI.in64 (by omega) ?_; conv => whnf) | (refine ArI.inU8 (by omega) ?_; conv => whnf) | (refine ArI.inU64 (by omega) ?_; conv => whnf) | (refine ArI.inU32 (by omega) ?_; conv => whnf) | (refine RetI.one Try.results54 rfl ?_; conv => whnf) | (refine RetI.two Try.results54 rfl rfl ?_; conv => whnf) | (refine RetI.three Try.results54 rfl rfl rfl ?_; conv => whnf) | (refine RetI.none Try.results54 ?_; conv => whnf) | (refine ⟨by first | decide | omega, ?_⟩; conv => whnf))
  refine cond_dec (fun h1 => ?_) (fun h1 => ?_)
  · conv => whnf
    repeat (first | (refine LoadV.s rfl rfl (forceV_of ?_); conv => whnf) | (refine LoadV.s rfl rfl ?_; conv => whnf) | (refine StoreV.c rfl rfl (Nat.le_of_ble_eq_true rfl) rfl ?_; conv => whnf) | (refine LoadV.a _ rfl (Nat.le_of_ble_eq_true rfl) ?_; conv => whnf) | (refine DrawI.quiet (by kernel_rfl) (by kernel_rfl) ?_; conv => whnf) | (refine ArI.in64 (by omega) ?_; conv => whnf) | (refine ArI.inU8 (by omega) ?_; conv => whnf) | (refine ArI.inU64 (by omega) ?_; conv => whnf) | (refine ArI.inU32 (by omega) ?_; conv => whnf) | (refine RetI.one Try.results54 rfl ?_; conv => whnf) | (refine RetI.two Try.results54 rfl rfl ?_; conv => whnf) | (refine RetI.three Try.results54 rfl rfl rfl ?_; conv => whnf) | (refine RetI.none Try.results54 ?_; conv => whnf) | (refine ⟨by first | decide | omega, ?_⟩; conv => whnf))
    exact ⟨_, Sub.sel [] rfl, right_no (by unfold RightP; omega), rfl⟩
  conv => whnf
  repeat (first | (refine LoadV.s rfl rfl (forceV_of ?_); conv => whnf) | (refine LoadV.s rfl rfl ?_; conv => whnf) | (refine StoreV.c rfl rfl (Nat.le_of_ble_eq_true rfl) rfl ?_; conv => whnf) | (refine LoadV.a _ rfl (Nat.le_of_ble_eq_true rfl) ?_; conv => whnf) | (refine DrawI.quiet (by kernel_rfl) (by kernel_rfl) ?_; conv => whnf) | (refine ArI.in64 (by omega) ?_; conv => whnf) | (refine ArI.inU8 (by omega) ?_; conv => whnf) | (refine ArI.inU64 (by omega) ?_; conv => whnf) | (refine ArI.inU32 (by omega) ?_; conv => whnf) | (refine RetI.one Try.results54 rfl ?_; conv => whnf) | (refine RetI.two Try.results54 rfl rfl ?_; conv => whnf) | (refine RetI.three Try.results54 rfl rfl rfl ?_; conv => whnf) | (refine RetI.none Try.results54 ?_; conv => whnf) | (refine ⟨by first | decide | omega, ?_⟩; conv => whnf))
  refine cond_dec (fun h2 => ?_) (fun h2 => ?_)
  · conv => whnf
    repeat (first | (refine LoadV.s rfl rfl (forceV_of ?_); conv => whnf) | (refine LoadV.s rfl rfl ?_; conv => whnf) | (refine StoreV.c rfl rfl (Nat.le_of_ble_eq_true rfl) rfl ?_; conv => whnf) | (refine LoadV.a _ rfl (Nat.le_of_ble_eq_true rfl) ?_; conv => whnf) | (refine DrawI.quiet (by kernel_rfl) (by kernel_rfl) ?_; conv => whnf) | (refine ArI.in64 (by omega) ?_; conv => whnf) | (refine ArI.inU8 (by omega) ?_; conv => whnf) | (refine ArI.inU64 (by omega) ?_; conv => whnf) | (refine ArI.inU32 (by omega) ?_; conv => whnf) | (refine RetI.one Try.results54 rfl ?_; conv => whnf) | (refine RetI.two Try.results54 rfl rfl ?_; conv => whnf) | (refine RetI.three Try.results54 rfl rfl rfl ?_; conv => whnf) | (refine RetI.none Try.results54 ?_; conv => whnf) | (refine ⟨by first | decide | omega, ?_⟩; conv => whnf))
    exact ⟨_, Sub.sel [] rfl, right_no (by unfold RightP; omega), rfl⟩
  conv => whnf
  repeat (first | (refine LoadV.s rfl rfl (forceV_of ?_); conv => whnf) | (refine LoadV.s rfl rfl ?_; conv => whnf) | (refine StoreV.c rfl rfl (Nat.le_of_ble_eq_true rfl) rfl ?_; conv => whnf) | (refine LoadV.a _ rfl (Nat.le_of_ble_eq_true rfl) ?_; conv => whnf) | (refine DrawI.quiet (by kernel_rfl) (by kernel_rfl) ?_; conv => whnf) | (refine ArI.in64 (by omega) ?_; conv => whnf) | (refine ArI.inU8 (by omega) ?_; conv => whnf) | (refine ArI.inU64 (by omega) ?_; conv => whnf) | (refine ArI.inU32 (by omega) ?_; conv => whnf) | (refine RetI.one Try.results54 rfl ?_; conv => whnf) | (refine RetI.two Try.results54 rfl rfl ?_; conv => whnf) | (refine RetI.three Try.results54 rfl rfl rfl ?_; conv => whnf) | (refine RetI.none Try.results54 ?_; conv => whnf) | (refine ⟨by first | decide | omega, ?_⟩; conv => whnf))
  refine cond_dec (fun h3 => ?_) (fun h3 => ?_)
  · conv => whnf
    repeat (first | (refine LoadV.s rfl rfl (forceV_of ?_); conv => whnf) | (refine LoadV.s rfl rfl ?_; conv => whnf) | (refine StoreV.c rfl rfl (Nat.le_of_ble_eq_true rfl) rfl ?_; conv => whnf) | (refine LoadV.a _ rfl (Nat.le_of_ble_eq_true rfl) ?_; conv => whnf) | (refine DrawI.quiet (by kernel_rfl) (by kernel_rfl) ?_; conv => whnf) | (refine ArI.in64 (by omega) ?_; conv => whnf) | (refine ArI.inU8 (by omega) ?_; conv => whnf) | (refine ArI.inU64 (by omega) ?_; conv => whnf) | (refine ArI.inU32 (by omega) ?_; conv => whnf) | (refine RetI.one Try.results54 rfl ?_; conv => whnf) | (refine RetI.two Try.results54 rfl rfl ?_; conv => whnf) | (refine RetI.three Try.results54 rfl rfl rfl ?_; conv => whnf) | (refine RetI.none Try.results54 ?_; conv => whnf) | (refine ⟨by first | decide | omega, ?_⟩; conv => whnf))
    exact ⟨_, Sub.sel [] rfl, right_no (by unfold RightP; omega), rfl⟩
  conv => whnf
  repeat (first | (refine LoadV.s rfl rfl (forceV_of ?_); conv => whnf) | (refine LoadV.s rfl rfl ?_; conv => whnf) | (refine StoreV.c rfl rfl (Nat.le_of_ble_eq_true rfl) rfl ?_; conv => whnf) | (refine LoadV.a _ rfl (Nat.le_of_ble_eq_true rfl) ?_; conv => whnf) | (refine DrawI.quiet (by kernel_rfl) (by kernel_rfl) ?_; conv => whnf) | (refine ArI.in64 (by omega) ?_; conv => whnf) | (refine ArI.inU8 (by omega) ?_; conv => whnf) | (refine ArI.inU64 (by omega) ?_; conv => whnf) | (refine ArI.inU32 (by omega) ?_; conv => whnf) | (refine RetI.one Try.results54 rfl ?_; conv => whnf) | (refine RetI.two Try.results54 rfl rfl ?_; conv => whnf) | (refine RetI.three Try.results54 rfl rfl rfl ?_; conv => whnf) | (refine RetI.none Try.results54 ?_; conv => whnf) | (refine ⟨by first | decide | omega, ?_⟩; conv => whnf))
  refine cond_dec (fun h4 => ?_) (fun h4 => ?_)
  · conv => whnf
    repeat (first | (refine LoadV.s rfl rfl (forceV_of ?_); conv => whnf) | (refine LoadV.s rfl rfl ?_; conv => whnf) | (refine StoreV.c rfl rfl (Nat.le_of_ble_eq_true rfl) rfl ?_; conv => whnf) | (refine LoadV.a _ rfl (Nat.le_of_ble_eq_true rfl) ?_; conv => whnf) | (refine DrawI.quiet (by kernel_rfl) (by kernel_rfl) ?_; conv => whnf) | (refine ArI.in64 (by omega) ?_; conv => whnf) | (refine ArI.inU8 (by omega) ?_; conv => whnf) | (refine ArI.inU64 (by omega) ?_; conv => whnf) | (refine ArI.inU32 (by omega) ?_; conv => whnf) | (refine RetI.one Try.results54 rfl ?_; conv => whnf) | (refine RetI.two Try.results54 rfl rfl ?_; conv => whnf) | (refine RetI.three Try.results54 rfl rfl rfl ?_; conv => whnf) | (refine RetI.none Try.results54 ?_; conv => whnf) | (refine ⟨by first | decide | omega, ?_⟩; conv => whnf))
    exact ⟨_, Sub.sel [] rfl, right_no (by unfold RightP; omega), rfl⟩
  conv => whnf
  repeat (first | (refine LoadV.s rfl rfl (forceV_of ?_); conv => whnf) | (refine LoadV.s rfl rfl ?_; conv => whnf) | (refine StoreV.c rfl rfl (Nat.le_of_ble_eq_true rfl) rfl ?_; conv => whnf) | (refine LoadV.a _ rfl (Nat.le_of_ble_eq_true rfl) ?_; conv => whnf) | (refine DrawI.quiet (by kernel_rfl) (by kernel_rfl) ?_; conv => whnf) | (refine ArI.in64 (by omega) ?_; conv => whnf) | (refine ArI.inU8 (by omega) ?_; conv => whnf) | (refine ArI.inU64 (by omega) ?_; conv => whnf) | (refine ArI.inU32 (by omega) ?_; conv => whnf) | (refine RetI.one Try.results54 rfl ?_; conv => whnf) | (refine RetI.two Try.results54 rfl rfl ?_; conv => whnf) | (refine RetI.three Try.results54 rfl rfl rfl ?_; conv => whnf) | (refine RetI.none Try.results54 ?_; conv => whnf) | (refine ⟨by first | decide | omega, ?_⟩; conv => whnf))
  refine cond_dec (fun h5 => ?_) (fun h5 => ?_)
  · conv => whnf
    repeat (first | (refine LoadV.s rfl rfl (forceV_of ?_); conv => whnf) | (refine LoadV.s rfl rfl ?_; conv => whnf) | (refine StoreV.c rfl rfl (Nat.le_of_ble_eq_true rfl) rfl ?_; conv => whnf) | (refine LoadV.a _ rfl (Nat.le_of_ble_eq_true rfl) ?_; conv => whnf) | (refine DrawI.quiet (by kernel_rfl) (by kernel_rfl) ?_; conv => whnf) | (refine ArI.in64 (by omega) ?_; conv => whnf) | (refine ArI.inU8 (by omega) ?_; conv => whnf) | (refine ArI.inU64 (by omega) ?_; conv => whnf) | (refine ArI.inU32 (by omega) ?_; conv => whnf) | (refine RetI.one Try.results54 rfl ?_; conv => whnf) | (refine RetI.two Try.results54 rfl rfl ?_; conv => whnf) | (refine RetI.three Try.results54 rfl rfl rfl ?_; conv => whnf) | (refine RetI.none Try.results54 ?_; conv => whnf) | (refine ⟨by first | decide | omega, ?_⟩; conv => whnf))
    exact ⟨_, Sub.sel [] rfl, right_no (by unfold RightP; omega), rfl⟩
  conv => whnf
  repeat (first | (refine LoadV.s rfl rfl (forceV_of ?_); conv => whnf) | (refine LoadV.s rfl rfl ?_; conv => whnf) | (refine StoreV.c rfl rfl (Nat.le_of_ble_eq_true rfl) rfl ?_; conv => whnf) | (refine LoadV.a _ rfl (Nat.le_of_ble_eq_true rfl) ?_; conv => whnf) | (refine DrawI.quiet (by kernel_rfl) (by kernel_rfl) ?_; conv => whnf) | (refine ArI.in64 (by omega) ?_; conv => whnf) | (refine ArI.inU8 (by omega) ?_; conv => whnf) | (refine ArI.inU64 (by omega) ?_; conv => whnf) | (refine ArI.inU32 (by omega) ?_; conv => whnf) | (refine RetI.one Try.results54 rfl ?_; conv => whnf) | (refine RetI.two Try.results54 rfl rfl ?_; conv => whnf) | (refine RetI.three Try.results54 rfl rfl rfl ?_; conv => whnf) | (refine RetI.none Try.results54 ?_; conv => whnf) | (refine ⟨by first | decide | omega, ?_⟩; conv => whnf))
  refine cond_dec (fun h6 => ?_) (fun h6 => ?_)
  · conv => whnf
    repeat (first | (refine LoadV.s rfl rfl (forceV_of ?_); conv => whnf) | (refine LoadV.s rfl rfl ?_; conv => whnf) | (refine StoreV.c rfl rfl (Nat.le_of_ble_eq_true rfl) rfl ?_; conv => whnf) | (refine LoadV.a _ rfl (Nat.le_of_ble_eq_true rfl) ?_; conv => whnf) | (refine DrawI.quiet (by kernel_rfl) (by kernel_rfl) ?_; conv => whnf) | (refine ArI.in64 (by omega) ?_; conv => whnf) | (refine ArI.inU8 (by omega) ?_; conv => whnf) | (refine ArI.inU64 (by omega) ?_; conv => whnf) | (refine ArI.inU32 (by omega) ?_; conv => whnf) | (refine RetI.one Try.results54 rfl ?_; conv => whnf) | (refine RetI.two Try.results54 rfl rfl ?_; conv => whnf) | (refine RetI.three Try.results54 rfl rfl rfl ?_; conv => whnf) | (refine RetI.none Try.results54 ?_; conv => whnf) | (refine ⟨by first | decide | omega, ?_⟩; conv => whnf))
    exact ⟨_, Sub.sel [] rfl, right_no (by unfold RightP; omega), rfl⟩
  conv => whnf
  repeat (first | (refine LoadV.s rfl rfl (forceV_of ?_); conv => whnf) | (refine LoadV.s rfl rfl ?_; conv => whnf) | (refine StoreV.c rfl rfl (Nat.le_of_ble_eq_true rfl) rfl ?_; conv => whnf) | (refine LoadV.a _ rfl (Nat.le_of_ble_eq_true rfl) ?_; conv => whnf) | (refine DrawI.quiet (by kernel_rfl) (by kernel_rfl) ?_; conv => whnf) | (refine ArI.in64 (by omega) ?_; conv => whnf) | (refine ArI.inU8 (by omega) ?_; conv => whnf) | (refine ArI.inU64 (by omega) ?_; conv => whnf) | (refine ArI.inU32 (by omega) ?_; conv => whnf) | (refine RetI.one Try.results54 rfl ?_; conv => whnf) | (refine RetI.two Try.results54 rfl rfl ?_; conv => whnf) | (refine RetI.three Try.results54 rfl rfl rfl ?_; conv => whnf) | (refine RetI.none Try.results54 ?_; conv => whnf) | (refine ⟨by first | decide | omega, ?_⟩; conv => whnf))
  refine cond_dec (fun h7 => ?_) (fun h7 => ?_)
  · conv => whnf
    repeat (first | (refine LoadV.s rfl rfl (forceV_of ?_); conv => whnf) | (refine LoadV.s rfl rfl ?_; conv => whnf) | (refine StoreV.c rfl rfl (Nat.le_of_ble_eq_true rfl) rfl ?_; conv => whnf) | (refine LoadV.a _ rfl (Nat.le_of_ble_eq_true rfl) ?_; conv => whnf) | (refine DrawI.quiet (by kernel_rfl) (by kernel_rfl) ?_; conv => whnf) | (refine ArI.in64 (by omega) ?_; conv => whnf) | (refine ArI.inU8 (by omega) ?_; conv => whnf) | (refine ArI.inU64 (by omega) ?_; conv => whnf) | (refine ArI.inU32 (by omega) ?_; conv => whnf) | (refine RetI.one Try.results54 rfl ?_; conv => whnf) | (refine RetI.two Try.results54 rfl rfl ?_; conv => whnf) | (refine RetI.three Try.results54 rfl rfl rfl ?_; conv => whnf) | (refine RetI.none Try.results54 ?_; conv => whnf) | (refine ⟨by first | decide | omega, ?_⟩; conv => whnf))
    exact ⟨_, Sub.sel [] rfl, right_no (by unfold RightP; omega), rfl⟩
  conv => whnf
  repeat (first | (refine LoadV.s rfl rfl (forceV_of ?_); conv => whnf) | (refine LoadV.s rfl rfl ?_; conv => whnf) | (refine StoreV.c rfl rfl (Nat.le_of_ble_eq_true rfl) rfl ?_; conv => whnf) | (refine LoadV.a _ rfl (Nat.le_of_ble_eq_true rfl) ?_; conv => whnf) | (refine DrawI.quiet (by kernel_rfl) (by kernel_rfl) ?_; conv => whnf) | (refine ArI.in64 (by omega) ?_; conv => whnf) | (refine ArI.inU8 (by omega) ?_; conv => whnf) | (refine ArI.inU64 (by omega) ?_; conv => whnf) | (refine ArI.inU32 (by omega) ?_; conv => whnf) | (refine RetI.one Try.results54 rfl ?_; conv => whnf) | (refine RetI.two Try.results54 rfl rfl ?_; conv => whnf) | (refine RetI.three Try.results54 rfl rfl rfl ?_; conv => whnf) | (refine RetI.none Try.results54 ?_; conv => whnf) | (refine ⟨by first | decide | omega, ?_⟩; conv => whnf))
  refine cond_dec (fun h8 => ?_) (fun h8 => ?_)
  · conv => whnf
    repeat (first | (refine LoadV.s rfl rfl (forceV_of ?_); conv => whnf) | (refine LoadV.s rfl rfl ?_; conv => whnf) | (refine StoreV.c rfl rfl (Nat.le_of_ble_eq_true rfl) rfl ?_; conv => whnf) | (refine LoadV.a _ rfl (Nat.le_of_ble_eq_true rfl) ?_; conv => whnf) | (refine DrawI.quiet (by kernel_rfl) (by kernel_rfl) ?_; conv => whnf) | (refine ArI.in64 (by omega) ?_; conv => whnf) | (refine ArI.inU8 (by omega) ?_; conv => whnf) | (refine ArI.inU64 (by omega) ?_; conv => whnf) | (refine ArI.inU32 (by omega) ?_; conv => whnf) | (refine RetI.one Try.results54 rfl ?_; conv => whnf) | (refine RetI.two Try.results54 rfl rfl ?_; conv => whnf) | (refine RetI.three Try.results54 rfl rfl rfl ?_; conv => whnf) | (refine RetI.none Try.results54 ?_; conv => whnf) | (refine ⟨by first | decide | omega, ?_⟩; conv => whnf))
    refine ⟨_, Sub.sel [] rfl, right_is ?_, rfl⟩
    unfold RightP
    rw [beq_iff_eq, if_neg (by omega)]
    omega
  conv => whnf
  repeat (first | (refine LoadV.s rfl rfl (forceV_of ?_); conv => whnf) | (refine LoadV.s rfl rfl ?_; conv => whnf) | (refine StoreV.c rfl rfl (Nat.le_of_ble_eq_true rfl) rfl ?_; conv => whnf) | (refine LoadV.a _ rfl (Nat.le_of_ble_eq_true rfl) ?_; conv => whnf) | (refine DrawI.quiet (by kernel_rfl) (by kernel_rfl) ?_; conv => whnf) | (refine ArI.in64 (by omega) ?_; conv => whnf) | (refine ArI.inU8 (by omega) ?_; conv => whnf) | (refine ArI.inU64 (by omega) ?_; conv => whnf) | (refine ArI.inU32 (by omega) ?_; conv => whnf) | (refine RetI.one Try.results54 rfl ?_; conv => whnf) | (refine RetI.two Try.results54 rfl rfl ?_; conv => whnf) | (refine RetI.three Try.results54 rfl rfl rfl ?_; conv => whnf) | (refine RetI.none Try.results54 ?_; conv => whnf) | (refine ⟨by first | decide | omega, ?_⟩; conv => whnf))
  refine cond_dec (fun h9 => ?_) (fun h9 => ?_)
  · conv => whnf
    repeat (first | (refine LoadV.s rfl rfl (forceV_of ?_); conv => whnf) | (refine LoadV.s rfl rfl ?_; conv => whnf) | (refine StoreV.c rfl rfl (Nat.le_of_ble_eq_true rfl) rfl ?_; conv => whnf) | (refine LoadV.a _ rfl (Nat.le_of_ble_eq_true rfl) ?_; conv => whnf) | (refine DrawI.quiet (by kernel_rfl) (by kernel_rfl) ?_; conv => whnf) | (refine ArI.in64 (by omega) ?_; conv => whnf) | (refine ArI.inU8 (by omega) ?_; conv => whnf) | (refine ArI.inU64 (by omega) ?_; conv => whnf) | (refine ArI.inU32 (by omega) ?_; conv => whnf) | (refine RetI.one Try.results54 rfl ?_; conv => whnf) | (refine RetI.two Try.results54 rfl rfl ?_; conv => whnf) | (refine RetI.three Try.results54 rfl rfl rfl ?_; conv => whnf) | (refine RetI.none Try.results54 ?_; conv => whnf) | (refine ⟨by first | decide | omega, ?_⟩; conv => whnf))
    refine ⟨_, Sub.sel [] rfl, right_is ?_, rfl⟩
    unfold RightP
    rw [if_pos (by omega)]
    exact ⟨fun _ => by omega, fun _ => rfl⟩
  conv => whnf
  repeat (first | (refine LoadV.s rfl rfl (forceV_of ?_); conv => whnf) | (refine LoadV.s rfl rfl ?_; conv => whnf) | (refine StoreV.c rfl rfl (Nat.le_of_ble_eq_true rfl) rfl ?_; conv => whnf) | (refine LoadV.a _ rfl (Nat.le_of_ble_eq_true rfl) ?_; conv => whnf) | (refine DrawI.quiet (by kernel_rfl) (by kernel_rfl) ?_; conv => whnf) | (refine ArI.in64 (by omega) ?_; conv => whnf) | (refine ArI.inU8 (by omega) ?_; conv => whnf) | (refine ArI.inU64 (by omega) ?_; conv => whnf) | (refine ArI.inU32 (by omega) ?_; conv => whnf) | (refine RetI.one Try.results54 rfl ?_; conv => whnf) | (refine RetI.two Try.results54 rfl rfl ?_; conv => whnf) | (refine RetI.three Try.results54 rfl rfl rfl ?_; conv => whnf) | (refine RetI.none Try.results54 ?_; conv => whnf) | (refine ⟨by first | decide | omega, ?_⟩; conv => whnf))
  refine ⟨_, Sub.sel [] rfl, right_is ?_, rfl⟩
  unfold RightP
  rw [beq_iff_eq, if_pos (by omega)]
  omega
/-- How many pieces. -/
def partsN (n : Nat) : Nat := max 1 ((n + 22) / 23)
end Go.Proofs.Ytgodkfaacjllcaa

/- Packing and unpacking undo one another: the plain law. -/
namespace Go.Proofs.Ytgodkfaacjllcaa
set_option linter.unusedVariables false
set_option linter.unusedSimpArgs false
set_option maxRecDepth 100000
open SL Go.RowKit Go.Maps

theorem takeAll_fields (rest : List Bool) : ∀ (fs : List (Nat × Int)) (pre : List Bool), allFit fs = true → takeAll (pre ++ (fieldsBits fs ++ rest)) pre.length (fs.map (·.2)) = some (fs.map (·.1), pre.length + (fieldsBits fs).length)
  | [], pre, _ => by simp [takeAll, fieldsBits]
  | p :: fs, pre, h => by
    simp only [allFit, List.all_cons, Bool.and_eq_true] at h
    have hw := fitsB_width h.1
    have hT : pre ++ (fieldsBits (p :: fs) ++ rest) = (pre ++ bitsOf p.2.toNat p.1) ++ (fieldsBits fs ++ rest) := by simp [fieldsBits]
    have hok : takeOk (pre ++ (fieldsBits (p :: fs) ++ rest)) pre.length p.2 := by
      refine ⟨hw.1, hw.2.1, ?_⟩
      rw [hT]; simp [bitsOf_length]
    have ih := takeAll_fields rest fs (pre ++ bitsOf p.2.toNat p.1) h.2
    simp only [List.map_cons, takeAll, if_pos hok]
    have hlen : (pre ++ bitsOf p.2.toNat p.1).length = pre.length + p.2.toNat := by rw [List.length_append, bitsOf_length]
    rw [hlen] at ih
    rw [hT, ih]
    have htk : ((pre ++ bitsOf p.2.toNat p.1 ++ (fieldsBits fs ++ rest)).drop pre.length).take p.2.toNat = bitsOf p.2.toNat p.1 := by
      rw [List.append_assoc, List.drop_left, List.take_append_of_le_length (by rw [bitsOf_length]; exact Nat.le_refl _), List.take_of_length_le (by rw [bitsOf_length]; exact Nat.le_refl _)]
    rw [htk, num_bitsOf, Nat.mod_eq_of_lt hw.2.2]
    have e3 : (fieldsBits (p :: fs)).length = p.2.toNat + (fieldsBits fs).length := by simp [fieldsBits, bitsOf_length]
    rw [e3, ← Nat.add_assoc]; rfl
theorem takeAll_inv {T : List Bool} : ∀ {ws : List Int} {n : Nat} {l : List Nat} {m : Nat}, n ≤ T.length → takeAll T n ws = some (l, m) → allFit (l.zip ws) = true ∧ fieldsBits (l.zip ws) = (T.drop n).take (m - n)
  | [], n, l, m, hn, h => by simp only [takeAll, Option.some.injEq, Prod.mk.injEq] at h; obtain ⟨rfl, rfl⟩ := h; simp [allFit, fieldsBits]
  | w :: ws, n, l, m, hn, h => by
    simp only [takeAll] at h
    split at h
    · rename_i hok
      obtain ⟨p, hp, he⟩ := Option.map_eq_some_iff.1 h
      simp only [Prod.mk.injEq] at he
      obtain ⟨rfl, rfl⟩ := he
      unfold takeOk at hok
      have hp' : takeAll T (n + w.toNat) ws = some (p.1, p.2) := hp
      have ⟨h1, h2⟩ := takeAll_inv (by omega) hp'
      have ⟨_, _, h3⟩ := takeAll_le (by omega) hp'
      have hlen : ((T.drop n).take w.toNat).length = w.toNat := by rw [List.length_take, List.length_drop]; omega
      refine ⟨?_, ?_⟩
      · simp only [List.zip_cons_cons, allFit, List.all_cons, Bool.and_eq_true]
        refine ⟨decide_eq_true ⟨hok.1, hok.2.1, ?_⟩, h1⟩
        have := num_lt ((T.drop n).take w.toNat)
        rwa [hlen] at this
      · simp only [List.zip_cons_cons, fieldsBits, List.flatMap_cons] at h2 ⊢
        rw [h2]
        have hb := bitsOf_num ((T.drop n).take w.toNat)
        rw [hlen] at hb
        rw [hb, show p.2 - n = w.toNat + (p.2 - (n + w.toNat)) by omega, List.take_add, List.drop_drop]
    · cases h
theorem packB_pad (B : List Bool) : packB (B ++ List.replicate (8 * ((B.length + 7) / 8) - B.length) false) = packB B := by
  rw [← textBits_pack, packB_textBits _ (packB_lt B)]
theorem strB_lt {B : List Bool} : txt (strB (packB B)) = packB B := txt_strB (packB_lt B)
/-- What is packed is unpacked. -/
theorem unpack_pack {fs : List (Nat × Int)} (h : allFit fs = true) : unpackB (textBits (txt (packR fs).1)) (fs.map (·.2)) = some (fs.map (·.1)) := by
  have e : (packR fs).1 = strB (packB (fieldsBits fs)) := by unfold packR; rw [if_pos h]
  rw [e, strB_lt, textBits_pack]
  unfold unpackB
  have := takeAll_fields (List.replicate (8 * (((fieldsBits fs).length + 7) / 8) - (fieldsBits fs).length) false) fs [] h
  simp only [List.nil_append, List.length_nil, Nat.zero_add] at this
  rw [this]
  simp only
  have hd : doneB (fieldsBits fs ++ List.replicate (8 * (((fieldsBits fs).length + 7) / 8) - (fieldsBits fs).length) false) (fieldsBits fs).length = true := by
    unfold doneB
    refine decide_eq_true ⟨by rw [List.length_append, List.length_replicate]; omega, ?_⟩
    rw [List.drop_left]
    exact num_zero.2 fun b hb => (List.mem_replicate.1 hb).2
  rw [hd]; rfl
/-- A byte more is too much. -/
theorem unpack_more {fs : List (Nat × Int)} (h : allFit fs = true) : unpackB (textBits (txt ((packR fs).1 ++ ⟨#[0]⟩))) (fs.map (·.2)) = none := by
  have e : (packR fs).1 = strB (packB (fieldsBits fs)) := by unfold packR; rw [if_pos h]
  have e2 : (⟨#[0]⟩ : ByteArray) = strB [0] := rfl
  rw [e, txt_append, strB_lt, e2, txt_strB (by simp), textBits_append, textBits_pack, List.append_assoc]
  unfold unpackB
  have := takeAll_fields (List.replicate (8 * (((fieldsBits fs).length + 7) / 8) - (fieldsBits fs).length) false ++ textBits [0]) fs [] h
  simp only [List.nil_append, List.length_nil, Nat.zero_add] at this
  rw [this]
  simp only
  have hd : doneB (fieldsBits fs ++ (List.replicate (8 * (((fieldsBits fs).length + 7) / 8) - (fieldsBits fs).length) false ++ textBits [0])) (fieldsBits fs).length = false := by
    unfold doneB
    refine decide_eq_false fun hh => ?_
    have := hh.1
    rw [List.length_append, List.length_append, textBits_length] at this
    simp at this
    omega
  rw [hd]; rfl
/-- What is unpacked was packed so. -/
theorem pack_unpack {s : ByteArray} {ws : List Int} {l : List Nat} (h : unpackB (textBits (txt s)) ws = some l) : l.length = ws.length ∧ packR (l.zip ws) = (s, 0) := by
  unfold unpackB at h
  split at h
  · rename_i l' n hta
    split at h
    · rename_i hd
      simp only [Option.some.injEq] at h
      subst h
      obtain ⟨h1, h2⟩ := takeAll_inv (Nat.zero_le _) hta
      obtain ⟨h3, h4, _⟩ := takeAll_le (Nat.zero_le _) hta
      refine ⟨h4, ?_⟩
      unfold packR
      rw [if_pos h1, h2, List.drop_zero, Nat.sub_zero]
      unfold doneB at hd
      obtain ⟨hd1, hd2⟩ := of_decide_eq_true hd
      have hz := num_zero.1 hd2
      have hT := textBits_length (txt s)
      have htl : ((textBits (txt s)).take n).length = n := by rw [List.length_take]; omega
      have hrep : (textBits (txt s)).drop n = List.replicate (8 * (((textBits (txt s)).take n).length + 7 ) / 8 * 0 + ((textBits (txt s)).length - n)) false := by
        refine List.eq_replicate_iff.2 ⟨by rw [List.length_drop]; omega, hz⟩
      have hpad := packB_pad ((textBits (txt s)).take n)
      rw [htl, show 8 * ((n + 7) / 8) - n = (textBits (txt s)).length - n by omega] at hpad
      have hrep2 : (textBits (txt s)).drop n = List.replicate ((textBits (txt s)).length - n) false := List.eq_replicate_iff.2 ⟨by rw [List.length_drop], hz⟩
      rw [← hrep2, List.take_append_drop, packB_textBits _ (txt_lt s)] at hpad
      rw [← hpad, strB_txt]
    · cases h
  · cases h
end Go.Proofs.Ytgodkfaacjllcaa

/- A frame's blocks, written. -/
namespace Go.Proofs.Ytgodkfaacjllcaa
set_option linter.unusedVariables false
set_option linter.unusedSimpArgs false
set_option maxRecDepth 100000
open SL Go.RowKit Go.Maps

def headF (sq pt ps n : Nat) : List (Nat × Int) := [(sq, 16), (pt, 8), (ps, 8), (n, 8)]
def headL (sq pt ps n : Nat) : List Nat := [sq / 256, sq % 256, pt, ps, n]
theorem headL_lt {sq pt ps n : Nat} (h0 : sq < 65536) (h1 : pt < 256) (h2 : ps < 256) (h3 : n < 256) : ∀ x ∈ headL sq pt ps n, x < 256 := by
  intro x hx
  simp only [headL, List.mem_cons, List.not_mem_nil, or_false] at hx
  omega
theorem bits_two (x : Nat) : bitsOf 16 x = bitsOf 8 (x / 256) ++ bitsOf 8 (x % 256) := by
  have := bitsOf_add 8 8 x
  rw [this, show x % 256 = x % 2 ^ 8 from rfl, bitsOf_mod (Nat.le_refl 8)]
theorem head_bits (sq pt ps n : Nat) : fieldsBits (headF sq pt ps n) = textBits (headL sq pt ps n) := by
  show bitsOf 16 sq ++ (bitsOf 8 pt ++ (bitsOf 8 ps ++ (bitsOf 8 n ++ []))) = bitsOf 8 (sq / 256) ++ (bitsOf 8 (sq % 256) ++ (bitsOf 8 pt ++ (bitsOf 8 ps ++ (bitsOf 8 n ++ []))))
  rw [bits_two, List.append_assoc]
theorem head_fit {sq pt ps n : Nat} (h0 : sq < 65536) (h1 : pt < 256) (h2 : ps < 256) (h3 : n < 256) : allFit (headF sq pt ps n) = true := by
  simp [headF, allFit, fitsB]
  exact ⟨decide_eq_true h0, decide_eq_true h1, decide_eq_true h2, decide_eq_true h3⟩
theorem head_pack {sq pt ps n : Nat} (h0 : sq < 65536) (h1 : pt < 256) (h2 : ps < 256) (h3 : n < 256) : packR (headF sq pt ps n) = (strB (headL sq pt ps n), 0) := by
  rw [packR, if_pos (head_fit h0 h1 h2 h3), head_bits, packB_textBits _ (headL_lt h0 h1 h2 h3)]
theorem pack_lit (F : Mem) (oa : Option Addr) (n ca : Nat) (fs : List (Nat × Int)) (hn0 : n = fs.length) (hw : SlF F 2 oa n (fs.flatMap fldF)) (hu : U64s fs) (hn : n ≤ 549755813887) {x0 : ByteArray} {er : Int} (h : packR fs = (x0, er)) :
    FT Try.prog 59 [.slice oa n ca].toArray F [] (fun e H => ∃ x, x = x0 ∧ e = .returned (.tuple #[.string x, .int .i64 er]) ∧ H = []) := by
  subst hn0
  have := bPack_ok F oa ca fs hw hu hn
  rw [h] at this
  exact this.mono fun e H ⟨h1, h2⟩ => ⟨x0, rfl, h1, h2⟩
/-- A block's first 28 bytes. -/
def bodyL (sq pt ps : Nat) (d : ByteArray) : List Nat := headL sq pt ps d.size ++ txt d ++ List.replicate (23 - d.size) 0
def blockL (sq pt ps : Nat) (d : ByteArray) : List Nat := bodyL sq pt ps d ++ bytesN (extN 0 (bodyL sq pt ps d))
theorem bodyL_length {sq pt ps : Nat} {d : ByteArray} (h : d.size ≤ 23) : (bodyL sq pt ps d).length = 28 := by
  have := txt_length d
  simp [bodyL, headL]; omega
theorem bodyL_lt {sq pt ps : Nat} {d : ByteArray} (h0 : sq < 65536) (h1 : pt < 256) (h2 : ps < 256) (h : d.size ≤ 23) : ∀ x ∈ bodyL sq pt ps d, x < 256 := by
  intro x hx
  rcases List.mem_append.1 hx with hx | hx
  · rcases List.mem_append.1 hx with hx | hx
    · exact headL_lt h0 h1 h2 (by omega) x hx
    · exact txt_lt d x hx
  · rw [(List.mem_replicate.1 hx).2]; decide
/-- What a block is. -/
def blockR (sq pt ps : Int) (d : ByteArray) : ByteArray × Int := if rightB sq pt ps d.size = true then (strB (blockL sq.toNat pt.toNat ps.toNat d), 0) else (⟨#[]⟩, 7)
theorem bytesV_append (a b : List Nat) : bytesV (a ++ b) = bytesV a ++ bytesV b := List.map_append
/-- The bytes of a slice that owns its row, as a text. -/
theorem own_text {C : Ctx} {b c n T : Nat} {l : List Nat} {KV : Value → Prop} (hl : l.length = n) (k : KV (.string (strB l))) :
    QuietV C Try.prog [.own (svOf (some (b, c)) n) n T 1 (bytesV l)] (convert 118 9 (svOf (some (b, c)) n)) KV := by
  refine QuietV.bytes_string (l := l) Try.underlying118 Try.underlying5 Try.underlying9 hl ?_ k
  have := Row.own (C := C) (H := [.own (svOf (some (b, c)) n) n T 1 (bytesV l)]) (b := b) (o := 0) l.length
  rwa [List.drop_zero, List.take_of_length_le (by simp)] at this
theorem quo_i64 (n k c : Nat) (hn : n ≤ 9223372036854775807) (h : n / k = c) : IntKind.i64.wrap ((n : Int).tdiv (k : Int)) = (c : Int) := by
  rw [Int.tdiv_eq_ediv_of_nonneg (by omega), ← Int.natCast_ediv, h]
  exact IntWalk.i64_in _ (by have := Nat.div_le_self n k; omega)
theorem block_ok (F : Mem) (sq pt ps : Int) (d : ByteArray) : FT Try.prog 49 [pieceV sq pt ps d].toArray F [] (Ret (.tuple #[.string (blockR sq pt ps d).1, .int .i64 (blockR sq pt ps d).2])) := by
  refine FT.of_body Try.func49 rfl Try.ntmps49 (by simp) fun C hC => ?_
  subst hC
  conv => whnf
  intro b
  conv => whnf
  repeat (first | (refine LoadV.s rfl rfl (forceV_of ?_); conv => whnf) | (refine LoadV.s rfl rfl ?_; conv => whnf) | (refine StoreV.c rfl rfl (Nat.le_of_ble_eq_true rfl) rfl ?_; conv => whnf) | (refine LoadV.a _ rfl (Nat.le_of_ble_eq_true rfl) ?_; conv => whnf) | (refine DrawI.quiet (by kernel_rfl) (by kernel_rfl) ?_; conv => whnf) | (refine ArI.in64 (by omega) ?_; conv => whnf) | (refine ArI.inU8 (by omega) ?_; conv => whnf) | (refine ArI.inU64 (by omega) ?_; conv => whnf) | (refine ArI.inU32 (by omega) ?_; conv => whnf) | (refine RetI.one Try.results49 rfl ?_; conv => whnf) | (refine RetI.two Try.results49 rfl rfl ?_; conv => whnf) | (refine RetI.three Try.results49 rfl rfl rfl ?_; conv => whnf) | (refine RetI.none Try.results49 ?_; conv => whnf) | (refine ⟨by first | decide | omega, ?_⟩; conv => whnf))
  refine CallS.mk Try.call58 ⟨[], _, _, Sub.refl _, fun F' hF' => right_ok F' sq pt ps d, ?_⟩
  rintro e A' ⟨rfl, rfl⟩
  cases hb : rightB sq pt ps d.size with
  | false =>
    conv => whnf
    repeat (first | (refine LoadV.s rfl rfl (forceV_of ?_); conv => whnf) | (refine LoadV.s rfl rfl ?_; conv => whnf) | (refine StoreV.c rfl rfl (Nat.le_of_ble_eq_true rfl) rfl ?_; conv => whnf) | (refine LoadV.a _ rfl (Nat.le_of_ble_eq_true rfl) ?_; conv => whnf) | (refine DrawI.quiet (by kernel_rfl) (by kernel_rfl) ?_; conv => whnf) | (refine ArI.in64 (by omega) ?_; conv => whnf) | (refine ArI.inU8 (by omega) ?_; conv => whnf) | (refine ArI.inU64 (by omega) ?_; conv => whnf) | (refine ArI.inU32 (by omega) ?_; conv => whnf) | (refine RetI.one Try.results49 rfl ?_; conv => whnf) | (refine RetI.two Try.results49 rfl rfl ?_; conv => whnf) | (refine RetI.three Try.results49 rfl rfl rfl ?_; conv => whnf) | (refine RetI.none Try.results49 ?_; conv => whnf) | (refine ⟨by first | decide | omega, ?_⟩; conv => whnf))
    exact ⟨_, Sub.sel [] rfl, by rw [blockR, if_neg (by rw [hb]; simp)], rfl⟩
  | true =>
    have hR : RightP sq pt ps d.size := of_decide_eq_true hb
    have hbr : blockR sq pt ps d = (strB (blockL sq.toNat pt.toNat ps.toNat d), 0) := by rw [blockR, if_pos hb]
    rw [hbr]
    clear hbr hb
    unfold RightP at hR
    obtain ⟨x, rfl⟩ := Int.eq_ofNat_of_zero_le (show 0 ≤ sq by omega)
    obtain ⟨y, rfl⟩ := Int.eq_ofNat_of_zero_le (show 0 ≤ pt by omega)
    obtain ⟨z, rfl⟩ := Int.eq_ofNat_of_zero_le (show 0 ≤ ps by omega)
    obtain ⟨n, hn⟩ : ∃ n, n = d.size := ⟨_, rfl⟩
    rw [Int.toNat_natCast, Int.toNat_natCast, Int.toNat_natCast]
    conv => whnf
    repeat (first | (refine LoadV.s rfl rfl (forceV_of ?_); conv => whnf) | (refine LoadV.s rfl rfl ?_; conv => whnf) | (refine StoreV.c rfl rfl (Nat.le_of_ble_eq_true rfl) rfl ?_; conv => whnf) | (refine LoadV.a _ rfl (Nat.le_of_ble_eq_true rfl) ?_; conv => whnf) | (refine DrawI.quiet (by kernel_rfl) (by kernel_rfl) ?_; conv => whnf) | (refine ArI.in64 (by omega) ?_; conv => whnf) | (refine ArI.inU8 (by omega) ?_; conv => whnf) | (refine ArI.inU64 (by omega) ?_; conv => whnf) | (refine ArI.inU32 (by omega) ?_; conv => whnf) | (refine RetI.one Try.results49 rfl ?_; conv => whnf) | (refine RetI.two Try.results49 rfl rfl ?_; conv => whnf) | (refine RetI.three Try.results49 rfl rfl rfl ?_; conv => whnf) | (refine RetI.none Try.results49 ?_; conv => whnf) | (refine ⟨by first | decide | omega, ?_⟩; conv => whnf))
    intro b2
    conv => whnf
    refine CallS.mk Try.call59 ⟨[], _, _, Sub.refl _, fun F' hF' => pack_lit F' (some ⟨b2, 0, none⟩) 4 4 (headF x y z d.size) rfl (SlF.cells hF' rfl) (by intro p hp; simp [headF] at hp; rcases hp with rfl | rfl | rfl | rfl <;> dsimp only <;> omega) (by decide) (head_pack (by omega) (by omega) (by omega) (by omega)), ?_⟩
    rintro e A' ⟨f, hf, rfl, rfl⟩
    have hfs : f.size = 5 := by rw [hf, strB_size]; rfl
    conv => whnf
    have hd : d.size ≤ 23 := by omega
    refine DrawI.mixed [8] [_] (by kernel_rfl) (by kernel_rfl) (by kernel_rfl) (by kernel_rfl) (by kernel_rfl) (Sub.sel [1] rfl) ?_
    conv => whnf
    refine LoadV.s rfl rfl ?_
    conv => whnf
    refine ⟨by omega, ?_⟩
    conv => whnf
    refine LoadV.s rfl rfl ?_
    conv => whnf
    refine ArI.to64 ((23 - d.size : Nat) : Int) (by omega) (by omega) ?_
    conv => whnf
    refine CallS.mk Try.call60 ⟨[], _, _, Sub.refl _, fun F' hF' => (repeat_ok F' 0 (23 - d.size) (by omega)), ?_⟩
    rintro e A' ⟨rfl, rfl⟩
    conv => whnf
    refine ⟨Sub.sel [1] rfl, ?_⟩
    conv => whnf
    have hbl := bodyL_length (sq := x) (pt := y) (ps := z) hd
    have hblt := bodyL_lt (sq := x) (pt := y) (ps := z) (d := d) (by omega) (by omega) (by omega) hd
    have hB : f ++ d ++ strB (List.replicate (23 - d.size) 0) = strB (bodyL x y z d) := by
      rw [hf]; conv => lhs; rw [← strB_txt d]
      rw [strB_append, strB_append]
      simp only [strB_txt]; rfl
    refine ⟨by rw [ByteArray.size_append, strB_size, hfs]; simp; omega, ?_⟩
    rw [hB]
    have hbs : (strB (bodyL x y z d)).size = 28 := by rw [strB_size, hbl]
    have hbt : txt (strB (bodyL x y z d)) = bodyL x y z d := txt_strB hblt
    have hres : strB (bodyL x y z d) ++ strB (bytesN (extN 0 (bodyL x y z d))) = strB (blockL x y z d) := strB_append _ _
    generalize strB (bodyL x y z d) = B at hbs hbt hres ⊢
    conv => whnf
    refine CallS.mk Try.call62 ⟨[], _, _, Sub.refl _, fun F' hF' => sum_ok F' B (by omega), ?_⟩
    rw [hbt]
    rintro e A' ⟨rfl, rfl⟩
    conv => whnf
    refine CallS.mk Try.call61 ⟨[], _, _, Sub.refl _, fun F' hF' => bytes_ok F' _ (extN_lt _ _), ?_⟩
    rintro e A' ⟨rfl, rfl⟩
    conv => whnf
    refine ⟨by rw [hbs, strB_size]; show 28 + 4 ≤ _; decide, ?_⟩
    rw [hres]
    conv => whnf
    repeat (first | (refine LoadV.s rfl rfl (forceV_of ?_); conv => whnf) | (refine LoadV.s rfl rfl ?_; conv => whnf) | (refine StoreV.c rfl rfl (Nat.le_of_ble_eq_true rfl) rfl ?_; conv => whnf) | (refine LoadV.a _ rfl (Nat.le_of_ble_eq_true rfl) ?_; conv => whnf) | (refine DrawI.quiet (by kernel_rfl) (by kernel_rfl) ?_; conv => whnf) | (refine ArI.in64 (by omega) ?_; conv => whnf) | (refine ArI.inU8 (by omega) ?_; conv => whnf) | (refine ArI.inU64 (by omega) ?_; conv => whnf) | (refine ArI.inU32 (by omega) ?_; conv => whnf) | (refine RetI.one Try.results49 rfl ?_; conv => whnf) | (refine RetI.two Try.results49 rfl rfl ?_; conv => whnf) | (refine RetI.three Try.results49 rfl rfl rfl ?_; conv => whnf) | (refine RetI.none Try.results49 ?_; conv => whnf) | (refine ⟨by first | decide | omega, ?_⟩; conv => whnf))
    exact ⟨_, Sub.sel [] rfl, rfl, rfl⟩
theorem rblock_ok (F : Mem) (sq pt ps : Int) (d : ByteArray) : FT Try.prog 53 [pieceV sq pt ps d].toArray F [] (Ret (.tuple #[.string (blockR sq pt ps d).1, .int .i64 (blockR sq pt ps d).2])) := by
  refine FT.of_body Try.func53 rfl Try.ntmps53 (by simp) fun C hC => ?_
  subst hC
  conv => whnf
  intro b
  conv => whnf
  repeat (first | (refine LoadV.s rfl rfl (forceV_of ?_); conv => whnf) | (refine LoadV.s rfl rfl ?_; conv => whnf) | (refine StoreV.c rfl rfl (Nat.le_of_ble_eq_true rfl) rfl ?_; conv => whnf) | (refine LoadV.a _ rfl (Nat.le_of_ble_eq_true rfl) ?_; conv => whnf) | (refine DrawI.quiet (by kernel_rfl) (by kernel_rfl) ?_; conv => whnf) | (refine ArI.in64 (by omega) ?_; conv => whnf) | (refine ArI.inU8 (by omega) ?_; conv => whnf) | (refine ArI.inU64 (by omega) ?_; conv => whnf) | (refine ArI.inU32 (by omega) ?_; conv => whnf) | (refine RetI.one Try.results53 rfl ?_; conv => whnf) | (refine RetI.two Try.results53 rfl rfl ?_; conv => whnf) | (refine RetI.three Try.results53 rfl rfl rfl ?_; conv => whnf) | (refine RetI.none Try.results53 ?_; conv => whnf) | (refine ⟨by first | decide | omega, ?_⟩; conv => whnf))
  refine CallS.mk Try.call54 ⟨[], _, _, Sub.refl _, fun F' hF' => rright_ok F' sq pt ps d, ?_⟩
  rintro e A' ⟨rfl, rfl⟩
  cases hb : rightB sq pt ps d.size with
  | false =>
    conv => whnf
    repeat (first | (refine LoadV.s rfl rfl (forceV_of ?_); conv => whnf) | (refine LoadV.s rfl rfl ?_; conv => whnf) | (refine StoreV.c rfl rfl (Nat.le_of_ble_eq_true rfl) rfl ?_; conv => whnf) | (refine LoadV.a _ rfl (Nat.le_of_ble_eq_true rfl) ?_; conv => whnf) | (refine DrawI.quiet (by kernel_rfl) (by kernel_rfl) ?_; conv => whnf) | (refine ArI.in64 (by omega) ?_; conv => whnf) | (refine ArI.inU8 (by omega) ?_; conv => whnf) | (refine ArI.inU64 (by omega) ?_; conv => whnf) | (refine ArI.inU32 (by omega) ?_; conv => whnf) | (refine RetI.one Try.results53 rfl ?_; conv => whnf) | (refine RetI.two Try.results53 rfl rfl ?_; conv => whnf) | (refine RetI.three Try.results53 rfl rfl rfl ?_; conv => whnf) | (refine RetI.none Try.results53 ?_; conv => whnf) | (refine ⟨by first | decide | omega, ?_⟩; conv => whnf))
    exact ⟨_, Sub.sel [] rfl, by rw [blockR, if_neg (by rw [hb]; simp)], rfl⟩
  | true =>
    have hR : RightP sq pt ps d.size := of_decide_eq_true hb
    have hbr : blockR sq pt ps d = (strB (blockL sq.toNat pt.toNat ps.toNat d), 0) := by rw [blockR, if_pos hb]
    rw [hbr]
    clear hbr hb
    unfold RightP at hR
    obtain ⟨x, rfl⟩ := Int.eq_ofNat_of_zero_le (show 0 ≤ sq by omega)
    obtain ⟨y, rfl⟩ := Int.eq_ofNat_of_zero_le (show 0 ≤ pt by omega)
    obtain ⟨z, rfl⟩ := Int.eq_ofNat_of_zero_le (show 0 ≤ ps by omega)
    rw [Int.toNat_natCast, Int.toNat_natCast, Int.toNat_natCast]
    conv => whnf
    refine LoadV.s rfl rfl ?_
    conv => whnf
    refine ⟨⟨rfl, by decide⟩, ?_⟩
    refine ArI.mk ((x / 256 : Nat) : Int) (quo_i64 x 256 _ (by omega) rfl) ?_
    conv => whnf
    refine ArI.mk ((x / 256 : Nat) : Int) (u8_nat _ _ (by omega)) ?_
    conv => whnf
    refine LoadV.s rfl rfl ?_
    conv => whnf
    refine ⟨⟨rfl, by decide⟩, ?_⟩
    conv => whnf
    refine ArI.mk ((x % 256 : Nat) : Int) (mod_u8 x 256 _ (by omega)) ?_
    conv => whnf
    refine LoadV.s rfl rfl ?_
    conv => whnf
    refine ArI.mk (y : Int) (u8_nat _ _ (by omega)) ?_
    conv => whnf
    refine LoadV.s rfl rfl ?_
    conv => whnf
    refine ArI.mk (z : Int) (u8_nat _ _ (by omega)) ?_
    conv => whnf
    refine LoadV.s rfl rfl ?_
    conv => whnf
    refine ArI.mk (d.size : Int) (u8_nat _ _ (by omega)) ?_
    conv => whnf
    intro b2
    conv => whnf
    refine LoadV.s rfl rfl ?_
    conv => whnf
    have hl := txt_length d
    refine BuiltV.sub (Sub.own (n := 5) (sz := 1) rfl (by decide)) ?_
    refine BuiltV.append_str (g := some (b2, 5)) (n := 5) Try.underlying118 Try.underlying9 rfl rfl rfl rfl (by omega) fun g hg => ?_
    obtain ⟨gb, gc, rfl⟩ : ∃ b c, g = some (b, c) := by
      cases g with
      | none => exact absurd (hg.1 rfl).1 (by simp)
      | some p => exact ⟨p.1, p.2, rfl⟩
    conv => whnf
    refine LoopI.by_state (σ := (Nat × Nat) × Nat) (fun s => [(4, svOf (some s.1) s.2)]) (fun s => [.own (svOf (some s.1) s.2) s.2 5 1 (bytesV (headL x y z d.size ++ txt d ++ List.replicate (s.2 - (5 + d.size)) 0))])
      (fun s => 5 + d.size ≤ s.2 ∧ s.2 ≤ 28) (fun s => 28 - s.2) ((gb, gc), 5 + d.size) ⟨by dsimp only; omega, by dsimp only; omega⟩ ⟨rfl, trivial⟩ (by
        have e : bytesV (headL x y z d.size ++ txt d ++ List.replicate (5 + d.size - (5 + d.size)) 0) = [.int .u8 (x / 256 : Nat), .int .u8 (x % 256 : Nat), .int .u8 (y : Nat), .int .u8 (z : Nat), .int .u8 (d.size : Nat)] ++ bytesV (txt d) := by
          rw [Nat.sub_self, List.replicate_zero, List.append_nil, bytesV_append]; rfl
        rw [e]; exact Sub.sel [0] rfl) ?_
    rintro ⟨⟨gb, gc⟩, n⟩ f0 ⟨hn0, hn⟩
    dsimp only at hn0 hn ⊢
    conv => whnf
    refine cond_dec (fun h => ?_) (fun h => ?_)
    · conv => whnf
      intro b3
      conv => whnf
      refine BuiltV.append (sv := svOf (some (gb, gc)) n) (m := 1) Try.underlying118 rfl rfl rfl rfl (by decide) (Row.cells 1) rfl (by decide) rfl (by show (n + 1) * 1 ≤ _; omega) (by omega) fun g2 c2 => ?_
      conv => whnf
      refine ⟨((g2, c2), n + 1), _, by dsimp only; omega, Sub.sel [1] rfl, ⟨by dsimp only; omega, by dsimp only; omega⟩, ⟨rfl, trivial⟩, ?_⟩
      dsimp only
      rw [show n + 1 - (5 + d.size) = (n - (5 + d.size)) + 1 by omega, List.replicate_succ']
      rw [← List.append_assoc, bytesV_append (headL x y z d.size ++ txt d ++ List.replicate (n - (5 + d.size)) 0)]
      rfl
    · obtain rfl : n = 28 := by omega
      have hd : d.size ≤ 23 := by omega
      have hbody : headL x y z d.size ++ txt d ++ List.replicate (28 - (5 + d.size)) 0 = bodyL x y z d := by rw [bodyL, show 28 - (5 + d.size) = 23 - d.size by omega]
      rw [hbody]
      have hbl := bodyL_length (sq := x) (pt := y) (ps := z) hd
      have hblt := bodyL_lt (sq := x) (pt := y) (ps := z) (d := d) (by omega) (by omega) (by omega) hd
      have hbs : (strB (bodyL x y z d)).size = 28 := by rw [strB_size, hbl]
      have hbt : txt (strB (bodyL x y z d)) = bodyL x y z d := txt_strB hblt
      have hres : strB (bodyL x y z d) ++ strB (bytesN (extN 0 (bodyL x y z d))) = strB (blockL x y z d) := strB_append _ _
      conv => whnf
      refine DrawI.mixed [4, 5] [_] (by kernel_rfl) (by kernel_rfl) (by kernel_rfl) (by kernel_rfl) (by kernel_rfl) (Sub.sel [0] rfl) ?_
      conv => whnf
      refine own_text hbl ?_
      conv => whnf
      refine own_text hbl ?_
      generalize strB (bodyL x y z d) = B at hbs hbt hres ⊢
      conv => whnf
      refine CallS.mk Try.call64 ⟨[], _, _, Sub.refl _, fun F' hF' => rsum_ok F' B (by omega), ?_⟩
      rw [hbt]
      rintro e A' ⟨rfl, rfl⟩
      conv => whnf
      refine ⟨Sub.sel [0] rfl, ?_⟩
      conv => whnf
      refine CallS.mk Try.call63 ⟨[], _, _, Sub.refl _, fun F' hF' => rbytes_ok F' _ (extN_lt _ _), ?_⟩
      rintro e A' ⟨rfl, rfl⟩
      conv => whnf
      refine ⟨Sub.sel [0] rfl, ?_⟩
      conv => whnf
      refine ⟨by rw [hbs, strB_size]; show 28 + 4 ≤ _; decide, ?_⟩
      rw [hres]
      conv => whnf
      repeat (first | (refine LoadV.s rfl rfl (forceV_of ?_); conv => whnf) | (refine LoadV.s rfl rfl ?_; conv => whnf) | (refine StoreV.c rfl rfl (Nat.le_of_ble_eq_true rfl) rfl ?_; conv => whnf) | (refine LoadV.a _ rfl (Nat.le_of_ble_eq_true rfl) ?_; conv => whnf) | (refine DrawI.quiet (by kernel_rfl) (by kernel_rfl) ?_; conv => whnf) | (refine ArI.in64 (by omega) ?_; conv => whnf) | (refine ArI.inU8 (by omega) ?_; conv => whnf) | (refine ArI.inU64 (by omega) ?_; conv => whnf) | (refine ArI.inU32 (by omega) ?_; conv => whnf) | (refine RetI.one Try.results53 rfl ?_; conv => whnf) | (refine RetI.two Try.results53 rfl rfl ?_; conv => whnf) | (refine RetI.three Try.results53 rfl rfl rfl ?_; conv => whnf) | (refine RetI.none Try.results53 ?_; conv => whnf) | (refine ⟨by first | decide | omega, ?_⟩; conv => whnf))
      exact ⟨_, Sub.sel [] rfl, rfl, rfl⟩
end Go.Proofs.Ytgodkfaacjllcaa

/- A frame's blocks, read. -/
namespace Go.Proofs.Ytgodkfaacjllcaa
set_option linter.unusedVariables false
set_option linter.unusedSimpArgs false
set_option maxRecDepth 100000
open SL Go.RowKit Go.Maps

/-- A byte of a text. -/
def byt (s : ByteArray) (i : Nat) : Nat := ((txt s)[i]?).getD 0
theorem byt_lt (s : ByteArray) (i : Nat) : byt s i < 256 := by
  unfold byt
  cases h : (txt s)[i]? with
  | none => decide
  | some x => exact txt_lt s x (List.mem_of_getElem? h)
theorem byt_at (s : ByteArray) (i : Nat) (h : i < s.size) : byteAt s (i : Int) = ((byt s i : Nat) : Int) := by
  have hl := txt_length s
  rw [byteAt_txt s i (by omega), byt, List.getElem?_eq_getElem (by omega)]; rfl
/-- The piece that a text tells of. -/
def rdSeq (s : ByteArray) : Nat := 256 * byt s 0 + byt s 1
def rdData (s : ByteArray) : ByteArray := s.extract 5 (5 + byt s 4)
def Taken (s : ByteArray) : Prop := s.size = 32 ∧ byt s 4 ≤ 23 ∧ blockR (rdSeq s : Nat) (byt s 2 : Nat) (byt s 3 : Nat) (rdData s) = (s, 0)
instance (s : ByteArray) : Decidable (Taken s) := by unfold Taken; infer_instance
def unbR (s : ByteArray) : (Nat × Nat × Nat × ByteArray) × Int := if Taken s then ((rdSeq s, byt s 2, byt s 3, rdData s), 0) else ((0, 0, 0, ⟨#[]⟩), 7)
abbrev unbV (r : (Nat × Nat × Nat × ByteArray) × Int) : Value := .tuple #[pieceV (r.1.1 : Int) (r.1.2.1 : Int) (r.1.2.2.1 : Int) r.1.2.2.2, .int .i64 r.2]
theorem unb_no {s : ByteArray} (h : ¬ Taken s) : unbR s = ((0, 0, 0, ⟨#[]⟩), 7) := if_neg h
theorem unb_yes {s : ByteArray} (h : Taken s) : unbR s = ((rdSeq s, byt s 2, byt s 3, rdData s), 0) := if_pos h
theorem runblock_ok (F : Mem) (s : ByteArray) (hs : s.size ≤ 9223372036854775807) : FT Try.prog 45 [.string s].toArray F [] (Ret (unbV (unbR s))) := by
  refine FT.of_body Try.func45 rfl Try.ntmps45 (by simp) fun C hC => ?_
  subst hC
  conv => whnf
  intro b
  conv => whnf
  refine cond_split (fun h => ?_) (fun h => ?_)
  · have h32 : ¬ s.size = 32 := by have := bne_iff_ne.1 h; omega
    conv => whnf
    repeat (first | (refine LoadV.s rfl rfl (forceV_of ?_); conv => whnf) | (refine LoadV.s rfl rfl ?_; conv => whnf) | (refine StoreV.c rfl rfl (Nat.le_of_ble_eq_true rfl) rfl ?_; conv => whnf) | (refine LoadV.a _ rfl (Nat.le_of_ble_eq_true rfl) ?_; conv => whnf) | (refine DrawI.quiet (by kernel_rfl) (by kernel_rfl) ?_; conv => whnf) | (refine ArI.in64 (by omega) ?_; conv => whnf) | (refine ArI.inU8 (by omega) ?_; conv => whnf) | (refine ArI.inU64 (by omega) ?_; conv => whnf) | (refine ArI.inU32 (by omega) ?_; conv => whnf) | (refine RetI.one Try.results45 rfl ?_; conv => whnf) | (refine RetI.two Try.results45 rfl rfl ?_; conv => whnf) | (refine RetI.three Try.results45 rfl rfl rfl ?_; conv => whnf) | (refine RetI.none Try.results45 ?_; conv => whnf) | (refine ⟨by first | decide | omega, ?_⟩; conv => whnf))
    refine RetI.cell_tmp Try.results45 rfl rfl ?_
    conv => whnf
    refine LoadV.a _ rfl (Nat.le_of_ble_eq_true rfl) ?_
    conv => whnf
    exact ⟨_, Sub.sel [] rfl, by rw [unb_no (fun k => h32 k.1)]; rfl, rfl⟩
  have h32 : s.size = 32 := by have := (bne_eq_false_iff_eq.1 h); omega
  conv => whnf
  refine ⟨by omega, forceV_of ?_⟩
  rw [show byteAt s 4 = ((byt s 4 : Nat) : Int) from byt_at s 4 (by omega)]
  have hl4 := byt_lt s 4
  conv => whnf
  refine cond_dec (fun h4 => ?_) (fun h4 => ?_)
  · have h23 : ¬ byt s 4 ≤ 23 := by omega
    conv => whnf
    repeat (first | (refine LoadV.s rfl rfl (forceV_of ?_); conv => whnf) | (refine LoadV.s rfl rfl ?_; conv => whnf) | (refine StoreV.c rfl rfl (Nat.le_of_ble_eq_true rfl) rfl ?_; conv => whnf) | (refine LoadV.a _ rfl (Nat.le_of_ble_eq_true rfl) ?_; conv => whnf) | (refine DrawI.quiet (by kernel_rfl) (by kernel_rfl) ?_; conv => whnf) | (refine ArI.in64 (by omega) ?_; conv => whnf) | (refine ArI.inU8 (by omega) ?_; conv => whnf) | (refine ArI.inU64 (by omega) ?_; conv => whnf) | (refine ArI.inU32 (by omega) ?_; conv => whnf) | (refine RetI.one Try.results45 rfl ?_; conv => whnf) | (refine RetI.two Try.results45 rfl rfl ?_; conv => whnf) | (refine RetI.three Try.results45 rfl rfl rfl ?_; conv => whnf) | (refine RetI.none Try.results45 ?_; conv => whnf) | (refine ⟨by first | decide | omega, ?_⟩; conv => whnf))
    refine RetI.cell_tmp Try.results45 rfl rfl ?_
    conv => whnf
    refine LoadV.a _ rfl (Nat.le_of_ble_eq_true rfl) ?_
    conv => whnf
    exact ⟨_, Sub.sel [] rfl, by rw [unb_no (fun k => h23 k.2.1)]; rfl, rfl⟩
  have h23 : byt s 4 ≤ 23 := by omega
  have l0 := byt_lt s 0
  have l1 := byt_lt s 1
  have l2 := byt_lt s 2
  have l3 := byt_lt s 3
  conv => whnf
  refine DrawI.mixed [21, 22] [] (by kernel_rfl) (by kernel_rfl) (by kernel_rfl) (by kernel_rfl) (by kernel_rfl) (Sub.sel [] rfl) ?_
  conv => whnf
  refine ⟨by omega, forceV_of ?_⟩
  rw [show byteAt s 0 = ((byt s 0 : Nat) : Int) from byt_at s 0 (by omega)]
  conv => whnf
  refine ArI.in64 (by omega) ?_
  conv => whnf
  refine ArI.to64 ((256 * byt s 0 : Nat) : Int) (by omega) (by omega) ?_
  conv => whnf
  refine ⟨by omega, forceV_of ?_⟩
  rw [show byteAt s 1 = ((byt s 1 : Nat) : Int) from byt_at s 1 (by omega)]
  conv => whnf
  refine ArI.in64 (by omega) ?_
  conv => whnf
  refine ArI.to64 ((rdSeq s : Nat) : Int) (by unfold rdSeq; omega) (by unfold rdSeq; omega) ?_
  conv => whnf
  refine ⟨by omega, forceV_of ?_⟩
  rw [show byteAt s 2 = ((byt s 2 : Nat) : Int) from byt_at s 2 (by omega)]
  conv => whnf
  refine ArI.in64 (by omega) ?_
  conv => whnf
  refine ⟨by omega, forceV_of ?_⟩
  rw [show byteAt s 3 = ((byt s 3 : Nat) : Int) from byt_at s 3 (by omega)]
  conv => whnf
  refine ArI.in64 (by omega) ?_
  conv => whnf
  refine ⟨by omega, forceV_of ?_⟩
  rw [show byteAt s 4 = ((byt s 4 : Nat) : Int) from byt_at s 4 (by omega)]
  conv => whnf
  refine ArI.in64 (by omega) ?_
  conv => whnf
  refine ArI.to64 ((5 + byt s 4 : Nat) : Int) (by omega) (by omega) ?_
  conv => whnf
  refine QuietV.str_lh Try.underlying9 (by omega) (by omega) (by omega) ?_
  rw [show s.extract (Int.toNat 5) (Int.toNat ((5 + byt s 4 : Nat) : Int)) = rdData s from rfl]
  conv => whnf
  intro b2
  conv => whnf
  refine ⟨Sub.sel [] rfl, ?_⟩
  conv => whnf
  refine StoreV.c rfl rfl (Nat.le_of_ble_eq_true rfl) rfl ?_
  conv => whnf
  refine ⟨Sub.sel [] rfl, ?_⟩
  conv => whnf
  repeat (first | (refine LoadV.s rfl rfl (forceV_of ?_); conv => whnf) | (refine LoadV.s rfl rfl ?_; conv => whnf) | (refine StoreV.c rfl rfl (Nat.le_of_ble_eq_true rfl) rfl ?_; conv => whnf) | (refine LoadV.a _ rfl (Nat.le_of_ble_eq_true rfl) ?_; conv => whnf) | (refine DrawI.quiet (by kernel_rfl) (by kernel_rfl) ?_; conv => whnf) | (refine ArI.in64 (by omega) ?_; conv => whnf) | (refine ArI.inU8 (by omega) ?_; conv => whnf) | (refine ArI.inU64 (by omega) ?_; conv => whnf) | (refine ArI.inU32 (by omega) ?_; conv => whnf) | (refine RetI.one Try.results45 rfl ?_; conv => whnf) | (refine RetI.two Try.results45 rfl rfl ?_; conv => whnf) | (refine RetI.three Try.results45 rfl rfl rfl ?_; conv => whnf) | (refine RetI.none Try.results45 ?_; conv => whnf) | (refine ⟨by first | decide | omega, ?_⟩; conv => whnf))
  refine CallS.mk Try.call53 ⟨[], _, _, Sub.refl _, fun F' hF' => rblock_ok F' (rdSeq s : Nat) (byt s 2 : Nat) (byt s 3 : Nat) (rdData s), ?_⟩
  have hT : Taken s ↔ blockR (rdSeq s : Nat) (byt s 2 : Nat) (byt s 3 : Nat) (rdData s) = (s, 0) := ⟨fun k => k.2.2, fun k => ⟨h32, h23, k⟩⟩
  generalize blockR (rdSeq s : Nat) (byt s 2 : Nat) (byt s 3 : Nat) (rdData s) = R at hT ⊢
  obtain ⟨x, er⟩ := R
  dsimp only
  rintro e A' ⟨rfl, rfl⟩
  conv => whnf
  refine cond_split (fun h5 => ?_) (fun h5 => ?_)
  · have hn : ¬ Taken s := fun k => by have := congrArg Prod.snd (hT.1 k); exact bne_iff_ne.1 h5 this
    conv => whnf
    refine StoreV.c rfl rfl (Nat.le_of_ble_eq_true rfl) rfl ?_
    conv => whnf
    refine RetI.cell_tmp Try.results45 rfl rfl ?_
    conv => whnf
    refine LoadV.a _ rfl (Nat.le_of_ble_eq_true rfl) ?_
    conv => whnf
    exact ⟨_, Sub.sel [] rfl, by rw [unb_no hn]; rfl, rfl⟩
  have her : er = 0 := bne_eq_false_iff_eq.1 h5
  conv => whnf
  rw [toList_beq]
  by_cases hx : x = s
  · have hy : Taken s := hT.2 (by rw [hx, her])
    rw [decide_eq_true hx]
    conv => whnf
    refine LoadV.a _ rfl (Nat.le_of_ble_eq_true rfl) ?_
    conv => whnf
    refine StoreV.c rfl rfl (Nat.le_of_ble_eq_true rfl) rfl ?_
    conv => whnf
    refine RetI.cell_tmp Try.results45 rfl rfl ?_
    conv => whnf
    refine LoadV.a _ rfl (Nat.le_of_ble_eq_true rfl) ?_
    conv => whnf
    exact ⟨_, Sub.sel [] rfl, by rw [unb_yes hy], rfl⟩
  · have hn : ¬ Taken s := fun k => hx (congrArg Prod.fst (hT.1 k))
    rw [decide_eq_false hx]
    conv => whnf
    refine StoreV.c rfl rfl (Nat.le_of_ble_eq_true rfl) rfl ?_
    conv => whnf
    refine RetI.cell_tmp Try.results45 rfl rfl ?_
    conv => whnf
    refine LoadV.a _ rfl (Nat.le_of_ble_eq_true rfl) ?_
    conv => whnf
    exact ⟨_, Sub.sel [] rfl, by rw [unb_no hn]; rfl, rfl⟩
theorem five {s : ByteArray} (h : s.size = 32) : txt (s.extract 0 5) = headL (rdSeq s) (byt s 2) (byt s 3) (byt s 4) := by
  have hl := txt_length s
  have l0 := byt_lt s 0
  have l1 := byt_lt s 1
  have hd : headL (rdSeq s) (byt s 2) (byt s 3) (byt s 4) = [byt s 0, byt s 1, byt s 2, byt s 3, byt s 4] := by
    rw [headL, show rdSeq s / 256 = byt s 0 by unfold rdSeq; omega, show rdSeq s % 256 = byt s 1 by unfold rdSeq; omega]
  rw [hd, txt_extract, List.drop_zero]
  apply List.ext_getElem?
  intro j
  rw [List.getElem?_take]
  match j with
  | 0 => simp [byt, List.getElem?_eq_getElem (show 0 < (txt s).length by omega)]
  | 1 => simp [byt, List.getElem?_eq_getElem (show 1 < (txt s).length by omega)]
  | 2 => simp [byt, List.getElem?_eq_getElem (show 2 < (txt s).length by omega)]
  | 3 => simp [byt, List.getElem?_eq_getElem (show 3 < (txt s).length by omega)]
  | 4 => simp [byt, List.getElem?_eq_getElem (show 4 < (txt s).length by omega)]
  | j + 5 => simp; omega
theorem five_unpack {s : ByteArray} (h : s.size = 32) : unpackR (unpackB (textBits (txt (s.extract 0 5))) [16, 8, 8, 8]) = ([rdSeq s, byt s 2, byt s 3, byt s 4], 0) := by
  have l0 := byt_lt s 0
  have l1 := byt_lt s 1
  have hq : rdSeq s < 65536 := by unfold rdSeq; omega
  have hf := head_fit hq (byt_lt s 2) (byt_lt s 3) (byt_lt s 4)
  have hu := unpack_pack hf
  rw [head_pack hq (byt_lt s 2) (byt_lt s 3) (byt_lt s 4)] at hu
  rw [five h]
  dsimp only at hu
  rw [txt_strB (headL_lt hq (byt_lt s 2) (byt_lt s 3) (byt_lt s 4))] at hu
  have hu' : unpackB (textBits (headL (rdSeq s) (byt s 2) (byt s 3) (byt s 4))) [16, 8, 8, 8] = some [rdSeq s, byt s 2, byt s 3, byt s 4] := hu
  rw [hu']; rfl
theorem unpack_lit (F : Mem) (oa : Option Addr) (n ca : Nat) (s : ByteArray) (ws : List Int) (hn0 : n = ws.length) (hw : SlF F 1 oa n (intsV ws)) (hs : s.size ≤ 140737488355328) (hn : n ≤ 1099511627776) {l : List Nat} {er : Int} (h : unpackR (unpackB (textBits (txt s)) ws) = (l, er)) :
    FT Try.prog 65 [.string s, .slice oa n ca].toArray F [] (fun e H => ∃ g, (g = none ↔ l = []) ∧ e = .returned (.tuple #[svOf g l.length, .int .i64 er]) ∧ H = [.own (svOf g l.length) l.length 110 1 (u64V l)]) := by
  subst hn0
  have := bUnpack_ok F oa ca s ws hw hs hn
  rw [h] at this
  exact this
theorem unblock_ok (F : Mem) (s : ByteArray) (hs : s.size ≤ 9223372036854775807) : FT Try.prog 56 [.string s].toArray F [] (Ret (unbV (unbR s))) := by
  refine FT.of_body Try.func56 rfl Try.ntmps56 (by simp) fun C hC => ?_
  subst hC
  conv => whnf
  intro b
  conv => whnf
  refine cond_split (fun h => ?_) (fun h => ?_)
  · have h32 : ¬ s.size = 32 := by have := bne_iff_ne.1 h; omega
    conv => whnf
    repeat (first | (refine LoadV.s rfl rfl (forceV_of ?_); conv => whnf) | (refine LoadV.s rfl rfl ?_; conv => whnf) | (refine StoreV.c rfl rfl (Nat.le_of_ble_eq_true rfl) rfl ?_; conv => whnf) | (refine LoadV.a _ rfl (Nat.le_of_ble_eq_true rfl) ?_; conv => whnf) | (refine DrawI.quiet (by kernel_rfl) (by kernel_rfl) ?_; conv => whnf) | (refine ArI.in64 (by omega) ?_; conv => whnf) | (refine ArI.inU8 (by omega) ?_; conv => whnf) | (refine ArI.inU64 (by omega) ?_; conv => whnf) | (refine ArI.inU32 (by omega) ?_; conv => whnf) | (refine RetI.one Try.results56 rfl ?_; conv => whnf) | (refine RetI.two Try.results56 rfl rfl ?_; conv => whnf) | (refine RetI.three Try.results56 rfl rfl rfl ?_; conv => whnf) | (refine RetI.none Try.results56 ?_; conv => whnf) | (refine ⟨by first | decide | omega, ?_⟩; conv => whnf))
    refine RetI.cell_tmp Try.results56 rfl rfl ?_
    conv => whnf
    refine LoadV.a _ rfl (Nat.le_of_ble_eq_true rfl) ?_
    conv => whnf
    exact ⟨_, Sub.sel [] rfl, by rw [unb_no (fun k => h32 k.1)]; rfl, rfl⟩
  have h32 : s.size = 32 := by have := (bne_eq_false_iff_eq.1 h); omega
  have hup := five_unpack h32
  have hsz : (s.extract 0 5).size = 5 := by rw [ByteArray.size_extract]; omega
  conv => whnf
  refine DoV.str_h Try.underlying9 (by omega) (by omega) ?_
  rw [show s.extract 0 (Int.toNat 5) = s.extract 0 5 from rfl]
  conv => whnf
  intro b2
  conv => whnf
  refine CallS.mk Try.call65 ⟨[], _, _, Sub.refl _, fun F' hF' => unpack_lit F' (some ⟨b2, 0, none⟩) 4 4 (s.extract 0 5) [16, 8, 8, 8] rfl (SlF.cells hF' rfl) (by omega) (by decide) hup, ?_⟩
  rintro e A' ⟨g, hg, rfl, rfl⟩
  obtain ⟨gb, gc, rfl⟩ := gsome hg (by simp)
  conv => whnf
  refine ⟨⟨by decide, by show (3 : Int) < ((4 : Nat) : Int); decide⟩, ?_⟩
  conv => whnf
  refine LoadV.os (v := .int .u64 (byt s 4 : Nat)) rfl rfl ?_
  conv => whnf
  have l0 := byt_lt s 0
  have l1 := byt_lt s 1
  have l2 := byt_lt s 2
  have l3 := byt_lt s 3
  have l4 := byt_lt s 4
  refine cond_dec (fun h4 => ?_) (fun h4 => ?_)
  · have h23 : ¬ byt s 4 ≤ 23 := by omega
    conv => whnf
    repeat (first | (refine LoadV.s rfl rfl (forceV_of ?_); conv => whnf) | (refine LoadV.s rfl rfl ?_; conv => whnf) | (refine StoreV.c rfl rfl (Nat.le_of_ble_eq_true rfl) rfl ?_; conv => whnf) | (refine LoadV.a _ rfl (Nat.le_of_ble_eq_true rfl) ?_; conv => whnf) | (refine DrawI.quiet (by kernel_rfl) (by kernel_rfl) ?_; conv => whnf) | (refine ArI.in64 (by omega) ?_; conv => whnf) | (refine ArI.inU8 (by omega) ?_; conv => whnf) | (refine ArI.inU64 (by omega) ?_; conv => whnf) | (refine ArI.inU32 (by omega) ?_; conv => whnf) | (refine RetI.one Try.results56 rfl ?_; conv => whnf) | (refine RetI.two Try.results56 rfl rfl ?_; conv => whnf) | (refine RetI.three Try.results56 rfl rfl rfl ?_; conv => whnf) | (refine RetI.none Try.results56 ?_; conv => whnf) | (refine ⟨by first | decide | omega, ?_⟩; conv => whnf))
    refine RetI.cell_tmp Try.results56 rfl rfl ?_
    conv => whnf
    refine LoadV.a _ rfl (Nat.le_of_ble_eq_true rfl) ?_
    conv => whnf
    exact ⟨_, Sub.sel [] rfl, by rw [unb_no (fun k => h23 k.2.1)]; rfl, rfl⟩
  have h23 : byt s 4 ≤ 23 := by omega
  have hq : rdSeq s < 65536 := by unfold rdSeq; omega
  conv => whnf
  refine DrawI.mixed [20, 21] [_] (by kernel_rfl) (by kernel_rfl) (by kernel_rfl) (by kernel_rfl) (by kernel_rfl) (Sub.sel [0] rfl) ?_
  conv => whnf
  refine ⟨⟨by decide, by show (0 : Int) < ((4 : Nat) : Int); decide⟩, ?_⟩
  conv => whnf
  refine LoadV.os (v := .int .u64 (rdSeq s : Nat)) rfl rfl ?_
  conv => whnf
  refine ArI.in64 (by omega) ?_
  conv => whnf
  refine ⟨⟨by decide, by show (1 : Int) < ((4 : Nat) : Int); decide⟩, ?_⟩
  conv => whnf
  refine LoadV.os (v := .int .u64 (byt s 2 : Nat)) rfl rfl ?_
  conv => whnf
  refine ArI.in64 (by omega) ?_
  conv => whnf
  refine ⟨⟨by decide, by show (2 : Int) < ((4 : Nat) : Int); decide⟩, ?_⟩
  conv => whnf
  refine LoadV.os (v := .int .u64 (byt s 3 : Nat)) rfl rfl ?_
  conv => whnf
  refine ArI.in64 (by omega) ?_
  conv => whnf
  refine ⟨⟨by decide, by show (3 : Int) < ((4 : Nat) : Int); decide⟩, ?_⟩
  conv => whnf
  refine LoadV.os (v := .int .u64 (byt s 4 : Nat)) rfl rfl ?_
  conv => whnf
  refine ArI.in64 (by omega) ?_
  conv => whnf
  refine ArI.to64 ((5 + byt s 4 : Nat) : Int) (by omega) (by omega) ?_
  conv => whnf
  refine QuietV.str_lh Try.underlying9 (by omega) (by omega) (by omega) ?_
  rw [show s.extract (Int.toNat 5) (Int.toNat ((5 + byt s 4 : Nat) : Int)) = rdData s from rfl]
  conv => whnf
  intro b3
  conv => whnf
  refine ⟨Sub.sel [1] rfl, ?_⟩
  conv => whnf
  refine StoreV.c rfl rfl (Nat.le_of_ble_eq_true rfl) rfl ?_
  conv => whnf
  refine ⟨Sub.sel [1] rfl, ?_⟩
  conv => whnf
  repeat (first | (refine LoadV.s rfl rfl (forceV_of ?_); conv => whnf) | (refine LoadV.s rfl rfl ?_; conv => whnf) | (refine StoreV.c rfl rfl (Nat.le_of_ble_eq_true rfl) rfl ?_; conv => whnf) | (refine LoadV.a _ rfl (Nat.le_of_ble_eq_true rfl) ?_; conv => whnf) | (refine DrawI.quiet (by kernel_rfl) (by kernel_rfl) ?_; conv => whnf) | (refine ArI.in64 (by omega) ?_; conv => whnf) | (refine ArI.inU8 (by omega) ?_; conv => whnf) | (refine ArI.inU64 (by omega) ?_; conv => whnf) | (refine ArI.inU32 (by omega) ?_; conv => whnf) | (refine RetI.one Try.results56 rfl ?_; conv => whnf) | (refine RetI.two Try.results56 rfl rfl ?_; conv => whnf) | (refine RetI.three Try.results56 rfl rfl rfl ?_; conv => whnf) | (refine RetI.none Try.results56 ?_; conv => whnf) | (refine ⟨by first | decide | omega, ?_⟩; conv => whnf))
  refine CallS.mk Try.call49 ⟨[], _, _, Sub.refl _, fun F' hF' => block_ok F' (rdSeq s : Nat) (byt s 2 : Nat) (byt s 3 : Nat) (rdData s), ?_⟩
  have hT : Taken s ↔ blockR (rdSeq s : Nat) (byt s 2 : Nat) (byt s 3 : Nat) (rdData s) = (s, 0) := ⟨fun k => k.2.2, fun k => ⟨h32, h23, k⟩⟩
  generalize blockR (rdSeq s : Nat) (byt s 2 : Nat) (byt s 3 : Nat) (rdData s) = R at hT ⊢
  obtain ⟨x, er⟩ := R
  dsimp only
  rintro e A' ⟨rfl, rfl⟩
  conv => whnf
  refine cond_split (fun h5 => ?_) (fun h5 => ?_)
  · have hn : ¬ Taken s := fun k => by have := congrArg Prod.snd (hT.1 k); exact bne_iff_ne.1 h5 this
    conv => whnf
    refine StoreV.c rfl rfl (Nat.le_of_ble_eq_true rfl) rfl ?_
    conv => whnf
    refine RetI.cell_tmp Try.results56 rfl rfl ?_
    conv => whnf
    refine LoadV.a _ rfl (Nat.le_of_ble_eq_true rfl) ?_
    conv => whnf
    exact ⟨_, Sub.sel [] rfl, by rw [unb_no hn]; rfl, rfl⟩
  have her : er = 0 := bne_eq_false_iff_eq.1 h5
  conv => whnf
  rw [toList_beq]
  by_cases hx : x = s
  · have hy : Taken s := hT.2 (by rw [hx, her])
    rw [decide_eq_true hx]
    conv => whnf
    refine LoadV.a _ rfl (Nat.le_of_ble_eq_true rfl) ?_
    conv => whnf
    refine StoreV.c rfl rfl (Nat.le_of_ble_eq_true rfl) rfl ?_
    conv => whnf
    refine RetI.cell_tmp Try.results56 rfl rfl ?_
    conv => whnf
    refine LoadV.a _ rfl (Nat.le_of_ble_eq_true rfl) ?_
    conv => whnf
    exact ⟨_, Sub.sel [] rfl, by rw [unb_yes hy], rfl⟩
  · have hn : ¬ Taken s := fun k => hx (congrArg Prod.fst (hT.1 k))
    rw [decide_eq_false hx]
    conv => whnf
    refine StoreV.c rfl rfl (Nat.le_of_ble_eq_true rfl) rfl ?_
    conv => whnf
    refine RetI.cell_tmp Try.results56 rfl rfl ?_
    conv => whnf
    refine LoadV.a _ rfl (Nat.le_of_ble_eq_true rfl) ?_
    conv => whnf
    exact ⟨_, Sub.sel [] rfl, by rw [unb_no hn]; rfl, rfl⟩
end Go.Proofs.Ytgodkfaacjllcaa

/- How many pieces; a frame's blocks, by the program. -/
namespace Go.Proofs.Ytgodkfaacjllcaa
set_option linter.unusedVariables false
set_option linter.unusedSimpArgs false
set_option maxRecDepth 100000
open SL Go.RowKit Go.Maps

def partsI (n : Int) : Int := if n < 0 ∨ n > 5865 then 0 else max 1 ((n + 22) / 23)
theorem parts_ok (F : Mem) (n : Int) : FT Try.prog 35 [.int .i64 n].toArray F [] (Ret (.int .i64 (partsI n))) := by
  refine FT.of_body Try.func35 rfl Try.ntmps35 (by simp) fun C hC => ?_
  subst hC
  conv => whnf
  refine cond_dec (fun h1 => ?_) (fun h1 => ?_)
  · conv => whnf
    repeat (first | (refine LoadV.s rfl rfl (forceV_of ?_); conv => whnf) | (refine LoadV.s rfl rfl ?_; conv => whnf) | (refine StoreV.c rfl rfl (Nat.le_of_ble_eq_true rfl) rfl ?_; conv => whnf) | (refine LoadV.a _ rfl (Nat.le_of_ble_eq_true rfl) ?_; conv => whnf) | (refine DrawI.quiet (by kernel_rfl) (by kernel_rfl) ?_; conv => whnf) | (refine ArI.in64 (by omega) ?_; conv => whnf) | (refine ArI.inU8 (by omega) ?_; conv => whnf) | (refine ArI.inU64 (by omega) ?_; conv => whnf) | (refine ArI.inU32 (by omega) ?_; conv => whnf) | (refine RetI.one Try.results35 rfl ?_; conv => whnf) | (refine RetI.two Try.results35 rfl rfl ?_; conv => whnf) | (refine RetI.three Try.results35 rfl rfl rfl ?_; conv => whnf) | (refine RetI.none Try.results35 ?_; conv => whnf) | (refine ⟨by first | decide | omega, ?_⟩; conv => whnf))
    exact ⟨_, Sub.refl _, ret_int (by unfold partsI; rw [if_pos (.inl h1)]), rfl⟩
  conv => whnf
  refine cond_dec (fun h2 => ?_) (fun h2 => ?_)
  · conv => whnf
    repeat (first | (refine LoadV.s rfl rfl (forceV_of ?_); conv => whnf) | (refine LoadV.s rfl rfl ?_; conv => whnf) | (refine StoreV.c rfl rfl (Nat.le_of_ble_eq_true rfl) rfl ?_; conv => whnf) | (refine LoadV.a _ rfl (Nat.le_of_ble_eq_true rfl) ?_; conv => whnf) | (refine DrawI.quiet (by kernel_rfl) (by kernel_rfl) ?_; conv => whnf) | (refine ArI.in64 (by omega) ?_; conv => whnf) | (refine ArI.inU8 (by omega) ?_; conv => whnf) | (refine ArI.inU64 (by omega) ?_; conv => whnf) | (refine ArI.inU32 (by omega) ?_; conv => whnf) | (refine RetI.one Try.results35 rfl ?_; conv => whnf) | (refine RetI.two Try.results35 rfl rfl ?_; conv => whnf) | (refine RetI.three Try.results35 rfl rfl rfl ?_; conv => whnf) | (refine RetI.none Try.results35 ?_; conv => whnf) | (refine ⟨by first | decide | omega, ?_⟩; conv => whnf))
    exact ⟨_, Sub.refl _, ret_int (by unfold partsI; rw [if_pos (.inr h2)]), rfl⟩
  conv => whnf
  refine ArI.in64 (by omega) ?_
  conv => whnf
  refine ArI.to64 (n + 22) (by omega) (by omega) ?_
  conv => whnf
  refine ⟨⟨rfl, by decide⟩, ?_⟩
  refine ArI.to64 ((n + 22) / 23) (by rw [Int.tdiv_eq_ediv_of_nonneg (by omega)]) (by omega) ?_
  conv => whnf
  repeat (first | (refine LoadV.s rfl rfl (forceV_of ?_); conv => whnf) | (refine LoadV.s rfl rfl ?_; conv => whnf) | (refine StoreV.c rfl rfl (Nat.le_of_ble_eq_true rfl) rfl ?_; conv => whnf) | (refine LoadV.a _ rfl (Nat.le_of_ble_eq_true rfl) ?_; conv => whnf) | (refine DrawI.quiet (by kernel_rfl) (by kernel_rfl) ?_; conv => whnf) | (refine ArI.in64 (by omega) ?_; conv => whnf) | (refine ArI.inU8 (by omega) ?_; conv => whnf) | (refine ArI.inU64 (by omega) ?_; conv => whnf) | (refine ArI.inU32 (by omega) ?_; conv => whnf) | (refine RetI.one Try.results35 rfl ?_; conv => whnf) | (refine RetI.two Try.results35 rfl rfl ?_; conv => whnf) | (refine RetI.three Try.results35 rfl rfl rfl ?_; conv => whnf) | (refine RetI.none Try.results35 ?_; conv => whnf) | (refine ⟨by first | decide | omega, ?_⟩; conv => whnf))
  exact ⟨_, Sub.refl _, ret_int (by unfold partsI; rw [if_neg (by omega)]), rfl⟩
theorem rparts_ok (F : Mem) (n : Int) : FT Try.prog 16 [.int .i64 n].toArray F [] (Ret (.int .i64 (partsI n))) := by
  refine FT.of_body Try.func16 rfl Try.ntmps16 (by simp) fun C hC => ?_
  subst hC
  conv => whnf
  refine cond_dec (fun h1 => ?_) (fun h1 => ?_)
  · conv => whnf
    repeat (first | (refine LoadV.s rfl rfl (forceV_of ?_); conv => whnf) | (refine LoadV.s rfl rfl ?_; conv => whnf) | (refine StoreV.c rfl rfl (Nat.le_of_ble_eq_true rfl) rfl ?_; conv => whnf) | (refine LoadV.a _ rfl (Nat.le_of_ble_eq_true rfl) ?_; conv => whnf) | (refine DrawI.quiet (by kernel_rfl) (by kernel_rfl) ?_; conv => whnf) | (refine ArI.in64 (by omega) ?_; conv => whnf) | (refine ArI.inU8 (by omega) ?_; conv => whnf) | (refine ArI.inU64 (by omega) ?_; conv => whnf) | (refine ArI.inU32 (by omega) ?_; conv => whnf) | (refine RetI.one Try.results16 rfl ?_; conv => whnf) | (refine RetI.two Try.results16 rfl rfl ?_; conv => whnf) | (refine RetI.three Try.results16 rfl rfl rfl ?_; conv => whnf) | (refine RetI.none Try.results16 ?_; conv => whnf) | (refine ⟨by first | decide | omega, ?_⟩; conv => whnf))
    exact ⟨_, Sub.refl _, ret_int (by unfold partsI; rw [if_pos (.inl h1)]), rfl⟩
  conv => whnf
  refine cond_dec (fun h2 => ?_) (fun h2 => ?_)
  · conv => whnf
    repeat (first | (refine LoadV.s rfl rfl (forceV_of ?_); conv => whnf) | (refine LoadV.s rfl rfl ?_; conv => whnf) | (refine StoreV.c rfl rfl (Nat.le_of_ble_eq_true rfl) rfl ?_; conv => whnf) | (refine LoadV.a _ rfl (Nat.le_of_ble_eq_true rfl) ?_; conv => whnf) | (refine DrawI.quiet (by kernel_rfl) (by kernel_rfl) ?_; conv => whnf) | (refine ArI.in64 (by omega) ?_; conv => whnf) | (refine ArI.inU8 (by omega) ?_; conv => whnf) | (refine ArI.inU64 (by omega) ?_; conv => whnf) | (refine ArI.inU32 (by omega) ?_; conv => whnf) | (refine RetI.one Try.results16 rfl ?_; conv => whnf) | (refine RetI.two Try.results16 rfl rfl ?_; conv => whnf) | (refine RetI.three Try.results16 rfl rfl rfl ?_; conv => whnf) | (refine RetI.none Try.results16 ?_; conv => whnf) | (refine ⟨by first | decide | omega, ?_⟩; conv => whnf))
    exact ⟨_, Sub.refl _, ret_int (by unfold partsI; rw [if_pos (.inr h2)]), rfl⟩
  conv => whnf
  refine LoopI.by_state (σ := Nat) (fun j => [(0, .int .i64 (n - 23 * (j : Int))), (3, .int .i64 ((j + 1 : Nat) : Int))]) (fun _ => []) (fun j => j = 0 ∨ 0 < n - 23 * (j : Int)) (fun j => (n - 23 * (j : Int)).toNat) 0 (.inl rfl) ⟨by show Value.int .i64 n = _; congr 1; omega, rfl, trivial⟩ (Sub.refl _) ?_
  rintro j f0 hj
  conv => whnf
  refine cond_dec (fun h => ?_) (fun h => ?_)
  · conv => whnf
    refine ArI.to64 (n - 23 * ((j + 1 : Nat) : Int)) (by omega) (by omega) ?_
    conv => whnf
    refine ArI.to64 ((j + 1 + 1 : Nat) : Int) (by omega) (by omega) ?_
    conv => whnf
    exact ⟨j + 1, _, by omega, Sub.refl _, .inr (by omega), ⟨rfl, rfl, trivial⟩, rfl⟩
  · conv => whnf
    repeat (first | (refine LoadV.s rfl rfl (forceV_of ?_); conv => whnf) | (refine LoadV.s rfl rfl ?_; conv => whnf) | (refine StoreV.c rfl rfl (Nat.le_of_ble_eq_true rfl) rfl ?_; conv => whnf) | (refine LoadV.a _ rfl (Nat.le_of_ble_eq_true rfl) ?_; conv => whnf) | (refine DrawI.quiet (by kernel_rfl) (by kernel_rfl) ?_; conv => whnf) | (refine ArI.in64 (by omega) ?_; conv => whnf) | (refine ArI.inU8 (by omega) ?_; conv => whnf) | (refine ArI.inU64 (by omega) ?_; conv => whnf) | (refine ArI.inU32 (by omega) ?_; conv => whnf) | (refine RetI.one Try.results16 rfl ?_; conv => whnf) | (refine RetI.two Try.results16 rfl rfl ?_; conv => whnf) | (refine RetI.three Try.results16 rfl rfl rfl ?_; conv => whnf) | (refine RetI.none Try.results16 ?_; conv => whnf) | (refine ⟨by first | decide | omega, ?_⟩; conv => whnf))
    exact ⟨_, Sub.refl _, ret_int (by unfold partsI; rw [if_neg (by omega)]; omega), rfl⟩
/-- The piece of a payload. -/
def chunk (s : ByteArray) (i : Nat) : ByteArray := s.extract (23 * i) (min (23 * i + 23) s.size)
def blk (seq : Int) (s : ByteArray) (i : Nat) : ByteArray := (blockR seq (i : Nat) (partsI s.size) (chunk s i)).1
/-- What packing answers. -/
def packF (seq : Int) (s : ByteArray) : List ByteArray × Int := if seq < 1 ∨ seq > 65535 then ([], 7) else if s.size > 5865 then ([], 9) else ((List.range (partsI s.size).toNat).map (blk seq s), 0)
theorem fpack_ok (F : Mem) (seq : Int) (s : ByteArray) (hs : s.size ≤ 9223372036854775807) :
    FT Try.prog 36 [.int .i64 seq, .string s].toArray F [] (fun e H => ∃ g, (g = none ↔ (packF seq s).1 = []) ∧ e = .returned (.tuple #[svOf g (packF seq s).1.length, .int .i64 (packF seq s).2]) ∧ H = [.own (svOf g (packF seq s).1.length) (packF seq s).1.length 9 1 (strs (packF seq s).1)]) := by
  refine FT.of_body Try.func36 rfl Try.ntmps36 (by simp) fun C hC => ?_
  subst hC
  conv => whnf
  refine cond_dec (fun h1 => ?_) (fun h1 => ?_)
  · have e0 : packF seq s = ([], 7) := if_pos (.inl h1)
    conv => whnf
    repeat (first | (refine LoadV.s rfl rfl (forceV_of ?_); conv => whnf) | (refine LoadV.s rfl rfl ?_; conv => whnf) | (refine StoreV.c rfl rfl (Nat.le_of_ble_eq_true rfl) rfl ?_; conv => whnf) | (refine LoadV.a _ rfl (Nat.le_of_ble_eq_true rfl) ?_; conv => whnf) | (refine DrawI.quiet (by kernel_rfl) (by kernel_rfl) ?_; conv => whnf) | (refine ArI.in64 (by omega) ?_; conv => whnf) | (refine ArI.inU8 (by omega) ?_; conv => whnf) | (refine ArI.inU64 (by omega) ?_; conv => whnf) | (refine ArI.inU32 (by omega) ?_; conv => whnf) | (refine RetI.one Try.results36 rfl ?_; conv => whnf) | (refine RetI.two Try.results36 rfl rfl ?_; conv => whnf) | (refine RetI.three Try.results36 rfl rfl rfl ?_; conv => whnf) | (refine RetI.none Try.results36 ?_; conv => whnf) | (refine ⟨by first | decide | omega, ?_⟩; conv => whnf))
    exact ⟨_, Sub.nil 9 1, none, by rw [e0]; simp, by rw [e0]; rfl, by rw [e0]; rfl⟩
  conv => whnf
  refine cond_dec (fun h2 => ?_) (fun h2 => ?_)
  · have e0 : packF seq s = ([], 7) := if_pos (.inr h2)
    conv => whnf
    repeat (first | (refine LoadV.s rfl rfl (forceV_of ?_); conv => whnf) | (refine LoadV.s rfl rfl ?_; conv => whnf) | (refine StoreV.c rfl rfl (Nat.le_of_ble_eq_true rfl) rfl ?_; conv => whnf) | (refine LoadV.a _ rfl (Nat.le_of_ble_eq_true rfl) ?_; conv => whnf) | (refine DrawI.quiet (by kernel_rfl) (by kernel_rfl) ?_; conv => whnf) | (refine ArI.in64 (by omega) ?_; conv => whnf) | (refine ArI.inU8 (by omega) ?_; conv => whnf) | (refine ArI.inU64 (by omega) ?_; conv => whnf) | (refine ArI.inU32 (by omega) ?_; conv => whnf) | (refine RetI.one Try.results36 rfl ?_; conv => whnf) | (refine RetI.two Try.results36 rfl rfl ?_; conv => whnf) | (refine RetI.three Try.results36 rfl rfl rfl ?_; conv => whnf) | (refine RetI.none Try.results36 ?_; conv => whnf) | (refine ⟨by first | decide | omega, ?_⟩; conv => whnf))
    exact ⟨_, Sub.nil 9 1, none, by rw [e0]; simp, by rw [e0]; rfl, by rw [e0]; rfl⟩
  conv => whnf
  refine CallS.mk Try.call35 ⟨[], _, _, Sub.refl _, fun F' hF' => parts_ok F' (s.size : Int), ?_⟩
  rintro e A' ⟨rfl, rfl⟩
  by_cases h3 : s.size > 5865
  · have e0 : packF seq s = ([], 9) := by rw [packF, if_neg (by omega), if_pos h3]
    have ep : partsI (s.size : Int) = 0 := by unfold partsI; rw [if_pos (by omega)]
    rw [ep]
    conv => whnf
    repeat (first | (refine LoadV.s rfl rfl (forceV_of ?_); conv => whnf) | (refine LoadV.s rfl rfl ?_; conv => whnf) | (refine StoreV.c rfl rfl (Nat.le_of_ble_eq_true rfl) rfl ?_; conv => whnf) | (refine LoadV.a _ rfl (Nat.le_of_ble_eq_true rfl) ?_; conv => whnf) | (refine DrawI.quiet (by kernel_rfl) (by kernel_rfl) ?_; conv => whnf) | (refine ArI.in64 (by omega) ?_; conv => whnf) | (refine ArI.inU8 (by omega) ?_; conv => whnf) | (refine ArI.inU64 (by omega) ?_; conv => whnf) | (refine ArI.inU32 (by omega) ?_; conv => whnf) | (refine RetI.one Try.results36 rfl ?_; conv => whnf) | (refine RetI.two Try.results36 rfl rfl ?_; conv => whnf) | (refine RetI.three Try.results36 rfl rfl rfl ?_; conv => whnf) | (refine RetI.none Try.results36 ?_; conv => whnf) | (refine ⟨by first | decide | omega, ?_⟩; conv => whnf))
    exact ⟨_, Sub.nil 9 1, none, by rw [e0]; simp, by rw [e0]; rfl, by rw [e0]; rfl⟩
  have e0 : packF seq s = ((List.range (partsI s.size).toNat).map (blk seq s), 0) := by rw [packF, if_neg (by omega), if_neg h3]
  rw [e0]
  obtain ⟨n, hn, hn1, hn2⟩ : ∃ n : Nat, partsI (s.size : Int) = (n : Int) ∧ 1 ≤ n ∧ n ≤ 255 := by
    refine ⟨(partsI s.size).toNat, ?_, ?_, ?_⟩ <;> unfold partsI <;> rw [if_neg (by omega)] <;> omega
  have hn3 : 23 * n ≤ s.size + 22 ∨ n = 1 := by
    have := hn; unfold partsI at this; rw [if_neg (by omega)] at this; omega
  rw [hn, Int.toNat_natCast]
  conv => whnf
  refine cond_of_false (beq_eq_false_iff_ne.2 (by omega)) ?_
  conv => whnf
  refine DoV.makeCap Try.underlying22 rfl rfl rfl rfl (by omega) (by show (16 : Int) * _ ≤ _; omega) (by omega) fun b0 => ?_
  rw [Int.toNat_natCast]
  conv => whnf
  refine LoopI.by_state (σ := Nat × Nat × Nat) (fun x => [(0, .int .i64 seq), (1, .string s), (6, .int .i64 (n : Int)), (7, svOf (some x.2) x.1), (26, .int .i64 (n : Int)), (27, .int .i64 (x.1 : Int))])
    (fun x => [.own (svOf (some x.2) x.1) x.1 9 1 (strs ((List.range x.1).map (blk seq s)))]) (fun x => x.1 ≤ n) (fun x => n - x.1) (0, b0, n) (by dsimp only; omega) ⟨rfl, rfl, rfl, rfl, rfl, rfl, trivial⟩ (Sub.refl _) ?_
  rintro ⟨i, gb, gc⟩ f0 hi
  dsimp only at hi ⊢
  conv => whnf
  refine cond_dec (fun h => ?_) (fun h => ?_)
  · conv => whnf
    refine ArI.to64 ((23 * i : Nat) : Int) (by omega) (by omega) ?_
    conv => whnf
    refine ArI.to64 ((23 * i + 23 : Nat) : Int) (by omega) (by omega) ?_
    conv => whnf
    refine DoV.str_lh Try.underlying9 (by omega) (by omega) (by omega) ?_
    rw [show s.extract (Int.toNat ((23 * i : Nat) : Int)) (Int.toNat (min ((23 * i + 23 : Nat) : Int) (s.size : Int))) = chunk s i by rw [chunk, Int.toNat_natCast, show Int.toNat (min ((23 * i + 23 : Nat) : Int) (s.size : Int)) = min (23 * i + 23) s.size by omega]]
    conv => whnf
    refine CallS.mk Try.call49 ⟨[], _, _, Sub.refl _, fun F' hF' => block_ok F' seq (i : Nat) (n : Nat) (chunk s i), ?_⟩
    rw [show (blockR seq (i : Nat) (n : Nat) (chunk s i)).1 = blk seq s i by rw [blk, hn]]
    rintro e A' ⟨rfl, rfl⟩
    conv => whnf
    intro b3
    conv => whnf
    refine BuiltV.append (sv := svOf (some (gb, gc)) i) (m := 1) Try.underlying22 rfl rfl rfl rfl (by decide) (Row.cells 1) rfl (by decide) rfl (by show (i + 1) * 16 ≤ _; omega) (by omega) fun g2 c2 => ?_
    conv => whnf
    refine ArI.to64 ((i + 1 : Nat) : Int) (by omega) (by omega) ?_
    conv => whnf
    refine ⟨(i + 1, g2, c2), _, by dsimp only; omega, Sub.sel [1] rfl, by dsimp only; omega, ⟨rfl, rfl, rfl, rfl, rfl, rfl, trivial⟩, ?_⟩
    dsimp only
    have e : strs ((List.range (i + 1)).map (blk seq s)) = strs ((List.range i).map (blk seq s)) ++ [.string (blk seq s i)] := by
      rw [List.range_succ, List.map_append, strs, List.map_append]; rfl
    rw [e]
    rfl
  · obtain rfl : i = n := by omega
    conv => whnf
    repeat (first | (refine LoadV.s rfl rfl (forceV_of ?_); conv => whnf) | (refine LoadV.s rfl rfl ?_; conv => whnf) | (refine StoreV.c rfl rfl (Nat.le_of_ble_eq_true rfl) rfl ?_; conv => whnf) | (refine LoadV.a _ rfl (Nat.le_of_ble_eq_true rfl) ?_; conv => whnf) | (refine DrawI.quiet (by kernel_rfl) (by kernel_rfl) ?_; conv => whnf) | (refine ArI.in64 (by omega) ?_; conv => whnf) | (refine ArI.inU8 (by omega) ?_; conv => whnf) | (refine ArI.inU64 (by omega) ?_; conv => whnf) | (refine ArI.inU32 (by omega) ?_; conv => whnf) | (refine RetI.one Try.results36 rfl ?_; conv => whnf) | (refine RetI.two Try.results36 rfl rfl ?_; conv => whnf) | (refine RetI.three Try.results36 rfl rfl rfl ?_; conv => whnf) | (refine RetI.none Try.results36 ?_; conv => whnf) | (refine ⟨by first | decide | omega, ?_⟩; conv => whnf))
    exact ⟨_, Sub.refl _, some (gb, gc), by simp; omega, by simp, by simp⟩
def liveX : ByteArray := ⟨#[0, 1, 0, 1, 2, 97, 98, 0, 0, 0, 0, 0, 0, 0, 0, 0, 0, 0, 0, 0, 0, 0, 0, 0, 0, 0, 0, 0, 98, 145, 183, 81]⟩
theorem live_pack6 : packF 1 ⟨#[97, 98]⟩ = ([liveX], 0) := by decide +kernel
theorem fpack_lit (F : Mem) (seq : Int) (s : ByteArray) (hs : s.size ≤ 9223372036854775807) {l : List ByteArray} {er : Int} (h : packF seq s = (l, er)) :
    FT Try.prog 36 [.int .i64 seq, .string s].toArray F [] (fun e H => ∃ g, (g = none ↔ l = []) ∧ e = .returned (.tuple #[svOf g l.length, .int .i64 er]) ∧ H = [.own (svOf g l.length) l.length 9 1 (strs l)]) := by
  have := fpack_ok F seq s hs
  rw [h] at this
  exact this
end Go.Proofs.Ytgodkfaacjllcaa
