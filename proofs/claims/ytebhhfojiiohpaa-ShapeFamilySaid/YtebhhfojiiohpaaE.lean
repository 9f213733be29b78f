/- Which nodes lie above a set of slots; below; where two nodes meet. -/
import Derived.Test.YtebhhfojiiohpaaC
namespace Go.Proofs.Ytebhhfojiiohpaa
open SL Go.RowKit

/-- Is the slot in the mask? -/
def hasI (m s : Int) : Bool := decide (0 ≤ s ∧ s < 64 ∧ (m / 2 ^ s.toNat) % 2 = 1)
theorem rhas_ok (F : Mem) (m s : Int) (h0 : 0 ≤ m) (h1 : m < 18446744073709551616) : FT Try.prog 38 [.int .u64 m, .int .i64 s].toArray F [] (Ret (.bool (hasI m s))) := by
  refine FT.of_body Try.func38 rfl Try.ntmps38 (by simp) fun C hC => ?_
  conv => whnf
  refine cond_dec (fun h => ?_) (fun h => ?_)
  · conv => whnf
    refine RetI.one Try.results38 rfl ?_
    conv => whnf
    exact ⟨_, Sub.refl _, ret_bool (by simp [hasI]; omega), rfl⟩
  · conv => whnf
    refine cond_dec (fun h2 => ?_) (fun h2 => ?_)
    · conv => whnf
      refine RetI.one Try.results38 rfl ?_
      conv => whnf
      exact ⟨_, Sub.refl _, ret_bool (by simp [hasI]; omega), rfl⟩
    · conv => whnf
      refine LoopI.by_state (σ := Nat) (fun i => [(0, .int .u64 (m / 2 ^ i)), (1, .int .i64 s), (5, .int .i64 (i : Int))]) (fun _ => []) (fun i => (i : Int) ≤ s) (fun i => 64 - i) 0 (by omega) ⟨congrArg (Value.int .u64) (by simp), rfl, rfl, trivial⟩ (Sub.refl _) ?_
      rintro i f0 hi
      have hdiv : 0 ≤ m / 2 ^ i ∧ m / 2 ^ i < 18446744073709551616 :=
        ⟨Int.ediv_nonneg h0 (Int.pow_nonneg (by omega)), Int.lt_of_le_of_lt (Int.ediv_le_self _ h0) h1⟩
      conv => whnf
      refine cond_dec (fun h3 => ?_) (fun h3 => ?_)
      · conv => whnf
        refine ⟨by decide, ?_⟩
        conv => whnf
        refine ⟨i + 1, [], by omega, Sub.refl _, by omega, ⟨?_, rfl, ?_, trivial⟩, rfl⟩
        · refine congrArg (Value.int .u64) ?_
          show IntKind.u64.wrap ((m / 2 ^ i).tdiv 2) = m / 2 ^ (i + 1)
          rw [Int.tdiv_eq_ediv_of_nonneg hdiv.1, IntWalk.u64_in _ (by omega), Int.pow_succ, Int.ediv_ediv_of_nonneg (Int.pow_nonneg (by omega))]
        · have : IntKind.i64.wrap ((i : Int) + 1) = ((i + 1 : Nat) : Int) := by rw [IntWalk.i64_in _ (by omega)]; omega
          exact congrArg (Value.int .i64) this
      · conv => whnf
        refine ⟨by decide, ?_⟩
        conv => whnf
        refine RetI.one Try.results38 rfl ?_
        conv => whnf
        refine ⟨_, Sub.refl _, ret_bool ?_, rfl⟩
        have : s = i := by omega
        subst this
        have h5 : (m / 2 ^ i).tmod 2 = (m / 2 ^ i) % 2 := Int.tmod_eq_emod_of_nonneg hdiv.1
        rw [h5]
        have h6 : (0 : Int) ≤ i ∧ (i : Int) < 64 := by omega
        simp only [hasI, Int.toNat_natCast]
        by_cases h7 : (m / 2 ^ i) % 2 = 1 <;> simp [h7] <;> omega

theorem ofInt_nat (n : Nat) (a : Nat) (h : a < 2^n) : (BitVec.ofInt n (a : Int)).toNat = a := by
  rw [BitVec.ofInt_natCast, BitVec.toNat_ofNat, Nat.mod_eq_of_lt h]
theorem u64_and (a b : Int) (ha : 0 ≤ a) (hb : 0 ≤ b) (ha1 : a < 18446744073709551616) (hb1 : b < 18446744073709551616) :
    IntKind.u64.wrap ((BitVec.ofInt IntKind.u64.bits a &&& BitVec.ofInt IntKind.u64.bits b).toNat) = ((a.toNat &&& b.toNat : Nat) : Int) := by
  obtain ⟨a, rfl⟩ := Int.eq_ofNat_of_zero_le ha
  obtain ⟨b, rfl⟩ := Int.eq_ofNat_of_zero_le hb
  show IntKind.u64.wrap ((BitVec.ofInt 64 a &&& BitVec.ofInt 64 b).toNat) = _
  rw [BitVec.toNat_and, ofInt_nat 64 a (by omega), ofInt_nat 64 b (by omega)]
  have : a &&& b ≤ a := Nat.and_le_left
  rw [IntWalk.u64_in _ (by omega)]
  simp
theorem u32_or (a b : Nat) (h : a ||| b < 4294967296) (ha1 : a < 4294967296) (hb1 : b < 4294967296) :
    IntKind.u32.wrap ((BitVec.ofInt IntKind.u32.bits a ||| BitVec.ofInt IntKind.u32.bits b).toNat) = ((a ||| b : Nat) : Int) := by
  show IntKind.u32.wrap ((BitVec.ofInt 32 a ||| BitVec.ofInt 32 b).toNat) = _
  rw [BitVec.toNat_or, ofInt_nat 32 a (by omega), ofInt_nat 32 b (by omega)]
  rw [IntWalk.u32_in _ (by omega)]
theorem mask_rng (v : Int) : 0 ≤ maskI v ∧ maskI v < 18446744073709551616 := by
  have := maskTo_rng v 64
  rw [maskTo_all] at this
  exact this

/-! ### Above -/
/-- Does one of the first slots of the set lie below the node? -/
def hitTo (v m : Int) : Nat → Bool
  | 0 => false
  | s + 1 => hitTo v m s || (hasI m s && isBelow v (21 + s))
theorem hitTo_iff (v m : Int) (n : Nat) : hitTo v m n = true ↔ ∃ s : Nat, s < n ∧ hasI m s = true ∧ isBelow v (21 + s) = true := by
  induction n with
  | zero => simp [hitTo]
  | succ n ih =>
    simp only [hitTo, Bool.or_eq_true, ih, Bool.and_eq_true]
    constructor
    · rintro (⟨s, h, h'⟩ | h)
      · exact ⟨s, by omega, h'⟩
      · exact ⟨n, by omega, h⟩
    · rintro ⟨s, h, h'⟩
      by_cases hs : s = n
      · subst hs; exact .inr h'
      · exact .inl ⟨s, by omega, h'⟩
theorem mask_bit (v : Int) (h0 : 0 ≤ v) (h1 : v < 21) (s : Nat) (hs : s < 64) : (maskI v).toNat.testBit s = isBelow v (21 + s) := by
  have := each2 21 64 (fun v s => (maskI v).toNat.testBit s.toNat = isBelow v (21 + s)) (by decide +kernel) v s h0 h1 (by omega) (by omega)
  simpa using this
theorem has_bit (m : Int) (h0 : 0 ≤ m) (s : Nat) (hs : s < 64) : hasI m s = m.toNat.testBit s := by
  obtain ⟨m, rfl⟩ := Int.eq_ofNat_of_zero_le h0
  unfold hasI
  rw [Int.toNat_natCast, Nat.testBit_eq_decide_div_mod_eq, Int.toNat_natCast]
  have h1 : ((m : Int) / 2 ^ s) % 2 = ((m / 2 ^ s % 2 : Nat) : Int) := by simp
  rw [h1]
  congr 1
  apply propext
  constructor
  · rintro ⟨_, _, h⟩; omega
  · intro h; exact ⟨by omega, by omega, by omega⟩
theorem and_hit (v m : Int) (h0 : 0 ≤ v) (h1 : v < 21) (hm0 : 0 ≤ m) (hm1 : m < 18446744073709551616) :
    ((IntKind.u64.wrap ((BitVec.ofInt IntKind.u64.bits (maskI v) &&& BitVec.ofInt IntKind.u64.bits m).toNat)) != 0) = hitTo v m 64 := by
  have hr := mask_rng v
  rw [u64_and _ _ hr.1 hm0 hr.2 hm1]
  have hb : ∀ s, s < 64 → ((maskI v).toNat &&& m.toNat).testBit s = (hasI m s && isBelow v (21 + s)) := fun s hs => by
    rw [Nat.testBit_and, mask_bit v h0 h1 s hs, has_bit m hm0 s hs, Bool.and_comm]
  cases hh : hitTo v m 64 with
  | true =>
    obtain ⟨s, hs, h2, h3⟩ := (hitTo_iff v m 64).1 hh
    have := hb s hs
    rw [h2, h3] at this
    have hne : (maskI v).toNat &&& m.toNat ≠ 0 := fun h => by rw [h] at this; simp at this
    simp only [bne_iff_ne, ne_eq]; omega
  | false =>
    by_cases hz : (maskI v).toNat &&& m.toNat = 0
    · rw [hz]; rfl
    · obtain ⟨s, hs⟩ := Nat.exists_testBit_of_ne_zero hz
      have hlt : s < 64 := by
        by_cases h : s < 64
        · exact h
        · have : (maskI v).toNat &&& m.toNat < 2 ^ s := Nat.lt_of_lt_of_le (Nat.lt_of_le_of_lt Nat.and_le_right (show m.toNat < 2 ^ 64 by omega)) (Nat.pow_le_pow_right (by omega) (by omega))
          rw [Nat.testBit_lt_two_pow this] at hs; cases hs
      rw [hb s hlt] at hs
      simp only [Bool.and_eq_true] at hs
      have := (hitTo_iff v m 64).2 ⟨s, hlt, hs.1, hs.2⟩
      rw [hh] at this; cases this
/-- The nodes above the slots, of the first ones. -/
def aboveTo (m : Int) : Nat → Nat
  | 0 => 0
  | v + 1 => aboveTo m v + if hitTo v m 64 then 2 ^ v else 0
theorem aboveTo_lt (m : Int) (v : Nat) : aboveTo m v < 2 ^ v := by
  induction v with
  | zero => simp [aboveTo]
  | succ v ih => unfold aboveTo; rw [Nat.pow_succ]; split <;> omega
theorem pow_lt_21 (v : Nat) (h : v ≤ 21) : 2 ^ v ≤ 2097152 := Nat.pow_le_pow_right (n := 2) (by omega) h
theorem i64_up (i n : Nat) (h : i < n) (hn : n ≤ 1000000) : IntKind.i64.wrap ((i : Int) + 1) = ((i + 1 : Nat) : Int) := by rw [IntWalk.i64_in _ (by omega)]; omega
theorem above_ok (F : Mem) (m : Int) (h0 : 0 ≤ m) (h1 : m < 18446744073709551616) : FT Try.prog 13 [.int .u64 m].toArray F [] (Ret (.int .u32 (aboveTo m 21))) := by
  refine FT.of_body Try.func13 rfl Try.ntmps13 (by simp) fun C hC => ?_
  conv => whnf
  refine LoopI.by_state (σ := Nat) (fun v => [(0, .int .u64 m), (3, .int .u32 (aboveTo m v)), (5, .int .i64 (v : Int))]) (fun _ => []) (fun v => v ≤ 21) (fun v => 21 - v) 0 (by omega) ⟨rfl, rfl, rfl, trivial⟩ (Sub.refl _) ?_
  rintro v f0 hv
  conv => whnf
  refine cond_dec (fun h => ?_) (fun h => ?_)
  · conv => whnf
    refine CallS.mk Try.call11 ⟨[], _, _, Sub.split [] rfl, fun F' _ => mask_ok F' v, ?_⟩
    rintro e A' ⟨rfl, rfl⟩
    conv => whnf
    have hh := and_hit v m (by omega) (by omega) h0 h1
    have hlt := aboveTo_lt m v
    have hp := pow_lt_21 v (by omega)
    have hvw : IntKind.u64.wrap (v : Int) = v := IntWalk.u64_in _ (by omega)
    refine cond_split ?_ ?_
    · intro hb
      conv => whnf
      refine ⟨by rw [hvw]; omega, ?_⟩
      conv => whnf
      refine ⟨v + 1, [], by omega, Sub.refl _, by omega, ⟨rfl, ?_, congrArg (Value.int .i64) (i64_up v 21 (by omega) (by omega)), trivial⟩, rfl⟩
      refine congrArg (Value.int .u32) ?_
      show IntKind.u32.wrap ((BitVec.ofInt IntKind.u32.bits (aboveTo m v) ||| BitVec.ofInt IntKind.u32.bits (IntKind.u32.wrap (1 * 2 ^ min (IntKind.u64.wrap (v : Int)).toNat IntKind.u32.bits))).toNat) = ((aboveTo m (v + 1) : Nat) : Int)
      have hb2 : IntKind.u32.bits = 32 := rfl
      have h2 : IntKind.u32.wrap (1 * 2 ^ min (IntKind.u64.wrap (v : Int)).toNat IntKind.u32.bits) = ((2 ^ v : Nat) : Int) := by
        rw [hvw, hb2, Int.toNat_natCast, Nat.min_eq_left (by omega), IntWalk.u32_in _ (by have : ((2 : Int) ^ v) = ((2 ^ v : Nat) : Int) := by simp
                                                                                          omega)]
        simp
      have h3 : aboveTo m (v + 1) = aboveTo m v ||| 2 ^ v := by
        have := Nat.two_pow_add_eq_or_of_lt hlt 1
        rw [Nat.mul_one] at this
        rw [Nat.or_comm, ← this]
        rw [hb] at hh
        simp [aboveTo, ← hh]; omega
      have h4 := aboveTo_lt m (v + 1)
      have h5 := pow_lt_21 (v + 1) (by omega)
      rw [h2, h3, u32_or _ _ (by omega) (by omega) (by omega)]
    · intro hb
      conv => whnf
      refine ⟨v + 1, [], by omega, Sub.refl _, by omega, ⟨rfl, ?_, congrArg (Value.int .i64) (i64_up v 21 (by omega) (by omega)), trivial⟩, rfl⟩
      rw [hb] at hh
      have h3 : aboveTo m (v + 1) = aboveTo m v := by simp [aboveTo, ← hh]
      rw [h3]; rfl
  · conv => whnf
    refine RetI.one Try.results13 rfl ?_
    conv => whnf
    have : v = 21 := by omega
    subst this
    exact ⟨_, Sub.refl _, rfl, rfl⟩
theorem rabove_ok (F : Mem) (m : Int) (h0 : 0 ≤ m) (h1 : m < 18446744073709551616) : FT Try.prog 14 [.int .u64 m].toArray F [] (Ret (.int .u32 (aboveTo m 21))) := by
  refine FT.of_body Try.func14 rfl Try.ntmps14 (by simp) fun C hC => ?_
  conv => whnf
  refine LoopI.by_state (σ := Nat) (fun v => [(0, .int .u64 m), (3, .int .u32 (aboveTo m v)), (4, .int .u32 ((2 ^ v : Nat) : Int)), (5, .int .i64 (v : Int))]) (fun _ => []) (fun v => v ≤ 21) (fun v => 21 - v) 0 (by omega) ⟨rfl, rfl, rfl, rfl, trivial⟩ (Sub.refl _) ?_
  rintro v f0 hv
  conv => whnf
  refine cond_dec (fun h => ?_) (fun h => ?_)
  · conv => whnf
    have hlt := aboveTo_lt m v
    have hp := pow_lt_21 v (by omega)
    have hunit : IntKind.u32.wrap (((2 ^ v : Nat) : Int) * 2) = ((2 ^ (v + 1) : Nat) : Int) := by
      rw [Nat.pow_succ, IntWalk.u32_in _ (by omega)]; omega
    refine LoopI.by_state (σ := Nat) (fun s => [(0, .int .u64 m), (3, .int .u32 (aboveTo m v)), (4, .int .u32 ((2 ^ v : Nat) : Int)), (5, .int .i64 (v : Int)), (6, .bool (hitTo v m s)), (7, .int .i64 (s : Int))]) (fun _ => []) (fun s => s ≤ 64) (fun s => 64 - s) 0 (by omega) ⟨rfl, rfl, rfl, rfl, rfl, rfl, trivial⟩ (Sub.refl _) ?_
    rintro s f1 hs
    conv => whnf
    refine cond_dec (fun h2 => ?_) (fun h2 => ?_)
    · conv => whnf
      refine cond_split ?_ ?_
      · intro hb
        conv => whnf
        refine ⟨s + 1, [], by omega, Sub.refl _, by omega, ⟨rfl, rfl, rfl, rfl, ?_, congrArg (Value.int .i64) (i64_up s 64 (by omega) (by omega)), trivial⟩, rfl⟩
        have : hitTo v m (s + 1) = true := by simp [hitTo, hb]
        rw [this]; rfl
      · intro hb
        conv => whnf
        refine CallS.mk Try.call38 ⟨[], _, _, Sub.split [] rfl, fun F' _ => rhas_ok F' m s h0 h1, ?_⟩
        rintro e A' ⟨rfl, rfl⟩
        cases hh : hasI m s with
        | true =>
          conv => whnf
          refine CallS.mk Try.call30 ⟨[], _, _, Sub.split [] rfl, fun F' _ => rleaf_ok F' s, ?_⟩
          rintro e A' ⟨rfl, rfl⟩
          conv => whnf
          have hl : leafI (s : Int) = 21 + s := by unfold leafI; rw [if_neg (by omega), if_neg (by omega)]
          rw [hl]
          refine CallS.mk Try.call16 ⟨[], _, _, Sub.split [] rfl, fun F' _ => rbelow_ok F' v (21 + s), ?_⟩
          rintro e A' ⟨rfl, rfl⟩
          conv => whnf
          refine ⟨s + 1, [], by omega, Sub.refl _, by omega, ⟨rfl, rfl, rfl, rfl, ?_, congrArg (Value.int .i64) (i64_up s 64 (by omega) (by omega)), trivial⟩, rfl⟩
          have : hitTo v m (s + 1) = isBelow v (21 + s) := by simp [hitTo, hb, hh]
          rw [this]; rfl
        | false =>
          conv => whnf
          refine ⟨s + 1, [], by omega, Sub.refl _, by omega, ⟨rfl, rfl, rfl, rfl, ?_, congrArg (Value.int .i64) (i64_up s 64 (by omega) (by omega)), trivial⟩, rfl⟩
          have : hitTo v m (s + 1) = false := by simp [hitTo, hb, hh]
          rw [this]; rfl
    · conv => whnf
      have : s = 64 := by omega
      subst this
      refine cond_split ?_ ?_
      · intro hb
        conv => whnf
        refine ⟨v + 1, [], by omega, Sub.refl _, by omega, ⟨rfl, ?_, congrArg (Value.int .u32) hunit, congrArg (Value.int .i64) (i64_up v 21 (by omega) (by omega)), trivial⟩, rfl⟩
        refine congrArg (Value.int .u32) ?_
        show IntKind.u32.wrap ((aboveTo m v : Int) + ((2 ^ v : Nat) : Int)) = _
        have h3 : aboveTo m (v + 1) = aboveTo m v + 2 ^ v := by simp [aboveTo, hb]
        rw [h3, IntWalk.u32_in _ (by omega)]; omega
      · intro hb
        conv => whnf
        refine ⟨v + 1, [], by omega, Sub.refl _, by omega, ⟨rfl, ?_, congrArg (Value.int .u32) hunit, congrArg (Value.int .i64) (i64_up v 21 (by omega) (by omega)), trivial⟩, rfl⟩
        have h3 : aboveTo m (v + 1) = aboveTo m v := by simp [aboveTo, hb]
        rw [h3]; rfl
  · conv => whnf
    refine RetI.one Try.results14 rfl ?_
    conv => whnf
    have : v = 21 := by omega
    subst this
    exact ⟨_, Sub.refl _, rfl, rfl⟩

/-! ### Below, Meet -/
theorem below_and (v w : Int) (v0 : 0 ≤ v) (v1 : v < 85) (w0 : 0 ≤ w) (w1 : w < 85) :
    (IntKind.u64.wrap ((BitVec.ofInt IntKind.u64.bits (maskI v) &&& BitVec.ofInt IntKind.u64.bits (maskI w)).toNat) == maskI w) = isBelow v w :=
  each2 85 85 (fun v w => (IntKind.u64.wrap ((BitVec.ofInt IntKind.u64.bits (maskI v) &&& BitVec.ofInt IntKind.u64.bits (maskI w)).toNat) == maskI w) = isBelow v w) (by decide +kernel) v w v0 v1 w0 w1
theorem level_neg (v : Int) : levelI v < 0 ↔ nodeB v = false := by
  rw [← Bool.not_eq_true, nodeB_iff]
  constructor
  · intro h; have := level_no v h; omega
  · intro h; unfold levelI; split
    · omega
    · rw [if_pos (by omega)]; omega
theorem below_ok (F : Mem) (v w : Int) : FT Try.prog 15 [.int .i64 v, .int .i64 w].toArray F [] (Ret (.bool (isBelow v w))) := by
  refine FT.of_body Try.func15 rfl Try.ntmps15 (by simp) fun C hC => ?_
  conv => whnf
  refine CallS.mk Try.call20 ⟨[], _, _, Sub.split [] rfl, fun F' _ => level_ok F' v, ?_⟩
  rintro e A' ⟨rfl, rfl⟩
  conv => whnf
  refine cond_dec (fun h => ?_) (fun h => ?_)
  · conv => whnf
    refine RetI.one Try.results15 rfl ?_
    conv => whnf
    exact ⟨_, Sub.refl _, ret_bool (below_no v w (.inl ((level_neg v).1 h))).symm, rfl⟩
  · conv => whnf
    refine CallS.mk Try.call20 ⟨[], _, _, Sub.split [] rfl, fun F' _ => level_ok F' w, ?_⟩
    rintro e A' ⟨rfl, rfl⟩
    conv => whnf
    refine cond_dec (fun h2 => ?_) (fun h2 => ?_)
    · conv => whnf
      refine RetI.one Try.results15 rfl ?_
      conv => whnf
      exact ⟨_, Sub.refl _, ret_bool (below_no v w (.inr ((level_neg w).1 h2))).symm, rfl⟩
    · conv => whnf
      have hv : nodeB v = true := by
        cases hb : nodeB v with
        | true => rfl
        | false => exact absurd ((level_neg v).2 hb) h
      have hw : nodeB w = true := by
        cases hb : nodeB w with
        | true => rfl
        | false => exact absurd ((level_neg w).2 hb) h2
      obtain ⟨v0, v1⟩ := (nodeB_iff v).1 hv
      obtain ⟨w0, w1⟩ := (nodeB_iff w).1 hw
      refine CallS.mk Try.call11 ⟨[], _, _, Sub.split [] rfl, fun F' _ => mask_ok F' v, ?_⟩
      rintro e A' ⟨rfl, rfl⟩
      conv => whnf
      refine CallS.mk Try.call11 ⟨[], _, _, Sub.split [] rfl, fun F' _ => mask_ok F' w, ?_⟩
      rintro e A' ⟨rfl, rfl⟩
      conv => whnf
      refine CallS.mk Try.call11 ⟨[], _, _, Sub.split [] rfl, fun F' _ => mask_ok F' w, ?_⟩
      rintro e A' ⟨rfl, rfl⟩
      conv => whnf
      refine RetI.one Try.results15 rfl ?_
      conv => whnf
      exact ⟨_, Sub.refl _, ret_bool (below_and v w v0 v1 w0 w1), rfl⟩
def meetGo : Nat → Int → Int → Int
  | 0, _, _ => -1
  | k + 1, v, w => if v = w then v else if v > w then meetGo k (parentI v) w else meetGo k v (parentI w)
def meetI (v w : Int) : Int := if nodeB v && nodeB w then meetGo 8 v w else -1
theorem meet_no (v w : Int) (h : nodeB v = false ∨ nodeB w = false) : meetI v w = -1 := by
  rcases h with h | h <;> simp [meetI, h]
theorem meet_up (v w : Int) (v0 : 0 ≤ v) (v1 : v < 85) (w0 : 0 ≤ w) (w1 : w < 85) : (w < v → meetI (parentI v) w = meetI v w) ∧ (v < w → meetI v (parentI w) = meetI v w) ∧ (isBelow v w = false → meetI (parentI v) w = meetI v w ∧ 0 < v) ∧ (isBelow v w = true → meetI v w = v) :=
  each2 85 85 (fun v w => (w < v → meetI (parentI v) w = meetI v w) ∧ (v < w → meetI v (parentI w) = meetI v w) ∧ (isBelow v w = false → meetI (parentI v) w = meetI v w ∧ 0 < v) ∧ (isBelow v w = true → meetI v w = v)) (by decide +kernel) v w v0 v1 w0 w1
theorem meet_self (v : Int) (v0 : 0 ≤ v) (v1 : v < 85) : meetI v v = v := each 85 (fun v => meetI v v = v) (by decide +kernel) v v0 v1
theorem meet_ok (F : Mem) (v w : Int) : FT Try.prog 17 [.int .i64 v, .int .i64 w].toArray F [] (Ret (.int .i64 (meetI v w))) := by
  refine FT.of_body Try.func17 rfl Try.ntmps17 (by simp) fun C hC => ?_
  conv => whnf
  refine CallS.mk Try.call20 ⟨[], _, _, Sub.split [] rfl, fun F' _ => level_ok F' v, ?_⟩
  rintro e A' ⟨rfl, rfl⟩
  conv => whnf
  refine cond_dec (fun h => ?_) (fun h => ?_)
  · conv => whnf
    refine RetI.one Try.results17 rfl ?_
    conv => whnf
    exact ⟨_, Sub.refl _, ret_int (meet_no v w (.inl ((level_neg v).1 h))).symm, rfl⟩
  · conv => whnf
    refine CallS.mk Try.call20 ⟨[], _, _, Sub.split [] rfl, fun F' _ => level_ok F' w, ?_⟩
    rintro e A' ⟨rfl, rfl⟩
    conv => whnf
    refine cond_dec (fun h2 => ?_) (fun h2 => ?_)
    · conv => whnf
      refine RetI.one Try.results17 rfl ?_
      conv => whnf
      exact ⟨_, Sub.refl _, ret_int (meet_no v w (.inr ((level_neg w).1 h2))).symm, rfl⟩
    · conv => whnf
      have hv : nodeB v = true := by
        cases hb : nodeB v with
        | true => rfl
        | false => exact absurd ((level_neg v).2 hb) h
      have hw : nodeB w = true := by
        cases hb : nodeB w with
        | true => rfl
        | false => exact absurd ((level_neg w).2 hb) h2
      refine LoopI.by_state (σ := Int × Int) (fun x => [(0, .int .i64 x.1), (1, .int .i64 x.2)]) (fun _ => []) (fun x => (0 ≤ x.1 ∧ x.1 < 85) ∧ (0 ≤ x.2 ∧ x.2 < 85) ∧ meetI x.1 x.2 = meetI v w) (fun x => (x.1 + x.2).toNat) (v, w) ⟨(nodeB_iff v).1 hv, (nodeB_iff w).1 hw, rfl⟩ ⟨rfl, rfl, trivial⟩ (Sub.refl _) ?_
      rintro ⟨x, y⟩ f0 ⟨⟨x0, x1⟩, ⟨y0, y1⟩, he⟩
      dsimp only at *
      have hm := meet_up x y x0 x1 y0 y1
      conv => whnf
      refine cond_split ?_ ?_
      · intro hne
        have hne : x ≠ y := by simpa using hne
        conv => whnf
        refine cond_dec (fun h3 => ?_) (fun h3 => ?_)
        · conv => whnf
          refine CallS.mk Try.call22 ⟨[], _, _, Sub.split [] rfl, fun F' _ => parent_ok F' x, ?_⟩
          rintro e A' ⟨rfl, rfl⟩
          conv => whnf
          have hp := parent_node x (by omega) x1
          exact ⟨(parentI x, y), [], by dsimp only; omega, Sub.refl _, ⟨⟨hp.1, hp.2.1⟩, ⟨y0, y1⟩, by rw [hm.1 (by omega)]; exact he⟩, ⟨rfl, rfl, trivial⟩, rfl⟩
        · conv => whnf
          refine CallS.mk Try.call22 ⟨[], _, _, Sub.split [] rfl, fun F' _ => parent_ok F' y, ?_⟩
          rintro e A' ⟨rfl, rfl⟩
          conv => whnf
          have hp := parent_node y (by omega) y1
          exact ⟨(x, parentI y), [], by dsimp only; omega, Sub.refl _, ⟨⟨x0, x1⟩, ⟨hp.1, hp.2.1⟩, by rw [hm.2.1 (by omega)]; exact he⟩, ⟨rfl, rfl, trivial⟩, rfl⟩
      · intro hne
        have hne : x = y := by simpa using hne
        subst hne
        conv => whnf
        refine RetI.one Try.results17 rfl ?_
        conv => whnf
        exact ⟨_, Sub.refl _, ret_int (by rw [← he, meet_self x x0 x1]), rfl⟩
theorem rmeet_ok (F : Mem) (v w : Int) : FT Try.prog 18 [.int .i64 v, .int .i64 w].toArray F [] (Ret (.int .i64 (meetI v w))) := by
  refine FT.of_body Try.func18 rfl Try.ntmps18 (by simp) fun C hC => ?_
  conv => whnf
  refine CallS.mk Try.call39 ⟨[], _, _, Sub.split [] rfl, fun F' _ => rnode_ok F' v, ?_⟩
  rintro e A' ⟨rfl, rfl⟩
  cases hv : nodeB v with
  | false =>
    conv => whnf
    refine RetI.one Try.results18 rfl ?_
    conv => whnf
    exact ⟨_, Sub.refl _, ret_int (meet_no v w (.inl hv)).symm, rfl⟩
  | true =>
    conv => whnf
    refine CallS.mk Try.call39 ⟨[], _, _, Sub.split [] rfl, fun F' _ => rnode_ok F' w, ?_⟩
    rintro e A' ⟨rfl, rfl⟩
    cases hw : nodeB w with
    | false =>
      conv => whnf
      refine RetI.one Try.results18 rfl ?_
      conv => whnf
      exact ⟨_, Sub.refl _, ret_int (meet_no v w (.inr hw)).symm, rfl⟩
    | true =>
      conv => whnf
      obtain ⟨w0, w1⟩ := (nodeB_iff w).1 hw
      refine LoopI.by_state (σ := Int) (fun x => [(0, .int .i64 x), (1, .int .i64 w)]) (fun _ => []) (fun x => (0 ≤ x ∧ x < 85) ∧ meetI x w = meetI v w) (fun x => x.toNat) v ⟨(nodeB_iff v).1 hv, rfl⟩ ⟨rfl, rfl, trivial⟩ (Sub.refl _) ?_
      rintro x f0 ⟨⟨x0, x1⟩, he⟩
      conv => whnf
      refine CallS.mk Try.call16 ⟨[], _, _, Sub.split [] rfl, fun F' _ => rbelow_ok F' x w, ?_⟩
      rintro e A' ⟨rfl, rfl⟩
      have hm := meet_up x w x0 x1 w0 w1
      cases hb : isBelow x w with
      | false =>
        conv => whnf
        obtain ⟨h1, h2⟩ := hm.2.2.1 hb
        refine CallS.mk Try.call23 ⟨[], _, _, Sub.split [] rfl, fun F' _ => rparent_ok F' x, ?_⟩
        rintro e A' ⟨rfl, rfl⟩
        conv => whnf
        have hp := parent_node x (by omega) x1
        exact ⟨parentI x, [], by omega, Sub.refl _, ⟨⟨hp.1, hp.2.1⟩, by rw [h1]; exact he⟩, ⟨rfl, rfl, trivial⟩, rfl⟩
      | true =>
        conv => whnf
        refine RetI.one Try.results18 rfl ?_
        conv => whnf
        exact ⟨_, Sub.refl _, ret_int (by rw [← he, hm.2.2.2 hb]), rfl⟩
end Go.Proofs.Ytebhhfojiiohpaa
