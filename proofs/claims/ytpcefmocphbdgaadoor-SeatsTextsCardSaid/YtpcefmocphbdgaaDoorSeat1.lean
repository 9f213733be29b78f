/- The sets of slots: bits, and what stands on them. -/
import Derived.Test.YtpcefmocphbdgaaDoorSeatLaw2
import Derived.Test.YtpcefmocphbdgaaDoorPopLaw
import Derived.Test.YtpcefmocphbdgaaDoorBitsInt
import Derived.Shelf.Spec.TrailingZeros
namespace Go.Proofs.YtpcefmocphbdgaaDoor
set_option linter.unusedVariables false
set_option linter.unusedSimpArgs false
set_option maxRecDepth 100000
open SL Go.RowKit Go.Maps Go.Lib

/-- A slot's bit. -/
def bitN (n : Int) : Nat := if 0 ≤ n ∧ n < 64 then 2 ^ n.toNat else 0
theorem bitN_lt (n : Int) : bitN n < 18446744073709551616 := by
  unfold bitN
  split
  · rw [show (18446744073709551616 : Nat) = 2 ^ 64 by decide]; exact Nat.pow_lt_pow_right (by decide) (by omega)
  · decide
theorem ret_u64 {a b : Nat} (h : a = b) : Ending.returned (.int .u64 (a : Int)) = .returned (.int .u64 (b : Int)) := by rw [h]
theorem one_shl (m : Nat) (h : m < 64) : IntKind.u64.wrap (1 * 2 ^ min (Int.toNat (m : Int)) IntKind.u64.bits) = ((2 ^ m : Nat) : Int) := by
  have hp : 2 ^ m < 2 ^ 64 := Nat.pow_lt_pow_right (by decide) h
  rw [Int.toNat_natCast, Nat.min_eq_left (show m ≤ IntKind.u64.bits by show m ≤ 64; omega), Int.one_mul, show ((2 : Int) ^ m) = ((2 ^ m : Nat) : Int) by rw [Int.natCast_pow]; rfl, wrap_u64_nat, Nat.mod_eq_of_lt (by simpa using hp)]
theorem bit_ok (F : Mem) (n : Int) : FT Tryd.prog 32 [.int .i64 n].toArray F [] (Ret (.int .u64 (bitN n : Int))) := by
  refine FT.of_body Tryd.func32 rfl Tryd.ntmps32 (by simp) fun C hC => ?_
  subst hC
  conv => whnf
  repeat (first | (refine LoadV.s rfl rfl (forceV_of ?_); conv => whnf) | (refine LoadV.s rfl rfl ?_; conv => whnf) | (refine StoreV.c rfl rfl (Nat.le_of_ble_eq_true rfl) rfl ?_; conv => whnf) | (refine LoadV.a _ rfl (Nat.le_of_ble_eq_true rfl) ?_; conv => whnf) | (refine DrawI.quiet (by kernel_rfl) (by kernel_rfl) ?_; conv => whnf) | (refine ArI.in64 (by omega) ?_; conv => whnf) | (refine ArI.inU8 (by omega) ?_; conv => whnf) | (refine ArI.inU64 (by omega) ?_; conv => whnf) | (refine ArI.inU32 (by omega) ?_; conv => whnf) | (refine RetI.one Tryd.results32 rfl ?_; conv => whnf) | (refine RetI.two Tryd.results32 rfl rfl ?_; conv => whnf) | (refine RetI.three Tryd.results32 rfl rfl rfl ?_; conv => whnf) | (refine RetI.none Tryd.results32 ?_; conv => whnf) | (refine ⟨by first | decide | omega, ?_⟩; conv => whnf))
  refine cond_dec (fun h => ?_) (fun h => ?_)
  · conv => whnf
    repeat (first | (refine LoadV.s rfl rfl (forceV_of ?_); conv => whnf) | (refine LoadV.s rfl rfl ?_; conv => whnf) | (refine StoreV.c rfl rfl (Nat.le_of_ble_eq_true rfl) rfl ?_; conv => whnf) | (refine LoadV.a _ rfl (Nat.le_of_ble_eq_true rfl) ?_; conv => whnf) | (refine DrawI.quiet (by kernel_rfl) (by kernel_rfl) ?_; conv => whnf) | (refine ArI.in64 (by omega) ?_; conv => whnf) | (refine ArI.inU8 (by omega) ?_; conv => whnf) | (refine ArI.inU64 (by omega) ?_; conv => whnf) | (refine ArI.inU32 (by omega) ?_; conv => whnf) | (refine RetI.one Tryd.results32 rfl ?_; conv => whnf) | (refine RetI.two Tryd.results32 rfl rfl ?_; conv => whnf) | (refine RetI.three Tryd.results32 rfl rfl rfl ?_; conv => whnf) | (refine RetI.none Tryd.results32 ?_; conv => whnf) | (refine ⟨by first | decide | omega, ?_⟩; conv => whnf))
    exact ⟨_, Sub.refl _, ret_u64 (by unfold bitN; rw [if_neg (by omega)]), rfl⟩
  · conv => whnf
    refine cond_dec (fun h2 => ?_) (fun h2 => ?_)
    · conv => whnf
      repeat (first | (refine LoadV.s rfl rfl (forceV_of ?_); conv => whnf) | (refine LoadV.s rfl rfl ?_; conv => whnf) | (refine StoreV.c rfl rfl (Nat.le_of_ble_eq_true rfl) rfl ?_; conv => whnf) | (refine LoadV.a _ rfl (Nat.le_of_ble_eq_true rfl) ?_; conv => whnf) | (refine DrawI.quiet (by kernel_rfl) (by kernel_rfl) ?_; conv => whnf) | (refine ArI.in64 (by omega) ?_; conv => whnf) | (refine ArI.inU8 (by omega) ?_; conv => whnf) | (refine ArI.inU64 (by omega) ?_; conv => whnf) | (refine ArI.inU32 (by omega) ?_; conv => whnf) | (refine RetI.one Tryd.results32 rfl ?_; conv => whnf) | (refine RetI.two Tryd.results32 rfl rfl ?_; conv => whnf) | (refine RetI.three Tryd.results32 rfl rfl rfl ?_; conv => whnf) | (refine RetI.none Tryd.results32 ?_; conv => whnf) | (refine ⟨by first | decide | omega, ?_⟩; conv => whnf))
      exact ⟨_, Sub.refl _, ret_u64 (by unfold bitN; rw [if_neg (by omega)]), rfl⟩
    · have e : bitN n = 2 ^ n.toNat := by unfold bitN; rw [if_pos (by omega)]
      obtain ⟨m, rfl⟩ := Int.eq_ofNat_of_zero_le (show 0 ≤ n by omega)
      rw [e]
      conv => whnf
      refine ArI.inU64 (by omega) ?_
      conv => whnf
      refine ⟨by omega, ?_⟩
      conv => whnf
      rw [one_shl m (by omega)]
      repeat (first | (refine LoadV.s rfl rfl (forceV_of ?_); conv => whnf) | (refine LoadV.s rfl rfl ?_; conv => whnf) | (refine StoreV.c rfl rfl (Nat.le_of_ble_eq_true rfl) rfl ?_; conv => whnf) | (refine LoadV.a _ rfl (Nat.le_of_ble_eq_true rfl) ?_; conv => whnf) | (refine DrawI.quiet (by kernel_rfl) (by kernel_rfl) ?_; conv => whnf) | (refine ArI.in64 (by omega) ?_; conv => whnf) | (refine ArI.inU8 (by omega) ?_; conv => whnf) | (refine ArI.inU64 (by omega) ?_; conv => whnf) | (refine ArI.inU32 (by omega) ?_; conv => whnf) | (refine RetI.one Tryd.results32 rfl ?_; conv => whnf) | (refine RetI.two Tryd.results32 rfl rfl ?_; conv => whnf) | (refine RetI.three Tryd.results32 rfl rfl rfl ?_; conv => whnf) | (refine RetI.none Tryd.results32 ?_; conv => whnf) | (refine ⟨by first | decide | omega, ?_⟩; conv => whnf))
      exact ⟨_, Sub.refl _, ret_u64 (by rw [Int.toNat_natCast]), rfl⟩
/-- What the table of trailing noughts holds. -/
def TabA (F : Mem) : Prop := ∀ j, j < 64 → RdC F ⟨0, j, none⟩ (.int .u8 (deBruijn64tab.getD j 0))
theorem TabA.ext {F F' : Mem} {B : Heap} (h : TabA F) (he : Ext F B F') : TabA F' := fun j hj => RdC.ext (h j hj) he.F
theorem tz_prod {s : Nat} (h0 : s ≠ 0) (hs : s < 18446744073709551616) : IntKind.u64.wrap (bits .and .u64 (s : Int) (IntKind.u64.wrap (0 - (s : Int))) * 285870213051353865) = ((2 ^ ctz 64 s * 285870213051353865 % 18446744073709551616 : Nat) : Int) := by
  have hlow := (Lib.lowest_bit 64 s h0 hs).1
  have e1 : IntKind.u64.wrap (0 - (s : Int)) = ((2 ^ 64 - s : Nat) : Int) := by rw [IntKind.wrap_u64]; omega
  rw [e1, u64_and_nat s _ hs (by omega), hlow, IntKind.wrap_u64]
  omega
theorem ctz_ok (F : Mem) (ht : TabA F) (s : Nat) (hs : s < 18446744073709551616) : FT Tryd.prog 37 [.int .u64 (s : Int)].toArray F [] (Ret (.int .i64 (ctz 64 s : Int))) := by
  by_cases h0 : s = 0
  · subst h0
    rw [show ctz 64 0 = 64 from rfl]
    refine FT.of_body Tryd.func37 rfl Tryd.ntmps37 (by simp) fun C hC => ?_
    subst hC
    conv => whnf
    repeat (first | (refine LoadV.s rfl rfl (forceV_of ?_); conv => whnf) | (refine LoadV.s rfl rfl ?_; conv => whnf) | (refine StoreV.c rfl rfl (Nat.le_of_ble_eq_true rfl) rfl ?_; conv => whnf) | (refine LoadV.a _ rfl (Nat.le_of_ble_eq_true rfl) ?_; conv => whnf) | (refine DrawI.quiet (by kernel_rfl) (by kernel_rfl) ?_; conv => whnf) | (refine ArI.in64 (by omega) ?_; conv => whnf) | (refine ArI.inU8 (by omega) ?_; conv => whnf) | (refine ArI.inU64 (by omega) ?_; conv => whnf) | (refine ArI.inU32 (by omega) ?_; conv => whnf) | (refine RetI.one Tryd.results37 rfl ?_; conv => whnf) | (refine RetI.two Tryd.results37 rfl rfl ?_; conv => whnf) | (refine RetI.three Tryd.results37 rfl rfl rfl ?_; conv => whnf) | (refine RetI.none Tryd.results37 ?_; conv => whnf) | (refine ⟨by first | decide | omega, ?_⟩; conv => whnf))
    exact ⟨_, Sub.refl _, rfl, rfl⟩
  have hne : ((s : Int) == 0) = false := by simp; omega
  have hk := (Lib.lowest_bit 64 s h0 hs).2
  obtain ⟨hi, htab⟩ := Lib.deBruijn64_at _ hk
  have key := tz_prod h0 hs
  generalize ctz 64 s = k at hk hi htab key ⊢
  generalize 2 ^ k * 285870213051353865 % 18446744073709551616 = pr at hi htab key
  have hrow : ∀ idx, idx < 64 → deBruijn64tab.getD idx 0 = k → RdC F ⟨0, idx, none⟩ (.int .u8 (k : Int)) := fun idx h1 h2 => by
    have := ht idx h1
    rwa [h2] at this
  have hrd := hrow _ hi htab
  clear hrow htab ht
  generalize he : pr / 288230376151711744 = idx at hi hrd
  refine FT.of_body Tryd.func37 rfl Tryd.ntmps37 (by simp) fun C hC => ?_
  subst hC
  conv => whnf
  rw [hne]
  conv => whnf
  refine ArI.mk _ key ?_
  conv => whnf
  refine ⟨by decide, ?_⟩
  conv => whnf
  rw [show Int.fdiv (pr : Int) (2 ^ min (Int.toNat 58) IntKind.u64.bits) = ((pr / 288230376151711744 : Nat) : Int) from shr_le (V := pr) (W := 58) (by decide), he]
  refine ⟨by omega, ?_⟩
  conv => whnf
  rw [elemOff_nat]
  rotate_left
  · kernel_rfl
  rw [Nat.zero_add]
  refine LoadV.f hrd rfl ?_
  conv => whnf
  refine ArI.in64 (by omega) ?_
  conv => whnf
  repeat (first | (refine LoadV.s rfl rfl (forceV_of ?_); conv => whnf) | (refine LoadV.s rfl rfl ?_; conv => whnf) | (refine StoreV.c rfl rfl (Nat.le_of_ble_eq_true rfl) rfl ?_; conv => whnf) | (refine LoadV.a _ rfl (Nat.le_of_ble_eq_true rfl) ?_; conv => whnf) | (refine DrawI.quiet (by kernel_rfl) (by kernel_rfl) ?_; conv => whnf) | (refine ArI.in64 (by omega) ?_; conv => whnf) | (refine ArI.inU8 (by omega) ?_; conv => whnf) | (refine ArI.inU64 (by omega) ?_; conv => whnf) | (refine ArI.inU32 (by omega) ?_; conv => whnf) | (refine RetI.one Tryd.results37 rfl ?_; conv => whnf) | (refine RetI.two Tryd.results37 rfl rfl ?_; conv => whnf) | (refine RetI.three Tryd.results37 rfl rfl rfl ?_; conv => whnf) | (refine RetI.none Tryd.results37 ?_; conv => whnf) | (refine ⟨by first | decide | omega, ?_⟩; conv => whnf))
  exact ⟨_, Sub.refl _, rfl, rfl⟩
theorem hasN_eq {s : Nat} (hs : s < 18446744073709551616) (n : Int) : decide ((bits .and .u64 (s : Int) (bitN n : Int)) ≠ 0) = (decide (0 ≤ n ∧ n < 64) && s.testBit n.toNat) := by
  rw [u64_and_nat s _ hs (bitN_lt n)]
  unfold bitN
  by_cases h : 0 ≤ n ∧ n < 64
  · rw [if_pos h, decide_eq_true h, Bool.true_and]
    have e : s &&& 2 ^ n.toNat = if s.testBit n.toNat = true then 2 ^ n.toNat else 0 := by
      apply Nat.eq_of_testBit_eq
      intro i
      rw [Nat.testBit_and, Nat.testBit_two_pow]
      by_cases hi : n.toNat = i
      · subst hi; cases s.testBit n.toNat <;> simp
      · cases s.testBit n.toNat <;> simp [hi]
    rw [e]
    cases s.testBit n.toNat
    · simp
    · simp only [if_true]
      have := Nat.two_pow_pos n.toNat
      exact decide_eq_true (by omega)
  · rw [if_neg h, decide_eq_false h]; simp
theorem has_ok (F : Mem) (s : Nat) (hs : s < 18446744073709551616) (n : Int) : FT Tryd.prog 12 [.int .u64 (s : Int), .int .i64 n].toArray F [] (Ret (.bool (hasN s n))) := by
  refine FT.of_body Tryd.func12 rfl Tryd.ntmps12 (by simp) fun C hC => ?_
  subst hC
  conv => whnf
  refine CallS.mk Tryd.call32 ⟨[], _, _, Sub.refl _, fun F' hF' => bit_ok F' n, ?_⟩
  rintro e A' ⟨rfl, rfl⟩
  conv => whnf
  repeat (first | (refine LoadV.s rfl rfl (forceV_of ?_); conv => whnf) | (refine LoadV.s rfl rfl ?_; conv => whnf) | (refine StoreV.c rfl rfl (Nat.le_of_ble_eq_true rfl) rfl ?_; conv => whnf) | (refine LoadV.a _ rfl (Nat.le_of_ble_eq_true rfl) ?_; conv => whnf) | (refine DrawI.quiet (by kernel_rfl) (by kernel_rfl) ?_; conv => whnf) | (refine ArI.in64 (by omega) ?_; conv => whnf) | (refine ArI.inU8 (by omega) ?_; conv => whnf) | (refine ArI.inU64 (by omega) ?_; conv => whnf) | (refine ArI.inU32 (by omega) ?_; conv => whnf) | (refine RetI.one Tryd.results12 rfl ?_; conv => whnf) | (refine RetI.two Tryd.results12 rfl rfl ?_; conv => whnf) | (refine RetI.three Tryd.results12 rfl rfl rfl ?_; conv => whnf) | (refine RetI.none Tryd.results12 ?_; conv => whnf) | (refine ⟨by first | decide | omega, ?_⟩; conv => whnf))
  exact ⟨_, Sub.refl _, ret_bool (by rw [← show _ = hasN s n from hasN_eq hs n, decide_not]; rfl), rfl⟩
theorem bit_zero (n : Int) : ((bitN n : Int) == 0) = !decide (okSlot n) := by
  unfold bitN okSlot
  by_cases h : 0 ≤ n ∧ n < 64
  · rw [if_pos h, decide_eq_true h]
    have := Nat.two_pow_pos n.toNat
    have e : ((2 ^ n.toNat : Nat) : Int) ≠ 0 := by omega
    exact beq_eq_false_iff_ne.2 e
  · rw [if_neg h, decide_eq_false h]; rfl
theorem put_ok (F : Mem) (s : Nat) (hs : s < 18446744073709551616) (n : Int) : FT Tryd.prog 10 [.int .u64 (s : Int), .int .i64 n].toArray F [] (Ret (.tuple #[.int .u64 (putN s n : Int), .int .i64 (errS n)])) := by
  refine FT.of_body Tryd.func10 rfl Tryd.ntmps10 (by simp) fun C hC => ?_
  subst hC
  conv => whnf
  refine CallS.mk Tryd.call32 ⟨[], _, _, Sub.refl _, fun F' hF' => bit_ok F' n, ?_⟩
  rintro e A' ⟨rfl, rfl⟩
  conv => whnf
  rw [bit_zero n]
  by_cases h : okSlot n
  · have e1 : putN s n = s ||| bitN n := by unfold putN bitN; rw [if_pos h, if_pos h]
    have e2 : errS n = 0 := by unfold errS; rw [if_pos h]
    rw [decide_eq_true h, e1, e2]
    conv => whnf
    refine CallS.mk Tryd.call32 ⟨[], _, _, Sub.refl _, fun F' hF' => bit_ok F' n, ?_⟩
    rintro e A' ⟨rfl, rfl⟩
    conv => whnf
    rw [u64_or_nat s _ hs (bitN_lt n)]
    repeat (first | (refine LoadV.s rfl rfl (forceV_of ?_); conv => whnf) | (refine LoadV.s rfl rfl ?_; conv => whnf) | (refine StoreV.c rfl rfl (Nat.le_of_ble_eq_true rfl) rfl ?_; conv => whnf) | (refine LoadV.a _ rfl (Nat.le_of_ble_eq_true rfl) ?_; conv => whnf) | (refine DrawI.quiet (by kernel_rfl) (by kernel_rfl) ?_; conv => whnf) | (refine ArI.in64 (by omega) ?_; conv => whnf) | (refine ArI.inU8 (by omega) ?_; conv => whnf) | (refine ArI.inU64 (by omega) ?_; conv => whnf) | (refine ArI.inU32 (by omega) ?_; conv => whnf) | (refine RetI.one Tryd.results10 rfl ?_; conv => whnf) | (refine RetI.two Tryd.results10 rfl rfl ?_; conv => whnf) | (refine RetI.three Tryd.results10 rfl rfl rfl ?_; conv => whnf) | (refine RetI.none Tryd.results10 ?_; conv => whnf) | (refine ⟨by first | decide | omega, ?_⟩; conv => whnf))
    exact ⟨_, Sub.refl _, rfl, rfl⟩
  · have e1 : putN s n = 0 := by unfold putN; rw [if_neg h]
    have e2 : errS n = 1 := by unfold errS; rw [if_neg h]
    rw [decide_eq_false h, e1, e2]
    conv => whnf
    repeat (first | (refine LoadV.s rfl rfl (forceV_of ?_); conv => whnf) | (refine LoadV.s rfl rfl ?_; conv => whnf) | (refine StoreV.c rfl rfl (Nat.le_of_ble_eq_true rfl) rfl ?_; conv => whnf) | (refine LoadV.a _ rfl (Nat.le_of_ble_eq_true rfl) ?_; conv => whnf) | (refine DrawI.quiet (by kernel_rfl) (by kernel_rfl) ?_; conv => whnf) | (refine ArI.in64 (by omega) ?_; conv => whnf) | (refine ArI.inU8 (by omega) ?_; conv => whnf) | (refine ArI.inU64 (by omega) ?_; conv => whnf) | (refine ArI.inU32 (by omega) ?_; conv => whnf) | (refine RetI.one Tryd.results10 rfl ?_; conv => whnf) | (refine RetI.two Tryd.results10 rfl rfl ?_; conv => whnf) | (refine RetI.three Tryd.results10 rfl rfl rfl ?_; conv => whnf) | (refine RetI.none Tryd.results10 ?_; conv => whnf) | (refine ⟨by first | decide | omega, ?_⟩; conv => whnf))
    exact ⟨_, Sub.refl _, rfl, rfl⟩
theorem drop_ok (F : Mem) (s : Nat) (hs : s < 18446744073709551616) (n : Int) : FT Tryd.prog 11 [.int .u64 (s : Int), .int .i64 n].toArray F [] (Ret (.tuple #[.int .u64 (dropN s n : Int), .int .i64 (errS n)])) := by
  refine FT.of_body Tryd.func11 rfl Tryd.ntmps11 (by simp) fun C hC => ?_
  subst hC
  conv => whnf
  refine CallS.mk Tryd.call32 ⟨[], _, _, Sub.refl _, fun F' hF' => bit_ok F' n, ?_⟩
  rintro e A' ⟨rfl, rfl⟩
  conv => whnf
  rw [bit_zero n]
  by_cases h : okSlot n
  · have e1 : dropN s n = s &&& (18446744073709551615 - bitN n) := by unfold dropN bitN cmp; rw [if_pos h, if_pos h]
    have e2 : errS n = 0 := by unfold errS; rw [if_pos h]
    rw [decide_eq_true h, e1, e2]
    conv => whnf
    refine CallS.mk Tryd.call32 ⟨[], _, _, Sub.refl _, fun F' hF' => bit_ok F' n, ?_⟩
    rintro e A' ⟨rfl, rfl⟩
    conv => whnf
    rw [u64_andNot_nat s _ hs (bitN_lt n)]
    repeat (first | (refine LoadV.s rfl rfl (forceV_of ?_); conv => whnf) | (refine LoadV.s rfl rfl ?_; conv => whnf) | (refine StoreV.c rfl rfl (Nat.le_of_ble_eq_true rfl) rfl ?_; conv => whnf) | (refine LoadV.a _ rfl (Nat.le_of_ble_eq_true rfl) ?_; conv => whnf) | (refine DrawI.quiet (by kernel_rfl) (by kernel_rfl) ?_; conv => whnf) | (refine ArI.in64 (by omega) ?_; conv => whnf) | (refine ArI.inU8 (by omega) ?_; conv => whnf) | (refine ArI.inU64 (by omega) ?_; conv => whnf) | (refine ArI.inU32 (by omega) ?_; conv => whnf) | (refine RetI.one Tryd.results11 rfl ?_; conv => whnf) | (refine RetI.two Tryd.results11 rfl rfl ?_; conv => whnf) | (refine RetI.three Tryd.results11 rfl rfl rfl ?_; conv => whnf) | (refine RetI.none Tryd.results11 ?_; conv => whnf) | (refine ⟨by first | decide | omega, ?_⟩; conv => whnf))
    exact ⟨_, Sub.refl _, rfl, rfl⟩
  · have e1 : dropN s n = 0 := by unfold dropN; rw [if_neg h]
    have e2 : errS n = 1 := by unfold errS; rw [if_neg h]
    rw [decide_eq_false h, e1, e2]
    conv => whnf
    repeat (first | (refine LoadV.s rfl rfl (forceV_of ?_); conv => whnf) | (refine LoadV.s rfl rfl ?_; conv => whnf) | (refine StoreV.c rfl rfl (Nat.le_of_ble_eq_true rfl) rfl ?_; conv => whnf) | (refine LoadV.a _ rfl (Nat.le_of_ble_eq_true rfl) ?_; conv => whnf) | (refine DrawI.quiet (by kernel_rfl) (by kernel_rfl) ?_; conv => whnf) | (refine ArI.in64 (by omega) ?_; conv => whnf) | (refine ArI.inU8 (by omega) ?_; conv => whnf) | (refine ArI.inU64 (by omega) ?_; conv => whnf) | (refine ArI.inU32 (by omega) ?_; conv => whnf) | (refine RetI.one Tryd.results11 rfl ?_; conv => whnf) | (refine RetI.two Tryd.results11 rfl rfl ?_; conv => whnf) | (refine RetI.three Tryd.results11 rfl rfl rfl ?_; conv => whnf) | (refine RetI.none Tryd.results11 ?_; conv => whnf) | (refine ⟨by first | decide | omega, ?_⟩; conv => whnf))
    exact ⟨_, Sub.refl _, rfl, rfl⟩
theorem shr_lit (V W k : Nat) (c : Int) (hc : c = (W : Int)) (h : W ≤ k) : Int.fdiv (V : Int) (2 ^ min (Int.toNat c) k) = ((V / 2 ^ W : Nat) : Int) := by subst hc; exact shr_le h
theorem ones_ok (F : Mem) (s : Nat) (hs : s < 18446744073709551616) : FT Tryd.prog 33 [.int .u64 (s : Int)].toArray F [] (Ret (.int .i64 ((slots s).length : Int))) := by
  have hall := pop_all s
  rw [show repB 85 8 = 6148914691236517205 from by decide +kernel, show repB 51 8 = 3689348814741910323 from by decide +kernel, show repB 15 8 = 1085102592571150095 from by decide +kernel] at hall
  dsimp only at hall
  obtain ⟨a, ha⟩ : ∃ a, a = (s / 2 &&& 6148914691236517205) + (s &&& 6148914691236517205) := ⟨_, rfl⟩
  obtain ⟨c, hc⟩ : ∃ c, c = (a / 4 &&& 3689348814741910323) + (a &&& 3689348814741910323) := ⟨_, rfl⟩
  obtain ⟨m, hm⟩ : ∃ m, m = ((c / 16 + c) &&& 1085102592571150095) := ⟨_, rfl⟩
  rw [← ha, ← hc, ← hm] at hall
  obtain ⟨y, hy⟩ : ∃ y, y = m + m / 256 := ⟨_, rfl⟩
  obtain ⟨z, hz⟩ : ∃ z, z = y + y / 65536 := ⟨_, rfl⟩
  obtain ⟨u, hu⟩ : ∃ u, u = z + z / 4294967296 := ⟨_, rfl⟩
  obtain ⟨l1, l2, l3, l4, hlast⟩ := pop_last hall hy hz hu
  have la : a ≤ 12297829382473034410 := by
    have e1 : (s / 2 &&& 6148914691236517205) ≤ 6148914691236517205 := Nat.and_le_right
    have e2 : (s &&& 6148914691236517205) ≤ 6148914691236517205 := Nat.and_le_right
    omega
  have lc : c ≤ 7378697629483820646 := by
    have e1 : (a / 4 &&& 3689348814741910323) ≤ 3689348814741910323 := Nat.and_le_right
    have e2 : (a &&& 3689348814741910323) ≤ 3689348814741910323 := Nat.and_le_right
    omega
  refine FT.of_body Tryd.func33 rfl Tryd.ntmps33 (by simp) fun C hC => ?_
  subst hC
  conv => whnf
  refine ⟨by decide, ?_⟩
  conv => whnf
  rw [show (1 : Int) = ((1 : Nat) : Int) from rfl, shr_le (V := s) (W := 1) (by decide), show (6148914691236517205 : Int) = ((6148914691236517205 : Nat) : Int) from rfl, u64_and_nat (s / 2 ^ 1) _ (by omega) (by decide), u64_and_nat s _ hs (by decide), show (2 : Nat) ^ 1 = 2 from rfl]
  refine ArI.mk (a : Int) (by rw [← Int.natCast_add, ← ha, wrap_u64_nat, Nat.mod_eq_of_lt (by omega)]) ?_
  conv => whnf
  refine ⟨by decide, ?_⟩
  conv => whnf
  rw [shr_lit a 2 _ 2 rfl (by decide), show (3689348814741910323 : Int) = ((3689348814741910323 : Nat) : Int) from rfl, u64_and_nat (a / 2 ^ 2) _ (by omega) (by decide), u64_and_nat a _ (by omega) (by decide), show (2 : Nat) ^ 2 = 4 from rfl]
  refine ArI.mk (c : Int) (by rw [← Int.natCast_add, ← hc, wrap_u64_nat, Nat.mod_eq_of_lt (by omega)]) ?_
  conv => whnf
  refine ⟨by decide, ?_⟩
  conv => whnf
  rw [shr_lit c 4 _ 4 rfl (by decide), show (2 : Nat) ^ 4 = 16 from rfl]
  refine ArI.mk ((c / 16 + c : Nat) : Int) (by rw [← Int.natCast_add, wrap_u64_nat, Nat.mod_eq_of_lt (by omega)]) ?_
  conv => whnf
  rw [show (1085102592571150095 : Int) = ((1085102592571150095 : Nat) : Int) from rfl, u64_and_nat (c / 16 + c) _ (by omega) (by decide), ← hm]
  conv => whnf
  refine ⟨by decide, ?_⟩
  conv => whnf
  rw [shr_lit m 8 _ 8 rfl (by decide), show (2 : Nat) ^ 8 = 256 from rfl]
  refine ArI.mk (y : Int) (by rw [← Int.natCast_add, ← hy, wrap_u64_nat, Nat.mod_eq_of_lt (by omega)]) ?_
  conv => whnf
  refine ⟨by decide, ?_⟩
  conv => whnf
  rw [shr_lit y 16 _ 16 rfl (by decide), show (2 : Nat) ^ 16 = 65536 from rfl]
  refine ArI.mk (z : Int) (by rw [← Int.natCast_add, ← hz, wrap_u64_nat, Nat.mod_eq_of_lt (by omega)]) ?_
  conv => whnf
  refine ⟨by decide, ?_⟩
  conv => whnf
  rw [shr_lit z 32 _ 32 rfl (by decide), show (2 : Nat) ^ 32 = 4294967296 from rfl]
  refine ArI.mk (u : Int) (by rw [← Int.natCast_add, ← hu, wrap_u64_nat, Nat.mod_eq_of_lt (by omega)]) ?_
  conv => whnf
  refine ArI.in64 (by omega) ?_
  conv => whnf
  rw [show (127 : Int) = ((2 ^ 7 - 1 : Nat) : Int) from rfl, i64_and_mask _ 7 (by decide)]
  repeat (first | (refine LoadV.s rfl rfl (forceV_of ?_); conv => whnf) | (refine LoadV.s rfl rfl ?_; conv => whnf) | (refine StoreV.c rfl rfl (Nat.le_of_ble_eq_true rfl) rfl ?_; conv => whnf) | (refine LoadV.a _ rfl (Nat.le_of_ble_eq_true rfl) ?_; conv => whnf) | (refine DrawI.quiet (by kernel_rfl) (by kernel_rfl) ?_; conv => whnf) | (refine ArI.in64 (by omega) ?_; conv => whnf) | (refine ArI.inU8 (by omega) ?_; conv => whnf) | (refine ArI.inU64 (by omega) ?_; conv => whnf) | (refine ArI.inU32 (by omega) ?_; conv => whnf) | (refine RetI.one Tryd.results33 rfl ?_; conv => whnf) | (refine RetI.two Tryd.results33 rfl rfl ?_; conv => whnf) | (refine RetI.three Tryd.results33 rfl rfl rfl ?_; conv => whnf) | (refine RetI.none Tryd.results33 ?_; conv => whnf) | (refine ⟨by first | decide | omega, ?_⟩; conv => whnf))
  exact ⟨_, Sub.refl _, ret_int (by omega), rfl⟩
theorem count_ok (F : Mem) (s : Nat) (hs : s < 18446744073709551616) : FT Tryd.prog 13 [.int .u64 (s : Int)].toArray F [] (Ret (.int .i64 ((slots s).length : Int))) := by
  refine FT.of_body Tryd.func13 rfl Tryd.ntmps13 (by simp) fun C hC => ?_
  subst hC
  conv => whnf
  refine CallS.mk Tryd.call33 ⟨[], _, _, Sub.refl _, fun F' hF' => ones_ok F' s hs, ?_⟩
  rintro e A' ⟨rfl, rfl⟩
  conv => whnf
  repeat (first | (refine LoadV.s rfl rfl (forceV_of ?_); conv => whnf) | (refine LoadV.s rfl rfl ?_; conv => whnf) | (refine StoreV.c rfl rfl (Nat.le_of_ble_eq_true rfl) rfl ?_; conv => whnf) | (refine LoadV.a _ rfl (Nat.le_of_ble_eq_true rfl) ?_; conv => whnf) | (refine DrawI.quiet (by kernel_rfl) (by kernel_rfl) ?_; conv => whnf) | (refine ArI.in64 (by omega) ?_; conv => whnf) | (refine ArI.inU8 (by omega) ?_; conv => whnf) | (refine ArI.inU64 (by omega) ?_; conv => whnf) | (refine ArI.inU32 (by omega) ?_; conv => whnf) | (refine RetI.one Tryd.results13 rfl ?_; conv => whnf) | (refine RetI.two Tryd.results13 rfl rfl ?_; conv => whnf) | (refine RetI.three Tryd.results13 rfl rfl rfl ?_; conv => whnf) | (refine RetI.none Tryd.results13 ?_; conv => whnf) | (refine ⟨by first | decide | omega, ?_⟩; conv => whnf))
  exact ⟨_, Sub.refl _, rfl, rfl⟩
theorem firstFrom_big {s k : Nat} (h : 64 ≤ k) : firstFrom s k = none := firstFrom_none.2 fun j hj hk => by omega
theorem max_nat (n : Int) : max n 0 = ((max n 0).toNat : Int) := by omega
theorem next_ok (F : Mem) (ht : TabA F) (s : Nat) (hs : s < 18446744073709551616) (n : Int) : FT Tryd.prog 22 [.int .u64 (s : Int), .int .i64 n].toArray F [] (Ret (.int .i64 (nextI s n))) := by
  refine FT.of_body Tryd.func22 rfl Tryd.ntmps22 (by simp) fun C hC => ?_
  subst hC
  conv => whnf
  refine cond_dec (fun h => ?_) (fun h => ?_)
  · have e : nextI s n = -1 := by unfold nextI; rw [firstFrom_big (by omega)]; rfl
    rw [e]
    conv => whnf
    repeat (first | (refine LoadV.s rfl rfl (forceV_of ?_); conv => whnf) | (refine LoadV.s rfl rfl ?_; conv => whnf) | (refine StoreV.c rfl rfl (Nat.le_of_ble_eq_true rfl) rfl ?_; conv => whnf) | (refine LoadV.a _ rfl (Nat.le_of_ble_eq_true rfl) ?_; conv => whnf) | (refine DrawI.quiet (by kernel_rfl) (by kernel_rfl) ?_; conv => whnf) | (refine ArI.in64 (by omega) ?_; conv => whnf) | (refine ArI.inU8 (by omega) ?_; conv => whnf) | (refine ArI.inU64 (by omega) ?_; conv => whnf) | (refine ArI.inU32 (by omega) ?_; conv => whnf) | (refine RetI.one Tryd.results22 rfl ?_; conv => whnf) | (refine RetI.two Tryd.results22 rfl rfl ?_; conv => whnf) | (refine RetI.three Tryd.results22 rfl rfl rfl ?_; conv => whnf) | (refine RetI.none Tryd.results22 ?_; conv => whnf) | (refine ⟨by first | decide | omega, ?_⟩; conv => whnf))
    exact ⟨_, Sub.refl _, rfl, rfl⟩
  · conv => whnf
    have hk : (max n 0).toNat < 64 := by omega
    have hmx := max_nat n
    unfold nextI
    generalize (max n 0).toNat = k at hk hmx
    obtain ⟨l1, l2⟩ := next_law (f := k) hs
    rw [hmx]
    refine ArI.inU64 (by omega) ?_
    conv => whnf
    refine ⟨by omega, ?_⟩
    conv => whnf
    rw [show (18446744073709551615 : Int) = ((18446744073709551615 : Nat) : Int) from rfl, mul_pow_nat 18446744073709551615 k, Nat.min_eq_left (show k ≤ IntKind.u64.bits by show k ≤ 64; omega), wrap_u64_nat, u64_and_nat s _ hs (Nat.mod_lt _ (by decide))]
    have lx : s &&& (18446744073709551615 * 2 ^ k % 18446744073709551616) < 18446744073709551616 := Nat.lt_of_le_of_lt Nat.and_le_left hs
    generalize s &&& (18446744073709551615 * 2 ^ k % 18446744073709551616) = x at l1 l2 lx
    by_cases hx : x = 0
    · rw [l1 hx, hx]
      conv => whnf
      repeat (first | (refine LoadV.s rfl rfl (forceV_of ?_); conv => whnf) | (refine LoadV.s rfl rfl ?_; conv => whnf) | (refine StoreV.c rfl rfl (Nat.le_of_ble_eq_true rfl) rfl ?_; conv => whnf) | (refine LoadV.a _ rfl (Nat.le_of_ble_eq_true rfl) ?_; conv => whnf) | (refine DrawI.quiet (by kernel_rfl) (by kernel_rfl) ?_; conv => whnf) | (refine ArI.in64 (by omega) ?_; conv => whnf) | (refine ArI.inU8 (by omega) ?_; conv => whnf) | (refine ArI.inU64 (by omega) ?_; conv => whnf) | (refine ArI.inU32 (by omega) ?_; conv => whnf) | (refine RetI.one Tryd.results22 rfl ?_; conv => whnf) | (refine RetI.two Tryd.results22 rfl rfl ?_; conv => whnf) | (refine RetI.three Tryd.results22 rfl rfl rfl ?_; conv => whnf) | (refine RetI.none Tryd.results22 ?_; conv => whnf) | (refine ⟨by first | decide | omega, ?_⟩; conv => whnf))
      exact ⟨_, Sub.refl _, rfl, rfl⟩
    · rw [l2 hx]
      rw [show ((x : Int) == 0) = false by simp; omega]
      conv => whnf
      refine CallS.mk Tryd.call37 ⟨[], _, _, Sub.refl _, fun F' hF' => ctz_ok F' (ht.ext hF') x lx, ?_⟩
      rintro e A' ⟨rfl, rfl⟩
      conv => whnf
      repeat (first | (refine LoadV.s rfl rfl (forceV_of ?_); conv => whnf) | (refine LoadV.s rfl rfl ?_; conv => whnf) | (refine StoreV.c rfl rfl (Nat.le_of_ble_eq_true rfl) rfl ?_; conv => whnf) | (refine LoadV.a _ rfl (Nat.le_of_ble_eq_true rfl) ?_; conv => whnf) | (refine DrawI.quiet (by kernel_rfl) (by kernel_rfl) ?_; conv => whnf) | (refine ArI.in64 (by omega) ?_; conv => whnf) | (refine ArI.inU8 (by omega) ?_; conv => whnf) | (refine ArI.inU64 (by omega) ?_; conv => whnf) | (refine ArI.inU32 (by omega) ?_; conv => whnf) | (refine RetI.one Tryd.results22 rfl ?_; conv => whnf) | (refine RetI.two Tryd.results22 rfl rfl ?_; conv => whnf) | (refine RetI.three Tryd.results22 rfl rfl rfl ?_; conv => whnf) | (refine RetI.none Tryd.results22 ?_; conv => whnf) | (refine ⟨by first | decide | omega, ?_⟩; conv => whnf))
      exact ⟨_, Sub.refl _, rfl, rfl⟩
theorem not_u64 (n : Nat) (h : n < 18446744073709551616) : IntKind.u64.wrap ((BitVec.ofInt IntKind.u64.bits (if IntKind.u64.signed = true then -1 else IntKind.u64.max) ^^^ BitVec.ofInt IntKind.u64.bits (n : Int)).toNat : Nat) = ((cmp n : Nat) : Int) := by
  have : bits .xor .u64 ((18446744073709551615 : Nat) : Int) (n : Int) = ((18446744073709551615 ^^^ n : Nat) : Int) := u64_xor_nat _ _ (by decide) h
  refine Eq.trans this (congrArg Int.ofNat (bits_ext (Nat.xor_lt_two_pow (n := 64) (by decide) h) (cmp_lt n) fun i hi => ?_))
  rw [Nat.testBit_xor, cmp_bit h, show (18446744073709551615 : Nat) = 2 ^ 64 - 1 from rfl, Nat.testBit_two_pow_sub_one]
  simp [hi]
theorem lowest_ok (F : Mem) (ht : TabA F) (s : Nat) (hs : s < 18446744073709551616) : FT Tryd.prog 17 [.int .u64 (s : Int)].toArray F [] (Ret (.int .i64 (nextI (cmp s) 0))) := by
  refine FT.of_body Tryd.func17 rfl Tryd.ntmps17 (by simp) fun C hC => ?_
  subst hC
  conv => whnf
  rw [not_u64 s hs]
  refine CallS.mk Tryd.call22 ⟨[], _, _, Sub.refl _, fun F' hF' => next_ok F' (ht.ext hF') (cmp s) (cmp_lt s) 0, ?_⟩
  rintro e A' ⟨rfl, rfl⟩
  conv => whnf
  repeat (first | (refine LoadV.s rfl rfl (forceV_of ?_); conv => whnf) | (refine LoadV.s rfl rfl ?_; conv => whnf) | (refine StoreV.c rfl rfl (Nat.le_of_ble_eq_true rfl) rfl ?_; conv => whnf) | (refine LoadV.a _ rfl (Nat.le_of_ble_eq_true rfl) ?_; conv => whnf) | (refine DrawI.quiet (by kernel_rfl) (by kernel_rfl) ?_; conv => whnf) | (refine ArI.in64 (by omega) ?_; conv => whnf) | (refine ArI.inU8 (by omega) ?_; conv => whnf) | (refine ArI.inU64 (by omega) ?_; conv => whnf) | (refine ArI.inU32 (by omega) ?_; conv => whnf) | (refine RetI.one Tryd.results17 rfl ?_; conv => whnf) | (refine RetI.two Tryd.results17 rfl rfl ?_; conv => whnf) | (refine RetI.three Tryd.results17 rfl rfl rfl ?_; conv => whnf) | (refine RetI.none Tryd.results17 ?_; conv => whnf) | (refine ⟨by first | decide | omega, ?_⟩; conv => whnf))
  exact ⟨_, Sub.refl _, rfl, rfl⟩
end Go.Proofs.YtpcefmocphbdgaaDoor
