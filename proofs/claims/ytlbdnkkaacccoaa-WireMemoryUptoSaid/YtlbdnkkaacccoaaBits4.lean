/- The bits, by the reference: fields, bytes. -/
import Derived.Test.YtlbdnkkaacccoaaBits3
namespace Go.Proofs.Ytlbdnkkaacccoaa
set_option linter.unusedVariables false
set_option linter.unusedSimpArgs false
set_option maxRecDepth 100000
open SL Go.RowKit Go.Maps

theorem quo2_u64 (V : Nat) (h : V < 18446744073709551616) : IntKind.u64.wrap ((V : Int).tdiv 2) = ((V / 2 : Nat) : Int) := by
  rw [IntWalk.u64_quo _ _ (by omega)]; omega
theorem quo2_u8 (V : Nat) (h : V < 256) : IntKind.u8.wrap ((V : Int).tdiv 2) = ((V / 2 : Nat) : Int) := by
  rw [IntWalk.u8_quo _ _ (by omega)]; omega
theorem div_pow_succ (V i : Nat) : V / 2 ^ i / 2 = V / 2 ^ (i + 1) := by rw [Nat.div_div_eq_div_mul, Nat.pow_succ]
theorem rRight_ok (F : Mem) (V : Nat) (w : Int) (hv : V < 18446744073709551616) : FT Try.prog 63 [.agg #[.int .u64 (V : Int), .int .i64 w]].toArray F [] (Ret (.bool (fitsB V w))) := by
  refine FT.of_body Try.func63 rfl Try.ntmps63 (by simp) fun C hC => ?_
  subst hC
  conv => whnf
  intro b
  conv => whnf
  repeat (first | (refine LoadV.s rfl rfl (forceV_of ?_); conv => whnf) | (refine LoadV.s rfl rfl ?_; conv => whnf) | (refine StoreV.c rfl rfl (Nat.le_of_ble_eq_true rfl) rfl ?_; conv => whnf) | (refine LoadV.a _ rfl (Nat.le_of_ble_eq_true rfl) ?_; conv => whnf) | (refine DrawI.quiet (by kernel_rfl) (by kernel_rfl) ?_; conv => whnf) | (refine ArI.in64 (by omega) ?_; conv => whnf) | (refine ArI.inU8 (by omega) ?_; conv => whnf) | (refine ArI.inU64 (by omega) ?_; conv => whnf) | (refine ArI.inU32 (by omega) ?_; conv => whnf) | (refine RetI.one Try.results63 rfl ?_; conv => whnf) | (refine RetI.two Try.results63 rfl rfl ?_; conv => whnf) | (refine RetI.three Try.results63 rfl rfl rfl ?_; conv => whnf) | (refine RetI.none Try.results63 ?_; conv => whnf) | (refine ⟨by first | decide | omega, ?_⟩; conv => whnf))
  refine cond_dec (fun h1 => ?_) (fun h1 => ?_)
  · conv => whnf
    repeat (first | (refine LoadV.s rfl rfl (forceV_of ?_); conv => whnf) | (refine LoadV.s rfl rfl ?_; conv => whnf) | (refine StoreV.c rfl rfl (Nat.le_of_ble_eq_true rfl) rfl ?_; conv => whnf) | (refine LoadV.a _ rfl (Nat.le_of_ble_eq_true rfl) ?_; conv => whnf) | (refine DrawI.quiet (by kernel_rfl) (by kernel_rfl) ?_; conv => whnf) | (refine ArI.in64 (by omega) ?_; conv => whnf) | (refine ArI.inU8 (by omega) ?_; conv => whnf) | (refine ArI.inU64 (by omega) ?_; conv => whnf) | (refine ArI.inU32 (by omega) ?_; conv => whnf) | (refine RetI.one Try.results63 rfl ?_; conv => whnf) | (refine RetI.two Try.results63 rfl rfl ?_; conv => whnf) | (refine RetI.three Try.results63 rfl rfl rfl ?_; conv => whnf) | (refine RetI.none Try.results63 ?_; conv => whnf) | (refine ⟨by first | decide | omega, ?_⟩; conv => whnf))
    exact ⟨_, Sub.sel [] rfl, ret_bool (by unfold fitsB; rw [decide_eq_false (by omega)]), rfl⟩
  conv => whnf
  repeat (first | (refine LoadV.s rfl rfl (forceV_of ?_); conv => whnf) | (refine LoadV.s rfl rfl ?_; conv => whnf) | (refine StoreV.c rfl rfl (Nat.le_of_ble_eq_true rfl) rfl ?_; conv => whnf) | (refine LoadV.a _ rfl (Nat.le_of_ble_eq_true rfl) ?_; conv => whnf) | (refine DrawI.quiet (by kernel_rfl) (by kernel_rfl) ?_; conv => whnf) | (refine ArI.in64 (by omega) ?_; conv => whnf) | (refine ArI.inU8 (by omega) ?_; conv => whnf) | (refine ArI.inU64 (by omega) ?_; conv => whnf) | (refine ArI.inU32 (by omega) ?_; conv => whnf) | (refine RetI.one Try.results63 rfl ?_; conv => whnf) | (refine RetI.two Try.results63 rfl rfl ?_; conv => whnf) | (refine RetI.three Try.results63 rfl rfl rfl ?_; conv => whnf) | (refine RetI.none Try.results63 ?_; conv => whnf) | (refine ⟨by first | decide | omega, ?_⟩; conv => whnf))
  refine cond_dec (fun h2 => ?_) (fun h2 => ?_)
  · conv => whnf
    repeat (first | (refine LoadV.s rfl rfl (forceV_of ?_); conv => whnf) | (refine LoadV.s rfl rfl ?_; conv => whnf) | (refine StoreV.c rfl rfl (Nat.le_of_ble_eq_true rfl) rfl ?_; conv => whnf) | (refine LoadV.a _ rfl (Nat.le_of_ble_eq_true rfl) ?_; conv => whnf) | (refine DrawI.quiet (by kernel_rfl) (by kernel_rfl) ?_; conv => whnf) | (refine ArI.in64 (by omega) ?_; conv => whnf) | (refine ArI.inU8 (by omega) ?_; conv => whnf) | (refine ArI.inU64 (by omega) ?_; conv => whnf) | (refine ArI.inU32 (by omega) ?_; conv => whnf) | (refine RetI.one Try.results63 rfl ?_; conv => whnf) | (refine RetI.two Try.results63 rfl rfl ?_; conv => whnf) | (refine RetI.three Try.results63 rfl rfl rfl ?_; conv => whnf) | (refine RetI.none Try.results63 ?_; conv => whnf) | (refine ⟨by first | decide | omega, ?_⟩; conv => whnf))
    exact ⟨_, Sub.sel [] rfl, ret_bool (by unfold fitsB; rw [decide_eq_false (by omega)]), rfl⟩
  obtain ⟨W, rfl⟩ := Int.eq_ofNat_of_zero_le (show 0 ≤ w by omega)
  conv => whnf
  repeat (first | (refine LoadV.s rfl rfl (forceV_of ?_); conv => whnf) | (refine LoadV.s rfl rfl ?_; conv => whnf) | (refine StoreV.c rfl rfl (Nat.le_of_ble_eq_true rfl) rfl ?_; conv => whnf) | (refine LoadV.a _ rfl (Nat.le_of_ble_eq_true rfl) ?_; conv => whnf) | (refine DrawI.quiet (by kernel_rfl) (by kernel_rfl) ?_; conv => whnf) | (refine ArI.in64 (by omega) ?_; conv => whnf) | (refine ArI.inU8 (by omega) ?_; conv => whnf) | (refine ArI.inU64 (by omega) ?_; conv => whnf) | (refine ArI.inU32 (by omega) ?_; conv => whnf) | (refine RetI.one Try.results63 rfl ?_; conv => whnf) | (refine RetI.two Try.results63 rfl rfl ?_; conv => whnf) | (refine RetI.three Try.results63 rfl rfl rfl ?_; conv => whnf) | (refine RetI.none Try.results63 ?_; conv => whnf) | (refine ⟨by first | decide | omega, ?_⟩; conv => whnf))
  refine LoopI.by_state (σ := Nat) (fun i => [(1, .pointer (some ⟨b, 0, none⟩)), (3, .int .u64 ((V / 2 ^ i : Nat) : Int)), (4, .int .i64 (i : Int))]) (fun _ => [.cells b [.int .u64 (V : Int), .int .i64 (W : Int)] 114 (0, 0)]) (fun i => i ≤ W) (fun i => W - i) 0 (Nat.zero_le _) ⟨rfl, by rw [Nat.pow_zero, Nat.div_one]; rfl, rfl, trivial⟩ (Sub.refl _) ?_
  intro i f0 hi
  have hvi : V / 2 ^ i < 18446744073709551616 := Nat.lt_of_le_of_lt (Nat.div_le_self _ _) hv
  conv => whnf
  repeat (first | (refine LoadV.s rfl rfl (forceV_of ?_); conv => whnf) | (refine LoadV.s rfl rfl ?_; conv => whnf) | (refine StoreV.c rfl rfl (Nat.le_of_ble_eq_true rfl) rfl ?_; conv => whnf) | (refine LoadV.a _ rfl (Nat.le_of_ble_eq_true rfl) ?_; conv => whnf) | (refine DrawI.quiet (by kernel_rfl) (by kernel_rfl) ?_; conv => whnf) | (refine ArI.in64 (by omega) ?_; conv => whnf) | (refine ArI.inU8 (by omega) ?_; conv => whnf) | (refine ArI.inU64 (by omega) ?_; conv => whnf) | (refine ArI.inU32 (by omega) ?_; conv => whnf) | (refine RetI.one Try.results63 rfl ?_; conv => whnf) | (refine RetI.two Try.results63 rfl rfl ?_; conv => whnf) | (refine RetI.three Try.results63 rfl rfl rfl ?_; conv => whnf) | (refine RetI.none Try.results63 ?_; conv => whnf) | (refine ⟨by first | decide | omega, ?_⟩; conv => whnf))
  refine cond_dec (fun h => ?_) (fun h => ?_)
  · conv => whnf
    refine ⟨⟨rfl, by decide⟩, ?_⟩
    refine ArI.mk _ (quo2_u64 _ hvi) ?_
    conv => whnf
    refine ArI.to64 ((i + 1 : Nat) : Int) (by omega) (by omega) ?_
    conv => whnf
    exact ⟨i + 1, _, by omega, Sub.refl _, by omega, ⟨rfl, by rw [← div_pow_succ]; rfl, rfl, trivial⟩, rfl⟩
  · obtain rfl : i = W := by omega
    conv => whnf
    repeat (first | (refine LoadV.s rfl rfl (forceV_of ?_); conv => whnf) | (refine LoadV.s rfl rfl ?_; conv => whnf) | (refine StoreV.c rfl rfl (Nat.le_of_ble_eq_true rfl) rfl ?_; conv => whnf) | (refine LoadV.a _ rfl (Nat.le_of_ble_eq_true rfl) ?_; conv => whnf) | (refine DrawI.quiet (by kernel_rfl) (by kernel_rfl) ?_; conv => whnf) | (refine ArI.in64 (by omega) ?_; conv => whnf) | (refine ArI.inU8 (by omega) ?_; conv => whnf) | (refine ArI.inU64 (by omega) ?_; conv => whnf) | (refine ArI.inU32 (by omega) ?_; conv => whnf) | (refine RetI.one Try.results63 rfl ?_; conv => whnf) | (refine RetI.two Try.results63 rfl rfl ?_; conv => whnf) | (refine RetI.three Try.results63 rfl rfl rfl ?_; conv => whnf) | (refine RetI.none Try.results63 ?_; conv => whnf) | (refine ⟨by first | decide | omega, ?_⟩; conv => whnf))
    refine ⟨_, Sub.sel [] rfl, ret_bool ?_, rfl⟩
    show (((V / 2 ^ i : Nat) : Int) == 0) = _
    unfold fitsB
    rw [Int.toNat_natCast]
    by_cases h0 : V < 2 ^ i
    · rw [Nat.div_eq_of_lt h0, decide_eq_true ⟨by omega, by omega, h0⟩]; rfl
    · have : V / 2 ^ i ≠ 0 := fun e => h0 ((Nat.div_eq_zero_iff.1 e).resolve_left (by have := Nat.two_pow_pos i; omega))
      rw [decide_eq_false (fun h => h0 h.2.2), beq_eq_false_iff_ne]
      exact fun e => this (by exact_mod_cast e)
/-- Bits as bytes 0 and 1. -/
abbrev bitN (B : List Bool) : List Nat := B.map Bool.toNat
theorem bitsOf_split {W i V : Nat} (h : i < W) : bitsOf (W - i) (V / 2 ^ i) = bitsOf (W - (i + 1)) (V / 2 ^ (i + 1)) ++ [(V / 2 ^ i).testBit 0] := by
  rw [show W - i = W - (i + 1) + 1 by omega, bitsOf_succ, div_pow_succ]
theorem rem2_u64 (V : Nat) : (V : Int).tmod 2 = ((V % 2 : Nat) : Int) := by rw [IntWalk.rem_in _ _ (by omega)]; omega
/-- A row of bits, and its slice. -/
abbrev bitO (g : Option (Nat × Nat)) (B : List Bool) : HObj := .own (svOf g B.length) B.length 5 1 (bytesV (bitN B))
theorem bitO_snoc (B : List Bool) (x : Bool) (gb gc : Nat) : bitO (some (gb, gc)) (B ++ [x]) = .own (.slice (some ⟨gb, 0, none⟩) (B.length + 1) gc) (B.length + 1) 5 1 (bytesV (bitN B) ++ [.int .u8 (x.toNat : Int)]) := by simp [bitO, bitN]
theorem rAdd_ok (F : Mem) (g : Option (Nat × Nat)) (B : List Bool) (V : Nat) (W : Nat) (hg : g = none ↔ B = []) (hv : V < 18446744073709551616) (hW : 1 ≤ W ∧ W ≤ 64) (hB : B.length ≤ 35184372088832) :
    FT Try.prog 64 [svOf g B.length, .agg #[.int .u64 (V : Int), .int .i64 (W : Int)]].toArray F [bitO g B]
    (fun e H => ∃ g', (g' = none ↔ B ++ bitsOf W V = []) ∧ e = .returned (svOf g' (B ++ bitsOf W V).length) ∧ H = [bitO g' (B ++ bitsOf W V)]) := by
  refine FT.of_body Try.func64 rfl Try.ntmps64 (by simp) fun C hC => ?_
  subst hC
  conv => whnf
  intro b
  conv => whnf
  repeat (first | (refine LoadV.s rfl rfl (forceV_of ?_); conv => whnf) | (refine LoadV.s rfl rfl ?_; conv => whnf) | (refine StoreV.c rfl rfl (Nat.le_of_ble_eq_true rfl) rfl ?_; conv => whnf) | (refine LoadV.a _ rfl (Nat.le_of_ble_eq_true rfl) ?_; conv => whnf) | (refine DrawI.quiet (by kernel_rfl) (by kernel_rfl) ?_; conv => whnf) | (refine RetI.one Try.results64 rfl ?_; conv => whnf) | (refine RetI.two Try.results64 rfl rfl ?_; conv => whnf) | (refine RetI.three Try.results64 rfl rfl rfl ?_; conv => whnf) | (refine RetI.none Try.results64 ?_; conv => whnf) | (refine ⟨by first | decide | omega, ?_⟩; conv => whnf))
  refine ArI.to64 ((W : Int) - 1) (by omega) (by omega) ?_
  conv => whnf
  refine LoopI.by_state (σ := Nat × Option (Nat × Nat)) (fun x => [(0, svOf x.2 (B ++ bitsOf (W - x.1) (V / 2 ^ x.1)).length), (3, .pointer (some ⟨b, 0, none⟩)), (5, .int .i64 ((x.1 : Int) - 1))]) (fun x => [.cells b [.int .u64 (V : Int), .int .i64 (W : Int)] 114 (0, 0), bitO x.2 (B ++ bitsOf (W - x.1) (V / 2 ^ x.1))])
    (fun x => x.1 ≤ W ∧ (x.2 = none ↔ B ++ bitsOf (W - x.1) (V / 2 ^ x.1) = [])) (fun x => x.1) (W, g) ⟨Nat.le_refl _, by simp [bitsOf_zero, hg]⟩ ⟨by simp [bitsOf_zero]; rfl, rfl, rfl, trivial⟩ (by simp only [Nat.sub_self, bitsOf_zero, List.append_nil]; exact Sub.refl _) ?_
  rintro ⟨i, g1⟩ f0 ⟨hi, hg1⟩
  dsimp only at hi hg1 ⊢
  conv => whnf
  refine cond_dec (fun h => ?_) (fun h => ?_)
  · obtain ⟨k, rfl⟩ : ∃ k, i = k + 1 := ⟨i - 1, by omega⟩
    have hsp := bitsOf_split (V := V) (show k < W by omega)
    have hl1 : (B ++ bitsOf (W - (k + 1)) (V / 2 ^ (k + 1))).length ≤ B.length + 64 := by rw [List.length_append, bitsOf_length]; omega
    generalize hB1 : B ++ bitsOf (W - (k + 1)) (V / 2 ^ (k + 1)) = B1 at hg1 hl1 ⊢
    conv => whnf
    repeat (first | (refine LoadV.s rfl rfl (forceV_of ?_); conv => whnf) | (refine LoadV.s rfl rfl ?_; conv => whnf) | (refine StoreV.c rfl rfl (Nat.le_of_ble_eq_true rfl) rfl ?_; conv => whnf) | (refine LoadV.a _ rfl (Nat.le_of_ble_eq_true rfl) ?_; conv => whnf) | (refine DrawI.quiet (by kernel_rfl) (by kernel_rfl) ?_; conv => whnf) | (refine ArI.in64 (by omega) ?_; conv => whnf) | (refine ArI.inU8 (by omega) ?_; conv => whnf) | (refine ArI.inU64 (by omega) ?_; conv => whnf) | (refine ArI.inU32 (by omega) ?_; conv => whnf) | (refine RetI.one Try.results64 rfl ?_; conv => whnf) | (refine RetI.two Try.results64 rfl rfl ?_; conv => whnf) | (refine RetI.three Try.results64 rfl rfl rfl ?_; conv => whnf) | (refine RetI.none Try.results64 ?_; conv => whnf) | (refine ⟨by first | decide | omega, ?_⟩; conv => whnf))
    refine LoopI.by_state (σ := Nat) (fun j => [(0, svOf g1 B1.length), (3, .pointer (some ⟨b, 0, none⟩)), (5, .int .i64 (k : Int)), (6, .int .u64 ((V / 2 ^ j : Nat) : Int)), (7, .int .i64 (j : Int))]) (fun _ => [.cells b [.int .u64 (V : Int), .int .i64 (W : Int)] 114 (0, 0), bitO g1 B1])
      (fun j => j ≤ k) (fun j => k - j) 0 (Nat.zero_le _) ⟨rfl, rfl, congrArg (Value.int .i64) (by show ((k + 1 : Nat) : Int) - 1 = _; omega), by rw [Nat.pow_zero, Nat.div_one]; rfl, rfl, trivial⟩ (Sub.refl _) ?_
    intro j f1 hj
    have hvj : V / 2 ^ j < 18446744073709551616 := Nat.lt_of_le_of_lt (Nat.div_le_self _ _) hv
    conv => whnf
    refine cond_dec (fun h => ?_) (fun h => ?_)
    · conv => whnf
      refine ⟨⟨rfl, by decide⟩, ?_⟩
      refine ArI.mk _ (quo2_u64 _ hvj) ?_
      conv => whnf
      refine ArI.to64 ((j + 1 : Nat) : Int) (by omega) (by omega) ?_
      conv => whnf
      exact ⟨j + 1, _, by omega, Sub.refl _, by omega, ⟨rfl, rfl, rfl, by rw [← div_pow_succ]; rfl, rfl, trivial⟩, rfl⟩
    · obtain rfl : j = k := by omega
      conv => whnf
      refine ⟨⟨rfl, by decide⟩, ?_⟩
      conv => whnf
      rw [rem2_u64]
      refine ArI.mk ((V / 2 ^ j % 2 : Nat) : Int) (IntWalk.u8_in _ (by omega)) ?_
      conv => whnf
      intro b2
      conv => whnf
      refine BuiltV.append (sv := svOf g1 B1.length) (m := 1) Try.underlying48 rfl rfl rfl rfl (by decide) (Row.cells 1) rfl (by decide) rfl (by show (B1.length + 1) * 1 ≤ _; omega) (by omega) fun gb gc => ?_
      conv => whnf
      refine ArI.to64 ((j : Int) - 1) (by omega) (by omega) ?_
      conv => whnf
      have hnew : B ++ bitsOf (W - j) (V / 2 ^ j) = B1 ++ [(V / 2 ^ j).testBit 0] := by rw [hsp, ← List.append_assoc, hB1]
      refine ⟨(j, some (gb, gc)), _, by dsimp only; omega, Sub.sel [1, 2] rfl, ⟨by dsimp only; omega, by dsimp only; rw [hnew]; simp⟩, ⟨?_, rfl, rfl, trivial⟩, ?_⟩
      · dsimp only; rw [hnew, List.length_append]; rfl
      · dsimp only; rw [hnew, bitO_snoc, testBit_zero_toNat]; rfl
  · obtain rfl : i = 0 := by omega
    conv => whnf
    repeat (first | (refine LoadV.s rfl rfl (forceV_of ?_); conv => whnf) | (refine LoadV.s rfl rfl ?_; conv => whnf) | (refine StoreV.c rfl rfl (Nat.le_of_ble_eq_true rfl) rfl ?_; conv => whnf) | (refine LoadV.a _ rfl (Nat.le_of_ble_eq_true rfl) ?_; conv => whnf) | (refine DrawI.quiet (by kernel_rfl) (by kernel_rfl) ?_; conv => whnf) | (refine ArI.in64 (by omega) ?_; conv => whnf) | (refine ArI.inU8 (by omega) ?_; conv => whnf) | (refine ArI.inU64 (by omega) ?_; conv => whnf) | (refine ArI.inU32 (by omega) ?_; conv => whnf) | (refine RetI.one Try.results64 rfl ?_; conv => whnf) | (refine RetI.two Try.results64 rfl rfl ?_; conv => whnf) | (refine RetI.three Try.results64 rfl rfl rfl ?_; conv => whnf) | (refine RetI.none Try.results64 ?_; conv => whnf) | (refine ⟨by first | decide | omega, ?_⟩; conv => whnf))
    refine ⟨_, Sub.sel [1] rfl, g1, ?_, ?_, ?_⟩
    · simpa using hg1
    · simp
    · simp
end Go.Proofs.Ytlbdnkkaacccoaa
