/- The parts of a node; paths and ways, as contracts. -/
import Derived.Test.YtebhhfojiiohpaaG
namespace Go.Proofs.Ytebhhfojiiohpaa
open SL Go.RowKit

def accI (v : Int) : Nat → Int
  | 0 => 0
  | i + 1 => IntKind.u64.wrap ((BitVec.ofInt IntKind.u64.bits (accI v i) ||| BitVec.ofInt IntKind.u64.bits (maskI (childI v i))).toNat)
theorem part_fact (v : Int) (v0 : 0 ≤ v) (v1 : v < 21) : accI v 4 = maskI v ∧
    ∀ i : Fin 4, maskI (childI v (i.val : Int)) ≠ 0 ∧ IntKind.u64.wrap ((BitVec.ofInt IntKind.u64.bits (accI v i.val) &&& BitVec.ofInt IntKind.u64.bits (maskI (childI v (i.val : Int)))).toNat) = 0 :=
  each 21 (fun v => accI v 4 = maskI v ∧ ∀ i : Fin 4, maskI (childI v (i.val : Int)) ≠ 0 ∧ IntKind.u64.wrap ((BitVec.ofInt IntKind.u64.bits (accI v i.val) &&& BitVec.ofInt IntKind.u64.bits (maskI (childI v (i.val : Int)))).toNat) = 0) (by decide +kernel) v v0 v1
theorem aboveTo_bit (m : Int) (v : Nat) : ∀ n, v < n → (aboveTo m n).testBit v = hitTo v m 64
  | 0, h => by omega
  | n + 1, h => by
    unfold aboveTo
    by_cases hv : v = n
    · subst hv
      have hlt := aboveTo_lt m v
      cases hh : hitTo v m 64 with
      | false => simp [Nat.testBit_lt_two_pow hlt]
      | true =>
        simp only [if_true]
        rw [Nat.add_comm, Nat.testBit_two_pow_add_eq, Nat.testBit_lt_two_pow hlt]; rfl
    · have ih := aboveTo_bit m v n (by omega)
      cases hh : hitTo n m 64 with
      | false => simpa using ih
      | true =>
        simp only [if_true]
        rw [Nat.add_comm, Nat.testBit_two_pow_add_gt (by omega)]; exact ih
theorem above_bit (m v : Int) (v0 : 0 ≤ v) (v1 : v < 21) :
    (IntKind.u32.wrap ((BitVec.ofInt IntKind.u32.bits ((aboveTo m 21 : Int).fdiv (2 ^ min (IntKind.u64.wrap v).toNat IntKind.u32.bits)) &&& BitVec.ofInt IntKind.u32.bits 1).toNat) == 1) = hitTo v m 64 := by
  obtain ⟨k, rfl⟩ := Int.eq_ofNat_of_zero_le v0
  have hlt := aboveTo_lt m 21
  have h1 : IntKind.u64.wrap (k : Int) = k := IntWalk.u64_in _ (by omega)
  have h2 : min k IntKind.u32.bits = k := Nat.min_eq_left (show k ≤ 32 by omega)
  have h3 : (aboveTo m 21 : Int).fdiv (2 ^ k) = ((aboveTo m 21 / 2 ^ k : Nat) : Int) := by
    rw [Int.fdiv_eq_ediv_of_nonneg _ (Int.pow_nonneg (by omega))]; simp
  have hle : aboveTo m 21 / 2 ^ k ≤ aboveTo m 21 := Nat.div_le_self _ _
  rw [h1, Int.toNat_natCast, h2, h3]
  show (IntKind.u32.wrap ((BitVec.ofInt 32 ((aboveTo m 21 / 2 ^ k : Nat) : Int) &&& BitVec.ofInt 32 ((1 : Nat) : Int)).toNat) == 1) = _
  rw [BitVec.toNat_and, ofInt_nat 32 _ (by omega), ofInt_nat 32 1 (by omega), Nat.and_one_is_mod, IntWalk.u32_in _ (by omega), ← aboveTo_bit m k 21 (by omega), Nat.testBit_eq_decide_div_mod_eq]
  have : (((aboveTo m 21 / 2 ^ k % 2 : Nat) : Int) == 1) = decide (aboveTo m 21 / 2 ^ k % 2 = 1) := by
    rw [Bool.eq_iff_iff]; simp only [beq_iff_eq, decide_eq_true_eq]; omega
  exact this
theorem above_no (m : Int) : ((aboveTo m 21 : Int).fdiv (2 ^ min (21 : Int).toNat IntKind.u32.bits)) = 0 := by
  have hlt := aboveTo_lt m 21
  rw [Int.fdiv_eq_ediv_of_nonneg _ (Int.pow_nonneg (by omega))]
  exact Int.ediv_eq_zero_of_lt (by omega) (by show (aboveTo m 21 : Int) < 2097152; omega)
theorem parts_ok (F : Mem) (v m : Int) (h0 : 0 ≤ m) (h1 : m < 18446744073709551616) : FT Try.prog 5 [.int .i64 v, .int .u64 m].toArray F [] (Ret (.bool true)) := by
  refine FT.of_body Try.func5 rfl Try.ntmps5 (by simp) fun C hC => ?_
  conv => whnf
  refine CallS.mk Try.call10 ⟨[], _, _, Sub.split [] rfl, fun F' _ => lives_ok F', ?_⟩
  rintro e A' ⟨rfl, rfl⟩
  conv => whnf
  refine ⟨by decide, ?_⟩
  conv => whnf
  have hx := modIn v 21 (by omega) (by omega)
  generalize IntKind.i64.wrap ((IntKind.u64.wrap v).tmod 21) = x at hx ⊢
  obtain ⟨f1, f2⟩ := part_fact x hx.1 hx.2
  refine LoopI.by_state (σ := Nat) (fun i => [(1, .int .u64 m), (5, .int .i64 x), (6, .int .u64 (accI x i)), (7, .int .i64 (i : Int))]) (fun _ => []) (fun i => i ≤ 4) (fun i => 4 - i) 0 (by omega) ⟨rfl, rfl, rfl, rfl, trivial⟩ (Sub.refl _) ?_
  rintro i f0 hi
  conv => whnf
  refine cond_dec (fun h => ?_) (fun h => ?_)
  · conv => whnf
    obtain ⟨f3, f4⟩ := f2 ⟨i, by omega⟩
    dsimp only at f3 f4
    have next : IntKind.i64.wrap ((i : Int) + 1) = ((i + 1 : Nat) : Int) := i64_up i 4 (by omega) (by omega)
    refine CallS.mk Try.call19 ⟨[], _, _, Sub.split [] rfl, fun F' _ => child_ok F' x i, ?_⟩
    rintro e A' ⟨rfl, rfl⟩
    conv => whnf
    refine CallS.mk Try.call11 ⟨[], _, _, Sub.split [] rfl, fun F' _ => mask_ok F' (childI x i), ?_⟩
    rintro e A' ⟨rfl, rfl⟩
    conv => whnf
    rw [show (maskI (childI x i) == 0) = false from beq_eq_false_iff_ne.2 f3]
    conv => whnf
    rw [f4]
    conv => whnf
    exact ⟨i + 1, [], by omega, Sub.refl _, by omega, ⟨rfl, rfl, rfl, congrArg (Value.int .i64) next, trivial⟩, rfl⟩
  · conv => whnf
    have : i = 4 := by omega
    subst this
    refine CallS.mk Try.call11 ⟨[], _, _, Sub.split [] rfl, fun F' _ => mask_ok F' x, ?_⟩
    rintro e A' ⟨rfl, rfl⟩
    conv => whnf
    rw [f1, show (maskI x != maskI x) = false from bne_self_eq_false _]
    conv => whnf
    refine CallS.mk Try.call13 ⟨[], _, _, Sub.split [] rfl, fun F' _ => above_ok F' m h0 h1, ?_⟩
    rintro e A' ⟨rfl, rfl⟩
    conv => whnf
    have hw : IntKind.u64.wrap x = x := IntWalk.u64_in _ (by omega)
    refine ⟨by rw [hw]; omega, ?_⟩
    conv => whnf
    refine CallS.mk Try.call11 ⟨[], _, _, Sub.split [] rfl, fun F' _ => mask_ok F' x, ?_⟩
    rintro e A' ⟨rfl, rfl⟩
    conv => whnf
    have h5 := above_bit m x hx.1 hx.2
    have h6 := and_hit x m hx.1 hx.2 h0 h1
    rw [h5, h6, show (hitTo x m 64 == hitTo x m 64) = true from beq_self_eq_true _]
    conv => whnf
    refine CallS.mk Try.call13 ⟨[], _, _, Sub.split [] rfl, fun F' _ => above_ok F' m h0 h1, ?_⟩
    rintro e A' ⟨rfl, rfl⟩
    conv => whnf
    refine ⟨by decide, ?_⟩
    conv => whnf
    refine RetI.one Try.results5 rfl ?_
    conv => whnf
    exact ⟨_, Sub.refl _, ret_bool (by rw [above_no]; rfl), rfl⟩
theorem path_form (s : Int) : ∃ x y z, pathV s = .agg #[.int .i64 x, .int .i64 y, .int .i64 z] := by
  unfold pathV; split <;> exact ⟨_, _, _, rfl⟩
theorem dig_form (s : Int) : ∃ x y z, digV s = .agg #[.int .u8 x, .int .u8 y, .int .u8 z] := by
  unfold digV; split <;> exact ⟨_, _, _, rfl⟩
theorem eq_self3 (k : IntKind) (x y z : Int) : cellsEq [.int k x, .int k y, .int k z] [.int k x, .int k y, .int k z] = true := by simp [cellsEq, vEq]
theorem paths_ok (F : Mem) (s a b c : Int) (ha : 0 ≤ a) (hb : 0 ≤ b) (hc : 0 ≤ c) : FT Try.prog 8 [.int .i64 s, .agg #[.int .u8 a, .int .u8 b, .int .u8 c]].toArray F [] (Ret (.bool true)) := by
  refine FT.of_body Try.func8 rfl Try.ntmps8 (by simp) fun C hC => ?_
  obtain ⟨x, y, z, hp⟩ := path_form s
  obtain ⟨u, v, t, hd⟩ := dig_form s
  conv => whnf
  intro g0
  conv => whnf
  refine CallS.mk Try.call10 ⟨[], _, _, Sub.split [] rfl, fun F' _ => lives_ok F', ?_⟩
  rintro e A' ⟨rfl, rfl⟩
  conv => whnf
  refine CallS.mk Try.call31 ⟨[], _, _, Sub.split [] rfl, fun F' _ => path_ok F' s, ?_⟩
  rintro e A' ⟨rfl, rfl⟩
  rw [hp]
  conv => whnf
  intro g1
  conv => whnf
  refine StoreV.c rfl rfl (Nat.le_of_ble_eq_true rfl) rfl ?_
  conv => whnf
  refine CallS.mk Try.call32 ⟨[], _, _, Sub.split [] rfl, fun F' _ => rpath_ok F' s, ?_⟩
  rintro e A' ⟨rfl, rfl⟩
  rw [hp]
  conv => whnf
  intro g2
  conv => whnf
  refine StoreV.c rfl rfl (Nat.le_of_ble_eq_true rfl) rfl ?_
  conv => whnf
  refine CallS.mk Try.call33 ⟨[], _, _, Sub.split [] rfl, fun F' _ => digits_ok F' s, ?_⟩
  rintro e A' ⟨rfl, rfl⟩
  rw [hd]
  conv => whnf
  intro g3
  conv => whnf
  refine StoreV.c rfl rfl (Nat.le_of_ble_eq_true rfl) rfl ?_
  conv => whnf
  refine CallS.mk Try.call34 ⟨[], _, _, Sub.split [] rfl, fun F' _ => rdigits_ok F' s, ?_⟩
  rintro e A' ⟨rfl, rfl⟩
  rw [hd]
  conv => whnf
  intro g4
  conv => whnf
  refine StoreV.c rfl rfl (Nat.le_of_ble_eq_true rfl) rfl ?_
  conv => whnf
  refine DrawI.quiet (by kernel_rfl) (by kernel_rfl) ?_
  conv => whnf
  refine LoadV.a 3 rfl (Nat.le_of_ble_eq_true rfl) ?_
  conv => whnf
  refine LoadV.a 3 rfl (Nat.le_of_ble_eq_true rfl) ?_
  conv => whnf
  refine EqV.eql (d := 3) (ks := [.i .i64, .i .i64, .i .i64]) (by kernel_rfl) rfl (by kernel_rfl) rfl rfl rfl ?_
  rw [eq_self3]
  conv => whnf
  rw [show (inSlot s == inSlot s) = true from beq_self_eq_true _]
  conv => whnf
  refine LoadV.a 3 rfl (Nat.le_of_ble_eq_true rfl) ?_
  conv => whnf
  refine LoadV.a 3 rfl (Nat.le_of_ble_eq_true rfl) ?_
  conv => whnf
  refine EqV.eql (d := 3) (ks := [.i .u8, .i .u8, .i .u8]) (by kernel_rfl) rfl (by kernel_rfl) rfl rfl rfl ?_
  rw [eq_self3]
  conv => whnf
  rw [show (inSlot s == inSlot s) = true from beq_self_eq_true _]
  conv => whnf
  refine LoadV.a 3 rfl (Nat.le_of_ble_eq_true rfl) ?_
  conv => whnf
  refine CallQ.pure Try.call35 (fun F' _ => (undigit_ok F' a b c ha hb hc).mono fun e H h => h.1) ?_
  conv => whnf
  refine LoadV.a 3 rfl (Nat.le_of_ble_eq_true rfl) ?_
  conv => whnf
  refine CallQ.pure Try.call36 (fun F' _ => (rundigit_ok F' a b c ha hb hc).mono fun e H h => h.1) ?_
  conv => whnf
  refine RetI.one Try.results8 rfl ?_
  conv => whnf
  exact ⟨_, Sub.sel [] rfl, ret_bool (beq_self_eq_true (undigI a b c)), rfl⟩
theorem ways_fact (s : Int) (s0 : 0 ≤ s) (s1 : s < 64) : undigI (digI s 0) (digI s 1) (digI s 2) = s ∧ upI s 2 = 0 ∧ childI 0 (digI s 0) = upI s 1 ∧ childI (upI s 1) (digI s 1) = upI s 0 ∧ childI (upI s 0) (digI s 2) = leafI s ∧
    (0 ≤ digI s 0 ∧ digI s 0 < 4) ∧ (0 ≤ digI s 1 ∧ digI s 1 < 4) ∧ (0 ≤ digI s 2 ∧ digI s 2 < 4) :=
  each 64 (fun s => undigI (digI s 0) (digI s 1) (digI s 2) = s ∧ upI s 2 = 0 ∧ childI 0 (digI s 0) = upI s 1 ∧ childI (upI s 1) (digI s 1) = upI s 0 ∧ childI (upI s 0) (digI s 2) = leafI s ∧
    (0 ≤ digI s 0 ∧ digI s 0 < 4) ∧ (0 ≤ digI s 1 ∧ digI s 1 < 4) ∧ (0 ≤ digI s 2 ∧ digI s 2 < 4)) (by decide +kernel) s s0 s1
/-- The nodes on the way down. -/
def downI (s : Int) (k : Nat) : Int := match k with | 0 => 0 | 1 => upI s 1 | 2 => upI s 0 | _ => leafI s
theorem ways_ok (F : Mem) (n : Int) : FT Try.prog 9 [.int .i64 n].toArray F [] (Ret (.bool true)) := by
  refine FT.of_body Try.func9 rfl Try.ntmps9 (by simp) fun C hC => ?_
  conv => whnf
  refine CallS.mk Try.call10 ⟨[], _, _, Sub.split [] rfl, fun F' _ => lives_ok F', ?_⟩
  rintro e A' ⟨rfl, rfl⟩
  conv => whnf
  refine ⟨by decide, ?_⟩
  conv => whnf
  have hx := modIn n 64 (by omega) (by omega)
  generalize IntKind.i64.wrap ((IntKind.u64.wrap n).tmod 64) = s at hx ⊢
  obtain ⟨w1, w2, w3, w4, w5, w6, w7, w8⟩ := ways_fact s hx.1 hx.2
  have hp : pathV s = .agg #[.int .i64 (upI s 0), .int .i64 (upI s 1), .int .i64 (upI s 2)] := by unfold pathV; rw [if_pos hx]
  have hd : digV s = .agg #[.int .u8 (digI s 0), .int .u8 (digI s 1), .int .u8 (digI s 2)] := by unfold digV; rw [if_pos hx]
  have hi : inSlot s = true := by simpa [inSlot] using hx
  refine CallS.mk Try.call31 ⟨[], _, _, Sub.split [] rfl, fun F' _ => path_ok F' s, ?_⟩
  rintro e A' ⟨rfl, rfl⟩
  rw [hp, hi]
  conv => whnf
  intro g1
  conv => whnf
  refine StoreV.c rfl rfl (Nat.le_of_ble_eq_true rfl) rfl ?_
  conv => whnf
  refine CallS.mk Try.call33 ⟨[], _, _, Sub.split [] rfl, fun F' _ => digits_ok F' s, ?_⟩
  rintro e A' ⟨rfl, rfl⟩
  rw [hd, hi]
  conv => whnf
  intro g2
  conv => whnf
  refine StoreV.c rfl rfl (Nat.le_of_ble_eq_true rfl) rfl ?_
  conv => whnf
  refine DrawI.quiet (by kernel_rfl) (by kernel_rfl) ?_
  conv => whnf
  refine LoadV.a 3 rfl (Nat.le_of_ble_eq_true rfl) ?_
  conv => whnf
  refine CallQ.pure Try.call35 (fun F' _ => (undigit_ok F' (digI s 0) (digI s 1) (digI s 2) w6.1 w7.1 w8.1).mono fun e H h => h.1) ?_
  rw [w1]
  conv => whnf
  rw [show (s != s) = false from bne_self_eq_false _]
  conv => whnf
  refine ⟨by decide, ?_⟩
  conv => whnf
  refine LoadV.s rfl rfl ?_
  conv => whnf
  rw [w2]
  conv => whnf
  refine CallQ.pure Try.call29 (fun F' _ => (leaf_ok F' s).mono fun e H h => h.1) ?_
  conv => whnf
  refine CallQ.pure Try.call22 (fun F' _ => (parent_ok F' (leafI s)).mono fun e H h => h.1) ?_
  conv => whnf
  refine ⟨by decide, ?_⟩
  conv => whnf
  refine LoadV.s rfl rfl ?_
  conv => whnf
  rw [show (parentI (leafI s) != upI s 0) = false from bne_self_eq_false (upI s 0)]
  conv => whnf
  refine LoopI.by_state (σ := Nat) (fun k => [(3, .int .i64 s), (4, .pointer (some ⟨g1, 0, none⟩)), (6, .pointer (some ⟨g2, 0, none⟩)), (8, .int .i64 (downI s k)), (9, .int .i64 (k : Int))]) (fun _ => [.cells g2 [.int .u8 (digI s 0), .int .u8 (digI s 1), .int .u8 (digI s 2)] 32 (0, 0), .cells g1 [.int .i64 (upI s 0), .int .i64 (upI s 1), .int .i64 0] 33 (0, 0)]) (fun k => k ≤ 3) (fun k => 3 - k) 0 (by omega) ⟨rfl, rfl, rfl, rfl, rfl, trivial⟩ (Sub.refl _) ?_
  rintro k f0 hk
  have : k = 0 ∨ k = 1 ∨ k = 2 ∨ k = 3 := by omega
  rcases this with rfl | rfl | rfl | rfl
  · conv => whnf
    refine ⟨by decide, ?_⟩
    conv => whnf
    refine LoadV.s rfl rfl ?_
    conv => whnf
    refine ⟨by decide, ?_⟩
    conv => whnf
    refine LoadV.s rfl rfl ?_
    conv => whnf
    refine CallS.mk Try.call19 ⟨[], _, _, Sub.split [] rfl, fun F' _ => child_ok F' (0) (IntKind.i64.wrap (digI s 0)), ?_⟩
    rintro e A' ⟨rfl, rfl⟩
    conv => whnf
    refine ⟨1, [_, _], by omega, Sub.refl _, by omega, ⟨rfl, rfl, rfl, ?_, rfl, trivial⟩, rfl⟩
    refine congrArg (Value.int .i64) ?_
    rw [IntWalk.i64_in _ (by omega)]; exact w3
  · conv => whnf
    refine ⟨by decide, ?_⟩
    conv => whnf
    refine LoadV.s rfl rfl ?_
    conv => whnf
    rw [show (upI s 1 != downI s 1) = false from bne_self_eq_false (upI s 1)]
    conv => whnf
    refine ⟨by decide, ?_⟩
    conv => whnf
    refine LoadV.s rfl rfl ?_
    conv => whnf
    refine CallS.mk Try.call19 ⟨[], _, _, Sub.split [] rfl, fun F' _ => child_ok F' (upI s 1) (IntKind.i64.wrap (digI s 1)), ?_⟩
    rintro e A' ⟨rfl, rfl⟩
    conv => whnf
    refine ⟨2, [_, _], by omega, Sub.refl _, by omega, ⟨rfl, rfl, rfl, ?_, rfl, trivial⟩, rfl⟩
    refine congrArg (Value.int .i64) ?_
    rw [IntWalk.i64_in _ (by omega)]; exact w4
  · conv => whnf
    refine ⟨by decide, ?_⟩
    conv => whnf
    refine LoadV.s rfl rfl ?_
    conv => whnf
    rw [show (upI s 0 != downI s 2) = false from bne_self_eq_false (upI s 0)]
    conv => whnf
    refine ⟨by decide, ?_⟩
    conv => whnf
    refine LoadV.s rfl rfl ?_
    conv => whnf
    refine CallS.mk Try.call19 ⟨[], _, _, Sub.split [] rfl, fun F' _ => child_ok F' (upI s 0) (IntKind.i64.wrap (digI s 2)), ?_⟩
    rintro e A' ⟨rfl, rfl⟩
    conv => whnf
    refine ⟨3, [_, _], by omega, Sub.refl _, by omega, ⟨rfl, rfl, rfl, ?_, rfl, trivial⟩, rfl⟩
    refine congrArg (Value.int .i64) ?_
    rw [IntWalk.i64_in _ (by omega)]; exact w5
  · conv => whnf
    refine CallS.mk Try.call29 ⟨[], _, _, Sub.split [] rfl, fun F' _ => leaf_ok F' s, ?_⟩
    rintro e A' ⟨rfl, rfl⟩
    conv => whnf
    refine RetI.one Try.results9 rfl ?_
    conv => whnf
    exact ⟨_, Sub.sel [] rfl, ret_bool (beq_self_eq_true (leafI s)), rfl⟩
end Go.Proofs.Ytebhhfojiiohpaa
