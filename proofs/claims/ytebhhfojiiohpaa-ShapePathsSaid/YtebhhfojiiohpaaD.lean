/- Paths, digits. -/
import Derived.Test.YtebhhfojiiohpaaC
namespace Go.Proofs.Ytebhhfojiiohpaa
open SL Go.RowKit

theorem first_same (l : Int) (h0 : 0 ≤ l) (h1 : l ≤ 3) (w : World) : Calls Try.prog 40 [.int .i64 l].toArray w fun e w' => e = .returned (.int .i64 (firstI l)) ∧ w' = w := by
  have : l = 0 ∨ l = 1 ∨ l = 2 ∨ l = 3 := by omega
  rcases this with rfl | rfl | rfl | rfl
  all_goals
    go_enter Try.func40, Try.ntmps40
    go_wp2
    go_ret
    exact ⟨rfl, rfl⟩
/-! ### What they compute -/
/-- The ancestors of a slot's leaf, the nearest first. -/
def upI (s : Int) : Nat → Int
  | 0 => parentI (leafI s)
  | i + 1 => parentI (upI s i)
def pathV (s : Int) : Value := if 0 ≤ s ∧ s < 64 then .agg #[.int .i64 (upI s 0), .int .i64 (upI s 1), .int .i64 (upI s 2)] else .agg #[.int .i64 0, .int .i64 0, .int .i64 0]
def ups (s : Int) (i : Nat) : List Value := [.int .i64 (if 0 < i then upI s 0 else 0), .int .i64 (if 1 < i then upI s 1 else 0), .int .i64 (if 2 < i then upI s 2 else 0)]
def at0 (s : Int) : Nat → Int
  | 0 => leafI s
  | i + 1 => parentI (at0 s i)
def inSlot (s : Int) : Bool := decide (0 ≤ s ∧ s < 64)
theorem leaf_neg (s : Int) : leafI s < 0 ↔ inSlot s = false := by
  unfold leafI inSlot
  constructor
  · intro h; split at h
    · simp; omega
    · split at h
      · simp; omega
      · omega
  · intro h; simp at h; split
    · omega
    · rw [if_pos (by omega)]; omega
theorem path_ok (F : Mem) (s : Int) : FT Try.prog 31 [.int .i64 s].toArray F [] (Ret (.tuple #[pathV s, .bool (inSlot s)])) := by
  refine FT.of_body Try.func31 rfl Try.ntmps31 (by simp) fun C hC => ?_
  conv => whnf
  intro b
  conv => whnf
  intro b2
  conv => whnf
  refine CallS.mk Try.call29 ⟨[], _, _, Sub.split [] rfl, fun F' _ => leaf_ok F' s, ?_⟩
  rintro e A' ⟨rfl, rfl⟩
  conv => whnf
  refine cond_dec (fun h => ?_) (fun h => ?_)
  · conv => whnf
    refine LoadV.a 3 rfl (by decide) ?_
    conv => whnf
    refine StoreV.c rfl rfl (by simp [Value.cells]) rfl ?_
    conv => whnf
    refine RetI.cell_tmp Try.results31 rfl rfl ?_
    conv => whnf
    refine LoadV.a 3 rfl (by decide) ?_
    conv => whnf
    refine ⟨_, Sub.sel [] rfl, ?_, rfl⟩
    have hi := (leaf_neg s).1 h
    rw [hi]
    have : pathV s = .agg #[.int .i64 0, .int .i64 0, .int .i64 0] := by
      simp [inSlot] at hi; unfold pathV; rw [if_neg (by omega)]
    rw [this]
  · conv => whnf
    refine LoopI.by_state (σ := Nat) (fun i => [(0, .int .i64 s), (2, .pointer (some ⟨b, 0, none⟩)), (4, .pointer (some ⟨b2, 0, none⟩)), (11, .int .i64 (i : Int))]) (fun i => [.cells b2 (ups s i) 33 (0, 0), .cells b [.int .i64 0, .int .i64 0, .int .i64 0] 33 (0, 0)]) (fun i => i ≤ 3) (fun i => 3 - i) 0 (by omega) ⟨rfl, rfl, rfl, rfl, trivial⟩ (Sub.refl _) ?_
    have hs : 0 ≤ s ∧ s < 64 := by
      have : ¬ inSlot s = false := fun hh => h ((leaf_neg s).2 hh)
      simpa [inSlot] using this
    rintro i f0 hi
    have : i = 0 ∨ i = 1 ∨ i = 2 ∨ i = 3 := by omega
    rcases this with rfl | rfl | rfl | rfl
    · conv => whnf
      refine DrawI.tail 10 (by kernel_rfl) (by kernel_rfl) ?_
      conv => whnf
      refine CallQ.same Try.call40 (fun w => first_same _ (by decide) (by decide) w) ?_
      conv => whnf
      refine ⟨by decide, ?_⟩
      conv => whnf
      refine ⟨by decide, ?_⟩
      conv => whnf
      refine StoreV.c rfl rfl (Nat.le_of_ble_eq_true rfl) rfl ?_
      conv => whnf
      refine ⟨1, [_, _], by omega, Sub.refl _, by omega, ⟨rfl, rfl, rfl, rfl, trivial⟩, ?_⟩
      exact congrArg (fun x => [HObj.cells b2 [.int .i64 x, .int .i64 0, .int .i64 0] 33 (0, 0), HObj.cells b [.int .i64 0, .int .i64 0, .int .i64 0] 33 (0, 0)])
        (each 64 (fun s => IntKind.i64.wrap (firstI (IntKind.i64.wrap (3 - IntKind.i64.wrap (((0 : Nat) : Int) + 1))) + s.fdiv (2 ^ min (IntKind.i64.wrap (2 * IntKind.i64.wrap (((0 : Nat) : Int) + 1))).toNat IntKind.i64.bits)) = upI s 0) (by decide) s hs.1 hs.2)
    · conv => whnf
      refine DrawI.tail 10 (by kernel_rfl) (by kernel_rfl) ?_
      conv => whnf
      refine CallQ.same Try.call40 (fun w => first_same _ (by decide) (by decide) w) ?_
      conv => whnf
      refine ⟨by decide, ?_⟩
      conv => whnf
      refine ⟨by decide, ?_⟩
      conv => whnf
      refine StoreV.c rfl rfl (Nat.le_of_ble_eq_true rfl) rfl ?_
      conv => whnf
      refine ⟨2, [_, _], by omega, Sub.refl _, by omega, ⟨rfl, rfl, rfl, rfl, trivial⟩, ?_⟩
      exact congrArg (fun x => [HObj.cells b2 [.int .i64 (upI s 0), .int .i64 x, .int .i64 0] 33 (0, 0), HObj.cells b [.int .i64 0, .int .i64 0, .int .i64 0] 33 (0, 0)])
        (each 64 (fun s => IntKind.i64.wrap (firstI (IntKind.i64.wrap (3 - IntKind.i64.wrap (((1 : Nat) : Int) + 1))) + s.fdiv (2 ^ min (IntKind.i64.wrap (2 * IntKind.i64.wrap (((1 : Nat) : Int) + 1))).toNat IntKind.i64.bits)) = upI s 1) (by decide) s hs.1 hs.2)
    · conv => whnf
      refine DrawI.tail 10 (by kernel_rfl) (by kernel_rfl) ?_
      conv => whnf
      refine CallQ.same Try.call40 (fun w => first_same _ (by decide) (by decide) w) ?_
      conv => whnf
      refine ⟨by decide, ?_⟩
      conv => whnf
      refine ⟨by decide, ?_⟩
      conv => whnf
      refine StoreV.c rfl rfl (Nat.le_of_ble_eq_true rfl) rfl ?_
      conv => whnf
      refine ⟨3, [_, _], by omega, Sub.refl _, by omega, ⟨rfl, rfl, rfl, rfl, trivial⟩, ?_⟩
      exact congrArg (fun x => [HObj.cells b2 [.int .i64 (upI s 0), .int .i64 (upI s 1), .int .i64 x] 33 (0, 0), HObj.cells b [.int .i64 0, .int .i64 0, .int .i64 0] 33 (0, 0)])
        (each 64 (fun s => IntKind.i64.wrap (firstI (IntKind.i64.wrap (3 - IntKind.i64.wrap (((2 : Nat) : Int) + 1))) + s.fdiv (2 ^ min (IntKind.i64.wrap (2 * IntKind.i64.wrap (((2 : Nat) : Int) + 1))).toNat IntKind.i64.bits)) = upI s 2) (by decide) s hs.1 hs.2)
    · conv => whnf
      refine LoadV.a 3 rfl (Nat.le_of_ble_eq_true rfl) ?_
      conv => whnf
      refine StoreV.c rfl rfl (Nat.le_of_ble_eq_true rfl) rfl ?_
      conv => whnf
      refine RetI.cell_tmp Try.results31 rfl rfl ?_
      conv => whnf
      refine LoadV.a 3 rfl (Nat.le_of_ble_eq_true rfl) ?_
      conv => whnf
      refine ⟨_, Sub.sel [] rfl, ?_, rfl⟩
      have hi : inSlot s = true := by simpa [inSlot] using hs
      have : pathV s = .agg #[.int .i64 (upI s 0), .int .i64 (upI s 1), .int .i64 (upI s 2)] := by unfold pathV; rw [if_pos hs]
      rw [hi, this]; rfl
theorem rpath_ok (F : Mem) (s : Int) : FT Try.prog 32 [.int .i64 s].toArray F [] (Ret (.tuple #[pathV s, .bool (inSlot s)])) := by
  refine FT.of_body Try.func32 rfl Try.ntmps32 (by simp) fun C hC => ?_
  conv => whnf
  intro b
  conv => whnf
  intro b2
  conv => whnf
  refine CallS.mk Try.call30 ⟨[], _, _, Sub.split [] rfl, fun F' _ => rleaf_ok F' s, ?_⟩
  rintro e A' ⟨rfl, rfl⟩
  conv => whnf
  refine cond_dec (fun h => ?_) (fun h => ?_)
  · conv => whnf
    refine LoadV.a 3 rfl (by decide) ?_
    conv => whnf
    refine StoreV.c rfl rfl (by simp [Value.cells]) rfl ?_
    conv => whnf
    refine RetI.cell_tmp Try.results32 rfl rfl ?_
    conv => whnf
    refine LoadV.a 3 rfl (by decide) ?_
    conv => whnf
    refine ⟨_, Sub.sel [] rfl, ?_, rfl⟩
    have hi := (leaf_neg s).1 h
    rw [hi]
    have : pathV s = .agg #[.int .i64 0, .int .i64 0, .int .i64 0] := by
      simp [inSlot] at hi; unfold pathV; rw [if_neg (by omega)]
    rw [this]
  · conv => whnf
    refine LoopI.by_state (σ := Nat) (fun i => [(2, .pointer (some ⟨b, 0, none⟩)), (4, .pointer (some ⟨b2, 0, none⟩)), (5, .int .i64 (at0 s i)), (6, .int .i64 (i : Int))]) (fun i => [.cells b2 (ups s i) 33 (0, 0), .cells b [.int .i64 0, .int .i64 0, .int .i64 0] 33 (0, 0)]) (fun i => i ≤ 3) (fun i => 3 - i) 0 (by omega) ⟨rfl, rfl, rfl, rfl, trivial⟩ (Sub.refl _) ?_
    have hs : 0 ≤ s ∧ s < 64 := by
      have : ¬ inSlot s = false := fun hh => h ((leaf_neg s).2 hh)
      simpa [inSlot] using this
    rintro i f0 hi
    have : i = 0 ∨ i = 1 ∨ i = 2 ∨ i = 3 := by omega
    rcases this with rfl | rfl | rfl | rfl
    · conv => whnf
      refine CallS.mk Try.call23 ⟨[], _, _, Sub.split [] rfl, fun F' _ => rparent_ok F' (at0 s 0), ?_⟩
      rintro e A' ⟨rfl, rfl⟩
      conv => whnf
      refine ⟨by decide, ?_⟩
      conv => whnf
      refine StoreV.c rfl rfl (Nat.le_of_ble_eq_true rfl) rfl ?_
      conv => whnf
      exact ⟨1, [_, _], by omega, Sub.refl _, by omega, ⟨rfl, rfl, rfl, rfl, trivial⟩, rfl⟩
    · conv => whnf
      refine CallS.mk Try.call23 ⟨[], _, _, Sub.split [] rfl, fun F' _ => rparent_ok F' (at0 s 1), ?_⟩
      rintro e A' ⟨rfl, rfl⟩
      conv => whnf
      refine ⟨by decide, ?_⟩
      conv => whnf
      refine StoreV.c rfl rfl (Nat.le_of_ble_eq_true rfl) rfl ?_
      conv => whnf
      exact ⟨2, [_, _], by omega, Sub.refl _, by omega, ⟨rfl, rfl, rfl, rfl, trivial⟩, rfl⟩
    · conv => whnf
      refine CallS.mk Try.call23 ⟨[], _, _, Sub.split [] rfl, fun F' _ => rparent_ok F' (at0 s 2), ?_⟩
      rintro e A' ⟨rfl, rfl⟩
      conv => whnf
      refine ⟨by decide, ?_⟩
      conv => whnf
      refine StoreV.c rfl rfl (Nat.le_of_ble_eq_true rfl) rfl ?_
      conv => whnf
      exact ⟨3, [_, _], by omega, Sub.refl _, by omega, ⟨rfl, rfl, rfl, rfl, trivial⟩, rfl⟩
    · conv => whnf
      refine LoadV.a 3 rfl (Nat.le_of_ble_eq_true rfl) ?_
      conv => whnf
      refine StoreV.c rfl rfl (Nat.le_of_ble_eq_true rfl) rfl ?_
      conv => whnf
      refine RetI.cell_tmp Try.results32 rfl rfl ?_
      conv => whnf
      refine LoadV.a 3 rfl (Nat.le_of_ble_eq_true rfl) ?_
      conv => whnf
      refine ⟨_, Sub.sel [] rfl, ?_, rfl⟩
      have hi : inSlot s = true := by simpa [inSlot] using hs
      have : pathV s = .agg #[.int .i64 (upI s 0), .int .i64 (upI s 1), .int .i64 (upI s 2)] := by unfold pathV; rw [if_pos hs]
      rw [hi, this]; rfl

/-! ### Digits -/
def digI (s : Int) (i : Nat) : Int := (s / 4 ^ (2 - i)) % 4
def digV (s : Int) : Value := if 0 ≤ s ∧ s < 64 then .agg #[.int .u8 (digI s 0), .int .u8 (digI s 1), .int .u8 (digI s 2)] else .agg #[.int .u8 0, .int .u8 0, .int .u8 0]
def digs (s : Int) (i : Nat) : List Value := [.int .u8 (if 0 < i then digI s 0 else 0), .int .u8 (if 1 < i then digI s 1 else 0), .int .u8 (if 2 < i then digI s 2 else 0)]
theorem digits_ok (F : Mem) (s : Int) : FT Try.prog 33 [.int .i64 s].toArray F [] (Ret (.tuple #[digV s, .bool (inSlot s)])) := by
  refine FT.of_body Try.func33 rfl Try.ntmps33 (by simp) fun C hC => ?_
  conv => whnf
  intro b
  conv => whnf
  intro b2
  conv => whnf
  refine CallS.mk Try.call29 ⟨[], _, _, Sub.split [] rfl, fun F' _ => leaf_ok F' s, ?_⟩
  rintro e A' ⟨rfl, rfl⟩
  conv => whnf
  refine cond_dec (fun h => ?_) (fun h => ?_)
  · conv => whnf
    refine LoadV.a 3 rfl (by decide) ?_
    conv => whnf
    refine StoreV.c rfl rfl (by simp [Value.cells]) rfl ?_
    conv => whnf
    refine RetI.cell_tmp Try.results33 rfl rfl ?_
    conv => whnf
    refine LoadV.a 3 rfl (by decide) ?_
    conv => whnf
    refine ⟨_, Sub.sel [] rfl, ?_, rfl⟩
    have hi := (leaf_neg s).1 h
    rw [hi]
    have : digV s = .agg #[.int .u8 0, .int .u8 0, .int .u8 0] := by
      simp [inSlot] at hi; unfold digV; rw [if_neg (by omega)]
    rw [this]
  · conv => whnf
    refine LoopI.by_state (σ := Nat) (fun i => [(0, .int .i64 s), (2, .pointer (some ⟨b, 0, none⟩)), (4, .pointer (some ⟨b2, 0, none⟩)), (10, .int .i64 (i : Int))]) (fun i => [.cells b2 (digs s i) 32 (0, 0), .cells b [.int .u8 0, .int .u8 0, .int .u8 0] 32 (0, 0)]) (fun i => i ≤ 3) (fun i => 3 - i) 0 (by omega) ⟨rfl, rfl, rfl, rfl, trivial⟩ (Sub.refl _) ?_
    have hs : 0 ≤ s ∧ s < 64 := by
      have : ¬ inSlot s = false := fun hh => h ((leaf_neg s).2 hh)
      simpa [inSlot] using this
    rintro i f0 hi
    have : i = 0 ∨ i = 1 ∨ i = 2 ∨ i = 3 := by omega
    rcases this with rfl | rfl | rfl | rfl
    · conv => whnf
      refine ⟨by decide, ?_⟩
      conv => whnf
      refine ⟨by decide, ?_⟩
      conv => whnf
      refine StoreV.c rfl rfl (Nat.le_of_ble_eq_true rfl) rfl ?_
      conv => whnf
      refine ⟨1, [_, _], by omega, Sub.refl _, by omega, ⟨rfl, rfl, rfl, rfl, trivial⟩, ?_⟩
      exact congrArg (fun x => [HObj.cells b2 [.int .u8 x, .int .u8 0, .int .u8 0] 32 (0, 0), HObj.cells b [.int .u8 0, .int .u8 0, .int .u8 0] 32 (0, 0)])
        (each 64 (fun s => IntKind.u8.wrap ((BitVec.ofInt IntKind.u8.bits (IntKind.u8.wrap (s.fdiv (2 ^ min (IntKind.i64.wrap (2 * IntKind.i64.wrap (2 - ((0 : Nat) : Int)))).toNat IntKind.i64.bits))) &&& BitVec.ofInt IntKind.u8.bits 3).toNat) = digI s 0) (by decide) s hs.1 hs.2)
    · conv => whnf
      refine ⟨by decide, ?_⟩
      conv => whnf
      refine ⟨by decide, ?_⟩
      conv => whnf
      refine StoreV.c rfl rfl (Nat.le_of_ble_eq_true rfl) rfl ?_
      conv => whnf
      refine ⟨2, [_, _], by omega, Sub.refl _, by omega, ⟨rfl, rfl, rfl, rfl, trivial⟩, ?_⟩
      exact congrArg (fun x => [HObj.cells b2 [.int .u8 (digI s 0), .int .u8 x, .int .u8 0] 32 (0, 0), HObj.cells b [.int .u8 0, .int .u8 0, .int .u8 0] 32 (0, 0)])
        (each 64 (fun s => IntKind.u8.wrap ((BitVec.ofInt IntKind.u8.bits (IntKind.u8.wrap (s.fdiv (2 ^ min (IntKind.i64.wrap (2 * IntKind.i64.wrap (2 - ((1 : Nat) : Int)))).toNat IntKind.i64.bits))) &&& BitVec.ofInt IntKind.u8.bits 3).toNat) = digI s 1) (by decide) s hs.1 hs.2)
    · conv => whnf
      refine ⟨by decide, ?_⟩
      conv => whnf
      refine ⟨by decide, ?_⟩
      conv => whnf
      refine StoreV.c rfl rfl (Nat.le_of_ble_eq_true rfl) rfl ?_
      conv => whnf
      refine ⟨3, [_, _], by omega, Sub.refl _, by omega, ⟨rfl, rfl, rfl, rfl, trivial⟩, ?_⟩
      exact congrArg (fun x => [HObj.cells b2 [.int .u8 (digI s 0), .int .u8 (digI s 1), .int .u8 x] 32 (0, 0), HObj.cells b [.int .u8 0, .int .u8 0, .int .u8 0] 32 (0, 0)])
        (each 64 (fun s => IntKind.u8.wrap ((BitVec.ofInt IntKind.u8.bits (IntKind.u8.wrap (s.fdiv (2 ^ min (IntKind.i64.wrap (2 * IntKind.i64.wrap (2 - ((2 : Nat) : Int)))).toNat IntKind.i64.bits))) &&& BitVec.ofInt IntKind.u8.bits 3).toNat) = digI s 2) (by decide) s hs.1 hs.2)
    · conv => whnf
      refine LoadV.a 3 rfl (Nat.le_of_ble_eq_true rfl) ?_
      conv => whnf
      refine StoreV.c rfl rfl (Nat.le_of_ble_eq_true rfl) rfl ?_
      conv => whnf
      refine RetI.cell_tmp Try.results33 rfl rfl ?_
      conv => whnf
      refine LoadV.a 3 rfl (Nat.le_of_ble_eq_true rfl) ?_
      conv => whnf
      refine ⟨_, Sub.sel [] rfl, ?_, rfl⟩
      have hi : inSlot s = true := by simpa [inSlot] using hs
      have : digV s = .agg #[.int .u8 (digI s 0), .int .u8 (digI s 1), .int .u8 (digI s 2)] := by unfold digV; rw [if_pos hs]
      rw [hi, this]; rfl
def rq (s : Int) : Nat → Int
  | 0 => s
  | k + 1 => IntKind.i64.wrap ((rq s k).tdiv 4)
def rdigs (s : Int) (k : Nat) : List Value := [.int .u8 (if 2 < k then digI s 0 else 0), .int .u8 (if 1 < k then digI s 1 else 0), .int .u8 (if 0 < k then digI s 2 else 0)]
theorem rdigits_ok (F : Mem) (s : Int) : FT Try.prog 34 [.int .i64 s].toArray F [] (Ret (.tuple #[digV s, .bool (inSlot s)])) := by
  refine FT.of_body Try.func34 rfl Try.ntmps34 (by simp) fun C hC => ?_
  have no : inSlot s = false → digV s = .agg #[.int .u8 0, .int .u8 0, .int .u8 0] := fun hi => by
    simp [inSlot] at hi; unfold digV; rw [if_neg (by omega)]
  conv => whnf
  intro b
  conv => whnf
  intro b2
  conv => whnf
  refine cond_dec (fun h => ?_) (fun h => ?_)
  · conv => whnf
    refine LoadV.a 3 rfl (Nat.le_of_ble_eq_true rfl) ?_
    conv => whnf
    refine StoreV.c rfl rfl (Nat.le_of_ble_eq_true rfl) rfl ?_
    conv => whnf
    refine RetI.cell_tmp Try.results34 rfl rfl ?_
    conv => whnf
    refine LoadV.a 3 rfl (Nat.le_of_ble_eq_true rfl) ?_
    conv => whnf
    refine ⟨_, Sub.sel [] rfl, ?_, rfl⟩
    have hi : inSlot s = false := by simp [inSlot]; omega
    rw [hi, no hi]
  · conv => whnf
    refine cond_dec (fun h2 => ?_) (fun h2 => ?_)
    · conv => whnf
      refine LoadV.a 3 rfl (Nat.le_of_ble_eq_true rfl) ?_
      conv => whnf
      refine StoreV.c rfl rfl (Nat.le_of_ble_eq_true rfl) rfl ?_
      conv => whnf
      refine RetI.cell_tmp Try.results34 rfl rfl ?_
      conv => whnf
      refine LoadV.a 3 rfl (Nat.le_of_ble_eq_true rfl) ?_
      conv => whnf
      refine ⟨_, Sub.sel [] rfl, ?_, rfl⟩
      have hi : inSlot s = false := by simp [inSlot]; omega
      rw [hi, no hi]
    · conv => whnf
      have hs : 0 ≤ s ∧ s < 64 := by omega
      refine LoopI.by_state (σ := Nat) (fun k => [(0, .int .i64 (rq s k)), (2, .pointer (some ⟨b, 0, none⟩)), (4, .pointer (some ⟨b2, 0, none⟩)), (5, .int .i64 (2 - (k : Int)))]) (fun k => [.cells b2 (rdigs s k) 32 (0, 0), .cells b [.int .u8 0, .int .u8 0, .int .u8 0] 32 (0, 0)]) (fun k => k ≤ 3) (fun k => 3 - k) 0 (by omega) ⟨rfl, rfl, rfl, rfl, trivial⟩ (Sub.refl _) ?_
      rintro k f0 hk
      have : k = 0 ∨ k = 1 ∨ k = 2 ∨ k = 3 := by omega
      rcases this with rfl | rfl | rfl | rfl
      · conv => whnf
        refine ⟨by decide, ?_⟩
        conv => whnf
        refine ⟨by decide, ?_⟩
        conv => whnf
        refine StoreV.c rfl rfl (Nat.le_of_ble_eq_true rfl) rfl ?_
        conv => whnf
        refine ⟨by decide, ?_⟩
        conv => whnf
        refine ⟨1, [_, _], by omega, Sub.refl _, by omega, ⟨rfl, rfl, rfl, rfl, trivial⟩, ?_⟩
        exact congrArg (fun x => [HObj.cells b2 [.int .u8 0, .int .u8 0, .int .u8 x] 32 (0, 0), HObj.cells b [.int .u8 0, .int .u8 0, .int .u8 0] 32 (0, 0)])
          (each 64 (fun s => IntKind.u8.wrap ((rq s 0).tmod 4) = digI s 2) (by decide) s hs.1 hs.2)
      · conv => whnf
        refine ⟨by decide, ?_⟩
        conv => whnf
        refine ⟨by decide, ?_⟩
        conv => whnf
        refine StoreV.c rfl rfl (Nat.le_of_ble_eq_true rfl) rfl ?_
        conv => whnf
        refine ⟨by decide, ?_⟩
        conv => whnf
        refine ⟨2, [_, _], by omega, Sub.refl _, by omega, ⟨rfl, rfl, rfl, rfl, trivial⟩, ?_⟩
        exact congrArg (fun x => [HObj.cells b2 [.int .u8 0, .int .u8 x, .int .u8 (digI s 2)] 32 (0, 0), HObj.cells b [.int .u8 0, .int .u8 0, .int .u8 0] 32 (0, 0)])
          (each 64 (fun s => IntKind.u8.wrap ((rq s 1).tmod 4) = digI s 1) (by decide) s hs.1 hs.2)
      · conv => whnf
        refine ⟨by decide, ?_⟩
        conv => whnf
        refine ⟨by decide, ?_⟩
        conv => whnf
        refine StoreV.c rfl rfl (Nat.le_of_ble_eq_true rfl) rfl ?_
        conv => whnf
        refine ⟨by decide, ?_⟩
        conv => whnf
        refine ⟨3, [_, _], by omega, Sub.refl _, by omega, ⟨rfl, rfl, rfl, rfl, trivial⟩, ?_⟩
        exact congrArg (fun x => [HObj.cells b2 [.int .u8 x, .int .u8 (digI s 1), .int .u8 (digI s 2)] 32 (0, 0), HObj.cells b [.int .u8 0, .int .u8 0, .int .u8 0] 32 (0, 0)])
          (each 64 (fun s => IntKind.u8.wrap ((rq s 2).tmod 4) = digI s 0) (by decide) s hs.1 hs.2)
      · conv => whnf
        refine LoadV.a 3 rfl (Nat.le_of_ble_eq_true rfl) ?_
        conv => whnf
        refine StoreV.c rfl rfl (Nat.le_of_ble_eq_true rfl) rfl ?_
        conv => whnf
        refine RetI.cell_tmp Try.results34 rfl rfl ?_
        conv => whnf
        refine LoadV.a 3 rfl (Nat.le_of_ble_eq_true rfl) ?_
        conv => whnf
        refine ⟨_, Sub.sel [] rfl, ?_, rfl⟩
        have hi : inSlot s = true := by simpa [inSlot] using hs
        have : digV s = .agg #[.int .u8 (digI s 0), .int .u8 (digI s 1), .int .u8 (digI s 2)] := by unfold digV; rw [if_pos hs]
        rw [hi, this]; rfl

/-! ### And back -/
def undigI (a b c : Int) : Int := if a ≥ 4 then -1 else if b ≥ 4 then -1 else if c ≥ 4 then -1 else 16 * a + 4 * b + c
def und (a b c : Int) : Nat → Int
  | 0 => 0
  | 1 => a
  | 2 => 4 * a + b
  | _ => 16 * a + 4 * b + c
theorem each3 (p : Int → Int → Int → Prop) (h : ∀ i j k : Fin 4, p (i.val : Int) (j.val : Int) (k.val : Int)) (a b c : Int) (ha : 0 ≤ a ∧ a < 4) (hb : 0 ≤ b ∧ b < 4) (hc : 0 ≤ c ∧ c < 4) : p a b c := by
  obtain ⟨i, rfl⟩ := Int.eq_ofNat_of_zero_le ha.1
  obtain ⟨j, rfl⟩ := Int.eq_ofNat_of_zero_le hb.1
  obtain ⟨k, rfl⟩ := Int.eq_ofNat_of_zero_le hc.1
  exact h ⟨i, by omega⟩ ⟨j, by omega⟩ ⟨k, by omega⟩
theorem undigit_ok (F : Mem) (a b c : Int) (ha : 0 ≤ a) (hb : 0 ≤ b) (hc : 0 ≤ c) : FT Try.prog 35 [.agg #[.int .u8 a, .int .u8 b, .int .u8 c]].toArray F [] (Ret (.int .i64 (undigI a b c))) := by
  refine FT.of_body Try.func35 rfl Try.ntmps35 (by simp) fun C hC => ?_
  conv => whnf
  intro g
  conv => whnf
  refine LoadV.a 3 rfl (Nat.le_of_ble_eq_true rfl) ?_
  conv => whnf
  refine LoopI.by_state (σ := Nat) (fun k => [(3, .int .i64 (und a b c k)), (6, .agg #[.int .u8 a, .int .u8 b, .int .u8 c]), (7, .int .i64 (k : Int))]) (fun k => []) (fun k => k ≤ 3 ∧ (0 < k → a < 4) ∧ (1 < k → b < 4) ∧ (2 < k → c < 4)) (fun k => 3 - k) 0 (by omega) ⟨rfl, rfl, rfl, trivial⟩ (Sub.sel [] rfl) ?_
  rintro k f0 ⟨hk, h1, h2, h3⟩
  have : k = 0 ∨ k = 1 ∨ k = 2 ∨ k = 3 := by omega
  rcases this with rfl | rfl | rfl | rfl
  · conv => whnf
    refine IndexV.agg1 rfl rfl rfl rfl rfl (by decide) rfl ?_
    conv => whnf
    refine cond_dec (fun h => ?_) (fun h => ?_)
    · conv => whnf
      refine RetI.one Try.results35 rfl ?_
      conv => whnf
      refine ⟨_, Sub.refl _, ret_int ?_, rfl⟩
      unfold undigI
      rw [if_pos h]
    · conv => whnf
      refine ⟨by decide, ?_⟩
      conv => whnf
      refine ⟨1, [], by omega, Sub.refl _, by omega, ⟨?_, rfl, rfl, trivial⟩, rfl⟩
      exact congrArg (Value.int .i64) (each 4 (fun a => IntKind.i64.wrap ((BitVec.ofInt IntKind.i64.bits (IntKind.i64.wrap (0 * 2 ^ min (2 : Int).toNat IntKind.i64.bits)) ||| BitVec.ofInt IntKind.i64.bits (IntKind.i64.wrap a)).toNat) = a) (by decide) a ha (by omega))
  · conv => whnf
    refine IndexV.agg1 rfl rfl rfl rfl rfl (by decide) rfl ?_
    conv => whnf
    refine cond_dec (fun h => ?_) (fun h => ?_)
    · conv => whnf
      refine RetI.one Try.results35 rfl ?_
      conv => whnf
      refine ⟨_, Sub.refl _, ret_int ?_, rfl⟩
      unfold undigI
      rw [if_neg (by have := h1 (by omega); omega), if_pos h]
    · conv => whnf
      refine ⟨by decide, ?_⟩
      conv => whnf
      refine ⟨2, [], by omega, Sub.refl _, by omega, ⟨?_, rfl, rfl, trivial⟩, rfl⟩
      exact congrArg (Value.int .i64) (each2 4 4 (fun a b => IntKind.i64.wrap ((BitVec.ofInt IntKind.i64.bits (IntKind.i64.wrap (a * 2 ^ min (2 : Int).toNat IntKind.i64.bits)) ||| BitVec.ofInt IntKind.i64.bits (IntKind.i64.wrap b)).toNat) = 4 * a + b) (by decide) a b ha (h1 (by omega)) hb (by omega))
  · conv => whnf
    refine IndexV.agg1 rfl rfl rfl rfl rfl (by decide) rfl ?_
    conv => whnf
    refine cond_dec (fun h => ?_) (fun h => ?_)
    · conv => whnf
      refine RetI.one Try.results35 rfl ?_
      conv => whnf
      refine ⟨_, Sub.refl _, ret_int ?_, rfl⟩
      unfold undigI
      rw [if_neg (by have := h1 (by omega); omega), if_neg (by have := h2 (by omega); omega), if_pos h]
    · conv => whnf
      refine ⟨by decide, ?_⟩
      conv => whnf
      refine ⟨3, [], by omega, Sub.refl _, by omega, ⟨?_, rfl, rfl, trivial⟩, rfl⟩
      exact congrArg (Value.int .i64) (each3 (fun a b c => IntKind.i64.wrap ((BitVec.ofInt IntKind.i64.bits (IntKind.i64.wrap ((4 * a + b) * 2 ^ min (2 : Int).toNat IntKind.i64.bits)) ||| BitVec.ofInt IntKind.i64.bits (IntKind.i64.wrap c)).toNat) = 16 * a + 4 * b + c) (by decide) a b c ⟨ha, h1 (by omega)⟩ ⟨hb, h2 (by omega)⟩ ⟨hc, by omega⟩)
  · conv => whnf
    refine RetI.one Try.results35 rfl ?_
    conv => whnf
    refine ⟨_, Sub.refl _, ret_int ?_, rfl⟩
    have := h1 (by omega); have := h2 (by omega); have := h3 (by omega)
    unfold undigI und; rw [if_neg (by omega), if_neg (by omega), if_neg (by omega)]; rfl
theorem rundigit_ok (F : Mem) (a b c : Int) (ha : 0 ≤ a) (hb : 0 ≤ b) (hc : 0 ≤ c) : FT Try.prog 36 [.agg #[.int .u8 a, .int .u8 b, .int .u8 c]].toArray F [] (Ret (.int .i64 (undigI a b c))) := by
  refine FT.of_body Try.func36 rfl Try.ntmps36 (by simp) fun C hC => ?_
  conv => whnf
  intro g
  conv => whnf
  refine LoopI.by_state (σ := Nat) (fun k => [(1, .pointer (some ⟨g, 0, none⟩)), (3, .int .i64 (und a b c k)), (4, .int .i64 (k : Int))]) (fun k => [.cells g [.int .u8 a, .int .u8 b, .int .u8 c] 32 (0, 0)]) (fun k => k ≤ 3 ∧ (0 < k → a < 4) ∧ (1 < k → b < 4) ∧ (2 < k → c < 4)) (fun k => 3 - k) 0 (by omega) ⟨rfl, rfl, rfl, trivial⟩ (Sub.refl _) ?_
  rintro k f0 ⟨hk, h1, h2, h3⟩
  have : k = 0 ∨ k = 1 ∨ k = 2 ∨ k = 3 := by omega
  rcases this with rfl | rfl | rfl | rfl
  · conv => whnf
    refine ⟨by decide, ?_⟩
    conv => whnf
    refine LoadV.s rfl rfl ?_
    conv => whnf
    refine cond_dec (fun h => ?_) (fun h => ?_)
    · conv => whnf
      refine RetI.one Try.results36 rfl ?_
      conv => whnf
      refine ⟨_, Sub.sel [] rfl, ret_int ?_, rfl⟩
      unfold undigI
      rw [if_pos h]
    · conv => whnf
      refine ⟨by decide, ?_⟩
      conv => whnf
      refine LoadV.s rfl rfl ?_
      conv => whnf
      refine ⟨1, [_], by omega, Sub.refl _, by omega, ⟨rfl, ?_, rfl, trivial⟩, rfl⟩
      exact congrArg (Value.int .i64) (each 4 (fun a => IntKind.i64.wrap (IntKind.i64.wrap (0 * 4) + IntKind.i64.wrap a) = a) (by decide) a ha (by omega))
  · conv => whnf
    refine ⟨by decide, ?_⟩
    conv => whnf
    refine LoadV.s rfl rfl ?_
    conv => whnf
    refine cond_dec (fun h => ?_) (fun h => ?_)
    · conv => whnf
      refine RetI.one Try.results36 rfl ?_
      conv => whnf
      refine ⟨_, Sub.sel [] rfl, ret_int ?_, rfl⟩
      unfold undigI
      rw [if_neg (by have := h1 (by omega); omega), if_pos h]
    · conv => whnf
      refine ⟨by decide, ?_⟩
      conv => whnf
      refine LoadV.s rfl rfl ?_
      conv => whnf
      refine ⟨2, [_], by omega, Sub.refl _, by omega, ⟨rfl, ?_, rfl, trivial⟩, rfl⟩
      exact congrArg (Value.int .i64) (each2 4 4 (fun a b => IntKind.i64.wrap (IntKind.i64.wrap (a * 4) + IntKind.i64.wrap b) = 4 * a + b) (by decide) a b ha (h1 (by omega)) hb (by omega))
  · conv => whnf
    refine ⟨by decide, ?_⟩
    conv => whnf
    refine LoadV.s rfl rfl ?_
    conv => whnf
    refine cond_dec (fun h => ?_) (fun h => ?_)
    · conv => whnf
      refine RetI.one Try.results36 rfl ?_
      conv => whnf
      refine ⟨_, Sub.sel [] rfl, ret_int ?_, rfl⟩
      unfold undigI
      rw [if_neg (by have := h1 (by omega); omega), if_neg (by have := h2 (by omega); omega), if_pos h]
    · conv => whnf
      refine ⟨by decide, ?_⟩
      conv => whnf
      refine LoadV.s rfl rfl ?_
      conv => whnf
      refine ⟨3, [_], by omega, Sub.refl _, by omega, ⟨rfl, ?_, rfl, trivial⟩, rfl⟩
      exact congrArg (Value.int .i64) (each3 (fun a b c => IntKind.i64.wrap (IntKind.i64.wrap ((4 * a + b) * 4) + IntKind.i64.wrap c) = 16 * a + 4 * b + c) (by decide) a b c ⟨ha, h1 (by omega)⟩ ⟨hb, h2 (by omega)⟩ ⟨hc, by omega⟩)
  · conv => whnf
    refine RetI.one Try.results36 rfl ?_
    conv => whnf
    refine ⟨_, Sub.sel [] rfl, ret_int ?_, rfl⟩
    have := h1 (by omega); have := h2 (by omega); have := h3 (by omega)
    unfold undigI und; rw [if_neg (by omega), if_neg (by omega), if_neg (by omega)]; rfl
end Go.Proofs.Ytebhhfojiiohpaa
