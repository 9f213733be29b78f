/- The shape of the tree: levels, masks, what lies below; and the reference's. -/
import Derived.Test.YtlbdnkkaacccoaaCom
namespace Go.Proofs.Ytlbdnkkaacccoaa
set_option linter.unusedVariables false
set_option linter.unusedSimpArgs false
set_option maxRecDepth 100000
open SL Go.RowKit Go.Maps
/-- A fact on whole numbers in a range, asked one by one. -/
theorem each (n : Nat) (p : Int → Prop) (h : ∀ i : Fin n, p (i.val : Int)) (v : Int) (h0 : 0 ≤ v) (h1 : v < n) : p v := by
  obtain ⟨k, rfl⟩ := Int.eq_ofNat_of_zero_le h0
  exact h ⟨k, by omega⟩
theorem each2 (n m : Nat) (p : Int → Int → Prop) (h : ∀ i : Fin n, ∀ j : Fin m, p (i.val : Int) (j.val : Int)) (v w : Int) (h0 : 0 ≤ v) (h1 : v < n) (h2 : 0 ≤ w) (h3 : w < m) : p v w := by
  obtain ⟨k, rfl⟩ := Int.eq_ofNat_of_zero_le h0
  obtain ⟨l, rfl⟩ := Int.eq_ofNat_of_zero_le h2
  exact h ⟨k, by omega⟩ ⟨l, by omega⟩
def firstI (l : Int) : Int := if l = 0 then 0 else if l = 1 then 1 else if l = 2 then 5 else 21
def levelI (v : Int) : Int := if v < 0 then -1 else if v ≥ 85 then -1 else if v ≥ 21 then 3 else if v ≥ 5 then 2 else if v ≥ 1 then 1 else 0
def parentI (v : Int) : Int := if v < 1 then -1 else if v ≥ 85 then -1 else (v - 1) / 4
def childI (v i : Int) : Int := if v < 0 then -1 else if v ≥ 21 then -1 else if i < 0 then -1 else if i ≥ 4 then -1 else 4 * v + 1 + i
theorem first_ok (F : Mem) (l : Int) (h0 : 0 ≤ l) (h1 : l ≤ 3) : FT Try.prog 90 [.int .i64 l].toArray F [] (Ret (.int .i64 (firstI l))) := by
  refine FT.of_body Try.func90 rfl Try.ntmps90 (by simp) fun C hC => ?_
  subst hC
  conv => whnf
  have : l = 0 ∨ l = 1 ∨ l = 2 ∨ l = 3 := by omega
  rcases this with rfl | rfl | rfl | rfl
  all_goals
    refine ArI.mk _ rfl ?_
    conv => whnf
    refine ⟨by decide, ?_⟩
    conv => whnf
    refine ArI.mk _ rfl ?_
    conv => whnf
    refine ⟨by decide, ?_⟩
    refine ArI.mk _ rfl ?_
    conv => whnf
    refine RetI.one Try.results90 rfl ?_
    conv => whnf
    exact ⟨_, Sub.refl _, rfl, rfl⟩
theorem level_ok (F : Mem) (v : Int) : FT Try.prog 77 [.int .i64 v].toArray F [] (Ret (.int .i64 (levelI v))) := by
  refine FT.of_body Try.func77 rfl Try.ntmps77 (by simp) fun C hC => ?_
  subst hC
  conv => whnf
  refine cond_dec (fun h => ?_) (fun h => ?_)
  · conv => whnf
    repeat (first | (refine LoadV.s rfl rfl (forceV_of ?_); conv => whnf) | (refine LoadV.s rfl rfl ?_; conv => whnf) | (refine StoreV.c rfl rfl (Nat.le_of_ble_eq_true rfl) rfl ?_; conv => whnf) | (refine LoadV.a _ rfl (Nat.le_of_ble_eq_true rfl) ?_; conv => whnf) | (refine DrawI.quiet (by kernel_rfl) (by kernel_rfl) ?_; conv => whnf) | (refine ArI.in64 (by omega) ?_; conv => whnf) | (refine ArI.inU8 (by omega) ?_; conv => whnf) | (refine ArI.inU64 (by omega) ?_; conv => whnf) | (refine ArI.inU32 (by omega) ?_; conv => whnf) | (refine RetI.one Try.results77 rfl ?_; conv => whnf) | (refine RetI.two Try.results77 rfl rfl ?_; conv => whnf) | (refine RetI.three Try.results77 rfl rfl rfl ?_; conv => whnf) | (refine RetI.none Try.results77 ?_; conv => whnf) | (refine ⟨by first | decide | omega, ?_⟩; conv => whnf))
    exact ⟨_, Sub.refl _, ret_int (by simp [levelI, h]), rfl⟩
  · conv => whnf
    refine cond_dec (fun h1 => ?_) (fun h1 => ?_)
    · conv => whnf
      repeat (first | (refine LoadV.s rfl rfl (forceV_of ?_); conv => whnf) | (refine LoadV.s rfl rfl ?_; conv => whnf) | (refine StoreV.c rfl rfl (Nat.le_of_ble_eq_true rfl) rfl ?_; conv => whnf) | (refine LoadV.a _ rfl (Nat.le_of_ble_eq_true rfl) ?_; conv => whnf) | (refine DrawI.quiet (by kernel_rfl) (by kernel_rfl) ?_; conv => whnf) | (refine ArI.in64 (by omega) ?_; conv => whnf) | (refine ArI.inU8 (by omega) ?_; conv => whnf) | (refine ArI.inU64 (by omega) ?_; conv => whnf) | (refine ArI.inU32 (by omega) ?_; conv => whnf) | (refine RetI.one Try.results77 rfl ?_; conv => whnf) | (refine RetI.two Try.results77 rfl rfl ?_; conv => whnf) | (refine RetI.three Try.results77 rfl rfl rfl ?_; conv => whnf) | (refine RetI.none Try.results77 ?_; conv => whnf) | (refine ⟨by first | decide | omega, ?_⟩; conv => whnf))
      exact ⟨_, Sub.refl _, ret_int (by simp only [levelI, if_neg h, if_pos h1]), rfl⟩
    · conv => whnf
      refine LoopI.by_state (σ := Nat) (fun s => [(0, .int .i64 v), (3, .int .i64 (s : Int))]) (fun _ => []) (fun s => s ≤ 3 ∧ (s < 3 → v < 21) ∧ (s < 2 → v < 5) ∧ (s < 1 → v < 1)) (fun s => s) 3 (by omega) ⟨rfl, rfl, trivial⟩ (Sub.refl _) ?_
      rintro s f0 ⟨hs, i1, i2, i3⟩
      conv => whnf
      refine CallS.mk Try.call90 ⟨[], _, _, Sub.refl _, fun F' hF' => first_ok F' s (by omega) (by omega), ?_⟩
      rintro e A' ⟨rfl, rfl⟩
      conv => whnf
      refine cond_dec (fun h2 => ?_) (fun h2 => ?_)
      · conv => whnf
        repeat (first | (refine LoadV.s rfl rfl (forceV_of ?_); conv => whnf) | (refine LoadV.s rfl rfl ?_; conv => whnf) | (refine StoreV.c rfl rfl (Nat.le_of_ble_eq_true rfl) rfl ?_; conv => whnf) | (refine LoadV.a _ rfl (Nat.le_of_ble_eq_true rfl) ?_; conv => whnf) | (refine DrawI.quiet (by kernel_rfl) (by kernel_rfl) ?_; conv => whnf) | (refine ArI.in64 (by omega) ?_; conv => whnf) | (refine ArI.inU8 (by omega) ?_; conv => whnf) | (refine ArI.inU64 (by omega) ?_; conv => whnf) | (refine ArI.inU32 (by omega) ?_; conv => whnf) | (refine RetI.one Try.results77 rfl ?_; conv => whnf) | (refine RetI.two Try.results77 rfl rfl ?_; conv => whnf) | (refine RetI.three Try.results77 rfl rfl rfl ?_; conv => whnf) | (refine RetI.none Try.results77 ?_; conv => whnf) | (refine ⟨by first | decide | omega, ?_⟩; conv => whnf))
        refine ⟨_, Sub.refl _, ret_int ?_, rfl⟩
        have : s = 0 ∨ s = 1 ∨ s = 2 ∨ s = 3 := by omega
        rcases this with rfl | rfl | rfl | rfl <;> simp [firstI] at h2 <;> simp [levelI] <;> omega
      · conv => whnf
        have : s = 0 ∨ s = 1 ∨ s = 2 ∨ s = 3 := by omega
        rcases this with rfl | rfl | rfl | rfl
        · simp [firstI] at h2; omega
        · refine ArI.to64 0 (by omega) (by omega) ?_
          conv => whnf
          exact ⟨0, [], by omega, Sub.refl _, by simp [firstI] at h2; omega, ⟨rfl, rfl, trivial⟩, rfl⟩
        · refine ArI.to64 1 (by omega) (by omega) ?_
          conv => whnf
          exact ⟨1, [], by omega, Sub.refl _, by simp [firstI] at h2; omega, ⟨rfl, rfl, trivial⟩, rfl⟩
        · refine ArI.to64 2 (by omega) (by omega) ?_
          conv => whnf
          exact ⟨2, [], by omega, Sub.refl _, by simp [firstI] at h2; omega, ⟨rfl, rfl, trivial⟩, rfl⟩
theorem level_rng (v : Int) : -1 ≤ levelI v ∧ levelI v ≤ 3 := by
  unfold levelI; repeat' split
  all_goals omega
theorem level_node (v : Int) (h0 : 0 ≤ v) (h1 : v < 85) : 0 ≤ levelI v := by
  unfold levelI; repeat' split
  all_goals omega
theorem level_no (v : Int) (h : levelI v < 0) : v < 0 ∨ 85 ≤ v := by
  unfold levelI at h; repeat' split at h
  all_goals omega
def widthI (v : Int) : Int := 2 * (3 - levelI v)
def fromI (v : Int) : Int := (v - firstI (levelI v)) * 2 ^ (widthI v).toNat
def cntI (v : Int) : Int := 2 ^ (widthI v).toNat
theorem span_ok (F : Mem) (v : Int) (h0 : 0 ≤ v) (h1 : v < 85) : FT Try.prog 91 [.int .i64 v].toArray F [] (Ret (.tuple #[.int .i64 (fromI v), .int .i64 (cntI v)])) := by
  refine FT.of_body Try.func91 rfl Try.ntmps91 (by simp) fun C hC => ?_
  subst hC
  conv => whnf
  have hl := level_rng v
  have hl0 := level_node v h0 h1
  refine CallS.mk Try.call77 ⟨[], _, _, Sub.refl _, fun F' hF' => level_ok F' v, ?_⟩
  rintro e A' ⟨rfl, rfl⟩
  conv => whnf
  refine ArI.mk _ rfl ?_
  conv => whnf
  refine ArI.mk _ rfl ?_
  conv => whnf
  refine DrawI.quiet (by kernel_rfl) (by kernel_rfl) ?_
  conv => whnf
  refine CallQ.pure Try.call90 (fun F' _ => (first_ok F' (levelI v) hl0 hl.2).mono fun _ _ h => h.1) ?_
  conv => whnf
  refine ArI.mk _ rfl ?_
  conv => whnf
  have hw : (0 : Int) ≤ IntKind.i64.wrap (2 * IntKind.i64.wrap (3 - levelI v)) := by
    have := each 85 (fun v => (0 : Int) ≤ IntKind.i64.wrap (2 * IntKind.i64.wrap (3 - levelI v))) (by decide) v h0 h1
    exact this
  refine ⟨hw, ?_⟩
  conv => whnf
  refine ⟨hw, ?_⟩
  conv => whnf
  repeat (first | (refine LoadV.s rfl rfl (forceV_of ?_); conv => whnf) | (refine LoadV.s rfl rfl ?_; conv => whnf) | (refine StoreV.c rfl rfl (Nat.le_of_ble_eq_true rfl) rfl ?_; conv => whnf) | (refine LoadV.a _ rfl (Nat.le_of_ble_eq_true rfl) ?_; conv => whnf) | (refine DrawI.quiet (by kernel_rfl) (by kernel_rfl) ?_; conv => whnf) | (refine ArI.in64 (by omega) ?_; conv => whnf) | (refine ArI.inU8 (by omega) ?_; conv => whnf) | (refine ArI.inU64 (by omega) ?_; conv => whnf) | (refine ArI.inU32 (by omega) ?_; conv => whnf) | (refine RetI.one Try.results91 rfl ?_; conv => whnf) | (refine RetI.two Try.results91 rfl rfl ?_; conv => whnf) | (refine RetI.three Try.results91 rfl rfl rfl ?_; conv => whnf) | (refine RetI.none Try.results91 ?_; conv => whnf) | (refine ⟨by first | decide | omega, ?_⟩; conv => whnf))
  refine ⟨_, Sub.refl _, ?_, rfl⟩
  have k1 := each 85 (fun v => IntKind.i64.wrap (IntKind.i64.wrap (v - firstI (levelI v)) * 2 ^ min (IntKind.i64.wrap (2 * IntKind.i64.wrap (3 - levelI v))).toNat 64) = fromI v) (by decide) v h0 h1
  have k2 := each 85 (fun v => IntKind.i64.wrap (1 * 2 ^ min (IntKind.i64.wrap (2 * IntKind.i64.wrap (3 - levelI v))).toNat 64) = cntI v) (by decide) v h0 h1
  show Ending.returned (.tuple #[.int .i64 (IntKind.i64.wrap (IntKind.i64.wrap (v - firstI (levelI v)) * 2 ^ min (IntKind.i64.wrap (2 * IntKind.i64.wrap (3 - levelI v))).toNat 64)), .int .i64 (IntKind.i64.wrap (1 * 2 ^ min (IntKind.i64.wrap (2 * IntKind.i64.wrap (3 - levelI v))).toNat 64))]) = _
  rw [k1, k2]
/-- The slots below a node, as a number. -/
def maskI (v : Int) : Int := if v < 0 then 0 else if v ≥ 85 then 0 else (2 ^ (cntI v).toNat - 1) * 2 ^ (fromI v).toNat
theorem mask_ok (F : Mem) (v : Int) : FT Try.prog 78 [.int .i64 v].toArray F [] (Ret (.int .u64 (maskI v))) := by
  refine FT.of_body Try.func78 rfl Try.ntmps78 (by simp) fun C hC => ?_
  subst hC
  conv => whnf
  refine CallS.mk Try.call77 ⟨[], _, _, Sub.refl _, fun F' hF' => level_ok F' v, ?_⟩
  rintro e A' ⟨rfl, rfl⟩
  conv => whnf
  refine cond_dec (fun h => ?_) (fun h => ?_)
  · conv => whnf
    repeat (first | (refine LoadV.s rfl rfl (forceV_of ?_); conv => whnf) | (refine LoadV.s rfl rfl ?_; conv => whnf) | (refine StoreV.c rfl rfl (Nat.le_of_ble_eq_true rfl) rfl ?_; conv => whnf) | (refine LoadV.a _ rfl (Nat.le_of_ble_eq_true rfl) ?_; conv => whnf) | (refine DrawI.quiet (by kernel_rfl) (by kernel_rfl) ?_; conv => whnf) | (refine ArI.in64 (by omega) ?_; conv => whnf) | (refine ArI.inU8 (by omega) ?_; conv => whnf) | (refine ArI.inU64 (by omega) ?_; conv => whnf) | (refine ArI.inU32 (by omega) ?_; conv => whnf) | (refine RetI.one Try.results78 rfl ?_; conv => whnf) | (refine RetI.two Try.results78 rfl rfl ?_; conv => whnf) | (refine RetI.three Try.results78 rfl rfl rfl ?_; conv => whnf) | (refine RetI.none Try.results78 ?_; conv => whnf) | (refine ⟨by first | decide | omega, ?_⟩; conv => whnf))
    refine ⟨_, Sub.refl _, ret_int ?_, rfl⟩
    have := level_no v h
    unfold maskI
    split
    · rfl
    · rw [if_pos (by omega)]
  · have hv : 0 ≤ v ∧ v < 85 := by
      by_cases h1 : 0 ≤ v ∧ v < 85
      · exact h1
      · exfalso; apply h; unfold levelI; split
        · omega
        · rw [if_pos (by omega)]; omega
    conv => whnf
    refine CallS.mk Try.call91 ⟨[], _, _, Sub.refl _, fun F' hF' => span_ok F' v hv.1 hv.2, ?_⟩
    rintro e A' ⟨rfl, rfl⟩
    conv => whnf
    refine ArI.mk _ rfl ?_
    conv => whnf
    refine ArI.mk _ rfl ?_
    conv => whnf
    refine ⟨each 85 (fun v => (0 : Int) ≤ IntKind.u64.wrap (64 - IntKind.u64.wrap (cntI v))) (by decide) v hv.1 hv.2, ?_⟩
    conv => whnf
    refine ArI.mk _ rfl ?_
    conv => whnf
    refine ⟨each 85 (fun v => (0 : Int) ≤ IntKind.u64.wrap (fromI v)) (by decide) v hv.1 hv.2, ?_⟩
    conv => whnf
    repeat (first | (refine LoadV.s rfl rfl (forceV_of ?_); conv => whnf) | (refine LoadV.s rfl rfl ?_; conv => whnf) | (refine StoreV.c rfl rfl (Nat.le_of_ble_eq_true rfl) rfl ?_; conv => whnf) | (refine LoadV.a _ rfl (Nat.le_of_ble_eq_true rfl) ?_; conv => whnf) | (refine DrawI.quiet (by kernel_rfl) (by kernel_rfl) ?_; conv => whnf) | (refine ArI.in64 (by omega) ?_; conv => whnf) | (refine ArI.inU8 (by omega) ?_; conv => whnf) | (refine ArI.inU64 (by omega) ?_; conv => whnf) | (refine ArI.inU32 (by omega) ?_; conv => whnf) | (refine RetI.one Try.results78 rfl ?_; conv => whnf) | (refine RetI.two Try.results78 rfl rfl ?_; conv => whnf) | (refine RetI.three Try.results78 rfl rfl rfl ?_; conv => whnf) | (refine RetI.none Try.results78 ?_; conv => whnf) | (refine ⟨by first | decide | omega, ?_⟩; conv => whnf))
    refine ⟨_, Sub.refl _, ret_int ?_, rfl⟩
    exact each 85 (fun v => IntKind.u64.wrap ((18446744073709551615 : Int).fdiv (2 ^ min (IntKind.u64.wrap (64 - IntKind.u64.wrap (cntI v))).toNat 64) * 2 ^ min (IntKind.u64.wrap (fromI v)).toNat 64) = maskI v) (by decide) v hv.1 hv.2
def nodeB (v : Int) : Bool := decide (0 ≤ v ∧ v < 85)
theorem nodeB_iff (v : Int) : nodeB v = true ↔ 0 ≤ v ∧ v < 85 := by simp [nodeB]
theorem level_neg (v : Int) : levelI v < 0 ↔ nodeB v = false := by
  rw [← Bool.not_eq_true, nodeB_iff]
  constructor
  · intro h; have := level_no v h; omega
  · intro h; unfold levelI; split
    · omega
    · rw [if_pos (by omega)]; omega
/-- Does w lie below v? -/
def isBelow (v w : Int) : Bool := nodeB v && nodeB w && (w == v || parentI w == v || parentI (parentI w) == v || parentI (parentI (parentI w)) == v)
theorem parent_node (v : Int) (h0 : 1 ≤ v) (h1 : v < 85) : 0 ≤ parentI v ∧ parentI v < 85 ∧ parentI v < v := by
  unfold parentI; rw [if_neg (by omega), if_neg (by omega)]; omega
theorem below_up (v w : Int) (h0 : 0 ≤ v) (h1 : v < 85) (h2 : 0 ≤ w) (h3 : w < 85) (h : v < w) : isBelow v (parentI w) = isBelow v w :=
  each2 85 85 (fun v w => v < w → isBelow v (parentI w) = isBelow v w) (by decide +kernel) v w h0 h1 h2 h3 h
theorem below_end (v w : Int) (h0 : 0 ≤ v) (h1 : v < 85) (h2 : 0 ≤ w) (h3 : w < 85) (h : ¬ v < w) : (w == v) = isBelow v w :=
  each2 85 85 (fun v w => ¬ v < w → (w == v) = isBelow v w) (by decide +kernel) v w h0 h1 h2 h3 h
theorem below_no (v w : Int) (h : nodeB v = false ∨ nodeB w = false) : isBelow v w = false := by
  rcases h with h | h <;> simp [isBelow, h]
theorem below_and (v w : Int) (v0 : 0 ≤ v) (v1 : v < 85) (w0 : 0 ≤ w) (w1 : w < 85) : (bits .and .u64 (maskI v) (maskI w) == maskI w) = isBelow v w :=
  each2 85 85 (fun v w => (bits .and .u64 (maskI v) (maskI w) == maskI w) = isBelow v w) (by decide +kernel) v w v0 v1 w0 w1
theorem below_ok (F : Mem) (v w : Int) : FT Try.prog 51 [.int .i64 v, .int .i64 w].toArray F [] (Ret (.bool (isBelow v w))) := by
  refine FT.of_body Try.func51 rfl Try.ntmps51 (by simp) fun C hC => ?_
  subst hC
  conv => whnf
  refine CallS.mk Try.call77 ⟨[], _, _, Sub.refl _, fun F' hF' => level_ok F' v, ?_⟩
  rintro e A' ⟨rfl, rfl⟩
  conv => whnf
  refine cond_dec (fun h => ?_) (fun h => ?_)
  · conv => whnf
    repeat (first | (refine LoadV.s rfl rfl (forceV_of ?_); conv => whnf) | (refine LoadV.s rfl rfl ?_; conv => whnf) | (refine StoreV.c rfl rfl (Nat.le_of_ble_eq_true rfl) rfl ?_; conv => whnf) | (refine LoadV.a _ rfl (Nat.le_of_ble_eq_true rfl) ?_; conv => whnf) | (refine DrawI.quiet (by kernel_rfl) (by kernel_rfl) ?_; conv => whnf) | (refine ArI.in64 (by omega) ?_; conv => whnf) | (refine ArI.inU8 (by omega) ?_; conv => whnf) | (refine ArI.inU64 (by omega) ?_; conv => whnf) | (refine ArI.inU32 (by omega) ?_; conv => whnf) | (refine RetI.one Try.results51 rfl ?_; conv => whnf) | (refine RetI.two Try.results51 rfl rfl ?_; conv => whnf) | (refine RetI.three Try.results51 rfl rfl rfl ?_; conv => whnf) | (refine RetI.none Try.results51 ?_; conv => whnf) | (refine ⟨by first | decide | omega, ?_⟩; conv => whnf))
    exact ⟨_, Sub.refl _, ret_bool (below_no v w (.inl ((level_neg v).1 h))).symm, rfl⟩
  · conv => whnf
    refine CallS.mk Try.call77 ⟨[], _, _, Sub.refl _, fun F' hF' => level_ok F' w, ?_⟩
    rintro e A' ⟨rfl, rfl⟩
    conv => whnf
    refine cond_dec (fun h2 => ?_) (fun h2 => ?_)
    · conv => whnf
      repeat (first | (refine LoadV.s rfl rfl (forceV_of ?_); conv => whnf) | (refine LoadV.s rfl rfl ?_; conv => whnf) | (refine StoreV.c rfl rfl (Nat.le_of_ble_eq_true rfl) rfl ?_; conv => whnf) | (refine LoadV.a _ rfl (Nat.le_of_ble_eq_true rfl) ?_; conv => whnf) | (refine DrawI.quiet (by kernel_rfl) (by kernel_rfl) ?_; conv => whnf) | (refine ArI.in64 (by omega) ?_; conv => whnf) | (refine ArI.inU8 (by omega) ?_; conv => whnf) | (refine ArI.inU64 (by omega) ?_; conv => whnf) | (refine ArI.inU32 (by omega) ?_; conv => whnf) | (refine RetI.one Try.results51 rfl ?_; conv => whnf) | (refine RetI.two Try.results51 rfl rfl ?_; conv => whnf) | (refine RetI.three Try.results51 rfl rfl rfl ?_; conv => whnf) | (refine RetI.none Try.results51 ?_; conv => whnf) | (refine ⟨by first | decide | omega, ?_⟩; conv => whnf))
      exact ⟨_, Sub.refl _, ret_bool (below_no v w (.inr ((level_neg w).1 h2))).symm, rfl⟩
    · conv => whnf
      have hv : nodeB v = true := by
        cases hb : nodeB v with
        | true => rfl
        | false => exact absurd ((level_neg v).2 hb) h
      have hw : nodeB w = true := by
        cases hb : nodeB w with
        | true => rfl
        | false => exact absurd ((level_neg w).2 hb) h2
      obtain ⟨v0, v1⟩ := (nodeB_iff v).1 hv
      obtain ⟨w0, w1⟩ := (nodeB_iff w).1 hw
      refine CallS.mk Try.call78 ⟨[], _, _, Sub.refl _, fun F' hF' => mask_ok F' v, ?_⟩
      rintro e A' ⟨rfl, rfl⟩
      conv => whnf
      refine CallS.mk Try.call78 ⟨[], _, _, Sub.refl _, fun F' hF' => mask_ok F' w, ?_⟩
      rintro e A' ⟨rfl, rfl⟩
      conv => whnf
      refine CallS.mk Try.call78 ⟨[], _, _, Sub.refl _, fun F' hF' => mask_ok F' w, ?_⟩
      rintro e A' ⟨rfl, rfl⟩
      conv => whnf
      repeat (first | (refine LoadV.s rfl rfl (forceV_of ?_); conv => whnf) | (refine LoadV.s rfl rfl ?_; conv => whnf) | (refine StoreV.c rfl rfl (Nat.le_of_ble_eq_true rfl) rfl ?_; conv => whnf) | (refine LoadV.a _ rfl (Nat.le_of_ble_eq_true rfl) ?_; conv => whnf) | (refine DrawI.quiet (by kernel_rfl) (by kernel_rfl) ?_; conv => whnf) | (refine ArI.in64 (by omega) ?_; conv => whnf) | (refine ArI.inU8 (by omega) ?_; conv => whnf) | (refine ArI.inU64 (by omega) ?_; conv => whnf) | (refine ArI.inU32 (by omega) ?_; conv => whnf) | (refine RetI.one Try.results51 rfl ?_; conv => whnf) | (refine RetI.two Try.results51 rfl rfl ?_; conv => whnf) | (refine RetI.three Try.results51 rfl rfl rfl ?_; conv => whnf) | (refine RetI.none Try.results51 ?_; conv => whnf) | (refine ⟨by first | decide | omega, ?_⟩; conv => whnf))
      exact ⟨_, Sub.refl _, ret_bool (below_and v w v0 v1 w0 w1), rfl⟩
theorem rnode_ok (F : Mem) (v : Int) : FT Try.prog 79 [.int .i64 v].toArray F [] (Ret (.bool (nodeB v))) := by
  refine FT.of_body Try.func79 rfl Try.ntmps79 (by simp) fun C hC => ?_
  subst hC
  conv => whnf
  refine cond_dec (fun h => ?_) (fun h => ?_)
  · conv => whnf
    repeat (first | (refine LoadV.s rfl rfl (forceV_of ?_); conv => whnf) | (refine LoadV.s rfl rfl ?_; conv => whnf) | (refine StoreV.c rfl rfl (Nat.le_of_ble_eq_true rfl) rfl ?_; conv => whnf) | (refine LoadV.a _ rfl (Nat.le_of_ble_eq_true rfl) ?_; conv => whnf) | (refine DrawI.quiet (by kernel_rfl) (by kernel_rfl) ?_; conv => whnf) | (refine ArI.in64 (by omega) ?_; conv => whnf) | (refine ArI.inU8 (by omega) ?_; conv => whnf) | (refine ArI.inU64 (by omega) ?_; conv => whnf) | (refine ArI.inU32 (by omega) ?_; conv => whnf) | (refine RetI.one Try.results79 rfl ?_; conv => whnf) | (refine RetI.two Try.results79 rfl rfl ?_; conv => whnf) | (refine RetI.three Try.results79 rfl rfl rfl ?_; conv => whnf) | (refine RetI.none Try.results79 ?_; conv => whnf) | (refine ⟨by first | decide | omega, ?_⟩; conv => whnf))
    exact ⟨_, Sub.refl _, ret_bool (by simp only [nodeB]; exact decide_eq_decide.2 ⟨fun h1 => ⟨h, h1⟩, fun h1 => h1.2⟩), rfl⟩
  · conv => whnf
    repeat (first | (refine LoadV.s rfl rfl (forceV_of ?_); conv => whnf) | (refine LoadV.s rfl rfl ?_; conv => whnf) | (refine StoreV.c rfl rfl (Nat.le_of_ble_eq_true rfl) rfl ?_; conv => whnf) | (refine LoadV.a _ rfl (Nat.le_of_ble_eq_true rfl) ?_; conv => whnf) | (refine DrawI.quiet (by kernel_rfl) (by kernel_rfl) ?_; conv => whnf) | (refine ArI.in64 (by omega) ?_; conv => whnf) | (refine ArI.inU8 (by omega) ?_; conv => whnf) | (refine ArI.inU64 (by omega) ?_; conv => whnf) | (refine ArI.inU32 (by omega) ?_; conv => whnf) | (refine RetI.one Try.results79 rfl ?_; conv => whnf) | (refine RetI.two Try.results79 rfl rfl ?_; conv => whnf) | (refine RetI.three Try.results79 rfl rfl rfl ?_; conv => whnf) | (refine RetI.none Try.results79 ?_; conv => whnf) | (refine ⟨by first | decide | omega, ?_⟩; conv => whnf))
    exact ⟨_, Sub.refl _, ret_bool (by simp only [nodeB]; rw [decide_eq_false (by omega)]), rfl⟩
theorem rchild_ok (F : Mem) (v i : Int) : FT Try.prog 92 [.int .i64 v, .int .i64 i].toArray F [] (Ret (.int .i64 (childI v i))) := by
  refine FT.of_body Try.func92 rfl Try.ntmps92 (by simp) fun C hC => ?_
  subst hC
  conv => whnf
  refine cond_dec (fun h => ?_) (fun h => ?_)
  · conv => whnf
    repeat (first | (refine LoadV.s rfl rfl (forceV_of ?_); conv => whnf) | (refine LoadV.s rfl rfl ?_; conv => whnf) | (refine StoreV.c rfl rfl (Nat.le_of_ble_eq_true rfl) rfl ?_; conv => whnf) | (refine LoadV.a _ rfl (Nat.le_of_ble_eq_true rfl) ?_; conv => whnf) | (refine DrawI.quiet (by kernel_rfl) (by kernel_rfl) ?_; conv => whnf) | (refine ArI.in64 (by omega) ?_; conv => whnf) | (refine ArI.inU8 (by omega) ?_; conv => whnf) | (refine ArI.inU64 (by omega) ?_; conv => whnf) | (refine ArI.inU32 (by omega) ?_; conv => whnf) | (refine RetI.one Try.results92 rfl ?_; conv => whnf) | (refine RetI.two Try.results92 rfl rfl ?_; conv => whnf) | (refine RetI.three Try.results92 rfl rfl rfl ?_; conv => whnf) | (refine RetI.none Try.results92 ?_; conv => whnf) | (refine ⟨by first | decide | omega, ?_⟩; conv => whnf))
    exact ⟨_, Sub.refl _, ret_int (by simp only [childI, if_pos h]), rfl⟩
  · conv => whnf
    refine cond_dec (fun h1 => ?_) (fun h1 => ?_)
    · conv => whnf
      repeat (first | (refine LoadV.s rfl rfl (forceV_of ?_); conv => whnf) | (refine LoadV.s rfl rfl ?_; conv => whnf) | (refine StoreV.c rfl rfl (Nat.le_of_ble_eq_true rfl) rfl ?_; conv => whnf) | (refine LoadV.a _ rfl (Nat.le_of_ble_eq_true rfl) ?_; conv => whnf) | (refine DrawI.quiet (by kernel_rfl) (by kernel_rfl) ?_; conv => whnf) | (refine ArI.in64 (by omega) ?_; conv => whnf) | (refine ArI.inU8 (by omega) ?_; conv => whnf) | (refine ArI.inU64 (by omega) ?_; conv => whnf) | (refine ArI.inU32 (by omega) ?_; conv => whnf) | (refine RetI.one Try.results92 rfl ?_; conv => whnf) | (refine RetI.two Try.results92 rfl rfl ?_; conv => whnf) | (refine RetI.three Try.results92 rfl rfl rfl ?_; conv => whnf) | (refine RetI.none Try.results92 ?_; conv => whnf) | (refine ⟨by first | decide | omega, ?_⟩; conv => whnf))
      exact ⟨_, Sub.refl _, ret_int (by simp only [childI, if_neg h, if_pos h1]), rfl⟩
    · conv => whnf
      refine cond_dec (fun h2 => ?_) (fun h2 => ?_)
      · conv => whnf
        repeat (first | (refine LoadV.s rfl rfl (forceV_of ?_); conv => whnf) | (refine LoadV.s rfl rfl ?_; conv => whnf) | (refine StoreV.c rfl rfl (Nat.le_of_ble_eq_true rfl) rfl ?_; conv => whnf) | (refine LoadV.a _ rfl (Nat.le_of_ble_eq_true rfl) ?_; conv => whnf) | (refine DrawI.quiet (by kernel_rfl) (by kernel_rfl) ?_; conv => whnf) | (refine ArI.in64 (by omega) ?_; conv => whnf) | (refine ArI.inU8 (by omega) ?_; conv => whnf) | (refine ArI.inU64 (by omega) ?_; conv => whnf) | (refine ArI.inU32 (by omega) ?_; conv => whnf) | (refine RetI.one Try.results92 rfl ?_; conv => whnf) | (refine RetI.two Try.results92 rfl rfl ?_; conv => whnf) | (refine RetI.three Try.results92 rfl rfl rfl ?_; conv => whnf) | (refine RetI.none Try.results92 ?_; conv => whnf) | (refine ⟨by first | decide | omega, ?_⟩; conv => whnf))
        exact ⟨_, Sub.refl _, ret_int (by simp only [childI, if_neg h, if_neg h1, if_pos h2]), rfl⟩
      · conv => whnf
        refine cond_dec (fun h3 => ?_) (fun h3 => ?_)
        · conv => whnf
          repeat (first | (refine LoadV.s rfl rfl (forceV_of ?_); conv => whnf) | (refine LoadV.s rfl rfl ?_; conv => whnf) | (refine StoreV.c rfl rfl (Nat.le_of_ble_eq_true rfl) rfl ?_; conv => whnf) | (refine LoadV.a _ rfl (Nat.le_of_ble_eq_true rfl) ?_; conv => whnf) | (refine DrawI.quiet (by kernel_rfl) (by kernel_rfl) ?_; conv => whnf) | (refine ArI.in64 (by omega) ?_; conv => whnf) | (refine ArI.inU8 (by omega) ?_; conv => whnf) | (refine ArI.inU64 (by omega) ?_; conv => whnf) | (refine ArI.inU32 (by omega) ?_; conv => whnf) | (refine RetI.one Try.results92 rfl ?_; conv => whnf) | (refine RetI.two Try.results92 rfl rfl ?_; conv => whnf) | (refine RetI.three Try.results92 rfl rfl rfl ?_; conv => whnf) | (refine RetI.none Try.results92 ?_; conv => whnf) | (refine ⟨by first | decide | omega, ?_⟩; conv => whnf))
          exact ⟨_, Sub.refl _, ret_int (by simp only [childI, if_neg h, if_neg h1, if_neg h2, if_pos h3]), rfl⟩
        · conv => whnf
          repeat (first | (refine LoadV.s rfl rfl (forceV_of ?_); conv => whnf) | (refine LoadV.s rfl rfl ?_; conv => whnf) | (refine StoreV.c rfl rfl (Nat.le_of_ble_eq_true rfl) rfl ?_; conv => whnf) | (refine LoadV.a _ rfl (Nat.le_of_ble_eq_true rfl) ?_; conv => whnf) | (refine DrawI.quiet (by kernel_rfl) (by kernel_rfl) ?_; conv => whnf) | (refine ArI.in64 (by omega) ?_; conv => whnf) | (refine ArI.inU8 (by omega) ?_; conv => whnf) | (refine ArI.inU64 (by omega) ?_; conv => whnf) | (refine ArI.inU32 (by omega) ?_; conv => whnf) | (refine RetI.one Try.results92 rfl ?_; conv => whnf) | (refine RetI.two Try.results92 rfl rfl ?_; conv => whnf) | (refine RetI.three Try.results92 rfl rfl rfl ?_; conv => whnf) | (refine RetI.none Try.results92 ?_; conv => whnf) | (refine ⟨by first | decide | omega, ?_⟩; conv => whnf))
          exact ⟨_, Sub.refl _, ret_int (by simp only [childI, if_neg h, if_neg h1, if_neg h2, if_neg h3]), rfl⟩
theorem rparent_ok (F : Mem) (v : Int) : FT Try.prog 80 [.int .i64 v].toArray F [] (Ret (.int .i64 (parentI v))) := by
  refine FT.of_body Try.func80 rfl Try.ntmps80 (by simp) fun C hC => ?_
  subst hC
  conv => whnf
  refine cond_dec (fun h => ?_) (fun h => ?_)
  · conv => whnf
    repeat (first | (refine LoadV.s rfl rfl (forceV_of ?_); conv => whnf) | (refine LoadV.s rfl rfl ?_; conv => whnf) | (refine StoreV.c rfl rfl (Nat.le_of_ble_eq_true rfl) rfl ?_; conv => whnf) | (refine LoadV.a _ rfl (Nat.le_of_ble_eq_true rfl) ?_; conv => whnf) | (refine DrawI.quiet (by kernel_rfl) (by kernel_rfl) ?_; conv => whnf) | (refine ArI.in64 (by omega) ?_; conv => whnf) | (refine ArI.inU8 (by omega) ?_; conv => whnf) | (refine ArI.inU64 (by omega) ?_; conv => whnf) | (refine ArI.inU32 (by omega) ?_; conv => whnf) | (refine RetI.one Try.results80 rfl ?_; conv => whnf) | (refine RetI.two Try.results80 rfl rfl ?_; conv => whnf) | (refine RetI.three Try.results80 rfl rfl rfl ?_; conv => whnf) | (refine RetI.none Try.results80 ?_; conv => whnf) | (refine ⟨by first | decide | omega, ?_⟩; conv => whnf))
    exact ⟨_, Sub.refl _, ret_int (by simp [parentI, h]), rfl⟩
  · conv => whnf
    refine cond_dec (fun h1 => ?_) (fun h1 => ?_)
    · conv => whnf
      repeat (first | (refine LoadV.s rfl rfl (forceV_of ?_); conv => whnf) | (refine LoadV.s rfl rfl ?_; conv => whnf) | (refine StoreV.c rfl rfl (Nat.le_of_ble_eq_true rfl) rfl ?_; conv => whnf) | (refine LoadV.a _ rfl (Nat.le_of_ble_eq_true rfl) ?_; conv => whnf) | (refine DrawI.quiet (by kernel_rfl) (by kernel_rfl) ?_; conv => whnf) | (refine ArI.in64 (by omega) ?_; conv => whnf) | (refine ArI.inU8 (by omega) ?_; conv => whnf) | (refine ArI.inU64 (by omega) ?_; conv => whnf) | (refine ArI.inU32 (by omega) ?_; conv => whnf) | (refine RetI.one Try.results80 rfl ?_; conv => whnf) | (refine RetI.two Try.results80 rfl rfl ?_; conv => whnf) | (refine RetI.three Try.results80 rfl rfl rfl ?_; conv => whnf) | (refine RetI.none Try.results80 ?_; conv => whnf) | (refine ⟨by first | decide | omega, ?_⟩; conv => whnf))
      exact ⟨_, Sub.refl _, ret_int (by simp only [parentI, if_neg h, if_pos h1]), rfl⟩
    · have hp : parentI v = (v - 1) / 4 := by simp only [parentI, if_neg h, if_neg h1]
      conv => whnf
      refine LoopI.by_state (σ := Nat) (fun p => [(0, .int .i64 v), (3, .int .i64 (p : Int))]) (fun _ => []) (fun p => p ≤ 21 ∧ 4 * (p : Int) + 1 ≤ v) (fun p => 21 - p) 0 (by omega) ⟨rfl, rfl, trivial⟩ (Sub.refl _) ?_
      rintro p f0 ⟨hs, hpv⟩
      conv => whnf
      refine cond_dec (fun h2 => ?_) (fun h2 => ?_)
      · conv => whnf
        refine LoopI.by_state (σ := Nat) (fun i => [(0, .int .i64 v), (3, .int .i64 (p : Int)), (4, .int .i64 (i : Int))]) (fun _ => []) (fun i => i ≤ 4 ∧ 4 * (p : Int) + 1 + i ≤ v) (fun i => 4 - i) 0 (by omega) ⟨rfl, rfl, rfl, trivial⟩ (Sub.refl _) ?_
        rintro i f1 ⟨hi, hiv⟩
        conv => whnf
        refine cond_dec (fun h3 => ?_) (fun h3 => ?_)
        · conv => whnf
          have hc : childI (p : Int) (i : Int) = 4 * p + 1 + i := by unfold childI; rw [if_neg (by omega), if_neg (by omega), if_neg (by omega), if_neg (by omega)]
          refine CallS.mk Try.call92 ⟨[], _, _, Sub.refl _, fun F' hF' => rchild_ok F' p i, ?_⟩
          rintro e A' ⟨rfl, rfl⟩
          conv => whnf
          refine cond_dec (fun h4 => ?_) (fun h4 => ?_)
          · conv => whnf
            repeat (first | (refine LoadV.s rfl rfl (forceV_of ?_); conv => whnf) | (refine LoadV.s rfl rfl ?_; conv => whnf) | (refine StoreV.c rfl rfl (Nat.le_of_ble_eq_true rfl) rfl ?_; conv => whnf) | (refine LoadV.a _ rfl (Nat.le_of_ble_eq_true rfl) ?_; conv => whnf) | (refine DrawI.quiet (by kernel_rfl) (by kernel_rfl) ?_; conv => whnf) | (refine ArI.in64 (by omega) ?_; conv => whnf) | (refine ArI.inU8 (by omega) ?_; conv => whnf) | (refine ArI.inU64 (by omega) ?_; conv => whnf) | (refine ArI.inU32 (by omega) ?_; conv => whnf) | (refine RetI.one Try.results80 rfl ?_; conv => whnf) | (refine RetI.two Try.results80 rfl rfl ?_; conv => whnf) | (refine RetI.three Try.results80 rfl rfl rfl ?_; conv => whnf) | (refine RetI.none Try.results80 ?_; conv => whnf) | (refine ⟨by first | decide | omega, ?_⟩; conv => whnf))
            refine ⟨_, Sub.refl _, ret_int ?_, rfl⟩
            rw [hc] at h4; omega
          · conv => whnf
            rw [hc] at h4
            refine ArI.to64 ((i + 1 : Nat) : Int) (by omega) (by omega) ?_
            conv => whnf
            exact ⟨i + 1, [], by omega, Sub.refl _, by omega, ⟨rfl, rfl, rfl, trivial⟩, rfl⟩
        · conv => whnf
          refine ArI.to64 ((p + 1 : Nat) : Int) (by omega) (by omega) ?_
          conv => whnf
          exact ⟨p + 1, [], by omega, Sub.refl _, by omega, ⟨rfl, rfl, trivial⟩, rfl⟩
      · exfalso; omega
theorem rbelow_ok (F : Mem) (v w : Int) : FT Try.prog 56 [.int .i64 v, .int .i64 w].toArray F [] (Ret (.bool (isBelow v w))) := by
  refine FT.of_body Try.func56 rfl Try.ntmps56 (by simp) fun C hC => ?_
  subst hC
  conv => whnf
  refine CallS.mk Try.call79 ⟨[], _, _, Sub.refl _, fun F' hF' => rnode_ok F' v, ?_⟩
  rintro e A' ⟨rfl, rfl⟩
  cases hv : nodeB v with
  | false =>
    conv => whnf
    repeat (first | (refine LoadV.s rfl rfl (forceV_of ?_); conv => whnf) | (refine LoadV.s rfl rfl ?_; conv => whnf) | (refine StoreV.c rfl rfl (Nat.le_of_ble_eq_true rfl) rfl ?_; conv => whnf) | (refine LoadV.a _ rfl (Nat.le_of_ble_eq_true rfl) ?_; conv => whnf) | (refine DrawI.quiet (by kernel_rfl) (by kernel_rfl) ?_; conv => whnf) | (refine ArI.in64 (by omega) ?_; conv => whnf) | (refine ArI.inU8 (by omega) ?_; conv => whnf) | (refine ArI.inU64 (by omega) ?_; conv => whnf) | (refine ArI.inU32 (by omega) ?_; conv => whnf) | (refine RetI.one Try.results56 rfl ?_; conv => whnf) | (refine RetI.two Try.results56 rfl rfl ?_; conv => whnf) | (refine RetI.three Try.results56 rfl rfl rfl ?_; conv => whnf) | (refine RetI.none Try.results56 ?_; conv => whnf) | (refine ⟨by first | decide | omega, ?_⟩; conv => whnf))
    exact ⟨_, Sub.refl _, ret_bool (below_no v w (.inl hv)).symm, rfl⟩
  | true =>
    conv => whnf
    refine CallS.mk Try.call79 ⟨[], _, _, Sub.refl _, fun F' hF' => rnode_ok F' w, ?_⟩
    rintro e A' ⟨rfl, rfl⟩
    cases hw : nodeB w with
    | false =>
      conv => whnf
      repeat (first | (refine LoadV.s rfl rfl (forceV_of ?_); conv => whnf) | (refine LoadV.s rfl rfl ?_; conv => whnf) | (refine StoreV.c rfl rfl (Nat.le_of_ble_eq_true rfl) rfl ?_; conv => whnf) | (refine LoadV.a _ rfl (Nat.le_of_ble_eq_true rfl) ?_; conv => whnf) | (refine DrawI.quiet (by kernel_rfl) (by kernel_rfl) ?_; conv => whnf) | (refine ArI.in64 (by omega) ?_; conv => whnf) | (refine ArI.inU8 (by omega) ?_; conv => whnf) | (refine ArI.inU64 (by omega) ?_; conv => whnf) | (refine ArI.inU32 (by omega) ?_; conv => whnf) | (refine RetI.one Try.results56 rfl ?_; conv => whnf) | (refine RetI.two Try.results56 rfl rfl ?_; conv => whnf) | (refine RetI.three Try.results56 rfl rfl rfl ?_; conv => whnf) | (refine RetI.none Try.results56 ?_; conv => whnf) | (refine ⟨by first | decide | omega, ?_⟩; conv => whnf))
      exact ⟨_, Sub.refl _, ret_bool (below_no v w (.inr hw)).symm, rfl⟩
    | true =>
      conv => whnf
      obtain ⟨v0, v1⟩ := (nodeB_iff v).1 hv
      obtain ⟨w0, w1⟩ := (nodeB_iff w).1 hw
      refine LoopI.by_state (σ := Int) (fun x => [(0, .int .i64 v), (1, .int .i64 x)]) (fun _ => []) (fun x => 0 ≤ x ∧ x < 85 ∧ isBelow v x = isBelow v w) (fun x => x.toNat) w ⟨w0, w1, rfl⟩ ⟨rfl, rfl, trivial⟩ (Sub.refl _) ?_
      rintro x f0 ⟨x0, x1, hx⟩
      conv => whnf
      refine cond_dec (fun h => ?_) (fun h => ?_)
      · conv => whnf
        refine CallS.mk Try.call80 ⟨[], _, _, Sub.refl _, fun F' hF' => rparent_ok F' x, ?_⟩
        rintro e A' ⟨rfl, rfl⟩
        conv => whnf
        have hp := parent_node x (by omega) x1
        exact ⟨parentI x, [], by omega, Sub.refl _, ⟨hp.1, hp.2.1, by rw [below_up v x v0 v1 x0 x1 h, hx]⟩, ⟨rfl, rfl, trivial⟩, rfl⟩
      · conv => whnf
        repeat (first | (refine LoadV.s rfl rfl (forceV_of ?_); conv => whnf) | (refine LoadV.s rfl rfl ?_; conv => whnf) | (refine StoreV.c rfl rfl (Nat.le_of_ble_eq_true rfl) rfl ?_; conv => whnf) | (refine LoadV.a _ rfl (Nat.le_of_ble_eq_true rfl) ?_; conv => whnf) | (refine DrawI.quiet (by kernel_rfl) (by kernel_rfl) ?_; conv => whnf) | (refine ArI.in64 (by omega) ?_; conv => whnf) | (refine ArI.inU8 (by omega) ?_; conv => whnf) | (refine ArI.inU64 (by omega) ?_; conv => whnf) | (refine ArI.inU32 (by omega) ?_; conv => whnf) | (refine RetI.one Try.results56 rfl ?_; conv => whnf) | (refine RetI.two Try.results56 rfl rfl ?_; conv => whnf) | (refine RetI.three Try.results56 rfl rfl rfl ?_; conv => whnf) | (refine RetI.none Try.results56 ?_; conv => whnf) | (refine ⟨by first | decide | omega, ?_⟩; conv => whnf))
        refine ⟨_, Sub.refl _, ret_bool ?_, rfl⟩
        rw [← hx]; exact below_end v x v0 v1 x0 x1 h
end Go.Proofs.Ytlbdnkkaacccoaa
