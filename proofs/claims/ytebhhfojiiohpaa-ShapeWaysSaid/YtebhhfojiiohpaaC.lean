/- What lies below what; masks by the reference; where two nodes meet. -/
import Derived.Test.YtebhhfojiiohpaaB
namespace Go.Proofs.Ytebhhfojiiohpaa
open SL Go.RowKit

theorem each2 (n m : Nat) (p : Int → Int → Prop) (h : ∀ i : Fin n, ∀ j : Fin m, p (i.val : Int) (j.val : Int)) (v w : Int) (h0 : 0 ≤ v) (h1 : v < n) (h2 : 0 ≤ w) (h3 : w < m) : p v w := by
  obtain ⟨k, rfl⟩ := Int.eq_ofNat_of_zero_le h0
  obtain ⟨l, rfl⟩ := Int.eq_ofNat_of_zero_le h2
  exact h ⟨k, by omega⟩ ⟨l, by omega⟩
/-- Does w lie below v? -/
def isBelow (v w : Int) : Bool := nodeB v && nodeB w && (w == v || parentI w == v || parentI (parentI w) == v || parentI (parentI (parentI w)) == v)
theorem nodeB_iff (v : Int) : nodeB v = true ↔ 0 ≤ v ∧ v < 85 := by simp [nodeB]
theorem parent_node (v : Int) (h0 : 1 ≤ v) (h1 : v < 85) : 0 ≤ parentI v ∧ parentI v < 85 ∧ parentI v < v := by
  unfold parentI; rw [if_neg (by omega), if_neg (by omega)]; omega
theorem below_up (v w : Int) (h0 : 0 ≤ v) (h1 : v < 85) (h2 : 0 ≤ w) (h3 : w < 85) (h : v < w) : isBelow v (parentI w) = isBelow v w :=
  each2 85 85 (fun v w => v < w → isBelow v (parentI w) = isBelow v w) (by decide +kernel) v w h0 h1 h2 h3 h
theorem below_end (v w : Int) (h0 : 0 ≤ v) (h1 : v < 85) (h2 : 0 ≤ w) (h3 : w < 85) (h : ¬ v < w) : (w == v) = isBelow v w :=
  each2 85 85 (fun v w => ¬ v < w → (w == v) = isBelow v w) (by decide +kernel) v w h0 h1 h2 h3 h
theorem below_no (v w : Int) (h : nodeB v = false ∨ nodeB w = false) : isBelow v w = false := by
  rcases h with h | h <;> simp [isBelow, h]

theorem rbelow_ok (F : Mem) (v w : Int) : FT Try.prog 16 [.int .i64 v, .int .i64 w].toArray F [] (Ret (.bool (isBelow v w))) := by
  refine FT.of_body Try.func16 rfl Try.ntmps16 (by simp) fun C hC => ?_
  conv => whnf
  refine CallS.mk Try.call39 ⟨[], _, _, Sub.split [] rfl, fun F' _ => rnode_ok F' v, ?_⟩
  rintro e A' ⟨rfl, rfl⟩
  cases hv : nodeB v with
  | false =>
    conv => whnf
    refine RetI.one Try.results16 rfl ?_
    conv => whnf
    exact ⟨_, Sub.refl _, ret_bool (below_no v w (.inl hv)).symm, rfl⟩
  | true =>
    conv => whnf
    refine CallS.mk Try.call39 ⟨[], _, _, Sub.split [] rfl, fun F' _ => rnode_ok F' w, ?_⟩
    rintro e A' ⟨rfl, rfl⟩
    cases hw : nodeB w with
    | false =>
      conv => whnf
      refine RetI.one Try.results16 rfl ?_
      conv => whnf
      exact ⟨_, Sub.refl _, ret_bool (below_no v w (.inr hw)).symm, rfl⟩
    | true =>
      conv => whnf
      obtain ⟨v0, v1⟩ := (nodeB_iff v).1 hv
      obtain ⟨w0, w1⟩ := (nodeB_iff w).1 hw
      refine LoopI.by_state (σ := Int) (fun x => [(0, .int .i64 v), (1, .int .i64 x)]) (fun _ => []) (fun x => 0 ≤ x ∧ x < 85 ∧ isBelow v x = isBelow v w) (fun x => x.toNat) w ⟨w0, w1, rfl⟩ ⟨rfl, rfl, trivial⟩ (Sub.refl _) ?_
      rintro x f0 ⟨x0, x1, hx⟩
      conv => whnf
      refine cond_dec (fun h => ?_) (fun h => ?_)
      · conv => whnf
        refine CallS.mk Try.call23 ⟨[], _, _, Sub.split [] rfl, fun F' _ => rparent_ok F' x, ?_⟩
        rintro e A' ⟨rfl, rfl⟩
        conv => whnf
        have hp := parent_node x (by omega) x1
        exact ⟨parentI x, [], by omega, Sub.refl _, ⟨hp.1, hp.2.1, by rw [below_up v x v0 v1 x0 x1 h, hx]⟩, ⟨rfl, rfl, trivial⟩, rfl⟩
      · conv => whnf
        refine RetI.one Try.results16 rfl ?_
        conv => whnf
        refine ⟨_, Sub.refl _, ret_bool ?_, rfl⟩
        rw [← hx]; exact below_end v x v0 v1 x0 x1 h

theorem rlevel_ok (F : Mem) (v : Int) : FT Try.prog 21 [.int .i64 v].toArray F [] (Ret (.int .i64 (levelI v))) := by
  refine FT.of_body Try.func21 rfl Try.ntmps21 (by simp) fun C hC => ?_
  conv => whnf
  refine CallS.mk Try.call39 ⟨[], _, _, Sub.split [] rfl, fun F' _ => rnode_ok F' v, ?_⟩
  rintro e A' ⟨rfl, rfl⟩
  cases hv : nodeB v with
  | false =>
    conv => whnf
    refine RetI.one Try.results21 rfl ?_
    conv => whnf
    refine ⟨_, Sub.refl _, ret_int ?_, rfl⟩
    have : ¬ (0 ≤ v ∧ v < 85) := fun h => by rw [(nodeB_iff v).2 h] at hv; cases hv
    unfold levelI; split
    · rfl
    · rw [if_pos (by omega)]
  | true =>
    conv => whnf
    obtain ⟨v0, v1⟩ := (nodeB_iff v).1 hv
    refine LoopI.by_state (σ := Int × Int) (fun x => [(0, .int .i64 x.1), (3, .int .i64 x.2)]) (fun _ => []) (fun x => 0 ≤ x.1 ∧ x.1 < 85 ∧ 0 ≤ x.2 ∧ x.2 ≤ 3 ∧ x.2 + levelI x.1 = levelI v) (fun x => x.1.toNat) (v, 0) ⟨v0, v1, by omega, by omega, by simp⟩ ⟨rfl, rfl, trivial⟩ (Sub.refl _) ?_
    rintro ⟨x, n⟩ f0 ⟨x0, x1, n0, n1, hx⟩
    dsimp only at *
    conv => whnf
    refine cond_dec (fun h => ?_) (fun h => ?_)
    · conv => whnf
      refine CallS.mk Try.call23 ⟨[], _, _, Sub.split [] rfl, fun F' _ => rparent_ok F' x, ?_⟩
      rintro e A' ⟨rfl, rfl⟩
      conv => whnf
      have hp := parent_node x (by omega) x1
      have hl : levelI (parentI x) + 1 = levelI x := (each 85 (fun x => x ≤ 0 ∨ levelI (parentI x) + 1 = levelI x) (by decide) x x0 x1).resolve_left (by omega)
      have hr := level_rng v
      have hr2 := level_node (parentI x) hp.1 hp.2.1
      refine ⟨(parentI x, n + 1), [], by dsimp only; omega, Sub.refl _, ⟨hp.1, hp.2.1, by omega, by omega, by dsimp only; omega⟩, ⟨rfl, ?_, trivial⟩, rfl⟩
      exact congrArg (Value.int .i64) (IntWalk.i64_in _ (by omega))
    · conv => whnf
      refine RetI.one Try.results21 rfl ?_
      conv => whnf
      refine ⟨_, Sub.refl _, ret_int ?_, rfl⟩
      have : x = 0 := by omega
      subst this
      rw [← hx]; simp [levelI]

theorem rwhich_ok (F : Mem) (v : Int) : FT Try.prog 26 [.int .i64 v].toArray F [] (Ret (.int .i64 (whichI v))) := by
  refine FT.of_body Try.func26 rfl Try.ntmps26 (by simp) fun C hC => ?_
  conv => whnf
  refine CallS.mk Try.call23 ⟨[], _, _, Sub.split [] rfl, fun F' _ => rparent_ok F' v, ?_⟩
  rintro e A' ⟨rfl, rfl⟩
  conv => whnf
  refine LoopI.by_state (σ := Nat) (fun i => [(0, .int .i64 v), (3, .int .i64 (parentI v)), (4, .int .i64 (i : Int))]) (fun _ => []) (fun i => i ≤ 4 ∧ (0 ≤ parentI v → 4 * parentI v + 1 + i ≤ v)) (fun i => 4 - i) 0
    ⟨by omega, fun h => by unfold parentI at h ⊢; split at h; · omega
                           · split at h; · omega
                             · rw [if_neg (by assumption), if_neg (by assumption)]; omega⟩ ⟨rfl, rfl, rfl, trivial⟩ (Sub.refl _) ?_
  rintro i f0 ⟨hi, hiv⟩
  conv => whnf
  refine cond_dec (fun h => ?_) (fun h => ?_)
  · conv => whnf
    refine cond_dec (fun hp => ?_) (fun hp => ?_)
    · conv => whnf
      refine CallS.mk Try.call24 ⟨[], _, _, Sub.split [] rfl, fun F' _ => rchild_ok F' (parentI v) i, ?_⟩
      rintro e A' ⟨rfl, rfl⟩
      conv => whnf
      have hv : 1 ≤ v ∧ v < 85 := by
        unfold parentI at hp; split at hp
        · omega
        · split at hp <;> omega
      have hpv : parentI v = (v - 1) / 4 := by unfold parentI; rw [if_neg (by omega), if_neg (by omega)]
      have hc : childI (parentI v) (i : Int) = 4 * parentI v + 1 + i := by unfold childI; rw [if_neg (by omega), if_neg (by omega), if_neg (by omega), if_neg (by omega)]
      refine cond_dec (fun h4 => ?_) (fun h4 => ?_)
      · conv => whnf
        refine RetI.one Try.results26 rfl ?_
        conv => whnf
        refine ⟨_, Sub.refl _, ret_int ?_, rfl⟩
        rw [hc] at h4
        unfold whichI; rw [if_neg (by omega), if_neg (by omega)]; omega
      · conv => whnf
        rw [hc] at h4
        have hb := hiv hp
        refine ⟨i + 1, [], by omega, Sub.refl _, ⟨by omega, fun _ => by omega⟩, ⟨rfl, rfl, ?_, trivial⟩, rfl⟩
        have : IntKind.i64.wrap ((i : Int) + 1) = ((i + 1 : Nat) : Int) := by rw [IntWalk.i64_in _ (by omega)]; omega
        exact congrArg (Value.int .i64) this
    · conv => whnf
      refine RetI.one Try.results26 rfl ?_
      conv => whnf
      refine ⟨_, Sub.refl _, ret_int ?_, rfl⟩
      unfold parentI at hp; unfold whichI; split at hp
      · rw [if_pos (by assumption)]
      · split at hp
        · rw [if_neg (by assumption), if_pos (by assumption)]
        · omega
  · conv => whnf
    refine RetI.one Try.results26 rfl ?_
    conv => whnf
    refine ⟨_, Sub.refl _, ret_int ?_, rfl⟩
    by_cases hp : 0 ≤ parentI v
    · have := hiv hp
      exfalso
      unfold parentI at hp this; split at hp
      · omega
      · split at hp
        · omega
        · rw [if_neg (by assumption), if_neg (by assumption)] at this; omega
    · unfold parentI at hp; unfold whichI; split at hp
      · rw [if_pos (by assumption)]
      · split at hp
        · rw [if_neg (by assumption), if_pos (by assumption)]
        · omega

/-! ### The reference's masks -/
def maskTo (v : Int) : Nat → Int
  | 0 => 0
  | s + 1 => maskTo v s + if isBelow v (21 + s) then 2 ^ s else 0
theorem maskTo_rng (v : Int) (s : Nat) : 0 ≤ maskTo v s ∧ maskTo v s < 2 ^ s := by
  induction s with
  | zero => simp [maskTo]
  | succ s ih =>
    unfold maskTo
    have : (2 : Int) ^ (s + 1) = 2 * 2 ^ s := by rw [Int.pow_succ]; omega
    split <;> omega
theorem maskTo_no (v : Int) (h : nodeB v = false) (s : Nat) : maskTo v s = 0 := by
  induction s with
  | zero => rfl
  | succ s ih => simp [maskTo, ih, below_no v _ (.inl h)]
theorem maskTo_all (v : Int) : maskTo v 64 = maskI v := by
  by_cases h : 0 ≤ v ∧ v < 85
  · exact each 85 (fun v => maskTo v 64 = maskI v) (by decide +kernel) v h.1 h.2
  · have hn : nodeB v = false := by
      cases hb : nodeB v with
      | false => rfl
      | true => exact absurd ((nodeB_iff v).1 hb) h
    rw [maskTo_no v hn]
    unfold maskI; split
    · rfl
    · rw [if_pos (by omega)]
theorem u64_in (x : Int) (h0 : 0 ≤ x) (h1 : x < 18446744073709551616) : IntKind.u64.wrap x = x := IntWalk.u64_in _ (by omega)
theorem pow_lt_64 (s : Nat) (h : s ≤ 63) : (2 : Int) ^ s ≤ 9223372036854775808 := by
  have h1 : ((2 ^ s : Nat) : Int) ≤ ((2 ^ 63 : Nat) : Int) := Int.ofNat_le.2 (Nat.pow_le_pow_right (by omega) h)
  simpa using h1
theorem rmask_ok (F : Mem) (v : Int) : FT Try.prog 12 [.int .i64 v].toArray F [] (Ret (.int .u64 (maskI v))) := by
  refine FT.of_body Try.func12 rfl Try.ntmps12 (by simp) fun C hC => ?_
  conv => whnf
  refine LoopI.by_state (σ := Nat) (fun s => [(0, .int .i64 v), (3, .int .u64 (maskTo v s)), (4, .int .u64 (IntKind.u64.wrap (2 ^ s))), (5, .int .i64 (s : Int))]) (fun _ => []) (fun s => s ≤ 64) (fun s => 64 - s) 0 (by omega) ⟨rfl, rfl, rfl, rfl, trivial⟩ (Sub.refl _) ?_
  rintro s f0 hs
  have hcast : s < 64 → IntKind.i64.wrap ((s : Int) + 1) = ((s + 1 : Nat) : Int) := fun _ => by rw [IntWalk.i64_in _ (by omega)]; omega
  have hunit : s < 64 → IntKind.u64.wrap (IntKind.u64.wrap (2 ^ s) * 2) = IntKind.u64.wrap (2 ^ (s + 1)) := fun h => by
    have := pow_lt_64 s (by omega)
    have h2 : (0 : Int) < 2 ^ s := Int.pow_pos (by omega)
    rw [u64_in (2 ^ s) (by omega) (by omega), Int.pow_succ]
  conv => whnf
  refine cond_dec (fun h => ?_) (fun h => ?_)
  · have hlt : s < 64 := by omega
    conv => whnf
    refine CallS.mk Try.call30 ⟨[], _, _, Sub.split [] rfl, fun F' _ => rleaf_ok F' s, ?_⟩
    rintro e A' ⟨rfl, rfl⟩
    conv => whnf
    have hl : leafI (s : Int) = 21 + s := by unfold leafI; rw [if_neg (by omega), if_neg (by omega)]
    rw [hl]
    refine CallS.mk Try.call16 ⟨[], _, _, Sub.split [] rfl, fun F' _ => rbelow_ok F' v (21 + s), ?_⟩
    rintro e A' ⟨rfl, rfl⟩
    cases hb : isBelow v (21 + s) with
    | true =>
      conv => whnf
      refine ⟨s + 1, [], by omega, Sub.refl _, by omega, ⟨rfl, ?_, congrArg (Value.int .u64) (hunit hlt), congrArg (Value.int .i64) (hcast hlt), trivial⟩, rfl⟩
      refine congrArg (Value.int .u64) ?_
      have hr := maskTo_rng v s
      have := pow_lt_64 s (by omega)
      show IntKind.u64.wrap (maskTo v s + IntKind.u64.wrap (2 ^ s)) = maskTo v (s + 1)
      rw [u64_in (2 ^ s) (by omega) (by omega), u64_in _ (by omega) (by omega)]
      simp [maskTo, hb]
    | false =>
      conv => whnf
      refine ⟨s + 1, [], by omega, Sub.refl _, by omega, ⟨rfl, ?_, congrArg (Value.int .u64) (hunit hlt), congrArg (Value.int .i64) (hcast hlt), trivial⟩, rfl⟩
      refine congrArg (Value.int .u64) ?_
      show maskTo v s = maskTo v (s + 1)
      simp [maskTo, hb]
  · conv => whnf
    refine RetI.one Try.results12 rfl ?_
    conv => whnf
    refine ⟨_, Sub.refl _, ret_int ?_, rfl⟩
    have : s = 64 := by omega
    rw [this, maskTo_all]
end Go.Proofs.Ytebhhfojiiohpaa
