/- The contracts of masks, of what lies below, and of what the reference goes through. -/
import Derived.Test.YtebhhfojiiohpaaA
namespace Go.Proofs.Ytebhhfojiiohpaa
open SL Go.RowKit

theorem level_rng (v : Int) : -1 ≤ levelI v ∧ levelI v ≤ 3 := by
  unfold levelI; repeat' split
  all_goals omega
theorem level_node (v : Int) (h0 : 0 ≤ v) (h1 : v < 85) : 0 ≤ levelI v := by
  unfold levelI; repeat' split
  all_goals omega
theorem level_no (v : Int) (h : levelI v < 0) : v < 0 ∨ 85 ≤ v := by
  unfold levelI at h; repeat' split at h
  all_goals omega

def widthI (v : Int) : Int := 2 * (3 - levelI v)
def fromI (v : Int) : Int := (v - firstI (levelI v)) * 2 ^ (widthI v).toNat
def cntI (v : Int) : Int := 2 ^ (widthI v).toNat
theorem span_ok (F : Mem) (v : Int) (h0 : 0 ≤ v) (h1 : v < 85) : FT Try.prog 37 [.int .i64 v].toArray F [] (Ret (.tuple #[.int .i64 (fromI v), .int .i64 (cntI v)])) := by
  refine FT.of_body Try.func37 rfl Try.ntmps37 (by simp) fun C hC => ?_
  have hl := level_rng v
  have hl0 := level_node v h0 h1
  conv => whnf
  refine CallS.mk Try.call20 ⟨[], _, _, Sub.split [] rfl, fun F' _ => level_ok F' v, ?_⟩
  rintro e A' ⟨rfl, rfl⟩
  conv => whnf
  refine DrawI.quiet (by kernel_rfl) (by kernel_rfl) ?_
  conv => whnf
  refine CallQ.pure Try.call40 (fun F' _ => (first_ok F' (levelI v) hl0 hl.2).mono fun _ _ h => h.1) ?_
  conv => whnf
  have hw : (0 : Int) ≤ IntKind.i64.wrap (2 * IntKind.i64.wrap (3 - levelI v)) := by
    have := each 85 (fun v => (0 : Int) ≤ IntKind.i64.wrap (2 * IntKind.i64.wrap (3 - levelI v))) (by decide) v h0 h1
    exact this
  refine ⟨hw, ?_⟩
  conv => whnf
  refine ⟨hw, ?_⟩
  conv => whnf
  refine RetI.two Try.results37 rfl rfl ?_
  conv => whnf
  refine ⟨_, Sub.refl _, ?_, rfl⟩
  have k1 := each 85 (fun v => IntKind.i64.wrap (IntKind.i64.wrap (v - firstI (levelI v)) * 2 ^ min (IntKind.i64.wrap (2 * IntKind.i64.wrap (3 - levelI v))).toNat 64) = fromI v) (by decide) v h0 h1
  have k2 := each 85 (fun v => IntKind.i64.wrap (1 * 2 ^ min (IntKind.i64.wrap (2 * IntKind.i64.wrap (3 - levelI v))).toNat 64) = cntI v) (by decide) v h0 h1
  show Ending.returned (.tuple #[.int .i64 (IntKind.i64.wrap (IntKind.i64.wrap (v - firstI (levelI v)) * 2 ^ min (IntKind.i64.wrap (2 * IntKind.i64.wrap (3 - levelI v))).toNat 64)), .int .i64 (IntKind.i64.wrap (1 * 2 ^ min (IntKind.i64.wrap (2 * IntKind.i64.wrap (3 - levelI v))).toNat 64))]) = _
  rw [k1, k2]

/-- The slots below a node, as a number. -/
def maskI (v : Int) : Int := if v < 0 then 0 else if v ≥ 85 then 0 else (2 ^ (cntI v).toNat - 1) * 2 ^ (fromI v).toNat
theorem mask_ok (F : Mem) (v : Int) : FT Try.prog 11 [.int .i64 v].toArray F [] (Ret (.int .u64 (maskI v))) := by
  refine FT.of_body Try.func11 rfl Try.ntmps11 (by simp) fun C hC => ?_
  conv => whnf
  refine CallS.mk Try.call20 ⟨[], _, _, Sub.split [] rfl, fun F' _ => level_ok F' v, ?_⟩
  rintro e A' ⟨rfl, rfl⟩
  conv => whnf
  refine cond_dec (fun h => ?_) (fun h => ?_)
  · conv => whnf
    refine RetI.one Try.results11 rfl ?_
    conv => whnf
    refine ⟨_, Sub.refl _, ret_int ?_, rfl⟩
    have := level_no v h
    unfold maskI
    split
    · rfl
    · rw [if_pos (by omega)]
  · have hv : 0 ≤ v ∧ v < 85 := by
      by_cases h1 : 0 ≤ v ∧ v < 85
      · exact h1
      · exfalso; apply h; unfold levelI; split
        · omega
        · rw [if_pos (by omega)]; omega
    conv => whnf
    refine CallS.mk Try.call37 ⟨[], _, _, Sub.split [] rfl, fun F' _ => span_ok F' v hv.1 hv.2, ?_⟩
    rintro e A' ⟨rfl, rfl⟩
    conv => whnf
    refine ⟨each 85 (fun v => (0 : Int) ≤ IntKind.u64.wrap (64 - IntKind.u64.wrap (cntI v))) (by decide) v hv.1 hv.2, ?_⟩
    conv => whnf
    refine ⟨each 85 (fun v => (0 : Int) ≤ IntKind.u64.wrap (fromI v)) (by decide) v hv.1 hv.2, ?_⟩
    conv => whnf
    refine RetI.one Try.results11 rfl ?_
    conv => whnf
    refine ⟨_, Sub.refl _, ret_int ?_, rfl⟩
    exact each 85 (fun v => IntKind.u64.wrap ((18446744073709551615 : Int).fdiv (2 ^ min (IntKind.u64.wrap (64 - IntKind.u64.wrap (cntI v))).toNat 64) * 2 ^ min (IntKind.u64.wrap (fromI v)).toNat 64) = maskI v) (by decide) v hv.1 hv.2

/-! ### The reference's ways up -/
theorem rparent_ok (F : Mem) (v : Int) : FT Try.prog 23 [.int .i64 v].toArray F [] (Ret (.int .i64 (parentI v))) := by
  refine FT.of_body Try.func23 rfl Try.ntmps23 (by simp) fun C hC => ?_
  conv => whnf
  repeat' (first | (refine cond_dec (fun h => ?_) (fun h => ?_)) | (conv => whnf); (first | (refine RetI.one Try.results23 rfl ?_) | (refine cond_dec (fun h => ?_) (fun h => ?_))))
  · conv => whnf
    exact ⟨_, Sub.refl _, ret_int (by simp [parentI, h]), rfl⟩
  · conv => whnf
    rename_i h1
    exact ⟨_, Sub.refl _, ret_int (by simp only [parentI, if_neg h1, if_pos h]), rfl⟩
  · rename_i h1
    have hp : parentI v = (v - 1) / 4 := by simp only [parentI, if_neg h1, if_neg h]
    refine LoopI.by_state (σ := Nat) (fun p => [(0, .int .i64 v), (3, .int .i64 (p : Int))]) (fun _ => []) (fun p => p ≤ 21 ∧ 4 * (p : Int) + 1 ≤ v) (fun p => 21 - p) 0 (by omega) ⟨rfl, rfl, trivial⟩ (Sub.refl _) ?_
    rintro p f0 ⟨hs, hpv⟩
    conv => whnf
    refine cond_dec (fun h2 => ?_) (fun h2 => ?_)
    · conv => whnf
      refine LoopI.by_state (σ := Nat) (fun i => [(0, .int .i64 v), (3, .int .i64 (p : Int)), (4, .int .i64 (i : Int))]) (fun _ => []) (fun i => i ≤ 4 ∧ 4 * (p : Int) + 1 + i ≤ v) (fun i => 4 - i) 0 (by omega) ⟨rfl, rfl, rfl, trivial⟩ (Sub.refl _) ?_
      rintro i f1 ⟨hi, hiv⟩
      conv => whnf
      refine cond_dec (fun h3 => ?_) (fun h3 => ?_)
      · conv => whnf
        refine CallS.mk Try.call24 ⟨[], _, _, Sub.split [] rfl, fun F' _ => rchild_ok F' p i, ?_⟩
        rintro e A' ⟨rfl, rfl⟩
        conv => whnf
        have hc : childI (p : Int) (i : Int) = 4 * p + 1 + i := by unfold childI; rw [if_neg (by omega), if_neg (by omega), if_neg (by omega), if_neg (by omega)]
        refine cond_dec (fun h4 => ?_) (fun h4 => ?_)
        · conv => whnf
          refine RetI.one Try.results23 rfl ?_
          conv => whnf
          refine ⟨_, Sub.refl _, ret_int ?_, rfl⟩
          rw [hc] at h4; omega
        · conv => whnf
          rw [hc] at h4
          refine ⟨i + 1, [], by omega, Sub.refl _, by omega, ⟨rfl, rfl, ?_, trivial⟩, rfl⟩
          have : IntKind.i64.wrap ((i : Int) + 1) = ((i + 1 : Nat) : Int) := by rw [IntWalk.i64_in _ (by omega)]; omega
          exact congrArg (Value.int .i64) this
      · conv => whnf
        refine ⟨p + 1, [], by omega, Sub.refl _, by omega, ⟨rfl, ?_, trivial⟩, rfl⟩
        have : IntKind.i64.wrap ((p : Int) + 1) = ((p + 1 : Nat) : Int) := by rw [IntWalk.i64_in _ (by omega)]; omega
        exact congrArg (Value.int .i64) this
    · conv => whnf
      exfalso; omega
end Go.Proofs.Ytebhhfojiiohpaa
