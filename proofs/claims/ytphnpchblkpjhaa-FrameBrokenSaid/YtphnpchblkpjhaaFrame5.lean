/- The law of blocks, as a contract. -/
import Derived.Test.YtphnpchblkpjhaaFrame4
namespace Go.Proofs.Ytphnpchblkpjhaa
set_option linter.unusedVariables false
set_option linter.unusedSimpArgs false
set_option maxRecDepth 100000
open SL Go.RowKit Go.Maps

theorem piece_eq {a b c a' b' c' : Int} {d d' : ByteArray} : cellsEq [.int .i64 a, .int .i64 b, .int .i64 c, .string d] [.int .i64 a', .int .i64 b', .int .i64 c', .string d'] = decide (a = a' ∧ b = b' ∧ c = c' ∧ d = d') := by
  simp only [cellsEq, vEq, Bool.and_true, toList_beq]
  rw [Bool.eq_iff_iff]
  simp
set_option maxHeartbeats 4000000 in
theorem blocks_ok (F : Mem) (n sq pt ps : Int) (d s : ByteArray) (hs : s.size ≤ 9223372036854775807) :
    FT Try.prog 5 [.int .i64 n, pieceV sq pt ps d, .string s].toArray F [] (Ret (.bool true)) := by
  refine FT.of_body Try.func5 rfl Try.ntmps5 (by simp) fun C hC => ?_
  subst hC
  conv => whnf
  intro b
  conv => whnf
  refine CallS.mk Try.call9 ⟨[], _, _, Sub.refl _, fun F' hF' => lives06_ok F', ?_⟩
  rintro e A' ⟨rfl, rfl⟩
  conv => whnf
  refine CallS.mk Try.call15 ⟨[], _, _, Sub.refl _, fun F' hF' => parts_ok F' n, ?_⟩
  rintro e A' ⟨rfl, rfl⟩
  conv => whnf
  refine CallS.mk Try.call16 ⟨[], _, _, Sub.refl _, fun F' hF' => rparts_ok F' n, ?_⟩
  rintro e A' ⟨rfl, rfl⟩
  generalize partsI n = m
  conv => whnf
  refine cond_of_false (bne_self_eq_false _) ?_
  conv => whnf
  refine LoadV.a _ rfl (Nat.le_of_ble_eq_true rfl) ?_
  conv => whnf
  refine CallS.mk Try.call17 ⟨[], _, _, Sub.refl _, fun F' hF' => block_ok F' sq pt ps d, ?_⟩
  rintro e A' ⟨rfl, rfl⟩
  conv => whnf
  refine LoadV.a _ rfl (Nat.le_of_ble_eq_true rfl) ?_
  conv => whnf
  refine CallS.mk Try.call18 ⟨[], _, _, Sub.refl _, fun F' hF' => rblock_ok F' sq pt ps d, ?_⟩
  rintro e A' ⟨rfl, rfl⟩
  generalize blockR sq pt ps d = R
  obtain ⟨x, er⟩ := R
  dsimp only
  conv => whnf
  rw [show (!(x.toList == x.toList)) = false by rw [show (x.toList == x.toList) = true from beq_self_eq_true _]; rfl]
  conv => whnf
  refine cond_of_false (bne_self_eq_false _) ?_
  conv => whnf
  have hT : (unbR s).2 = 0 → blockR (unbR s).1.1 (unbR s).1.2.1 (unbR s).1.2.2.1 (unbR s).1.2.2.2 = (s, 0) := by
    intro h
    by_cases ht : Taken s
    · rw [unb_yes ht]; exact ht.2.2
    · rw [unb_no ht] at h; cases h
  have hc1 := fun (F' : Mem) => unblock_ok F' s hs
  have hc2 := fun (F' : Mem) => runblock_ok F' s hs
  generalize unbR s = U at hT hc1 hc2
  obtain ⟨⟨a1, a2, a3, a4⟩, e2⟩ := U
  dsimp only at hT hc1 hc2
  refine CallS.mk Try.call19 ⟨[], _, _, Sub.refl _, fun F' hF' => hc1 F', ?_⟩
  rintro e A' ⟨rfl, rfl⟩
  conv => whnf
  intro b2
  conv => whnf
  refine StoreV.c rfl rfl (Nat.le_of_ble_eq_true rfl) rfl ?_
  conv => whnf
  refine CallS.mk Try.call20 ⟨[], _, _, Sub.refl _, fun F' hF' => hc2 F', ?_⟩
  rintro e A' ⟨rfl, rfl⟩
  conv => whnf
  intro b3
  conv => whnf
  refine StoreV.c rfl rfl (Nat.le_of_ble_eq_true rfl) rfl ?_
  conv => whnf
  refine LoadV.a _ rfl (Nat.le_of_ble_eq_true rfl) ?_
  conv => whnf
  refine LoadV.a _ rfl (Nat.le_of_ble_eq_true rfl) ?_
  conv => whnf
  refine EqV.neq (d := 3) (ks := [.i .i64, .i .i64, .i .i64, .s]) (by kernel_rfl) rfl (by kernel_rfl) rfl rfl rfl ?_
  rw [piece_eq, decide_eq_true ⟨rfl, rfl, rfl, rfl⟩]
  conv => whnf
  refine cond_of_false (bne_self_eq_false _) ?_
  conv => whnf
  refine cond_split (fun h => ?_) (fun h => ?_)
  · have he : e2 = 0 := eq_of_beq h
    have hb := hT he
    have hk := fun (F' : Mem) => block_ok F' (a1 : Nat) (a2 : Nat) (a3 : Nat) a4
    rw [hb] at hk
    conv => whnf
    refine LoadV.a _ rfl (Nat.le_of_ble_eq_true rfl) ?_
    conv => whnf
    refine CallS.mk Try.call17 ⟨[], _, _, Sub.refl _, fun F' hF' => hk F', ?_⟩
    rintro e A' ⟨rfl, rfl⟩
    conv => whnf
    repeat (first | (refine LoadV.s rfl rfl (forceV_of ?_); conv => whnf) | (refine LoadV.s rfl rfl ?_; conv => whnf) | (refine StoreV.c rfl rfl (Nat.le_of_ble_eq_true rfl) rfl ?_; conv => whnf) | (refine LoadV.a _ rfl (Nat.le_of_ble_eq_true rfl) ?_; conv => whnf) | (refine DrawI.quiet (by kernel_rfl) (by kernel_rfl) ?_; conv => whnf) | (refine ArI.in64 (by omega) ?_; conv => whnf) | (refine ArI.inU8 (by omega) ?_; conv => whnf) | (refine ArI.inU64 (by omega) ?_; conv => whnf) | (refine ArI.inU32 (by omega) ?_; conv => whnf) | (refine RetI.one Try.results5 rfl ?_; conv => whnf) | (refine RetI.two Try.results5 rfl rfl ?_; conv => whnf) | (refine RetI.three Try.results5 rfl rfl rfl ?_; conv => whnf) | (refine RetI.none Try.results5 ?_; conv => whnf) | (refine ⟨by first | decide | omega, ?_⟩; conv => whnf))
    exact ⟨_, Sub.sel [] rfl, ret_bool (beq_self_eq_true _), rfl⟩
  · conv => whnf
    repeat (first | (refine LoadV.s rfl rfl (forceV_of ?_); conv => whnf) | (refine LoadV.s rfl rfl ?_; conv => whnf) | (refine StoreV.c rfl rfl (Nat.le_of_ble_eq_true rfl) rfl ?_; conv => whnf) | (refine LoadV.a _ rfl (Nat.le_of_ble_eq_true rfl) ?_; conv => whnf) | (refine DrawI.quiet (by kernel_rfl) (by kernel_rfl) ?_; conv => whnf) | (refine ArI.in64 (by omega) ?_; conv => whnf) | (refine ArI.inU8 (by omega) ?_; conv => whnf) | (refine ArI.inU64 (by omega) ?_; conv => whnf) | (refine ArI.inU32 (by omega) ?_; conv => whnf) | (refine RetI.one Try.results5 rfl ?_; conv => whnf) | (refine RetI.two Try.results5 rfl rfl ?_; conv => whnf) | (refine RetI.three Try.results5 rfl rfl rfl ?_; conv => whnf) | (refine RetI.none Try.results5 ?_; conv => whnf) | (refine ⟨by first | decide | omega, ?_⟩; conv => whnf))
    exact ⟨_, Sub.sel [] rfl, rfl, rfl⟩
end Go.Proofs.Ytphnpchblkpjhaa
