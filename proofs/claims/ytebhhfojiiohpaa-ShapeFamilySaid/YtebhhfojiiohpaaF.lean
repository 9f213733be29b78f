/- The laws of the tree's shape, as contracts. -/
import Derived.Test.YtebhhfojiiohpaaD
import Derived.Test.YtebhhfojiiohpaaE
namespace Go.Proofs.Ytebhhfojiiohpaa
open SL Go.RowKit

theorem lives_ok (F : Mem) : FT Try.prog 10 [].toArray F [] (Ret (.bool true)) := by
  refine FT.of_body Try.func10 rfl Try.ntmps10 (by simp) fun C hC => ?_
  conv => whnf
  refine CallS.mk Try.call31 ⟨[], _, _, Sub.split [] rfl, fun F' _ => path_ok F' 37, ?_⟩
  rintro e A' ⟨rfl, rfl⟩
  conv => whnf
  intro b
  conv => whnf
  refine StoreV.c rfl rfl (Nat.le_of_ble_eq_true rfl) rfl ?_
  conv => whnf
  refine LoadV.a 3 rfl (Nat.le_of_ble_eq_true rfl) ?_
  conv => whnf
  refine EqV.eql (d := 3) (ks := [.i .i64, .i .i64, .i .i64]) (by kernel_rfl) rfl (by kernel_rfl) rfl rfl rfl ?_
  conv => whnf
  refine CallS.mk Try.call11 ⟨[], _, _, Sub.split [] rfl, fun F' _ => mask_ok F' 5, ?_⟩
  rintro e A' ⟨rfl, rfl⟩
  conv => whnf
  refine CallS.mk Try.call17 ⟨[], _, _, Sub.split [] rfl, fun F' _ => meet_ok F' 21 25, ?_⟩
  rintro e A' ⟨rfl, rfl⟩
  conv => whnf
  refine RetI.one Try.results10 rfl ?_
  conv => whnf
  exact ⟨_, Sub.sel [] rfl, rfl, rfl⟩
theorem masks_ok (F : Mem) (v m : Int) (h0 : 0 ≤ m) (h1 : m < 18446744073709551616) : FT Try.prog 3 [.int .i64 v, .int .u64 m].toArray F [] (Ret (.bool true)) := by
  refine FT.of_body Try.func3 rfl Try.ntmps3 (by simp) fun C hC => ?_
  conv => whnf
  refine CallS.mk Try.call10 ⟨[], _, _, Sub.split [] rfl, fun F' _ => lives_ok F', ?_⟩
  rintro e A' ⟨rfl, rfl⟩
  conv => whnf
  refine CallS.mk Try.call11 ⟨[], _, _, Sub.split [] rfl, fun F' _ => mask_ok F' v, ?_⟩
  rintro e A' ⟨rfl, rfl⟩
  conv => whnf
  refine CallS.mk Try.call12 ⟨[], _, _, Sub.split [] rfl, fun F' _ => rmask_ok F' v, ?_⟩
  rintro e A' ⟨rfl, rfl⟩
  conv => whnf
  rw [show (maskI v == maskI v) = true from beq_self_eq_true _]
  conv => whnf
  refine CallS.mk Try.call13 ⟨[], _, _, Sub.split [] rfl, fun F' _ => above_ok F' m h0 h1, ?_⟩
  rintro e A' ⟨rfl, rfl⟩
  conv => whnf
  refine CallS.mk Try.call14 ⟨[], _, _, Sub.split [] rfl, fun F' _ => rabove_ok F' m h0 h1, ?_⟩
  rintro e A' ⟨rfl, rfl⟩
  conv => whnf
  rw [show (((aboveTo m 21 : Nat) : Int) == ((aboveTo m 21 : Nat) : Int)) = true from beq_self_eq_true _]
  refine RetI.one Try.results3 rfl ?_
  conv => whnf
  exact ⟨_, Sub.refl _, rfl, rfl⟩
end Go.Proofs.Ytebhhfojiiohpaa
