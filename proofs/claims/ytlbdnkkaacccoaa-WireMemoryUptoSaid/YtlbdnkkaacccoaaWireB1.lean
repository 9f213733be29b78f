/- The law of messages: their bytes. -/
import Derived.Test.YtlbdnkkaacccoaaWireR6
namespace Go.Proofs.Ytlbdnkkaacccoaa
set_option linter.unusedVariables false
set_option linter.unusedSimpArgs false
set_option maxRecDepth 100000
open SL Go.RowKit Go.Maps
set_option maxHeartbeats 4000000 in
theorem bytes_ok14 (F : Mem) (m : Msg) (s : Sls) (text : ByteArray) (hr : Rows14 F m s) (hz : Sz m) (hs : text.size ≤ 4398046511104) : FT Try.prog 3 [.agg (msgL m s).toArray, .string text].toArray F [] (Ret (.bool true)) := by
  refine FT.of_body Try.func3 rfl Try.ntmps3 (by simp) fun C hC => ?_
  subst hC
  conv => whnf
  intro p
  conv => whnf
  refine DrawI.mixed [0, 2, 4, 6] [_] (by kernel_rfl) (by kernel_rfl) (by kernel_rfl) (by kernel_rfl) (by kernel_rfl) (Sub.sel [0] rfl) ?_
  conv => whnf
  refine CallS.mk Try.call8 ⟨[], _, _, Sub.refl _, fun F' hF' => lives14_ok F', ?_⟩
  rintro e A' ⟨rfl, rfl⟩
  conv => whnf
  refine ⟨Sub.sel [0] rfl, ?_⟩
  conv => whnf
  refine ⟨Sub.sel [0] rfl, ?_⟩
  conv => whnf
  refine LoadV.a 26 rfl (Nat.le_of_ble_eq_true rfl) ?_
  conv => whnf
  refine CallS.mk Try.call9 ⟨[], [_], _, Sub.sel [0] rfl, fun F' hF' => good_ok F' m s (hr.ext hF'.F) hz, ?_⟩
  rintro e A' ⟨rfl, rfl⟩
  conv => whnf
  refine ⟨Sub.sel [0] rfl, ?_⟩
  conv => whnf
  refine LoadV.a 26 rfl (Nat.le_of_ble_eq_true rfl) ?_
  conv => whnf
  refine CallS.mk Try.call10 ⟨[], [_], _, Sub.sel [0] rfl, fun F' hF' => rgood_ok F' m s (hr.ext hF'.F) hz, ?_⟩
  rintro e A' ⟨rfl, rfl⟩
  conv => whnf
  refine ⟨Sub.sel [0] rfl, ?_⟩
  conv => whnf
  rw [show (goodB m == goodB m) = true from beq_self_eq_true _]
  conv => whnf
  refine LoadV.a 26 rfl (Nat.le_of_ble_eq_true rfl) ?_
  conv => whnf
  refine CallS.mk Try.call11 ⟨[], [_], _, Sub.sel [0] rfl, fun F' hF' => enc_ok F' m s (hr.ext hF'.F) hz, ?_⟩
  obtain ⟨y, hy⟩ : ∃ y, y = encV m := ⟨_, rfl⟩
  rw [← hy]
  rintro e A' ⟨rfl, rfl⟩
  conv => whnf
  refine LoadV.a 26 rfl (Nat.le_of_ble_eq_true rfl) ?_
  conv => whnf
  refine CallS.mk Try.call12 ⟨[], [_], _, Sub.sel [0] rfl, fun F' hF' => renc_ok F' m s (hr.ext hF'.F) hz, ?_⟩
  rw [← hy]
  rintro e A' ⟨rfl, rfl⟩
  conv => whnf
  rw [show (y.1.toList == y.1.toList) = true from beq_self_eq_true _]
  conv => whnf
  rw [show (y.2 != y.2) = false by simp]
  conv => whnf
  refine CallS.mk Try.call13 ⟨[], [], _, Sub.sel [] rfl, fun F' hF' => dec_ok F' text (by omega), ?_⟩
  have hdz := dec_sz text
  obtain ⟨d, hd⟩ : ∃ d, d = decV text := ⟨_, rfl⟩
  rw [← hd] at hdz ⊢
  obtain ⟨x, ex⟩ := d
  rintro e A' ⟨gL, gJ, gI, hat, rfl, rfl⟩
  dsimp only at hat hdz
  conv => whnf
  intro q
  conv => whnf
  refine StoreV.c rfl rfl (Nat.le_of_ble_eq_true rfl) rfl ?_
  conv => whnf
  refine CallS.mk Try.call14 ⟨[], [_, _, _, _], _, Sub.sel [0, 1, 2, 3] rfl, fun F' hF' => rdec_ok F' text hs, ?_⟩
  rw [← hd]
  rintro e A' ⟨hL, hJ, hI, hat2, rfl, rfl⟩
  dsimp only at hat2
  conv => whnf
  intro c
  conv => whnf
  refine StoreV.c rfl rfl (Nat.le_of_ble_eq_true rfl) rfl ?_
  conv => whnf
  refine LoadV.a 26 rfl (Nat.le_of_ble_eq_true rfl) ?_
  conv => whnf
  refine LoadV.a 26 rfl (Nat.le_of_ble_eq_true rfl) ?_
  conv => whnf
  refine CallS.mk Try.call15 ⟨[], _, _, Sub.refl _, fun F' hF' => same14_ok F' x x (slsOf gL gJ gI) (slsOf hL hJ hI) (own_rows hF' hat) (own_rows hF' hat2) hdz, ?_⟩
  rw [sameB_iff.2 rfl]
  rintro e A' ⟨rfl, rfl⟩
  conv => whnf
  rw [show (ex == ex) = true from beq_self_eq_true _]
  conv => whnf
  repeat (first | (refine LoadV.s rfl rfl (forceV_of ?_); conv => whnf) | (refine LoadV.s rfl rfl ?_; conv => whnf) | (refine StoreV.c rfl rfl (Nat.le_of_ble_eq_true rfl) rfl ?_; conv => whnf) | (refine LoadV.a _ rfl (Nat.le_of_ble_eq_true rfl) ?_; conv => whnf) | (refine DrawI.quiet (by kernel_rfl) (by kernel_rfl) ?_; conv => whnf) | (refine ArI.in64 (by omega) ?_; conv => whnf) | (refine ArI.inU8 (by omega) ?_; conv => whnf) | (refine ArI.inU64 (by omega) ?_; conv => whnf) | (refine ArI.inU32 (by omega) ?_; conv => whnf) | (refine RetI.one Try.results3 rfl ?_; conv => whnf) | (refine RetI.two Try.results3 rfl rfl ?_; conv => whnf) | (refine RetI.three Try.results3 rfl rfl rfl ?_; conv => whnf) | (refine RetI.none Try.results3 ?_; conv => whnf) | (refine ⟨by first | decide | omega, ?_⟩; conv => whnf))
  exact ⟨_, Sub.sel [] rfl, rfl, rfl⟩
end Go.Proofs.Ytlbdnkkaacccoaa
