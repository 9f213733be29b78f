/- The laws of messages: lives, unlike messages, messages that come back. -/
import Derived.Test.YtlbdnkkaacccoaaWire11
import Derived.Test.YtlbdnkkaacccoaaWireLaw2
namespace Go.Proofs.Ytlbdnkkaacccoaa
set_option linter.unusedVariables false
set_option linter.unusedSimpArgs false
set_option maxRecDepth 100000
open SL Go.RowKit Go.Maps
def ex1 : Msg := { zMsg with kind := 2, qw := 1, qe := 3 }
def ex2 : Msg := { zMsg with kind := 4, se := 2, sb := 1, ss := 2, tx := ⟨#[65]⟩ }
theorem ex1_enc : encT ex1 = ⟨#[64, 64, 192]⟩ := by kernel_rfl
theorem ex2_enc : encT ex2 = ⟨#[192, 128, 0, 64, 128, 160, 128]⟩ := by kernel_rfl
theorem ex1_good : goodB ex1 = true := by
  have h : e3 ex1 = true := by simp [e3, ex1, zMsg, seV, zeros, cellsEq, vEq, List.replicate]
  unfold goodB
  rw [h]
  rfl
theorem ex2_good : goodB ex2 = true := by kernel_rfl
theorem ex1_sz : Sz ex1 := ⟨Nat.zero_le _, Nat.zero_le _, Nat.zero_le _, Nat.zero_le _⟩
theorem lives14_ok (F : Mem) : FT Try.prog 8 [].toArray F [] (Ret (.bool true)) := by
  refine FT.of_body Try.func8 rfl Try.ntmps8 (by simp) fun C hC => ?_
  subst hC
  conv => whnf
  refine CallS.mk Try.call11 ⟨[], _, _, Sub.refl _, fun F' hF' => enc_ok F' ex1 zSls (show Rows14 F' ex1 zSls from ⟨SlF.nil, SlF.nil, SlF.nil⟩) ex1_sz, ?_⟩
  rw [encV_good ex1_good]
  obtain ⟨x, hx⟩ : ∃ x, x = encT ex1 := ⟨_, rfl⟩
  rw [← hx]
  rintro e A' ⟨rfl, rfl⟩
  conv => whnf
  refine CallS.mk Try.call13 ⟨[], _, _, Sub.refl _, fun F' hF' => dec_ok F' ⟨#[192, 128, 0, 64, 128, 160, 128]⟩ (by decide), ?_⟩
  have h2 : decV ⟨#[192, 128, 0, 64, 128, 160, 128]⟩ = (ex2, 0) := by rw [← ex2_enc]; exact dec_enc ex2_good
  rw [h2]
  rintro e A' ⟨gL, gJ, gI, hat, rfl, rfl⟩
  conv => whnf
  intro b
  conv => whnf
  refine StoreV.c rfl rfl (Nat.le_of_ble_eq_true rfl) rfl ?_
  conv => whnf
  rw [show ((x, (0 : Int)).fst.toList == (⟨#[64, 64, 192]⟩ : ByteArray).toList) = true by rw [toList_beq]; exact decide_eq_true (hx.trans ex1_enc)]
  conv => whnf
  refine LoadV.s rfl rfl ?_
  conv => whnf
  refine LoadV.a 4 rfl (Nat.le_of_ble_eq_true rfl) ?_
  conv => whnf
  refine eqlAs (d := 10) (ks := [.i .i64, .i .i64, .i .i64, .s]) (xs := [.int .i64 2, .int .i64 1, .int .i64 2, .string ⟨#[65]⟩]) (ys := [.int .i64 2, .int .i64 1, .int .i64 2, .string ⟨#[65]⟩]) true (by simp [cellsEq, vEq]) (by kernel_rfl) rfl (by kernel_rfl) rfl rfl rfl ?_
  conv => whnf
  repeat (first | (refine LoadV.s rfl rfl (forceV_of ?_); conv => whnf) | (refine LoadV.s rfl rfl ?_; conv => whnf) | (refine StoreV.c rfl rfl (Nat.le_of_ble_eq_true rfl) rfl ?_; conv => whnf) | (refine LoadV.a _ rfl (Nat.le_of_ble_eq_true rfl) ?_; conv => whnf) | (refine DrawI.quiet (by kernel_rfl) (by kernel_rfl) ?_; conv => whnf) | (refine ArI.in64 (by omega) ?_; conv => whnf) | (refine ArI.inU8 (by omega) ?_; conv => whnf) | (refine ArI.inU64 (by omega) ?_; conv => whnf) | (refine ArI.inU32 (by omega) ?_; conv => whnf) | (refine RetI.one Try.results8 rfl ?_; conv => whnf) | (refine RetI.two Try.results8 rfl rfl ?_; conv => whnf) | (refine RetI.three Try.results8 rfl rfl rfl ?_; conv => whnf) | (refine RetI.none Try.results8 ?_; conv => whnf) | (refine ⟨by first | decide | omega, ?_⟩; conv => whnf))
  exact ⟨_, Sub.sel [] rfl, rfl, rfl⟩
theorem unlike_ok (F : Mem) (a b : Msg) (s t : Sls) (ha : Rows14 F a s) (hb : Rows14 F b t) (za : Sz a) (zb : Sz b) : FT Try.prog 6 [.agg (msgL a s).toArray, .agg (msgL b t).toArray].toArray F [] (Ret (.bool true)) := by
  refine FT.of_body Try.func6 rfl Try.ntmps6 (by simp) fun C hC => ?_
  subst hC
  conv => whnf
  intro p
  conv => whnf
  intro q
  conv => whnf
  refine CallS.mk Try.call8 ⟨[], _, _, Sub.refl _, fun F' hF' => lives14_ok F', ?_⟩
  rintro e A' ⟨rfl, rfl⟩
  conv => whnf
  refine LoadV.a 26 rfl (Nat.le_of_ble_eq_true rfl) ?_
  conv => whnf
  refine CallS.mk Try.call11 ⟨[], _, _, Sub.refl _, fun F' hF' => enc_ok F' a s (ha.ext hF'.F) za, ?_⟩
  obtain ⟨x, hx⟩ : ∃ x, x = encV a := ⟨_, rfl⟩
  rw [← hx]
  obtain ⟨x, ex⟩ := x
  rintro e A' ⟨rfl, rfl⟩
  conv => whnf
  refine LoadV.a 26 rfl (Nat.le_of_ble_eq_true rfl) ?_
  conv => whnf
  refine CallS.mk Try.call11 ⟨[], _, _, Sub.refl _, fun F' hF' => enc_ok F' b t (hb.ext hF'.F) zb, ?_⟩
  obtain ⟨y, hy⟩ : ∃ y, y = encV b := ⟨_, rfl⟩
  rw [← hy]
  obtain ⟨y, ey⟩ := y
  rintro e A' ⟨rfl, rfl⟩
  cases ga : goodB a with
  | false =>
    rw [encV_bad ga] at hx
    cases hx
    conv => whnf
    repeat (first | (refine LoadV.s rfl rfl (forceV_of ?_); conv => whnf) | (refine LoadV.s rfl rfl ?_; conv => whnf) | (refine StoreV.c rfl rfl (Nat.le_of_ble_eq_true rfl) rfl ?_; conv => whnf) | (refine LoadV.a _ rfl (Nat.le_of_ble_eq_true rfl) ?_; conv => whnf) | (refine DrawI.quiet (by kernel_rfl) (by kernel_rfl) ?_; conv => whnf) | (refine ArI.in64 (by omega) ?_; conv => whnf) | (refine ArI.inU8 (by omega) ?_; conv => whnf) | (refine ArI.inU64 (by omega) ?_; conv => whnf) | (refine ArI.inU32 (by omega) ?_; conv => whnf) | (refine RetI.one Try.results6 rfl ?_; conv => whnf) | (refine RetI.two Try.results6 rfl rfl ?_; conv => whnf) | (refine RetI.three Try.results6 rfl rfl rfl ?_; conv => whnf) | (refine RetI.none Try.results6 ?_; conv => whnf) | (refine ⟨by first | decide | omega, ?_⟩; conv => whnf))
    exact ⟨_, Sub.sel [] rfl, rfl, rfl⟩
  | true =>
    rw [encV_good ga] at hx
    cases gb : goodB b with
    | false =>
      rw [encV_bad gb] at hy
      cases hy
      obtain ⟨rfl, rfl⟩ := Prod.mk.inj hx
      generalize encT a = x
      conv => whnf
      repeat (first | (refine LoadV.s rfl rfl (forceV_of ?_); conv => whnf) | (refine LoadV.s rfl rfl ?_; conv => whnf) | (refine StoreV.c rfl rfl (Nat.le_of_ble_eq_true rfl) rfl ?_; conv => whnf) | (refine LoadV.a _ rfl (Nat.le_of_ble_eq_true rfl) ?_; conv => whnf) | (refine DrawI.quiet (by kernel_rfl) (by kernel_rfl) ?_; conv => whnf) | (refine ArI.in64 (by omega) ?_; conv => whnf) | (refine ArI.inU8 (by omega) ?_; conv => whnf) | (refine ArI.inU64 (by omega) ?_; conv => whnf) | (refine ArI.inU32 (by omega) ?_; conv => whnf) | (refine RetI.one Try.results6 rfl ?_; conv => whnf) | (refine RetI.two Try.results6 rfl rfl ?_; conv => whnf) | (refine RetI.three Try.results6 rfl rfl rfl ?_; conv => whnf) | (refine RetI.none Try.results6 ?_; conv => whnf) | (refine ⟨by first | decide | omega, ?_⟩; conv => whnf))
      exact ⟨_, Sub.sel [] rfl, rfl, rfl⟩
    | true =>
      rw [encV_good gb] at hy
      obtain ⟨hx1, rfl⟩ := Prod.mk.inj hx
      obtain ⟨hy1, rfl⟩ := Prod.mk.inj hy
      conv => whnf
      refine LoadV.a 26 rfl (Nat.le_of_ble_eq_true rfl) ?_
      conv => whnf
      refine LoadV.a 26 rfl (Nat.le_of_ble_eq_true rfl) ?_
      conv => whnf
      refine CallS.mk Try.call15 ⟨[], _, _, Sub.refl _, fun F' hF' => same14_ok F' a b s t (ha.ext hF'.F) (hb.ext hF'.F) za, ?_⟩
      have hs : (x.toList == y.toList) = sameB a b := by
        rw [toList_beq, Bool.eq_iff_iff, decide_eq_true_eq, sameB_iff]
        exact ⟨fun h => enc_inj ga gb (hx1.symm.trans (h.trans hy1)), fun h => by rw [hx1, hy1, h]⟩
      rintro e A' ⟨rfl, rfl⟩
      conv => whnf
      repeat (first | (refine LoadV.s rfl rfl (forceV_of ?_); conv => whnf) | (refine LoadV.s rfl rfl ?_; conv => whnf) | (refine StoreV.c rfl rfl (Nat.le_of_ble_eq_true rfl) rfl ?_; conv => whnf) | (refine LoadV.a _ rfl (Nat.le_of_ble_eq_true rfl) ?_; conv => whnf) | (refine DrawI.quiet (by kernel_rfl) (by kernel_rfl) ?_; conv => whnf) | (refine ArI.in64 (by omega) ?_; conv => whnf) | (refine ArI.inU8 (by omega) ?_; conv => whnf) | (refine ArI.inU64 (by omega) ?_; conv => whnf) | (refine ArI.inU32 (by omega) ?_; conv => whnf) | (refine RetI.one Try.results6 rfl ?_; conv => whnf) | (refine RetI.two Try.results6 rfl rfl ?_; conv => whnf) | (refine RetI.three Try.results6 rfl rfl rfl ?_; conv => whnf) | (refine RetI.none Try.results6 ?_; conv => whnf) | (refine ⟨by first | decide | omega, ?_⟩; conv => whnf))
      exact ⟨_, Sub.sel [] rfl, ret_bool (by rw [hs]; cases sameB a b <;> rfl), rfl⟩
end Go.Proofs.Ytlbdnkkaacccoaa
