/- The sum's digits; the layer lives. -/
import Derived.Test.YtigbpmiemlejaaaDoorSum2
import Derived.Test.YtigbpmiemlejaaaDoorShelf
namespace Go.Proofs.YtigbpmiemlejaaaDoor
set_option linter.unusedVariables false
set_option linter.unusedSimpArgs false
open SL Go.RowKit Go.Maps

theorem rep_bytes (x : Nat) : ∀ c : Nat, (⟨(Lib.repeatL (strB [x]).data.toList c).toArray⟩ : ByteArray) = strB (List.replicate c x)
  | 0 => rfl
  | c + 1 => by
    have ih := rep_bytes x c
    have e : Lib.repeatL (strB [x]).data.toList c = (List.replicate c x).map UInt8.ofNat := by
      have := congrArg (fun b : ByteArray => b.data.toList) ih
      simpa [strB] using this
    rw [Lib.repeatL, e]
    simp [strB, List.replicate_succ]
theorem repeat_ok (F : Mem) (x c : Nat) (hc : c ≤ 140737488355328) : FT Tryd.prog 21 [.string (strB [x]), .int .i64 (c : Int)].toArray F [] (Ret (.string (strB (List.replicate c x)))) :=
  FT.of_below fun w _ => by
    have := Tryd.strings_Repeat (strB [x]) c w (by omega) (by rw [strB_size]; simpa using hc)
    rwa [rep_bytes] at this
theorem hexMin8 (n : Nat) (hn : n < 4294967296) : (hexMin n).length ≤ 8 ∧ hexL 8 n = List.replicate (8 - (hexMin n).length) 48 ++ hexMin n := hexMin_L 7 n hn
theorem hex_ok (F : Mem) (ht : Tab F) (n : Nat) (hn : n < 4294967296) : FT Tryd.prog 17 [.int .u32 (n : Int)].toArray F [] (Ret (.string (strB (hexL 8 n)))) := by
  have h8 := hexMin8 n hn
  refine FT.of_body Tryd.func17 rfl Tryd.ntmps17 (by simp) fun C hC => ?_
  subst hC
  conv => whnf
  refine ArI.inU64 (by omega) ?_
  conv => whnf
  refine CallS.mk Tryd.call20 ⟨[], _, _, Sub.refl _, fun F' hF' => fmt_ok F' (ht.ext hF') n (by omega), ?_⟩
  rintro e A' ⟨rfl, rfl⟩
  generalize hexMin n = m at h8 ⊢
  conv => whnf
  rw [strB_size]
  refine ArI.to64 ((8 - m.length : Nat) : Int) (by omega) (by omega) ?_
  conv => whnf
  refine CallS.mk Tryd.call21 ⟨[], _, _, Sub.refl _, fun F' hF' => (repeat_ok F' 48 (8 - m.length) (by omega)), ?_⟩
  rintro e A' ⟨rfl, rfl⟩
  conv => whnf
  refine ⟨by rw [strB_size, strB_size]; simp; omega, ?_⟩
  rw [strB_append, ← h8.2]
  conv => whnf
  repeat (first | (refine LoadV.s rfl rfl (forceV_of ?_); conv => whnf) | (refine LoadV.s rfl rfl ?_; conv => whnf) | (refine StoreV.c rfl rfl (Nat.le_of_ble_eq_true rfl) rfl ?_; conv => whnf) | (refine LoadV.a _ rfl (Nat.le_of_ble_eq_true rfl) ?_; conv => whnf) | (refine DrawI.quiet (by kernel_rfl) (by kernel_rfl) ?_; conv => whnf) | (refine ArI.in64 (by omega) ?_; conv => whnf) | (refine ArI.inU8 (by omega) ?_; conv => whnf) | (refine ArI.inU64 (by omega) ?_; conv => whnf) | (refine ArI.inU32 (by omega) ?_; conv => whnf) | (refine RetI.one Tryd.results17 rfl ?_; conv => whnf) | (refine RetI.two Tryd.results17 rfl rfl ?_; conv => whnf) | (refine RetI.three Tryd.results17 rfl rfl rfl ?_; conv => whnf) | (refine RetI.none Tryd.results17 ?_; conv => whnf) | (refine ⟨by first | decide | omega, ?_⟩; conv => whnf))
  exact ⟨_, Sub.refl _, rfl, rfl⟩
theorem lives04_ok (F : Mem) (ht : Tab F) : FT Tryd.prog 8 [].toArray F [] (Ret (.bool true)) := by
  refine FT.of_body Tryd.func8 rfl Tryd.ntmps8 (by simp) fun C hC => ?_
  subst hC
  conv => whnf
  obtain ⟨x1, hx1⟩ : ∃ x : ByteArray, x = ⟨#[48, 48, 48, 48, 48, 48, 48, 49]⟩ := ⟨_, rfl⟩
  obtain ⟨x2, hx2⟩ : ∃ x : ByteArray, x = ⟨#[1, 2, 3, 4]⟩ := ⟨_, rfl⟩
  have e1 : strB (hexL 8 1) = x1 := by rw [hx1]; decide +kernel
  have e2 : strB (bytesN 16909060) = x2 := by rw [hx2]; decide +kernel
  have e0 : extN 0 (txt ⟨#[49, 50, 51, 52, 53, 54, 55, 56, 57]⟩) = 3421780262 := by decide +kernel
  rw [← hx1, ← hx2]
  refine CallS.mk Tryd.call10 ⟨[], _, _, Sub.refl _, fun F' hF' => sum_ok F' ⟨#[49, 50, 51, 52, 53, 54, 55, 56, 57]⟩ (by decide), ?_⟩
  rw [e0]
  rintro e A' ⟨rfl, rfl⟩
  conv => whnf
  refine CallS.mk Tryd.call17 ⟨[], _, _, Sub.refl _, fun F' hF' => hex_ok F' (ht.ext hF') 1 (by decide), ?_⟩
  rw [e1]
  rintro e A' ⟨rfl, rfl⟩
  conv => whnf
  rw [show (x1.toList == x1.toList) = true from beq_self_eq_true _]
  conv => whnf
  refine CallS.mk Tryd.call15 ⟨[], _, _, Sub.refl _, fun F' hF' => bytes_ok F' 16909060 (by decide), ?_⟩
  rw [e2]
  rintro e A' ⟨rfl, rfl⟩
  conv => whnf
  rw [show (x2.toList == x2.toList) = true from beq_self_eq_true _]
  conv => whnf
  repeat (first | (refine LoadV.s rfl rfl (forceV_of ?_); conv => whnf) | (refine LoadV.s rfl rfl ?_; conv => whnf) | (refine StoreV.c rfl rfl (Nat.le_of_ble_eq_true rfl) rfl ?_; conv => whnf) | (refine LoadV.a _ rfl (Nat.le_of_ble_eq_true rfl) ?_; conv => whnf) | (refine DrawI.quiet (by kernel_rfl) (by kernel_rfl) ?_; conv => whnf) | (refine ArI.in64 (by omega) ?_; conv => whnf) | (refine ArI.inU8 (by omega) ?_; conv => whnf) | (refine ArI.inU64 (by omega) ?_; conv => whnf) | (refine ArI.inU32 (by omega) ?_; conv => whnf) | (refine RetI.one Tryd.results8 rfl ?_; conv => whnf) | (refine RetI.two Tryd.results8 rfl rfl ?_; conv => whnf) | (refine RetI.three Tryd.results8 rfl rfl rfl ?_; conv => whnf) | (refine RetI.none Tryd.results8 ?_; conv => whnf) | (refine ⟨by first | decide | omega, ?_⟩; conv => whnf))
  exact ⟨_, Sub.sel [] rfl, rfl, rfl⟩
end Go.Proofs.YtigbpmiemlejaaaDoor
