/- The digits of a set; the layer lives; Put and Drop change just their slot. -/
import Derived.Test.YtpcefmocphbdgaaDoorSeat6
import Derived.Test.YtpcefmocphbdgaaDoorFmtHex
import Derived.Test.YtpcefmocphbdgaaDoorRep
namespace Go.Proofs.YtpcefmocphbdgaaDoor
set_option linter.unusedVariables false
set_option linter.unusedSimpArgs false
set_option maxRecDepth 100000
open SL Go.RowKit Go.Maps Go.Lib

theorem TabA.tab {F : Mem} (h : TabA F) : Tab F := h 15 (by decide)
theorem hexMin16 (n : Nat) (hn : n < 18446744073709551616) : (hexMin n).length ≤ 16 ∧ hexL 16 n = List.replicate (16 - (hexMin n).length) 48 ++ hexMin n := hexMin_L 15 n hn
theorem hex_ok (F : Mem) (ht : TabA F) (n : Nat) (hn : n < 18446744073709551616) : FT Tryd.prog 28 [.int .u64 (n : Int)].toArray F [] (Ret (.string (strB (hexL 16 n)))) := by
  have h8 := hexMin16 n hn
  refine FT.of_body Tryd.func28 rfl Tryd.ntmps28 (by simp) fun C hC => ?_
  subst hC
  conv => whnf
  refine CallS.mk Tryd.call40 ⟨[], _, _, Sub.refl _, fun F' hF' => fmt_ok F' (ht.ext hF').tab n (by omega), ?_⟩
  rintro e A' ⟨rfl, rfl⟩
  generalize hexMin n = m at h8 ⊢
  conv => whnf
  rw [strB_size]
  refine ArI.to64 ((16 - m.length : Nat) : Int) (by omega) (by omega) ?_
  conv => whnf
  refine CallS.mk Tryd.call41 ⟨[], _, _, Sub.refl _, fun F' hF' => (repeat_ok F' 48 (16 - m.length) (by omega)), ?_⟩
  rintro e A' ⟨rfl, rfl⟩
  conv => whnf
  refine ⟨by rw [strB_size, strB_size]; simp; omega, ?_⟩
  rw [strB_append, ← h8.2]
  conv => whnf
  repeat (first | (refine LoadV.s rfl rfl (forceV_of ?_); conv => whnf) | (refine LoadV.s rfl rfl ?_; conv => whnf) | (refine StoreV.c rfl rfl (Nat.le_of_ble_eq_true rfl) rfl ?_; conv => whnf) | (refine LoadV.a _ rfl (Nat.le_of_ble_eq_true rfl) ?_; conv => whnf) | (refine DrawI.quiet (by kernel_rfl) (by kernel_rfl) ?_; conv => whnf) | (refine ArI.in64 (by omega) ?_; conv => whnf) | (refine ArI.inU8 (by omega) ?_; conv => whnf) | (refine ArI.inU64 (by omega) ?_; conv => whnf) | (refine ArI.inU32 (by omega) ?_; conv => whnf) | (refine RetI.one Tryd.results28 rfl ?_; conv => whnf) | (refine RetI.two Tryd.results28 rfl rfl ?_; conv => whnf) | (refine RetI.three Tryd.results28 rfl rfl rfl ?_; conv => whnf) | (refine RetI.none Tryd.results28 ?_; conv => whnf) | (refine ⟨by first | decide | omega, ?_⟩; conv => whnf))
  exact ⟨_, Sub.refl _, rfl, rfl⟩
theorem lives08_ok (F : Mem) (ht : TabA F) : FT Tryd.prog 9 [].toArray F [] (Ret (.bool true)) := by
  refine FT.of_body Tryd.func9 rfl Tryd.ntmps9 (by simp) fun C hC => ?_
  subst hC
  conv => whnf
  obtain ⟨x1, hx1⟩ : ∃ x : ByteArray, x = ⟨#[48, 48, 48, 48, 48, 48, 48, 48, 48, 48, 48, 48, 48, 48, 48, 57]⟩ := ⟨_, rfl⟩
  have e1 : strB (hexL 16 9) = x1 := by rw [hx1]; decide +kernel
  have t1 : takeL 11 2 = [2, 4] := by decide +kernel
  have t2 : takeS 11 2 = 31 := by decide +kernel
  have t3 : takeE 11 2 = 0 := by decide +kernel
  rw [← hx1]
  refine CallS.mk Tryd.call14 ⟨[], _, _, Sub.refl _, fun F' hF' => take_ok F' (ht.ext hF') 11 (by decide) 2 (by decide), ?_⟩
  unfold TakeR
  rw [t1, t2, t3]
  rintro e A' ⟨g, hg, rfl, rfl⟩
  conv => whnf
  intro bl
  conv => whnf
  refine CallS.mk Tryd.call16 ⟨[], _, _, Sub.refl _, fun F' hF' => same_ok F' (oaOf g) (some ⟨bl, 0, none⟩) (capOf g) 2 [2, 4] [2, 4] (SlF.sv hF' (T := 3) rfl (fun e => by cases hg.1 e)) (SlF.cells hF' rfl) (by decide), ?_⟩
  rw [show decide (([2, 4] : List Int) = [2, 4]) = true from rfl]
  rintro e A' ⟨rfl, rfl⟩
  conv => whnf
  refine CallS.mk Tryd.call28 ⟨[], _, _, Sub.refl _, fun F' hF' => hex_ok F' (ht.ext hF') 9 (by decide), ?_⟩
  rw [e1]
  rintro e A' ⟨rfl, rfl⟩
  conv => whnf
  rw [show (x1.toList == x1.toList) = true from beq_self_eq_true _]
  conv => whnf
  repeat (first | (refine LoadV.s rfl rfl (forceV_of ?_); conv => whnf) | (refine LoadV.s rfl rfl ?_; conv => whnf) | (refine StoreV.c rfl rfl (Nat.le_of_ble_eq_true rfl) rfl ?_; conv => whnf) | (refine LoadV.a _ rfl (Nat.le_of_ble_eq_true rfl) ?_; conv => whnf) | (refine DrawI.quiet (by kernel_rfl) (by kernel_rfl) ?_; conv => whnf) | (refine ArI.in64 (by omega) ?_; conv => whnf) | (refine ArI.inU8 (by omega) ?_; conv => whnf) | (refine ArI.inU64 (by omega) ?_; conv => whnf) | (refine ArI.inU32 (by omega) ?_; conv => whnf) | (refine RetI.one Tryd.results9 rfl ?_; conv => whnf) | (refine RetI.two Tryd.results9 rfl rfl ?_; conv => whnf) | (refine RetI.three Tryd.results9 rfl rfl rfl ?_; conv => whnf) | (refine RetI.none Tryd.results9 ?_; conv => whnf) | (refine ⟨by first | decide | omega, ?_⟩; conv => whnf))
  exact ⟨_, Sub.sel [] rfl, rfl, rfl⟩
theorem one_ok (F : Mem) (ht : TabA F) (s : Nat) (hs : s < 18446744073709551616) (n m : Int) : FT Tryd.prog 3 [.int .u64 (s : Int), .int .i64 n, .int .i64 m].toArray F [] (Ret (.bool true)) := by
  refine FT.of_body Tryd.func3 rfl Tryd.ntmps3 (by simp) fun C hC => ?_
  subst hC
  conv => whnf
  refine CallS.mk Tryd.call9 ⟨[], _, _, Sub.refl _, fun F' hF' => lives08_ok F' (ht.ext hF'), ?_⟩
  rintro e A' ⟨rfl, rfl⟩
  conv => whnf
  refine CallS.mk Tryd.call10 ⟨[], _, _, Sub.refl _, fun F' hF' => put_ok F' s hs n, ?_⟩
  rintro e A' ⟨rfl, rfl⟩
  conv => whnf
  refine CallS.mk Tryd.call11 ⟨[], _, _, Sub.refl _, fun F' hF' => drop_ok F' s hs n, ?_⟩
  rintro e A' ⟨rfl, rfl⟩
  have hpl := putN_lt hs n
  have hdl := dropN_lt hs n
  by_cases h : okSlot n
  · obtain ⟨k, rfl⟩ := Int.eq_ofNat_of_zero_le h.1
    have hk : k < 64 := by have := h.2; omega
    have e1 : putN s (k : Int) = s ||| 2 ^ k := by unfold putN; rw [if_pos h, Int.toNat_natCast]
    have e2 : dropN s (k : Int) = s &&& cmp (2 ^ k) := by unfold dropN; rw [if_pos h, Int.toNat_natCast]
    have e3 : errS (k : Int) = 0 := if_pos h
    have hh1 : hasN (putN s (k : Int)) (k : Int) = true := by
      rw [e1]; unfold hasN; rw [decide_eq_true h, Int.toNat_natCast, put_bit]; simp
    have hh2 : hasN (dropN s (k : Int)) (k : Int) = false := by
      rw [e2]; unfold hasN; rw [decide_eq_true h, Int.toNat_natCast, drop_bit hk hk]; simp
    have hcnt : (slots (putN s (k : Int))).length = (slots (dropN s (k : Int))).length + 1 := by rw [e1, e2]; exact count_put_drop hk
    have hle := slots_length_le (dropN s (k : Int))
    have ho1 : m ≠ (k : Int) → hasN (putN s (k : Int)) m = hasN s m := fun hne => by
      unfold hasN
      by_cases hm : 0 ≤ m ∧ m < 64
      · obtain ⟨j, rfl⟩ := Int.eq_ofNat_of_zero_le hm.1
        have : ¬ k = j := by omega
        rw [e1, Int.toNat_natCast, put_bit]; simp [this]
      · rw [decide_eq_false hm, Bool.false_and, Bool.false_and]
    have ho2 : m ≠ (k : Int) → hasN (dropN s (k : Int)) m = hasN s m := fun hne => by
      unfold hasN
      by_cases hm : 0 ≤ m ∧ m < 64
      · obtain ⟨j, rfl⟩ := Int.eq_ofNat_of_zero_le hm.1
        have : ¬ k = j := by omega
        rw [e2, Int.toNat_natCast, drop_bit hk (by omega)]; simp [this]
      · rw [decide_eq_false hm, Bool.false_and, Bool.false_and]
    rw [e3]
    generalize putN s (k : Int) = a at *
    generalize dropN s (k : Int) = b at *
    conv => whnf
    rw [decide_eq_false (show ¬ (k : Int) < 0 by omega)]
    conv => whnf
    rw [decide_eq_false (show ¬ (k : Int) ≥ 64 by omega)]
    conv => whnf
    refine CallS.mk Tryd.call12 ⟨[], _, _, Sub.refl _, fun F' hF' => has_ok F' a hpl (k : Int), ?_⟩
    rw [hh1]
    rintro e A' ⟨rfl, rfl⟩
    conv => whnf
    refine CallS.mk Tryd.call12 ⟨[], _, _, Sub.refl _, fun F' hF' => has_ok F' b hdl (k : Int), ?_⟩
    rw [hh2]
    rintro e A' ⟨rfl, rfl⟩
    conv => whnf
    refine CallS.mk Tryd.call13 ⟨[], _, _, Sub.refl _, fun F' hF' => count_ok F' a hpl, ?_⟩
    rintro e A' ⟨rfl, rfl⟩
    conv => whnf
    refine CallS.mk Tryd.call13 ⟨[], _, _, Sub.refl _, fun F' hF' => count_ok F' b hdl, ?_⟩
    rintro e A' ⟨rfl, rfl⟩
    conv => whnf
    refine ArI.in64 (by omega) ?_
    conv => whnf
    rw [show (((slots a).length : Int) != ((slots b).length : Int) + 1) = false from bne_eq_false_iff_eq.2 (by omega)]
    conv => whnf
    by_cases hmk : m = (k : Int)
    · subst hmk
      rw [show ((k : Int) == (k : Int)) = true from beq_self_eq_true _]
      conv => whnf
      repeat (first | (refine LoadV.s rfl rfl (forceV_of ?_); conv => whnf) | (refine LoadV.s rfl rfl ?_; conv => whnf) | (refine StoreV.c rfl rfl (Nat.le_of_ble_eq_true rfl) rfl ?_; conv => whnf) | (refine LoadV.a _ rfl (Nat.le_of_ble_eq_true rfl) ?_; conv => whnf) | (refine DrawI.quiet (by kernel_rfl) (by kernel_rfl) ?_; conv => whnf) | (refine ArI.in64 (by omega) ?_; conv => whnf) | (refine ArI.inU8 (by omega) ?_; conv => whnf) | (refine ArI.inU64 (by omega) ?_; conv => whnf) | (refine ArI.inU32 (by omega) ?_; conv => whnf) | (refine RetI.one Tryd.results3 rfl ?_; conv => whnf) | (refine RetI.two Tryd.results3 rfl rfl ?_; conv => whnf) | (refine RetI.three Tryd.results3 rfl rfl rfl ?_; conv => whnf) | (refine RetI.none Tryd.results3 ?_; conv => whnf) | (refine ⟨by first | decide | omega, ?_⟩; conv => whnf))
      exact ⟨_, Sub.sel [] rfl, rfl, rfl⟩
    · rw [show (m == (k : Int)) = false from beq_eq_false_iff_ne.2 hmk]
      conv => whnf
      refine CallS.mk Tryd.call12 ⟨[], _, _, Sub.refl _, fun F' hF' => has_ok F' a hpl m, ?_⟩
      rw [ho1 hmk]
      rintro e A' ⟨rfl, rfl⟩
      conv => whnf
      refine CallS.mk Tryd.call12 ⟨[], _, _, Sub.refl _, fun F' hF' => has_ok F' s hs m, ?_⟩
      rintro e A' ⟨rfl, rfl⟩
      conv => whnf
      rw [show (hasN s m == hasN s m) = true from beq_self_eq_true _]
      conv => whnf
      refine CallS.mk Tryd.call12 ⟨[], _, _, Sub.refl _, fun F' hF' => has_ok F' b hdl m, ?_⟩
      rw [ho2 hmk]
      rintro e A' ⟨rfl, rfl⟩
      conv => whnf
      refine CallS.mk Tryd.call12 ⟨[], _, _, Sub.refl _, fun F' hF' => has_ok F' s hs m, ?_⟩
      rintro e A' ⟨rfl, rfl⟩
      conv => whnf
      rw [show (hasN s m == hasN s m) = true from beq_self_eq_true _]
      conv => whnf
      repeat (first | (refine LoadV.s rfl rfl (forceV_of ?_); conv => whnf) | (refine LoadV.s rfl rfl ?_; conv => whnf) | (refine StoreV.c rfl rfl (Nat.le_of_ble_eq_true rfl) rfl ?_; conv => whnf) | (refine LoadV.a _ rfl (Nat.le_of_ble_eq_true rfl) ?_; conv => whnf) | (refine DrawI.quiet (by kernel_rfl) (by kernel_rfl) ?_; conv => whnf) | (refine ArI.in64 (by omega) ?_; conv => whnf) | (refine ArI.inU8 (by omega) ?_; conv => whnf) | (refine ArI.inU64 (by omega) ?_; conv => whnf) | (refine ArI.inU32 (by omega) ?_; conv => whnf) | (refine RetI.one Tryd.results3 rfl ?_; conv => whnf) | (refine RetI.two Tryd.results3 rfl rfl ?_; conv => whnf) | (refine RetI.three Tryd.results3 rfl rfl rfl ?_; conv => whnf) | (refine RetI.none Tryd.results3 ?_; conv => whnf) | (refine ⟨by first | decide | omega, ?_⟩; conv => whnf))
      exact ⟨_, Sub.sel [] rfl, rfl, rfl⟩
  · have e1 : putN s n = 0 := if_neg h
    have e2 : dropN s n = 0 := if_neg h
    have e3 : errS n = 1 := if_neg h
    rw [e1, e2, e3]
    conv => whnf
    by_cases h0 : n < 0
    · rw [decide_eq_true h0]
      conv => whnf
      repeat (first | (refine LoadV.s rfl rfl (forceV_of ?_); conv => whnf) | (refine LoadV.s rfl rfl ?_; conv => whnf) | (refine StoreV.c rfl rfl (Nat.le_of_ble_eq_true rfl) rfl ?_; conv => whnf) | (refine LoadV.a _ rfl (Nat.le_of_ble_eq_true rfl) ?_; conv => whnf) | (refine DrawI.quiet (by kernel_rfl) (by kernel_rfl) ?_; conv => whnf) | (refine ArI.in64 (by omega) ?_; conv => whnf) | (refine ArI.inU8 (by omega) ?_; conv => whnf) | (refine ArI.inU64 (by omega) ?_; conv => whnf) | (refine ArI.inU32 (by omega) ?_; conv => whnf) | (refine RetI.one Tryd.results3 rfl ?_; conv => whnf) | (refine RetI.two Tryd.results3 rfl rfl ?_; conv => whnf) | (refine RetI.three Tryd.results3 rfl rfl rfl ?_; conv => whnf) | (refine RetI.none Tryd.results3 ?_; conv => whnf) | (refine ⟨by first | decide | omega, ?_⟩; conv => whnf))
      exact ⟨_, Sub.sel [] rfl, rfl, rfl⟩
    · rw [decide_eq_false h0]
      conv => whnf
      rw [decide_eq_true (show n ≥ 64 by have : ¬ (0 ≤ n ∧ n < 64) := h; omega)]
      conv => whnf
      repeat (first | (refine LoadV.s rfl rfl (forceV_of ?_); conv => whnf) | (refine LoadV.s rfl rfl ?_; conv => whnf) | (refine StoreV.c rfl rfl (Nat.le_of_ble_eq_true rfl) rfl ?_; conv => whnf) | (refine LoadV.a _ rfl (Nat.le_of_ble_eq_true rfl) ?_; conv => whnf) | (refine DrawI.quiet (by kernel_rfl) (by kernel_rfl) ?_; conv => whnf) | (refine ArI.in64 (by omega) ?_; conv => whnf) | (refine ArI.inU8 (by omega) ?_; conv => whnf) | (refine ArI.inU64 (by omega) ?_; conv => whnf) | (refine ArI.inU32 (by omega) ?_; conv => whnf) | (refine RetI.one Tryd.results3 rfl ?_; conv => whnf) | (refine RetI.two Tryd.results3 rfl rfl ?_; conv => whnf) | (refine RetI.three Tryd.results3 rfl rfl rfl ?_; conv => whnf) | (refine RetI.none Tryd.results3 ?_; conv => whnf) | (refine ⟨by first | decide | omega, ?_⟩; conv => whnf))
      exact ⟨_, Sub.sel [] rfl, rfl, rfl⟩
end Go.Proofs.YtpcefmocphbdgaaDoor
