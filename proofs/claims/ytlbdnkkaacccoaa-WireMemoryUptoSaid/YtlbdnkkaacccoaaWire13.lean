/- The laws of messages: they come back. -/
import Derived.Test.YtlbdnkkaacccoaaWire12
namespace Go.Proofs.Ytlbdnkkaacccoaa
set_option linter.unusedVariables false
set_option linter.unusedSimpArgs false
set_option maxRecDepth 100000
open SL Go.RowKit Go.Maps
theorem own_rows {F F' : Mem} {B : Heap} {m : Msg} {gL gJ gI : Option (Nat × Nat)} (hF : Ext F B F') {G1 G2 G3 : HObj → Heap} [OwnHole B (svOf gL m.L.length) m.L.length 57 2 (m.L.flatMap seatF) G1] [OwnHole B (svOf gJ m.J.length) m.J.length 57 2 (m.J.flatMap seatF) G2] [OwnHole B (svOf gI m.I.length) m.I.length 55 6 (m.I.flatMap itemF) G3] (h : MsgAt m gL gJ gI) : Rows14 F' m (slsOf gL gJ gI) :=
  ⟨SlF.sv (g := gL) hF (T := 57) (SL.flat_length seatF_length _) (at_nil h.L), SlF.sv (g := gJ) hF (T := 57) (SL.flat_length seatF_length _) (at_nil h.J), SlF.sv (g := gI) hF (T := 55) (SL.flat_length itemF_length _) (at_nil h.I)⟩
theorem zsz : Sz zMsg := ⟨Nat.zero_le _, Nat.zero_le _, Nat.zero_le _, Nat.zero_le _⟩
theorem dec_sz (t : ByteArray) : Sz (decV t).1 := by
  unfold decV
  split
  · exact rdRes_sz _
  · exact zsz
theorem mBits_len {m : Msg} (h : goodB m = true) : (mBits m).length ≤ 100000 := by
  unfold mBits restBits
  rw [List.length_append, bitsOf_length]
  rcases good_cases h with ⟨hk, h1, h2, h3, h4⟩ | ⟨hk, h1, h2, h3, h4⟩ | ⟨hk, h1, h2, h3, h4⟩ | ⟨hk, h1, h2, h3, h4⟩
  · simp only [gRk, Bool.and_eq_true, decide_eq_true_eq] at h1
    obtain ⟨⟨⟨q1, q2, q3⟩, q4, q5⟩, q6, q7⟩ := h1
    rw [if_pos hk]
    simp only [List.length_append, bitsOf_length, ssBits, isBits, flat_length sBits_length, flat_length iBits_length]
    omega
  · rw [if_neg (by omega), if_pos hk]
    simp only [List.length_append, bitsOf_length]
    omega
  · rw [if_neg (by omega), if_neg (by omega), if_pos hk]
    simp only [List.length_append, bitsOf_length, bBits_length]
    omega
  · simp only [gSe, Bool.and_eq_true, decide_eq_true_eq] at h4
    obtain ⟨_, q3⟩ := h4
    have := txt_length m.tx
    rw [if_neg (by omega), if_neg (by omega), if_neg (by omega)]
    simp only [List.length_append, bitsOf_length, kBits_length, flat_length (bitsOf_length 8)]
    omega
theorem enc_size {m : Msg} (h : goodB m = true) : (encT m).size ≤ 100000 := by
  have := mBits_len h
  show (strB _).size ≤ _
  rw [strB_size, packB_length]
  omega
set_option maxHeartbeats 4000000 in
theorem back_ok14 (F : Mem) (m : Msg) (s : Sls) (text : ByteArray) (hr : Rows14 F m s) (hz : Sz m) (hs : text.size ≤ 140737488355328) : FT Try.prog 4 [.agg (msgL m s).toArray, .string text].toArray F [] (Ret (.bool true)) := by
  refine FT.of_body Try.func4 rfl Try.ntmps4 (by simp) fun C hC => ?_
  subst hC
  conv => whnf
  intro p
  conv => whnf
  refine CallS.mk Try.call8 ⟨[], _, _, Sub.refl _, fun F' hF' => lives14_ok F', ?_⟩
  rintro e A' ⟨rfl, rfl⟩
  conv => whnf
  refine LoadV.a 26 rfl (Nat.le_of_ble_eq_true rfl) ?_
  conv => whnf
  refine CallS.mk Try.call11 ⟨[], _, _, Sub.refl _, fun F' hF' => enc_ok F' m s (hr.ext hF'.F) hz, ?_⟩
  cases hg : goodB m with
  | false =>
    rw [encV_bad hg]
    rintro e A' ⟨rfl, rfl⟩
    conv => whnf
    refine LoadV.a 26 rfl (Nat.le_of_ble_eq_true rfl) ?_
    conv => whnf
    refine CallS.mk Try.call10 ⟨[], _, _, Sub.refl _, fun F' hF' => rgood_ok F' m s (hr.ext hF'.F) hz, ?_⟩
    rw [hg]
    rintro e A' ⟨rfl, rfl⟩
    conv => whnf
    refine CallS.mk Try.call13 ⟨[], [_], _, Sub.sel [0] rfl, fun F' hF' => dec_ok F' text hs, ?_⟩
    have hdz := dec_sz text
    have hd1 : ∀ x, decV text = (x, 0) → goodB x = true ∧ strB (packB (mBits x)) = text := fun x => enc_dec
    have hd2 := dec_bad (t := text)
    obtain ⟨d, hd⟩ : ∃ d, d = decV text := ⟨_, rfl⟩
    rw [← hd] at hdz hd1 hd2 ⊢
    obtain ⟨x, ex⟩ := d
    rintro e A' ⟨gL, gJ, gI, hat, rfl, rfl⟩
    dsimp only at hat hdz hd2
    conv => whnf
    intro q
    conv => whnf
    refine StoreV.c rfl rfl (Nat.le_of_ble_eq_true rfl) rfl ?_
    by_cases h0 : ex = 0
    · subst h0
      obtain ⟨g1, g2⟩ := hd1 _ rfl
      conv => whnf
      refine LoadV.a 26 rfl (Nat.le_of_ble_eq_true rfl) ?_
      conv => whnf
      refine CallS.mk Try.call11 ⟨[], _, _, Sub.refl _, fun F' hF' => enc_ok F' x (slsOf gL gJ gI) (own_rows hF' hat) hdz, ?_⟩
      rw [encV_good g1]
      rintro e A' ⟨rfl, rfl⟩
      conv => whnf
      rw [show ((encT x, (0 : Int)).fst.toList == text.toList) = true by rw [toList_beq]; exact decide_eq_true g2]
      conv => whnf
      refine LoadV.a 26 rfl (Nat.le_of_ble_eq_true rfl) ?_
      conv => whnf
      refine CallS.mk Try.call10 ⟨[], _, _, Sub.refl _, fun F' hF' => rgood_ok F' x (slsOf gL gJ gI) (own_rows hF' hat) hdz, ?_⟩
      rw [g1]
      rintro e A' ⟨rfl, rfl⟩
      conv => whnf
      repeat (first | (refine LoadV.s rfl rfl (forceV_of ?_); conv => whnf) | (refine LoadV.s rfl rfl ?_; conv => whnf) | (refine StoreV.c rfl rfl (Nat.le_of_ble_eq_true rfl) rfl ?_; conv => whnf) | (refine LoadV.a _ rfl (Nat.le_of_ble_eq_true rfl) ?_; conv => whnf) | (refine DrawI.quiet (by kernel_rfl) (by kernel_rfl) ?_; conv => whnf) | (refine ArI.in64 (by omega) ?_; conv => whnf) | (refine ArI.inU8 (by omega) ?_; conv => whnf) | (refine ArI.inU64 (by omega) ?_; conv => whnf) | (refine ArI.inU32 (by omega) ?_; conv => whnf) | (refine RetI.one Try.results4 rfl ?_; conv => whnf) | (refine RetI.two Try.results4 rfl rfl ?_; conv => whnf) | (refine RetI.three Try.results4 rfl rfl rfl ?_; conv => whnf) | (refine RetI.none Try.results4 ?_; conv => whnf) | (refine ⟨by first | decide | omega, ?_⟩; conv => whnf))
      exact ⟨_, Sub.sel [] rfl, rfl, rfl⟩
    · have h13 := hd2 h0
      cases h13
      conv => whnf
      refine LoadV.a 26 rfl (Nat.le_of_ble_eq_true rfl) ?_
      conv => whnf
      refine CallS.mk Try.call15 ⟨[], _, _, Sub.refl _, fun F' hF' => same14_ok F' zMsg zMsg (slsOf gL gJ gI) zSls (own_rows hF' hat) (zero_rows F') zsz, ?_⟩
      rw [sameB_iff.2 rfl]
      rintro e A' ⟨rfl, rfl⟩
      conv => whnf
      repeat (first | (refine LoadV.s rfl rfl (forceV_of ?_); conv => whnf) | (refine LoadV.s rfl rfl ?_; conv => whnf) | (refine StoreV.c rfl rfl (Nat.le_of_ble_eq_true rfl) rfl ?_; conv => whnf) | (refine LoadV.a _ rfl (Nat.le_of_ble_eq_true rfl) ?_; conv => whnf) | (refine DrawI.quiet (by kernel_rfl) (by kernel_rfl) ?_; conv => whnf) | (refine ArI.in64 (by omega) ?_; conv => whnf) | (refine ArI.inU8 (by omega) ?_; conv => whnf) | (refine ArI.inU64 (by omega) ?_; conv => whnf) | (refine ArI.inU32 (by omega) ?_; conv => whnf) | (refine RetI.one Try.results4 rfl ?_; conv => whnf) | (refine RetI.two Try.results4 rfl rfl ?_; conv => whnf) | (refine RetI.three Try.results4 rfl rfl rfl ?_; conv => whnf) | (refine RetI.none Try.results4 ?_; conv => whnf) | (refine ⟨by first | decide | omega, ?_⟩; conv => whnf))
      exact ⟨_, Sub.sel [] rfl, rfl, rfl⟩
  | true =>
    rw [encV_good hg]
    have hdm : decV (encT m) = (m, 0) := dec_enc hg
    have hsz : (encT m).size ≤ 140737488355328 := by have := enc_size hg; omega
    obtain ⟨y, hy⟩ : ∃ y, y = encT m := ⟨_, rfl⟩
    rw [← hy] at hsz hdm ⊢
    rintro e A' ⟨rfl, rfl⟩
    conv => whnf
    refine LoadV.a 26 rfl (Nat.le_of_ble_eq_true rfl) ?_
    conv => whnf
    refine CallS.mk Try.call10 ⟨[], _, _, Sub.refl _, fun F' hF' => rgood_ok F' m s (hr.ext hF'.F) hz, ?_⟩
    rw [hg]
    rintro e A' ⟨rfl, rfl⟩
    conv => whnf
    refine CallS.mk Try.call13 ⟨[], [_], _, Sub.sel [0] rfl, fun F' hF' => dec_ok F' y hsz, ?_⟩
    rw [hdm]
    rintro e A' ⟨hL, hJ, hI, hat2, rfl, rfl⟩
    conv => whnf
    intro c
    conv => whnf
    refine StoreV.c rfl rfl (Nat.le_of_ble_eq_true rfl) rfl ?_
    conv => whnf
    refine LoadV.a 26 rfl (Nat.le_of_ble_eq_true rfl) ?_
    conv => whnf
    refine LoadV.a 26 rfl (Nat.le_of_ble_eq_true rfl) ?_
    conv => whnf
    refine CallS.mk Try.call15 ⟨[], [_, _, _, _], _, Sub.sel [1, 2, 3, 4] rfl, fun F' hF' => same14_ok F' m m (slsOf hL hJ hI) s (own_rows hF' hat2) (hr.ext hF'.F) hz, ?_⟩
    rw [sameB_iff.2 rfl]
    rintro e A' ⟨rfl, rfl⟩
    conv => whnf
    refine CallS.mk Try.call13 ⟨[], [_], _, Sub.sel [3] rfl, fun F' hF' => dec_ok F' text hs, ?_⟩
    have hdz := dec_sz text
    have hd1 : ∀ x, decV text = (x, 0) → goodB x = true ∧ strB (packB (mBits x)) = text := fun x => enc_dec
    have hd2 := dec_bad (t := text)
    obtain ⟨d, hd⟩ : ∃ d, d = decV text := ⟨_, rfl⟩
    rw [← hd] at hdz hd1 hd2 ⊢
    obtain ⟨x, ex⟩ := d
    rintro e A' ⟨gL, gJ, gI, hat, rfl, rfl⟩
    dsimp only at hat hdz hd2
    conv => whnf
    intro q
    conv => whnf
    refine StoreV.c rfl rfl (Nat.le_of_ble_eq_true rfl) rfl ?_
    by_cases h0 : ex = 0
    · subst h0
      obtain ⟨g1, g2⟩ := hd1 _ rfl
      conv => whnf
      refine LoadV.a 26 rfl (Nat.le_of_ble_eq_true rfl) ?_
      conv => whnf
      refine CallS.mk Try.call11 ⟨[], _, _, Sub.refl _, fun F' hF' => enc_ok F' x (slsOf gL gJ gI) (own_rows hF' hat) hdz, ?_⟩
      rw [encV_good g1]
      rintro e A' ⟨rfl, rfl⟩
      conv => whnf
      rw [show ((encT x, (0 : Int)).fst.toList == text.toList) = true by rw [toList_beq]; exact decide_eq_true g2]
      conv => whnf
      refine LoadV.a 26 rfl (Nat.le_of_ble_eq_true rfl) ?_
      conv => whnf
      refine CallS.mk Try.call10 ⟨[], _, _, Sub.refl _, fun F' hF' => rgood_ok F' x (slsOf gL gJ gI) (own_rows hF' hat) hdz, ?_⟩
      rw [g1]
      rintro e A' ⟨rfl, rfl⟩
      conv => whnf
      repeat (first | (refine LoadV.s rfl rfl (forceV_of ?_); conv => whnf) | (refine LoadV.s rfl rfl ?_; conv => whnf) | (refine StoreV.c rfl rfl (Nat.le_of_ble_eq_true rfl) rfl ?_; conv => whnf) | (refine LoadV.a _ rfl (Nat.le_of_ble_eq_true rfl) ?_; conv => whnf) | (refine DrawI.quiet (by kernel_rfl) (by kernel_rfl) ?_; conv => whnf) | (refine ArI.in64 (by omega) ?_; conv => whnf) | (refine ArI.inU8 (by omega) ?_; conv => whnf) | (refine ArI.inU64 (by omega) ?_; conv => whnf) | (refine ArI.inU32 (by omega) ?_; conv => whnf) | (refine RetI.one Try.results4 rfl ?_; conv => whnf) | (refine RetI.two Try.results4 rfl rfl ?_; conv => whnf) | (refine RetI.three Try.results4 rfl rfl rfl ?_; conv => whnf) | (refine RetI.none Try.results4 ?_; conv => whnf) | (refine ⟨by first | decide | omega, ?_⟩; conv => whnf))
      exact ⟨_, Sub.sel [] rfl, rfl, rfl⟩
    · have h13 := hd2 h0
      cases h13
      conv => whnf
      refine LoadV.a 26 rfl (Nat.le_of_ble_eq_true rfl) ?_
      conv => whnf
      refine CallS.mk Try.call15 ⟨[], _, _, Sub.refl _, fun F' hF' => same14_ok F' zMsg zMsg (slsOf gL gJ gI) zSls (own_rows hF' hat) (zero_rows F') zsz, ?_⟩
      rw [sameB_iff.2 rfl]
      rintro e A' ⟨rfl, rfl⟩
      conv => whnf
      repeat (first | (refine LoadV.s rfl rfl (forceV_of ?_); conv => whnf) | (refine LoadV.s rfl rfl ?_; conv => whnf) | (refine StoreV.c rfl rfl (Nat.le_of_ble_eq_true rfl) rfl ?_; conv => whnf) | (refine LoadV.a _ rfl (Nat.le_of_ble_eq_true rfl) ?_; conv => whnf) | (refine DrawI.quiet (by kernel_rfl) (by kernel_rfl) ?_; conv => whnf) | (refine ArI.in64 (by omega) ?_; conv => whnf) | (refine ArI.inU8 (by omega) ?_; conv => whnf) | (refine ArI.inU64 (by omega) ?_; conv => whnf) | (refine ArI.inU32 (by omega) ?_; conv => whnf) | (refine RetI.one Try.results4 rfl ?_; conv => whnf) | (refine RetI.two Try.results4 rfl rfl ?_; conv => whnf) | (refine RetI.three Try.results4 rfl rfl rfl ?_; conv => whnf) | (refine RetI.none Try.results4 ?_; conv => whnf) | (refine ⟨by first | decide | omega, ?_⟩; conv => whnf))
      exact ⟨_, Sub.sel [] rfl, rfl, rfl⟩
end Go.Proofs.Ytlbdnkkaacccoaa
