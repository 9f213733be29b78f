/- The reference's Decode. -/
import Derived.Test.YtlbdnkkaacccoaaWireR5
import Derived.Test.YtlbdnkkaacccoaaWire14
namespace Go.Proofs.Ytlbdnkkaacccoaa
set_option linter.unusedVariables false
set_option linter.unusedSimpArgs false
set_option maxRecDepth 100000
open SL Go.RowKit Go.Maps
theorem scSeats_len {T : List Bool} {n : Nat} (hn : n ≤ T.length) : (scSeats T n).1.length < 128 := by
  have h1 := sc_lt (T := T) (W := 7) (n := n)
  have h2 : (scList (scSeat T) (sc T 7 n).1 (sc T 7 n).2).1.length = (sc T 7 n).1 := (scList_le (N := T.length) (fun n h => scSeat_le h) (sc T 7 n).1 (sc T 7 n).2 (sc_le hn)).2
  unfold scSeats
  omega
theorem scMsg_sz (T : List Bool) : Sz (scMsg T) := by
  have h0 := sc_le (T := T) (W := 2) (Nat.zero_le _)
  unfold scMsg
  generalize sc T 2 0 = k at h0 ⊢
  split
  · have h1 := sc_le (W := 8) h0
    unfold scRk
    generalize sc T 8 k.2 = a at h1 ⊢
    have h2 := scSeats_len h1
    have h3 := scSeats_le h1
    generalize scSeats T a.2 = b at h2 h3 ⊢
    have h4 := scSeats_len h3
    have h5 := scSeats_le h3
    generalize scSeats T b.2 = c at h4 h5 ⊢
    have h6 := sc_le (W := 11) h5
    have h7 := sc_lt (T := T) (W := 11) (n := c.2)
    generalize sc T 11 c.2 = d at h6 h7 ⊢
    have h8 := (scList_le (N := T.length) (fun n h => scItem_le h) d.1 d.2 h6).2
    generalize scList (scItem T) d.1 d.2 = f at h8 ⊢
    exact ⟨by dsimp only; omega, by dsimp only; omega, by dsimp only; omega, Nat.zero_le _⟩
  · split
    · exact ⟨Nat.zero_le _, Nat.zero_le _, Nat.zero_le _, Nat.zero_le _⟩
    · split
      · exact ⟨Nat.zero_le _, Nat.zero_le _, Nat.zero_le _, Nat.zero_le _⟩
      · have h1 := sc_le (W := 8) h0
        unfold scSe
        generalize sc T 8 k.2 = a at h1 ⊢
        have h2 := scKey_le h1
        generalize scKey T a.2 = b at h2 ⊢
        have h3 := sc_le (W := 7) h2
        have h4 := sc_lt (T := T) (W := 7) (n := b.2)
        generalize sc T 7 b.2 = c at h3 h4 ⊢
        have h5 := (scList_le (N := T.length) (fun n h => sc_le (W := 8) h) c.1 c.2 h3).2
        generalize scList (sc T 8) c.1 c.2 = f at h5 ⊢
        exact ⟨Nat.zero_le _, Nat.zero_le _, Nat.zero_le _, by dsimp only; rw [strB_size]; omega⟩
theorem textBits_Tb (s : ByteArray) : textBits (txt s) = Tb s := rfl
set_option maxHeartbeats 4000000 in
theorem rdec_ok (F : Mem) (s : ByteArray) (hs : s.size ≤ 4398046511104) : FT Try.prog 14 [.string s].toArray F [] (DcM (decV s)) := by
  have hT := Tb_length s
  rw [← dec_same s]
  refine FT.of_body Try.func14 rfl Try.ntmps14 (by simp) fun C hC => ?_
  subst hC
  conv => whnf
  intro c
  conv => whnf
  refine CallS.mk Try.call49 ⟨[], _, _, Sub.refl _, fun F' hF' => rRead_ok F' s hs, ?_⟩
  rw [textBits_Tb]
  rintro e A' ⟨r, g, hg, rfl, rfl⟩
  have hz := scMsg_sz (Tb s)
  have hgood : goodB (scMsg (Tb s)) = true ∨ goodB (scMsg (Tb s)) = false := by cases goodB (scMsg (Tb s)) <;> simp
  generalize Tb s = T at hg hT hz hgood ⊢
  conv => whnf
  intro x
  conv => whnf
  refine CallS.mk Try.call50 ⟨[_, _, _], [_], _, Sub.sel [0, 1, 2, 3] rfl, fun F' hF' => scmsg_ok F' x r g T hg (by omega), ?_⟩
  generalize scMsg T = m at hz hgood ⊢
  rintro e A' ⟨gL, gJ, gI, hat, rfl, rfl⟩
  conv => whnf
  intro d
  conv => whnf
  refine StoreV.c rfl rfl (Nat.le_of_ble_eq_true rfl) rfl ?_
  conv => whnf
  refine LoadV.a 26 rfl (Nat.le_of_ble_eq_true rfl) ?_
  conv => whnf
  refine CallS.mk Try.call12 ⟨[], _, _, Sub.refl _, fun F' hF' => renc_ok F' m (slsOf gL gJ gI) (own_rows hF' hat) hz, ?_⟩
  rcases hgood with hgd | hgd
  · rw [encV_good hgd]
    obtain ⟨y, hy⟩ : ∃ y, y = encT m := ⟨_, rfl⟩
    rw [← hy]
    rintro e A' ⟨rfl, rfl⟩
    conv => whnf
    by_cases hs2 : y = s
    · rw [if_pos ⟨hgd, hs2⟩]
      rw [show ((y, (0 : Int)).fst.toList == s.toList) = true by rw [toList_beq]; exact decide_eq_true hs2]
      conv => whnf
      refine LoadV.a 26 rfl (Nat.le_of_ble_eq_true rfl) ?_
      conv => whnf
      refine StoreV.c rfl rfl (Nat.le_of_ble_eq_true rfl) rfl ?_
      conv => whnf
      refine RetI.cell_tmp Try.results14 rfl rfl ?_
      refine LoadV.a 26 rfl (Nat.le_of_ble_eq_true rfl) ?_
      conv => whnf
      exact ⟨_, Sub.sel [1, 2, 3] rfl, gL, gJ, gI, hat, rfl, rfl⟩
    · rw [if_neg (fun h => hs2 h.2)]
      rw [show ((y, (0 : Int)).fst.toList == s.toList) = false by rw [toList_beq]; exact decide_eq_false hs2]
      conv => whnf
      refine StoreV.c rfl rfl (Nat.le_of_ble_eq_true rfl) rfl ?_
      conv => whnf
      refine RetI.cell_tmp Try.results14 rfl rfl ?_
      refine LoadV.a 26 rfl (Nat.le_of_ble_eq_true rfl) ?_
      conv => whnf
      exact ⟨_, Sub.trans (Sub.sel [] rfl) zero_owns, none, none, none, none_at rfl rfl rfl, rfl, rfl⟩
  · rw [encV_bad hgd]
    rw [if_neg (fun h => by rw [hgd] at h; exact absurd h.1 (by simp))]
    rintro e A' ⟨rfl, rfl⟩
    conv => whnf
    refine StoreV.c rfl rfl (Nat.le_of_ble_eq_true rfl) rfl ?_
    conv => whnf
    refine RetI.cell_tmp Try.results14 rfl rfl ?_
    refine LoadV.a 26 rfl (Nat.le_of_ble_eq_true rfl) ?_
    conv => whnf
    exact ⟨_, Sub.trans (Sub.sel [] rfl) zero_owns, none, none, none, none_at rfl rfl rfl, rfl, rfl⟩
end Go.Proofs.Ytlbdnkkaacccoaa
