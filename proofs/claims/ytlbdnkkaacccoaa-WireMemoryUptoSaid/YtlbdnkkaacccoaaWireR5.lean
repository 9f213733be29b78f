/- The reference's scan of a message. -/
import Derived.Test.YtlbdnkkaacccoaaWireR4
import Derived.Test.YtlbdnkkaacccoaaLate
namespace Go.Proofs.Ytlbdnkkaacccoaa
set_option linter.unusedVariables false
set_option linter.unusedSimpArgs false
set_option maxRecDepth 100000
open SL Go.RowKit Go.Maps
def scRk (T : List Bool) (n : Nat) : Rk × Nat := (⟨((sc T 8 n).1 : Int), (scSeats T (sc T 8 n).2).1, (scSeats T (scSeats T (sc T 8 n).2).2).1, (scList (scItem T) (sc T 11 (scSeats T (scSeats T (sc T 8 n).2).2).2).1 (sc T 11 (scSeats T (scSeats T (sc T 8 n).2).2).2).2).1⟩, (scList (scItem T) (sc T 11 (scSeats T (scSeats T (sc T 8 n).2).2).2).1 (sc T 11 (scSeats T (scSeats T (sc T 8 n).2).2).2).2).2)
def scRp (T : List Bool) (n : Nat) : Rp × Nat := (⟨((sc T 8 n).1 : Int), ((sc T 6 (sc T 8 n).2).1 : Int), ((sc T 8 (sc T 6 (sc T 8 n).2).2).1 : Int), (scList (scBox T) 3 (sc T 8 (sc T 6 (sc T 8 n).2).2).2).1.getD 0 zb, (scList (scBox T) 3 (sc T 8 (sc T 6 (sc T 8 n).2).2).2).1.getD 1 zb, (scList (scBox T) 3 (sc T 8 (sc T 6 (sc T 8 n).2).2).2).1.getD 2 zb⟩, (scList (scBox T) 3 (sc T 8 (sc T 6 (sc T 8 n).2).2).2).2)
def scSe (T : List Bool) (n : Nat) : Se × Nat := (⟨((sc T 8 n).1 : Int), (scKey T (sc T 8 n).2).1.1, (scKey T (sc T 8 n).2).1.2, (scList (sc T 8) (sc T 7 (scKey T (sc T 8 n).2).2).1 (sc T 7 (scKey T (sc T 8 n).2).2).2).1⟩, (scList (sc T 8) (sc T 7 (scKey T (sc T 8 n).2).2).1 (sc T 7 (scKey T (sc T 8 n).2).2).2).2)
def scMsg (T : List Bool) : Msg :=
  if (sc T 2 0).1 = 0 then { zMsg with kind := 1, ep := (scRk T (sc T 2 0).2).1.ep, L := (scRk T (sc T 2 0).2).1.L, J := (scRk T (sc T 2 0).2).1.J, I := (scRk T (sc T 2 0).2).1.I }
  else if (sc T 2 0).1 = 1 then { zMsg with kind := 2, qw := ((sc T 8 (sc T 2 0).2).1 : Int), qe := ((sc T 8 (sc T 8 (sc T 2 0).2).2).1 : Int) }
  else if (sc T 2 0).1 = 2 then { zMsg with kind := 3, pw := (scRp T (sc T 2 0).2).1.w, ps := (scRp T (sc T 2 0).2).1.s, pe := (scRp T (sc T 2 0).2).1.e, b0 := (scRp T (sc T 2 0).2).1.b0, b1 := (scRp T (sc T 2 0).2).1.b1, b2 := (scRp T (sc T 2 0).2).1.b2 }
  else { zMsg with kind := 4, se := (scSe T (sc T 2 0).2).1.e, sb := (scSe T (sc T 2 0).2).1.b, ss := (scSe T (sc T 2 0).2).1.s, tx := strB (scSe T (sc T 2 0).2).1.tx }
theorem scMsg_eq {T : List Bool} {p : Msg × Nat} (h : tkMsg T = some p) : scMsg T = p.1 := by
  unfold tkMsg at h
  obtain ⟨k, hk, h⟩ := bind_some h
  have hk' := sc_eq hk
  unfold scMsg
  rw [hk']
  split at h
  · rename_i h0
    rw [if_pos h0]
    obtain ⟨x, hx, rfl⟩ := map_some h
    unfold tkRk at hx
    obtain ⟨a, h1, hx⟩ := bind_some hx
    obtain ⟨b, h2, hx⟩ := bind_some hx
    obtain ⟨c, h3, hx⟩ := bind_some hx
    obtain ⟨d, h4, hx⟩ := bind_some hx
    obtain ⟨e, h5, rfl⟩ := map_some hx
    unfold scRk
    rw [sc_eq h1, scSeats_eq h2, scSeats_eq h3, sc_eq h4, scList_eq (fun n p h => scItem_eq h) _ _ _ h5]
  · rename_i h0
    rw [if_neg h0]
    split at h
    · rename_i h0
      rw [if_pos h0]
      obtain ⟨a, h1, h⟩ := bind_some h
      obtain ⟨b, h2, rfl⟩ := map_some h
      rw [sc_eq h1, sc_eq h2]
    · rename_i h0
      rw [if_neg h0]
      split at h
      · rename_i h0
        rw [if_pos h0]
        obtain ⟨x, hx, rfl⟩ := map_some h
        unfold tkRp at hx
        obtain ⟨a, h1, hx⟩ := bind_some hx
        obtain ⟨b, h2, hx⟩ := bind_some hx
        obtain ⟨c, h3, hx⟩ := bind_some hx
        obtain ⟨e, h5, rfl⟩ := map_some hx
        unfold scRp
        rw [sc_eq h1, sc_eq h2, sc_eq h3, scList_eq (fun n p h => scBox_eq h) _ _ _ h5]
      · rename_i h0
        rw [if_neg h0]
        obtain ⟨x, hx, rfl⟩ := map_some h
        unfold tkSe at hx
        obtain ⟨a, h1, hx⟩ := bind_some hx
        obtain ⟨b, h2, hx⟩ := bind_some hx
        obtain ⟨c, h3, hx⟩ := bind_some hx
        obtain ⟨e, h5, rfl⟩ := map_some hx
        unfold scSe
        rw [sc_eq h1, scKey_eq h2, sc_eq h3, scList_eq (fun n p h => sc_eq h) _ _ _ h5]
/-- The reference's answer is the program's. -/
theorem dec_same (s : ByteArray) : (if goodB (scMsg (Tb s)) = true ∧ encT (scMsg (Tb s)) = s then (scMsg (Tb s), (0 : Int)) else (zMsg, 13)) = decV s := by
  by_cases h : (decV s).2 = 0
  · obtain ⟨x, hx⟩ : ∃ x, decV s = (x, 0) := ⟨(decV s).1, Prod.ext rfl h⟩
    have h1 := enc_dec hx
    have h2 : scMsg (Tb s) = x := by
      unfold decV rdRes at hx
      cases hm : tkMsg (Tb s) with
      | none => rw [hm] at hx; simp at hx
      | some p =>
        rw [hm] at hx
        dsimp only at hx
        split at hx
        · rw [scMsg_eq hm]; exact (Prod.mk.inj hx).1
        · simp at hx
    rw [h2, if_pos h1, hx]
  · rw [dec_bad h]
    split
    · rename_i h1
      have this : decV (encT (scMsg (Tb s))) = (scMsg (Tb s), 0) := dec_enc h1.1
      rw [h1.2] at this
      rw [this] at h
      exact absurd rfl h
    · rfl
set_option maxHeartbeats 8000000 in
theorem scmsg_ok (F : Mem) (x r : Nat) (g : Option (Nat × Nat)) (T : List Bool) (hg : g = none ↔ T = []) (hT : T.length ≤ 35184372088832) :
    FT Try.prog 50 [.pointer (some ⟨x, 0, none⟩)].toArray F (scX x r g T 0 []) (fun e H => ∃ gL gJ gI, MsgAt (scMsg T) gL gJ gI ∧ e = .returned (.agg (msgL (scMsg T) (slsOf gL gJ gI)).toArray) ∧ H = ownM gL gJ gI (scMsg T)) := by
  refine FT.of_body Try.func50 rfl Try.ntmps50 (by simp) fun C hC => ?_
  subst hC
  conv => whnf
  intro c
  conv => whnf
  refine CallS.mk Try.call73 ⟨[_, _, _], [_], _, Sub.sel [1, 2, 3, 0] rfl, fun F' hF' => scnum_ok F' x r g T hg hT 0 2 (by omega) (by omega) (Nat.zero_le _), ?_⟩
  have hn0 := sc_le (T := T) (W := 2) (Nat.zero_le _)
  have hk4 := sc_lt (T := T) (W := 2) (n := 0)
  unfold scMsg
  generalize sc T 2 0 = k at hn0 hk4 ⊢
  obtain ⟨kv, kp⟩ := k
  dsimp only at hn0 hk4
  rintro e A' ⟨rfl, rfl⟩
  have h4 : kv = 0 ∨ kv = 1 ∨ kv = 2 ∨ kv = 3 := by omega
  rcases h4 with rfl | rfl | rfl | rfl
  · rw [if_pos rfl]
    unfold scRk
    conv => whnf
    refine ArI.to64 1 (by omega) (by omega) ?_
    conv => whnf
    intro d
    conv => whnf
    refine StoreV.c rfl rfl (Nat.le_of_ble_eq_true rfl) rfl ?_
    conv => whnf
    refine LoadV.s rfl rfl ?_
    conv => whnf
    refine CallS.mk Try.call73 ⟨[_, _, _], [_, _], _, Sub.sel [1, 2, 3, 0, 4] rfl, fun F' hF' => scnum_ok F' x r g T hg hT kp 8 (by omega) (by omega) hn0, ?_⟩
    have hn1 := sc_le (W := 8) hn0
    generalize sc T 8 kp = a at hn1 ⊢
    rintro e A' ⟨rfl, rfl⟩
    conv => whnf
    refine (show StoreV _ _ _ ⟨d, 1, none⟩ _ _ _ from ?_)
    refine StoreV.c rfl rfl (Nat.le_of_ble_eq_true rfl) rfl ?_
    conv => whnf
    refine CallS.mk Try.call74 ⟨[_, _, _], [_, _], _, Sub.sel [0, 1, 2, 3, 4] rfl, fun F' hF' => scseats_ok F' x r g T hg hT a.2 hn1, ?_⟩
    have hn2 := scSeats_le hn1
    generalize scSeats T a.2 = xb at hn2 ⊢
    rintro e A' ⟨gL, hgL, rfl, rfl⟩
    conv => whnf
    refine (show StoreV _ _ _ ⟨d, 2, none⟩ _ _ _ from ?_)
    refine StoreV.c rfl rfl (Nat.le_of_ble_eq_true rfl) rfl ?_
    conv => whnf
    refine CallS.mk Try.call74 ⟨[_, _, _], [_, _, _], _, Sub.sel [0, 1, 2, 3, 4, 5] rfl, fun F' hF' => scseats_ok F' x r g T hg hT xb.2 hn2, ?_⟩
    have hn3 := scSeats_le hn2
    generalize scSeats T xb.2 = xc at hn3 ⊢
    rintro e A' ⟨gJ, hgJ, rfl, rfl⟩
    conv => whnf
    refine (show StoreV _ _ _ ⟨d, 3, none⟩ _ _ _ from ?_)
    refine StoreV.c rfl rfl (Nat.le_of_ble_eq_true rfl) rfl ?_
    conv => whnf
    refine CallS.mk Try.call73 ⟨[_, _, _], [_, _, _, _], _, Sub.sel [0, 1, 2, 3, 4, 5, 6] rfl, fun F' hF' => scnum_ok F' x r g T hg hT xc.2 11 (by omega) (by omega) hn3, ?_⟩
    have hn4 := sc_le (W := 11) hn3
    have hd11 := sc_lt (T := T) (W := 11) (n := xc.2)
    generalize sc T 11 xc.2 = xd at hn4 hd11 ⊢
    rintro e A' ⟨rfl, rfl⟩
    conv => whnf
    refine LoopI.by_state (σ := Nat × (List Item × Nat) × Option (Nat × Nat)) (fun y => [(0, .pointer (some ⟨x, 0, none⟩)), (2, .pointer (some ⟨c, 0, none⟩)), (3, .pointer (some ⟨d, 0, none⟩)), (4, .int .i64 (xd.1 : Int)), (5, .int .i64 (y.1 : Int))])
      (fun y => scX x r g T y.2.1.2 [ownS gL xb.1, ownS gJ xc.1, ownI y.2.2 y.2.1.1, .cells d (msgL { zMsg with kind := 1, ep := (a.1 : Int), L := xb.1, J := xc.1, I := y.2.1.1 } (slsOf gL gJ y.2.2)) 38 (0, 0), .cells c (msgL zMsg zSls) 38 (0, 0)])
      (fun y => y.1 ≤ xd.1 ∧ scList (scItem T) y.1 xd.2 = y.2.1 ∧ (y.2.2 = none ↔ y.2.1.1 = [])) (fun y => xd.1 - y.1) (0, ([], xd.2), none) ⟨Nat.zero_le _, rfl, by simp⟩ ⟨rfl, rfl, rfl, rfl, rfl, trivial⟩ (Sub.trans (Sub.nil 55 6) (Sub.sel [1, 2, 3, 5, 4, 0, 6, 7] rfl)) ?_
    rintro ⟨i, ⟨xs, n2⟩, gs⟩ f0 ⟨hi, hx, hgs⟩
    dsimp only at hi hx hgs ⊢
    have hle := scList_le (fun n h => scItem_le (T := T) h) i xd.2 hn4
    have hstep : scList (scItem T) (i + 1) xd.2 = (xs ++ [(scItem T n2).1], (scItem T n2).2) := by
      show ((scList (scItem T) i xd.2).1 ++ [(scItem T (scList (scItem T) i xd.2).2).1], (scItem T (scList (scItem T) i xd.2).2).2) = _
      rw [hx]
    rw [hx] at hle
    dsimp only at hle
    obtain ⟨hn5, hxl⟩ := hle
    conv => whnf
    refine cond_dec (fun h => ?_) (fun h => ?_)
    · conv => whnf
      refine CallS.mk Try.call73 ⟨[_, _, _], [_, _, _, _, _], _, Sub.sel [0, 1, 2, 3, 4, 5, 6, 7] rfl, fun F' hF' => scnum_ok F' x r g T hg hT n2 5 (by omega) (by omega) hn5, ?_⟩
      have hn6 := sc_le (W := 5) hn5
      unfold scItem at hstep
      generalize sc T 5 n2 = p at hn6 hstep ⊢
      rintro e A' ⟨rfl, rfl⟩
      conv => whnf
      refine CallS.mk Try.call73 ⟨[_, _, _], [_, _, _, _, _], _, Sub.sel [0, 1, 2, 3, 4, 5, 6, 7] rfl, fun F' hF' => scnum_ok F' x r g T hg hT p.2 7 (by omega) (by omega) hn6, ?_⟩
      have hn7 := sc_le (W := 7) hn6
      generalize sc T 7 p.2 = q at hn7 hstep ⊢
      rintro e A' ⟨rfl, rfl⟩
      conv => whnf
      refine SL.Late.drawLate [6, 7, 8, 9, 12] [2] [12] [] [_] (by kernel_rfl) (by kernel_rfl) (by kernel_rfl) (by kernel_rfl) (by kernel_rfl) (by kernel_rfl) (by kernel_rfl) (Sub.sel [] rfl) (Sub.sel [6] rfl) ?_
      conv => whnf
      refine (show LoadV _ _ _ ⟨d, 4, none⟩ _ _ from ?_)
      refine LoadV.s rfl rfl (forceV_of ?_)
      conv => whnf
      refine CallS.mk Try.call75 ⟨[_, _, _], [_, _, _, _, _], _, Sub.sel [0, 1, 2, 3, 4, 5, 6, 7] rfl, fun F' hF' => scbox_ok F' x r g T hg hT q.2 hn7, ?_⟩
      generalize scBox T q.2 = x8 at hstep ⊢
      rintro e A' ⟨rfl, rfl⟩
      conv => whnf
      refine ⟨⟨Sub.sel [] rfl, fun _ => Sub.sel [6] rfl⟩, ?_⟩
      conv => whnf
      refine ⟨⟨Sub.sel [] rfl, fun _ => Sub.sel [6] rfl⟩, ?_⟩
      conv => whnf
      intro bl
      conv => whnf
      refine ⟨⟨Sub.sel [] rfl, fun _ => Sub.sel [7] rfl⟩, ?_⟩
      conv => whnf
      refine BuiltV.append (sv := svOf gs xs.length) (m := 1) Try.underlying23 rfl rfl rfl rfl (by decide) (Row.cells 6) rfl (by decide) rfl (by show (xs.length + 1) * 48 ≤ _; omega) (by omega) fun gb gc => ?_
      conv => whnf
      refine ⟨⟨Sub.sel [] rfl, fun _ => Sub.sel [7] rfl⟩, ?_⟩
      conv => whnf
      refine (show StoreV _ _ _ ⟨d, 4, none⟩ _ _ _ from ?_)
      refine StoreV.c rfl rfl (Nat.le_of_ble_eq_true rfl) rfl ?_
      conv => whnf
      refine ⟨⟨Sub.sel [] rfl, fun h => by cases h⟩, ?_⟩
      conv => whnf
      refine ArI.to64 ((i + 1 : Nat) : Int) (by omega) (by omega) ?_
      conv => whnf
      refine ⟨(i + 1, (xs ++ [((p.1 : Int), (q.1 : Int), x8.1)], x8.2), some (gb, gc)), _, by dsimp only; omega, Sub.sel [1, 2, 3, 4, 5, 6, 7, 8] rfl, ⟨by dsimp only; omega, hstep, by simp⟩, ⟨rfl, rfl, rfl, rfl, rfl, trivial⟩, ?_⟩
      dsimp only [ownI, msgL, rkV, slsOf]
      rw [own_snocF itemF]
      simp only [List.length_append]
      rfl
    · have hie : i = xd.1 := by omega
      rw [← hie, hx]
      conv => whnf
      refine LoadV.a 26 rfl (Nat.le_of_ble_eq_true rfl) ?_
      conv => whnf
      refine StoreV.c rfl rfl (Nat.le_of_ble_eq_true rfl) rfl ?_
      conv => whnf
      refine RetI.cell Try.results50 rfl ?_
      refine LoadV.a 26 rfl (Nat.le_of_ble_eq_true rfl) ?_
      conv => whnf
      exact ⟨_, Sub.sel [3, 4, 5] rfl, gL, gJ, gs, ⟨hgL, hgJ, hgs⟩, rfl, rfl⟩
  · rw [if_neg (by simp), if_pos rfl]
    conv => whnf
    refine ArI.to64 2 (by omega) (by omega) ?_
    conv => whnf
    intro d
    conv => whnf
    refine StoreV.c rfl rfl (Nat.le_of_ble_eq_true rfl) rfl ?_
    conv => whnf
    refine LoadV.s rfl rfl ?_
    conv => whnf
    refine CallS.mk Try.call73 ⟨[_, _, _], [_, _], _, Sub.sel [1, 2, 3, 0, 4] rfl, fun F' hF' => scnum_ok F' x r g T hg hT kp 8 (by omega) (by omega) hn0, ?_⟩
    have hn1 := sc_le (W := 8) hn0
    generalize sc T 8 kp = a at hn1 ⊢
    rintro e A' ⟨rfl, rfl⟩
    conv => whnf
    refine (show StoreV _ _ _ ⟨d, 5, none⟩ _ _ _ from ?_)
    refine StoreV.c rfl rfl (Nat.le_of_ble_eq_true rfl) rfl ?_
    conv => whnf
    refine CallS.mk Try.call73 ⟨[_, _, _], [_, _], _, Sub.sel [0, 1, 2, 3, 4] rfl, fun F' hF' => scnum_ok F' x r g T hg hT a.2 8 (by omega) (by omega) hn1, ?_⟩
    generalize sc T 8 a.2 = b
    rintro e A' ⟨rfl, rfl⟩
    conv => whnf
    refine (show StoreV _ _ _ ⟨d, 6, none⟩ _ _ _ from ?_)
    refine StoreV.c rfl rfl (Nat.le_of_ble_eq_true rfl) rfl ?_
    conv => whnf
    refine LoadV.a 26 rfl (Nat.le_of_ble_eq_true rfl) ?_
    conv => whnf
    refine StoreV.c rfl rfl (Nat.le_of_ble_eq_true rfl) rfl ?_
    conv => whnf
    refine RetI.cell Try.results50 rfl ?_
    refine LoadV.a 26 rfl (Nat.le_of_ble_eq_true rfl) ?_
    conv => whnf
    exact ⟨_, Sub.trans zero_owns (Sub.sel [0, 1, 2] rfl), none, none, none, none_at rfl rfl rfl, rfl, rfl⟩
  · rw [if_neg (by simp), if_neg (by simp), if_pos rfl]
    unfold scRp
    conv => whnf
    refine ArI.to64 3 (by omega) (by omega) ?_
    conv => whnf
    intro d
    conv => whnf
    refine StoreV.c rfl rfl (Nat.le_of_ble_eq_true rfl) rfl ?_
    conv => whnf
    refine LoadV.s rfl rfl ?_
    conv => whnf
    refine CallS.mk Try.call73 ⟨[_, _, _], [_, _], _, Sub.sel [1, 2, 3, 0, 4] rfl, fun F' hF' => scnum_ok F' x r g T hg hT kp 8 (by omega) (by omega) hn0, ?_⟩
    have hn1 := sc_le (W := 8) hn0
    generalize sc T 8 kp = a at hn1 ⊢
    rintro e A' ⟨rfl, rfl⟩
    conv => whnf
    refine (show StoreV _ _ _ ⟨d, 7, none⟩ _ _ _ from ?_)
    refine StoreV.c rfl rfl (Nat.le_of_ble_eq_true rfl) rfl ?_
    conv => whnf
    refine CallS.mk Try.call73 ⟨[_, _, _], [_, _], _, Sub.sel [0, 1, 2, 3, 4] rfl, fun F' hF' => scnum_ok F' x r g T hg hT a.2 6 (by omega) (by omega) hn1, ?_⟩
    have hn2 := sc_le (W := 6) hn1
    generalize sc T 6 a.2 = b at hn2 ⊢
    rintro e A' ⟨rfl, rfl⟩
    conv => whnf
    refine (show StoreV _ _ _ ⟨d, 8, none⟩ _ _ _ from ?_)
    refine StoreV.c rfl rfl (Nat.le_of_ble_eq_true rfl) rfl ?_
    conv => whnf
    refine CallS.mk Try.call73 ⟨[_, _, _], [_, _], _, Sub.sel [0, 1, 2, 3, 4] rfl, fun F' hF' => scnum_ok F' x r g T hg hT b.2 8 (by omega) (by omega) hn2, ?_⟩
    have hn3 := sc_le (W := 8) hn2
    generalize sc T 8 b.2 = c3 at hn3 ⊢
    rintro e A' ⟨rfl, rfl⟩
    conv => whnf
    refine (show StoreV _ _ _ ⟨d, 9, none⟩ _ _ _ from ?_)
    refine StoreV.c rfl rfl (Nat.le_of_ble_eq_true rfl) rfl ?_
    conv => whnf
    refine LoopI.by_state (σ := Nat × (List Bx × Nat)) (fun y => [(0, .pointer (some ⟨x, 0, none⟩)), (2, .pointer (some ⟨c, 0, none⟩)), (3, .pointer (some ⟨d, 0, none⟩)), (8, .int .i64 (y.1 : Int))])
      (fun y => scX x r g T y.2.2 [.cells d (msgL { zMsg with kind := 3, pw := (a.1 : Int), ps := (b.1 : Int), pe := (c3.1 : Int), b0 := y.2.1.getD 0 zb, b1 := y.2.1.getD 1 zb, b2 := y.2.1.getD 2 zb } zSls) 38 (0, 0), .cells c (msgL zMsg zSls) 38 (0, 0)])
      (fun y => y.1 ≤ 3 ∧ scList (scBox T) y.1 c3.2 = y.2) (fun y => 3 - y.1) (0, ([], c3.2)) ⟨Nat.zero_le _, rfl⟩ ⟨rfl, rfl, rfl, rfl, trivial⟩ (Sub.refl _) ?_
    rintro ⟨i, ⟨xs, n2⟩⟩ f0 ⟨hi, hx⟩
    dsimp only at hi hx ⊢
    have hle := scList_le (fun n h => scBox_le (T := T) h) i c3.2 hn3
    have hstep : scList (scBox T) (i + 1) c3.2 = (xs ++ [(scBox T n2).1], (scBox T n2).2) := by
      show ((scList (scBox T) i c3.2).1 ++ [(scBox T (scList (scBox T) i c3.2).2).1], (scBox T (scList (scBox T) i c3.2).2).2) = _
      rw [hx]
    rw [hx] at hle
    dsimp only at hle
    obtain ⟨hn5, hxl⟩ := hle
    conv => whnf
    refine cond_dec (fun h => ?_) (fun h => ?_)
    · conv => whnf
      refine CallS.mk Try.call75 ⟨[_, _, _], [_, _], _, Sub.sel [0, 1, 2, 3, 4] rfl, fun F' hF' => scbox_ok F' x r g T hg hT n2 hn5, ?_⟩
      generalize scBox T n2 = p at hstep ⊢
      rintro e A' ⟨rfl, rfl⟩
      have h3 : i = 0 ∨ i = 1 ∨ i = 2 := by omega
      conv => whnf
      refine ⟨by omega, ?_⟩
      conv => whnf
      rcases h3 with rfl | rfl | rfl
      · obtain rfl := len0 hxl
        refine (show StoreV _ _ _ ⟨d, 10, none⟩ _ _ _ from ?_)
        refine StoreV.c rfl rfl (Nat.le_of_ble_eq_true rfl) rfl ?_
        conv => whnf
        refine ArI.to64 ((0 + 1 : Nat) : Int) (by omega) (by omega) ?_
        conv => whnf
        exact ⟨(0 + 1, ([] ++ [p.1], p.2)), _, by dsimp only; omega, Sub.refl _, ⟨by dsimp only; omega, hstep⟩, ⟨rfl, rfl, rfl, rfl, trivial⟩, rfl⟩
      · obtain ⟨x0, rfl⟩ := len1 hxl
        refine (show StoreV _ _ _ ⟨d, 14, none⟩ _ _ _ from ?_)
        refine StoreV.c rfl rfl (Nat.le_of_ble_eq_true rfl) rfl ?_
        conv => whnf
        refine ArI.to64 ((1 + 1 : Nat) : Int) (by omega) (by omega) ?_
        conv => whnf
        exact ⟨(1 + 1, ([x0] ++ [p.1], p.2)), _, by dsimp only; omega, Sub.refl _, ⟨by dsimp only; omega, hstep⟩, ⟨rfl, rfl, rfl, rfl, trivial⟩, rfl⟩
      · obtain ⟨x0, x1, rfl⟩ := len2 hxl
        refine (show StoreV _ _ _ ⟨d, 18, none⟩ _ _ _ from ?_)
        refine StoreV.c rfl rfl (Nat.le_of_ble_eq_true rfl) rfl ?_
        conv => whnf
        refine ArI.to64 ((2 + 1 : Nat) : Int) (by omega) (by omega) ?_
        conv => whnf
        exact ⟨(2 + 1, ([x0, x1] ++ [p.1], p.2)), _, by dsimp only; omega, Sub.refl _, ⟨by dsimp only; omega, hstep⟩, ⟨rfl, rfl, rfl, rfl, trivial⟩, rfl⟩
    · obtain rfl : i = 3 := by omega
      rw [hx]
      conv => whnf
      refine LoadV.a 26 rfl (Nat.le_of_ble_eq_true rfl) ?_
      conv => whnf
      refine StoreV.c rfl rfl (Nat.le_of_ble_eq_true rfl) rfl ?_
      conv => whnf
      refine RetI.cell Try.results50 rfl ?_
      refine LoadV.a 26 rfl (Nat.le_of_ble_eq_true rfl) ?_
      conv => whnf
      exact ⟨_, Sub.trans zero_owns (Sub.sel [0, 1, 2] rfl), none, none, none, none_at rfl rfl rfl, rfl, rfl⟩
  · rw [if_neg (by simp), if_neg (by simp), if_neg (by simp)]
    unfold scSe
    conv => whnf
    refine ArI.to64 4 (by omega) (by omega) ?_
    conv => whnf
    intro d
    conv => whnf
    refine StoreV.c rfl rfl (Nat.le_of_ble_eq_true rfl) rfl ?_
    conv => whnf
    refine LoadV.s rfl rfl ?_
    conv => whnf
    refine CallS.mk Try.call73 ⟨[_, _, _], [_, _], _, Sub.sel [1, 2, 3, 0, 4] rfl, fun F' hF' => scnum_ok F' x r g T hg hT kp 8 (by omega) (by omega) hn0, ?_⟩
    have hn1 := sc_le (W := 8) hn0
    generalize sc T 8 kp = a at hn1 ⊢
    rintro e A' ⟨rfl, rfl⟩
    conv => whnf
    refine (show StoreV _ _ _ ⟨d, 22, none⟩ _ _ _ from ?_)
    refine StoreV.c rfl rfl (Nat.le_of_ble_eq_true rfl) rfl ?_
    conv => whnf
    refine CallS.mk Try.call76 ⟨[_, _, _], [_, _], _, Sub.sel [0, 1, 2, 3, 4] rfl, fun F' hF' => sckey_ok F' x r g T hg hT a.2 hn1, ?_⟩
    have hn2 := scKey_le hn1
    generalize scKey T a.2 = b at hn2 ⊢
    rintro e A' ⟨rfl, rfl⟩
    conv => whnf
    refine (show StoreV _ _ _ ⟨d, 23, none⟩ _ _ _ from ?_)
    refine StoreV.c rfl rfl (Nat.le_of_ble_eq_true rfl) rfl ?_
    conv => whnf
    refine CallS.mk Try.call73 ⟨[_, _, _], [_, _], _, Sub.sel [0, 1, 2, 3, 4] rfl, fun F' hF' => scnum_ok F' x r g T hg hT b.2 7 (by omega) (by omega) hn2, ?_⟩
    have hn3 := sc_le (W := 7) hn2
    have hc7 := sc_lt (T := T) (W := 7) (n := b.2)
    generalize sc T 7 b.2 = c3 at hn3 hc7 ⊢
    rintro e A' ⟨rfl, rfl⟩
    conv => whnf
    refine LoopI.by_state (σ := Nat × (List Nat × Nat) × Option (Nat × Nat)) (fun y => [(0, .pointer (some ⟨x, 0, none⟩)), (2, .pointer (some ⟨c, 0, none⟩)), (3, .pointer (some ⟨d, 0, none⟩)), (9, .int .i64 (c3.1 : Int)), (10, svOf y.2.2 y.2.1.1.length), (11, .int .i64 (y.1 : Int))])
      (fun y => scX x r g T y.2.1.2 [.own (svOf y.2.2 y.2.1.1.length) y.2.1.1.length 5 1 (bytesV y.2.1.1), .cells d (msgL { zMsg with kind := 4, se := (a.1 : Int), sb := b.1.1, ss := b.1.2 } zSls) 38 (0, 0), .cells c (msgL zMsg zSls) 38 (0, 0)])
      (fun y => y.1 ≤ c3.1 ∧ scList (sc T 8) y.1 c3.2 = y.2.1 ∧ (y.2.2 = none ↔ y.2.1.1 = [])) (fun y => c3.1 - y.1) (0, ([], c3.2), none) ⟨Nat.zero_le _, rfl, by simp⟩ ⟨rfl, rfl, rfl, rfl, rfl, rfl, trivial⟩ (Sub.trans (Sub.nil 5 1) (Sub.sel [1, 2, 3, 0, 4, 5] rfl)) ?_
    rintro ⟨i, ⟨xs, n2⟩, gs⟩ f0 ⟨hi, hx, hgs⟩
    dsimp only at hi hx hgs ⊢
    have hle := scList_le (fun n h => sc_le (T := T) (W := 8) h) i c3.2 hn3
    have hstep : scList (sc T 8) (i + 1) c3.2 = (xs ++ [(sc T 8 n2).1], (sc T 8 n2).2) := by
      show ((scList (sc T 8) i c3.2).1 ++ [(sc T 8 (scList (sc T 8) i c3.2).2).1], (sc T 8 (scList (sc T 8) i c3.2).2).2) = _
      rw [hx]
    rw [hx] at hle
    dsimp only at hle
    obtain ⟨hn5, hxl⟩ := hle
    conv => whnf
    refine cond_dec (fun h => ?_) (fun h => ?_)
    · conv => whnf
      refine CallS.mk Try.call73 ⟨[_, _, _], [_, _, _], _, Sub.sel [0, 1, 2, 3, 4, 5] rfl, fun F' hF' => scnum_ok F' x r g T hg hT n2 8 (by omega) (by omega) hn5, ?_⟩
      have hp8 := sc_lt (T := T) (W := 8) (n := n2)
      generalize sc T 8 n2 = p at hstep hp8 ⊢
      rintro e A' ⟨rfl, rfl⟩
      conv => whnf
      refine ArI.inU8 (by omega) ?_
      conv => whnf
      intro bl
      conv => whnf
      refine BuiltV.append (sv := svOf gs xs.length) (m := 1) Try.underlying48 rfl rfl rfl rfl (by decide) (Row.cells 1) rfl (by decide) rfl (by show (xs.length + 1) * 1 ≤ _; omega) (by omega) fun gb gc => ?_
      conv => whnf
      refine ArI.to64 ((i + 1 : Nat) : Int) (by omega) (by omega) ?_
      conv => whnf
      refine ⟨(i + 1, (xs ++ [p.1], p.2), some (gb, gc)), _, by dsimp only; omega, Sub.sel [1, 2, 3, 4, 5, 6] rfl, ⟨by dsimp only; omega, hstep, by simp⟩, ⟨rfl, rfl, rfl, rfl, ?_, rfl, trivial⟩, ?_⟩
      · dsimp only; rw [List.length_append]; rfl
      · dsimp only [bytesV]; rw [own_snoc (fun n : Nat => Value.int .u8 (n : Int))]; rfl
    · have hie : i = c3.1 := by omega
      rw [← hie, hx]
      cases gs with
      | none =>
        have hxn : xs = [] := hgs.1 rfl
        subst hxn
        conv => whnf
        refine DoV.nil_string Try.underlying48 Try.underlying5 Try.underlying9 ?_
        conv => whnf
        refine (show StoreV _ _ _ ⟨d, 25, none⟩ _ _ _ from ?_)
        refine StoreV.c rfl rfl (Nat.le_of_ble_eq_true rfl) rfl ?_
        conv => whnf
        refine LoadV.a 26 rfl (Nat.le_of_ble_eq_true rfl) ?_
        conv => whnf
        refine StoreV.c rfl rfl (Nat.le_of_ble_eq_true rfl) rfl ?_
        conv => whnf
        refine RetI.cell Try.results50 rfl ?_
        refine LoadV.a 26 rfl (Nat.le_of_ble_eq_true rfl) ?_
        conv => whnf
        exact ⟨_, Sub.trans zero_owns (Sub.sel [0, 1, 2] rfl), none, none, none, none_at rfl rfl rfl, rfl, rfl⟩
      | some gg =>
        obtain ⟨gb, gc⟩ := gg
        have e0 : svOf (some (gb, gc)) xs.length = .slice (some ⟨gb, 0, none⟩) xs.length gc := rfl
        rw [e0]
        conv => whnf
        refine DoV.bytes_string (l := xs) Try.underlying48 Try.underlying5 Try.underlying9 rfl ?_ ?_
        · have := Row.own (C := C) (H := scX x r g T n2 [.own (.slice (some ⟨gb, 0, none⟩) xs.length gc) xs.length 5 1 (bytesV xs), .cells d (msgL { zMsg with kind := 4, se := (a.1 : Int), sb := b.1.1, ss := b.1.2 } zSls) 38 (0, 0), .cells c (msgL zMsg zSls) 38 (0, 0)]) (b := gb) (o := 0) xs.length
          rwa [List.drop_zero, List.take_of_length_le (by simp)] at this
        conv => whnf
        refine (show StoreV _ _ _ ⟨d, 25, none⟩ _ _ _ from ?_)
        refine StoreV.c rfl rfl (Nat.le_of_ble_eq_true rfl) rfl ?_
        conv => whnf
        refine LoadV.a 26 rfl (Nat.le_of_ble_eq_true rfl) ?_
        conv => whnf
        refine StoreV.c rfl rfl (Nat.le_of_ble_eq_true rfl) rfl ?_
        conv => whnf
        refine RetI.cell Try.results50 rfl ?_
        refine LoadV.a 26 rfl (Nat.le_of_ble_eq_true rfl) ?_
        conv => whnf
        exact ⟨_, Sub.trans zero_owns (Sub.sel [0, 1, 2] rfl), none, none, none, none_at rfl rfl rfl, rfl, rfl⟩
end Go.Proofs.Ytlbdnkkaacccoaa
