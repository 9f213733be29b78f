/- The program's Decode. -/
import Derived.Test.YtlbdnkkaacccoaaWire8
namespace Go.Proofs.Ytlbdnkkaacccoaa
set_option linter.unusedVariables false
set_option linter.unusedSimpArgs false
set_option maxRecDepth 100000
open SL Go.RowKit Go.Maps
def decV (s : ByteArray) : Msg × Int := if (rdRes (Tb s)).2 && goodB (rdRes (Tb s)).1 then ((rdRes (Tb s)).1, 0) else (zMsg, 13)
/-- What Decode answers. -/
def DcM (x : Msg × Int) : Ending → Heap → Prop := fun e H => ∃ gL gJ gI, MsgAt x.1 gL gJ gI ∧ e = .returned (.tuple #[.agg (msgL x.1 (slsOf gL gJ gI)).toArray, .int .i64 x.2]) ∧ H = ownM gL gJ gI x.1
theorem tkMsg_sz {T : List Bool} {p : Msg × Nat} (h : tkMsg T = some p) : p.1.L.length < 128 ∧ p.1.J.length < 128 ∧ p.1.I.length < 2048 ∧ p.1.tx.size < 128 := by
  unfold tkMsg at h
  obtain ⟨k, hk, h⟩ := bind_some h
  have hn : k.2 ≤ T.length := tk_le hk (by omega)
  split at h
  · obtain ⟨x, hx, rfl⟩ := map_some h
    unfold tkRk at hx
    obtain ⟨a, h1, hx⟩ := bind_some hx
    obtain ⟨b, h2, hx⟩ := bind_some hx
    obtain ⟨c, h3, hx⟩ := bind_some hx
    obtain ⟨d, h4, hx⟩ := bind_some hx
    obtain ⟨e, h5, rfl⟩ := map_some hx
    have n1 := tk_le h1 hn
    have n2 := tkSeats_le h2 n1
    have n3 := tkSeats_le h3 n2.1
    have n4 := tk_le h4 n3.1
    refine ⟨n2.2, n3.2, ?_, show 0 < 128 by decide⟩
    rw [(tkList_le (fun n p h hn => tkItem_le h hn) _ _ _ h5 n4).2]
    exact (tk_lt h4).1
  · split at h
    · obtain ⟨a, _, h⟩ := bind_some h
      obtain ⟨b, _, rfl⟩ := map_some h
      exact ⟨show 0 < 128 by decide, show 0 < 128 by decide, show 0 < 2048 by decide, show 0 < 128 by decide⟩
    · split at h
      · obtain ⟨b, _, rfl⟩ := map_some h
        exact ⟨show 0 < 128 by decide, show 0 < 128 by decide, show 0 < 2048 by decide, show 0 < 128 by decide⟩
      · obtain ⟨x, hx, rfl⟩ := map_some h
        unfold tkSe at hx
        obtain ⟨a, h1, hx⟩ := bind_some hx
        obtain ⟨b, h2, hx⟩ := bind_some hx
        obtain ⟨c, h3, hx⟩ := bind_some hx
        obtain ⟨e, h5, rfl⟩ := map_some hx
        refine ⟨show 0 < 128 by decide, show 0 < 128 by decide, show 0 < 2048 by decide, ?_⟩
        dsimp only
        rw [strB_size, (tkList_le (fun n p h hn => tk_le h hn) _ _ _ h5 (tk_le h3 (tkKey_spec h2 (tk_le h1 hn)).2.2.2)).2]
        exact (tk_lt h3).1
theorem rdRes_sz (T : List Bool) : Sz (rdRes T).1 := by
  unfold rdRes
  cases h : tkMsg T with
  | none => exact ⟨Nat.zero_le _, Nat.zero_le _, Nat.zero_le _, Nat.zero_le _⟩
  | some p =>
    have := tkMsg_sz h
    exact ⟨by dsimp only; omega, by dsimp only; omega, by dsimp only; omega, by dsimp only; omega⟩
theorem at_nil {g : Option (Nat × Nat)} {α : Type} {l : List α} (h : g = none ↔ l = []) : g = none → l.length = 0 := fun e => by rw [h.1 e]; rfl
theorem dec_ok (F : Mem) (s : ByteArray) (hs : s.size ≤ 140737488355328) : FT Try.prog 13 [.string s].toArray F [] (DcM (decV s)) := by
  refine FT.of_body Try.func13 rfl Try.ntmps13 (by simp) fun C hC => ?_
  subst hC
  conv => whnf
  intro c
  conv => whnf
  refine CallS.mk Try.call47 ⟨[], _, _, Sub.refl _, fun F' hF' => bRead_ok F' s, ?_⟩
  rintro e A' ⟨r, rfl, rfl⟩
  conv => whnf
  refine CallS.mk Try.call48 ⟨[_], [_], _, Sub.sel [0, 1] rfl, fun F' hF' => rread_ok F' r s hs, ?_⟩
  have hz := rdRes_sz (Tb s)
  rintro e A' ⟨gL, gJ, gI, hat, rfl, rfl⟩
  have hdec : decV s = if (rdRes (Tb s)).2 && goodB (rdRes (Tb s)).1 then ((rdRes (Tb s)).1, 0) else (zMsg, 13) := rfl
  rw [hdec]
  generalize rdRes (Tb s) = x at hat hz ⊢
  obtain ⟨x, ok⟩ := x
  dsimp only at hat hz ⊢
  conv => whnf
  intro d
  conv => whnf
  refine StoreV.c rfl rfl (Nat.le_of_ble_eq_true rfl) rfl ?_
  cases ok with
  | false =>
    conv => whnf
    refine StoreV.c rfl rfl (Nat.le_of_ble_eq_true rfl) rfl ?_
    conv => whnf
    refine RetI.cell_tmp Try.results13 rfl rfl ?_
    refine LoadV.a 26 rfl (Nat.le_of_ble_eq_true rfl) ?_
    conv => whnf
    exact ⟨_, Sub.trans (Sub.sel [] rfl) zero_owns, none, none, none, none_at rfl rfl rfl, rfl, rfl⟩
  | true =>
    conv => whnf
    refine LoadV.a 26 rfl (Nat.le_of_ble_eq_true rfl) ?_
    conv => whnf
    refine CallS.mk Try.call9 ⟨[], _, _, Sub.refl _, fun F' hF' => good_ok F' x (slsOf gL gJ gI) ⟨SlF.sv (g := gL) hF' (T := 57) (SL.flat_length seatF_length _) (at_nil hat.L), SlF.sv (g := gJ) hF' (T := 57) (SL.flat_length seatF_length _) (at_nil hat.J), SlF.sv (g := gI) hF' (T := 55) (SL.flat_length itemF_length _) (at_nil hat.I)⟩ hz, ?_⟩
    rintro e A' ⟨rfl, rfl⟩
    cases hg : goodB x with
    | false =>
      conv => whnf
      refine StoreV.c rfl rfl (Nat.le_of_ble_eq_true rfl) rfl ?_
      conv => whnf
      refine RetI.cell_tmp Try.results13 rfl rfl ?_
      refine LoadV.a 26 rfl (Nat.le_of_ble_eq_true rfl) ?_
      conv => whnf
      exact ⟨_, Sub.trans (Sub.sel [] rfl) zero_owns, none, none, none, none_at rfl rfl rfl, rfl, rfl⟩
    | true =>
      conv => whnf
      refine LoadV.a 26 rfl (Nat.le_of_ble_eq_true rfl) ?_
      conv => whnf
      refine StoreV.c rfl rfl (Nat.le_of_ble_eq_true rfl) rfl ?_
      conv => whnf
      refine RetI.cell_tmp Try.results13 rfl rfl ?_
      refine LoadV.a 26 rfl (Nat.le_of_ble_eq_true rfl) ?_
      conv => whnf
      exact ⟨_, Sub.sel [1, 2, 3] rfl, gL, gJ, gI, hat, rfl, rfl⟩
end Go.Proofs.Ytlbdnkkaacccoaa
