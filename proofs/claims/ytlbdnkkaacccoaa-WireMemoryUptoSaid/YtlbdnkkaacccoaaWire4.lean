/- The program's Encode. -/
import Derived.Test.YtlbdnkkaacccoaaWire3
namespace Go.Proofs.Ytlbdnkkaacccoaa
set_option linter.unusedVariables false
set_option linter.unusedSimpArgs false
set_option maxRecDepth 100000
open SL Go.RowKit Go.Maps
/-- What stands behind a message's kind. -/
def restBits (m : Msg) : List Bool :=
  if m.kind = 1 then bitsOf 8 m.ep.toNat ++ (ssBits m.L ++ (ssBits m.J ++ isBits m.I))
  else if m.kind = 2 then bitsOf 8 m.qw.toNat ++ bitsOf 8 m.qe.toNat
  else if m.kind = 3 then bitsOf 8 m.pw.toNat ++ (bitsOf 6 m.ps.toNat ++ (bitsOf 8 m.pe.toNat ++ (bBits m.b0 ++ (bBits m.b1 ++ bBits m.b2))))
  else bitsOf 8 m.se.toNat ++ (kBits m.sb m.ss ++ (bitsOf 7 m.tx.size ++ (txt m.tx).flatMap (bitsOf 8)))
def mBits (m : Msg) : List Bool := bitsOf 2 (m.kind - 1).toNat ++ restBits m
def encV (m : Msg) : ByteArray × Int := if goodB m = true then (strB (packB (mBits m)), 0) else (⟨#[]⟩, 13)
/-- What a right message is, by its kind. -/
theorem good_cases {m : Msg} (h : goodB m = true) : (m.kind = 1 ∧ gRk m = true ∧ e1 m = true ∧ e2 m = true ∧ e3 m = true) ∨ (m.kind = 2 ∧ e0 m = true ∧ gRq m = true ∧ e2 m = true ∧ e3 m = true) ∨ (m.kind = 3 ∧ e0 m = true ∧ e1 m = true ∧ gRp m = true ∧ e3 m = true) ∨ (m.kind = 4 ∧ e0 m = true ∧ e1 m = true ∧ e2 m = true ∧ gSe m = true) := by
  unfold goodB at h
  split at h
  · rename_i hk; simp only [Bool.and_eq_true] at h; exact .inl ⟨hk, h.1.1.1, h.1.1.2, h.1.2, h.2⟩
  · split at h
    · rename_i hk; simp only [Bool.and_eq_true] at h; exact .inr (.inl ⟨hk, h.1.1.1, h.1.1.2, h.1.2, h.2⟩)
    · split at h
      · rename_i hk; simp only [Bool.and_eq_true] at h; exact .inr (.inr (.inl ⟨hk, h.1.1.1, h.1.1.2, h.1.2, h.2⟩))
      · split at h
        · rename_i hk; simp only [Bool.and_eq_true] at h; exact .inr (.inr (.inr ⟨hk, h.1.1.1, h.1.1.2, h.1.2, h.2⟩))
        · cases h
theorem wnumI_ok (F : Mem) (w : Nat) (B : List Bool) (g : Option (Nat × Nat)) (hg : g = none ↔ B = []) (v : Int) (W : Nat) (h1 : 1 ≤ W) (h2 : W ≤ 64) (h0 : 0 ≤ v) (h3 : v.toNat < 2 ^ W) (hB : B.length ≤ 1000000) :
    FT Try.prog 37 [.agg #[.pointer (some ⟨w, 0, none⟩)], .int .i64 v, .int .i64 (W : Int)].toArray F (wrH w B.length g (packB B)) (WrP w (B ++ bitsOf W v.toNat)) := by
  obtain ⟨n, rfl⟩ := Int.eq_ofNat_of_zero_le h0
  simp only [Int.toNat_natCast] at h3 ⊢
  exact wnum_ok F w B g hg n W h1 h2 h3 hB
set_option maxHeartbeats 4000000 in
theorem enc_ok (F : Mem) (m : Msg) (s : Sls) (hr : Rows14 F m s) (hz : Sz m) : FT Try.prog 11 [.agg (msgL m s).toArray].toArray F [] (Ret (.tuple #[.string (encV m).1, .int .i64 (encV m).2])) := by
  refine FT.of_body Try.func11 rfl Try.ntmps11 (by simp) fun C hC => ?_
  subst hC
  conv => whnf
  intro b
  conv => whnf
  refine LoadV.a 26 rfl (Nat.le_of_ble_eq_true rfl) ?_
  conv => whnf
  refine CallS.mk Try.call9 ⟨[], _, _, Sub.refl _, fun F' hF' => good_ok F' m s (hr.ext hF'.F) hz, ?_⟩
  rintro e A' ⟨rfl, rfl⟩
  cases hg : goodB m with
  | false =>
    conv => whnf
    repeat (first | (refine LoadV.s rfl rfl (forceV_of ?_); conv => whnf) | (refine LoadV.s rfl rfl ?_; conv => whnf) | (refine StoreV.c rfl rfl (Nat.le_of_ble_eq_true rfl) rfl ?_; conv => whnf) | (refine LoadV.a _ rfl (Nat.le_of_ble_eq_true rfl) ?_; conv => whnf) | (refine DrawI.quiet (by kernel_rfl) (by kernel_rfl) ?_; conv => whnf) | (refine ArI.in64 (by omega) ?_; conv => whnf) | (refine ArI.inU8 (by omega) ?_; conv => whnf) | (refine ArI.inU64 (by omega) ?_; conv => whnf) | (refine ArI.inU32 (by omega) ?_; conv => whnf) | (refine RetI.one Try.results11 rfl ?_; conv => whnf) | (refine RetI.two Try.results11 rfl rfl ?_; conv => whnf) | (refine RetI.three Try.results11 rfl rfl rfl ?_; conv => whnf) | (refine RetI.none Try.results11 ?_; conv => whnf) | (refine ⟨by first | decide | omega, ?_⟩; conv => whnf))
    exact ⟨_, Sub.sel [] rfl, by simp [encV, hg], rfl⟩
  | true =>
    have hE : encV m = (strB (packB (mBits m)), 0) := by unfold encV; rw [if_pos hg]
    rw [hE]
    conv => whnf
    refine CallS.mk Try.call36 ⟨[], _, _, Sub.refl _, fun F' hF' => bNew_ok F', ?_⟩
    rintro e A' ⟨w, rfl, rfl⟩
    conv => whnf
    intro c
    conv => whnf
    refine StoreV.c rfl rfl (Nat.le_of_ble_eq_true rfl) rfl ?_
    conv => whnf
    refine LoadV.a 1 rfl (Nat.le_of_ble_eq_true rfl) ?_
    conv => whnf
    refine LoadV.s rfl rfl ?_
    conv => whnf
    rcases good_cases hg with ⟨hk, h1, h2, h3, h4⟩ | ⟨hk, h1, h2, h3, h4⟩ | ⟨hk, h1, h2, h3, h4⟩ | ⟨hk, h1, h2, h3, h4⟩
    · simp only [gRk, Bool.and_eq_true, decide_eq_true_eq] at h1
      obtain ⟨⟨⟨q1, q2, q3⟩, q4, q5⟩, q6, q7⟩ := h1
      obtain ⟨q8, q9⟩ := btw_spec q1
      refine ArI.to64 0 (by omega) (by omega) ?_
      conv => whnf
      refine CallS.mk Try.call37 ⟨[_, _], [_, _], _, Sub.sel [1, 2, 0, 3] rfl, fun F' hF' => wnumI_ok F' w [] none (by simp) (0) 2 (by omega) (by omega) (by omega) (by show _ < (4 : Nat); omega) (by simp only [List.length_append, bitsOf_length, kBits_length, bBits_length, List.length_nil, ssBits, flat_length sBits_length]; omega), ?_⟩
      rintro e A' ⟨rfl, g1, hg1, rfl⟩
      conv => whnf
      refine LoadV.s rfl rfl ?_
      conv => whnf
      rw [show (m.kind == 1) = true from by rw [hk]; rfl]
      conv => whnf
      refine LoadV.a 1 rfl (Nat.le_of_ble_eq_true rfl) ?_
      conv => whnf
      refine (show LoadV _ _ _ ⟨b, 1, none⟩ _ _ from ?_)
      refine LoadV.s rfl rfl ?_
      conv => whnf
      refine CallS.mk Try.call37 ⟨[_, _], [_, _], _, Sub.sel [0, 1, 2, 3] rfl, fun F' hF' => wnumI_ok F' w _ g1 hg1 (m.ep) 8 (by omega) (by omega) (by omega) (by show _ < (256 : Nat); omega) (by simp only [List.length_append, bitsOf_length, kBits_length, bBits_length, List.length_nil, ssBits, flat_length sBits_length]; omega), ?_⟩
      rintro e A' ⟨rfl, g2, hg2, rfl⟩
      conv => whnf
      refine LoadV.a 1 rfl (Nat.le_of_ble_eq_true rfl) ?_
      conv => whnf
      refine (show LoadV _ _ _ ⟨b, 2, none⟩ _ _ from ?_)
      refine LoadV.s rfl rfl ?_
      conv => whnf
      refine CallS.mk Try.call38 ⟨[_, _], [_, _], _, Sub.sel [0, 1, 2, 3] rfl, fun F' hF' => wseats_ok F' w _ g2 hg2 s.oL s.cL m.L (hr.L.ext hF'.F) q2 (by omega) (by simp only [List.length_append, bitsOf_length, List.length_nil]; omega), ?_⟩
      rintro e A' ⟨rfl, g3, hg3, rfl⟩
      conv => whnf
      refine LoadV.a 1 rfl (Nat.le_of_ble_eq_true rfl) ?_
      conv => whnf
      refine (show LoadV _ _ _ ⟨b, 3, none⟩ _ _ from ?_)
      refine LoadV.s rfl rfl ?_
      conv => whnf
      refine CallS.mk Try.call38 ⟨[_, _], [_, _], _, Sub.sel [0, 1, 2, 3] rfl, fun F' hF' => wseats_ok F' w _ g3 hg3 s.oJ s.cJ m.J (hr.J.ext hF'.F) q4 (by omega) (by simp only [List.length_append, bitsOf_length, List.length_nil, ssBits, flat_length sBits_length]; omega), ?_⟩
      rintro e A' ⟨rfl, g4, hg4, rfl⟩
      conv => whnf
      refine LoadV.a 1 rfl (Nat.le_of_ble_eq_true rfl) ?_
      conv => whnf
      refine (show LoadV _ _ _ ⟨b, 4, none⟩ _ _ from ?_)
      refine LoadV.s rfl rfl ?_
      conv => whnf
      refine CallS.mk Try.call37 ⟨[_, _], [_, _], _, Sub.sel [0, 1, 2, 3] rfl, fun F' hF' => wnumI_ok F' w _ g4 hg4 (m.I.length : Int) 11 (by omega) (by omega) (by omega) (by show _ < (2048 : Nat); omega) (by simp only [List.length_append, bitsOf_length, kBits_length, bBits_length, List.length_nil, ssBits, flat_length sBits_length]; omega), ?_⟩
      rintro e A' ⟨rfl, g5, hg5, rfl⟩
      conv => whnf
      refine (show LoadV _ _ _ ⟨b, 4, none⟩ _ _ from ?_)
      refine LoadV.s rfl rfl ?_
      conv => whnf
      have hb0 : ([] ++ bitsOf 2 (Int.toNat 0) ++ bitsOf 8 m.ep.toNat ++ ssBits m.L ++ ssBits m.J ++ bitsOf 11 (Int.toNat (m.I.length : Int))).length ≤ 3000 := by
        simp only [List.length_append, bitsOf_length, List.length_nil, ssBits, flat_length sBits_length]; omega
      have hfin : mBits m = [] ++ bitsOf 2 (Int.toNat 0) ++ bitsOf 8 m.ep.toNat ++ ssBits m.L ++ ssBits m.J ++ bitsOf 11 (Int.toNat (m.I.length : Int)) ++ m.I.flatMap iBits := by
        unfold mBits restBits
        rw [if_pos hk, hk]
        simp [isBits]
      generalize [] ++ bitsOf 2 (Int.toNat 0) ++ bitsOf 8 m.ep.toNat ++ ssBits m.L ++ ssBits m.J ++ bitsOf 11 (Int.toNat (m.I.length : Int)) = Z at hb0 hfin hg5 ⊢
      rw [hfin]
      refine LoopI.by_state (σ := Nat × Option (Nat × Nat)) (fun x => [(4, .pointer (some ⟨c, 0, none⟩)), (48, .slice s.oI m.I.length s.cI), (49, .int .i64 (m.I.length : Int)), (50, .int .i64 (x.1 : Int))])
        (fun x => wrX w ((Z ++ (m.I.take x.1).flatMap iBits).length : Nat) x.2 (packB (Z ++ (m.I.take x.1).flatMap iBits)) [.cells c [.pointer (some ⟨w, 0, none⟩)] 76 (0, 0)])
        (fun x => x.1 ≤ m.I.length ∧ (x.2 = none ↔ Z ++ (m.I.take x.1).flatMap iBits = [])) (fun x => m.I.length - x.1) (0, g5) ⟨Nat.zero_le _, by simpa using hg5⟩ ⟨rfl, rfl, rfl, rfl, trivial⟩ (by simp only [List.take_zero, List.flatMap_nil, List.append_nil]; exact Sub.sel [0, 1, 2] rfl) ?_
      rintro ⟨i, g6⟩ f0 ⟨hi, hg6⟩
      dsimp only at hi hg6 ⊢
      have hlen : (Z ++ (m.I.take i).flatMap iBits).length ≤ 100000 := by
        rw [List.length_append, flat_length iBits_length, List.length_take]; omega
      conv => whnf
      refine cond_dec (fun h => ?_) (fun h => ?_)
      · have hil : i < m.I.length := by omega
        have hft := flat_take iBits hil
        have hri := hr.I
        obtain ⟨xb, yb, hoI, hrb⟩ := hri.at (i := i) hil
        have hsx : itemB m.I[i] = true := List.all_eq_true.1 q6 _ (List.getElem_mem hil)
        rw [hoI]
        conv => whnf
        refine ⟨by omega, ?_⟩
        conv => whnf
        refine LoadV.fa (cs := itemF (m.I[i])) (flat_row itemF_length hrb hil rfl) rfl ?_
        obtain ⟨x, hx⟩ : ∃ x, x = m.I[i] := ⟨_, rfl⟩
        rw [← hx] at hsx hft ⊢
        have hsx : ((btw x.1 0 20 = true ∧ (x.2.1 != x.1) = true) ∧ isBelow x.1 x.2.1 = true) ∧ bxB x.2.2 = true := by simpa only [itemB, Bool.and_eq_true] using hsx
        obtain ⟨⟨⟨p1, _⟩, p2⟩, p3⟩ := hsx
        obtain ⟨p4, p5⟩ := btw_spec p1
        have p6 : 0 ≤ x.2.1 ∧ x.2.1 < 85 := by
          simp only [isBelow, Bool.and_eq_true] at p2
          exact (nodeB_iff _).1 p2.1.2
        conv => whnf
        intro d
        conv => whnf
        refine StoreV.c rfl rfl (Nat.le_of_ble_eq_true rfl) rfl ?_
        conv => whnf
        refine LoadV.a 1 rfl (Nat.le_of_ble_eq_true rfl) ?_
        conv => whnf
        refine LoadV.s rfl rfl ?_
        conv => whnf
        refine CallS.mk Try.call37 ⟨[_, _], [_, _], _, Sub.sel [1, 2, 0, 3] rfl, fun F' hF' => wnumI_ok F' w _ g6 hg6 x.1 5 (by omega) (by omega) (by omega) (by show _ < (32 : Nat); omega) (by omega), ?_⟩
        rintro e A' ⟨rfl, g7, hg7, rfl⟩
        conv => whnf
        refine LoadV.a 1 rfl (Nat.le_of_ble_eq_true rfl) ?_
        conv => whnf
        refine LoadV.s rfl rfl ?_
        conv => whnf
        refine CallS.mk Try.call37 ⟨[_, _], [_, _], _, Sub.sel [0, 1, 2, 3] rfl, fun F' hF' => wnumI_ok F' w _ g7 hg7 x.2.1 7 (by omega) (by omega) (by omega) (by show _ < (128 : Nat); omega) (by rw [List.length_append, bitsOf_length]; omega), ?_⟩
        rintro e A' ⟨rfl, g8, hg8, rfl⟩
        conv => whnf
        refine LoadV.a 1 rfl (Nat.le_of_ble_eq_true rfl) ?_
        conv => whnf
        refine LoadV.a 4 rfl (Nat.le_of_ble_eq_true rfl) ?_
        conv => whnf
        refine CallS.mk Try.call39 ⟨[_, _], [_], _, Sub.sel [0, 1, 3] rfl, fun F' hF' => wbox_ok F' w _ g8 hg8 x.2.2 p3 (by rw [List.length_append, List.length_append, bitsOf_length, bitsOf_length]; omega), ?_⟩
        rintro e A' ⟨rfl, g9, hg9, rfl⟩
        conv => whnf
        refine ArI.to64 ((i + 1 : Nat) : Int) (by omega) (by omega) ?_
        conv => whnf
        have hcat : Z ++ (m.I.take i).flatMap iBits ++ bitsOf 5 x.1.toNat ++ bitsOf 7 x.2.1.toNat ++ bBits x.2.2 = Z ++ (m.I.take (i + 1)).flatMap iBits := by rw [hft]; simp [iBits]
        rw [hcat] at hg9
        refine ⟨(i + 1, g9), _, by dsimp only; omega, Sub.refl _, ⟨by dsimp only; omega, hg9⟩, ⟨rfl, rfl, rfl, rfl, trivial⟩, ?_⟩
        dsimp only
        rw [← hcat]
      · have hie : i = m.I.length := by omega
        subst hie
        rw [List.take_length] at hg6 ⊢
        conv => whnf
        refine LoadV.s rfl rfl ?_
        conv => whnf
        refine CallS.mk Try.call41 ⟨[_, _], [], _, Sub.sel [0, 1] rfl, fun F' hF' => bBytes_ok F' w _ g6 _ (fun e => by rw [hg6.1 e]; rfl), ?_⟩
        rintro e A' ⟨rfl, rfl⟩
        conv => whnf
        repeat (first | (refine LoadV.s rfl rfl (forceV_of ?_); conv => whnf) | (refine LoadV.s rfl rfl ?_; conv => whnf) | (refine StoreV.c rfl rfl (Nat.le_of_ble_eq_true rfl) rfl ?_; conv => whnf) | (refine LoadV.a _ rfl (Nat.le_of_ble_eq_true rfl) ?_; conv => whnf) | (refine DrawI.quiet (by kernel_rfl) (by kernel_rfl) ?_; conv => whnf) | (refine ArI.in64 (by omega) ?_; conv => whnf) | (refine ArI.inU8 (by omega) ?_; conv => whnf) | (refine ArI.inU64 (by omega) ?_; conv => whnf) | (refine ArI.inU32 (by omega) ?_; conv => whnf) | (refine RetI.one Try.results11 rfl ?_; conv => whnf) | (refine RetI.two Try.results11 rfl rfl ?_; conv => whnf) | (refine RetI.three Try.results11 rfl rfl rfl ?_; conv => whnf) | (refine RetI.none Try.results11 ?_; conv => whnf) | (refine ⟨by first | decide | omega, ?_⟩; conv => whnf))
        exact ⟨_, Sub.sel [] rfl, rfl, rfl⟩
    · simp only [gRq, seatB, Bool.and_eq_true] at h2
      obtain ⟨⟨q1, _⟩, q2⟩ := h2
      obtain ⟨q3, q4⟩ := btw_spec q1
      obtain ⟨q5, q6⟩ := btw_spec q2
      refine ArI.to64 1 (by omega) (by omega) ?_
      conv => whnf
      refine CallS.mk Try.call37 ⟨[_, _], [_, _], _, Sub.sel [1, 2, 0, 3] rfl, fun F' hF' => wnumI_ok F' w [] none (by simp) (1) 2 (by omega) (by omega) (by omega) (by show _ < (4 : Nat); omega) (by simp only [List.length_append, bitsOf_length, kBits_length, bBits_length, List.length_nil, ssBits, flat_length sBits_length]; omega), ?_⟩
      rintro e A' ⟨rfl, g1, hg1, rfl⟩
      conv => whnf
      refine LoadV.s rfl rfl ?_
      conv => whnf
      rw [show (m.kind == 1) = false from by rw [hk]; rfl]
      conv => whnf
      rw [show (m.kind == 2) = true from by rw [hk]; rfl]
      conv => whnf
      refine LoadV.a 1 rfl (Nat.le_of_ble_eq_true rfl) ?_
      conv => whnf
      refine (show LoadV _ _ _ ⟨b, 5, none⟩ _ _ from ?_)
      refine LoadV.s rfl rfl ?_
      conv => whnf
      refine CallS.mk Try.call37 ⟨[_, _], [_, _], _, Sub.sel [0, 1, 2, 3] rfl, fun F' hF' => wnumI_ok F' w _ g1 hg1 (m.qw) 8 (by omega) (by omega) (by omega) (by show _ < (256 : Nat); omega) (by simp only [List.length_append, bitsOf_length, kBits_length, bBits_length, List.length_nil, ssBits, flat_length sBits_length]; omega), ?_⟩
      rintro e A' ⟨rfl, g2, hg2, rfl⟩
      conv => whnf
      refine LoadV.a 1 rfl (Nat.le_of_ble_eq_true rfl) ?_
      conv => whnf
      refine (show LoadV _ _ _ ⟨b, 6, none⟩ _ _ from ?_)
      refine LoadV.s rfl rfl ?_
      conv => whnf
      refine CallS.mk Try.call37 ⟨[_, _], [_, _], _, Sub.sel [0, 1, 2, 3] rfl, fun F' hF' => wnumI_ok F' w _ g2 hg2 (m.qe) 8 (by omega) (by omega) (by omega) (by show _ < (256 : Nat); omega) (by simp only [List.length_append, bitsOf_length, kBits_length, bBits_length, List.length_nil, ssBits, flat_length sBits_length]; omega), ?_⟩
      rintro e A' ⟨rfl, g3, hg3, rfl⟩
      conv => whnf
      refine LoadV.s rfl rfl ?_
      conv => whnf
      refine CallS.mk Try.call41 ⟨[_, _], [], _, Sub.sel [0, 1] rfl, fun F' hF' => bBytes_ok F' w _ g3 _ (fun e => by rw [(hg3).1 e]; rfl), ?_⟩
      rintro e A' ⟨rfl, rfl⟩
      conv => whnf
      repeat (first | (refine LoadV.s rfl rfl (forceV_of ?_); conv => whnf) | (refine LoadV.s rfl rfl ?_; conv => whnf) | (refine StoreV.c rfl rfl (Nat.le_of_ble_eq_true rfl) rfl ?_; conv => whnf) | (refine LoadV.a _ rfl (Nat.le_of_ble_eq_true rfl) ?_; conv => whnf) | (refine DrawI.quiet (by kernel_rfl) (by kernel_rfl) ?_; conv => whnf) | (refine ArI.in64 (by omega) ?_; conv => whnf) | (refine ArI.inU8 (by omega) ?_; conv => whnf) | (refine ArI.inU64 (by omega) ?_; conv => whnf) | (refine ArI.inU32 (by omega) ?_; conv => whnf) | (refine RetI.one Try.results11 rfl ?_; conv => whnf) | (refine RetI.two Try.results11 rfl rfl ?_; conv => whnf) | (refine RetI.three Try.results11 rfl rfl rfl ?_; conv => whnf) | (refine RetI.none Try.results11 ?_; conv => whnf) | (refine ⟨by first | decide | omega, ?_⟩; conv => whnf))
      refine ⟨_, Sub.sel [] rfl, ?_, rfl⟩
      rw [show mBits m = [] ++ bitsOf 2 (Int.toNat 1) ++ bitsOf 8 m.qw.toNat ++ bitsOf 8 m.qe.toNat by unfold mBits restBits; (rw [if_neg (by omega), if_pos hk, hk]; simp)]
    · simp only [gRp, seatB, Bool.and_eq_true] at h3
      obtain ⟨⟨⟨q1, q2⟩, q3⟩, q4⟩ := h3
      obtain ⟨q5, q6⟩ := btw_spec q1
      obtain ⟨q7, q8⟩ := btw_spec q2
      obtain ⟨q9, q10⟩ := btw_spec q3
      refine ArI.to64 2 (by omega) (by omega) ?_
      conv => whnf
      refine CallS.mk Try.call37 ⟨[_, _], [_, _], _, Sub.sel [1, 2, 0, 3] rfl, fun F' hF' => wnumI_ok F' w [] none (by simp) (2) 2 (by omega) (by omega) (by omega) (by show _ < (4 : Nat); omega) (by simp only [List.length_append, bitsOf_length, kBits_length, bBits_length, List.length_nil, ssBits, flat_length sBits_length]; omega), ?_⟩
      rintro e A' ⟨rfl, g1, hg1, rfl⟩
      conv => whnf
      refine LoadV.s rfl rfl ?_
      conv => whnf
      rw [show (m.kind == 1) = false from by rw [hk]; rfl]
      conv => whnf
      rw [show (m.kind == 2) = false from by rw [hk]; rfl]
      conv => whnf
      rw [show (m.kind == 3) = true from by rw [hk]; rfl]
      conv => whnf
      refine LoadV.a 1 rfl (Nat.le_of_ble_eq_true rfl) ?_
      conv => whnf
      refine (show LoadV _ _ _ ⟨b, 7, none⟩ _ _ from ?_)
      refine LoadV.s rfl rfl ?_
      conv => whnf
      refine CallS.mk Try.call37 ⟨[_, _], [_, _], _, Sub.sel [0, 1, 2, 3] rfl, fun F' hF' => wnumI_ok F' w _ g1 hg1 (m.pw) 8 (by omega) (by omega) (by omega) (by show _ < (256 : Nat); omega) (by simp only [List.length_append, bitsOf_length, kBits_length, bBits_length, List.length_nil, ssBits, flat_length sBits_length]; omega), ?_⟩
      rintro e A' ⟨rfl, g2, hg2, rfl⟩
      conv => whnf
      refine LoadV.a 1 rfl (Nat.le_of_ble_eq_true rfl) ?_
      conv => whnf
      refine (show LoadV _ _ _ ⟨b, 8, none⟩ _ _ from ?_)
      refine LoadV.s rfl rfl ?_
      conv => whnf
      refine CallS.mk Try.call37 ⟨[_, _], [_, _], _, Sub.sel [0, 1, 2, 3] rfl, fun F' hF' => wnumI_ok F' w _ g2 hg2 (m.ps) 6 (by omega) (by omega) (by omega) (by show _ < (64 : Nat); omega) (by simp only [List.length_append, bitsOf_length, kBits_length, bBits_length, List.length_nil, ssBits, flat_length sBits_length]; omega), ?_⟩
      rintro e A' ⟨rfl, g3, hg3, rfl⟩
      conv => whnf
      refine LoadV.a 1 rfl (Nat.le_of_ble_eq_true rfl) ?_
      conv => whnf
      refine (show LoadV _ _ _ ⟨b, 9, none⟩ _ _ from ?_)
      refine LoadV.s rfl rfl ?_
      conv => whnf
      refine CallS.mk Try.call37 ⟨[_, _], [_, _], _, Sub.sel [0, 1, 2, 3] rfl, fun F' hF' => wnumI_ok F' w _ g3 hg3 (m.pe) 8 (by omega) (by omega) (by omega) (by show _ < (256 : Nat); omega) (by simp only [List.length_append, bitsOf_length, kBits_length, bBits_length, List.length_nil, ssBits, flat_length sBits_length]; omega), ?_⟩
      rintro e A' ⟨rfl, g4, hg4, rfl⟩
      conv => whnf
      refine (show LoadV _ _ _ ⟨b, 10, none⟩ _ _ from ?_)
      refine LoadV.a 12 rfl (Nat.le_of_ble_eq_true rfl) ?_
      conv => whnf
      have hb0 : ([] ++ bitsOf 2 (Int.toNat 2) ++ bitsOf 8 m.pw.toNat ++ bitsOf 6 m.ps.toNat ++ bitsOf 8 m.pe.toNat).length ≤ 3000 := by
        simp only [List.length_append, bitsOf_length, List.length_nil]; omega
      have hfin : mBits m = [] ++ bitsOf 2 (Int.toNat 2) ++ bitsOf 8 m.pw.toNat ++ bitsOf 6 m.ps.toNat ++ bitsOf 8 m.pe.toNat ++ [m.b0, m.b1, m.b2].flatMap bBits := by
        unfold mBits restBits
        rw [if_neg (by omega), if_neg (by omega), if_pos hk, hk]
        simp
      generalize [] ++ bitsOf 2 (Int.toNat 2) ++ bitsOf 8 m.pw.toNat ++ bitsOf 6 m.ps.toNat ++ bitsOf 8 m.pe.toNat = Z at hb0 hfin hg4 ⊢
      rw [hfin]
      refine LoopI.by_state (σ := Nat × Option (Nat × Nat)) (fun x => [(4, .pointer (some ⟨c, 0, none⟩)), (98, .agg ([m.b0, m.b1, m.b2].flatMap bxF).toArray), (99, .int .i64 (x.1 : Int))])
        (fun x => wrX w ((Z ++ ([m.b0, m.b1, m.b2].take x.1).flatMap bBits).length : Nat) x.2 (packB (Z ++ ([m.b0, m.b1, m.b2].take x.1).flatMap bBits)) [.cells c [.pointer (some ⟨w, 0, none⟩)] 76 (0, 0)])
        (fun x => x.1 ≤ 3 ∧ (x.2 = none ↔ Z ++ ([m.b0, m.b1, m.b2].take x.1).flatMap bBits = [])) (fun x => 3 - x.1) (0, g4) ⟨Nat.zero_le _, by simpa using hg4⟩ ⟨rfl, rfl, rfl, trivial⟩ (by simp only [List.take_zero, List.flatMap_nil, List.append_nil]; exact Sub.sel [0, 1, 2] rfl) ?_
      rintro ⟨i, g6⟩ f0 ⟨hi, hg6⟩
      dsimp only at hi hg6 ⊢
      have hlen : (Z ++ ([m.b0, m.b1, m.b2].take i).flatMap bBits).length ≤ 100000 := by
        rw [List.length_append, flat_length bBits_length, List.length_take]; simp only [List.length_cons, List.length_nil]; omega
      conv => whnf
      refine cond_dec (fun h => ?_) (fun h => ?_)
      · have hil : i < [m.b0, m.b1, m.b2].length := by simp only [List.length_cons, List.length_nil]; omega
        have hft := flat_take bBits hil
        have hsx : bxB ([m.b0, m.b1, m.b2][i]) = true := List.all_eq_true.1 q4 _ (List.getElem_mem hil)
        have hix : ∃ x, x = [m.b0, m.b1, m.b2][i] ∧ mkV Try.prog 31 ((([m.b0, m.b1, m.b2].flatMap bxF).drop ((i : Int).toNat * 4)).take 4) = .agg (bxF x).toArray := by
          refine ⟨_, rfl, ?_⟩
          have h3 : i = 0 ∨ i = 1 ∨ i = 2 := by omega
          rcases h3 with rfl | rfl | rfl <;> rfl
        obtain ⟨x, hx, hmk⟩ := hix
        rw [← hx] at hsx hft
        conv => whnf
        refine IndexV.agg (sz := 4) rfl rfl rfl rfl (.inl rfl) (by omega) (by simp only [List.length_flatMap, List.map_cons, List.map_nil, bxF_length, List.sum_cons, List.sum_nil]; omega) ?_
        rw [hmk]
        conv => whnf
        intro d
        conv => whnf
        refine StoreV.c rfl rfl (Nat.le_of_ble_eq_true rfl) rfl ?_
        conv => whnf
        refine LoadV.a 1 rfl (Nat.le_of_ble_eq_true rfl) ?_
        conv => whnf
        refine LoadV.a 4 rfl (Nat.le_of_ble_eq_true rfl) ?_
        conv => whnf
        refine CallS.mk Try.call39 ⟨[_, _], [_], _, Sub.sel [1, 2, 3] rfl, fun F' hF' => wbox_ok F' w _ g6 hg6 x hsx (by omega), ?_⟩
        rintro e A' ⟨rfl, g9, hg9, rfl⟩
        conv => whnf
        refine ArI.to64 ((i + 1 : Nat) : Int) (by omega) (by omega) ?_
        conv => whnf
        have hcat : Z ++ ([m.b0, m.b1, m.b2].take i).flatMap bBits ++ bBits x = Z ++ ([m.b0, m.b1, m.b2].take (i + 1)).flatMap bBits := by rw [hft]; simp
        rw [hcat] at hg9
        refine ⟨(i + 1, g9), _, by dsimp only; omega, Sub.refl _, ⟨by dsimp only; omega, hg9⟩, ⟨rfl, rfl, rfl, trivial⟩, ?_⟩
        dsimp only
        rw [← hcat]
      · have hie : i = [m.b0, m.b1, m.b2].length := by simp only [List.length_cons, List.length_nil]; omega
        rw [hie, List.take_length] at hg6 ⊢
        conv => whnf
        refine LoadV.s rfl rfl ?_
        conv => whnf
        refine CallS.mk Try.call41 ⟨[_, _], [], _, Sub.sel [0, 1] rfl, fun F' hF' => bBytes_ok F' w _ g6 _ (fun e => by rw [hg6.1 e]; rfl), ?_⟩
        rintro e A' ⟨rfl, rfl⟩
        conv => whnf
        repeat (first | (refine LoadV.s rfl rfl (forceV_of ?_); conv => whnf) | (refine LoadV.s rfl rfl ?_; conv => whnf) | (refine StoreV.c rfl rfl (Nat.le_of_ble_eq_true rfl) rfl ?_; conv => whnf) | (refine LoadV.a _ rfl (Nat.le_of_ble_eq_true rfl) ?_; conv => whnf) | (refine DrawI.quiet (by kernel_rfl) (by kernel_rfl) ?_; conv => whnf) | (refine ArI.in64 (by omega) ?_; conv => whnf) | (refine ArI.inU8 (by omega) ?_; conv => whnf) | (refine ArI.inU64 (by omega) ?_; conv => whnf) | (refine ArI.inU32 (by omega) ?_; conv => whnf) | (refine RetI.one Try.results11 rfl ?_; conv => whnf) | (refine RetI.two Try.results11 rfl rfl ?_; conv => whnf) | (refine RetI.three Try.results11 rfl rfl rfl ?_; conv => whnf) | (refine RetI.none Try.results11 ?_; conv => whnf) | (refine ⟨by first | decide | omega, ?_⟩; conv => whnf))
        exact ⟨_, Sub.sel [] rfl, rfl, rfl⟩
    · simp only [gSe, Bool.and_eq_true, decide_eq_true_eq] at h4
      obtain ⟨⟨q1, q2⟩, q3⟩ := h4
      obtain ⟨q5, q6⟩ := btw_spec q1
      refine ArI.to64 3 (by omega) (by omega) ?_
      conv => whnf
      refine CallS.mk Try.call37 ⟨[_, _], [_, _], _, Sub.sel [1, 2, 0, 3] rfl, fun F' hF' => wnumI_ok F' w [] none (by simp) (3) 2 (by omega) (by omega) (by omega) (by show _ < (4 : Nat); omega) (by simp only [List.length_append, bitsOf_length, kBits_length, bBits_length, List.length_nil, ssBits, flat_length sBits_length]; omega), ?_⟩
      rintro e A' ⟨rfl, g1, hg1, rfl⟩
      conv => whnf
      refine LoadV.s rfl rfl ?_
      conv => whnf
      rw [show (m.kind == 1) = false from by rw [hk]; rfl]
      conv => whnf
      rw [show (m.kind == 2) = false from by rw [hk]; rfl]
      conv => whnf
      rw [show (m.kind == 3) = false from by rw [hk]; rfl]
      conv => whnf
      rw [show (m.kind == 4) = true from by rw [hk]; rfl]
      conv => whnf
      refine LoadV.a 1 rfl (Nat.le_of_ble_eq_true rfl) ?_
      conv => whnf
      refine (show LoadV _ _ _ ⟨b, 22, none⟩ _ _ from ?_)
      refine LoadV.s rfl rfl ?_
      conv => whnf
      refine CallS.mk Try.call37 ⟨[_, _], [_, _], _, Sub.sel [0, 1, 2, 3] rfl, fun F' hF' => wnumI_ok F' w _ g1 hg1 (m.se) 8 (by omega) (by omega) (by omega) (by show _ < (256 : Nat); omega) (by simp only [List.length_append, bitsOf_length, kBits_length, bBits_length, List.length_nil, ssBits, flat_length sBits_length]; omega), ?_⟩
      rintro e A' ⟨rfl, g2, hg2, rfl⟩
      conv => whnf
      refine LoadV.a 1 rfl (Nat.le_of_ble_eq_true rfl) ?_
      conv => whnf
      refine (show LoadV _ _ _ ⟨b, 23, none⟩ _ _ from ?_)
      refine LoadV.a 2 rfl (Nat.le_of_ble_eq_true rfl) ?_
      conv => whnf
      refine CallS.mk Try.call40 ⟨[_, _], [_, _], _, Sub.sel [0, 1, 2, 3] rfl, fun F' hF' => wkey_ok F' w _ g2 hg2 m.sb m.ss q2 (by simp only [List.length_append, bitsOf_length, List.length_nil]; omega), ?_⟩
      rintro e A' ⟨rfl, g3, hg3, rfl⟩
      conv => whnf
      refine LoadV.a 1 rfl (Nat.le_of_ble_eq_true rfl) ?_
      conv => whnf
      refine (show LoadV _ _ _ ⟨b, 25, none⟩ _ _ from ?_)
      refine LoadV.s rfl rfl ?_
      conv => whnf
      refine CallS.mk Try.call37 ⟨[_, _], [_, _], _, Sub.sel [0, 1, 2, 3] rfl, fun F' hF' => wnumI_ok F' w _ g3 hg3 (m.tx.size : Int) 7 (by omega) (by omega) (by omega) (by show _ < (128 : Nat); omega) (by simp only [List.length_append, bitsOf_length, kBits_length, bBits_length, List.length_nil, ssBits, flat_length sBits_length]; omega), ?_⟩
      rintro e A' ⟨rfl, g4, hg4, rfl⟩
      conv => whnf
      refine (show LoadV _ _ _ ⟨b, 25, none⟩ _ _ from ?_)
      refine LoadV.s rfl rfl ?_
      conv => whnf
      refine DoV.string_bytes Try.underlying9 Try.underlying48 Try.underlying5 fun b2 n => ?_
      conv => whnf
      have hb0 : ([] ++ bitsOf 2 (Int.toNat 3) ++ bitsOf 8 m.se.toNat ++ kBits m.sb m.ss ++ bitsOf 7 (Int.toNat (m.tx.size : Int))).length ≤ 3000 := by
        simp only [List.length_append, bitsOf_length, kBits_length, List.length_nil]; omega
      have hfin : mBits m = [] ++ bitsOf 2 (Int.toNat 3) ++ bitsOf 8 m.se.toNat ++ kBits m.sb m.ss ++ bitsOf 7 (Int.toNat (m.tx.size : Int)) ++ (txt m.tx).flatMap (bitsOf 8) := by
        unfold mBits restBits
        rw [if_neg (by omega), if_neg (by omega), if_neg (by omega), hk]
        simp
      generalize [] ++ bitsOf 2 (Int.toNat 3) ++ bitsOf 8 m.se.toNat ++ kBits m.sb m.ss ++ bitsOf 7 (Int.toNat (m.tx.size : Int)) = Z at hb0 hfin hg4 ⊢
      rw [hfin]
      have hl := txt_length m.tx
      refine LoopI.by_state (σ := Nat × Option (Nat × Nat)) (fun x => [(4, .pointer (some ⟨c, 0, none⟩)), (127, .slice (some ⟨b2, 0, none⟩) m.tx.size (m.tx.size + n)), (128, .int .i64 (m.tx.size : Int)), (129, .int .i64 (x.1 : Int))])
        (fun x => wrX w ((Z ++ ((txt m.tx).take x.1).flatMap (bitsOf 8)).length : Nat) x.2 (packB (Z ++ ((txt m.tx).take x.1).flatMap (bitsOf 8))) [.cells c [.pointer (some ⟨w, 0, none⟩)] 76 (0, 0), .cells b2 (bytesV (txt m.tx ++ List.replicate n 0)) 5 (m.tx.size + n, m.tx.size + n + 1)])
        (fun x => x.1 ≤ m.tx.size ∧ (x.2 = none ↔ Z ++ ((txt m.tx).take x.1).flatMap (bitsOf 8) = [])) (fun x => m.tx.size - x.1) (0, g4) ⟨Nat.zero_le _, by simpa using hg4⟩ ⟨rfl, rfl, rfl, rfl, trivial⟩ (by simp only [List.take_zero, List.flatMap_nil, List.append_nil]; exact Sub.sel [1, 2, 3, 0] rfl) ?_
      rintro ⟨i, g6⟩ f0 ⟨hi, hg6⟩
      dsimp only at hi hg6 ⊢
      have hlen : (Z ++ ((txt m.tx).take i).flatMap (bitsOf 8)).length ≤ 100000 := by
        rw [List.length_append, flat_length (bitsOf_length 8), List.length_take]; omega
      conv => whnf
      refine cond_dec (fun h => ?_) (fun h => ?_)
      · have hil : i < (txt m.tx).length := by omega
        have hft := flat_take (bitsOf 8) hil
        have hx256 : (txt m.tx)[i] < 256 := txt_lt m.tx _ (List.getElem_mem hil)
        have hld : (bytesV (txt m.tx ++ List.replicate n 0))[0 + i]? = some (.int .u8 (((txt m.tx)[i] : Nat) : Int)) := by
          rw [Nat.zero_add, bytesV, List.getElem?_map, List.getElem?_append_left hil, List.getElem?_eq_getElem hil]; rfl
        generalize (txt m.tx)[i] = x at hft hx256 hld
        conv => whnf
        refine ⟨by omega, ?_⟩
        conv => whnf
        rw [elemOff_nat]
        rotate_left
        · kernel_rfl
        refine LoadV.s rfl hld ?_
        conv => whnf
        refine LoadV.a 1 rfl (Nat.le_of_ble_eq_true rfl) ?_
        conv => whnf
        refine ArI.in64 (by omega) ?_
        conv => whnf
        refine CallS.mk Try.call37 ⟨[_, _], [_, _], _, Sub.sel [0, 1, 2, 3] rfl, fun F' hF' => wnum_ok F' w _ g6 hg6 x 8 (by omega) (by omega) (by show _ < (256 : Nat); omega) (by omega), ?_⟩
        rintro e A' ⟨rfl, g9, hg9, rfl⟩
        conv => whnf
        refine ArI.to64 ((i + 1 : Nat) : Int) (by omega) (by omega) ?_
        conv => whnf
        have hcat : Z ++ ((txt m.tx).take i).flatMap (bitsOf 8) ++ bitsOf 8 x = Z ++ ((txt m.tx).take (i + 1)).flatMap (bitsOf 8) := by rw [hft]; simp
        rw [hcat] at hg9
        refine ⟨(i + 1, g9), _, by dsimp only; omega, Sub.refl _, ⟨by dsimp only; omega, hg9⟩, ⟨rfl, rfl, rfl, rfl, trivial⟩, ?_⟩
        dsimp only
        rw [← hcat]
      · have hie : i = (txt m.tx).length := by omega
        rw [hie, List.take_length] at hg6 ⊢
        conv => whnf
        refine LoadV.s rfl rfl ?_
        conv => whnf
        refine CallS.mk Try.call41 ⟨[_, _], [], _, Sub.sel [0, 1] rfl, fun F' hF' => bBytes_ok F' w _ g6 _ (fun e => by rw [hg6.1 e]; rfl), ?_⟩
        rintro e A' ⟨rfl, rfl⟩
        conv => whnf
        repeat (first | (refine LoadV.s rfl rfl (forceV_of ?_); conv => whnf) | (refine LoadV.s rfl rfl ?_; conv => whnf) | (refine StoreV.c rfl rfl (Nat.le_of_ble_eq_true rfl) rfl ?_; conv => whnf) | (refine LoadV.a _ rfl (Nat.le_of_ble_eq_true rfl) ?_; conv => whnf) | (refine DrawI.quiet (by kernel_rfl) (by kernel_rfl) ?_; conv => whnf) | (refine ArI.in64 (by omega) ?_; conv => whnf) | (refine ArI.inU8 (by omega) ?_; conv => whnf) | (refine ArI.inU64 (by omega) ?_; conv => whnf) | (refine ArI.inU32 (by omega) ?_; conv => whnf) | (refine RetI.one Try.results11 rfl ?_; conv => whnf) | (refine RetI.two Try.results11 rfl rfl ?_; conv => whnf) | (refine RetI.three Try.results11 rfl rfl rfl ?_; conv => whnf) | (refine RetI.none Try.results11 ?_; conv => whnf) | (refine ⟨by first | decide | omega, ?_⟩; conv => whnf))
        exact ⟨_, Sub.sel [] rfl, rfl, rfl⟩
end Go.Proofs.Ytlbdnkkaacccoaa
