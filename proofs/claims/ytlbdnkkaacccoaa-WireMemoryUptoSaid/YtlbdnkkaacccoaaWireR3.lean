/- The reference's Encode: the walk. -/
import Derived.Test.YtlbdnkkaacccoaaWireR2
namespace Go.Proofs.Ytlbdnkkaacccoaa
set_option linter.unusedVariables false
set_option linter.unusedSimpArgs false
set_option maxRecDepth 100000
open SL Go.RowKit Go.Maps
set_option maxHeartbeats 4000000 in
theorem renc_ok (F : Mem) (m : Msg) (s : Sls) (hr : Rows14 F m s) (hz : Sz m) : FT Try.prog 12 [.agg (msgL m s).toArray].toArray F [] (Ret (.tuple #[.string (encV m).1, .int .i64 (encV m).2])) := by
  refine FT.of_body Try.func12 rfl Try.ntmps12 (by simp) fun C hC => ?_
  subst hC
  conv => whnf
  intro b
  conv => whnf
  refine LoadV.a 26 rfl (Nat.le_of_ble_eq_true rfl) ?_
  conv => whnf
  refine CallS.mk Try.call10 ⟨[], _, _, Sub.refl _, fun F' hF' => rgood_ok F' m s (hr.ext hF'.F) hz, ?_⟩
  rintro e A' ⟨rfl, rfl⟩
  cases hg : goodB m with
  | false =>
    conv => whnf
    repeat (first | (refine LoadV.s rfl rfl (forceV_of ?_); conv => whnf) | (refine LoadV.s rfl rfl ?_; conv => whnf) | (refine StoreV.c rfl rfl (Nat.le_of_ble_eq_true rfl) rfl ?_; conv => whnf) | (refine LoadV.a _ rfl (Nat.le_of_ble_eq_true rfl) ?_; conv => whnf) | (refine DrawI.quiet (by kernel_rfl) (by kernel_rfl) ?_; conv => whnf) | (refine ArI.in64 (by omega) ?_; conv => whnf) | (refine ArI.inU8 (by omega) ?_; conv => whnf) | (refine ArI.inU64 (by omega) ?_; conv => whnf) | (refine ArI.inU32 (by omega) ?_; conv => whnf) | (refine RetI.one Try.results12 rfl ?_; conv => whnf) | (refine RetI.two Try.results12 rfl rfl ?_; conv => whnf) | (refine RetI.three Try.results12 rfl rfl rfl ?_; conv => whnf) | (refine RetI.none Try.results12 ?_; conv => whnf) | (refine ⟨by first | decide | omega, ?_⟩; conv => whnf))
    exact ⟨_, Sub.sel [] rfl, by simp [encV, hg], rfl⟩
  | true =>
    rw [encV_good hg]
    conv => whnf
    refine LoadV.s rfl rfl ?_
    conv => whnf
    rcases good_cases hg with ⟨hk, h1, h2, h3, h4⟩ | ⟨hk, h1, h2, h3, h4⟩ | ⟨hk, h1, h2, h3, h4⟩ | ⟨hk, h1, h2, h3, h4⟩
    · simp only [gRk, Bool.and_eq_true, decide_eq_true_eq] at h1
      obtain ⟨⟨⟨q1, q2, q3⟩, q4, q5⟩, q6, q7⟩ := h1
      obtain ⟨q8, q9⟩ := btw_spec q1
      refine ArI.to64 0 (by omega) (by omega) ?_
      conv => whnf
      refine CallS.mk Try.call42 ⟨[_], [_], _, Sub.trans (Sub.nil 114 2) (Sub.refl _), fun F' hF' => put_ok F' none [] (by simp) 0 2 (by omega) (by omega) (by simp), ?_⟩
      rintro e A' ⟨g1, hg1, rfl, rfl⟩
      conv => whnf
      refine LoadV.s rfl rfl ?_
      conv => whnf
      rw [show (m.kind == 1) = true from by rw [hk]; rfl]
      conv => whnf
      refine (show LoadV _ _ _ ⟨b, 1, none⟩ _ _ from ?_)
      refine LoadV.s rfl rfl ?_
      conv => whnf
      refine CallS.mk Try.call42 ⟨[_], [_], _, Sub.sel [0, 1] rfl, fun F' hF' => put_ok F' g1 _ hg1 (m.ep) 8 (by omega) (by omega) (by simp only [List.length_append, List.length_cons, List.length_nil, fSeats, fItems, fKey_length, flatF_length fSeat_length]; omega), ?_⟩
      rintro e A' ⟨g2, hg2, rfl, rfl⟩
      conv => whnf
      refine DrawI.mixed [4, 8] [_] (by kernel_rfl) (by kernel_rfl) (by kernel_rfl) (by kernel_rfl) (by kernel_rfl) (Sub.sel [1] rfl) ?_
      conv => whnf
      refine (show LoadV _ _ _ ⟨b, 2, none⟩ _ _ from ?_)
      refine LoadV.s rfl rfl ?_
      conv => whnf
      refine CallS.mk Try.call43 ⟨[_], [_], _, Sub.sel [0, 1] rfl, fun F' hF' => putSeats_ok F' g2 _ hg2 s.oL s.cL m.L (hr.L.ext hF'.F) q2 (by omega) (by simp only [List.length_append, List.length_cons, List.length_nil]; omega), ?_⟩
      rintro e A' ⟨g3, hg3, rfl, rfl⟩
      conv => whnf
      refine ⟨Sub.sel [1] rfl, ?_⟩
      conv => whnf
      refine (show LoadV _ _ _ ⟨b, 3, none⟩ _ _ from ?_)
      refine LoadV.s rfl rfl ?_
      conv => whnf
      refine CallS.mk Try.call43 ⟨[_], [_], _, Sub.sel [0, 1] rfl, fun F' hF' => putSeats_ok F' g3 _ hg3 s.oJ s.cJ m.J (hr.J.ext hF'.F) q4 (by omega) (by simp only [List.length_append, List.length_cons, List.length_nil, fSeats, flatF_length fSeat_length]; omega), ?_⟩
      rintro e A' ⟨g4, hg4, rfl, rfl⟩
      conv => whnf
      refine ⟨Sub.sel [1] rfl, ?_⟩
      conv => whnf
      refine (show LoadV _ _ _ ⟨b, 4, none⟩ _ _ from ?_)
      refine LoadV.s rfl rfl ?_
      conv => whnf
      refine CallS.mk Try.call42 ⟨[_], [_], _, Sub.sel [0, 1] rfl, fun F' hF' => put_ok F' g4 _ hg4 (m.I.length : Int) 11 (by omega) (by omega) (by simp only [List.length_append, List.length_cons, List.length_nil, fSeats, fItems, fKey_length, flatF_length fSeat_length]; omega), ?_⟩
      rintro e A' ⟨g5, hg5, rfl, rfl⟩
      conv => whnf
      refine (show LoadV _ _ _ ⟨b, 4, none⟩ _ _ from ?_)
      refine LoadV.s rfl rfl ?_
      conv => whnf
      have hfin : fieldsOf m = [] ++ [(Int.toNat 0, 2)] ++ [(m.ep.toNat, 8)] ++ fSeats m.L ++ fSeats m.J ++ [(Int.toNat (m.I.length : Int), 11)] ++ m.I.flatMap fItem := by
        unfold fieldsOf restF fItems
        rw [if_pos hk, hk]
        simp
      have hb0 : ([] ++ [(Int.toNat 0, 2)] ++ [(m.ep.toNat, 8)] ++ fSeats m.L ++ fSeats m.J ++ [(Int.toNat (m.I.length : Int), 11)] : FL).length ≤ 3000 := by
        simp only [List.length_append, List.length_cons, List.length_nil, fSeats, flatF_length fSeat_length]; omega
      generalize ([] ++ [(Int.toNat 0, 2)] ++ [(m.ep.toNat, 8)] ++ fSeats m.L ++ fSeats m.J ++ [(Int.toNat (m.I.length : Int), 11)] : FL) = Z at hb0 hfin hg5 ⊢
      refine LoopI.by_state (σ := Nat × Option (Nat × Nat)) (fun x => [(4, svOf x.2 (Z ++ (m.I.take x.1).flatMap fItem).length), (44, .slice s.oI m.I.length s.cI), (45, .int .i64 (m.I.length : Int)), (46, .int .i64 (x.1 : Int))])
        (fun x => [ownF x.2 (Z ++ (m.I.take x.1).flatMap fItem)])
        (fun x => x.1 ≤ m.I.length ∧ (x.2 = none ↔ Z ++ (m.I.take x.1).flatMap fItem = [])) (fun x => m.I.length - x.1) (0, g5) ⟨Nat.zero_le _, by simpa using hg5⟩ ⟨by simp only [List.take_zero, List.flatMap_nil, List.append_nil]; rfl, rfl, rfl, rfl, trivial⟩ (by simp only [List.take_zero, List.flatMap_nil, List.append_nil]; exact Sub.sel [0] rfl) ?_
      rintro ⟨i, g6⟩ f0 ⟨hi, hg6⟩
      dsimp only at hi hg6 ⊢
      have hlen : (Z ++ (m.I.take i).flatMap fItem).length ≤ 100000 := by
        rw [List.length_append, flatF_length fItem_length, List.length_take]; omega
      conv => whnf
      refine cond_dec (fun h => ?_) (fun h => ?_)
      · have hil : i < m.I.length := by omega
        have hft := flatF_take fItem hil
        have hri := hr.I
        obtain ⟨xb, yb, hoI, hrb⟩ := hri.at (i := i) hil
        have hsx : itemB m.I[i] = true := List.all_eq_true.1 q6 _ (List.getElem_mem hil)
        rw [hoI]
        conv => whnf
        refine ⟨by omega, ?_⟩
        conv => whnf
        refine LoadV.fa (cs := itemF (m.I[i])) (flat_row itemF_length hrb hil rfl) rfl ?_
        obtain ⟨x, hx⟩ : ∃ x, x = m.I[i] := ⟨_, rfl⟩
        rw [← hx] at hsx hft ⊢
        obtain ⟨⟨p4, p5⟩, p6, p3⟩ := item_spec hsx
        conv => whnf
        intro d
        conv => whnf
        refine StoreV.c rfl rfl (Nat.le_of_ble_eq_true rfl) rfl ?_
        conv => whnf
        refine DrawI.mixed [3, 6, 9] [_] (by kernel_rfl) (by kernel_rfl) (by kernel_rfl) (by kernel_rfl) (by kernel_rfl) (Sub.sel [0] rfl) ?_
        conv => whnf
        refine LoadV.s rfl rfl ?_
        conv => whnf
        refine CallS.mk Try.call42 ⟨[_], [_], _, Sub.sel [1, 0] rfl, fun F' hF' => put_ok F' g6 _ hg6 x.1 5 (by omega) (by omega) (by omega), ?_⟩
        rintro e A' ⟨g7, hg7, rfl, rfl⟩
        conv => whnf
        refine ⟨Sub.sel [1] rfl, ?_⟩
        conv => whnf
        refine LoadV.s rfl rfl ?_
        conv => whnf
        refine CallS.mk Try.call42 ⟨[_], [_], _, Sub.sel [0, 1] rfl, fun F' hF' => put_ok F' g7 _ hg7 x.2.1 7 (by omega) (by omega) (by rw [List.length_append]; simp only [List.length_cons, List.length_nil]; omega), ?_⟩
        rintro e A' ⟨g8, hg8, rfl, rfl⟩
        conv => whnf
        refine ⟨Sub.sel [1] rfl, ?_⟩
        conv => whnf
        refine LoadV.a 4 rfl (Nat.le_of_ble_eq_true rfl) ?_
        conv => whnf
        refine CallS.mk Try.call44 ⟨[_], [_], _, Sub.sel [0, 1] rfl, fun F' hF' => putBox_ok F' g8 _ hg8 x.2.2 p3 (by rw [List.length_append, List.length_append]; simp only [List.length_cons, List.length_nil]; omega), ?_⟩
        rintro e A' ⟨g9, hg9, rfl, rfl⟩
        conv => whnf
        refine ⟨Sub.sel [1] rfl, ?_⟩
        conv => whnf
        refine ArI.to64 ((i + 1 : Nat) : Int) (by omega) (by omega) ?_
        conv => whnf
        have hcat : Z ++ (m.I.take i).flatMap fItem ++ [(x.1.toNat, 5)] ++ [(x.2.1.toNat, 7)] ++ fBox x.2.2 = Z ++ (m.I.take (i + 1)).flatMap fItem := by rw [hft]; simp [fItem]
        rw [hcat] at hg9
        refine ⟨(i + 1, g9), _, by dsimp only; omega, Sub.sel [0] rfl, ⟨by dsimp only; omega, hg9⟩, ⟨?_, rfl, rfl, rfl, trivial⟩, ?_⟩
        · dsimp only; rw [← hcat]; rfl
        · dsimp only; rw [← hcat]
      · have hie : i = m.I.length := by omega
        subst hie
        rw [List.take_length] at hg6 ⊢
        conv => whnf
        refine CallS.mk Try.call46 ⟨[], [_], _, Sub.sel [0] rfl, fun F' hF' => rPack_ok F' (oaOf g6) (capOf g6) _ (SlF.sv (g := g6) hF' (T := 114) (SL.flat_length fldF_length _) (at_nil hg6)) (u64_of_fit (show allFit (Z ++ m.I.flatMap fItem) = true from hfin ▸ af_msg hg)) (by have := fields_len hg; rw [hfin] at this; omega), ?_⟩
        rw [← hfin, pack_msg hg]
        rintro e A' ⟨rfl, rfl⟩
        conv => whnf
        repeat (first | (refine LoadV.s rfl rfl (forceV_of ?_); conv => whnf) | (refine LoadV.s rfl rfl ?_; conv => whnf) | (refine StoreV.c rfl rfl (Nat.le_of_ble_eq_true rfl) rfl ?_; conv => whnf) | (refine LoadV.a _ rfl (Nat.le_of_ble_eq_true rfl) ?_; conv => whnf) | (refine DrawI.quiet (by kernel_rfl) (by kernel_rfl) ?_; conv => whnf) | (refine ArI.in64 (by omega) ?_; conv => whnf) | (refine ArI.inU8 (by omega) ?_; conv => whnf) | (refine ArI.inU64 (by omega) ?_; conv => whnf) | (refine ArI.inU32 (by omega) ?_; conv => whnf) | (refine RetI.one Try.results12 rfl ?_; conv => whnf) | (refine RetI.two Try.results12 rfl rfl ?_; conv => whnf) | (refine RetI.three Try.results12 rfl rfl rfl ?_; conv => whnf) | (refine RetI.none Try.results12 ?_; conv => whnf) | (refine ⟨by first | decide | omega, ?_⟩; conv => whnf))
        exact ⟨_, Sub.sel [] rfl, rfl, rfl⟩
    · simp only [gRq, seatB, Bool.and_eq_true] at h2
      obtain ⟨⟨q1, _⟩, q2⟩ := h2
      obtain ⟨q3, q4⟩ := btw_spec q1
      obtain ⟨q5, q6⟩ := btw_spec q2
      refine ArI.to64 1 (by omega) (by omega) ?_
      conv => whnf
      refine CallS.mk Try.call42 ⟨[_], [_], _, Sub.trans (Sub.nil 114 2) (Sub.refl _), fun F' hF' => put_ok F' none [] (by simp) 1 2 (by omega) (by omega) (by simp), ?_⟩
      rintro e A' ⟨g1, hg1, rfl, rfl⟩
      conv => whnf
      refine LoadV.s rfl rfl ?_
      conv => whnf
      rw [show (m.kind == 1) = false from by rw [hk]; rfl]
      conv => whnf
      rw [show (m.kind == 2) = true from by rw [hk]; rfl]
      conv => whnf
      refine DrawI.mixed [4, 8] [_] (by kernel_rfl) (by kernel_rfl) (by kernel_rfl) (by kernel_rfl) (by kernel_rfl) (Sub.sel [1] rfl) ?_
      conv => whnf
      refine (show LoadV _ _ _ ⟨b, 5, none⟩ _ _ from ?_)
      refine LoadV.s rfl rfl ?_
      conv => whnf
      refine CallS.mk Try.call42 ⟨[_], [_], _, Sub.sel [0, 1] rfl, fun F' hF' => put_ok F' g1 _ hg1 (m.qw) 8 (by omega) (by omega) (by simp only [List.length_append, List.length_cons, List.length_nil, fSeats, fItems, fKey_length, flatF_length fSeat_length]; omega), ?_⟩
      rintro e A' ⟨g2, hg2, rfl, rfl⟩
      conv => whnf
      refine ⟨Sub.sel [1] rfl, ?_⟩
      conv => whnf
      refine (show LoadV _ _ _ ⟨b, 6, none⟩ _ _ from ?_)
      refine LoadV.s rfl rfl ?_
      conv => whnf
      refine CallS.mk Try.call42 ⟨[_], [_], _, Sub.sel [0, 1] rfl, fun F' hF' => put_ok F' g2 _ hg2 (m.qe) 8 (by omega) (by omega) (by simp only [List.length_append, List.length_cons, List.length_nil, fSeats, fItems, fKey_length, flatF_length fSeat_length]; omega), ?_⟩
      rintro e A' ⟨g3, hg3, rfl, rfl⟩
      conv => whnf
      refine ⟨Sub.sel [1] rfl, ?_⟩
      conv => whnf
      have hfin : fieldsOf m = [] ++ [(Int.toNat 1, 2)] ++ [(m.qw.toNat, 8)] ++ [(m.qe.toNat, 8)] := by
        unfold fieldsOf restF
        rw [if_neg (by omega), if_pos hk, hk]
        simp
      generalize ([] ++ [(Int.toNat 1, 2)] ++ [(m.qw.toNat, 8)] ++ [(m.qe.toNat, 8)] : FL) = Z at hfin hg3 ⊢
      refine CallS.mk Try.call46 ⟨[], [_], _, Sub.sel [0] rfl, fun F' hF' => rPack_ok F' (oaOf g3) (capOf g3) _ (SlF.sv (g := g3) hF' (T := 114) (SL.flat_length fldF_length _) (at_nil hg3)) (u64_of_fit (show allFit (Z) = true from hfin ▸ af_msg hg)) (by have := fields_len hg; rw [hfin] at this; omega), ?_⟩
      rw [← hfin, pack_msg hg]
      rintro e A' ⟨rfl, rfl⟩
      conv => whnf
      repeat (first | (refine LoadV.s rfl rfl (forceV_of ?_); conv => whnf) | (refine LoadV.s rfl rfl ?_; conv => whnf) | (refine StoreV.c rfl rfl (Nat.le_of_ble_eq_true rfl) rfl ?_; conv => whnf) | (refine LoadV.a _ rfl (Nat.le_of_ble_eq_true rfl) ?_; conv => whnf) | (refine DrawI.quiet (by kernel_rfl) (by kernel_rfl) ?_; conv => whnf) | (refine ArI.in64 (by omega) ?_; conv => whnf) | (refine ArI.inU8 (by omega) ?_; conv => whnf) | (refine ArI.inU64 (by omega) ?_; conv => whnf) | (refine ArI.inU32 (by omega) ?_; conv => whnf) | (refine RetI.one Try.results12 rfl ?_; conv => whnf) | (refine RetI.two Try.results12 rfl rfl ?_; conv => whnf) | (refine RetI.three Try.results12 rfl rfl rfl ?_; conv => whnf) | (refine RetI.none Try.results12 ?_; conv => whnf) | (refine ⟨by first | decide | omega, ?_⟩; conv => whnf))
      exact ⟨_, Sub.sel [] rfl, rfl, rfl⟩
    · simp only [gRp, seatB, Bool.and_eq_true] at h3
      obtain ⟨⟨⟨q1, q2⟩, q3⟩, q4⟩ := h3
      obtain ⟨q5, q6⟩ := btw_spec q1
      obtain ⟨q7, q8⟩ := btw_spec q2
      obtain ⟨q9, q10⟩ := btw_spec q3
      refine ArI.to64 2 (by omega) (by omega) ?_
      conv => whnf
      refine CallS.mk Try.call42 ⟨[_], [_], _, Sub.trans (Sub.nil 114 2) (Sub.refl _), fun F' hF' => put_ok F' none [] (by simp) 2 2 (by omega) (by omega) (by simp), ?_⟩
      rintro e A' ⟨g1, hg1, rfl, rfl⟩
      conv => whnf
      refine LoadV.s rfl rfl ?_
      conv => whnf
      rw [show (m.kind == 1) = false from by rw [hk]; rfl]
      conv => whnf
      rw [show (m.kind == 2) = false from by rw [hk]; rfl]
      conv => whnf
      rw [show (m.kind == 3) = true from by rw [hk]; rfl]
      conv => whnf
      refine DrawI.mixed [4, 8, 12] [_] (by kernel_rfl) (by kernel_rfl) (by kernel_rfl) (by kernel_rfl) (by kernel_rfl) (Sub.sel [1] rfl) ?_
      conv => whnf
      refine (show LoadV _ _ _ ⟨b, 7, none⟩ _ _ from ?_)
      refine LoadV.s rfl rfl ?_
      conv => whnf
      refine CallS.mk Try.call42 ⟨[_], [_], _, Sub.sel [0, 1] rfl, fun F' hF' => put_ok F' g1 _ hg1 (m.pw) 8 (by omega) (by omega) (by simp only [List.length_append, List.length_cons, List.length_nil, fSeats, fItems, fKey_length, flatF_length fSeat_length]; omega), ?_⟩
      rintro e A' ⟨g2, hg2, rfl, rfl⟩
      conv => whnf
      refine ⟨Sub.sel [1] rfl, ?_⟩
      conv => whnf
      refine (show LoadV _ _ _ ⟨b, 8, none⟩ _ _ from ?_)
      refine LoadV.s rfl rfl ?_
      conv => whnf
      refine CallS.mk Try.call42 ⟨[_], [_], _, Sub.sel [0, 1] rfl, fun F' hF' => put_ok F' g2 _ hg2 (m.ps) 6 (by omega) (by omega) (by simp only [List.length_append, List.length_cons, List.length_nil, fSeats, fItems, fKey_length, flatF_length fSeat_length]; omega), ?_⟩
      rintro e A' ⟨g3, hg3, rfl, rfl⟩
      conv => whnf
      refine ⟨Sub.sel [1] rfl, ?_⟩
      conv => whnf
      refine (show LoadV _ _ _ ⟨b, 9, none⟩ _ _ from ?_)
      refine LoadV.s rfl rfl ?_
      conv => whnf
      refine CallS.mk Try.call42 ⟨[_], [_], _, Sub.sel [0, 1] rfl, fun F' hF' => put_ok F' g3 _ hg3 (m.pe) 8 (by omega) (by omega) (by simp only [List.length_append, List.length_cons, List.length_nil, fSeats, fItems, fKey_length, flatF_length fSeat_length]; omega), ?_⟩
      rintro e A' ⟨g4, hg4, rfl, rfl⟩
      conv => whnf
      refine ⟨Sub.sel [1] rfl, ?_⟩
      conv => whnf
      have hfin : fieldsOf m = [] ++ [(Int.toNat 2, 2)] ++ [(m.pw.toNat, 8)] ++ [(m.ps.toNat, 6)] ++ [(m.pe.toNat, 8)] ++ [m.b0, m.b1, m.b2].flatMap fBox := by
        unfold fieldsOf restF
        rw [if_neg (by omega), if_neg (by omega), if_pos hk, hk]
        simp
      have hb0 : ([] ++ [(Int.toNat 2, 2)] ++ [(m.pw.toNat, 8)] ++ [(m.ps.toNat, 6)] ++ [(m.pe.toNat, 8)] : FL).length ≤ 3000 := by
        simp only [List.length_append, List.length_cons, List.length_nil]; omega
      generalize ([] ++ [(Int.toNat 2, 2)] ++ [(m.pw.toNat, 8)] ++ [(m.ps.toNat, 6)] ++ [(m.pe.toNat, 8)] : FL) = Z at hb0 hfin hg4 ⊢
      refine LoopI.by_state (σ := Nat × Option (Nat × Nat)) (fun x => [(1, .pointer (some ⟨b, 0, none⟩)), (4, svOf x.2 (Z ++ ([m.b0, m.b1, m.b2].take x.1).flatMap fBox).length), (7, .int .i64 (x.1 : Int))])
        (fun x => [ownF x.2 (Z ++ ([m.b0, m.b1, m.b2].take x.1).flatMap fBox), .cells b (msgL m s) 38 (0, 0)])
        (fun x => x.1 ≤ 3 ∧ (x.2 = none ↔ Z ++ ([m.b0, m.b1, m.b2].take x.1).flatMap fBox = [])) (fun x => 3 - x.1) (0, g4) ⟨Nat.zero_le _, by simpa using hg4⟩ ⟨rfl, by simp only [List.take_zero, List.flatMap_nil, List.append_nil]; rfl, rfl, trivial⟩ (by simp only [List.take_zero, List.flatMap_nil, List.append_nil]; exact Sub.sel [0, 1] rfl) ?_
      rintro ⟨i, g6⟩ f0 ⟨hi, hg6⟩
      dsimp only at hi hg6 ⊢
      have hlen : (Z ++ ([m.b0, m.b1, m.b2].take i).flatMap fBox).length ≤ 100000 := by
        rw [List.length_append, flatF_length fBox_length, List.length_take]; simp only [List.length_cons, List.length_nil]; omega
      conv => whnf
      refine cond_dec (fun h => ?_) (fun h => ?_)
      · have hil : i < [m.b0, m.b1, m.b2].length := by simp only [List.length_cons, List.length_nil]; omega
        have hft := flatF_take fBox hil
        have hsx : bxB ([m.b0, m.b1, m.b2][i]) = true := List.all_eq_true.1 q4 _ (List.getElem_mem hil)
        have hix : ∃ x, x = [m.b0, m.b1, m.b2][i] ∧ ((msgL m s).drop (10 + i * 4)).take 4 = bxF x := by
          refine ⟨_, rfl, ?_⟩
          have h3 : i = 0 ∨ i = 1 ∨ i = 2 := by omega
          rcases h3 with rfl | rfl | rfl <;> rfl
        obtain ⟨x, hx, hmk⟩ := hix
        rw [← hx] at hsx hft
        conv => whnf
        refine ⟨by omega, ?_⟩
        conv => whnf
        refine (show LoadV _ _ _ ⟨b, 10 + i * 4, none⟩ _ _ from ?_)
        refine LoadV.a (l := msgL m s) 4 rfl (by show 10 + i * 4 + 4 ≤ 26; omega) ?_
        rw [hmk]
        conv => whnf
        refine CallS.mk Try.call44 ⟨[_], [_], _, Sub.sel [0, 1] rfl, fun F' hF' => putBox_ok F' g6 _ hg6 x hsx (by omega), ?_⟩
        rintro e A' ⟨g9, hg9, rfl, rfl⟩
        conv => whnf
        refine ArI.to64 ((i + 1 : Nat) : Int) (by omega) (by omega) ?_
        conv => whnf
        have hcat : Z ++ ([m.b0, m.b1, m.b2].take i).flatMap fBox ++ fBox x = Z ++ ([m.b0, m.b1, m.b2].take (i + 1)).flatMap fBox := by rw [hft]; simp
        rw [hcat] at hg9
        refine ⟨(i + 1, g9), _, by dsimp only; omega, Sub.refl _, ⟨by dsimp only; omega, hg9⟩, ⟨rfl, ?_, rfl, trivial⟩, ?_⟩
        · dsimp only; rw [← hcat]; rfl
        · dsimp only; rw [← hcat]
      · have hie : i = [m.b0, m.b1, m.b2].length := by simp only [List.length_cons, List.length_nil]; omega
        rw [hie, List.take_length] at hg6 ⊢
        conv => whnf
        refine CallS.mk Try.call46 ⟨[], [_], _, Sub.sel [0] rfl, fun F' hF' => rPack_ok F' (oaOf g6) (capOf g6) _ (SlF.sv (g := g6) hF' (T := 114) (SL.flat_length fldF_length _) (at_nil hg6)) (u64_of_fit (show allFit (Z ++ [m.b0, m.b1, m.b2].flatMap fBox) = true from hfin ▸ af_msg hg)) (by have := fields_len hg; rw [hfin] at this; omega), ?_⟩
        rw [← hfin, pack_msg hg]
        rintro e A' ⟨rfl, rfl⟩
        conv => whnf
        repeat (first | (refine LoadV.s rfl rfl (forceV_of ?_); conv => whnf) | (refine LoadV.s rfl rfl ?_; conv => whnf) | (refine StoreV.c rfl rfl (Nat.le_of_ble_eq_true rfl) rfl ?_; conv => whnf) | (refine LoadV.a _ rfl (Nat.le_of_ble_eq_true rfl) ?_; conv => whnf) | (refine DrawI.quiet (by kernel_rfl) (by kernel_rfl) ?_; conv => whnf) | (refine ArI.in64 (by omega) ?_; conv => whnf) | (refine ArI.inU8 (by omega) ?_; conv => whnf) | (refine ArI.inU64 (by omega) ?_; conv => whnf) | (refine ArI.inU32 (by omega) ?_; conv => whnf) | (refine RetI.one Try.results12 rfl ?_; conv => whnf) | (refine RetI.two Try.results12 rfl rfl ?_; conv => whnf) | (refine RetI.three Try.results12 rfl rfl rfl ?_; conv => whnf) | (refine RetI.none Try.results12 ?_; conv => whnf) | (refine ⟨by first | decide | omega, ?_⟩; conv => whnf))
        exact ⟨_, Sub.sel [] rfl, rfl, rfl⟩
    · simp only [gSe, Bool.and_eq_true, decide_eq_true_eq] at h4
      obtain ⟨⟨q1, q2⟩, q3⟩ := h4
      obtain ⟨q5, q6⟩ := btw_spec q1
      refine ArI.to64 3 (by omega) (by omega) ?_
      conv => whnf
      refine CallS.mk Try.call42 ⟨[_], [_], _, Sub.trans (Sub.nil 114 2) (Sub.refl _), fun F' hF' => put_ok F' none [] (by simp) 3 2 (by omega) (by omega) (by simp), ?_⟩
      rintro e A' ⟨g1, hg1, rfl, rfl⟩
      conv => whnf
      refine LoadV.s rfl rfl ?_
      conv => whnf
      rw [show (m.kind == 1) = false from by rw [hk]; rfl]
      conv => whnf
      rw [show (m.kind == 2) = false from by rw [hk]; rfl]
      conv => whnf
      rw [show (m.kind == 3) = false from by rw [hk]; rfl]
      conv => whnf
      rw [show (m.kind == 4) = true from by rw [hk]; rfl]
      conv => whnf
      refine DrawI.mixed [4, 8, 13] [_] (by kernel_rfl) (by kernel_rfl) (by kernel_rfl) (by kernel_rfl) (by kernel_rfl) (Sub.sel [1] rfl) ?_
      conv => whnf
      refine (show LoadV _ _ _ ⟨b, 22, none⟩ _ _ from ?_)
      refine LoadV.s rfl rfl ?_
      conv => whnf
      refine CallS.mk Try.call42 ⟨[_], [_], _, Sub.sel [0, 1] rfl, fun F' hF' => put_ok F' g1 _ hg1 (m.se) 8 (by omega) (by omega) (by simp only [List.length_append, List.length_cons, List.length_nil, fSeats, fItems, fKey_length, flatF_length fSeat_length]; omega), ?_⟩
      rintro e A' ⟨g2, hg2, rfl, rfl⟩
      conv => whnf
      refine ⟨Sub.sel [1] rfl, ?_⟩
      conv => whnf
      refine (show LoadV _ _ _ ⟨b, 23, none⟩ _ _ from ?_)
      refine LoadV.a 2 rfl (Nat.le_of_ble_eq_true rfl) ?_
      conv => whnf
      refine CallS.mk Try.call45 ⟨[_], [_], _, Sub.sel [0, 1] rfl, fun F' hF' => putKey_ok F' g2 _ hg2 m.sb m.ss q2 (by simp only [List.length_append, List.length_cons, List.length_nil]; omega), ?_⟩
      rintro e A' ⟨g3, hg3, rfl, rfl⟩
      conv => whnf
      refine ⟨Sub.sel [1] rfl, ?_⟩
      conv => whnf
      refine (show LoadV _ _ _ ⟨b, 25, none⟩ _ _ from ?_)
      refine LoadV.s rfl rfl ?_
      conv => whnf
      refine CallS.mk Try.call42 ⟨[_], [_], _, Sub.sel [0, 1] rfl, fun F' hF' => put_ok F' g3 _ hg3 (m.tx.size : Int) 7 (by omega) (by omega) (by simp only [List.length_append, List.length_cons, List.length_nil, fSeats, fItems, fKey_length, flatF_length fSeat_length]; omega), ?_⟩
      rintro e A' ⟨g4, hg4, rfl, rfl⟩
      conv => whnf
      refine ⟨Sub.sel [1] rfl, ?_⟩
      conv => whnf
      have hfin : fieldsOf m = [] ++ [(Int.toNat 3, 2)] ++ [(m.se.toNat, 8)] ++ fKey m.sb m.ss ++ [(Int.toNat (m.tx.size : Int), 7)] ++ (txt m.tx).flatMap fun c => [(c, (8 : Int))] := by
        unfold fieldsOf restF
        rw [if_neg (by omega), if_neg (by omega), if_neg (by omega), hk]
        simp
      have hb0 : ([] ++ [(Int.toNat 3, 2)] ++ [(m.se.toNat, 8)] ++ fKey m.sb m.ss ++ [(Int.toNat (m.tx.size : Int), 7)] : FL).length ≤ 3000 := by
        simp only [List.length_append, List.length_cons, List.length_nil, fKey_length]; omega
      generalize ([] ++ [(Int.toNat 3, 2)] ++ [(m.se.toNat, 8)] ++ fKey m.sb m.ss ++ [(Int.toNat (m.tx.size : Int), 7)] : FL) = Z at hb0 hfin hg4 ⊢
      have hl := txt_length m.tx
      refine LoopI.by_state (σ := Nat × Option (Nat × Nat)) (fun x => [(1, .pointer (some ⟨b, 0, none⟩)), (4, svOf x.2 (Z ++ ((txt m.tx).take x.1).flatMap fun c => [(c, (8 : Int))]).length), (8, .int .i64 (x.1 : Int))])
        (fun x => [ownF x.2 (Z ++ ((txt m.tx).take x.1).flatMap fun c => [(c, (8 : Int))]), .cells b (msgL m s) 38 (0, 0)])
        (fun x => x.1 ≤ m.tx.size ∧ (x.2 = none ↔ (Z ++ ((txt m.tx).take x.1).flatMap fun c => [(c, (8 : Int))]) = [])) (fun x => m.tx.size - x.1) (0, g4) ⟨Nat.zero_le _, by simpa using hg4⟩ ⟨rfl, by simp only [List.take_zero, List.flatMap_nil, List.append_nil]; rfl, rfl, trivial⟩ (by simp only [List.take_zero, List.flatMap_nil, List.append_nil]; exact Sub.sel [0, 1] rfl) ?_
      rintro ⟨i, g6⟩ f0 ⟨hi, hg6⟩
      dsimp only at hi hg6 ⊢
      have hlen : (Z ++ ((txt m.tx).take i).flatMap fun c => [(c, (8 : Int))]).length ≤ 100000 := by
        rw [List.length_append, flatF_length (f := fun c : Nat => [(c, (8 : Int))]) (n := 1) (fun _ => rfl), List.length_take]; omega
      conv => whnf
      refine (show LoadV _ _ _ ⟨b, 25, none⟩ _ _ from ?_)
      refine LoadV.s rfl rfl ?_
      conv => whnf
      refine cond_dec (fun h => ?_) (fun h => ?_)
      · have hil : i < (txt m.tx).length := by omega
        have hft := flatF_take (fun c : Nat => [(c, (8 : Int))]) hil
        have hx256 : (txt m.tx)[i] < 256 := txt_lt m.tx _ (List.getElem_mem hil)
        have hby : byteAt m.tx (i : Int) = (((txt m.tx)[i] : Nat) : Int) := byteAt_txt m.tx i hil
        conv => whnf
        refine (show LoadV _ _ _ ⟨b, 25, none⟩ _ _ from ?_)
        refine LoadV.s rfl rfl ?_
        conv => whnf
        refine ⟨by omega, ?_⟩
        rw [hby]
        generalize (txt m.tx)[i] = x at hft hx256
        conv => whnf
        refine ArI.in64 (by omega) ?_
        conv => whnf
        refine CallS.mk Try.call42 ⟨[_], [_], _, Sub.sel [0, 1] rfl, fun F' hF' => put_ok F' g6 _ hg6 (x : Int) 8 (by omega) (by omega) (by omega), ?_⟩
        rintro e A' ⟨g9, hg9, rfl, rfl⟩
        rw [Int.toNat_natCast] at hg9 ⊢
        conv => whnf
        refine ArI.to64 ((i + 1 : Nat) : Int) (by omega) (by omega) ?_
        conv => whnf
        have hcat : (Z ++ ((txt m.tx).take i).flatMap fun c => [(c, (8 : Int))]) ++ [(x, (8 : Int))] = Z ++ ((txt m.tx).take (i + 1)).flatMap fun c => [(c, (8 : Int))] := by rw [hft]; simp
        rw [hcat] at hg9
        refine ⟨(i + 1, g9), _, by dsimp only; omega, Sub.refl _, ⟨by dsimp only; omega, hg9⟩, ⟨rfl, ?_, rfl, trivial⟩, ?_⟩
        · dsimp only; rw [← hcat]; rfl
        · dsimp only; rw [← hcat]
      · have hie : i = (txt m.tx).length := by omega
        rw [hie, List.take_length] at hg6 ⊢
        conv => whnf
        refine CallS.mk Try.call46 ⟨[], [_], _, Sub.sel [0] rfl, fun F' hF' => rPack_ok F' (oaOf g6) (capOf g6) _ (SlF.sv (g := g6) hF' (T := 114) (SL.flat_length fldF_length _) (at_nil hg6)) (u64_of_fit (show allFit (Z ++ (txt m.tx).flatMap fun c => [(c, (8 : Int))]) = true from hfin ▸ af_msg hg)) (by have := fields_len hg; rw [hfin] at this; omega), ?_⟩
        rw [← hfin, pack_msg hg]
        rintro e A' ⟨rfl, rfl⟩
        conv => whnf
        repeat (first | (refine LoadV.s rfl rfl (forceV_of ?_); conv => whnf) | (refine LoadV.s rfl rfl ?_; conv => whnf) | (refine StoreV.c rfl rfl (Nat.le_of_ble_eq_true rfl) rfl ?_; conv => whnf) | (refine LoadV.a _ rfl (Nat.le_of_ble_eq_true rfl) ?_; conv => whnf) | (refine DrawI.quiet (by kernel_rfl) (by kernel_rfl) ?_; conv => whnf) | (refine ArI.in64 (by omega) ?_; conv => whnf) | (refine ArI.inU8 (by omega) ?_; conv => whnf) | (refine ArI.inU64 (by omega) ?_; conv => whnf) | (refine ArI.inU32 (by omega) ?_; conv => whnf) | (refine RetI.one Try.results12 rfl ?_; conv => whnf) | (refine RetI.two Try.results12 rfl rfl ?_; conv => whnf) | (refine RetI.three Try.results12 rfl rfl rfl ?_; conv => whnf) | (refine RetI.none Try.results12 ?_; conv => whnf) | (refine ⟨by first | decide | omega, ?_⟩; conv => whnf))
        exact ⟨_, Sub.sel [] rfl, rfl, rfl⟩
end Go.Proofs.Ytlbdnkkaacccoaa
