/- The law of frames there and back, as a contract. -/
import Derived.Test.YtphnpchblkpjhaaFrame11
namespace Go.Proofs.Ytphnpchblkpjhaa
set_option linter.unusedVariables false
set_option linter.unusedSimpArgs false
set_option maxRecDepth 100000
open SL Go.RowKit Go.Maps

theorem pc_row (l : List Pc) (i : Nat) (hil : i < l.length) : ((l.flatMap pcF).drop (i * 4)).take 4 = pcF (l[i]) := by
  apply List.ext_getElem?
  intro j
  rw [List.getElem?_take]
  by_cases hj : j < 4
  · rw [if_pos hj, List.getElem?_drop, flat_at pcF_length l i j hil hj]
  · rw [if_neg hj, List.getElem?_eq_none (by rw [pcF_length]; omega)]
set_option maxHeartbeats 4000000 in
theorem back_ok (F : Mem) (seq : Int) (s : ByteArray) (hs : s.size ≤ 9223372036854775807) : FT Try.prog 7 [.int .i64 seq, .string s].toArray F [] (Ret (.bool true)) := by
  have hc := fun (F' : Mem) => fpack_ok F' seq s hs
  have hbad : ¬ Can seq s → (packF seq s).1 = [] ∧ (packF seq s).2 ≠ 0 := fun h => by
    unfold Can at h
    unfold packF
    split
    · exact ⟨rfl, by decide⟩
    · split
      · exact ⟨rfl, by decide⟩
      · omega
  generalize packF seq s = P at hc hbad
  obtain ⟨bl, er⟩ := P
  dsimp only at hc hbad
  refine FT.of_body Try.func7 rfl Try.ntmps7 (by simp) fun C hC => ?_
  subst hC
  conv => whnf
  refine CallS.mk Try.call9 ⟨[], _, _, Sub.refl _, fun F' hF' => lives06_ok F', ?_⟩
  rintro e A' ⟨rfl, rfl⟩
  conv => whnf
  refine cond_dec (fun h1 => ?_) (fun h1 => ?_)
  · obtain ⟨hb1, hb2⟩ := hbad (fun k => by unfold Can at k; omega)
    subst hb1
    conv => whnf
    refine CallS.mk Try.call10 ⟨[], _, _, Sub.refl _, fun F' hF' => hc F', ?_⟩
    rintro e A' ⟨g, hg, rfl, rfl⟩
    conv => whnf
    rw [show (er != 0) = true from bne_iff_ne.2 hb2]
    conv => whnf
    repeat (first | (refine LoadV.s rfl rfl (forceV_of ?_); conv => whnf) | (refine LoadV.s rfl rfl ?_; conv => whnf) | (refine StoreV.c rfl rfl (Nat.le_of_ble_eq_true rfl) rfl ?_; conv => whnf) | (refine LoadV.a _ rfl (Nat.le_of_ble_eq_true rfl) ?_; conv => whnf) | (refine DrawI.quiet (by kernel_rfl) (by kernel_rfl) ?_; conv => whnf) | (refine ArI.in64 (by omega) ?_; conv => whnf) | (refine ArI.inU8 (by omega) ?_; conv => whnf) | (refine ArI.inU64 (by omega) ?_; conv => whnf) | (refine ArI.inU32 (by omega) ?_; conv => whnf) | (refine RetI.one Try.results7 rfl ?_; conv => whnf) | (refine RetI.two Try.results7 rfl rfl ?_; conv => whnf) | (refine RetI.three Try.results7 rfl rfl rfl ?_; conv => whnf) | (refine RetI.none Try.results7 ?_; conv => whnf) | (refine ⟨by first | decide | omega, ?_⟩; conv => whnf))
    exact ⟨_, Sub.sel [] rfl, rfl, rfl⟩
  conv => whnf
  refine cond_dec (fun h2 => ?_) (fun h2 => ?_)
  · obtain ⟨hb1, hb2⟩ := hbad (fun k => by unfold Can at k; omega)
    subst hb1
    conv => whnf
    refine CallS.mk Try.call10 ⟨[], _, _, Sub.refl _, fun F' hF' => hc F', ?_⟩
    rintro e A' ⟨g, hg, rfl, rfl⟩
    conv => whnf
    rw [show (er != 0) = true from bne_iff_ne.2 hb2]
    conv => whnf
    repeat (first | (refine LoadV.s rfl rfl (forceV_of ?_); conv => whnf) | (refine LoadV.s rfl rfl ?_; conv => whnf) | (refine StoreV.c rfl rfl (Nat.le_of_ble_eq_true rfl) rfl ?_; conv => whnf) | (refine LoadV.a _ rfl (Nat.le_of_ble_eq_true rfl) ?_; conv => whnf) | (refine DrawI.quiet (by kernel_rfl) (by kernel_rfl) ?_; conv => whnf) | (refine ArI.in64 (by omega) ?_; conv => whnf) | (refine ArI.inU8 (by omega) ?_; conv => whnf) | (refine ArI.inU64 (by omega) ?_; conv => whnf) | (refine ArI.inU32 (by omega) ?_; conv => whnf) | (refine RetI.one Try.results7 rfl ?_; conv => whnf) | (refine RetI.two Try.results7 rfl rfl ?_; conv => whnf) | (refine RetI.three Try.results7 rfl rfl rfl ?_; conv => whnf) | (refine RetI.none Try.results7 ?_; conv => whnf) | (refine ⟨by first | decide | omega, ?_⟩; conv => whnf))
    exact ⟨_, Sub.sel [] rfl, rfl, rfl⟩
  conv => whnf
  refine cond_dec (fun h3 => ?_) (fun h3 => ?_)
  · obtain ⟨hb1, hb2⟩ := hbad (fun k => by unfold Can at k; omega)
    subst hb1
    conv => whnf
    refine CallS.mk Try.call10 ⟨[], _, _, Sub.refl _, fun F' hF' => hc F', ?_⟩
    rintro e A' ⟨g, hg, rfl, rfl⟩
    conv => whnf
    rw [show (er != 0) = true from bne_iff_ne.2 hb2]
    conv => whnf
    repeat (first | (refine LoadV.s rfl rfl (forceV_of ?_); conv => whnf) | (refine LoadV.s rfl rfl ?_; conv => whnf) | (refine StoreV.c rfl rfl (Nat.le_of_ble_eq_true rfl) rfl ?_; conv => whnf) | (refine LoadV.a _ rfl (Nat.le_of_ble_eq_true rfl) ?_; conv => whnf) | (refine DrawI.quiet (by kernel_rfl) (by kernel_rfl) ?_; conv => whnf) | (refine ArI.in64 (by omega) ?_; conv => whnf) | (refine ArI.inU8 (by omega) ?_; conv => whnf) | (refine ArI.inU64 (by omega) ?_; conv => whnf) | (refine ArI.inU32 (by omega) ?_; conv => whnf) | (refine RetI.one Try.results7 rfl ?_; conv => whnf) | (refine RetI.two Try.results7 rfl rfl ?_; conv => whnf) | (refine RetI.three Try.results7 rfl rfl rfl ?_; conv => whnf) | (refine RetI.none Try.results7 ?_; conv => whnf) | (refine ⟨by first | decide | omega, ?_⟩; conv => whnf))
    exact ⟨_, Sub.sel [] rfl, rfl, rfl⟩
  have hC : Can seq s := by unfold Can; omega
  have hW := can_whole hC
  have hp := fun (F' : Mem) => pieces_ok F' seq s hs (.inl hC)
  obtain ⟨n, hn, n1, n2, n3, n4⟩ := can_parts hC
  have hlen : (piecesF seq s).1.length = n := by rw [can_pieces hC, hn]; simp
  have hs0 : seq0 (piecesF seq s).1 = seq := by have := hW.2; rw [whole_yes hW.1] at this; exact congrArg Prod.fst this
  rw [show (piecesF seq s).2 = 0 by rw [can_pieces hC]] at hp
  generalize (piecesF seq s).1 = l at hp hW hlen hs0
  conv => whnf
  refine CallS.mk Try.call21 ⟨[], _, _, Sub.refl _, fun F' hF' => hp F', ?_⟩
  rintro e A' ⟨g, hg, rfl, rfl⟩
  conv => whnf
  refine CallS.mk Try.call15 ⟨[], _, _, Sub.refl _, fun F' hF' => parts_ok F' (s.size : Int), ?_⟩
  rw [hn]
  rintro e A' ⟨rfl, rfl⟩
  conv => whnf
  refine cond_of_false (by rw [hlen]; exact bne_self_eq_false _) ?_
  conv => whnf
  refine LoopI.by_state (σ := Nat) (fun i => [(0, .int .i64 seq), (1, .string s), (7, svOf g l.length), (56, svOf g l.length), (57, .int .i64 (l.length : Int)), (58, .int .i64 (i : Int))])
    (fun _ => [.own (svOf g l.length) l.length 31 4 (l.flatMap pcF)]) (fun i => i ≤ l.length) (fun i => l.length - i) 0 (by omega) ⟨rfl, rfl, rfl, rfl, rfl, rfl, trivial⟩ (Sub.sel [0] rfl) ?_
  rintro i f0 hi
  conv => whnf
  refine cond_dec (fun h => ?_) (fun h => ?_)
  · have hil : i < l.length := by omega
    obtain ⟨gb, gc, rfl⟩ := gsome hg hW.1.1
    conv => whnf
    refine ⟨by omega, ?_⟩
    conv => whnf
    refine LoadV.oa 4 rfl (by show 0 + i * 4 + 4 ≤ (l.flatMap pcF).length; rw [flat_length pcF_length]; omega) ?_
    rw [show ((l.flatMap pcF).drop (elemOff 0 (i : Int) Try.prog.types[31].size)).take 4 = pcF (l[i]) by show ((l.flatMap pcF).drop (0 + i * 4)).take 4 = _; rw [Nat.zero_add]; exact pc_row l i hil]
    have hG := hW.1.2 i hil
    generalize l[i] = q at hG ⊢
    obtain ⟨q1, q2, q3, q4⟩ := q
    obtain ⟨_, e1, e2, e3⟩ := hG
    dsimp only at e1 e2 e3
    rw [hs0] at e1
    subst e1 e2 e3
    dsimp only
    conv => whnf
    intro b3
    conv => whnf
    refine StoreV.c rfl rfl (Nat.le_of_ble_eq_true rfl) rfl ?_
    conv => whnf
    refine LoadV.s rfl rfl ?_
    conv => whnf
    refine cond_of_false (bne_self_eq_false _) ?_
    conv => whnf
    refine LoadV.s rfl rfl ?_
    conv => whnf
    refine cond_of_false (bne_self_eq_false _) ?_
    conv => whnf
    refine LoadV.s rfl rfl ?_
    conv => whnf
    refine cond_of_false (bne_self_eq_false _) ?_
    conv => whnf
    refine ArI.to64 ((i + 1 : Nat) : Int) (by omega) (by omega) ?_
    conv => whnf
    exact ⟨i + 1, _, by omega, Sub.sel [1] rfl, by omega, ⟨rfl, rfl, rfl, rfl, rfl, rfl, trivial⟩, rfl⟩
  · obtain rfl : i = l.length := by omega
    have hw := fun (F' : Mem) (h : SlF F' 4 (oaOf g) l.length (l.flatMap pcF)) => whole_ok F' (oaOf g) (capOf g) l h (by omega)
    rw [hW.2] at hw
    conv => whnf
    refine CallS.mk Try.call13 ⟨[], _, _, Sub.refl _, fun F' hF' => hw F' (SlF.sv hF' (T := 31) (by rw [flat_length pcF_length]) (fun e => by rw [hg.1 e]; rfl)), ?_⟩
    rintro e A' ⟨rfl, rfl⟩
    conv => whnf
    rw [show (seq == seq) = true from beq_self_eq_true _]
    conv => whnf
    repeat (first | (refine LoadV.s rfl rfl (forceV_of ?_); conv => whnf) | (refine LoadV.s rfl rfl ?_; conv => whnf) | (refine StoreV.c rfl rfl (Nat.le_of_ble_eq_true rfl) rfl ?_; conv => whnf) | (refine LoadV.a _ rfl (Nat.le_of_ble_eq_true rfl) ?_; conv => whnf) | (refine DrawI.quiet (by kernel_rfl) (by kernel_rfl) ?_; conv => whnf) | (refine ArI.in64 (by omega) ?_; conv => whnf) | (refine ArI.inU8 (by omega) ?_; conv => whnf) | (refine ArI.inU64 (by omega) ?_; conv => whnf) | (refine ArI.inU32 (by omega) ?_; conv => whnf) | (refine RetI.one Try.results7 rfl ?_; conv => whnf) | (refine RetI.two Try.results7 rfl rfl ?_; conv => whnf) | (refine RetI.three Try.results7 rfl rfl rfl ?_; conv => whnf) | (refine RetI.none Try.results7 ?_; conv => whnf) | (refine ⟨by first | decide | omega, ?_⟩; conv => whnf))
    exact ⟨_, Sub.sel [] rfl, ret_bool (beq_self_eq_true _), rfl⟩
end Go.Proofs.Ytphnpchblkpjhaa
