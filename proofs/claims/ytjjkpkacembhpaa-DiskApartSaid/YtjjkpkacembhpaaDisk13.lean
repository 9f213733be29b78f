/- The law DiskPlays, as a contract. -/
import Derived.Test.YtjjkpkacembhpaaDisk12
namespace Go.Proofs.Ytjjkpkacembhpaa
set_option linter.unusedVariables false
set_option linter.unusedSimpArgs false
open SL Go.RowKit Go.Maps

abbrev opF (o : Int × Int × ByteArray) : List Value := [.int .i64 o.1, .int .i64 o.2.1, .string o.2.2]
theorem opF_length (o : Int × Int × ByteArray) : (opF o).length = 3 := rfl
/-- The state of the loop over the operations. -/
structure PSt where
  i : Nat
  d : Nat
  r : Nat
  rb : Nat
  es : Array MapEntry
  c : Nat
  g : Option (Nat × Nat)
  lg : List (Int × ByteArray)
  on : Bool
  l : Int
  rd : Nat
  g0 : Option (Nat × Nat)
  rr : Nat
  bl : List ByteArray
  gl : Option (Nat × Nat)
  p : Int
theorem shareA {α : Type} {G : Prop} (P : α → Prop) (use : (∀ a, P a) → G) (prove : ∀ a, P a) : G := use prove
abbrev bothP (es1 : Array MapEntry) (c1 : Nat) (fi : List ByteArray) (x : PSt) : Heap := bothH x.d x.r x.rb es1 c1 x.es x.c x.g x.lg x.on x.l x.rd x.g0 fi x.rr x.bl x.gl x.p
abbrev BothP (es1 : Array MapEntry) (c1 : Nat) (fi : List ByteArray) (x : PSt) : Prop := Both es1 c1 x.es x.c x.g x.lg x.on x.l x.g0 fi x.bl x.gl x.p
set_option maxHeartbeats 8000000 in
theorem plays_ok (F : Mem) (oa : Option Addr) (ca : Nat) (im : List ByteArray) (ha : SlF F 1 oa im.length (strs im)) (hca : oa = none → ca = 0) (ob : Option Addr) (cb : Nat) (ops : List (Int × Int × ByteArray)) (hb : SlF F 3 ob ops.length (ops.flatMap opF))
    (hr : ∀ o ∈ ops, o.2.1 ≤ 9223372036854775807) (hlog : (ops.length + 2) * 24 ≤ 140737488355328) :
    FT Try.prog 6 [.slice oa im.length ca, .slice ob ops.length cb].toArray F [] (Ret (.bool true)) := by
  refine FT.of_body Try.func6 rfl Try.ntmps6 (by simp) fun C hC => ?_
  subst hC
  conv => whnf
  refine CallS.mk Try.call7 ⟨[], _, _, Sub.refl _, fun F' hF' => lives_ok F', ?_⟩
  rintro e A' ⟨rfl, rfl⟩
  conv => whnf
  apply shareA (α := Array MapEntry × Nat × List ByteArray)
  case use =>
    intro key
    refine CallS.mk Try.call19 ⟨[], _, _, Sub.refl _, fun F' hF' => from_ok F' oa ca im (ha.ext hF'.F), ?_⟩
    rintro e A' (⟨h0, rfl, rfl⟩ | ⟨h0, d, r, rb, es, c, M, rfl, rfl⟩)
    · conv => whnf
      refine CallS.mk Try.call20 ⟨[], _, _, Sub.refl _, fun F' hF' => r5from_ok F' oa ca im (ha.ext hF'.F) hca, ?_⟩
      rintro e A' (⟨h1, rfl, rfl⟩ | ⟨h1, _⟩)
      · conv => whnf
        refine cond_of_false (bne_self_eq_false _) ?_
        conv => whnf
        rw [show (fromC im != 0) = true from bne_iff_ne.2 h0]
        conv => whnf
        refine CallS.mk Try.call8 ⟨[], _, _, Sub.refl _, fun F' hF' => new_ok F', ?_⟩
        rintro e A' ⟨d, r, rb, rfl, rfl⟩
        conv => whnf
        refine CallS.mk Try.call23 ⟨[], [_, _, _, _], _, Sub.sel [0, 1, 2, 3] rfl, fun F' hF' => r5new_ok F', ?_⟩
        rintro e A' ⟨rd, rr, bl, hbl, rfl, rfl⟩
        conv => whnf
        obtain ⟨A, hA⟩ : ∃ A : Array MapEntry × Nat × List ByteArray, A = (#[], 0, []) := ⟨_, rfl⟩
        refine LoopI.by_state (σ := PSt) (fun x => [(5, .pointer (some ⟨x.d, 0, none⟩)), (7, .pointer (some ⟨x.rd, 0, none⟩)), (34, .slice ob ops.length cb), (35, .int .i64 (ops.length : Int)), (36, .int .i64 (x.i : Int))])
          (fun x => bothP A.1 A.2.1 A.2.2 x) (fun x => x.i ≤ ops.length ∧ x.lg.length ≤ x.i ∧ BothP A.1 A.2.1 A.2.2 x) (fun x => ops.length - x.i) ⟨0, d, r, rb, #[], 0, none, [], true, -1, rd, none, rr, bl, none, -1⟩ ⟨by simp, by simp, by subst hA; exact ⟨MapOk.empty, MapOk.empty, rfl, fun _ => rfl, hbl ▸ blk_from blkF_nil, (by intro p hp; cases hp), by simp, by simp, Pow.new, by show (-1 : Int) ≤ _; decide⟩⟩ ⟨rfl, rfl, rfl, rfl, rfl, trivial⟩ (by subst hA; exact Sub.sel [4, 5, 6, 7, 0, 1, 2, 3] rfl) ?_
        exact key A
      · exact absurd h1 h0
    · conv => whnf
      refine CallS.mk Try.call20 ⟨[], [_, _, _, _], _, Sub.sel [0, 1, 2, 3] rfl, fun F' hF' => r5from_ok F' oa ca im (ha.ext hF'.F) hca, ?_⟩
      rintro e A' (⟨h1, _⟩ | ⟨h1, rd, g0, rr, bl, hbl, hg0, rfl, rfl⟩)
      · exact absurd h0 h1
      · conv => whnf
        obtain ⟨A, hA⟩ : ∃ A : Array MapEntry × Nat × List ByteArray, A = (es, c, im) := ⟨_, rfl⟩
        refine LoopI.by_state (σ := PSt) (fun x => [(5, .pointer (some ⟨x.d, 0, none⟩)), (7, .pointer (some ⟨x.rd, 0, none⟩)), (34, .slice ob ops.length cb), (35, .int .i64 (ops.length : Int)), (36, .int .i64 (x.i : Int))])
          (fun x => bothP A.1 A.2.1 A.2.2 x) (fun x => x.i ≤ ops.length ∧ x.lg.length ≤ x.i ∧ BothP A.1 A.2.1 A.2.2 x) (fun x => ops.length - x.i) ⟨0, d, r, rb, es, c, none, [], true, -1, rd, g0, rr, bl, none, -1⟩ ⟨by simp, by simp, by subst hA; exact ⟨M, M, h0, fun h => absurd h hg0, blk_from hbl, (by intro p hp; cases hp), by simp, by simp, Pow.new, by show (-1 : Int) ≤ _; decide⟩⟩ ⟨rfl, rfl, rfl, rfl, rfl, trivial⟩ (by subst hA; exact Sub.sel [4, 5, 6, 7, 0, 1, 2, 3] rfl) ?_
        exact key A
  case prove =>
    rintro ⟨es1, c1, fi⟩ ⟨i, d, r, rb, es, c, g, lg, on, l, rd, g0, rr, bl, gl, p⟩ f0 ⟨hi, hle, I⟩
    dsimp only at hi hle I ⊢
    replace I : Both es1 c1 es c g lg on l g0 fi bl gl p := I
    conv => whnf
    refine cond_dec (fun h => ?_) (fun h => ?_)
    · have hil : i < ops.length := by omega
      obtain ⟨xb, yb, rfl, hrb⟩ := hb.at (i := i) hil
      conv => whnf
      refine ⟨by omega, ?_⟩
      conv => whnf
      refine LoadV.fa (cs := opF (ops[i])) (flat_row opF_length hrb hil rfl) rfl ?_
      have hr1 := hr _ (List.getElem_mem hil)
      generalize ops[i] = o at hr1 ⊢
      obtain ⟨kd, at_, s⟩ := o
      dsimp only at hr1 ⊢
      conv => whnf
      intro b
      conv => whnf
      repeat (first | (refine LoadV.s rfl rfl (forceV_of ?_); conv => whnf) | (refine LoadV.s rfl rfl ?_; conv => whnf) | (refine StoreV.c rfl rfl (Nat.le_of_ble_eq_true rfl) rfl ?_; conv => whnf) | (refine LoadV.a _ rfl (Nat.le_of_ble_eq_true rfl) ?_; conv => whnf) | (refine DrawI.quiet (by kernel_rfl) (by kernel_rfl) ?_; conv => whnf) | (refine ArI.in64 (by omega) ?_; conv => whnf) | (refine ArI.inU8 (by omega) ?_; conv => whnf) | (refine ArI.inU64 (by omega) ?_; conv => whnf) | (refine ArI.inU32 (by omega) ?_; conv => whnf) | (refine RetI.one Try.results6 rfl ?_; conv => whnf) | (refine RetI.two Try.results6 rfl rfl ?_; conv => whnf) | (refine RetI.three Try.results6 rfl rfl rfl ?_; conv => whnf) | (refine RetI.none Try.results6 ?_; conv => whnf) | (refine ⟨by first | decide | omega, ?_⟩; conv => whnf))
      refine CallS.mk Try.call24 ⟨[_, _, _, _, _, _, _, _], [_], _, Sub.sel [1, 2, 3, 4, 5, 6, 7, 8, 0] rfl, fun F' hF' => step_ok F' d r rb es1 c1 es c g lg on l rd g0 fi rr bl gl p I kd at_ s hr1 (by omega), ?_⟩
      rintro e A' ⟨rfl, es', c', g', lg', on', l', bl', gl', p', I', hle', rfl⟩
      conv => whnf
      refine CallS.mk Try.call13 ⟨[_], [_, _, _, _, _, _, _, _], _, Sub.sel [0, 1, 2, 3, 4, 5, 6, 7, 8] rfl, fun F' hF' => on_ok F' d _ _ _ on' l', ?_⟩
      rintro e A' ⟨rfl, rfl⟩
      conv => whnf
      refine CallS.mk Try.call25 ⟨[_], [_, _, _, _, _, _, _, _], _, Sub.sel [4, 0, 1, 2, 3, 5, 6, 7, 8] rfl, fun F' hF' => r5on_ok F' rd _ _ _ p', ?_⟩
      rintro e A' ⟨rfl, rfl⟩
      conv => whnf
      refine cond_of_false (by rw [I'.pw.1]; exact bne_self_eq_false _) ?_
      conv => whnf
      repeat (first | (refine LoadV.s rfl rfl (forceV_of ?_); conv => whnf) | (refine LoadV.s rfl rfl ?_; conv => whnf) | (refine StoreV.c rfl rfl (Nat.le_of_ble_eq_true rfl) rfl ?_; conv => whnf) | (refine LoadV.a _ rfl (Nat.le_of_ble_eq_true rfl) ?_; conv => whnf) | (refine DrawI.quiet (by kernel_rfl) (by kernel_rfl) ?_; conv => whnf) | (refine ArI.in64 (by omega) ?_; conv => whnf) | (refine ArI.inU8 (by omega) ?_; conv => whnf) | (refine ArI.inU64 (by omega) ?_; conv => whnf) | (refine ArI.inU32 (by omega) ?_; conv => whnf) | (refine RetI.one Try.results6 rfl ?_; conv => whnf) | (refine RetI.two Try.results6 rfl rfl ?_; conv => whnf) | (refine RetI.three Try.results6 rfl rfl rfl ?_; conv => whnf) | (refine RetI.none Try.results6 ?_; conv => whnf) | (refine ⟨by first | decide | omega, ?_⟩; conv => whnf))
      refine cond_split (fun h6 => ?_) (fun h6 => ?_)
      · conv => whnf
        refine DrawI.mixed [3, 7] [_] (by kernel_rfl) (by kernel_rfl) (by kernel_rfl) (by kernel_rfl) (by kernel_rfl) (Sub.sel [8] rfl) ?_
        conv => whnf
        refine LoadV.s rfl rfl ?_
        conv => whnf
        refine CallS.mk Try.call12 ⟨[_, _, _, _], [_, _, _, _, _], _, Sub.sel [1, 2, 3, 4, 0, 5, 6, 7, 8] rfl, fun F' hF' => cut_ok F' d r rb es1 c1 _ I'.M1 (.map es' c') g' lg' on' l' at_ I'.hg.1 I'.ok (by omega), ?_⟩
        rintro e A' ⟨d2, r2, rb2, es2, c2, g2, M2, hg2, rfl, rfl⟩
        conv => whnf
        refine ⟨Sub.sel [12] rfl, ?_⟩
        conv => whnf
        refine LoadV.s rfl rfl ?_
        conv => whnf
        refine CallS.mk Try.call26 ⟨[_, _, _, _], [_, _, _, _, _, _, _, _, _], _, Sub.sel [8, 9, 10, 11, 0, 1, 2, 3, 4, 5, 6, 7, 12] rfl, fun F' hF' => r5cut_ok F' rd g0 fi rr bl' gl' lg' p' at_ I'.g0 I'.hgl.1 I'.fi0 I'.ok (by omega), ?_⟩
        rintro e A' ⟨rd2, g02, rr2, bl2, gl2, hB2, hg02, hgl2, rfl, rfl⟩
        conv => whnf
        refine ⟨Sub.sel [16] rfl, ?_⟩
        conv => whnf
        have hlk : (lg'.take (cutN at_ lg'.length)).length ≤ lg'.length := by rw [List.length_take]; omega
        refine ArI.to64 ((i + 1 : Nat) : Int) (by omega) (by omega) ?_
        conv => whnf
        refine ⟨⟨i + 1, d2, r2, rb2, es2, c2, g2, lg'.take (cutN at_ lg'.length), true, -1, rd2, g02, rr2, setAll bl2 (lg'.take (cutN at_ lg'.length)), gl2, -1⟩, _, by dsimp only; omega, Sub.sel [12, 13, 14, 15, 0, 1, 2, 3] rfl,
          ⟨by dsimp only; omega, by dsimp only; omega, ⟨I'.M1, M2, I'.fi0, fun h => absurd h hg02, blk_replay (logOk_pre I'.ok _) (blk_from hB2), logOk_pre I'.ok _, hg2.trans (cut_nil _ _), hgl2, Pow.new, by show (-1 : Int) ≤ _; decide⟩⟩, ⟨rfl, rfl, rfl, rfl, rfl, trivial⟩, rfl⟩
      · conv => whnf
        refine ArI.to64 ((i + 1 : Nat) : Int) (by omega) (by omega) ?_
        conv => whnf
        refine ⟨⟨i + 1, d, r, rb, es', c', g', lg', on', l', rd, g0, rr, bl', gl', p'⟩, _, by dsimp only; omega, Sub.sel [1, 2, 3, 4, 0, 5, 6, 7] rfl, ⟨by dsimp only; omega, by dsimp only; omega, I'⟩, ⟨rfl, rfl, rfl, rfl, rfl, trivial⟩, rfl⟩
    · obtain rfl : i = ops.length := by omega
      conv => whnf
      have hIn : InDisk (replay (fromM fi fi.length) lg) := inDisk_replay I.ok (inDisk_from (fromC_len I.fi0))
      refine DrawI.mixed [1, 3, 4, 5, 7, 12] [_] (by kernel_rfl) (by kernel_rfl) (by kernel_rfl) (by kernel_rfl) (by kernel_rfl) (Sub.sel [4] rfl) ?_
      conv => whnf
      refine CallS.mk Try.call9 ⟨[_, _, _, _], [_, _, _, _], _, Sub.sel [0, 1, 2, 3, 4, 5, 6, 7] rfl, fun F' hF' => image_cp F' d r rb _ es c _ I.M hIn (svOf g lg.length) lg on l, ?_⟩
      rintro e A' ⟨bi, im2, him, rfl, rfl⟩
      conv => whnf
      refine ⟨Sub.sel [5] rfl, ?_⟩
      conv => whnf
      have htr : trimB bl = im2 := (trim_image I.M hIn I.B).trans him.symm
      have hrc := fun (F' : Mem) => r5image_ok F' rd (svOf g0 fi.length) (svOf gl lg.length) rr bl p I.B.1
      have himl : im2.length ≤ 9223372036854775807 := by rw [him]; have := imageL_le _ hIn; omega
      rw [htr] at hrc
      clear him
      refine CallS.mk Try.call22 ⟨[_, _], [_, _, _, _, _, _, _], _, Sub.sel [5, 7, 0, 1, 2, 3, 4, 6, 8] rfl, fun F' hF' => hrc F', ?_⟩
      rintro e A' ⟨gi, hgi, rfl, rfl⟩
      obtain ⟨gib, gic, rfl⟩ : ∃ b c, gi = some (b, c) := by
        cases gi with
        | none => exact absurd rfl hgi
        | some p => exact ⟨p.1, p.2, rfl⟩
      conv => whnf
      refine ⟨Sub.sel [1] rfl, ?_⟩
      conv => whnf
      refine CallS.mk Try.call14 ⟨[], _, _, Sub.refl _, fun F' hF' => same_ok F' (some ⟨bi, 0, none⟩) (some ⟨gib, 0, none⟩) im2.length gic im2 im2 (SlF.cells hF' (by simp)) (SlF.sv (g := some (gib, gic)) hF' (T := 9) (by simp) (by simp)) himl, ?_⟩
      rw [show decide (im2 = im2) = true from decide_eq_true rfl]
      rintro e A' ⟨rfl, rfl⟩
      conv => whnf
      refine ⟨Sub.sel [1] rfl, ?_⟩
      conv => whnf
      refine ⟨Sub.sel [1] rfl, ?_⟩
      conv => whnf
      refine CallS.mk Try.call10 ⟨[_, _, _, _], [_, _, _, _, _, _], _, Sub.sel [4, 5, 6, 7, 0, 1, 2, 3, 8, 9] rfl, fun F' hF' => writes_cp F' d r rb _ _ g lg on l I.hg (by omega), ?_⟩
      rintro e A' ⟨gw, lk, hlk, hgw, rfl, rfl⟩
      conv => whnf
      refine ⟨Sub.sel [6] rfl, ?_⟩
      conv => whnf
      refine LoadV.s rfl rfl (forceV_of ?_)
      conv => whnf
      have hlw : lk.length ≤ 9223372036854775807 := by rw [hlk]; omega
      refine CallS.mk Try.call15 ⟨[], _, _, Sub.refl _, fun F' hF' => samew_ok F' (oaOf gw) (oaOf gl) (capOf gw) (capOf gl) lk lg (SlF.sv hF' (T := 29) (logCells_length _) (fun e => by rw [hgw.1 e]; rfl)) (SlF.sv hF' (T := 29) (logCells_length _) (fun e => by rw [I.hgl.1 e]; rfl)) hlw, ?_⟩
      rw [show decide (lk = lg) = true from decide_eq_true hlk]
      rintro e A' ⟨rfl, rfl⟩
      conv => whnf
      refine ⟨Sub.sel [6] rfl, ?_⟩
      conv => whnf
      repeat (first | (refine LoadV.s rfl rfl (forceV_of ?_); conv => whnf) | (refine LoadV.s rfl rfl ?_; conv => whnf) | (refine StoreV.c rfl rfl (Nat.le_of_ble_eq_true rfl) rfl ?_; conv => whnf) | (refine LoadV.a _ rfl (Nat.le_of_ble_eq_true rfl) ?_; conv => whnf) | (refine DrawI.quiet (by kernel_rfl) (by kernel_rfl) ?_; conv => whnf) | (refine ArI.in64 (by omega) ?_; conv => whnf) | (refine ArI.inU8 (by omega) ?_; conv => whnf) | (refine ArI.inU64 (by omega) ?_; conv => whnf) | (refine ArI.inU32 (by omega) ?_; conv => whnf) | (refine RetI.one Try.results6 rfl ?_; conv => whnf) | (refine RetI.two Try.results6 rfl rfl ?_; conv => whnf) | (refine RetI.three Try.results6 rfl rfl rfl ?_; conv => whnf) | (refine RetI.none Try.results6 ?_; conv => whnf) | (refine ⟨by first | decide | omega, ?_⟩; conv => whnf))
      exact ⟨_, Sub.sel [] rfl, rfl, rfl⟩
end Go.Proofs.Ytjjkpkacembhpaa
