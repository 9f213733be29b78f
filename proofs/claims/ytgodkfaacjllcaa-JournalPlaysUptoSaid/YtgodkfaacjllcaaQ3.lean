/- What the laws' proofs stand on, in one row: laws in numbers and lists, contracts of functions. No condition. -/
import Derived.Test.YtgodkfaacjllcaaQ2
import Derived.Test.YtgodkfaacjllcaaQ1
/- Opening a journal. -/
namespace Go.Proofs.Ytgodkfaacjllcaa
set_option linter.unusedVariables false
set_option linter.unusedSimpArgs false
set_option maxRecDepth 100000
open SL Go.RowKit Go.Maps

theorem DoV.slice_l {C : Ctx} {P : Program} {H : Heap} {K : Value → Heap → Prop} {t e : TypeId} {oa : Option Addr} {len cap : Nat} {i : TypeInfo} {kl : IntKind} {lo : Int} (ht : P.underlying t = some (.slice e)) (hi : P.info? e = some i) (h0 : 0 ≤ lo) (h1 : lo ≤ len)
    (k : K (.slice (if cap = lo.toNat then oa else oa.map (·.add (lo.toNat * i.size))) (len - lo.toNat) (cap - lo.toNat)) H) : DoV C P (Instr.sliceAt t (.slice oa len cap) (some (.int kl lo)) none none) H K :=
  SL.DoV.of_quiet (fun w => by
    have he : P.elem t = e := by simp [Program.elem, ht]
    have ht' : P.underlying t = some (.slice (P.elem t)) := by rw [he]; exact ht
    rw [run_sliceAt_slice (P := P) w t _ _ _ _ ht', run_slice_l (P := P) w t _ len cap ht' kl lo h0 h1, he]
    simp [Go.sizeOf, typeInfo, hi, Result.andThen, sliced]) k
/-- The program's disk: what stands in its blocks, and in short. -/
structure JS where
  es : Array MapEntry
  c : Nat
  g : Option (Nat × Nat)
  a : DA
structure JOk (es1 : Array MapEntry) (c1 : Nat) (mf : List (Int × ByteArray)) (x : JS) : Prop where
  M1 : MapS es1 c1 mf
  M : MapS x.es x.c (replay mf x.a.lg)
  i : InDisk mf
  sm : SmallM mf
  ok : LogOk x.a.lg
  hg : x.g = none ↔ x.a.lg = []
  hl : x.a.l ≤ 9223372036854775807
abbrev JH (d r rb : Nat) (es1 : Array MapEntry) (c1 : Nat) (x : JS) : Heap :=
  [.cells d [.map (some r), .map (some rb), svOf x.g x.a.lg.length, .bool x.a.on, .int .i64 x.a.l] 82 (0, 0), .obj r (.map es1 c1), .obj rb (.map x.es x.c), .own (svOf x.g x.a.lg.length) x.a.lg.length 85 2 (logCells x.a.lg)]
theorem JOk.img {es1 : Array MapEntry} {c1 : Nat} {mf : List (Int × ByteArray)} {x : JS} (h : JOk es1 c1 mf x) : InDisk (replay mf x.a.lg) ∧ (imgA mf x.a).length ≤ 2048 ∧ ∀ s ∈ imgA mf x.a, s.size ≤ 32 := by
  have hi := inDisk_replay h.ok h.i
  refine ⟨hi, ?_, image_small (small_replay h.ok h.sm)⟩
  rw [imageL_length]
  have := topM_small hi
  omega
theorem replay_snoc (m : List (Int × ByteArray)) (lg : List (Int × ByteArray)) (p : Int × ByteArray) : replay m (lg ++ [p]) = putM (replay m lg) p.1 p.2 := by unfold replay; rw [List.foldl_append]; rfl
theorem jwrite_ok (F : Mem) (d r rb : Nat) (es1 : Array MapEntry) (c1 : Nat) (mf : List (Int × ByteArray)) (x : JS) (I : JOk es1 c1 mf x) (i : Int) (s : ByteArray) (hlog : Room x.a.lg.length 1) :
    FT Try.prog 33 [.pointer (some ⟨d, 0, none⟩), .int .i64 i, .string s].toArray F (JH d r rb es1 c1 x)
    (fun e H => e = .returned (.int .i64 (wcode x.a.on i s)) ∧ ∃ y, JOk es1 c1 mf y ∧ y.a = x.a.wr i s ∧ H = JH d r rb es1 c1 y) := by
  refine (write_ok F d r rb (.map es1 c1) x.es x.c _ I.M (svOf x.g x.a.lg.length) x.a.lg x.a.on x.a.l i s hlog I.hl).mono ?_
  rintro e H ⟨rfl, h⟩
  refine ⟨rfl, ?_⟩
  rcases h with ⟨h1, rfl⟩ | ⟨h1, h2, es', c', gb, gc, M', rfl⟩
  · exact ⟨x, I, (DA.wr_no h1).symm, rfl⟩
  · have ha : x.a.wr i s = ⟨x.a.lg ++ [(i, s)], wOn x.a.l, wLeft x.a.l⟩ := DA.wr_yes h1
    have hat := wcode_at h1
    refine ⟨⟨es', c', some (gb, gc), ⟨x.a.lg ++ [(i, s)], wOn x.a.l, wLeft x.a.l⟩⟩, ⟨I.M1, by dsimp only; rw [replay_snoc]; exact M', I.i, I.sm, logOk_push I.ok hat, by simp, wLeft_le I.hl⟩, ha.symm, ?_⟩
    have e1 : svOf (some (gb, gc)) (x.a.lg ++ [(i, s)]).length = .slice (some ⟨gb, 0, none⟩) (x.a.lg.length + 1) gc := by simp
    show diskH _ _ _ _ _ _ _ _ _ = _
    unfold JH
    dsimp only
    rw [e1]
/-- What opening answers. -/
def OpenR (d r rb : Nat) (es1 : Array MapEntry) (c1 : Nat) (mf : List (Int × ByteArray)) (a : DA) (e : Ending) (H : Heap) : Prop :=
  ∃ y, JOk es1 c1 mf y ∧ y.a = (openA mf a).1 ∧
    (((openA mf a).2 = none ∧ e = .returned (.tuple #[.pointer none, .slice none 0 0, .int .i64 11]) ∧ H = JH d r rb es1 c1 y) ∨
     (∃ pl en j g, (openA mf a).2 = some (pl, en) ∧ en ≤ 2048 ∧ (g = none ↔ pl = []) ∧ pl.length ≤ 65535 ∧ e = .returned (.tuple #[.pointer (some ⟨j, 0, none⟩), svOf g pl.length, .int .i64 0]) ∧
        H = .cells j [.pointer (some ⟨d, 0, none⟩), .int .i64 (pl.length : Int), .int .i64 (en : Int), .bool false] 80 (0, 0) :: ownS g pl :: JH d r rb es1 c1 y))
set_option maxHeartbeats 1000000 in
theorem open_ok (F : Mem) (d r rb : Nat) (es1 : Array MapEntry) (c1 : Nat) (mf : List (Int × ByteArray)) (x : JS) (I : JOk es1 c1 mf x) (hlog : Room x.a.lg.length 2048) :
    FT Try.prog 12 [.pointer (some ⟨d, 0, none⟩)].toArray F (JH d r rb es1 c1 x) (OpenR d r rb es1 c1 mf x.a) := by
  obtain ⟨hi, him, hsm⟩ := I.img
  have hse := scanE_le (imgA mf x.a)
  have hsl := scanP_len (imgA mf x.a)
  refine FT.of_body Try.func12 rfl Try.ntmps12 (by simp) fun C hC => ?_
  subst hC
  conv => whnf
  refine CallS.mk Try.call17 ⟨[_], _, _, Sub.split [0] rfl, fun F' hF' => on_ok F' d _ _ _ _ _, ?_⟩
  rintro e A' ⟨rfl, rfl⟩
  cases hon : x.a.on with
  | false =>
    have ho : openA mf x.a = (x.a, none) := if_pos hon
    conv => whnf
    repeat (first | (refine LoadV.s rfl rfl (forceV_of ?_); conv => whnf) | (refine LoadV.s rfl rfl ?_; conv => whnf) | (refine StoreV.c rfl rfl (Nat.le_of_ble_eq_true rfl) rfl ?_; conv => whnf) | (refine LoadV.a _ rfl (Nat.le_of_ble_eq_true rfl) ?_; conv => whnf) | (refine DrawI.quiet (by kernel_rfl) (by kernel_rfl) ?_; conv => whnf) | (refine ArI.in64 (by omega) ?_; conv => whnf) | (refine ArI.inU8 (by omega) ?_; conv => whnf) | (refine ArI.inU64 (by omega) ?_; conv => whnf) | (refine ArI.inU32 (by omega) ?_; conv => whnf) | (refine RetI.one Try.results12 rfl ?_; conv => whnf) | (refine RetI.two Try.results12 rfl rfl ?_; conv => whnf) | (refine RetI.three Try.results12 rfl rfl rfl ?_; conv => whnf) | (refine RetI.none Try.results12 ?_; conv => whnf) | (refine ⟨by first | decide | omega, ?_⟩; conv => whnf))
    exact ⟨_, Sub.refl _, x, I, by rw [ho], .inl ⟨by rw [ho], rfl, by unfold JH; rw [hon]⟩⟩
  | true =>
    have ho : openA mf x.a = if (wipeA mf x.a).2 = false ∨ (wipeA mf x.a).1.on = false then ((wipeA mf x.a).1, none) else ((wipeA mf x.a).1, some (scanP (imgA mf x.a), scanE (imgA mf x.a))) := if_neg (by rw [hon]; simp)
    have hwl := wipe_len ((imgA mf x.a).drop (scanE (imgA mf x.a))) (scanE (imgA mf x.a)) x.a
    unfold OpenR
    rw [ho]
    unfold wipeA at hwl ⊢
    conv => whnf
    refine CallS.mk Try.call21 ⟨[_, _, _, _], _, _, Sub.split [0, 1, 2, 3] rfl, fun F' hF' => image_cp F' d r rb _ _ _ _ I.M hi _ _ _ _, ?_⟩
    rintro e A' ⟨bi, im, him2, rfl, rfl⟩
    rw [show imgA mf x.a = im from him2.symm] at *
    have hscan := fun (F' : Mem) (oa : Option Addr) (ca : Nat) (hb : SlF F' 1 oa im.length (strs im)) => scan_ok F' oa ca im hb (fun s hs => by have := hsm s hs; omega) (by omega)
    unfold ScanA at hscan
    generalize scanP im = pl at *
    generalize scanE im = en at *
    conv => whnf
    refine CallS.mk Try.call9 ⟨[], _, _, Sub.refl _, fun F' hF' => hscan F' (some ⟨bi, 0, none⟩) im.length (SlF.cells hF' (by simp)), ?_⟩
    rintro e A' ⟨g, hg, rfl, rfl⟩
    conv => whnf
    refine DoV.slice_l Try.underlying22 rfl (by omega) (by omega) ?_
    rw [Int.toNat_natCast]
    obtain ⟨oa2, hoa2⟩ : ∃ o, o = if im.length = en then some (⟨bi, 0, none⟩ : Addr) else (some (⟨bi, 0, none⟩ : Addr)).map (·.add (en * (Try.prog.types[9]'(by decide)).size)) := ⟨_, rfl⟩
    rw [← hoa2]
    have hoa3 : en < im.length → oa2 = some ⟨bi, en, none⟩ := fun h => by
      rw [hoa2, if_neg (by omega)]
      show some ((⟨bi, 0, none⟩ : Addr).add (en * 1)) = _
      rw [Addr_add, Nat.mul_one, Nat.zero_add]
    clear hoa2
    conv => whnf
    obtain ⟨W, hW⟩ : ∃ W, W = wipeL (im.drop en) en x.a := ⟨_, rfl⟩
    rw [← hW]
    refine LoopI.by_state (σ := Nat × JS) (fun y => [(0, .pointer (some ⟨d, 0, none⟩)), (6, svOf g pl.length), (7, .int .i64 (en : Int)), (22, .slice oa2 (im.length - en) (im.length - en)), (23, .int .i64 ((im.length - en : Nat) : Int)), (24, .int .i64 (y.1 : Int))])
      (fun y => ownS g pl :: .cells bi (strs im) 9 (0, 0) :: JH d r rb es1 c1 y.2) (fun y => y.1 ≤ im.length - en ∧ JOk es1 c1 mf y.2 ∧ wipeL (im.drop (en + y.1)) (en + y.1) y.2.a = W ∧ y.2.a.lg.length ≤ x.a.lg.length + y.1) (fun y => im.length - en - y.1) (0, x)
      ⟨Nat.zero_le _, I, hW.symm, by simp⟩ ⟨rfl, rfl, rfl, rfl, rfl, rfl, trivial⟩ (by unfold JH; dsimp only; rw [hon]; exact Sub.refl _) ?_
    rintro ⟨i, y⟩ f0 ⟨hil, J, hw, hln⟩
    dsimp only at hil J hw hln ⊢
    conv => whnf
    refine cond_dec (fun h => ?_) (fun h => ?_)
    · have hei : en + i < im.length := by omega
      have := hoa3 (by omega)
      subst this
      have hget : (strs im)[en + i]? = some (.string (im[en + i]'hei)) := by rw [List.getElem?_map, List.getElem?_eq_getElem hei]; rfl
      rw [List.drop_eq_getElem_cons hei, wipeL, Nat.add_assoc en i 1] at hw
      generalize im[en + i]'hei = s at hget hw
      conv => whnf
      refine ⟨by omega, ?_⟩
      conv => whnf
      rw [elemOff_nat]
      rotate_left
      · kernel_rfl
      refine LoadV.s rfl hget ?_
      conv => whnf
      by_cases hs0 : s.size = 0
      · rw [size_nul.2 hs0]
        rw [if_pos hs0] at hw
        conv => whnf
        refine ArI.to64 ((i + 1 : Nat) : Int) (by omega) (by omega) ?_
        conv => whnf
        exact ⟨(i + 1, y), _, by dsimp only; omega, Sub.refl _, ⟨by dsimp only; omega, J, hw, by dsimp only; omega⟩, ⟨rfl, rfl, rfl, rfl, rfl, rfl, trivial⟩, rfl⟩
      · rw [show (s.toList == (⟨#[]⟩ : ByteArray).toList) = false from Bool.eq_false_iff.2 fun e => hs0 (size_nul.1 e)]
        rw [if_neg hs0] at hw
        conv => whnf
        refine ArI.to64 ((en + i : Nat) : Int) (by omega) (by omega) ?_
        conv => whnf
        refine CallS.mk Try.call33 ⟨[_, _, _, _], _, _, Sub.split [2, 3, 4, 5] rfl, fun F' hF' => jwrite_ok F' d r rb es1 c1 mf y J ((en + i : Nat) : Int) nul (hlog.mono (by omega)), ?_⟩
        rintro e A' ⟨rfl, z, Jz, hz, rfl⟩
        by_cases hcode : wcode y.a.on ((en + i : Nat) : Int) nul = 0
        · rw [if_pos hcode, ← hz] at hw
          rw [hcode]
          have hzl := y.a.wr_len ((en + i : Nat) : Int) nul
          rw [← hz] at hzl
          conv => whnf
          refine ArI.to64 ((i + 1 : Nat) : Int) (by omega) (by omega) ?_
          conv => whnf
          exact ⟨(i + 1, z), _, by dsimp only; omega, Sub.sel [4, 5, 0, 1, 2, 3] rfl, ⟨by dsimp only; omega, Jz, hw, by dsimp only; omega⟩, ⟨rfl, rfl, rfl, rfl, rfl, rfl, trivial⟩, rfl⟩
        · rw [if_neg hcode] at hw
          rw [DA.wr_no hcode] at hz
          subst hw
          have hne : (wcode y.a.on ((en + i : Nat) : Int) nul != 0) = true := bne_iff_ne.2 hcode
          generalize wcode y.a.on ((en + i : Nat) : Int) nul = cd at hne
          conv => whnf
          rw [hne]
          conv => whnf
          repeat (first | (refine LoadV.s rfl rfl (forceV_of ?_); conv => whnf) | (refine LoadV.s rfl rfl ?_; conv => whnf) | (refine StoreV.c rfl rfl (Nat.le_of_ble_eq_true rfl) rfl ?_; conv => whnf) | (refine LoadV.a _ rfl (Nat.le_of_ble_eq_true rfl) ?_; conv => whnf) | (refine DrawI.quiet (by kernel_rfl) (by kernel_rfl) ?_; conv => whnf) | (refine ArI.in64 (by omega) ?_; conv => whnf) | (refine ArI.inU8 (by omega) ?_; conv => whnf) | (refine ArI.inU64 (by omega) ?_; conv => whnf) | (refine ArI.inU32 (by omega) ?_; conv => whnf) | (refine RetI.one Try.results12 rfl ?_; conv => whnf) | (refine RetI.two Try.results12 rfl rfl ?_; conv => whnf) | (refine RetI.three Try.results12 rfl rfl rfl ?_; conv => whnf) | (refine RetI.none Try.results12 ?_; conv => whnf) | (refine ⟨by first | decide | omega, ?_⟩; conv => whnf))
          exact ⟨_, Sub.sel [0, 1, 2, 3] rfl, z, Jz, by rw [if_pos (.inl rfl)]; exact hz, .inl ⟨by rw [if_pos (.inl rfl)], rfl, rfl⟩⟩
    · obtain rfl : i = im.length - en := by omega
      rw [List.drop_of_length_le (by omega), wipeL] at hw
      subst hw
      dsimp only at *
      conv => whnf
      refine CallS.mk Try.call17 ⟨[_], _, _, Sub.split [2] rfl, fun F' hF' => on_ok F' d _ _ _ _ _, ?_⟩
      rintro e A' ⟨rfl, rfl⟩
      cases hy : y.a.on with
      | false =>
        conv => whnf
        repeat (first | (refine LoadV.s rfl rfl (forceV_of ?_); conv => whnf) | (refine LoadV.s rfl rfl ?_; conv => whnf) | (refine StoreV.c rfl rfl (Nat.le_of_ble_eq_true rfl) rfl ?_; conv => whnf) | (refine LoadV.a _ rfl (Nat.le_of_ble_eq_true rfl) ?_; conv => whnf) | (refine DrawI.quiet (by kernel_rfl) (by kernel_rfl) ?_; conv => whnf) | (refine ArI.in64 (by omega) ?_; conv => whnf) | (refine ArI.inU8 (by omega) ?_; conv => whnf) | (refine ArI.inU64 (by omega) ?_; conv => whnf) | (refine ArI.inU32 (by omega) ?_; conv => whnf) | (refine RetI.one Try.results12 rfl ?_; conv => whnf) | (refine RetI.two Try.results12 rfl rfl ?_; conv => whnf) | (refine RetI.three Try.results12 rfl rfl rfl ?_; conv => whnf) | (refine RetI.none Try.results12 ?_; conv => whnf) | (refine ⟨by first | decide | omega, ?_⟩; conv => whnf))
        exact ⟨_, Sub.sel [0, 3, 4, 5] rfl, y, J, by simp, .inl ⟨by simp, rfl, by unfold JH; rw [hy]⟩⟩
      | true =>
        conv => whnf
        intro j
        conv => whnf
        repeat (first | (refine LoadV.s rfl rfl (forceV_of ?_); conv => whnf) | (refine LoadV.s rfl rfl ?_; conv => whnf) | (refine StoreV.c rfl rfl (Nat.le_of_ble_eq_true rfl) rfl ?_; conv => whnf) | (refine LoadV.a _ rfl (Nat.le_of_ble_eq_true rfl) ?_; conv => whnf) | (refine DrawI.quiet (by kernel_rfl) (by kernel_rfl) ?_; conv => whnf) | (refine ArI.in64 (by omega) ?_; conv => whnf) | (refine ArI.inU8 (by omega) ?_; conv => whnf) | (refine ArI.inU64 (by omega) ?_; conv => whnf) | (refine ArI.inU32 (by omega) ?_; conv => whnf) | (refine RetI.one Try.results12 rfl ?_; conv => whnf) | (refine RetI.two Try.results12 rfl rfl ?_; conv => whnf) | (refine RetI.three Try.results12 rfl rfl rfl ?_; conv => whnf) | (refine RetI.none Try.results12 ?_; conv => whnf) | (refine ⟨by first | decide | omega, ?_⟩; conv => whnf))
        exact ⟨_, Sub.sel [0, 2, 1, 4, 5, 6] rfl, y, J, by simp, .inr ⟨pl, en, j, g, by simp, by omega, hg, hsl, rfl, by unfold JH; rw [hy]; rfl⟩⟩
end Go.Proofs.Ytgodkfaacjllcaa

/- Opening a journal, by the reference. -/
namespace Go.Proofs.Ytgodkfaacjllcaa
set_option linter.unusedVariables false
set_option linter.unusedSimpArgs false
set_option maxRecDepth 100000
open SL Go.RowKit Go.Maps

/-- The reference's disk. -/
structure RS where
  bl : List ByteArray
  gl : Option (Nat × Nat)
  p : Int
structure ROk (mf : List (Int × ByteArray)) (a : DA) (x : RS) : Prop where
  B : BlkOk (replay mf a.lg) x.bl
  hgl : x.gl = none ↔ a.lg = []
  pw : Pow a.on a.l x.p
  hl : a.l ≤ 9223372036854775807
abbrev RH (d : Nat) (v : Value) (rb : Nat) (a : DA) (x : RS) : Heap :=
  [.cells d [v, .slice (some ⟨rb, 0, none⟩) 2048 2048, svOf x.gl a.lg.length, .int .i64 x.p] 67 (0, 0), .cells rb (strs x.bl) 9 (0, 0), .own (svOf x.gl a.lg.length) a.lg.length 85 2 (logCells a.lg)]
theorem rwrite_ok (F : Mem) (d : Nat) (v : Value) (rb : Nat) (mf : List (Int × ByteArray)) (a : DA) (x : RS) (I : ROk mf a x) (i : Int) (s : ByteArray) (hlog : Room a.lg.length 1) :
    FT Try.prog 51 [.pointer (some ⟨d, 0, none⟩), .int .i64 i, .string s].toArray F (RH d v rb a x)
    (fun e H => e = .returned (.int .i64 (wcode a.on i s)) ∧ ∃ y, ROk mf (a.wr i s) y ∧ H = RH d v rb (a.wr i s) y) := by
  have h := r5write_ok F d v rb x.bl x.gl a.lg x.p i s I.B.1 hlog (I.pw.le I.hl)
  rw [← I.pw.1] at h
  refine h.mono ?_
  rintro e H ⟨rfl, h⟩
  refine ⟨rfl, ?_⟩
  rcases h with ⟨h1, rfl⟩ | ⟨h1, gl', hgl', rfl⟩
  · rw [DA.wr_no h1]; exact ⟨x, I, rfl⟩
  · rw [DA.wr_yes h1]
    have hat := wcode_at h1
    have hon : a.on = true := by
      cases ho : a.on with
      | true => rfl
      | false => rw [ho] at h1; cases h1
    refine ⟨⟨x.bl.set i.toNat s, gl', wPow x.p⟩, ⟨by dsimp only; rw [replay_snoc]; exact blk_set I.B ⟨hat.1, hat.2.1⟩ s, by dsimp only; simp [hgl'], I.pw.write hon, wLeft_le I.hl⟩, rfl⟩
def ROpenR (d : Nat) (v : Value) (rb : Nat) (mf : List (Int × ByteArray)) (a : DA) (e : Ending) (H : Heap) : Prop :=
  ∃ y, ROk mf (openA mf a).1 y ∧
    (((openA mf a).2 = none ∧ e = .returned (.tuple #[.pointer none, .slice none 0 0, .int .i64 11]) ∧ H = RH d v rb (openA mf a).1 y) ∨
     (∃ pl en j g, (openA mf a).2 = some (pl, en) ∧ en ≤ 2048 ∧ (g = none ↔ pl = []) ∧ pl.length ≤ 65535 ∧ e = .returned (.tuple #[.pointer (some ⟨j, 0, none⟩), svOf g pl.length, .int .i64 0]) ∧
        H = .cells j [.pointer (some ⟨d, 0, none⟩), .int .i64 (pl.length : Int), .int .i64 (en : Int), .bool false] 64 (0, 0) :: ownS g pl :: RH d v rb (openA mf a).1 y))
theorem wcode_down {on : Bool} {i : Int} {s : ByteArray} (h0 : 0 ≤ i) (h1 : i < 2048) (hs : s.size ≤ 32) (h : ¬ wcode on i s = 0) : wcode on i s = 11 := by
  unfold wcode at *
  cases on
  · simp
  · simp at h; omega
set_option maxHeartbeats 1000000 in
theorem ropen_ok (F : Mem) (d : Nat) (v : Value) (rb : Nat) (mf : List (Int × ByteArray)) (a : DA) (x : RS) (I : ROk mf a x) (htr : trimB x.bl = imgA mf a) (him : (imgA mf a).length ≤ 2048) (hsm : ∀ s ∈ imgA mf a, s.size ≤ 32) (hlog : Room a.lg.length 2048) :
    FT Try.prog 38 [.pointer (some ⟨d, 0, none⟩)].toArray F (RH d v rb a x) (ROpenR d v rb mf a) := by
  have hse := scanE_le (imgA mf a)
  have hsl := scanP_len (imgA mf a)
  have hpw := I.pw.1
  refine FT.of_body Try.func38 rfl Try.ntmps38 (by simp) fun C hC => ?_
  subst hC
  conv => whnf
  refine CallS.mk Try.call27 ⟨[_], _, _, Sub.split [0] rfl, fun F' hF' => r5on_ok F' d _ _ _ _, ?_⟩
  rw [← hpw]
  rintro e A' ⟨rfl, rfl⟩
  cases hon : a.on with
  | false =>
    have ho : openA mf a = (a, none) := if_pos hon
    conv => whnf
    repeat (first | (refine LoadV.s rfl rfl (forceV_of ?_); conv => whnf) | (refine LoadV.s rfl rfl ?_; conv => whnf) | (refine StoreV.c rfl rfl (Nat.le_of_ble_eq_true rfl) rfl ?_; conv => whnf) | (refine LoadV.a _ rfl (Nat.le_of_ble_eq_true rfl) ?_; conv => whnf) | (refine DrawI.quiet (by kernel_rfl) (by kernel_rfl) ?_; conv => whnf) | (refine ArI.in64 (by omega) ?_; conv => whnf) | (refine ArI.inU8 (by omega) ?_; conv => whnf) | (refine ArI.inU64 (by omega) ?_; conv => whnf) | (refine ArI.inU32 (by omega) ?_; conv => whnf) | (refine RetI.one Try.results38 rfl ?_; conv => whnf) | (refine RetI.two Try.results38 rfl rfl ?_; conv => whnf) | (refine RetI.three Try.results38 rfl rfl rfl ?_; conv => whnf) | (refine RetI.none Try.results38 ?_; conv => whnf) | (refine ⟨by first | decide | omega, ?_⟩; conv => whnf))
    exact ⟨_, Sub.refl _, x, by rw [ho]; exact I, .inl ⟨by rw [ho], rfl, by rw [ho]⟩⟩
  | true =>
    have ho : openA mf a = if (wipeA mf a).2 = false ∨ (wipeA mf a).1.on = false then ((wipeA mf a).1, none) else ((wipeA mf a).1, some (scanP (imgA mf a), scanE (imgA mf a))) := if_neg (by rw [hon]; simp)
    unfold ROpenR
    rw [ho]
    unfold wipeA
    conv => whnf
    refine CallS.mk Try.call29 ⟨[_, _], _, _, Sub.split [0, 1] rfl, fun F' hF' => r5image_ok F' d _ _ rb x.bl x.p I.B.1, ?_⟩
    rw [htr]
    rintro e A' ⟨gi, hgi, rfl, rfl⟩
    have hscan := fun (F' : Mem) (oa : Option Addr) (ca : Nat) (hb : SlF F' 1 oa (imgA mf a).length (strs (imgA mf a))) => rscan_ok F' oa ca (imgA mf a) hb (fun s hs => by have := hsm s hs; omega) (by omega)
    unfold ScanA at hscan
    clear htr
    generalize imgA mf a = im at *
    generalize scanP im = pl at *
    generalize scanE im = en at *
    obtain ⟨ib, ic, rfl⟩ : ∃ b c, gi = some (b, c) := by
      cases gi with
      | none => exact absurd rfl hgi
      | some p => exact ⟨p.1, p.2, rfl⟩
    conv => whnf
    refine CallS.mk Try.call8 ⟨[], _, _, Sub.refl _, fun F' hF' => hscan F' (some ⟨ib, 0, none⟩) ic (SlF.own hF' (T := 9) (by simp)), ?_⟩
    rintro e A' ⟨g, hg, rfl, rfl⟩
    conv => whnf
    obtain ⟨W, hW⟩ : ∃ W, W = wipeL (im.drop en) en a := ⟨_, rfl⟩
    rw [← hW]
    refine LoopI.by_state (σ := Nat × DA × RS) (fun y => [(0, .pointer (some ⟨d, 0, none⟩)), (5, .slice (some ⟨ib, 0, none⟩) im.length ic), (6, svOf g pl.length), (7, .int .i64 (en : Int)), (8, .int .i64 (y.1 : Int))])
      (fun y => ownS g pl :: ownS (some (ib, ic)) im :: RH d v rb y.2.1 y.2.2) (fun y => en ≤ y.1 ∧ y.1 ≤ im.length ∧ ROk mf y.2.1 y.2.2 ∧ wipeL (im.drop y.1) y.1 y.2.1 = W ∧ y.2.1.lg.length + en ≤ a.lg.length + y.1) (fun y => im.length - y.1) (en, a, x)
      ⟨Nat.le_refl _, hse, I, hW.symm, Nat.le_refl _⟩ ⟨rfl, rfl, rfl, rfl, rfl, trivial⟩ (Sub.sel [0, 1, 2, 3, 4] rfl) ?_
    rintro ⟨i, b, y⟩ f0 ⟨hei, hil, J, hw, hln⟩
    dsimp only at hei hil J hw hln ⊢
    conv => whnf
    refine cond_dec (fun h => ?_) (fun h => ?_)
    · have hi : i < im.length := by omega
      have hget : (strs im)[i]? = some (.string (im[i]'hi)) := by rw [List.getElem?_map, List.getElem?_eq_getElem hi]; rfl
      rw [List.drop_eq_getElem_cons hi, wipeL] at hw
      generalize im[i]'hi = s at hget hw
      conv => whnf
      refine ⟨by omega, ?_⟩
      conv => whnf
      rw [elemOff_nat]
      rotate_left
      · kernel_rfl
      rw [Nat.zero_add]
      refine LoadV.os rfl hget ?_
      conv => whnf
      by_cases hs0 : s.size = 0
      · rw [size_nul.2 hs0]
        rw [if_pos hs0] at hw
        conv => whnf
        refine ArI.to64 ((i + 1 : Nat) : Int) (by omega) (by omega) ?_
        conv => whnf
        exact ⟨(i + 1, b, y), _, by dsimp only; omega, Sub.refl _, ⟨by dsimp only; omega, by dsimp only; omega, J, hw, by dsimp only; omega⟩, ⟨rfl, rfl, rfl, rfl, rfl, trivial⟩, rfl⟩
      · rw [show (s.toList == (⟨#[]⟩ : ByteArray).toList) = false from Bool.eq_false_iff.2 fun e => hs0 (size_nul.1 e)]
        rw [if_neg hs0] at hw
        conv => whnf
        refine CallS.mk Try.call51 ⟨[_, _, _], _, _, Sub.split [2, 3, 4] rfl, fun F' hF' => rwrite_ok F' d v rb mf b y J (i : Int) nul (hlog.mono (by omega)), ?_⟩
        rintro e A' ⟨rfl, z, Jz, rfl⟩
        by_cases hcode : wcode b.on (i : Int) nul = 0
        · rw [if_pos hcode] at hw
          rw [hcode]
          have hzl := b.wr_len (i : Int) nul
          conv => whnf
          refine ArI.to64 ((i + 1 : Nat) : Int) (by omega) (by omega) ?_
          conv => whnf
          exact ⟨(i + 1, b.wr (i : Int) nul, z), _, by dsimp only; omega, Sub.sel [3, 4, 0, 1, 2] rfl, ⟨by dsimp only; omega, by dsimp only; omega, Jz, hw, by dsimp only; omega⟩, ⟨rfl, rfl, rfl, rfl, rfl, trivial⟩, rfl⟩
        · rw [if_neg hcode] at hw
          have h11 := wcode_down (by omega) (by omega) (Nat.zero_le _) hcode
          rw [DA.wr_no hcode] at Jz ⊢
          subst hw
          rw [h11]
          conv => whnf
          repeat (first | (refine LoadV.s rfl rfl (forceV_of ?_); conv => whnf) | (refine LoadV.s rfl rfl ?_; conv => whnf) | (refine StoreV.c rfl rfl (Nat.le_of_ble_eq_true rfl) rfl ?_; conv => whnf) | (refine LoadV.a _ rfl (Nat.le_of_ble_eq_true rfl) ?_; conv => whnf) | (refine DrawI.quiet (by kernel_rfl) (by kernel_rfl) ?_; conv => whnf) | (refine ArI.in64 (by omega) ?_; conv => whnf) | (refine ArI.inU8 (by omega) ?_; conv => whnf) | (refine ArI.inU64 (by omega) ?_; conv => whnf) | (refine ArI.inU32 (by omega) ?_; conv => whnf) | (refine RetI.one Try.results38 rfl ?_; conv => whnf) | (refine RetI.two Try.results38 rfl rfl ?_; conv => whnf) | (refine RetI.three Try.results38 rfl rfl rfl ?_; conv => whnf) | (refine RetI.none Try.results38 ?_; conv => whnf) | (refine ⟨by first | decide | omega, ?_⟩; conv => whnf))
          exact ⟨_, Sub.sel [0, 1, 2] rfl, z, by simpa using Jz, .inl ⟨by simp, rfl, by simp⟩⟩
    · obtain rfl : i = im.length := by omega
      rw [List.drop_of_length_le (by omega), wipeL] at hw
      subst hw
      dsimp only at *
      have hpw2 := J.pw.1
      conv => whnf
      refine CallS.mk Try.call27 ⟨[_], _, _, Sub.split [2] rfl, fun F' hF' => r5on_ok F' d _ _ _ _, ?_⟩
      rw [← hpw2]
      rintro e A' ⟨rfl, rfl⟩
      cases hy : b.on with
      | false =>
        conv => whnf
        repeat (first | (refine LoadV.s rfl rfl (forceV_of ?_); conv => whnf) | (refine LoadV.s rfl rfl ?_; conv => whnf) | (refine StoreV.c rfl rfl (Nat.le_of_ble_eq_true rfl) rfl ?_; conv => whnf) | (refine LoadV.a _ rfl (Nat.le_of_ble_eq_true rfl) ?_; conv => whnf) | (refine DrawI.quiet (by kernel_rfl) (by kernel_rfl) ?_; conv => whnf) | (refine ArI.in64 (by omega) ?_; conv => whnf) | (refine ArI.inU8 (by omega) ?_; conv => whnf) | (refine ArI.inU64 (by omega) ?_; conv => whnf) | (refine ArI.inU32 (by omega) ?_; conv => whnf) | (refine RetI.one Try.results38 rfl ?_; conv => whnf) | (refine RetI.two Try.results38 rfl rfl ?_; conv => whnf) | (refine RetI.three Try.results38 rfl rfl rfl ?_; conv => whnf) | (refine RetI.none Try.results38 ?_; conv => whnf) | (refine ⟨by first | decide | omega, ?_⟩; conv => whnf))
        exact ⟨_, Sub.sel [0, 3, 4] rfl, y, by simpa using J, .inl ⟨by simp, rfl, by simp⟩⟩
      | true =>
        conv => whnf
        intro j
        conv => whnf
        repeat (first | (refine LoadV.s rfl rfl (forceV_of ?_); conv => whnf) | (refine LoadV.s rfl rfl ?_; conv => whnf) | (refine StoreV.c rfl rfl (Nat.le_of_ble_eq_true rfl) rfl ?_; conv => whnf) | (refine LoadV.a _ rfl (Nat.le_of_ble_eq_true rfl) ?_; conv => whnf) | (refine DrawI.quiet (by kernel_rfl) (by kernel_rfl) ?_; conv => whnf) | (refine ArI.in64 (by omega) ?_; conv => whnf) | (refine ArI.inU8 (by omega) ?_; conv => whnf) | (refine ArI.inU64 (by omega) ?_; conv => whnf) | (refine ArI.inU32 (by omega) ?_; conv => whnf) | (refine RetI.one Try.results38 rfl ?_; conv => whnf) | (refine RetI.two Try.results38 rfl rfl ?_; conv => whnf) | (refine RetI.three Try.results38 rfl rfl rfl ?_; conv => whnf) | (refine RetI.none Try.results38 ?_; conv => whnf) | (refine ⟨by first | decide | omega, ?_⟩; conv => whnf))
        exact ⟨_, Sub.sel [0, 2, 1, 4, 5] rfl, y, by simpa using J, .inr ⟨pl, en, j, g, by simp, by omega, hg, hsl, rfl, by simp; rfl⟩⟩
end Go.Proofs.Ytgodkfaacjllcaa

/- What is packed: its length, its sizes; writing all of it. -/
namespace Go.Proofs.Ytgodkfaacjllcaa
set_option linter.unusedVariables false
set_option linter.unusedSimpArgs false
set_option maxRecDepth 100000
open SL Go.RowKit Go.Maps

theorem pack_facts {seq : Int} {s : ByteArray} (h : Can seq s) : (packF seq s).2 = 0 ∧ ((packF seq s).1.length : Int) = partsI s.size ∧ (packF seq s).1.length ≤ 255 ∧ 1 ≤ (packF seq s).1.length ∧ ∀ b ∈ (packF seq s).1, b.size ≤ 32 := by
  obtain ⟨n, hn, n1, n2, _, _⟩ := can_parts h
  have hp := can_pieces h
  have hr := can_right h
  rw [pack_pieces, hp] at *
  dsimp only at *
  refine ⟨rfl, ?_, ?_, ?_, fun b hb => ?_⟩
  · rw [List.length_map, List.length_map, List.length_range, hn]; omega
  · rw [List.length_map, List.length_map, List.length_range, hn]; omega
  · rw [List.length_map, List.length_map, List.length_range, hn]; omega
  · obtain ⟨p, hpm, rfl⟩ := List.mem_map.1 hb
    exact blkP_size (hr p hpm)
theorem wrAll_fail : ∀ (l : List ByteArray) (i : Nat) (a : DA), i + l.length ≤ 2048 → (∀ b ∈ l, b.size ≤ 32) → (wrAll l i a).2 = false → (wrAll l i a).1.on = false
  | [], _, _, _, _, h => by simp [wrAll] at h
  | s :: r, i, a, hl, hs, h => by
    rw [wrAll] at h ⊢
    split
    · rename_i hc
      rw [if_pos hc] at h
      exact wrAll_fail r (i + 1) _ (by simp at hl; omega) (fun b hb => hs b (by simp [hb])) h
    · rename_i hc
      cases hon : a.on with
      | false => rfl
      | true => exact absurd ((wcode_in (by omega) (by simp at hl; omega) (hs s (by simp))).2 hon) hc
theorem parts_zero {n : Nat} : partsI (n : Int) = 0 ↔ n > 5865 := by
  unfold partsI
  split <;> constructor <;> intro h <;> omega
theorem can_of {n : Nat} {s : ByteArray} (hn : n < 65535) (hs : s.size ≤ 5865) : Can ((n : Int) + 1) s := ⟨by omega, by omega, hs⟩
end Go.Proofs.Ytgodkfaacjllcaa

/- Appending to a journal. -/
namespace Go.Proofs.Ytgodkfaacjllcaa
set_option linter.unusedVariables false
set_option linter.unusedSimpArgs false
set_option maxRecDepth 100000
open SL Go.RowKit Go.Maps

abbrev jCell (j d : Nat) (J : JA) : HObj := .cells j [.pointer (some ⟨d, 0, none⟩), .int .i64 (J.n : Int), .int .i64 (J.e : Int), .bool J.dead] 80 (0, 0)
set_option maxHeartbeats 1000000 in
theorem append_ok (F : Mem) (j d r rb : Nat) (es1 : Array MapEntry) (c1 : Nat) (mf : List (Int × ByteArray)) (x : JS) (I : JOk es1 c1 mf x) (J : JA) (hn : J.n ≤ 65535) (he : J.e ≤ 2048) (s : ByteArray) (hs : s.size ≤ 9223372036854775807) (hlog : Room x.a.lg.length 256) :
    FT Try.prog 15 [.pointer (some ⟨j, 0, none⟩), .string s].toArray F (jCell j d J :: JH d r rb es1 c1 x)
      (fun e H => ∃ y, JOk es1 c1 mf y ∧ y.a = (appendA x.a J s).1 ∧ e = .returned (.int .i64 (appendA x.a J s).2.2) ∧ H = jCell j d (appendA x.a J s).2.1 :: JH d r rb es1 c1 y) := by
  obtain ⟨n, e, dead⟩ := J
  dsimp only at hn he
  refine FT.of_body Try.func15 rfl Try.ntmps15 (by simp) fun C hC => ?_
  subst hC
  conv => whnf
  refine LoadV.s rfl rfl ?_
  cases dead with
  | true =>
    have hA : appendA x.a ⟨n, e, true⟩ s = (x.a, ⟨n, e, true⟩, 11) := if_pos (.inl rfl)
    rw [hA]
    conv => whnf
    refine StoreV.c rfl rfl (Nat.le_of_ble_eq_true rfl) rfl ?_
    conv => whnf
    refine LoadV.s rfl rfl ?_
    conv => whnf
    repeat (first | (refine LoadV.s rfl rfl (forceV_of ?_); conv => whnf) | (refine LoadV.s rfl rfl ?_; conv => whnf) | (refine StoreV.c rfl rfl (Nat.le_of_ble_eq_true rfl) rfl ?_; conv => whnf) | (refine LoadV.a _ rfl (Nat.le_of_ble_eq_true rfl) ?_; conv => whnf) | (refine DrawI.quiet (by kernel_rfl) (by kernel_rfl) ?_; conv => whnf) | (refine ArI.in64 (by omega) ?_; conv => whnf) | (refine ArI.inU8 (by omega) ?_; conv => whnf) | (refine ArI.inU64 (by omega) ?_; conv => whnf) | (refine ArI.inU32 (by omega) ?_; conv => whnf) | (refine RetI.one Try.results15 rfl ?_; conv => whnf) | (refine RetI.two Try.results15 rfl rfl ?_; conv => whnf) | (refine RetI.three Try.results15 rfl rfl rfl ?_; conv => whnf) | (refine RetI.none Try.results15 ?_; conv => whnf) | (refine ⟨by first | decide | omega, ?_⟩; conv => whnf))
    exact ⟨_, Sub.refl _, x, I, rfl, rfl, rfl⟩
  | false =>
    conv => whnf
    refine LoadV.s rfl rfl ?_
    conv => whnf
    refine CallS.mk Try.call17 ⟨[_], _, _, Sub.split [1] rfl, fun F' hF' => on_ok F' d _ _ _ _ _, ?_⟩
    rintro e2 A' ⟨rfl, rfl⟩
    cases hon : x.a.on with
    | false =>
      have hA : appendA x.a ⟨n, e, false⟩ s = (x.a, ⟨n, e, true⟩, 11) := if_pos (.inr hon)
      rw [hA]
      conv => whnf
      refine StoreV.c rfl rfl (Nat.le_of_ble_eq_true rfl) rfl ?_
      conv => whnf
      refine LoadV.s rfl rfl ?_
      conv => whnf
      repeat (first | (refine LoadV.s rfl rfl (forceV_of ?_); conv => whnf) | (refine LoadV.s rfl rfl ?_; conv => whnf) | (refine StoreV.c rfl rfl (Nat.le_of_ble_eq_true rfl) rfl ?_; conv => whnf) | (refine LoadV.a _ rfl (Nat.le_of_ble_eq_true rfl) ?_; conv => whnf) | (refine DrawI.quiet (by kernel_rfl) (by kernel_rfl) ?_; conv => whnf) | (refine ArI.in64 (by omega) ?_; conv => whnf) | (refine ArI.inU8 (by omega) ?_; conv => whnf) | (refine ArI.inU64 (by omega) ?_; conv => whnf) | (refine ArI.inU32 (by omega) ?_; conv => whnf) | (refine RetI.one Try.results15 rfl ?_; conv => whnf) | (refine RetI.two Try.results15 rfl rfl ?_; conv => whnf) | (refine RetI.three Try.results15 rfl rfl rfl ?_; conv => whnf) | (refine RetI.none Try.results15 ?_; conv => whnf) | (refine ⟨by first | decide | omega, ?_⟩; conv => whnf))
      exact ⟨_, Sub.sel [1, 0, 2, 3, 4] rfl, x, I, rfl, rfl, by unfold JH; rw [hon]; rfl⟩
    | true =>
      have hA : appendA x.a ⟨n, e, false⟩ s = if s.size > 5865 then (x.a, ⟨n, e, false⟩, 9) else if partsI s.size > 2048 - (e : Int) ∨ n = 65535 then (x.a, ⟨n, e, false⟩, 10) else
          if (wrAll (packF ((n : Int) + 1) s).1 e x.a).1.on = false then ((wrAll (packF ((n : Int) + 1) s).1 e x.a).1, ⟨n, e, true⟩, 11) else ((wrAll (packF ((n : Int) + 1) s).1 e x.a).1, ⟨n + 1, e + (partsI s.size).toNat, false⟩, 0) := by
        unfold appendA
        rw [if_neg (by rw [hon]; simp)]
      rw [hA]
      have hback : JH d r rb es1 c1 x = [.cells d [.map (some r), .map (some rb), svOf x.g x.a.lg.length, .bool true, .int .i64 x.a.l] 82 (0, 0), .obj r (.map es1 c1), .obj rb (.map x.es x.c), .own (svOf x.g x.a.lg.length) x.a.lg.length 85 2 (logCells x.a.lg)] := by unfold JH; rw [hon]
      conv => whnf
      refine StoreV.c rfl rfl (Nat.le_of_ble_eq_true rfl) rfl ?_
      conv => whnf
      refine LoadV.s rfl rfl ?_
      conv => whnf
      refine CallS.mk Try.call35 ⟨[], _, _, Sub.refl _, fun F' hF' => parts_ok F' (s.size : Int), ?_⟩
      rintro e2 A' ⟨rfl, rfl⟩
      by_cases hbig : s.size > 5865
      · rw [if_pos hbig, parts_zero.2 hbig]
        conv => whnf
        repeat (first | (refine LoadV.s rfl rfl (forceV_of ?_); conv => whnf) | (refine LoadV.s rfl rfl ?_; conv => whnf) | (refine StoreV.c rfl rfl (Nat.le_of_ble_eq_true rfl) rfl ?_; conv => whnf) | (refine LoadV.a _ rfl (Nat.le_of_ble_eq_true rfl) ?_; conv => whnf) | (refine DrawI.quiet (by kernel_rfl) (by kernel_rfl) ?_; conv => whnf) | (refine ArI.in64 (by omega) ?_; conv => whnf) | (refine ArI.inU8 (by omega) ?_; conv => whnf) | (refine ArI.inU64 (by omega) ?_; conv => whnf) | (refine ArI.inU32 (by omega) ?_; conv => whnf) | (refine RetI.one Try.results15 rfl ?_; conv => whnf) | (refine RetI.two Try.results15 rfl rfl ?_; conv => whnf) | (refine RetI.three Try.results15 rfl rfl rfl ?_; conv => whnf) | (refine RetI.none Try.results15 ?_; conv => whnf) | (refine ⟨by first | decide | omega, ?_⟩; conv => whnf))
        exact ⟨_, Sub.sel [1, 0, 2, 3, 4] rfl, x, I, rfl, rfl, by rw [hback]; rfl⟩
      · rw [if_neg hbig]
        have hp0 : partsI (s.size : Int) ≠ 0 := fun h => hbig (parts_zero.1 h)
        have hpf : n < 65535 → _ := fun h => pack_facts (can_of (s := s) h (by omega))
        generalize partsI (s.size : Int) = P at *
        conv => whnf
        rw [show (P == 0) = false from beq_eq_false_iff_ne.2 hp0]
        conv => whnf
        refine LoadV.s rfl rfl ?_
        conv => whnf
        refine ArI.in64 (by dsimp only; omega) ?_
        conv => whnf
        by_cases hfull : P > 2048 - (e : Int)
        · rw [if_pos (.inl hfull), decide_eq_true hfull]
          conv => whnf
          repeat (first | (refine LoadV.s rfl rfl (forceV_of ?_); conv => whnf) | (refine LoadV.s rfl rfl ?_; conv => whnf) | (refine StoreV.c rfl rfl (Nat.le_of_ble_eq_true rfl) rfl ?_; conv => whnf) | (refine LoadV.a _ rfl (Nat.le_of_ble_eq_true rfl) ?_; conv => whnf) | (refine DrawI.quiet (by kernel_rfl) (by kernel_rfl) ?_; conv => whnf) | (refine ArI.in64 (by omega) ?_; conv => whnf) | (refine ArI.inU8 (by omega) ?_; conv => whnf) | (refine ArI.inU64 (by omega) ?_; conv => whnf) | (refine ArI.inU32 (by omega) ?_; conv => whnf) | (refine RetI.one Try.results15 rfl ?_; conv => whnf) | (refine RetI.two Try.results15 rfl rfl ?_; conv => whnf) | (refine RetI.three Try.results15 rfl rfl rfl ?_; conv => whnf) | (refine RetI.none Try.results15 ?_; conv => whnf) | (refine ⟨by first | decide | omega, ?_⟩; conv => whnf))
          exact ⟨_, Sub.sel [1, 0, 2, 3, 4] rfl, x, I, rfl, rfl, by rw [hback]; rfl⟩
        · rw [decide_eq_false hfull]
          conv => whnf
          refine LoadV.s rfl rfl ?_
          conv => whnf
          by_cases hmax : n = 65535
          · rw [if_pos (.inr hmax), show ((n : Int) == 65535) = true from beq_iff_eq.2 (by omega)]
            conv => whnf
            repeat (first | (refine LoadV.s rfl rfl (forceV_of ?_); conv => whnf) | (refine LoadV.s rfl rfl ?_; conv => whnf) | (refine StoreV.c rfl rfl (Nat.le_of_ble_eq_true rfl) rfl ?_; conv => whnf) | (refine LoadV.a _ rfl (Nat.le_of_ble_eq_true rfl) ?_; conv => whnf) | (refine DrawI.quiet (by kernel_rfl) (by kernel_rfl) ?_; conv => whnf) | (refine ArI.in64 (by omega) ?_; conv => whnf) | (refine ArI.inU8 (by omega) ?_; conv => whnf) | (refine ArI.inU64 (by omega) ?_; conv => whnf) | (refine ArI.inU32 (by omega) ?_; conv => whnf) | (refine RetI.one Try.results15 rfl ?_; conv => whnf) | (refine RetI.two Try.results15 rfl rfl ?_; conv => whnf) | (refine RetI.three Try.results15 rfl rfl rfl ?_; conv => whnf) | (refine RetI.none Try.results15 ?_; conv => whnf) | (refine ⟨by first | decide | omega, ?_⟩; conv => whnf))
            exact ⟨_, Sub.sel [1, 0, 2, 3, 4] rfl, x, I, rfl, rfl, by rw [hback]; rfl⟩
          · rw [if_neg (by intro h; rcases h with h | h; exact hfull h; exact hmax h), show ((n : Int) == 65535) = false from beq_eq_false_iff_ne.2 (by omega)]
            obtain ⟨hpe, hpl, hpl2, hpl1, hps⟩ := hpf (by omega)
            have hpack := fun F' => fpack_ok F' ((n : Int) + 1) s hs
            have hwf := wrAll_fail (packF ((n : Int) + 1) s).1 e x.a (by omega) hps
            generalize hq : (n : Int) + 1 = q at hpe hpl hpl2 hpl1 hps hpack hwf ⊢
            conv => whnf
            refine LoadV.s rfl rfl ?_
            conv => whnf
            refine ArI.to64 q hq (by omega) ?_
            conv => whnf
            refine CallS.mk Try.call36 ⟨[], _, _, Sub.refl _, fun F' hF' => hpack F', ?_⟩
            rintro e2 A' ⟨g, hg, rfl, rfl⟩
            generalize (packF q s).1 = L at *
            conv => whnf
            obtain ⟨W, hW⟩ : ∃ W, W = wrAll L e x.a := ⟨_, rfl⟩
            rw [← hW] at hwf ⊢
            refine LoopI.by_state (σ := Nat × JS) (fun y => [(0, .pointer (some ⟨j, 0, none⟩)), (5, .int .i64 P), (60, svOf g L.length), (61, .int .i64 (L.length : Int)), (62, .int .i64 (y.1 : Int))])
              (fun y => ownS g L :: jCell j d ⟨n, e, false⟩ :: JH d r rb es1 c1 y.2) (fun y => y.1 ≤ L.length ∧ JOk es1 c1 mf y.2 ∧ wrAll (L.drop y.1) (e + y.1) y.2.a = W ∧ y.2.a.lg.length ≤ x.a.lg.length + y.1) (fun y => L.length - y.1) (0, x)
              ⟨Nat.zero_le _, I, hW.symm, by simp⟩ ⟨rfl, rfl, rfl, rfl, rfl, trivial⟩ (by dsimp only; rw [hback]; exact Sub.sel [0, 2, 1, 3, 4, 5] rfl) ?_
            rintro ⟨i, y⟩ f0 ⟨hil, K, hw, hln⟩
            dsimp only at hil K hw hln ⊢
            conv => whnf
            refine cond_dec (fun h => ?_) (fun h => ?_)
            · have hi : i < L.length := by omega
              obtain ⟨xb, xc, rfl⟩ := gsome hg (by intro e; rw [e] at hi; simp at hi)
              have hget : (strs L)[i]? = some (.string (L[i]'hi)) := by rw [List.getElem?_map, List.getElem?_eq_getElem hi]; rfl
              have hbs := hps _ (List.getElem_mem hi)
              rw [List.drop_eq_getElem_cons hi, wrAll, Nat.add_assoc e i 1] at hw
              generalize L[i]'hi = b at hget hw hbs
              conv => whnf
              refine ⟨by omega, ?_⟩
              conv => whnf
              rw [elemOff_nat]
              rotate_left
              · kernel_rfl
              rw [Nat.zero_add]
              refine LoadV.os rfl hget ?_
              conv => whnf
              refine DrawI.mixed [11] [jCell j d ⟨n, e, false⟩] rfl (by kernel_rfl) (by kernel_rfl) (by kernel_rfl) (by kernel_rfl) (Sub.sel [1] rfl) ?_
              conv => whnf
              refine LoadV.s rfl rfl ?_
              conv => whnf
              refine LoadV.s rfl rfl ?_
              conv => whnf
              refine ArI.to64 ((e + i : Nat) : Int) (by dsimp only; omega) (by omega) ?_
              conv => whnf
              refine CallS.mk Try.call33 ⟨[_, _, _, _], _, _, Sub.split [2, 3, 4, 5] rfl, fun F' hF' => jwrite_ok F' d r rb es1 c1 mf y K ((e + i : Nat) : Int) b (hlog.mono (by omega)), ?_⟩
              rintro e2 A' ⟨rfl, z, Kz, hz, rfl⟩
              refine ⟨Sub.sel [5] rfl, ?_⟩
              by_cases hcode : wcode y.a.on ((e + i : Nat) : Int) b = 0
              · rw [if_pos hcode, ← hz] at hw
                rw [hcode]
                have hzl := y.a.wr_len ((e + i : Nat) : Int) b
                rw [← hz] at hzl
                conv => whnf
                refine ArI.to64 ((i + 1 : Nat) : Int) (by omega) (by omega) ?_
                conv => whnf
                exact ⟨(i + 1, z), _, by dsimp only; omega, Sub.sel [4, 5, 0, 1, 2, 3] rfl, ⟨by dsimp only; omega, Kz, hw, by dsimp only; omega⟩, ⟨rfl, rfl, rfl, rfl, rfl, trivial⟩, rfl⟩
              · rw [if_neg hcode] at hw
                rw [DA.wr_no hcode] at hz
                have hne : (wcode y.a.on ((e + i : Nat) : Int) b != 0) = true := bne_iff_ne.2 hcode
                generalize wcode y.a.on ((e + i : Nat) : Int) b = cd at hne
                have hWy : W.1 = z.a := by rw [← hw, hz]
                have hzon := hwf (by rw [← hw])
                rw [hWy] at hzon ⊢
                conv => whnf
                rw [hne]
                conv => whnf
                refine LoadV.s rfl rfl ?_
                conv => whnf
                refine CallS.mk Try.call17 ⟨[_], _, _, Sub.split [0] rfl, fun F' hF' => on_ok F' d _ _ _ _ _, ?_⟩
                rintro e2 A' ⟨rfl, rfl⟩
                cases hy : z.a.on with
                | false =>
                  conv => whnf
                  refine StoreV.c rfl rfl (Nat.le_of_ble_eq_true rfl) rfl ?_
                  conv => whnf
                  refine LoadV.s rfl rfl ?_
                  conv => whnf
                  repeat (first | (refine LoadV.s rfl rfl (forceV_of ?_); conv => whnf) | (refine LoadV.s rfl rfl ?_; conv => whnf) | (refine StoreV.c rfl rfl (Nat.le_of_ble_eq_true rfl) rfl ?_; conv => whnf) | (refine LoadV.a _ rfl (Nat.le_of_ble_eq_true rfl) ?_; conv => whnf) | (refine DrawI.quiet (by kernel_rfl) (by kernel_rfl) ?_; conv => whnf) | (refine ArI.in64 (by omega) ?_; conv => whnf) | (refine ArI.inU8 (by omega) ?_; conv => whnf) | (refine ArI.inU64 (by omega) ?_; conv => whnf) | (refine ArI.inU32 (by omega) ?_; conv => whnf) | (refine RetI.one Try.results15 rfl ?_; conv => whnf) | (refine RetI.two Try.results15 rfl rfl ?_; conv => whnf) | (refine RetI.three Try.results15 rfl rfl rfl ?_; conv => whnf) | (refine RetI.none Try.results15 ?_; conv => whnf) | (refine ⟨by first | decide | omega, ?_⟩; conv => whnf))
                  exact ⟨_, Sub.sel [5, 0, 1, 2, 3] rfl, z, Kz, by rw [if_pos rfl], by rw [if_pos rfl], by rw [if_pos rfl]; unfold JH; rw [hy]; rfl⟩
                | true => exact absurd (hzon.symm.trans hy) (by simp)
            · obtain rfl : i = L.length := by omega
              rw [List.drop_of_length_le (by omega), wrAll] at hw
              have hWy : W.1 = y.a := by rw [← hw]
              rw [hWy]
              conv => whnf
              refine LoadV.s rfl rfl ?_
              conv => whnf
              refine CallS.mk Try.call17 ⟨[_], _, _, Sub.split [2] rfl, fun F' hF' => on_ok F' d _ _ _ _ _, ?_⟩
              rintro e2 A' ⟨rfl, rfl⟩
              cases hy : y.a.on with
              | false =>
                conv => whnf
                refine StoreV.c rfl rfl (Nat.le_of_ble_eq_true rfl) rfl ?_
                conv => whnf
                refine LoadV.s rfl rfl ?_
                conv => whnf
                repeat (first | (refine LoadV.s rfl rfl (forceV_of ?_); conv => whnf) | (refine LoadV.s rfl rfl ?_; conv => whnf) | (refine StoreV.c rfl rfl (Nat.le_of_ble_eq_true rfl) rfl ?_; conv => whnf) | (refine LoadV.a _ rfl (Nat.le_of_ble_eq_true rfl) ?_; conv => whnf) | (refine DrawI.quiet (by kernel_rfl) (by kernel_rfl) ?_; conv => whnf) | (refine ArI.in64 (by omega) ?_; conv => whnf) | (refine ArI.inU8 (by omega) ?_; conv => whnf) | (refine ArI.inU64 (by omega) ?_; conv => whnf) | (refine ArI.inU32 (by omega) ?_; conv => whnf) | (refine RetI.one Try.results15 rfl ?_; conv => whnf) | (refine RetI.two Try.results15 rfl rfl ?_; conv => whnf) | (refine RetI.three Try.results15 rfl rfl rfl ?_; conv => whnf) | (refine RetI.none Try.results15 ?_; conv => whnf) | (refine ⟨by first | decide | omega, ?_⟩; conv => whnf))
                exact ⟨_, Sub.sel [2, 0, 3, 4, 5] rfl, y, K, by rw [if_pos rfl], by rw [if_pos rfl], by rw [if_pos rfl]; unfold JH; rw [hy]; rfl⟩
              | true =>
                conv => whnf
                refine StoreV.c rfl rfl (Nat.le_of_ble_eq_true rfl) rfl ?_
                conv => whnf
                refine LoadV.s rfl rfl ?_
                conv => whnf
                refine LoadV.s rfl rfl ?_
                conv => whnf
                refine ArI.to64 ((n + 1 : Nat) : Int) (by dsimp only; omega) (by omega) ?_
                conv => whnf
                refine StoreV.c rfl rfl (Nat.le_of_ble_eq_true rfl) rfl ?_
                conv => whnf
                refine LoadV.s rfl rfl ?_
                conv => whnf
                refine ArI.to64 ((e + P.toNat : Nat) : Int) (by dsimp only; omega) (by omega) ?_
                conv => whnf
                refine StoreV.c rfl rfl (Nat.le_of_ble_eq_true rfl) rfl ?_
                conv => whnf
                repeat (first | (refine LoadV.s rfl rfl (forceV_of ?_); conv => whnf) | (refine LoadV.s rfl rfl ?_; conv => whnf) | (refine StoreV.c rfl rfl (Nat.le_of_ble_eq_true rfl) rfl ?_; conv => whnf) | (refine LoadV.a _ rfl (Nat.le_of_ble_eq_true rfl) ?_; conv => whnf) | (refine DrawI.quiet (by kernel_rfl) (by kernel_rfl) ?_; conv => whnf) | (refine ArI.in64 (by omega) ?_; conv => whnf) | (refine ArI.inU8 (by omega) ?_; conv => whnf) | (refine ArI.inU64 (by omega) ?_; conv => whnf) | (refine ArI.inU32 (by omega) ?_; conv => whnf) | (refine RetI.one Try.results15 rfl ?_; conv => whnf) | (refine RetI.two Try.results15 rfl rfl ?_; conv => whnf) | (refine RetI.three Try.results15 rfl rfl rfl ?_; conv => whnf) | (refine RetI.none Try.results15 ?_; conv => whnf) | (refine ⟨by first | decide | omega, ?_⟩; conv => whnf))
                exact ⟨_, Sub.sel [2, 0, 3, 4, 5] rfl, y, K, by rw [if_neg (by simp : ¬ true = false)], by rw [if_neg (by simp : ¬ true = false)], by rw [if_neg (by simp : ¬ true = false)]; unfold JH; rw [hy]; rfl⟩
end Go.Proofs.Ytgodkfaacjllcaa

/- Appending to a journal, by the reference. -/
namespace Go.Proofs.Ytgodkfaacjllcaa
set_option linter.unusedVariables false
set_option linter.unusedSimpArgs false
set_option maxRecDepth 100000
open SL Go.RowKit Go.Maps

abbrev kCell (j d : Nat) (J : JA) : HObj := .cells j [.pointer (some ⟨d, 0, none⟩), .int .i64 (J.n : Int), .int .i64 (J.e : Int), .bool J.dead] 64 (0, 0)
set_option maxHeartbeats 1000000 in
theorem rappend_ok (F : Mem) (j d : Nat) (v : Value) (rb : Nat) (mf : List (Int × ByteArray)) (a : DA) (x : RS) (I : ROk mf a x) (J : JA) (hn : J.n ≤ 65535) (he : J.e ≤ 2048) (s : ByteArray) (hs : s.size ≤ 9223372036854775807) (hlog : Room a.lg.length 256) :
    FT Try.prog 39 [.pointer (some ⟨j, 0, none⟩), .string s].toArray F (kCell j d J :: RH d v rb a x)
      (fun e H => ∃ y, ROk mf (appendA a J s).1 y ∧ e = .returned (.int .i64 (appendA a J s).2.2) ∧ H = kCell j d (appendA a J s).2.1 :: RH d v rb (appendA a J s).1 y) := by
  obtain ⟨n, e, dead⟩ := J
  dsimp only at hn he
  have hpw := I.pw.1
  refine FT.of_body Try.func39 rfl Try.ntmps39 (by simp) fun C hC => ?_
  subst hC
  conv => whnf
  refine LoadV.s rfl rfl ?_
  cases dead with
  | true =>
    have hA : appendA a ⟨n, e, true⟩ s = (a, ⟨n, e, true⟩, 11) := if_pos (.inl rfl)
    rw [hA]
    conv => whnf
    refine StoreV.c rfl rfl (Nat.le_of_ble_eq_true rfl) rfl ?_
    conv => whnf
    repeat (first | (refine LoadV.s rfl rfl (forceV_of ?_); conv => whnf) | (refine LoadV.s rfl rfl ?_; conv => whnf) | (refine StoreV.c rfl rfl (Nat.le_of_ble_eq_true rfl) rfl ?_; conv => whnf) | (refine LoadV.a _ rfl (Nat.le_of_ble_eq_true rfl) ?_; conv => whnf) | (refine DrawI.quiet (by kernel_rfl) (by kernel_rfl) ?_; conv => whnf) | (refine ArI.in64 (by omega) ?_; conv => whnf) | (refine ArI.inU8 (by omega) ?_; conv => whnf) | (refine ArI.inU64 (by omega) ?_; conv => whnf) | (refine ArI.inU32 (by omega) ?_; conv => whnf) | (refine RetI.one Try.results39 rfl ?_; conv => whnf) | (refine RetI.two Try.results39 rfl rfl ?_; conv => whnf) | (refine RetI.three Try.results39 rfl rfl rfl ?_; conv => whnf) | (refine RetI.none Try.results39 ?_; conv => whnf) | (refine ⟨by first | decide | omega, ?_⟩; conv => whnf))
    exact ⟨_, Sub.refl _, x, I, rfl, rfl⟩
  | false =>
    conv => whnf
    refine LoadV.s rfl rfl ?_
    conv => whnf
    refine CallS.mk Try.call27 ⟨[_], _, _, Sub.split [1] rfl, fun F' hF' => r5on_ok F' d _ _ _ _, ?_⟩
    rw [← hpw]
    rintro e2 A' ⟨rfl, rfl⟩
    cases hon : a.on with
    | false =>
      have hA : appendA a ⟨n, e, false⟩ s = (a, ⟨n, e, true⟩, 11) := if_pos (.inr hon)
      rw [hA]
      conv => whnf
      refine StoreV.c rfl rfl (Nat.le_of_ble_eq_true rfl) rfl ?_
      conv => whnf
      repeat (first | (refine LoadV.s rfl rfl (forceV_of ?_); conv => whnf) | (refine LoadV.s rfl rfl ?_; conv => whnf) | (refine StoreV.c rfl rfl (Nat.le_of_ble_eq_true rfl) rfl ?_; conv => whnf) | (refine LoadV.a _ rfl (Nat.le_of_ble_eq_true rfl) ?_; conv => whnf) | (refine DrawI.quiet (by kernel_rfl) (by kernel_rfl) ?_; conv => whnf) | (refine ArI.in64 (by omega) ?_; conv => whnf) | (refine ArI.inU8 (by omega) ?_; conv => whnf) | (refine ArI.inU64 (by omega) ?_; conv => whnf) | (refine ArI.inU32 (by omega) ?_; conv => whnf) | (refine RetI.one Try.results39 rfl ?_; conv => whnf) | (refine RetI.two Try.results39 rfl rfl ?_; conv => whnf) | (refine RetI.three Try.results39 rfl rfl rfl ?_; conv => whnf) | (refine RetI.none Try.results39 ?_; conv => whnf) | (refine ⟨by first | decide | omega, ?_⟩; conv => whnf))
      exact ⟨_, Sub.sel [1, 0, 2, 3] rfl, x, I, rfl, rfl⟩
    | true =>
      have hA : appendA a ⟨n, e, false⟩ s = if s.size > 5865 then (a, ⟨n, e, false⟩, 9) else if partsI s.size > 2048 - (e : Int) ∨ n = 65535 then (a, ⟨n, e, false⟩, 10) else
          if (wrAll (packF ((n : Int) + 1) s).1 e a).1.on = false then ((wrAll (packF ((n : Int) + 1) s).1 e a).1, ⟨n, e, true⟩, 11) else ((wrAll (packF ((n : Int) + 1) s).1 e a).1, ⟨n + 1, e + (partsI s.size).toNat, false⟩, 0) := by
        unfold appendA
        rw [if_neg (by rw [hon]; simp)]
      rw [hA]
      by_cases hbig : s.size > 5865
      · rw [if_pos hbig]
        conv => whnf
        rw [decide_eq_true (show (s.size : Int) > 5865 by omega)]
        conv => whnf
        repeat (first | (refine LoadV.s rfl rfl (forceV_of ?_); conv => whnf) | (refine LoadV.s rfl rfl ?_; conv => whnf) | (refine StoreV.c rfl rfl (Nat.le_of_ble_eq_true rfl) rfl ?_; conv => whnf) | (refine LoadV.a _ rfl (Nat.le_of_ble_eq_true rfl) ?_; conv => whnf) | (refine DrawI.quiet (by kernel_rfl) (by kernel_rfl) ?_; conv => whnf) | (refine ArI.in64 (by omega) ?_; conv => whnf) | (refine ArI.inU8 (by omega) ?_; conv => whnf) | (refine ArI.inU64 (by omega) ?_; conv => whnf) | (refine ArI.inU32 (by omega) ?_; conv => whnf) | (refine RetI.one Try.results39 rfl ?_; conv => whnf) | (refine RetI.two Try.results39 rfl rfl ?_; conv => whnf) | (refine RetI.three Try.results39 rfl rfl rfl ?_; conv => whnf) | (refine RetI.none Try.results39 ?_; conv => whnf) | (refine ⟨by first | decide | omega, ?_⟩; conv => whnf))
        exact ⟨_, Sub.sel [1, 0, 2, 3] rfl, x, I, rfl, rfl⟩
      · rw [if_neg hbig]
        have hp0 : partsI (s.size : Int) ≠ 0 := fun h => hbig (parts_zero.1 h)
        have hpf : n < 65535 → _ := fun h => pack_facts (can_of (s := s) h (by omega))
        have hparts := fun F' => rparts_ok F' (s.size : Int)
        conv => whnf
        rw [decide_eq_false (show ¬ (s.size : Int) > 5865 by omega)]
        conv => whnf
        refine DrawI.quiet (by kernel_rfl) (by kernel_rfl) ?_
        conv => whnf
        refine CallQ.pure Try.call16 (fun F' hF' => (hparts F').mono fun e H h => h.1) ?_
        generalize partsI (s.size : Int) = P at *
        conv => whnf
        refine LoadV.s rfl rfl ?_
        conv => whnf
        refine ArI.in64 (by dsimp only; omega) ?_
        conv => whnf
        by_cases hfull : P > 2048 - (e : Int)
        · rw [if_pos (.inl hfull), decide_eq_true hfull]
          conv => whnf
          repeat (first | (refine LoadV.s rfl rfl (forceV_of ?_); conv => whnf) | (refine LoadV.s rfl rfl ?_; conv => whnf) | (refine StoreV.c rfl rfl (Nat.le_of_ble_eq_true rfl) rfl ?_; conv => whnf) | (refine LoadV.a _ rfl (Nat.le_of_ble_eq_true rfl) ?_; conv => whnf) | (refine DrawI.quiet (by kernel_rfl) (by kernel_rfl) ?_; conv => whnf) | (refine ArI.in64 (by omega) ?_; conv => whnf) | (refine ArI.inU8 (by omega) ?_; conv => whnf) | (refine ArI.inU64 (by omega) ?_; conv => whnf) | (refine ArI.inU32 (by omega) ?_; conv => whnf) | (refine RetI.one Try.results39 rfl ?_; conv => whnf) | (refine RetI.two Try.results39 rfl rfl ?_; conv => whnf) | (refine RetI.three Try.results39 rfl rfl rfl ?_; conv => whnf) | (refine RetI.none Try.results39 ?_; conv => whnf) | (refine ⟨by first | decide | omega, ?_⟩; conv => whnf))
          exact ⟨_, Sub.sel [1, 0, 2, 3] rfl, x, I, rfl, rfl⟩
        · rw [decide_eq_false hfull]
          conv => whnf
          refine LoadV.s rfl rfl ?_
          conv => whnf
          by_cases hmax : n = 65535
          · rw [if_pos (.inr hmax), show ((n : Int) == 65535) = true from beq_iff_eq.2 (by omega)]
            conv => whnf
            repeat (first | (refine LoadV.s rfl rfl (forceV_of ?_); conv => whnf) | (refine LoadV.s rfl rfl ?_; conv => whnf) | (refine StoreV.c rfl rfl (Nat.le_of_ble_eq_true rfl) rfl ?_; conv => whnf) | (refine LoadV.a _ rfl (Nat.le_of_ble_eq_true rfl) ?_; conv => whnf) | (refine DrawI.quiet (by kernel_rfl) (by kernel_rfl) ?_; conv => whnf) | (refine ArI.in64 (by omega) ?_; conv => whnf) | (refine ArI.inU8 (by omega) ?_; conv => whnf) | (refine ArI.inU64 (by omega) ?_; conv => whnf) | (refine ArI.inU32 (by omega) ?_; conv => whnf) | (refine RetI.one Try.results39 rfl ?_; conv => whnf) | (refine RetI.two Try.results39 rfl rfl ?_; conv => whnf) | (refine RetI.three Try.results39 rfl rfl rfl ?_; conv => whnf) | (refine RetI.none Try.results39 ?_; conv => whnf) | (refine ⟨by first | decide | omega, ?_⟩; conv => whnf))
            exact ⟨_, Sub.sel [1, 0, 2, 3] rfl, x, I, rfl, rfl⟩
          · rw [if_neg (by intro h; rcases h with h | h; exact hfull h; exact hmax h), show ((n : Int) == 65535) = false from beq_eq_false_iff_ne.2 (by omega)]
            obtain ⟨hpe, hpl, hpl2, hpl1, hps⟩ := hpf (by omega)
            have hpack := fun F' => rpack_ok F' ((n : Int) + 1) s hs
            have hwf := wrAll_fail (packF ((n : Int) + 1) s).1 e a (by omega) hps
            generalize hq : (n : Int) + 1 = q at hpe hpl hpl2 hpl1 hps hpack hwf ⊢
            conv => whnf
            refine LoadV.s rfl rfl ?_
            conv => whnf
            refine ArI.to64 q hq (by omega) ?_
            conv => whnf
            refine CallS.mk Try.call52 ⟨[], _, _, Sub.refl _, fun F' hF' => hpack F', ?_⟩
            rintro e2 A' ⟨g, hg, rfl, rfl⟩
            generalize (packF q s).1 = L at *
            conv => whnf
            obtain ⟨W, hW⟩ : ∃ W, W = wrAll L e a := ⟨_, rfl⟩
            rw [← hW] at hwf ⊢
            refine LoopI.by_state (σ := Nat × DA × RS) (fun y => [(0, .pointer (some ⟨j, 0, none⟩)), (5, svOf g L.length), (54, svOf g L.length), (55, .int .i64 (L.length : Int)), (56, .int .i64 (y.1 : Int))])
              (fun y => ownS g L :: kCell j d ⟨n, e, false⟩ :: RH d v rb y.2.1 y.2.2) (fun y => y.1 ≤ L.length ∧ ROk mf y.2.1 y.2.2 ∧ wrAll (L.drop y.1) (e + y.1) y.2.1 = W ∧ y.2.1.lg.length ≤ a.lg.length + y.1) (fun y => L.length - y.1) (0, a, x)
              ⟨Nat.zero_le _, I, hW.symm, by simp⟩ ⟨rfl, rfl, rfl, rfl, rfl, trivial⟩ (Sub.sel [0, 2, 1, 3, 4] rfl) ?_
            rintro ⟨i, b2, y⟩ f0 ⟨hil, K, hw, hln⟩
            dsimp only at hil K hw hln ⊢
            have hpw2 := K.pw.1
            conv => whnf
            refine cond_dec (fun h => ?_) (fun h => ?_)
            · have hi : i < L.length := by omega
              obtain ⟨xb, xc, rfl⟩ := gsome hg (by intro e; rw [e] at hi; simp at hi)
              have hget : (strs L)[i]? = some (.string (L[i]'hi)) := by rw [List.getElem?_map, List.getElem?_eq_getElem hi]; rfl
              have hbs := hps _ (List.getElem_mem hi)
              rw [List.drop_eq_getElem_cons hi, wrAll, Nat.add_assoc e i 1] at hw
              generalize L[i]'hi = b at hget hw hbs
              conv => whnf
              refine ⟨by omega, ?_⟩
              conv => whnf
              rw [elemOff_nat]
              rotate_left
              · kernel_rfl
              rw [Nat.zero_add]
              refine LoadV.os rfl hget ?_
              conv => whnf
              refine DrawI.mixed [11] [kCell j d ⟨n, e, false⟩] rfl (by kernel_rfl) (by kernel_rfl) (by kernel_rfl) (by kernel_rfl) (Sub.sel [1] rfl) ?_
              conv => whnf
              refine LoadV.s rfl rfl ?_
              conv => whnf
              refine LoadV.s rfl rfl ?_
              conv => whnf
              refine ArI.to64 ((e + i : Nat) : Int) (by dsimp only; omega) (by omega) ?_
              conv => whnf
              refine CallS.mk Try.call51 ⟨[_, _, _], _, _, Sub.split [2, 3, 4] rfl, fun F' hF' => rwrite_ok F' d v rb mf b2 y K ((e + i : Nat) : Int) b (hlog.mono (by omega)), ?_⟩
              rintro e2 A' ⟨rfl, z, Kz, rfl⟩
              refine ⟨Sub.sel [4] rfl, ?_⟩
              by_cases hcode : wcode b2.on ((e + i : Nat) : Int) b = 0
              · rw [if_pos hcode] at hw
                rw [hcode]
                have hzl := b2.wr_len ((e + i : Nat) : Int) b
                conv => whnf
                refine ArI.to64 ((i + 1 : Nat) : Int) (by omega) (by omega) ?_
                conv => whnf
                exact ⟨(i + 1, b2.wr ((e + i : Nat) : Int) b, z), _, by dsimp only; omega, Sub.sel [3, 4, 0, 1, 2] rfl, ⟨by dsimp only; omega, Kz, hw, by dsimp only; omega⟩, ⟨rfl, rfl, rfl, rfl, rfl, trivial⟩, rfl⟩
              · rw [if_neg hcode] at hw
                have h11 := wcode_down (by omega) (by omega) hbs hcode
                rw [DA.wr_no hcode] at Kz ⊢
                have hzon := hwf (by rw [← hw])
                have hW1 : W.1 = b2 := by rw [← hw]
                rw [hW1] at hzon ⊢
                rw [h11, if_pos hzon]
                conv => whnf
                refine StoreV.c rfl rfl (Nat.le_of_ble_eq_true rfl) rfl ?_
                conv => whnf
                repeat (first | (refine LoadV.s rfl rfl (forceV_of ?_); conv => whnf) | (refine LoadV.s rfl rfl ?_; conv => whnf) | (refine StoreV.c rfl rfl (Nat.le_of_ble_eq_true rfl) rfl ?_; conv => whnf) | (refine LoadV.a _ rfl (Nat.le_of_ble_eq_true rfl) ?_; conv => whnf) | (refine DrawI.quiet (by kernel_rfl) (by kernel_rfl) ?_; conv => whnf) | (refine ArI.in64 (by omega) ?_; conv => whnf) | (refine ArI.inU8 (by omega) ?_; conv => whnf) | (refine ArI.inU64 (by omega) ?_; conv => whnf) | (refine ArI.inU32 (by omega) ?_; conv => whnf) | (refine RetI.one Try.results39 rfl ?_; conv => whnf) | (refine RetI.two Try.results39 rfl rfl ?_; conv => whnf) | (refine RetI.three Try.results39 rfl rfl rfl ?_; conv => whnf) | (refine RetI.none Try.results39 ?_; conv => whnf) | (refine ⟨by first | decide | omega, ?_⟩; conv => whnf))
                exact ⟨_, Sub.sel [4, 0, 1, 2] rfl, z, Kz, rfl, rfl⟩
            · obtain rfl : i = L.length := by omega
              rw [List.drop_of_length_le (by omega), wrAll] at hw
              have hW1 : W.1 = b2 := by rw [← hw]
              rw [hW1]
              conv => whnf
              refine LoadV.s rfl rfl ?_
              conv => whnf
              refine CallS.mk Try.call27 ⟨[_], _, _, Sub.split [2] rfl, fun F' hF' => r5on_ok F' d _ _ _ _, ?_⟩
              rw [← hpw2]
              rintro e2 A' ⟨rfl, rfl⟩
              cases hy : b2.on with
              | false =>
                conv => whnf
                refine StoreV.c rfl rfl (Nat.le_of_ble_eq_true rfl) rfl ?_
                conv => whnf
                repeat (first | (refine LoadV.s rfl rfl (forceV_of ?_); conv => whnf) | (refine LoadV.s rfl rfl ?_; conv => whnf) | (refine StoreV.c rfl rfl (Nat.le_of_ble_eq_true rfl) rfl ?_; conv => whnf) | (refine LoadV.a _ rfl (Nat.le_of_ble_eq_true rfl) ?_; conv => whnf) | (refine DrawI.quiet (by kernel_rfl) (by kernel_rfl) ?_; conv => whnf) | (refine ArI.in64 (by omega) ?_; conv => whnf) | (refine ArI.inU8 (by omega) ?_; conv => whnf) | (refine ArI.inU64 (by omega) ?_; conv => whnf) | (refine ArI.inU32 (by omega) ?_; conv => whnf) | (refine RetI.one Try.results39 rfl ?_; conv => whnf) | (refine RetI.two Try.results39 rfl rfl ?_; conv => whnf) | (refine RetI.three Try.results39 rfl rfl rfl ?_; conv => whnf) | (refine RetI.none Try.results39 ?_; conv => whnf) | (refine ⟨by first | decide | omega, ?_⟩; conv => whnf))
                exact ⟨_, Sub.sel [2, 0, 3, 4] rfl, y, by rw [if_pos rfl]; exact K, by rw [if_pos rfl], by rw [if_pos rfl]; rfl⟩
              | true =>
                conv => whnf
                refine LoadV.s rfl rfl ?_
                conv => whnf
                refine ArI.to64 ((n + 1 : Nat) : Int) (by dsimp only; omega) (by omega) ?_
                conv => whnf
                refine StoreV.c rfl rfl (Nat.le_of_ble_eq_true rfl) rfl ?_
                conv => whnf
                refine LoadV.s rfl rfl ?_
                conv => whnf
                refine ArI.to64 ((e + P.toNat : Nat) : Int) (by dsimp only; omega) (by omega) ?_
                conv => whnf
                refine StoreV.c rfl rfl (Nat.le_of_ble_eq_true rfl) rfl ?_
                conv => whnf
                repeat (first | (refine LoadV.s rfl rfl (forceV_of ?_); conv => whnf) | (refine LoadV.s rfl rfl ?_; conv => whnf) | (refine StoreV.c rfl rfl (Nat.le_of_ble_eq_true rfl) rfl ?_; conv => whnf) | (refine LoadV.a _ rfl (Nat.le_of_ble_eq_true rfl) ?_; conv => whnf) | (refine DrawI.quiet (by kernel_rfl) (by kernel_rfl) ?_; conv => whnf) | (refine ArI.in64 (by omega) ?_; conv => whnf) | (refine ArI.inU8 (by omega) ?_; conv => whnf) | (refine ArI.inU64 (by omega) ?_; conv => whnf) | (refine ArI.inU32 (by omega) ?_; conv => whnf) | (refine RetI.one Try.results39 rfl ?_; conv => whnf) | (refine RetI.two Try.results39 rfl rfl ?_; conv => whnf) | (refine RetI.three Try.results39 rfl rfl rfl ?_; conv => whnf) | (refine RetI.none Try.results39 ?_; conv => whnf) | (refine ⟨by first | decide | omega, ?_⟩; conv => whnf))
                exact ⟨_, Sub.sel [2, 0, 3, 4] rfl, y, by rw [if_neg (by simp : ¬ true = false)]; exact K, by rw [if_neg (by simp : ¬ true = false)], by rw [if_neg (by simp : ¬ true = false)]; rfl⟩
end Go.Proofs.Ytgodkfaacjllcaa

/- Frames in blocks: what a scan finds. -/
namespace Go.Proofs.Ytgodkfaacjllcaa
set_option linter.unusedVariables false
set_option linter.unusedSimpArgs false
set_option maxRecDepth 100000
open SL Go.RowKit Go.Maps

/-- The frame of a record. -/
def fr (k : Nat) (s : ByteArray) : List ByteArray := (packF ((k : Int) + 1) s).1
/-- The frames of some records. -/
def blocksOf : Nat → List ByteArray → List ByteArray
  | _, [] => []
  | k, s :: l => fr k s ++ blocksOf (k + 1) l
theorem blk_unb {p : Pc} (hr : rightB p.1 p.2.1 p.2.2.1 p.2.2.2.size = true) : Taken (blkP p) ∧ unbP (blkP p) = p := by
  have h := pc_unb hr
  rw [unb_form] at h
  injection h with h
  have h2 : (if Taken (blkP p) then (0 : Int) else 7) = 0 := by
    have := congrArg (fun (a : Array Value) => a[1]?) h
    simpa using this
  have h1 : Value.agg (pcF (unbP (blkP p))).toArray = pieceV p.1 p.2.1 p.2.2.1 p.2.2.2 := by
    have := congrArg (fun (a : Array Value) => a[0]?) h
    simpa using this
  refine ⟨?_, ?_⟩
  · by_cases hT : Taken (blkP p)
    · exact hT
    · rw [if_neg hT] at h2; cases h2
  · injection h1 with h1
    generalize unbP (blkP p) = q at h1
    obtain ⟨a, b, c, d⟩ := p
    obtain ⟨x, y, z, w⟩ := q
    simp at h1
    obtain ⟨rfl, rfl, rfl, rfl⟩ := h1
    rfl
theorem fr_pieces (k : Nat) (s : ByteArray) : fr k s = (piecesF ((k : Int) + 1) s).1.map blkP := by unfold fr; rw [pack_pieces]
theorem fr_at {k : Nat} {s : ByteArray} {i : Nat} (h : i < (fr k s).length) : ∃ hi : i < (piecesF ((k : Int) + 1) s).1.length, (fr k s)[i]? = some (blkP ((piecesF ((k : Int) + 1) s).1[i]'hi)) := by
  rw [fr_pieces, List.length_map] at h
  exact ⟨h, by rw [fr_pieces, List.getElem?_map, List.getElem?_eq_getElem h]; rfl⟩
theorem fr_len (k : Nat) (s : ByteArray) : (fr k s).length = (piecesF ((k : Int) + 1) s).1.length := by rw [fr_pieces, List.length_map]
theorem due_frame {im : List ByteArray} {a k : Nat} {s : ByteArray} (hc : Can ((k : Int) + 1) s) (hat : ∀ i, i < (fr k s).length → im[a + i]? = (fr k s)[i]?) : dueR im a ((k : Int) + 1) = some (s, a + (fr k s).length) := by
  obtain ⟨hw, hwr⟩ := can_whole hc
  rw [whole_yes hw] at hwr
  have hr := can_right hc
  have hl := fr_len k s
  have hex := fun i h => fr_at (k := k) (s := s) (i := i) h
  generalize (piecesF ((k : Int) + 1) s).1 = l at *
  have hpos : 0 < l.length := List.length_pos_iff.2 hw.1
  have hd : DueOk im a ((k : Int) + 1) l := by
    refine ⟨?_, fun i hi t ht => ?_, hw, (Prod.mk.inj hwr).1⟩
    · obtain ⟨h1, h2⟩ := hex (l.length - 1) (by omega)
      have := hat (l.length - 1) (by omega)
      rw [h2] at this
      have := (List.getElem?_eq_some_iff.1 this).1
      omega
    · obtain ⟨h1, h2⟩ := hex i (by omega)
      have h3 := hat i (by omega)
      rw [ht, h2] at h3
      obtain rfl := Option.some.inj h3
      exact blk_unb (hr _ (List.getElem_mem hi))
  rw [due_yes hd, hl]
  have := (Prod.mk.inj (Prod.mk.inj hwr).2).1
  rw [this]
theorem due_tail {im : List ByteArray} {a k : Nat} {s : ByteArray} {t : List ByteArray} (hc : Can ((k : Int) + 1) s) (hlen : im.length = a + t.length) (hat : ∀ i, i < t.length → im[a + i]? = t[i]?) (htl : t.length ≤ (fr k s).length)
    (hti : ∀ i, ∀ h : i < t.length, (t[i]).size = 0 ∨ some t[i] = (fr k s)[i]?) (hne : t ≠ fr k s) : dueR im a ((k : Int) + 1) = none := by
  refine due_no fun ⟨l, hd⟩ => ?_
  obtain ⟨hw, -⟩ := can_whole hc
  have hr := can_right hc
  have hl := fr_len k s
  have hex := fun i h => fr_at (k := k) (s := s) (i := i) h
  generalize (piecesF ((k : Int) + 1) s).1 = m at *
  have hdl := hd.len
  have hpos := hd.pos
  have hblk : ∀ i, ∀ h : i < t.length, i < l.length → some t[i] = (fr k s)[i]? := fun i h hil => by
    have h1 := hat i h
    rw [List.getElem?_eq_getElem h] at h1
    have h2 := (hd.get hil h1).1
    rcases hti i h with h3 | h3
    · have := h2.1; omega
    · exact h3
  have h0 : 0 < t.length := by omega
  have e0 := hblk 0 h0 hpos
  obtain ⟨g1, g2⟩ := hex 0 (by omega)
  rw [g2] at e0
  have hp : (unbP t[0]).2.2.1 = (l.length : Int) := by
    have h1 := hat 0 h0
    rw [List.getElem?_eq_getElem h0] at h1
    exact (hd.get hpos h1).2.2.2
  rw [Option.some.inj e0, (blk_unb (hr _ (List.getElem_mem g1))).2] at hp
  have hparts := (hw.2 0 g1).2.2.2
  have hll : l.length = m.length := by omega
  apply hne
  refine List.ext_getElem? fun i => ?_
  by_cases hi : i < t.length
  · rw [List.getElem?_eq_getElem hi]; exact hblk i hi (by omega)
  · rw [List.getElem?_eq_none (by omega), List.getElem?_eq_none (by omega)]
theorem recs_blocks {im : List ByteArray} : ∀ (l : List ByteArray) (k a n : Nat), l.length < n → (∀ s ∈ l, s.size ≤ 5865) → k + l.length ≤ 65535 → (∀ i, i < (blocksOf k l).length → im[a + i]? = (blocksOf k l)[i]?) →
    dueR im (a + (blocksOf k l).length) (((k + l.length : Nat) : Int) + 1) = none → (recs im n a ((k : Int) + 1)).map (·.1) = l ∧ lastEnd a (recs im n a ((k : Int) + 1)) = a + (blocksOf k l).length
  | [], k, a, n, hn, _, _, _, hd => by
    simp only [blocksOf, List.length_nil, Nat.add_zero] at hd ⊢
    rw [recs_none hd]; exact ⟨rfl, rfl⟩
  | s :: l, k, a, n, hn, hs, hk, hat, hd => by
    obtain ⟨m, rfl⟩ : ∃ m, n = m + 1 := ⟨n - 1, by simp at hn; omega⟩
    simp only [List.length_cons] at hn hk hd
    have hc : Can ((k : Int) + 1) s := ⟨by omega, by omega, hs s (by simp)⟩
    have h1 := due_frame (im := im) (a := a) hc fun i hi => by
      rw [hat i (by rw [blocksOf, List.length_append]; omega), blocksOf, List.getElem?_append_left hi]
    rw [blocksOf, List.length_append] at hat hd ⊢
    have ih := recs_blocks (im := im) l (k + 1) (a + (fr k s).length) m (by omega) (fun s hs2 => hs s (by simp [hs2])) (by omega) (fun i hi => by
      have := hat ((fr k s).length + i) (by omega)
      rw [List.getElem?_append_right (by omega), show (fr k s).length + i - (fr k s).length = i by omega] at this
      rw [Nat.add_assoc]; exact this) (by
      rw [show k + 1 + l.length = k + (l.length + 1) by omega, Nat.add_assoc]; exact hd)
    rw [recs_some h1]
    dsimp only
    rw [show ((k + 1 : Nat) : Int) + 1 = (k : Int) + 1 + 1 by omega] at ih
    refine ⟨by rw [List.map_cons, ih.1], ?_⟩
    rw [lastEnd_cons, ih.2]
    omega
/-- The blocks of records, and behind them what is no frame. -/
theorem scan_blocks {im : List ByteArray} {l : List ByteArray} (hl : l.length < 65535) (hs : ∀ s ∈ l, s.size ≤ 5865) (hat : ∀ i, i < (blocksOf 0 l).length → im[i]? = (blocksOf 0 l)[i]?)
    (hd : dueR im (blocksOf 0 l).length ((l.length : Int) + 1) = none) : scanP im = l ∧ scanE im = (blocksOf 0 l).length := by
  obtain ⟨N, hN⟩ : ∃ N, N = 65535 := ⟨_, rfl⟩
  have hP : scanP im = (recs im N 0 1).map (·.1) := by rw [hN]; rfl
  have hE : scanE im = lastEnd 0 (recs im N 0 1) := by rw [hN]; rfl
  have := recs_blocks (im := im) l 0 0 N (by omega) hs (by omega) (fun i hi => by rw [Nat.zero_add]; exact hat i hi) (by rw [Nat.zero_add, Nat.zero_add]; exact hd)
  rw [hP, hE]
  rw [show ((0 : Nat) : Int) + 1 = 1 from rfl, Nat.zero_add] at this
  exact this
end Go.Proofs.Ytgodkfaacjllcaa

/- What a log makes of blank blocks. -/
namespace Go.Proofs.Ytgodkfaacjllcaa
set_option linter.unusedVariables false
set_option linter.unusedSimpArgs false
set_option maxRecDepth 100000
open SL Go.RowKit Go.Maps

abbrev blank (n : Nat) : List ByteArray := List.replicate n nul
/-- The blocks behind a log, on a disk that was blank. -/
def cont (lg : List (Int × ByteArray)) : List ByteArray := setAll (blank 2048) lg
theorem cont_length (lg : List (Int × ByteArray)) : (cont lg).length = 2048 := by unfold cont; rw [setAll_length, List.length_replicate]
theorem setAll_append (bl : List ByteArray) (a b : List (Int × ByteArray)) : setAll bl (a ++ b) = setAll (setAll bl a) b := by unfold setAll; rw [List.foldl_append]
theorem cont_snoc (lg : List (Int × ByteArray)) (p : Int × ByteArray) : cont (lg ++ [p]) = (cont lg).set p.1.toNat p.2 := by unfold cont; rw [setAll_append]; rfl
theorem nodup_put {m : List (Int × ByteArray)} (h : (m.map Prod.fst).Nodup) (a : Int) (s : ByteArray) : ((putM m a s).map Prod.fst).Nodup ∧ ∀ k, k ∈ (putM m a s).map Prod.fst → k = a ∨ k ∈ m.map Prod.fst := by
  induction m with
  | nil => simp [putM]
  | cons q m ih =>
    rw [List.map_cons, List.nodup_cons] at h
    obtain ⟨i1, i2⟩ := ih h.2
    unfold putM
    by_cases e : q.1 = a
    · rw [if_pos e]
      refine ⟨?_, fun k hk => ?_⟩
      · rw [List.map_cons, List.nodup_cons]; rw [e] at h; exact h
      · rw [List.map_cons, List.mem_cons] at hk
        rcases hk with hk | hk
        · exact .inl hk
        · exact .inr (by simp [hk])
    · rw [if_neg e]
      refine ⟨?_, fun k hk => ?_⟩
      · rw [List.map_cons, List.nodup_cons]
        exact ⟨fun hq => by rcases i2 _ hq with h1 | h1; exact e h1; exact h.1 h1, i1⟩
      · rw [List.map_cons, List.mem_cons] at hk
        rcases hk with hk | hk
        · exact .inr (by simp [hk])
        · rcases i2 k hk with h1 | h1
          · exact .inl h1
          · exact .inr (by simp [h1])
theorem nodup_replay : ∀ (lg : List (Int × ByteArray)) {m : List (Int × ByteArray)}, (m.map Prod.fst).Nodup → ((replay m lg).map Prod.fst).Nodup
  | [], _, h => h
  | p :: lg, m, h => by
    show ((replay (putM m p.1 p.2) lg).map Prod.fst).Nodup
    exact nodup_replay lg (nodup_put h _ _).1
theorem trim_image2 {m : List (Int × ByteArray)} {bl : List ByteArray} (hnd : (m.map Prod.fst).Nodup) (hm : InDisk m) (h : BlkOk m bl) : trimB bl = imageL m := by
  have ht : topB bl bl.length = (topM m).toNat := by
    have h0 := topM_nonneg m
    have h1 : topM m ≤ (topB bl bl.length : Int) := topM_le (by omega) fun p hp hs => by
      have hb := hm p hp
      have hl := lookM_of_mem hnd hp
      have := topB_ge bl bl.length p.1.toNat (by rw [h.1]; omega) (by rw [h.2 _ (by omega), show ((p.1.toNat : Nat) : Int) = p.1 by omega, hl]; exact hs)
      omega
    have h2 : (topB bl bl.length : Int) ≤ topM m := by
      rcases topB_at bl bl.length with h3 | ⟨i, h3, h4⟩
      · omega
      · have hi : i < 2048 := by have := topB_le bl bl.length; have := h.1; omega
        rw [h.2 i hi] at h4
        cases hl : lookM m (i : Int) with
        | none => rw [hl] at h4; exact absurd rfl h4
        | some s => rw [hl] at h4; have := le_topM (lookM_mem hl) h4; simp only at this; omega
    omega
  apply List.ext_getElem?
  intro i
  have htm := topM_small hm
  unfold trimB imageL
  rw [ht, List.getElem?_take, List.getElem?_map]
  by_cases hi : i < (topM m).toNat
  · rw [if_pos hi, h.2 i (by omega), List.getElem?_range hi]; rfl
  · rw [if_neg hi, List.getElem?_eq_none (by rw [List.length_range]; omega)]; rfl
theorem blk_blank : BlkOk [] (blank 2048) := ⟨List.length_replicate .., fun i hi => by rw [List.getElem?_replicate, if_pos hi]; rfl⟩
/-- The image is what stands in the blocks, no blank one at the end. -/
theorem img_cont {a : DA} (h : LogOk a.lg) : imgA [] a = trimB (cont a.lg) :=
  (trim_image2 (nodup_replay a.lg (by simp)) (inDisk_replay h (fun p hp => by cases hp)) (blk_replay h blk_blank)).symm
/-- What stands ahead of blanks, none at its end. -/
theorem topB_blank (B : List ByteArray) : ∀ n, topB (B ++ blank n) (B.length + n) = topB (B ++ blank n) B.length
  | 0 => rfl
  | n + 1 => by
    have key : ∀ m k, k ≤ n + 1 → m = B.length + k → topB (B ++ blank (n + 1)) m = topB (B ++ blank (n + 1)) B.length := by
      intro m k
      induction k generalizing m with
      | zero => intro _ h; rw [h]; rfl
      | succ k ih =>
        intro hk h
        subst h
        show topB _ (B.length + k + 1) = _
        unfold topB
        rw [if_pos (by rw [List.getElem?_append_right (by omega), List.getElem?_replicate, if_pos (by omega)]; rfl)]
        exact (ih _ (by omega) rfl).trans (by rw [topB.eq_def])
    exact key _ (n + 1) (Nat.le_refl _) rfl
theorem topB_pre (B C : List ByteArray) : ∀ n, n ≤ B.length → topB (B ++ C) n = topB B n
  | 0, _ => rfl
  | n + 1, h => by
    unfold topB
    rw [List.getElem?_append_left (by omega), topB_pre B C n (by omega)]
theorem trim_blank (B : List ByteArray) (n : Nat) : trimB (B ++ blank n) = trimB B := by
  unfold trimB
  rw [List.length_append, List.length_replicate, topB_blank, topB_pre _ _ _ (Nat.le_refl _), List.take_append_of_le_length (topB_le _ _)]
theorem trim_full {B : List ByteArray} (h : ∀ s ∈ B, s.size ≠ 0) : trimB B = B := by
  unfold trimB
  cases hl : B.length with
  | zero => rw [List.eq_nil_of_length_eq_zero hl]; rfl
  | succ n =>
    have : topB B (n + 1) = n + 1 := by
      have h1 := topB_ge B (n + 1) n (by omega) (by rw [List.getElem?_eq_getElem (by omega)]; exact h _ (List.getElem_mem _))
      have h2 := topB_le B (n + 1)
      omega
    rw [this, List.take_of_length_le (by omega)]
/-- Blocks and their places. -/
def idxL : Nat → List ByteArray → List (Int × ByteArray)
  | _, [] => []
  | e, b :: L => ((e : Int), b) :: idxL (e + 1) L
theorem idxL_length : ∀ (e : Nat) (L : List ByteArray), (idxL e L).length = L.length
  | _, [] => rfl
  | e, b :: L => by simp [idxL, idxL_length (e + 1) L]
theorem idxL_append : ∀ (e : Nat) (L M : List ByteArray), idxL e (L ++ M) = idxL e L ++ idxL (e + L.length) M
  | _, [], _ => by simp [idxL]
  | e, b :: L, M => by simp only [List.cons_append, idxL, idxL_append (e + 1) L M, List.length_cons]; rw [show e + 1 + L.length = e + (L.length + 1) by omega]
theorem idxL_take : ∀ (e : Nat) (L : List ByteArray) (n : Nat), (idxL e L).take n = idxL e (L.take n)
  | _, [], n => by simp [idxL]
  | e, b :: L, 0 => by simp [idxL]
  | e, b :: L, n + 1 => by simp [idxL, idxL_take (e + 1) L n]
theorem setAll_idx : ∀ (L P Q : List ByteArray) (R : List ByteArray), R.length = L.length → setAll (P ++ (R ++ Q)) (idxL P.length L) = P ++ (L ++ Q)
  | [], P, Q, R, h => by
    have : R = [] := List.eq_nil_of_length_eq_zero h
    subst this; rfl
  | b :: L, P, Q, [], h => by simp at h
  | b :: L, P, Q, r :: R, h => by
    show setAll ((P ++ (r :: R ++ Q)).set ((P.length : Int)).toNat b) (idxL (P.length + 1) L) = _
    rw [Int.toNat_natCast, List.set_append_right _ _ (Nat.le_refl _), Nat.sub_self, List.cons_append, List.set_cons_zero]
    have := setAll_idx L (P ++ [b]) Q R (by simpa using h)
    rw [List.length_append] at this
    simp only [List.append_assoc, List.singleton_append, List.length_singleton] at this
    rw [this]; rfl
/-- Writing on behind what stands. -/
theorem cont_idx {lg : List (Int × ByteArray)} {R : List ByteArray} {n : Nat} (h : cont lg = R ++ blank n) (L : List ByteArray) (hL : L.length ≤ n) : cont (lg ++ idxL R.length L) = (R ++ L) ++ blank (n - L.length) := by
  unfold cont at *
  rw [setAll_append, h, show blank n = blank L.length ++ blank (n - L.length) by rw [List.replicate_append_replicate]; congr 1; omega, setAll_idx L R _ _ (by rw [List.length_replicate]), List.append_assoc]
theorem idxL_ok : ∀ (e : Nat) (L : List ByteArray), e + L.length ≤ 2048 → (∀ b ∈ L, b.size ≤ 32) → LogOk (idxL e L)
  | _, [], _, _ => fun p hp => by cases hp
  | e, b :: L, h, hb => fun p hp => by
    rcases List.mem_cons.1 hp with rfl | hp
    · simp at h; exact ⟨by dsimp only; omega, by dsimp only; omega, hb b (by simp)⟩
    · exact idxL_ok (e + 1) L (by simp at h; omega) (fun b hb2 => hb b (by simp [hb2])) p hp
/-- Writing with all the power. -/
theorem wrAll_full : ∀ (L : List ByteArray) (e : Nat) (a : DA), a.on = true → a.l ≤ 0 → e + L.length ≤ 2048 → (∀ b ∈ L, b.size ≤ 32) → wrAll L e a = (⟨a.lg ++ idxL e L, true, a.l⟩, true)
  | [], e, a, ho, _, _, _ => by
    obtain ⟨lg, on, l⟩ := a
    dsimp only at ho; subst ho; simp [wrAll, idxL]
  | b :: L, e, a, ho, hl, he, hb => by
    have hc : wcode a.on (e : Int) b = 0 := (wcode_in (by omega) (by simp at he; omega) (hb b (by simp))).2 ho
    rw [wrAll, if_pos hc, DA.wr_yes hc]
    have e1 : wOn a.l = true := if_neg (by omega)
    have e2 : wLeft a.l = a.l := if_neg (by omega)
    have ih := wrAll_full L (e + 1) ⟨a.lg ++ [((e : Int), b)], true, a.l⟩ rfl hl (by simp at he; omega) (fun b hb2 => hb b (by simp [hb2]))
    rw [e1, e2, ih]
    simp [idxL]
end Go.Proofs.Ytgodkfaacjllcaa

/- A disk that bears records and nothing else: opening it, appending to it. -/
namespace Go.Proofs.Ytgodkfaacjllcaa
set_option linter.unusedVariables false
set_option linter.unusedSimpArgs false
set_option maxRecDepth 100000
open SL Go.RowKit Go.Maps

theorem fr_size {k : Nat} {s : ByteArray} (hc : Can ((k : Int) + 1) s) : ∀ b ∈ fr k s, b.size = 32 := by
  intro b hb
  rw [fr_pieces] at hb
  obtain ⟨p, hp, rfl⟩ := List.mem_map.1 hb
  exact (blk_unb (can_right hc p hp)).1.1
/-- Payloads that may stand on a disk. -/
structure Fit (l : List ByteArray) : Prop where
  small : ∀ s ∈ l, s.size ≤ 5865
  room : (blocksOf 0 l).length ≤ 2048
theorem fr_pos {k : Nat} {s : ByteArray} (hc : Can ((k : Int) + 1) s) : 1 ≤ (fr k s).length ∧ (fr k s).length ≤ 255 ∧ ((fr k s).length : Int) = partsI s.size ∧ ∀ b ∈ fr k s, b.size ≤ 32 := by
  obtain ⟨_, h2, h3, h4, h5⟩ := pack_facts hc
  exact ⟨h4, h3, h2, h5⟩
theorem blocksOf_len : ∀ (l : List ByteArray) (k : Nat), (∀ s ∈ l, s.size ≤ 5865) → k + l.length ≤ 65535 → l.length ≤ (blocksOf k l).length
  | [], _, _, _ => Nat.le_refl _
  | s :: l, k, h, hk => by
    simp only [List.length_cons] at hk
    have h1 := (fr_pos (k := k) (s := s) ⟨by omega, by omega, h s (by simp)⟩).1
    have := blocksOf_len l (k + 1) (fun s hs => h s (by simp [hs])) (by omega)
    simp only [blocksOf, List.length_append, List.length_cons]
    omega
theorem blocksOf_snoc : ∀ (l : List ByteArray) (k : Nat) (s : ByteArray), blocksOf k (l ++ [s]) = blocksOf k l ++ fr (k + l.length) s
  | [], k, s => by simp [blocksOf]
  | x :: l, k, s => by
    simp only [List.cons_append, blocksOf, blocksOf_snoc l (k + 1) s, List.append_assoc, List.length_cons]
    rw [show k + 1 + l.length = k + (l.length + 1) by omega]
theorem blocksOf_size : ∀ (l : List ByteArray) (k : Nat), (∀ s ∈ l, s.size ≤ 5865) → k + l.length ≤ 65535 → ∀ b ∈ blocksOf k l, b.size = 32
  | [], _, _, _, b, hb => by cases hb
  | s :: l, k, h, hk, b, hb => by
    simp only [List.length_cons] at hk
    rcases List.mem_append.1 hb with hb | hb
    · exact fr_size ⟨by omega, by omega, h s (by simp)⟩ b hb
    · exact blocksOf_size l (k + 1) (fun s hs => h s (by simp [hs])) (by omega) b hb
/-- There are no more records than blocks: by steps. -/
theorem Fit.count : ∀ {l : List ByteArray}, Fit l → l.length ≤ 2048 := by
  intro l h
  have key : ∀ n, n ≤ l.length → n ≤ 2048 := by
    intro n
    induction n with
    | zero => intro _; omega
    | succ n ih =>
      intro hn
      have hn2 := ih (by omega)
      have h1 : (l.take (n + 1)).length = n + 1 := by rw [List.length_take]; omega
      have h2 := blocksOf_len (l.take (n + 1)) 0 (fun s hs => h.small s (List.mem_of_mem_take hs)) (by omega)
      have h3 : (blocksOf 0 (l.take (n + 1))).length ≤ (blocksOf 0 l).length := by
        have : ∀ (a b : List ByteArray) (k : Nat), (blocksOf k a).length ≤ (blocksOf k (a ++ b)).length := by
          intro a
          induction a with
          | nil => intro b k; simp [blocksOf]
          | cons x a ih2 => intro b k; simp only [List.cons_append, blocksOf, List.length_append]; have := ih2 b (k + 1); omega
        have h4 := this (l.take (n + 1)) (l.drop (n + 1)) 0
        rwa [List.take_append_drop] at h4
      have := h.room
      omega
  exact key _ (Nat.le_refl _)
theorem Fit.blank {l : List ByteArray} (h : Fit l) : ∀ b ∈ blocksOf 0 l, b.size ≠ 0 := fun b hb => by
  have := blocksOf_size l 0 h.small (by have := h.count; omega) b hb
  omega
/-- The image of a disk that bears records, and blocks of another one that aren't all. -/
theorem due_none {im R t : List ByteArray} {k : Nat} {s : ByteArray} (hc : Can ((k : Int) + 1) s) (him : im = R ++ t) (htl : t.length ≤ (fr k s).length) (hti : ∀ i, ∀ h : i < t.length, (t[i]).size = 0 ∨ some t[i] = (fr k s)[i]?) (hne : t ≠ fr k s) :
    dueR im R.length ((k : Int) + 1) = none :=
  due_tail (t := t) hc (by rw [him, List.length_append]) (fun i hi => by rw [him, List.getElem?_append_right (by omega), show R.length + i - R.length = i by omega]) htl hti hne
theorem scan_tail {R t : List ByteArray} {l : List ByteArray} {s : ByteArray} (hf : Fit l) (hR : R = blocksOf 0 l) (hs : s.size ≤ 5865) (htl : t.length ≤ (fr l.length s).length) (hti : ∀ i, ∀ h : i < t.length, (t[i]).size = 0 ∨ some t[i] = (fr l.length s)[i]?) (hne : t ≠ fr l.length s) :
    scanP (R ++ t) = l ∧ scanE (R ++ t) = R.length := by
  have hcount := hf.count
  subst hR
  exact scan_blocks (by omega) hf.small (fun i hi => List.getElem?_append_left hi) (due_none ⟨by omega, by omega, hs⟩ rfl htl hti hne)
theorem img_blank {a : DA} {R t : List ByteArray} {n : Nat} (hlo : LogOk a.lg) (h : cont a.lg = R ++ (t ++ blank n)) (hR : ∀ b ∈ R, b.size ≠ 0) : imgA [] a = R ++ trimB t := by
  rw [img_cont hlo, h, ← List.append_assoc, trim_blank]
  unfold trimB
  have key : ∀ m, topB (R ++ t) (R.length + m) = if topB t m = 0 then R.length else R.length + topB t m := by
    intro m
    induction m with
    | zero =>
      show topB (R ++ t) R.length = _
      rw [topB_pre _ _ _ (Nat.le_refl _)]
      have := congrArg List.length (trim_full hR)
      unfold trimB at this
      rw [List.length_take] at this
      have := topB_le R R.length
      simp [topB]; omega
    | succ m ih =>
      show topB (R ++ t) (R.length + m + 1) = _
      unfold topB
      rw [List.getElem?_append_right (by omega), show R.length + m - R.length = m by omega]
      split
      · exact ih
      · simp; omega
  rw [List.length_append, key]
  split
  · rename_i h0; rw [h0, List.take_zero, List.append_nil, List.take_append_of_le_length (Nat.le_refl _), List.take_length]
  · rw [List.take_append, List.take_of_length_le (by omega), show R.length + topB t t.length - R.length = topB t t.length by omega]
theorem open_clean {a : DA} {l : List ByteArray} {n : Nat} (hf : Fit l) (hon : a.on = true) (hlo : LogOk a.lg) (h : cont a.lg = blocksOf 0 l ++ blank n) : openA [] a = (a, some (l, (blocksOf 0 l).length)) := by
  have him : imgA [] a = blocksOf 0 l := by
    have := img_blank (t := []) hlo (by simpa using h) hf.blank
    simpa [trimB, topB] using this
  have hcount := hf.count
  have hc : Can ((l.length : Int) + 1) nul := ⟨by omega, by omega, by decide⟩
  have hsc := scan_tail (t := []) (s := nul) hf rfl (by decide) (Nat.zero_le _) (fun i hi => by simp at hi) (fun e => by have := (fr_pos hc).1; rw [← e] at this; simp at this)
  rw [List.append_nil] at hsc
  unfold openA
  rw [if_neg (by rw [hon]; simp)]
  unfold wipeA
  rw [him, hsc.1, hsc.2, List.drop_of_length_le (Nat.le_refl _), wipeL, if_neg (by rw [hon]; simp)]
/-- Appending with all the power. -/
theorem append_full {a : DA} {l : List ByteArray} {n : Nat} (hf : Fit l) (hon : a.on = true) (hl : a.l ≤ 0) (h : cont a.lg = blocksOf 0 l ++ blank n) (s : ByteArray) :
    (s.size > 5865 ∧ appendA a ⟨l.length, (blocksOf 0 l).length, false⟩ s = (a, ⟨l.length, (blocksOf 0 l).length, false⟩, 9)) ∨
    (s.size ≤ 5865 ∧ appendA a ⟨l.length, (blocksOf 0 l).length, false⟩ s = (a, ⟨l.length, (blocksOf 0 l).length, false⟩, 10)) ∨
    (s.size ≤ 5865 ∧ Fit (l ++ [s]) ∧ appendA a ⟨l.length, (blocksOf 0 l).length, false⟩ s = (⟨a.lg ++ idxL (blocksOf 0 l).length (fr l.length s), true, a.l⟩, ⟨(l ++ [s]).length, (blocksOf 0 (l ++ [s])).length, false⟩, 0) ∧ (fr l.length s).length ≤ n ∧ ((fr l.length s).length : Int) = partsI s.size ∧
      cont (a.lg ++ idxL (blocksOf 0 l).length (fr l.length s)) = blocksOf 0 (l ++ [s]) ++ blank (n - (fr l.length s).length)) := by
  have hcount := hf.count
  have hn : (blocksOf 0 l).length + n = 2048 := by have := congrArg List.length h; rw [cont_length, List.length_append, List.length_replicate] at this; omega
  have hA : appendA a ⟨l.length, (blocksOf 0 l).length, false⟩ s = if s.size > 5865 then (a, ⟨l.length, (blocksOf 0 l).length, false⟩, 9) else if partsI s.size > 2048 - ((blocksOf 0 l).length : Int) ∨ l.length = 65535 then (a, ⟨l.length, (blocksOf 0 l).length, false⟩, 10) else
      if (wrAll (packF ((l.length : Int) + 1) s).1 (blocksOf 0 l).length a).1.on = false then ((wrAll (packF ((l.length : Int) + 1) s).1 (blocksOf 0 l).length a).1, ⟨l.length, (blocksOf 0 l).length, true⟩, 11) else ((wrAll (packF ((l.length : Int) + 1) s).1 (blocksOf 0 l).length a).1, ⟨l.length + 1, (blocksOf 0 l).length + (partsI s.size).toNat, false⟩, 0) := by
    unfold appendA
    rw [if_neg (by rw [hon]; simp)]
  rw [hA]
  by_cases hbig : s.size > 5865
  · rw [if_pos hbig]; exact .inl ⟨hbig, rfl⟩
  · rw [if_neg hbig]
    have hc : Can ((l.length : Int) + 1) s := ⟨by omega, by omega, by omega⟩
    obtain ⟨p1, p2, p3, p4⟩ := fr_pos hc
    by_cases hfull : partsI s.size > 2048 - ((blocksOf 0 l).length : Int) ∨ l.length = 65535
    · rw [if_pos hfull]; exact .inr (.inl ⟨by omega, rfl⟩)
    · rw [if_neg hfull]
      have hroom : (blocksOf 0 l).length + (fr l.length s).length ≤ 2048 := by omega
      have hw := wrAll_full (fr l.length s) (blocksOf 0 l).length a hon hl hroom p4
      rw [show (packF ((l.length : Int) + 1) s).1 = fr l.length s from rfl, hw]
      have hsn : blocksOf 0 (l ++ [s]) = blocksOf 0 l ++ fr l.length s := by rw [blocksOf_snoc, Nat.zero_add]
      refine .inr (.inr ⟨by omega, ⟨fun x hx => ?_, by rw [hsn, List.length_append]; exact hroom⟩, ?_, by omega, p3, ?_⟩)
      · rcases List.mem_append.1 hx with hx | hx
        · exact hf.small x hx
        · rw [List.mem_singleton] at hx; subst hx; omega
      · rw [if_neg (by simp), hsn, List.length_append, List.length_append, ← p3, Int.toNat_natCast]; rfl
      · rw [hsn, cont_idx h _ (by omega)]
end Go.Proofs.Ytgodkfaacjllcaa

/- The journal lives; scans. -/
namespace Go.Proofs.Ytgodkfaacjllcaa
set_option linter.unusedVariables false
set_option linter.unusedSimpArgs false
set_option maxRecDepth 100000
open SL Go.RowKit Go.Maps

theorem count_ok (F : Mem) (j d : Nat) (J : JA) : FT Try.prog 19 [.pointer (some ⟨j, 0, none⟩)].toArray F [jCell j d J] (fun e H => e = .returned (.int .i64 (J.n : Int)) ∧ H = [jCell j d J]) := by
  refine FT.of_body Try.func19 rfl Try.ntmps19 (by simp) fun C hC => ?_
  subst hC
  conv => whnf
  refine LoadV.s rfl rfl ?_
  conv => whnf
  repeat (first | (refine LoadV.s rfl rfl (forceV_of ?_); conv => whnf) | (refine LoadV.s rfl rfl ?_; conv => whnf) | (refine StoreV.c rfl rfl (Nat.le_of_ble_eq_true rfl) rfl ?_; conv => whnf) | (refine LoadV.a _ rfl (Nat.le_of_ble_eq_true rfl) ?_; conv => whnf) | (refine DrawI.quiet (by kernel_rfl) (by kernel_rfl) ?_; conv => whnf) | (refine ArI.in64 (by omega) ?_; conv => whnf) | (refine ArI.inU8 (by omega) ?_; conv => whnf) | (refine ArI.inU64 (by omega) ?_; conv => whnf) | (refine ArI.inU32 (by omega) ?_; conv => whnf) | (refine RetI.one Try.results19 rfl ?_; conv => whnf) | (refine RetI.two Try.results19 rfl rfl ?_; conv => whnf) | (refine RetI.three Try.results19 rfl rfl rfl ?_; conv => whnf) | (refine RetI.none Try.results19 ?_; conv => whnf) | (refine ⟨by first | decide | omega, ?_⟩; conv => whnf))
  exact ⟨_, Sub.refl _, rfl, rfl⟩
theorem end_ok (F : Mem) (j d : Nat) (J : JA) : FT Try.prog 18 [.pointer (some ⟨j, 0, none⟩)].toArray F [jCell j d J] (fun e H => e = .returned (.int .i64 (J.e : Int)) ∧ H = [jCell j d J]) := by
  refine FT.of_body Try.func18 rfl Try.ntmps18 (by simp) fun C hC => ?_
  subst hC
  conv => whnf
  refine LoadV.s rfl rfl ?_
  conv => whnf
  repeat (first | (refine LoadV.s rfl rfl (forceV_of ?_); conv => whnf) | (refine LoadV.s rfl rfl ?_; conv => whnf) | (refine StoreV.c rfl rfl (Nat.le_of_ble_eq_true rfl) rfl ?_; conv => whnf) | (refine LoadV.a _ rfl (Nat.le_of_ble_eq_true rfl) ?_; conv => whnf) | (refine DrawI.quiet (by kernel_rfl) (by kernel_rfl) ?_; conv => whnf) | (refine ArI.in64 (by omega) ?_; conv => whnf) | (refine ArI.inU8 (by omega) ?_; conv => whnf) | (refine ArI.inU64 (by omega) ?_; conv => whnf) | (refine ArI.inU32 (by omega) ?_; conv => whnf) | (refine RetI.one Try.results18 rfl ?_; conv => whnf) | (refine RetI.two Try.results18 rfl rfl ?_; conv => whnf) | (refine RetI.three Try.results18 rfl rfl rfl ?_; conv => whnf) | (refine RetI.none Try.results18 ?_; conv => whnf) | (refine ⟨by first | decide | omega, ?_⟩; conv => whnf))
  exact ⟨_, Sub.refl _, rfl, rfl⟩
/-- A new disk, in short. -/
abbrev newA : DA := ⟨[], true, -1⟩
abbrev newS : JS := ⟨#[], 0, none, newA⟩
theorem newS_ok : JOk #[] 0 [] newS := ⟨MapOk.empty, MapOk.empty, (fun p hp => by cases hp), (fun p hp => by cases hp), (fun p hp => by cases hp), by simp, by decide⟩
theorem fit_nil : Fit [] := ⟨(fun s hs => by cases hs), by simp [blocksOf]⟩
theorem cont_nil : cont newA.lg = blocksOf 0 [] ++ blank 2048 := rfl
theorem open_new : openA [] newA = (newA, some ([], 0)) := open_clean fit_nil rfl (fun p hp => by cases hp) cont_nil
theorem size_one : (⟨#[97]⟩ : ByteArray).size = 1 := rfl
theorem lives07_ok (F : Mem) : FT Try.prog 7 [].toArray F [] (Ret (.bool true)) := by
  obtain ⟨x, hx⟩ : ∃ x : ByteArray, x = ⟨#[97]⟩ := ⟨_, rfl⟩
  have hsz : x.size = 1 := by rw [hx]; rfl
  have hap := append_full fit_nil (a := newA) (n := 2048) rfl (by decide) cont_nil x
  have hp1 : partsI 1 = 1 := by decide
  have hc : Can (((0 : Nat) : Int) + 1) x := ⟨by decide, by decide, by rw [hsz]; decide⟩
  obtain ⟨_, _, p3, p4⟩ := fr_pos hc
  rw [hsz] at p3
  rw [show ((1 : Nat) : Int) = 1 from rfl, hp1] at p3
  have p5 : (fr 0 x).length = 1 := by omega
  have hbl : (blocksOf 0 [x]).length = 1 := by simp [blocksOf, p5]
  obtain ⟨hfx, hax, hcx⟩ : Fit [x] ∧ appendA newA ⟨0, 0, false⟩ x = (⟨idxL 0 (fr 0 x), true, -1⟩, ⟨1, 1, false⟩, 0) ∧ cont (idxL 0 (fr 0 x)) = blocksOf 0 [x] ++ blank 2047 := by
    rcases hap with ⟨h, _⟩ | ⟨_, h⟩ | ⟨_, h1, h2, _, _, h3⟩
    · omega
    · exfalso
      have h0 : appendA newA ⟨0, 0, false⟩ x = (if partsI x.size > 2048 - ((0 : Nat) : Int) ∨ (0 : Nat) = 65535 then (newA, ⟨0, 0, false⟩, 10) else
          if (wrAll (packF (((0 : Nat) : Int) + 1) x).1 0 newA).1.on = false then ((wrAll (packF (((0 : Nat) : Int) + 1) x).1 0 newA).1, ⟨0, 0, true⟩, 11) else ((wrAll (packF (((0 : Nat) : Int) + 1) x).1 0 newA).1, ⟨0 + 1, 0 + (partsI x.size).toNat, false⟩, 0)) := by
        unfold appendA
        rw [if_neg (by simp), if_neg (by omega)]
      have h4 : appendA newA ⟨0, 0, false⟩ x = (newA, ⟨0, 0, false⟩, 10) := h
      rw [h0, hsz, if_neg (by decide)] at h4
      split at h4
      · exact absurd (congrArg (fun y => y.2.2) h4) (by show ¬ ((11 : Int) = 10); decide)
      · exact absurd (congrArg (fun y => y.2.2) h4) (by show ¬ ((0 : Int) = 10); decide)
    · refine ⟨h1, ?_, ?_⟩
      · have h4 : appendA newA ⟨0, 0, false⟩ x = _ := h2
        rw [h4]
        simp [hbl]
        rfl
      · have h5 : cont (idxL 0 (fr 0 x)) = blocksOf 0 [x] ++ blank (2048 - (fr 0 x).length) := h3
        rw [h5, p5]
  have hlo : LogOk (idxL 0 (fr 0 x)) := idxL_ok 0 _ (by omega) p4
  have hop := open_clean (a := ⟨idxL 0 (fr 0 x), true, -1⟩) hfx rfl hlo hcx
  rw [hbl] at hop
  have hll : (idxL 0 (fr 0 x)).length = 1 := by rw [idxL_length, p5]
  generalize idxL 0 (fr 0 x) = lg at *
  clear hap hcx hlo
  refine FT.of_body Try.func7 rfl Try.ntmps7 (by simp) fun C hC => ?_
  subst hC
  conv => whnf
  rw [← hx]
  refine CallS.mk Try.call11 ⟨[], _, _, Sub.refl _, fun F' hF' => new_ok F', ?_⟩
  rintro e A' ⟨d, r, rb, rfl, rfl⟩
  conv => whnf
  refine CallS.mk Try.call12 ⟨[_, _, _, _], _, _, Sub.split [0, 1, 2, 3] rfl, fun F' hF' => open_ok F' d r rb #[] 0 [] newS newS_ok (show Room 0 2048 by unfold Room; omega), ?_⟩
  rintro e A' ⟨y, Y, hy, hO⟩
  rw [open_new] at hy hO
  rcases hO with ⟨h, -, -⟩ | ⟨pl, en, j, g, h, _, hg, _, rfl, rfl⟩
  · cases h
  obtain ⟨rfl, rfl⟩ := Prod.mk.inj (Option.some.inj h)
  dsimp only at hy
  conv => whnf
  have hao := fun F' => append_ok F' j d r rb #[] 0 [] y Y ⟨0, 0, false⟩ (by decide) (by decide) x (by omega) (by rw [hy]; show Room 0 256; unfold Room; omega)
  simp only [hy, hax] at hao
  refine CallS.mk Try.call15 ⟨[_, _, _, _, _], _, _, Sub.split [0, 2, 3, 4, 5] rfl, fun F' hF' => hao F', ?_⟩
  rintro e A' ⟨z, Z, hz, rfl, rfl⟩
  conv => whnf
  refine CallS.mk Try.call19 ⟨[_], _, _, Sub.split [0] rfl, fun F' hF' => count_ok F' j d ⟨1, 1, false⟩, ?_⟩
  rintro e A' ⟨rfl, rfl⟩
  conv => whnf
  refine CallS.mk Try.call18 ⟨[_], _, _, Sub.split [0] rfl, fun F' hF' => end_ok F' j d ⟨1, 1, false⟩, ?_⟩
  rintro e A' ⟨rfl, rfl⟩
  conv => whnf
  have hoo := fun F' => open_ok F' d r rb #[] 0 [] z Z (by rw [hz]; show Room lg.length 2048; rw [hll]; unfold Room; omega)
  rw [hz] at hoo
  refine CallS.mk Try.call12 ⟨[_, _, _, _], _, _, Sub.split [1, 2, 3, 4] rfl, fun F' hF' => hoo F', ?_⟩
  rintro e A' ⟨u, U, hu, hO⟩
  rw [hop] at hu hO
  rcases hO with ⟨h, -, -⟩ | ⟨pl, en, k, g2, h, _, hg2, _, rfl, rfl⟩
  · cases h
  obtain ⟨rfl, rfl⟩ := Prod.mk.inj (Option.some.inj h)
  conv => whnf
  intro bl
  conv => whnf
  refine CallS.mk Try.call10 ⟨[], _, _, Sub.refl _, fun F' hF' => same_ok F' (oaOf g2) (some ⟨bl, 0, none⟩) (capOf g2) 1 [x] [x] (SlF.sv hF' (T := 9) rfl (fun e => by cases hg2.1 e)) (SlF.cells hF' rfl) (by simp), ?_⟩
  rw [show decide ([x] = [x]) = true from decide_eq_true rfl]
  rintro e A' ⟨rfl, rfl⟩
  conv => whnf
  repeat (first | (refine LoadV.s rfl rfl (forceV_of ?_); conv => whnf) | (refine LoadV.s rfl rfl ?_; conv => whnf) | (refine StoreV.c rfl rfl (Nat.le_of_ble_eq_true rfl) rfl ?_; conv => whnf) | (refine LoadV.a _ rfl (Nat.le_of_ble_eq_true rfl) ?_; conv => whnf) | (refine DrawI.quiet (by kernel_rfl) (by kernel_rfl) ?_; conv => whnf) | (refine ArI.in64 (by omega) ?_; conv => whnf) | (refine ArI.inU8 (by omega) ?_; conv => whnf) | (refine ArI.inU64 (by omega) ?_; conv => whnf) | (refine ArI.inU32 (by omega) ?_; conv => whnf) | (refine RetI.one Try.results7 rfl ?_; conv => whnf) | (refine RetI.two Try.results7 rfl rfl ?_; conv => whnf) | (refine RetI.three Try.results7 rfl rfl rfl ?_; conv => whnf) | (refine RetI.none Try.results7 ?_; conv => whnf) | (refine ⟨by first | decide | omega, ?_⟩; conv => whnf))
  exact ⟨_, Sub.sel [] rfl, rfl, rfl⟩
end Go.Proofs.Ytgodkfaacjllcaa

/- The law of scans, as a contract. -/
namespace Go.Proofs.Ytgodkfaacjllcaa
set_option linter.unusedVariables false
set_option linter.unusedSimpArgs false
set_option maxRecDepth 100000
open SL Go.RowKit Go.Maps

theorem strs_put (L : List ByteArray) (i : Nat) (y : ByteArray) (h : i < L.length) : putAt (strs L) i [.string y] = strs (L.set i y) := by
  rw [List.set_eq_take_append_cons_drop, if_pos h]; simp [putAt]
/-- Two lists of texts that are alike. -/
theorem same_ownS {F F' : Mem} {B : Heap} (hF' : Ext F B F') (g1 g2 : Option (Nat × Nat)) (L : List ByteArray) (h1 : g1 = none ↔ L = []) (h2 : g2 = none ↔ L = []) (hn : L.length ≤ 9223372036854775807) {G1 G2 : HObj → Heap}
    [o1 : OwnHole B (svOf g1 L.length) L.length 9 1 (strs L) G1] [o2 : OwnHole B (svOf g2 L.length) L.length 9 1 (strs L) G2] :
    FT Try.prog 10 [svOf g1 L.length, svOf g2 L.length].toArray F' [] (Ret (.bool true)) := by
  have := same_ok F' (oaOf g1) (oaOf g2) (capOf g1) (capOf g2) L L (SlF.sv hF' (ho := o1) (by simp) (fun e => by rw [h1.1 e]; rfl)) (SlF.sv hF' (ho := o2) (by simp) (fun e => by rw [h2.1 e]; rfl)) hn
  rwa [show decide (L = L) = true from decide_eq_true rfl] at this
set_option maxHeartbeats 1000000 in
theorem scans_ok (F : Mem) (oa : Option Addr) (ca : Nat) (im : List ByteArray) (hb : SlF F 1 oa im.length (strs im)) (hc : oa = none → ca = 0) (hsz : ∀ s ∈ im, s.size ≤ 9223372036854775807) (hn : im.length * 16 + 2048 ≤ 140737488355328) :
    FT Try.prog 3 [.slice oa im.length ca].toArray F [] (Ret (.bool true)) := by
  obtain ⟨sp, hsp⟩ : ∃ x : ByteArray, x = ⟨#[115, 112, 97, 114, 101]⟩ := ⟨_, rfl⟩
  have hslen := scanP_len im
  have hsc := fun (F' : Mem) (oa : Option Addr) (ca : Nat) (hb : SlF F' 1 oa im.length (strs im)) => scan_ok F' oa ca im hb hsz (by omega)
  have hrs := fun (F' : Mem) (oa : Option Addr) (ca : Nat) (hb : SlF F' 1 oa im.length (strs im)) => rscan_ok F' oa ca im hb hsz (by omega)
  unfold ScanA at hsc hrs
  generalize scanP im = L at *
  generalize scanE im = en at *
  refine FT.of_body Try.func3 rfl Try.ntmps3 (by simp) fun C hC => ?_
  subst hC
  conv => whnf
  rw [← hsp]
  refine CallS.mk Try.call7 ⟨[], _, _, Sub.refl _, fun F' hF' => lives07_ok F', ?_⟩
  rintro e A' ⟨rfl, rfl⟩
  conv => whnf
  intro b0
  conv => whnf
  refine BuiltV.sub (Sub.own (n := 0) (sz := 1) rfl (by decide)) ?_
  refine BuiltV.append_sv (g := some (b0, 0)) (n := 0) (sz := 1) Try.underlying22 rfl rfl rfl rfl (by decide) (Src.foreign hb hc) (by simp) (by simp [Value.oneCell']) (by show (0 + im.length) * 16 ≤ _; omega) (by omega) fun g hg => ?_
  obtain ⟨g0b, g0c, rfl⟩ : ∃ b c, g = some (b, c) := by
    cases g with
    | none => exact absurd (hg.1 rfl).1 (by simp)
    | some p => exact ⟨p.1, p.2, rfl⟩
  conv => whnf
  intro b1
  conv => whnf
  refine BuiltV.append (sv := svOf (some (g0b, g0c)) (0 + im.length)) (m := 1) Try.underlying22 rfl rfl rfl rfl (by decide) (Row.cells 1) rfl (by decide) rfl (by show (0 + im.length + 1) * 16 ≤ _; omega) (by omega) fun gb gc => ?_
  rw [show (([] : List Value) ++ strs im) ++ List.take 1 (List.drop 0 [Value.string sp]) = strs im ++ [.string sp] from rfl, Nat.zero_add]
  have hpre : (strs im ++ [Value.string sp]).take (im.length * 1) = strs im := by rw [Nat.mul_one, List.take_append_of_le_length (by simp), List.take_of_length_le (by simp)]
  conv => whnf
  refine CallS.mk Try.call8 ⟨[], _, _, Sub.refl _, fun F' hF' => hrs F' oa ca (hb.ext hF'.F), ?_⟩
  rintro e A' ⟨g2, hg2, rfl, rfl⟩
  conv => whnf
  refine DoV.slice_own Try.underlying22 rfl (by omega) (by omega) ?_
  conv => whnf
  refine CallS.mk Try.call9 ⟨[], _, _, Sub.refl _, fun F' hF' => hsc F' (some ⟨gb, 0, none⟩) gc (by have := SlF.own_pre (n := im.length) (sz := 1) (b := gb) hF' (by simp); rwa [hpre] at this), ?_⟩
  rintro e A' ⟨g1, hg1, rfl, rfl⟩
  conv => whnf
  refine DoV.slice_own Try.underlying22 rfl (by omega) (by omega) ?_
  conv => whnf
  refine CallS.mk Try.call9 ⟨[], _, _, Sub.refl _, fun F' hF' => hsc F' (some ⟨gb, 0, none⟩) gc (by have := SlF.own_pre (n := im.length) (sz := 1) (b := gb) hF' (by simp); rwa [hpre] at this), ?_⟩
  rintro e A' ⟨g3, hg3, rfl, rfl⟩
  conv => whnf
  refine cond_of_false (bne_self_eq_false _) ?_
  conv => whnf
  refine cond_of_false (bne_self_eq_false _) ?_
  conv => whnf
  refine CallS.mk Try.call10 ⟨[], _, _, Sub.refl _, fun F' hF' => same_ownS hF' g1 g2 L hg1 hg2 (by omega), ?_⟩
  rintro e A' ⟨rfl, rfl⟩
  conv => whnf
  refine CallS.mk Try.call10 ⟨[], _, _, Sub.refl _, fun F' hF' => same_ownS hF' g3 g2 L hg3 hg2 (by omega), ?_⟩
  rintro e A' ⟨rfl, rfl⟩
  conv => whnf
  refine DoV.slice_own Try.underlying22 rfl (by omega) (by omega) ?_
  conv => whnf
  refine CallS.mk Try.call10 ⟨[], _, _, Sub.refl _, fun F' hF' => same_ok F' (some ⟨gb, 0, none⟩) oa gc ca im im (by have := SlF.own_pre (n := im.length) (sz := 1) (b := gb) hF' (by simp); rwa [hpre] at this) (hb.ext hF'.F) (by omega), ?_⟩
  rw [show decide (im = im) = true from decide_eq_true rfl]
  rintro e A' ⟨rfl, rfl⟩
  conv => whnf
  refine ⟨by omega, ?_⟩
  conv => whnf
  rw [elemOff_nat]
  rotate_left
  · kernel_rfl
  rw [Nat.zero_add]
  refine LoadV.os rfl (v := .string sp) (by simp) ?_
  conv => whnf
  rw [show (sp.toList == sp.toList) = true from beq_self_eq_true _]
  conv => whnf
  refine LoopI.by_state (σ := Nat × List ByteArray) (fun x => [(6, svOf g1 L.length), (8, svOf g3 L.length), (4, svOf g2 L.length), (76, svOf g1 L.length), (77, .int .i64 (L.length : Int)), (78, .int .i64 (x.1 : Int))])
    (fun x => [.own (svOf g1 L.length) L.length 9 1 (strs x.2), ownS g3 L, ownS g2 L])
    (fun x => x.1 ≤ L.length ∧ x.2.length = L.length) (fun x => L.length - x.1) (0, L) ⟨Nat.zero_le _, rfl⟩ ⟨rfl, rfl, rfl, rfl, rfl, rfl, trivial⟩ (Sub.sel [1, 0, 2] rfl) ?_
  rintro ⟨i, Q⟩ f1 ⟨hi2, hQ⟩
  dsimp only at hi2 hQ ⊢
  conv => whnf
  refine cond_dec (fun h2 => ?_) (fun h2 => ?_)
  · have hil : i < Q.length := by omega
    obtain ⟨xb, xc, rfl⟩ := gsome hg1 (by intro e; rw [e] at hQ; simp only [List.length_nil] at hQ; omega)
    conv => whnf
    refine ⟨by omega, ?_⟩
    conv => whnf
    rw [elemOff_nat]
    rotate_left
    · kernel_rfl
    rw [Nat.zero_add]
    refine StoreV.os (l := strs Q) rfl rfl (by show i + 1 ≤ _; simp; omega) rfl ?_
    rw [show (Value.string ⟨#[109, 97, 114, 107]⟩).cells.toList = [.string ⟨#[109, 97, 114, 107]⟩] from rfl, strs_put Q i _ hil]
    conv => whnf
    refine ArI.to64 ((i + 1 : Nat) : Int) (by omega) (by omega) ?_
    conv => whnf
    exact ⟨(i + 1, Q.set i ⟨#[109, 97, 114, 107]⟩), _, by dsimp only; omega, Sub.refl _, ⟨by dsimp only; omega, by simp [hQ]⟩, ⟨rfl, rfl, rfl, rfl, rfl, rfl, trivial⟩, rfl⟩
  · conv => whnf
    intro b3
    conv => whnf
    refine BuiltV.append (sv := svOf g1 L.length) (m := 1) Try.underlying22 rfl rfl rfl rfl (by decide) (Row.cells 1) rfl (by decide) rfl (by show (L.length + 1) * 16 ≤ _; omega) (by omega) fun gb4 gc4 => ?_
    conv => whnf
    refine CallS.mk Try.call10 ⟨[], _, _, Sub.refl _, fun F' hF' => same_ownS hF' g3 g2 L hg3 hg2 (by omega), ?_⟩
    rintro e A' ⟨rfl, rfl⟩
    conv => whnf
    refine ArI.in64 (by omega) ?_
    conv => whnf
    repeat (first | (refine LoadV.s rfl rfl (forceV_of ?_); conv => whnf) | (refine LoadV.s rfl rfl ?_; conv => whnf) | (refine StoreV.c rfl rfl (Nat.le_of_ble_eq_true rfl) rfl ?_; conv => whnf) | (refine LoadV.a _ rfl (Nat.le_of_ble_eq_true rfl) ?_; conv => whnf) | (refine DrawI.quiet (by kernel_rfl) (by kernel_rfl) ?_; conv => whnf) | (refine ArI.in64 (by omega) ?_; conv => whnf) | (refine ArI.inU8 (by omega) ?_; conv => whnf) | (refine ArI.inU64 (by omega) ?_; conv => whnf) | (refine ArI.inU32 (by omega) ?_; conv => whnf) | (refine RetI.one Try.results3 rfl ?_; conv => whnf) | (refine RetI.two Try.results3 rfl rfl ?_; conv => whnf) | (refine RetI.three Try.results3 rfl rfl rfl ?_; conv => whnf) | (refine RetI.none Try.results3 ?_; conv => whnf) | (refine ⟨by first | decide | omega, ?_⟩; conv => whnf))
    exact ⟨_, Sub.sel [] rfl, ret_bool (beq_iff_eq.2 (by omega)), rfl⟩
end Go.Proofs.Ytgodkfaacjllcaa

/- A disk that is cut: whole records, and the beginning of another one; blanked. -/
namespace Go.Proofs.Ytgodkfaacjllcaa
set_option linter.unusedVariables false
set_option linter.unusedSimpArgs false
set_option maxRecDepth 100000
open SL Go.RowKit Go.Maps

theorem blocksOf_append : ∀ (a b : List ByteArray) (k : Nat), blocksOf k (a ++ b) = blocksOf k a ++ blocksOf (k + a.length) b
  | [], b, k => by simp [blocksOf]
  | x :: a, b, k => by
    simp only [List.cons_append, blocksOf, blocksOf_append a b (k + 1), List.append_assoc, List.length_cons]
    rw [show k + 1 + a.length = k + (a.length + 1) by omega]
/-- How many blocks the first records have. -/
def sizeW (l : List ByteArray) (w : Nat) : Nat := (blocksOf 0 (l.take w)).length
theorem sizeW_zero (l : List ByteArray) : sizeW l 0 = 0 := rfl
theorem sizeW_all (l : List ByteArray) : sizeW l l.length = (blocksOf 0 l).length := by unfold sizeW; rw [List.take_length]
theorem sizeW_succ {l : List ByteArray} {w : Nat} (h : w < l.length) : blocksOf 0 (l.take (w + 1)) = blocksOf 0 (l.take w) ++ fr w l[w] := by
  rw [← List.take_append_getElem h, blocksOf_snoc, List.length_take, Nat.zero_add, show min w l.length = w by omega]
theorem sizeW_split {l : List ByteArray} {w : Nat} (h : w < l.length) : blocksOf 0 l = blocksOf 0 (l.take w) ++ (fr w l[w] ++ blocksOf (w + 1) (l.drop (w + 1))) := by
  conv => lhs; rw [← List.take_append_drop (w + 1) l]
  rw [blocksOf_append, sizeW_succ h, List.length_take, Nat.zero_add, show min (w + 1) l.length = w + 1 by omega, List.append_assoc]
theorem Fit.take {l : List ByteArray} (h : Fit l) (w : Nat) : Fit (l.take w) := ⟨fun s hs => h.small s (List.mem_of_mem_take hs), by
  have := h.room
  have e : blocksOf 0 l = blocksOf 0 (l.take w) ++ blocksOf (0 + (l.take w).length) (l.drop w) := by rw [← blocksOf_append, List.take_append_drop]
  rw [e, List.length_append] at this; omega⟩
theorem sizeW_le {l : List ByteArray} (w : Nat) : sizeW l w ≤ (blocksOf 0 l).length := by
  have e : blocksOf 0 l = blocksOf 0 (l.take w) ++ blocksOf (0 + (l.take w).length) (l.drop w) := by rw [← blocksOf_append, List.take_append_drop]
  unfold sizeW; rw [e, List.length_append]; omega
/-- The first blocks: whole records, and a beginning of the next one. -/
theorem cut_split {l : List ByteArray} (hf : Fit l) {k w : Nat} (hk : k ≤ (blocksOf 0 l).length) (hw : w ≤ l.length) (h1 : sizeW l w ≤ k) (h2 : ∀ h : w < l.length, k < sizeW l (w + 1)) :
    ∃ t s, s.size ≤ 5865 ∧ (blocksOf 0 l).take k = blocksOf 0 (l.take w) ++ t ∧ t.length = k - sizeW l w ∧ t.length ≤ (fr w s).length ∧ (∀ i, ∀ h : i < t.length, (t[i]).size = 0 ∨ some t[i] = (fr w s)[i]?) ∧ t ≠ fr w s ∧ ∀ b ∈ t, b.size = 32 := by
  have hcount := hf.count
  rcases Nat.lt_or_ge w l.length with h | h
  · have hs := hf.small _ (List.getElem_mem h)
    have h3 := h2 h
    unfold sizeW at h1 h3 ⊢
    rw [sizeW_succ h, List.length_append] at h3
    have hsp := sizeW_split h
    have hc : Can ((w : Int) + 1) l[w] := ⟨by omega, by omega, hs⟩
    have hfs := fr_size hc
    refine ⟨(fr w l[w]).take (k - (blocksOf 0 (l.take w)).length), l[w], hs, ?_, ?_, ?_, fun i hi => .inr ?_, ?_, fun b hb => hfs b (List.mem_of_mem_take hb)⟩
    · rw [hsp, List.take_append, List.take_of_length_le h1, List.take_append_of_le_length (by omega)]
    · rw [List.length_take]; omega
    · rw [List.length_take]; omega
    · rw [List.length_take] at hi
      rw [← List.getElem?_eq_getElem, List.getElem?_take, if_pos (by omega)]
    · intro e
      have := congrArg List.length e
      rw [List.length_take] at this
      omega
  · obtain rfl : w = l.length := by omega
    rw [sizeW_all] at h1 ⊢
    obtain rfl : k = (blocksOf 0 l).length := by omega
    have hc : Can ((l.length : Int) + 1) nul := ⟨by omega, by omega, by decide⟩
    refine ⟨[], nul, by decide, by rw [List.take_length, List.take_length, List.append_nil], by simp, Nat.zero_le _, fun i hi => by simp at hi, fun e => ?_, fun b hb => by cases hb⟩
    have := (fr_pos hc).1
    rw [← e] at this; simp at this
/-- Blocks that aren't blank are blanked, with all the power. -/
theorem wipe_full : ∀ (t : List ByteArray) (e : Nat) (a : DA), a.on = true → a.l ≤ 0 → e + t.length ≤ 2048 → (∀ b ∈ t, b.size ≠ 0) → wipeL t e a = (⟨a.lg ++ idxL e (blank t.length), true, a.l⟩, true)
  | [], e, a, ho, _, _, _ => by
    obtain ⟨lg, on, l⟩ := a
    dsimp only at ho; subst ho; simp [wipeL, idxL]
  | b :: t, e, a, ho, hl, he, hb => by
    have hc : wcode a.on (e : Int) nul = 0 := (wcode_in (by omega) (by simp at he; omega) (by decide)).2 ho
    rw [wipeL, if_neg (hb b (by simp)), if_pos hc, DA.wr_yes hc]
    have e1 : wOn a.l = true := if_neg (by omega)
    have e2 : wLeft a.l = a.l := if_neg (by omega)
    have ih := wipe_full t (e + 1) ⟨a.lg ++ [((e : Int), nul)], true, a.l⟩ rfl hl (by simp at he; omega) (fun b hb2 => hb b (by simp [hb2]))
    rw [e1, e2, ih]
    simp [idxL, List.replicate_succ]
/-- Opening a disk with whole records and a beginning of another one. -/
theorem open_cut {a : DA} {l t : List ByteArray} {s : ByteArray} {n : Nat} (hf : Fit l) (hon : a.on = true) (hl : a.l ≤ 0) (hlo : LogOk a.lg) (h : cont a.lg = blocksOf 0 l ++ (t ++ blank n)) (hs : s.size ≤ 5865) (htl : t.length ≤ (fr l.length s).length)
    (hti : ∀ i, ∀ h : i < t.length, (t[i]).size = 0 ∨ some t[i] = (fr l.length s)[i]?) (hne : t ≠ fr l.length s) (ht : ∀ b ∈ t, b.size = 32) :
    openA [] a = (⟨a.lg ++ idxL (blocksOf 0 l).length (blank t.length), true, a.l⟩, some (l, (blocksOf 0 l).length)) ∧ LogOk (a.lg ++ idxL (blocksOf 0 l).length (blank t.length)) ∧ cont (a.lg ++ idxL (blocksOf 0 l).length (blank t.length)) = blocksOf 0 l ++ blank (t.length + n) := by
  have him : imgA [] a = blocksOf 0 l ++ t := by
    rw [img_blank hlo h hf.blank, trim_full fun b hb => by have := ht b hb; omega]
  have hlen : (blocksOf 0 l).length + t.length + n = 2048 := by have := congrArg List.length h; rw [cont_length, List.length_append, List.length_append, List.length_replicate] at this; omega
  have hsc := scan_tail hf rfl hs htl hti hne
  have hw := wipe_full t (blocksOf 0 l).length a hon hl (by omega) fun b hb => by have := ht b hb; omega
  refine ⟨?_, ?_, ?_⟩
  · unfold openA
    rw [if_neg (by rw [hon]; simp)]
    unfold wipeA
    rw [him, hsc.1, hsc.2, List.drop_left, hw, if_neg (by simp)]
  · intro p hp
    rcases List.mem_append.1 hp with hp | hp
    · exact hlo p hp
    · exact idxL_ok _ _ (by rw [List.length_replicate]; omega) (fun b hb => by rw [(List.mem_replicate.1 hb).2]; decide) p hp
  · unfold cont at *
    rw [setAll_append, h, setAll_idx (blank t.length) (blocksOf 0 l) (blank n) t (by rw [List.length_replicate]), List.replicate_append_replicate]
theorem cont_take (l : List ByteArray) (hl : l.length ≤ 2048) : cont (idxL 0 l) = l ++ blank (2048 - l.length) := by
  have := cont_idx (lg := []) (R := []) (n := 2048) rfl l hl
  simpa using this
/-- The ends of the records. -/
def endsL (l : List ByteArray) : List Int := (List.range l.length).map fun i => (sizeW l (i + 1) : Int)
theorem endsL_length (l : List ByteArray) : (endsL l).length = l.length := by simp [endsL]
theorem endsL_get {l : List ByteArray} {i : Nat} (h : i < l.length) : (endsL l)[i]? = some (sizeW l (i + 1) : Int) := by simp [endsL, h]
theorem endsL_snoc (l : List ByteArray) (s : ByteArray) : endsL (l ++ [s]) = endsL l ++ [((blocksOf 0 (l ++ [s])).length : Int)] := by
  unfold endsL
  rw [List.length_append, List.length_singleton, List.range_succ, List.map_append]
  congr 1
  · refine List.map_congr_left fun i hi => ?_
    unfold sizeW
    rw [List.take_append_of_le_length (by have := List.mem_range.1 hi; omega)]
  · simp [sizeW, List.take_of_length_le]
end Go.Proofs.Ytgodkfaacjllcaa

/- The arguments of the journal's laws. -/
namespace Go.Proofs.Ytgodkfaacjllcaa
set_option linter.unusedVariables false
set_option linter.unusedSimpArgs false
set_option maxRecDepth 100000
open SL Go.RowKit
theorem wf_str {s : ByteArray} (h : wfCell (.string s) = true) : s.size ≤ 9223372036854775807 := of_decide_eq_true h
theorem wf_int {n : Int} (h : wfCell (.int .i64 n) = true) : n ≤ 9223372036854775807 := by
  simp [wfCell, Lit.wf, IntKind.min, IntKind.max, IntKind.signed, IntKind.bits] at h
  omega
theorem view_strQ : ∀ row, okCells [.s] row = true → row.all wfCell = true → ∃ x : ByteArray, x.size ≤ 9223372036854775807 ∧ row = [Value.string x] := by
  intro row h hw
  match row, okCells_length h with
  | [a], _ =>
    simp only [List.all_cons, List.all_nil, Bool.and_true] at hw
    cases a <;> simp [okCells, okCell] at h
    exact ⟨_, wf_str hw, rfl⟩
theorem view_op7 : ∀ row, okCells [.i .i64, .i .i64, .s] row = true → row.all wfCell = true → ∃ x : Int × Int × ByteArray, (x.2.1 ≤ 9223372036854775807 ∧ x.2.2.size ≤ 9223372036854775807) ∧ row = [Value.int .i64 x.1, .int .i64 x.2.1, .string x.2.2] := by
  intro row h hw
  match row, okCells_length h with
  | [a, b, c], _ =>
    simp only [List.all_cons, List.all_nil, Bool.and_true, Bool.and_eq_true] at hw
    obtain ⟨_, w2, w3⟩ := hw
    cases a <;> simp [okCells, okCell] at h
    cases b <;> simp at h
    cases c <;> simp at h
    obtain ⟨rfl, rfl⟩ := h
    exact ⟨(_, _, _), ⟨wf_int w2, wf_str w3⟩, rfl⟩
theorem view_step7 : ∀ row, okCells [.s, .i .i64, .i .i64] row = true → row.all wfCell = true → ∃ x : ByteArray × Int × Int, (x.1.size ≤ 9223372036854775807 ∧ x.2.1 ≤ 9223372036854775807) ∧ row = [Value.string x.1, .int .i64 x.2.1, .int .i64 x.2.2] := by
  intro row h hw
  match row, okCells_length h with
  | [a, b, c], _ =>
    simp only [List.all_cons, List.all_nil, Bool.and_true, Bool.and_eq_true] at hw
    obtain ⟨w1, w2, _⟩ := hw
    cases a <;> simp [okCells, okCell] at h
    cases b <;> simp at h
    cases c <;> simp at h
    obtain ⟨rfl, rfl⟩ := h
    exact ⟨(_, _, _), ⟨wf_str w1, wf_int w2⟩, rfl⟩
end Go.Proofs.Ytgodkfaacjllcaa

/- The law of cuts, as a contract. -/
namespace Go.Proofs.Ytgodkfaacjllcaa
set_option linter.unusedVariables false
set_option linter.unusedSimpArgs false
set_option maxRecDepth 100000
open SL Go.RowKit Go.Maps

theorem DoV.slice_sv {C : Ctx} {P : Program} {H : Heap} {K : Value → Heap → Prop} {t e : TypeId} {g : Option (Nat × Nat)} {n T sz : Nat} {l : List Value} {G : HObj → Heap} {kh : IntKind} {h : Int} [ho : OwnHole H (svOf g n) n T sz l G] (ht : P.underlying t = some (.slice e)) (hi : (P.info? e).isSome = true) (h0 : 0 ≤ h) (h2 : h ≤ n) (hg : g = none → n = 0)
    (k : K (.slice (oaOf g) h.toNat (capOf g)) H) : DoV C P (Instr.sliceAt t (svOf g n) none (some (.int kh h)) none) H K := by
  cases g with
  | none =>
    obtain rfl := hg rfl
    exact SL.DoV.slice_to ht hi h0 (by omega) k
  | some p =>
    refine ⟨fun v H' => v = .slice (oaOf (some p)) h.toNat (capOf (some p)) ∧ H' = H, fun w hs => ⟨_, w, H, run_slice_to ht hi h0 ?_, ⟨rfl, rfl⟩, hs⟩, fun v H' ⟨h1, h2⟩ => by subst h1; subst h2; exact k⟩
    obtain ⟨A, B, hH, _⟩ := ho.out
    have := own_cap (hs.objs (.own (svOf (some p) n) n T sz l) (by rw [hH]; simp))
    show h ≤ ((capOf (some p) : Nat) : Int)
    omega
theorem SlF.sv_pre {F F' : Mem} {B : Heap} {g : Option (Nat × Nat)} {n k sz : Nat} {l : List Value} {T : TypeId} {G : HObj → Heap} (he : Ext F B F') [ho : OwnHole B (svOf g n) n T sz l G] (hl : l.length = n * sz) (hk : k ≤ n) (h : g = none → n = 0) : SlF F' sz (oaOf g) k (l.take (k * sz)) := by
  have := SlF.sv (ho := ho) he hl h
  refine ⟨by rw [List.length_take, hl, Nat.min_eq_left (Nat.mul_le_mul_right _ hk)], fun hk0 => ?_⟩
  obtain ⟨b, o, e, hr⟩ := this.row (by omega)
  refine ⟨b, o, e, fun j v hj => hr j v ?_⟩
  rw [List.getElem?_take] at hj
  split at hj
  · exact hj
  · cases hj
theorem same_sn (F : Mem) (oa ob : Option Addr) (ca cb n m : Nat) (a b : List ByteArray) (hna : a.length = n) (hnb : b.length = m) (ha : SlF F 1 oa n (strs a)) (hb : SlF F 1 ob m (strs b)) (hn : n ≤ 9223372036854775807) :
    FT Try.prog 10 [.slice oa n ca, .slice ob m cb].toArray F [] (Ret (.bool (decide (a = b)))) := by
  subst hna; subst hnb
  exact same_ok F oa ob ca cb a b ha hb hn
/-- A list of texts, and the beginning of another one, alike. -/
theorem same_pre {F F' : Mem} {B : Heap} (hF' : Ext F B F') (g1 g2 : Option (Nat × Nat)) (L : List ByteArray) (w : Nat) (hw : w ≤ L.length) (h1 : g1 = none ↔ L.take w = []) (h2 : g2 = none ↔ L = []) (hn : L.length ≤ 9223372036854775807) {G1 G2 : HObj → Heap}
    [o1 : OwnHole B (svOf g1 (L.take w).length) (L.take w).length 9 1 (strs (L.take w)) G1] [o2 : OwnHole B (svOf g2 L.length) L.length 9 1 (strs L) G2] :
    FT Try.prog 10 [svOf g1 (L.take w).length, .slice (oaOf g2) w (capOf g2)].toArray F' [] (Ret (.bool true)) := by
  have hlen : (L.take w).length = w := by rw [List.length_take]; omega
  have := same_sn F' (oaOf g1) (oaOf g2) (capOf g1) (capOf g2) (L.take w).length w (L.take w) (L.take w) rfl hlen (SlF.sv hF' (ho := o1) (by simp) (fun e => by rw [h1.1 e]; rfl)) (by
    have := SlF.sv_pre (k := w) hF' (ho := o2) (by simp) hw (fun e => by rw [h2.1 e]; rfl)
    rwa [Nat.mul_one, ← List.map_take] at this) (by omega)
  rwa [show decide (L.take w = L.take w) = true from decide_eq_true rfl] at this
abbrev ownI (g : Option (Nat × Nat)) (l : List Int) : HObj := .own (svOf g l.length) l.length 3 1 (l.map fun x => Value.int .i64 x)
set_option maxHeartbeats 2000000 in
theorem jcuts_ok (F : Mem) (oa : Option Addr) (ca : Nat) (ps : List ByteArray) (n : Int) (hb : SlF F 1 oa ps.length (strs ps)) (hsz : ∀ s ∈ ps, s.size ≤ 9223372036854775807) (hn : ps.length ≤ 140737488355328) :
    FT Try.prog 5 [.slice oa ps.length ca, .int .i64 n].toArray F [] (Ret (.bool true)) := by
  refine FT.of_body Try.func5 rfl Try.ntmps5 (by simp) fun C hC => ?_
  subst hC
  conv => whnf
  refine CallS.mk Try.call7 ⟨[], _, _, Sub.refl _, fun F' hF' => lives07_ok F', ?_⟩
  rintro e A' ⟨rfl, rfl⟩
  conv => whnf
  refine CallS.mk Try.call11 ⟨[], _, _, Sub.refl _, fun F' hF' => new_ok F', ?_⟩
  rintro e A' ⟨d, r, rb, rfl, rfl⟩
  conv => whnf
  refine CallS.mk Try.call12 ⟨[_, _, _, _], _, _, Sub.split [0, 1, 2, 3] rfl, fun F' hF' => open_ok F' d r rb #[] 0 [] newS newS_ok (show Room 0 2048 by unfold Room; omega), ?_⟩
  rintro e A' ⟨y, Y, hy, hO⟩
  rw [open_new] at hy hO
  rcases hO with ⟨h, -, -⟩ | ⟨pl, en, j, g0, h, _, -, _, rfl, rfl⟩
  · cases h
  obtain ⟨rfl, rfl⟩ := Prod.mk.inj (Option.some.inj h)
  dsimp only at hy
  conv => whnf
  refine LoopI.by_state (σ := Nat × List ByteArray × JS × Option (Nat × Nat) × Option (Nat × Nat)) (fun x => [(1, .int .i64 n), (5, .pointer (some ⟨d, 0, none⟩)), (6, .pointer (some ⟨j, 0, none⟩)), (9, svOf x.2.2.2.1 x.2.1.length), (10, svOf x.2.2.2.2 (endsL x.2.1).length), (11, .int .i64 ((blocksOf 0 x.2.1).length : Int)), (37, .slice oa ps.length ca), (38, .int .i64 (ps.length : Int)), (39, .int .i64 (x.1 : Int))])
    (fun x => jCell j d ⟨x.2.1.length, (blocksOf 0 x.2.1).length, false⟩ :: ownS x.2.2.2.1 x.2.1 :: ownI x.2.2.2.2 (endsL x.2.1) :: JH d r rb #[] 0 x.2.2.1)
    (fun x => x.1 ≤ ps.length ∧ Fit x.2.1 ∧ JOk #[] 0 [] x.2.2.1 ∧ x.2.2.1.a = ⟨idxL 0 (blocksOf 0 x.2.1), true, -1⟩ ∧ (x.2.2.2.1 = none ↔ x.2.1 = []) ∧ (x.2.2.2.2 = none ↔ endsL x.2.1 = [])) (fun x => ps.length - x.1) (0, [], y, none, none)
    ⟨Nat.zero_le _, fit_nil, Y, hy, by simp, by simp [endsL]⟩ ⟨rfl, rfl, rfl, rfl, rfl, rfl, rfl, rfl, rfl, trivial⟩ ((Sub.nil 9 1).trans ((Sub.nil 3 1).trans (Sub.sel [2, 1, 0, 4, 5, 6, 7] rfl))) ?_
  rintro ⟨i, l, z, gk, ge⟩ f0 ⟨hi, hf, Z, hz, hgk, hge⟩
  dsimp only at hi hf Z hz hgk hge ⊢
  have hcount := hf.count
  have hroom := hf.room
  have hcont : cont z.a.lg = blocksOf 0 l ++ blank (2048 - (blocksOf 0 l).length) := by rw [hz]; exact cont_take _ hroom
  have hzl : z.a.lg.length = (blocksOf 0 l).length := by rw [hz]; exact idxL_length _ _
  conv => whnf
  refine cond_dec (fun h => ?_) (fun h => ?_)
  · have hil : i < ps.length := by omega
    have hx := hb.at hil
    obtain ⟨xa, ya, rfl, hra⟩ := hx
    have hld := hra i (.string (ps[i]'hil)) (by rw [List.getElem?_map, List.getElem?_eq_getElem hil]; rfl)
    have hss := hsz _ (List.getElem_mem hil)
    generalize ps[i]'hil = s at hld hss
    have hap := append_full (a := z.a) hf (by rw [hz]) (by rw [hz]; show (-1 : Int) ≤ 0; decide) hcont s
    have hao := fun F' => append_ok F' j d r rb #[] 0 [] z Z ⟨l.length, (blocksOf 0 l).length, false⟩ (by dsimp only; omega) (by dsimp only; omega) s hss (by rw [hzl]; unfold Room; omega)
    conv => whnf
    refine ⟨by omega, ?_⟩
    conv => whnf
    rw [elemOff_nat]
    rotate_left
    · kernel_rfl
    refine LoadV.f hld rfl ?_
    conv => whnf
    rcases hap with ⟨h1, h2⟩ | ⟨h1, h2⟩ | ⟨h1, hf2, h2, h3, h4, h5⟩
    · rw [h2] at hao
      refine CallS.mk Try.call15 ⟨[_, _, _, _, _], _, _, Sub.split [0, 3, 4, 5, 6] rfl, fun F' hF' => hao F', ?_⟩
      rintro e A' ⟨u, U, hu, rfl, rfl⟩
      conv => whnf
      rw [decide_eq_true (show (s.size : Int) > 5865 by omega)]
      conv => whnf
      refine ArI.to64 ((i + 1 : Nat) : Int) (by omega) (by omega) ?_
      conv => whnf
      exact ⟨(i + 1, l, u, gk, ge), _, by dsimp only; omega, Sub.sel [0, 5, 6, 1, 2, 3, 4] rfl, ⟨by dsimp only; omega, hf, U, hu.trans hz, hgk, hge⟩, ⟨rfl, rfl, rfl, rfl, rfl, rfl, rfl, rfl, rfl, trivial⟩, rfl⟩
    · rw [h2] at hao
      refine CallS.mk Try.call15 ⟨[_, _, _, _, _], _, _, Sub.split [0, 3, 4, 5, 6] rfl, fun F' hF' => hao F', ?_⟩
      rintro e A' ⟨u, U, hu, rfl, rfl⟩
      conv => whnf
      rw [decide_eq_false (show ¬ (s.size : Int) > 5865 by omega)]
      conv => whnf
      refine ArI.to64 ((i + 1 : Nat) : Int) (by omega) (by omega) ?_
      conv => whnf
      exact ⟨(i + 1, l, u, gk, ge), _, by dsimp only; omega, Sub.sel [0, 5, 6, 1, 2, 3, 4] rfl, ⟨by dsimp only; omega, hf, U, hu.trans hz, hgk, hge⟩, ⟨rfl, rfl, rfl, rfl, rfl, rfl, rfl, rfl, rfl, trivial⟩, rfl⟩
    · rw [h2] at hao
      have hroom2 := hf2.room
      have hsn : blocksOf 0 (l ++ [s]) = blocksOf 0 l ++ fr l.length s := by rw [blocksOf_snoc, Nat.zero_add]
      refine CallS.mk Try.call15 ⟨[_, _, _, _, _], _, _, Sub.split [0, 3, 4, 5, 6] rfl, fun F' hF' => hao F', ?_⟩
      rintro e A' ⟨u, U, hu, rfl, rfl⟩
      conv => whnf
      rw [decide_eq_false (show ¬ (s.size : Int) > 5865 by omega)]
      conv => whnf
      refine CallS.mk Try.call16 ⟨[], _, _, Sub.refl _, fun F' hF' => rparts_ok F' (s.size : Int), ?_⟩
      rintro e A' ⟨rfl, rfl⟩
      rw [← h4]
      conv => whnf
      refine ArI.to64 ((blocksOf 0 (l ++ [s])).length : Int) (by rw [hsn, List.length_append]; omega) (by omega) ?_
      conv => whnf
      intro bl
      conv => whnf
      refine (show BuiltV _ _ _ #[22, 22] _ _ [svOf gk l.length, .slice (some ⟨bl, 0, none⟩) 1 1] _ _ from ?_)
      refine BuiltV.append (m := 1) Try.underlying22 rfl rfl rfl rfl (by decide) (Row.cells 1) rfl (by decide) rfl (by show (l.length + 1) * 16 ≤ _; omega) (by omega) fun gb gc => ?_
      conv => whnf
      intro bl2
      conv => whnf
      refine (show BuiltV _ _ _ #[44, 44] _ _ [svOf ge (endsL l).length, .slice (some ⟨bl2, 0, none⟩) 1 1] _ _ from ?_)
      refine BuiltV.append (m := 1) Try.underlying44 rfl rfl rfl rfl (by decide) (Row.cells 1) rfl (by decide) rfl (by show ((endsL l).length + 1) * 8 ≤ _; rw [endsL_length]; omega) (by rw [endsL_length]; omega) fun gb2 gc2 => ?_
      conv => whnf
      refine ArI.to64 ((i + 1 : Nat) : Int) (by omega) (by omega) ?_
      conv => whnf
      refine ⟨(i + 1, l ++ [s], u, some (gb, gc), some (gb2, gc2)), _, by dsimp only; omega, Sub.sel [2, 7, 8, 3, 4, 5, 6] rfl, ⟨by dsimp only; omega, hf2, U, ?_, by simp, by dsimp only; rw [endsL_snoc]; simp⟩,
        ⟨rfl, rfl, rfl, by dsimp only; rw [List.length_append]; rfl, by dsimp only; rw [endsL_snoc, List.length_append]; rfl, rfl, rfl, rfl, rfl, trivial⟩, ?_⟩
      · dsimp only
        rw [hu, hz, hsn, idxL_append, Nat.zero_add]
      · dsimp only [ownS, ownI]
        simp only [endsL_snoc, List.length_append, List.map_append]
        rfl
  · conv => whnf
    refine CallS.mk Try.call18 ⟨[_], _, _, Sub.split [0] rfl, fun F' hF' => end_ok F' j d ⟨l.length, (blocksOf 0 l).length, false⟩, ?_⟩
    rintro e A' ⟨rfl, rfl⟩
    conv => whnf
    refine cond_of_false (bne_self_eq_false _) ?_
    conv => whnf
    refine CallS.mk Try.call19 ⟨[_], _, _, Sub.split [0] rfl, fun F' hF' => count_ok F' j d ⟨l.length, (blocksOf 0 l).length, false⟩, ?_⟩
    rintro e A' ⟨rfl, rfl⟩
    conv => whnf
    refine cond_of_false (bne_self_eq_false _) ?_
    conv => whnf
    refine CallS.mk Try.call14 ⟨[_, _, _, _], _, _, Sub.split [3, 4, 5, 6] rfl, fun F' hF' => writes_cp F' d r rb _ _ z.g z.a.lg z.a.on z.a.l Z.hg (by rw [hzl]; omega), ?_⟩
    rintro e A' ⟨g5, lk, rfl, -, rfl, rfl⟩
    conv => whnf
    refine cond_of_false (by rw [hzl]; exact bne_self_eq_false _) ?_
    conv => whnf
    obtain ⟨k, hkv, hk1⟩ := u64_mod n (((blocksOf 0 l).length : Int) + 1) (by omega)
    refine ArI.keep ?_
    conv => whnf
    refine ArI.in64 (by omega) ?_
    conv => whnf
    refine ArI.inU64 (by omega) ?_
    conv => whnf
    refine ⟨⟨rfl, by omega⟩, ?_⟩
    rw [hkv]
    conv => whnf
    refine ArI.in64 (by omega) ?_
    conv => whnf
    have hk : k ≤ (blocksOf 0 l).length := by omega
    refine LoopI.by_state (σ := Nat) (fun w => [(5, .pointer (some ⟨d, 0, none⟩)), (9, svOf gk l.length), (10, svOf ge (endsL l).length), (15, .int .i64 (k : Int)), (16, .int .i64 (w : Int))]) (fun _ => ownS gk l :: ownI ge (endsL l) :: JH d r rb #[] 0 z) (fun w => w ≤ l.length ∧ sizeW l w ≤ k) (fun w => l.length - w) 0
      ⟨Nat.zero_le _, by rw [sizeW_zero]; omega⟩ ⟨rfl, rfl, rfl, rfl, rfl, trivial⟩ (Sub.sel [6, 7, 1, 2, 3, 4] rfl) ?_
    rintro w f1 ⟨hw, hsw⟩
    have hel := endsL_length l
    conv => whnf
    by_cases h5 : w < l.length
    · have hge2 := gsome hge (fun e => by rw [e] at hel; simp at hel; omega)
      obtain ⟨xb, xc, rfl⟩ := hge2
      have hget : ((endsL l).map fun x => Value.int .i64 x)[w]? = some (.int .i64 (sizeW l (w + 1) : Int)) := by rw [List.getElem?_map, endsL_get h5]; rfl
      rw [decide_eq_true (show (w : Int) < ((endsL l).length : Int) by omega)]
      conv => whnf
      refine ⟨by omega, ?_⟩
      conv => whnf
      rw [elemOff_nat]
      rotate_left
      · kernel_rfl
      rw [Nat.zero_add]
      refine LoadV.os rfl hget ?_
      conv => whnf
      refine cond_dec (fun h6 => ?_) (fun h6 => ?_)
      · conv => whnf
        refine ArI.to64 ((w + 1 : Nat) : Int) (by omega) (by omega) ?_
        conv => whnf
        exact ⟨w + 1, _, by omega, Sub.refl _, ⟨by omega, by omega⟩, ⟨rfl, rfl, rfl, rfl, rfl, trivial⟩, rfl⟩
      · have hcs := cut_split hf hk hw hsw (fun _ => by omega)
        conv => whnf
        obtain ⟨t, s, hs, ht1, ht2, ht3, ht4, ht5, ht6⟩ := hcs
        have hcn : cutN (k : Int) z.a.lg.length = k := by unfold cutN; rw [hzl, Int.toNat_natCast]; omega
        have htk : z.a.lg.take k = idxL 0 ((blocksOf 0 l).take k) := by rw [hz]; exact idxL_take 0 _ k
        have hkl : ((blocksOf 0 l).take k).length = k := by rw [List.length_take]; omega
        have hlk : (idxL 0 ((blocksOf 0 l).take k)).length = k := by rw [idxL_length, hkl]
        have hlw : (l.take w).length = w := by rw [List.length_take]; omega
        have hlo2 : LogOk (idxL 0 ((blocksOf 0 l).take k)) := by rw [← htk]; exact logOk_pre Z.ok k
        have hct2 : cont (idxL 0 ((blocksOf 0 l).take k)) = blocksOf 0 (l.take w) ++ (t ++ blank (2048 - k)) := by
          rw [cont_take _ (by omega), hkl, ht1, List.append_assoc]
        have hop := open_cut (a := ⟨idxL 0 ((blocksOf 0 l).take k), true, -1⟩) (l := l.take w) (t := t) (s := s) (n := 2048 - k) (hf.take w) rfl (by show (-1 : Int) ≤ 0; decide) hlo2 hct2 hs (by rw [hlw]; exact ht3) (by rw [hlw]; exact ht4) (by rw [hlw]; exact ht5) ht6
        rw [ht2, show (blocksOf 0 (l.take w)).length = sizeW l w from rfl] at hop
        obtain ⟨hop1, hop2, hop3⟩ := hop
        have hop4 := open_clean (a := ⟨idxL 0 ((blocksOf 0 l).take k) ++ idxL (sizeW l w) (blank (k - sizeW l w)), true, -1⟩) (hf.take w) rfl hop2 hop3
        have hl4 : (idxL 0 ((blocksOf 0 l).take k) ++ idxL (sizeW l w) (blank (k - sizeW l w))).length = k + (k - sizeW l w) := by rw [List.length_append, hlk, idxL_length, List.length_replicate]
        have him4 : imgA [] ⟨idxL 0 ((blocksOf 0 l).take k) ++ idxL (sizeW l w) (blank (k - sizeW l w)), true, -1⟩ = blocksOf 0 (l.take w) := by
          have := img_blank (a := ⟨idxL 0 ((blocksOf 0 l).take k) ++ idxL (sizeW l w) (blank (k - sizeW l w)), true, -1⟩) (t := []) hop2 (by simpa using hop3) (hf.take w).blank
          simpa [trimB, topB] using this
        rw [show (blocksOf 0 (l.take w)).length = sizeW l w from rfl] at hop4
        have hsk : sizeW l w = (blocksOf 0 (l.take w)).length := rfl
        refine CallS.mk Try.call20 ⟨[_, _, _, _], _, _, Sub.split [2, 3, 4, 5] rfl, fun F' hF' => cut_ok F' d r rb #[] 0 [] MapOk.empty (.map z.es z.c) z.g z.a.lg z.a.on z.a.l (k : Int) Z.hg.1 Z.ok (by rw [hzl]; omega), ?_⟩
        rintro e A' ⟨d2, r2, rb2, es2, c2, g2, M2, hg2, rfl, rfl⟩
        rw [hcn, htk] at M2
        rw [hcn] at hg2
        rw [hcn, htk]
        generalize idxL 0 ((blocksOf 0 l).take k) = lg2 at *
        have CO : JOk #[] 0 [] ⟨es2, c2, g2, ⟨lg2, true, -1⟩⟩ := ⟨MapOk.empty, M2, (fun p hp => by cases hp), (fun p hp => by cases hp), hlo2, ⟨fun e => List.eq_nil_of_length_eq_zero (by rw [hlk]; exact hg2.1 e), fun e => hg2.2 (by have e : lg2 = [] := e; rw [e] at hlk; exact hlk.symm)⟩, by show (-1 : Int) ≤ _; decide⟩
        conv => whnf
        refine CallS.mk Try.call12 ⟨[_, _, _, _], _, _, Sub.split [4, 5, 6, 7] rfl, fun F' hF' => open_ok F' d2 r2 rb2 #[] 0 [] ⟨es2, c2, g2, ⟨lg2, true, -1⟩⟩ CO (by show Room lg2.length 2048; rw [hlk]; unfold Room; omega), ?_⟩
        rintro e A' ⟨u, U, hu, hO⟩
        rw [hop1] at hu hO
        rcases hO with ⟨h, -, -⟩ | ⟨pl, en, jj, g6, h, _, hg6, _, rfl, rfl⟩
        · cases h
        obtain ⟨rfl, rfl⟩ := Prod.mk.inj (Option.some.inj h)
        dsimp only at hu
        conv => whnf
        have hul : u.a.lg.length = k + (k - sizeW l w) := by rw [hu]; exact hl4
        refine DoV.slice_sv (g := gk) (n := l.length) Try.underlying22 rfl (by omega) (by omega) (fun e => by rw [hgk.1 e]; rfl) ?_
        rw [Int.toNat_natCast]
        conv => whnf
        refine CallS.mk Try.call10 ⟨[], _, _, Sub.refl _, fun F' hF' => same_pre hF' g6 gk l w hw hg6 hgk (by omega), ?_⟩
        rintro e A' ⟨rfl, rfl⟩
        conv => whnf
        by_cases h7 : w = 0
        · rw [decide_eq_false (show ¬ (w : Int) > 0 by omega)]
          have hz0 : sizeW l w = 0 := by rw [h7]; rfl
          obtain ⟨sw, hsw2⟩ : ∃ sw : Int, sw = 0 := ⟨_, rfl⟩
          have hsw3 : sw = (sizeW l w : Int) := by omega
          conv => whnf
          refine CallS.mk Try.call14 ⟨[_, _, _, _], _, _, Sub.split [2, 3, 4, 5] rfl, fun F' hF' => writes_cp F' d2 r2 rb2 _ _ u.g u.a.lg u.a.on u.a.l U.hg (by rw [hul]; omega), ?_⟩
          rintro e A' ⟨g7, lk2, rfl, -, rfl, rfl⟩
          conv => whnf
          refine CallS.mk Try.call12 ⟨[_, _, _, _], _, _, Sub.split [1, 2, 3, 4] rfl, fun F' hF' => open_ok F' d2 r2 rb2 #[] 0 [] u U (by rw [hul]; unfold Room; omega), ?_⟩
          rintro e A' ⟨v, V, hv, hO2⟩
          rw [hu, hop4] at hv hO2
          rcases hO2 with ⟨h, -, -⟩ | ⟨pl2, en2, jj2, g8, h, _, hg8, _, rfl, rfl⟩
          · cases h
          obtain ⟨rfl, rfl⟩ := Prod.mk.inj (Option.some.inj h)
          dsimp only at hv
          have hvl : v.a.lg.length = k + (k - sizeW l w) := by rw [hv]; exact hl4
          conv => whnf
          refine DoV.slice_sv (g := gk) (n := l.length) Try.underlying22 rfl (by omega) (by omega) (fun e => by rw [hgk.1 e]; rfl) ?_
          rw [Int.toNat_natCast]
          conv => whnf
          refine CallS.mk Try.call10 ⟨[], _, _, Sub.refl _, fun F' hF' => same_pre hF' g8 gk l w hw hg8 hgk (by omega), ?_⟩
          rintro e A' ⟨rfl, rfl⟩
          conv => whnf
          refine CallS.mk Try.call21 ⟨[_, _, _, _], _, _, Sub.split [2, 3, 4, 5] rfl, fun F' hF' => image_cp F' d2 r2 rb2 _ _ _ _ V.M V.img.1 _ _ _ _, ?_⟩
          rintro e A' ⟨bi, im, him, rfl, rfl⟩
          have himl : im.length = sizeW l w := by rw [him]; show (imgA [] v.a).length = _; rw [hv, him4]; rfl
          conv => whnf
          refine cond_of_true (beq_iff_eq.2 (by omega)) ?_
          conv => whnf
          refine CallS.mk Try.call14 ⟨[_, _, _, _], _, _, Sub.split [1, 2, 3, 4] rfl, fun F' hF' => writes_cp F' d2 r2 rb2 _ _ v.g v.a.lg v.a.on v.a.l V.hg (by rw [hvl]; omega), ?_⟩
          rintro e A' ⟨g9, lk3, rfl, -, rfl, rfl⟩
          conv => whnf
          refine cond_of_true (by rw [hvl, hul]; exact beq_self_eq_true _) ?_
          conv => whnf
          refine ArI.in64 (by omega) ?_
          conv => whnf
          refine ArI.in64 (by omega) ?_
          conv => whnf
          repeat (first | (refine LoadV.s rfl rfl (forceV_of ?_); conv => whnf) | (refine LoadV.s rfl rfl ?_; conv => whnf) | (refine StoreV.c rfl rfl (Nat.le_of_ble_eq_true rfl) rfl ?_; conv => whnf) | (refine LoadV.a _ rfl (Nat.le_of_ble_eq_true rfl) ?_; conv => whnf) | (refine DrawI.quiet (by kernel_rfl) (by kernel_rfl) ?_; conv => whnf) | (refine ArI.in64 (by omega) ?_; conv => whnf) | (refine ArI.inU8 (by omega) ?_; conv => whnf) | (refine ArI.inU64 (by omega) ?_; conv => whnf) | (refine ArI.inU32 (by omega) ?_; conv => whnf) | (refine RetI.one Try.results5 rfl ?_; conv => whnf) | (refine RetI.two Try.results5 rfl rfl ?_; conv => whnf) | (refine RetI.three Try.results5 rfl rfl rfl ?_; conv => whnf) | (refine RetI.none Try.results5 ?_; conv => whnf) | (refine ⟨by first | decide | omega, ?_⟩; conv => whnf))
          exact ⟨_, Sub.sel [] rfl, ret_bool (beq_iff_eq.2 (by omega)), rfl⟩
        · rw [decide_eq_true (show (w : Int) > 0 by omega)]
          have hge3 := gsome hge (fun e => by rw [e] at hel; simp at hel; omega)
          first | (obtain ⟨xb2, xc2, rfl⟩ := hge3) | skip
          have hget2 : ((endsL l).map fun x => Value.int .i64 x)[w - 1]? = some (.int .i64 (sizeW l w : Int)) := by rw [List.getElem?_map, endsL_get (by omega), show w - 1 + 1 = w by omega]; rfl
          conv => whnf
          refine ArI.to64 ((w - 1 : Nat) : Int) (by omega) (by omega) ?_
          conv => whnf
          refine ⟨by omega, ?_⟩
          conv => whnf
          rw [elemOff_nat]
          rotate_left
          · kernel_rfl
          rw [Nat.zero_add]
          refine LoadV.os rfl hget2 ?_
          conv => whnf
          refine CallS.mk Try.call14 ⟨[_, _, _, _], _, _, Sub.split [2, 3, 4, 5] rfl, fun F' hF' => writes_cp F' d2 r2 rb2 _ _ u.g u.a.lg u.a.on u.a.l U.hg (by rw [hul]; omega), ?_⟩
          rintro e A' ⟨g7, lk2, rfl, -, rfl, rfl⟩
          conv => whnf
          refine CallS.mk Try.call12 ⟨[_, _, _, _], _, _, Sub.split [1, 2, 3, 4] rfl, fun F' hF' => open_ok F' d2 r2 rb2 #[] 0 [] u U (by rw [hul]; unfold Room; omega), ?_⟩
          rintro e A' ⟨v, V, hv, hO2⟩
          rw [hu, hop4] at hv hO2
          rcases hO2 with ⟨h, -, -⟩ | ⟨pl2, en2, jj2, g8, h, _, hg8, _, rfl, rfl⟩
          · cases h
          obtain ⟨rfl, rfl⟩ := Prod.mk.inj (Option.some.inj h)
          dsimp only at hv
          have hvl : v.a.lg.length = k + (k - sizeW l w) := by rw [hv]; exact hl4
          conv => whnf
          refine DoV.slice_sv (g := gk) (n := l.length) Try.underlying22 rfl (by omega) (by omega) (fun e => by rw [hgk.1 e]; rfl) ?_
          rw [Int.toNat_natCast]
          conv => whnf
          refine CallS.mk Try.call10 ⟨[], _, _, Sub.refl _, fun F' hF' => same_pre hF' g8 gk l w hw hg8 hgk (by omega), ?_⟩
          rintro e A' ⟨rfl, rfl⟩
          conv => whnf
          refine CallS.mk Try.call21 ⟨[_, _, _, _], _, _, Sub.split [2, 3, 4, 5] rfl, fun F' hF' => image_cp F' d2 r2 rb2 _ _ _ _ V.M V.img.1 _ _ _ _, ?_⟩
          rintro e A' ⟨bi, im, him, rfl, rfl⟩
          have himl : im.length = sizeW l w := by rw [him]; show (imgA [] v.a).length = _; rw [hv, him4]; rfl
          conv => whnf
          refine cond_of_true (beq_iff_eq.2 (by omega)) ?_
          conv => whnf
          refine CallS.mk Try.call14 ⟨[_, _, _, _], _, _, Sub.split [1, 2, 3, 4] rfl, fun F' hF' => writes_cp F' d2 r2 rb2 _ _ v.g v.a.lg v.a.on v.a.l V.hg (by rw [hvl]; omega), ?_⟩
          rintro e A' ⟨g9, lk3, rfl, -, rfl, rfl⟩
          conv => whnf
          refine cond_of_true (by rw [hvl, hul]; exact beq_self_eq_true _) ?_
          conv => whnf
          refine ArI.in64 (by omega) ?_
          conv => whnf
          refine ArI.in64 (by omega) ?_
          conv => whnf
          repeat (first | (refine LoadV.s rfl rfl (forceV_of ?_); conv => whnf) | (refine LoadV.s rfl rfl ?_; conv => whnf) | (refine StoreV.c rfl rfl (Nat.le_of_ble_eq_true rfl) rfl ?_; conv => whnf) | (refine LoadV.a _ rfl (Nat.le_of_ble_eq_true rfl) ?_; conv => whnf) | (refine DrawI.quiet (by kernel_rfl) (by kernel_rfl) ?_; conv => whnf) | (refine ArI.in64 (by omega) ?_; conv => whnf) | (refine ArI.inU8 (by omega) ?_; conv => whnf) | (refine ArI.inU64 (by omega) ?_; conv => whnf) | (refine ArI.inU32 (by omega) ?_; conv => whnf) | (refine RetI.one Try.results5 rfl ?_; conv => whnf) | (refine RetI.two Try.results5 rfl rfl ?_; conv => whnf) | (refine RetI.three Try.results5 rfl rfl rfl ?_; conv => whnf) | (refine RetI.none Try.results5 ?_; conv => whnf) | (refine ⟨by first | decide | omega, ?_⟩; conv => whnf))
          exact ⟨_, Sub.sel [] rfl, ret_bool (beq_iff_eq.2 (by omega)), rfl⟩
    · rw [decide_eq_false (show ¬ (w : Int) < ((endsL l).length : Int) by omega)]
      have hcs := cut_split hf hk hw hsw (fun h => absurd h h5)
      conv => whnf
      obtain ⟨t, s, hs, ht1, ht2, ht3, ht4, ht5, ht6⟩ := hcs
      have hcn : cutN (k : Int) z.a.lg.length = k := by unfold cutN; rw [hzl, Int.toNat_natCast]; omega
      have htk : z.a.lg.take k = idxL 0 ((blocksOf 0 l).take k) := by rw [hz]; exact idxL_take 0 _ k
      have hkl : ((blocksOf 0 l).take k).length = k := by rw [List.length_take]; omega
      have hlk : (idxL 0 ((blocksOf 0 l).take k)).length = k := by rw [idxL_length, hkl]
      have hlw : (l.take w).length = w := by rw [List.length_take]; omega
      have hlo2 : LogOk (idxL 0 ((blocksOf 0 l).take k)) := by rw [← htk]; exact logOk_pre Z.ok k
      have hct2 : cont (idxL 0 ((blocksOf 0 l).take k)) = blocksOf 0 (l.take w) ++ (t ++ blank (2048 - k)) := by
        rw [cont_take _ (by omega), hkl, ht1, List.append_assoc]
      have hop := open_cut (a := ⟨idxL 0 ((blocksOf 0 l).take k), true, -1⟩) (l := l.take w) (t := t) (s := s) (n := 2048 - k) (hf.take w) rfl (by show (-1 : Int) ≤ 0; decide) hlo2 hct2 hs (by rw [hlw]; exact ht3) (by rw [hlw]; exact ht4) (by rw [hlw]; exact ht5) ht6
      rw [ht2, show (blocksOf 0 (l.take w)).length = sizeW l w from rfl] at hop
      obtain ⟨hop1, hop2, hop3⟩ := hop
      have hop4 := open_clean (a := ⟨idxL 0 ((blocksOf 0 l).take k) ++ idxL (sizeW l w) (blank (k - sizeW l w)), true, -1⟩) (hf.take w) rfl hop2 hop3
      have hl4 : (idxL 0 ((blocksOf 0 l).take k) ++ idxL (sizeW l w) (blank (k - sizeW l w))).length = k + (k - sizeW l w) := by rw [List.length_append, hlk, idxL_length, List.length_replicate]
      have him4 : imgA [] ⟨idxL 0 ((blocksOf 0 l).take k) ++ idxL (sizeW l w) (blank (k - sizeW l w)), true, -1⟩ = blocksOf 0 (l.take w) := by
        have := img_blank (a := ⟨idxL 0 ((blocksOf 0 l).take k) ++ idxL (sizeW l w) (blank (k - sizeW l w)), true, -1⟩) (t := []) hop2 (by simpa using hop3) (hf.take w).blank
        simpa [trimB, topB] using this
      rw [show (blocksOf 0 (l.take w)).length = sizeW l w from rfl] at hop4
      have hsk : sizeW l w = (blocksOf 0 (l.take w)).length := rfl
      refine CallS.mk Try.call20 ⟨[_, _, _, _], _, _, Sub.split [2, 3, 4, 5] rfl, fun F' hF' => cut_ok F' d r rb #[] 0 [] MapOk.empty (.map z.es z.c) z.g z.a.lg z.a.on z.a.l (k : Int) Z.hg.1 Z.ok (by rw [hzl]; omega), ?_⟩
      rintro e A' ⟨d2, r2, rb2, es2, c2, g2, M2, hg2, rfl, rfl⟩
      rw [hcn, htk] at M2
      rw [hcn] at hg2
      rw [hcn, htk]
      generalize idxL 0 ((blocksOf 0 l).take k) = lg2 at *
      have CO : JOk #[] 0 [] ⟨es2, c2, g2, ⟨lg2, true, -1⟩⟩ := ⟨MapOk.empty, M2, (fun p hp => by cases hp), (fun p hp => by cases hp), hlo2, ⟨fun e => List.eq_nil_of_length_eq_zero (by rw [hlk]; exact hg2.1 e), fun e => hg2.2 (by have e : lg2 = [] := e; rw [e] at hlk; exact hlk.symm)⟩, by show (-1 : Int) ≤ _; decide⟩
      conv => whnf
      refine CallS.mk Try.call12 ⟨[_, _, _, _], _, _, Sub.split [4, 5, 6, 7] rfl, fun F' hF' => open_ok F' d2 r2 rb2 #[] 0 [] ⟨es2, c2, g2, ⟨lg2, true, -1⟩⟩ CO (by show Room lg2.length 2048; rw [hlk]; unfold Room; omega), ?_⟩
      rintro e A' ⟨u, U, hu, hO⟩
      rw [hop1] at hu hO
      rcases hO with ⟨h, -, -⟩ | ⟨pl, en, jj, g6, h, _, hg6, _, rfl, rfl⟩
      · cases h
      obtain ⟨rfl, rfl⟩ := Prod.mk.inj (Option.some.inj h)
      dsimp only at hu
      conv => whnf
      have hul : u.a.lg.length = k + (k - sizeW l w) := by rw [hu]; exact hl4
      refine DoV.slice_sv (g := gk) (n := l.length) Try.underlying22 rfl (by omega) (by omega) (fun e => by rw [hgk.1 e]; rfl) ?_
      rw [Int.toNat_natCast]
      conv => whnf
      refine CallS.mk Try.call10 ⟨[], _, _, Sub.refl _, fun F' hF' => same_pre hF' g6 gk l w hw hg6 hgk (by omega), ?_⟩
      rintro e A' ⟨rfl, rfl⟩
      conv => whnf
      by_cases h7 : w = 0
      · rw [decide_eq_false (show ¬ (w : Int) > 0 by omega)]
        have hz0 : sizeW l w = 0 := by rw [h7]; rfl
        obtain ⟨sw, hsw2⟩ : ∃ sw : Int, sw = 0 := ⟨_, rfl⟩
        have hsw3 : sw = (sizeW l w : Int) := by omega
        conv => whnf
        refine CallS.mk Try.call14 ⟨[_, _, _, _], _, _, Sub.split [2, 3, 4, 5] rfl, fun F' hF' => writes_cp F' d2 r2 rb2 _ _ u.g u.a.lg u.a.on u.a.l U.hg (by rw [hul]; omega), ?_⟩
        rintro e A' ⟨g7, lk2, rfl, -, rfl, rfl⟩
        conv => whnf
        refine CallS.mk Try.call12 ⟨[_, _, _, _], _, _, Sub.split [1, 2, 3, 4] rfl, fun F' hF' => open_ok F' d2 r2 rb2 #[] 0 [] u U (by rw [hul]; unfold Room; omega), ?_⟩
        rintro e A' ⟨v, V, hv, hO2⟩
        rw [hu, hop4] at hv hO2
        rcases hO2 with ⟨h, -, -⟩ | ⟨pl2, en2, jj2, g8, h, _, hg8, _, rfl, rfl⟩
        · cases h
        obtain ⟨rfl, rfl⟩ := Prod.mk.inj (Option.some.inj h)
        dsimp only at hv
        have hvl : v.a.lg.length = k + (k - sizeW l w) := by rw [hv]; exact hl4
        conv => whnf
        refine DoV.slice_sv (g := gk) (n := l.length) Try.underlying22 rfl (by omega) (by omega) (fun e => by rw [hgk.1 e]; rfl) ?_
        rw [Int.toNat_natCast]
        conv => whnf
        refine CallS.mk Try.call10 ⟨[], _, _, Sub.refl _, fun F' hF' => same_pre hF' g8 gk l w hw hg8 hgk (by omega), ?_⟩
        rintro e A' ⟨rfl, rfl⟩
        conv => whnf
        refine CallS.mk Try.call21 ⟨[_, _, _, _], _, _, Sub.split [2, 3, 4, 5] rfl, fun F' hF' => image_cp F' d2 r2 rb2 _ _ _ _ V.M V.img.1 _ _ _ _, ?_⟩
        rintro e A' ⟨bi, im, him, rfl, rfl⟩
        have himl : im.length = sizeW l w := by rw [him]; show (imgA [] v.a).length = _; rw [hv, him4]; rfl
        conv => whnf
        refine cond_of_true (beq_iff_eq.2 (by omega)) ?_
        conv => whnf
        refine CallS.mk Try.call14 ⟨[_, _, _, _], _, _, Sub.split [1, 2, 3, 4] rfl, fun F' hF' => writes_cp F' d2 r2 rb2 _ _ v.g v.a.lg v.a.on v.a.l V.hg (by rw [hvl]; omega), ?_⟩
        rintro e A' ⟨g9, lk3, rfl, -, rfl, rfl⟩
        conv => whnf
        refine cond_of_true (by rw [hvl, hul]; exact beq_self_eq_true _) ?_
        conv => whnf
        refine ArI.in64 (by omega) ?_
        conv => whnf
        refine ArI.in64 (by omega) ?_
        conv => whnf
        repeat (first | (refine LoadV.s rfl rfl (forceV_of ?_); conv => whnf) | (refine LoadV.s rfl rfl ?_; conv => whnf) | (refine StoreV.c rfl rfl (Nat.le_of_ble_eq_true rfl) rfl ?_; conv => whnf) | (refine LoadV.a _ rfl (Nat.le_of_ble_eq_true rfl) ?_; conv => whnf) | (refine DrawI.quiet (by kernel_rfl) (by kernel_rfl) ?_; conv => whnf) | (refine ArI.in64 (by omega) ?_; conv => whnf) | (refine ArI.inU8 (by omega) ?_; conv => whnf) | (refine ArI.inU64 (by omega) ?_; conv => whnf) | (refine ArI.inU32 (by omega) ?_; conv => whnf) | (refine RetI.one Try.results5 rfl ?_; conv => whnf) | (refine RetI.two Try.results5 rfl rfl ?_; conv => whnf) | (refine RetI.three Try.results5 rfl rfl rfl ?_; conv => whnf) | (refine RetI.none Try.results5 ?_; conv => whnf) | (refine ⟨by first | decide | omega, ?_⟩; conv => whnf))
        exact ⟨_, Sub.sel [] rfl, ret_bool (beq_iff_eq.2 (by omega)), rfl⟩
      · rw [decide_eq_true (show (w : Int) > 0 by omega)]
        have hge3 := gsome hge (fun e => by rw [e] at hel; simp at hel; omega)
        first | (obtain ⟨xb2, xc2, rfl⟩ := hge3) | skip
        have hget2 : ((endsL l).map fun x => Value.int .i64 x)[w - 1]? = some (.int .i64 (sizeW l w : Int)) := by rw [List.getElem?_map, endsL_get (by omega), show w - 1 + 1 = w by omega]; rfl
        conv => whnf
        refine ArI.to64 ((w - 1 : Nat) : Int) (by omega) (by omega) ?_
        conv => whnf
        refine ⟨by omega, ?_⟩
        conv => whnf
        rw [elemOff_nat]
        rotate_left
        · kernel_rfl
        rw [Nat.zero_add]
        refine LoadV.os rfl hget2 ?_
        conv => whnf
        refine CallS.mk Try.call14 ⟨[_, _, _, _], _, _, Sub.split [2, 3, 4, 5] rfl, fun F' hF' => writes_cp F' d2 r2 rb2 _ _ u.g u.a.lg u.a.on u.a.l U.hg (by rw [hul]; omega), ?_⟩
        rintro e A' ⟨g7, lk2, rfl, -, rfl, rfl⟩
        conv => whnf
        refine CallS.mk Try.call12 ⟨[_, _, _, _], _, _, Sub.split [1, 2, 3, 4] rfl, fun F' hF' => open_ok F' d2 r2 rb2 #[] 0 [] u U (by rw [hul]; unfold Room; omega), ?_⟩
        rintro e A' ⟨v, V, hv, hO2⟩
        rw [hu, hop4] at hv hO2
        rcases hO2 with ⟨h, -, -⟩ | ⟨pl2, en2, jj2, g8, h, _, hg8, _, rfl, rfl⟩
        · cases h
        obtain ⟨rfl, rfl⟩ := Prod.mk.inj (Option.some.inj h)
        dsimp only at hv
        have hvl : v.a.lg.length = k + (k - sizeW l w) := by rw [hv]; exact hl4
        conv => whnf
        refine DoV.slice_sv (g := gk) (n := l.length) Try.underlying22 rfl (by omega) (by omega) (fun e => by rw [hgk.1 e]; rfl) ?_
        rw [Int.toNat_natCast]
        conv => whnf
        refine CallS.mk Try.call10 ⟨[], _, _, Sub.refl _, fun F' hF' => same_pre hF' g8 gk l w hw hg8 hgk (by omega), ?_⟩
        rintro e A' ⟨rfl, rfl⟩
        conv => whnf
        refine CallS.mk Try.call21 ⟨[_, _, _, _], _, _, Sub.split [2, 3, 4, 5] rfl, fun F' hF' => image_cp F' d2 r2 rb2 _ _ _ _ V.M V.img.1 _ _ _ _, ?_⟩
        rintro e A' ⟨bi, im, him, rfl, rfl⟩
        have himl : im.length = sizeW l w := by rw [him]; show (imgA [] v.a).length = _; rw [hv, him4]; rfl
        conv => whnf
        refine cond_of_true (beq_iff_eq.2 (by omega)) ?_
        conv => whnf
        refine CallS.mk Try.call14 ⟨[_, _, _, _], _, _, Sub.split [1, 2, 3, 4] rfl, fun F' hF' => writes_cp F' d2 r2 rb2 _ _ v.g v.a.lg v.a.on v.a.l V.hg (by rw [hvl]; omega), ?_⟩
        rintro e A' ⟨g9, lk3, rfl, -, rfl, rfl⟩
        conv => whnf
        refine cond_of_true (by rw [hvl, hul]; exact beq_self_eq_true _) ?_
        conv => whnf
        refine ArI.in64 (by omega) ?_
        conv => whnf
        refine ArI.in64 (by omega) ?_
        conv => whnf
        repeat (first | (refine LoadV.s rfl rfl (forceV_of ?_); conv => whnf) | (refine LoadV.s rfl rfl ?_; conv => whnf) | (refine StoreV.c rfl rfl (Nat.le_of_ble_eq_true rfl) rfl ?_; conv => whnf) | (refine LoadV.a _ rfl (Nat.le_of_ble_eq_true rfl) ?_; conv => whnf) | (refine DrawI.quiet (by kernel_rfl) (by kernel_rfl) ?_; conv => whnf) | (refine ArI.in64 (by omega) ?_; conv => whnf) | (refine ArI.inU8 (by omega) ?_; conv => whnf) | (refine ArI.inU64 (by omega) ?_; conv => whnf) | (refine ArI.inU32 (by omega) ?_; conv => whnf) | (refine RetI.one Try.results5 rfl ?_; conv => whnf) | (refine RetI.two Try.results5 rfl rfl ?_; conv => whnf) | (refine RetI.three Try.results5 rfl rfl rfl ?_; conv => whnf) | (refine RetI.none Try.results5 ?_; conv => whnf) | (refine ⟨by first | decide | omega, ?_⟩; conv => whnf))
        exact ⟨_, Sub.sel [] rfl, ret_bool (beq_iff_eq.2 (by omega)), rfl⟩
end Go.Proofs.Ytgodkfaacjllcaa
