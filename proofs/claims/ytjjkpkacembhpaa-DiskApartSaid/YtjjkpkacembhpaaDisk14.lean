/- The law DiskApart, as a contract. -/
import Derived.Test.YtjjkpkacembhpaaDisk13
namespace Go.Proofs.Ytjjkpkacembhpaa
set_option linter.unusedVariables false
set_option linter.unusedSimpArgs false
open SL Go.RowKit Go.Maps

/-- A writing, refused or not: one form for both. -/
theorem write_both (F : Mem) (d r rb : Nat) (es1 : Array MapEntry) (c1 : Nat) (es : Array MapEntry) (c : Nat) (m : List (Int × ByteArray)) (M : MapS es c m) (g : Option (Nat × Nat)) (lg : List (Int × ByteArray)) (on : Bool) (l at_ : Int) (s : ByteArray)
    (hlog : (lg.length + 1) * 24 ≤ 140737488355328) (hl : l ≤ 9223372036854775807) :
    FT Try.prog 11 [.pointer (some ⟨d, 0, none⟩), .int .i64 at_, .string s].toArray F (diskH d r rb (.map es1 c1) (.map es c) (svOf g lg.length) lg on l)
    (fun e H => e = .returned (.int .i64 (wcode on at_ s)) ∧ ∃ es' c' g' lg' on' l', ((wcode on at_ s ≠ 0 ∧ es' = es ∧ c' = c ∧ g' = g ∧ lg' = lg ∧ on' = on ∧ l' = l) ∨ (wcode on at_ s = 0 ∧ on = true ∧ MapS es' c' (putM m at_ s) ∧ g' ≠ none ∧ lg' = lg ++ [(at_, s)] ∧ on' = wOn l ∧ l' = wLeft l)) ∧ H = diskH d r rb (.map es1 c1) (.map es' c') (svOf g' lg'.length) lg' on' l') := by
  refine (write_ok F d r rb (.map es1 c1) es c m M (svOf g lg.length) lg on l at_ s hlog hl).mono ?_
  rintro e H ⟨rfl, hA⟩
  refine ⟨rfl, ?_⟩
  rcases hA with ⟨h1, rfl⟩ | ⟨h1, h2, es', c', gb, gc, M', rfl⟩
  · exact ⟨es, c, g, lg, on, l, .inl ⟨h1, rfl, rfl, rfl, rfl, rfl, rfl⟩, rfl⟩
  · refine ⟨es', c', some (gb, gc), lg ++ [(at_, s)], wOn l, wLeft l, .inr ⟨h1, h2, M', by simp, rfl, rfl, rfl⟩, ?_⟩
    have e1 : svOf (some (gb, gc)) (lg ++ [(at_, s)]).length = .slice (some ⟨gb, 0, none⟩) (lg.length + 1) gc := by simp
    rw [diskH, e1]
theorem r5write_both (F : Mem) (d : Nat) (x : Value) (rb : Nat) (bl : List ByteArray) (gl : Option (Nat × Nat)) (lg : List (Int × ByteArray)) (p at_ : Int) (s : ByteArray) (hbl : bl.length = 2048)
    (hlog : (lg.length + 1) * 24 ≤ 140737488355328) (hp : p ≤ 9223372036854775807) :
    FT Try.prog 21 [.pointer (some ⟨d, 0, none⟩), .int .i64 at_, .string s].toArray F [.cells d [x, .slice (some ⟨rb, 0, none⟩) 2048 2048, svOf gl lg.length, .int .i64 p] 47 (0, 0), .cells rb (strs bl) 9 (0, 0), .own (svOf gl lg.length) lg.length 29 2 (logCells lg)]
    (fun e H => e = .returned (.int .i64 (wcode (p != 0) at_ s)) ∧ ∃ bl' gl' lg' p', ((wcode (p != 0) at_ s ≠ 0 ∧ bl' = bl ∧ gl' = gl ∧ lg' = lg ∧ p' = p) ∨ (wcode (p != 0) at_ s = 0 ∧ gl' ≠ none ∧ bl' = bl.set at_.toNat s ∧ lg' = lg ++ [(at_, s)] ∧ p' = wPow p)) ∧
      H = [.cells d [x, .slice (some ⟨rb, 0, none⟩) 2048 2048, svOf gl' lg'.length, .int .i64 p'] 47 (0, 0), .cells rb (strs bl') 9 (0, 0), .own (svOf gl' lg'.length) lg'.length 29 2 (logCells lg')]) := by
  refine (r5write_ok F d x rb bl gl lg p at_ s hbl hlog hp).mono ?_
  rintro e H ⟨rfl, hA⟩
  refine ⟨rfl, ?_⟩
  rcases hA with ⟨h1, rfl⟩ | ⟨h1, gl', h2, rfl⟩
  · exact ⟨bl, gl, lg, p, .inl ⟨h1, rfl, rfl, rfl, rfl⟩, rfl⟩
  · exact ⟨bl.set at_.toNat s, gl', lg ++ [(at_, s)], wPow p, .inr ⟨h1, h2, rfl, rfl, rfl⟩, rfl⟩
theorem both_comb {es1 : Array MapEntry} {c1 : Nat} {es : Array MapEntry} {c : Nat} {g : Option (Nat × Nat)} {lg : List (Int × ByteArray)} {on : Bool} {l : Int} {g0 : Option (Nat × Nat)} {fi : List ByteArray} {bl : List ByteArray} {gl : Option (Nat × Nat)} {p : Int}
    (I : Both es1 c1 es c g lg on l g0 fi bl gl p) {at_ : Int} {s : ByteArray} {es' : Array MapEntry} {c' : Nat} {g' : Option (Nat × Nat)} {lg' : List (Int × ByteArray)} {on' : Bool} {l' : Int} {bl' : List ByteArray} {gl' : Option (Nat × Nat)} {lg2 : List (Int × ByteArray)} {p' : Int}
    (h1 : ((wcode on at_ s ≠ 0 ∧ es' = es ∧ c' = c ∧ g' = g ∧ lg' = lg ∧ on' = on ∧ l' = l) ∨ (wcode on at_ s = 0 ∧ on = true ∧ MapS es' c' (putM (replay (fromM fi fi.length) lg) at_ s) ∧ g' ≠ none ∧ lg' = lg ++ [(at_, s)] ∧ on' = wOn l ∧ l' = wLeft l)))
    (h2 : ((wcode (p != 0) at_ s ≠ 0 ∧ bl' = bl ∧ gl' = gl ∧ lg2 = lg ∧ p' = p) ∨ (wcode (p != 0) at_ s = 0 ∧ gl' ≠ none ∧ bl' = bl.set at_.toNat s ∧ lg2 = lg ++ [(at_, s)] ∧ p' = wPow p))) :
    lg2 = lg' ∧ Both es1 c1 es' c' g' lg' on' l' g0 fi bl' gl' p' ∧ lg'.length ≤ lg.length + 1 := by
  rw [← I.pw.1] at h2
  rcases h1 with ⟨ha, rfl, rfl, rfl, rfl, rfl, rfl⟩ | ⟨ha, hon, M', hg, rfl, rfl, rfl⟩
  · rcases h2 with ⟨_, rfl, rfl, rfl, rfl⟩ | ⟨hb, _⟩
    · exact ⟨rfl, I, by omega⟩
    · exact absurd hb ha
  · rcases h2 with ⟨hb, _⟩ | ⟨_, hgl, rfl, rfl, rfl⟩
    · exact absurd ha hb
    · have hin := wcode_at ha
      exact ⟨rfl, ⟨I.M1, by rw [replay_push]; exact M', I.fi0, I.g0, by rw [replay_push]; exact blk_set I.B ⟨hin.1, hin.2.1⟩ s, logOk_push I.ok hin, ⟨fun e => absurd e hg, by simp⟩, ⟨fun e => absurd e hgl, by simp⟩, I.pw.write hon, by unfold wLeft; have := I.hl; split <;> omega⟩, by simp⟩
abbrev logF (p : Int × ByteArray) : List Value := [.int .i64 p.1, .string p.2]
theorem putAt_log : ∀ (L : List (Int × ByteArray)) (i : Nat) (p : Int × ByteArray), i < L.length → putAt (logCells L) (i * 2) (logF p) = logCells (L.set i p)
  | [], _, _, h => by simp at h
  | q :: L, 0, p, _ => by simp [putAt, logCells]
  | q :: L, i + 1, p, h => by
    have ih := putAt_log L i p (by simpa using h)
    have e : putAt (logCells (q :: L)) ((i + 1) * 2) (logF p) = [.int .i64 q.1, .string q.2] ++ putAt (logCells L) (i * 2) (logF p) := by
      simp [putAt, logCells, Nat.succ_mul]
    rw [e, ih]; simp [logCells]
set_option maxHeartbeats 8000000 in
theorem apart_ok (F : Mem) (oa : Option Addr) (ca : Nat) (im : List ByteArray) (ha : SlF F 1 oa im.length (strs im)) (hca : oa = none → ca = 0) (at_ : Int) (s : ByteArray) (hr : at_ ≤ 9223372036854775807) (hlen : (im.length + 1) * 16 ≤ 140737488355328) :
    FT Try.prog 5 [.slice oa im.length ca, .agg #[.int .i64 at_, .string s]].toArray F [] (Ret (.bool true)) := by
  refine FT.of_body Try.func5 rfl Try.ntmps5 (by simp) fun C hC => ?_
  subst hC
  conv => whnf
  intro b
  conv => whnf
  refine CallS.mk Try.call7 ⟨[], _, _, Sub.refl _, fun F' hF' => lives_ok F', ?_⟩
  rintro e A' ⟨rfl, rfl⟩
  conv => whnf
  intro b0
  conv => whnf
  refine BuiltV.sub (Sub.own (n := 0) (sz := 1) rfl (by decide)) ?_
  refine BuiltV.append_sv (g := some (b0, 0)) (n := 0) (sz := 1) Try.underlying27 rfl rfl rfl rfl (by decide) (Src.foreign ha hca) (by simp) (by simp [Value.oneCell']) (by show (0 + im.length) * 16 ≤ _; omega) (by omega) fun g hg => ?_
  obtain ⟨gb, gc, rfl⟩ : ∃ b c, g = some (b, c) := by
    cases g with
    | none => exact absurd (hg.1 rfl).1 (by simp)
    | some p => exact ⟨p.1, p.2, rfl⟩
  rw [Nat.zero_add]
  conv => whnf
  intro b1
  conv => whnf
  refine BuiltV.append (sv := svOf (some (gb, gc)) im.length) (m := 1) Try.underlying27 rfl rfl rfl rfl (by decide) (Row.cells 1) rfl (by decide) rfl (by show (im.length + 1) * 16 ≤ _; omega) (by omega) fun gs gsc => ?_
  obtain ⟨sp, hsp⟩ : ∃ x : ByteArray, x = ⟨#[115, 112, 97, 114, 101]⟩ := ⟨_, rfl⟩
  rw [← hsp, show (([] : List Value) ++ strs im) ++ List.take 1 (List.drop 0 [Value.string sp]) = strs im ++ [.string sp] from rfl]
  have hpre : (strs im ++ [Value.string sp]).take (im.length * 1) = strs im := by rw [Nat.mul_one, List.take_append_of_le_length (by simp), List.take_of_length_le (by simp)]
  conv => whnf
  refine DoV.slice_own Try.underlying27 rfl (by omega) (by omega) ?_
  conv => whnf
  refine CallS.mk Try.call19 ⟨[], _, _, Sub.refl _, fun F' hF' => from_ok F' (some ⟨gs, 0, none⟩) gsc im (by have := SlF.own_pre (n := im.length) (sz := 1) (b := gs) hF' (by simp); rwa [hpre] at this), ?_⟩
  rintro e A' (⟨h0, rfl, rfl⟩ | ⟨h0, d, r, rb, es, c, M, rfl, rfl⟩)
  · conv => whnf
    refine CallS.mk Try.call20 ⟨[], _, _, Sub.refl _, fun F' hF' => r5from_ok F' oa ca im (ha.ext hF'.F) hca, ?_⟩
    rintro e A' (⟨h1, rfl, rfl⟩ | ⟨h1, _⟩)
    · conv => whnf
      rw [show (fromC im != fromC im) = false from bne_self_eq_false _]
      conv => whnf
      refine ⟨⟨by omega, by omega⟩, ?_⟩
      conv => whnf
      refine LoadV.os (l := strs im ++ [.string sp]) rfl (v := .string sp) (by show (strs im ++ [.string sp])[0 + im.length]? = _; rw [List.getElem?_append_right (by simp)]; simp) ?_
      conv => whnf
      rw [show (!sp.toList == sp.toList) = false by rw [show (sp.toList == sp.toList) = true from beq_self_eq_true _]; rfl]
      conv => whnf
      refine CallS.mk Try.call14 ⟨[], _, _, Sub.refl _, fun F' hF' => same_ok F' (some ⟨gs, 0, none⟩) oa gsc ca im im (by have := SlF.own_pre (n := im.length) (sz := 1) (b := gs) hF' (by simp); rwa [hpre] at this) (ha.ext hF'.F) (by omega), ?_⟩
      rw [show decide (im = im) = true from decide_eq_true rfl]
      rintro e A' ⟨rfl, rfl⟩
      conv => whnf
      rw [show (fromC im != 0) = true from bne_iff_ne.2 h0]
      conv => whnf
      repeat (first | (refine LoadV.s rfl rfl (forceV_of ?_); conv => whnf) | (refine LoadV.s rfl rfl ?_; conv => whnf) | (refine StoreV.c rfl rfl (Nat.le_of_ble_eq_true rfl) rfl ?_; conv => whnf) | (refine LoadV.a _ rfl (Nat.le_of_ble_eq_true rfl) ?_; conv => whnf) | (refine DrawI.quiet (by kernel_rfl) (by kernel_rfl) ?_; conv => whnf) | (refine ArI.in64 (by omega) ?_; conv => whnf) | (refine ArI.inU8 (by omega) ?_; conv => whnf) | (refine ArI.inU64 (by omega) ?_; conv => whnf) | (refine ArI.inU32 (by omega) ?_; conv => whnf) | (refine RetI.one Try.results5 rfl ?_; conv => whnf) | (refine RetI.two Try.results5 rfl rfl ?_; conv => whnf) | (refine RetI.three Try.results5 rfl rfl rfl ?_; conv => whnf) | (refine RetI.none Try.results5 ?_; conv => whnf) | (refine ⟨by first | decide | omega, ?_⟩; conv => whnf))
      exact ⟨_, Sub.sel [] rfl, rfl, rfl⟩
    · exact absurd h1 h0
  · conv => whnf
    refine CallS.mk Try.call20 ⟨[], [_, _, _, _, _, _], _, Sub.sel [0, 1, 2, 3, 5, 6] rfl, fun F' hF' => r5from_ok F' oa ca im (ha.ext hF'.F) hca, ?_⟩
    rintro e A' (⟨h1, _⟩ | ⟨h1, rd, g0, rr, bl, hbl, hg0, rfl, rfl⟩)
    · exact absurd h0 h1
    · conv => whnf
      refine ⟨⟨by omega, by omega⟩, ?_⟩
      conv => whnf
      refine LoadV.os (l := strs im ++ [.string sp]) rfl (v := .string sp) (by show (strs im ++ [.string sp])[0 + im.length]? = _; rw [List.getElem?_append_right (by simp)]; simp) ?_
      conv => whnf
      rw [show (!sp.toList == sp.toList) = false by rw [show (sp.toList == sp.toList) = true from beq_self_eq_true _]; rfl]
      conv => whnf
      refine CallS.mk Try.call14 ⟨[], _, _, Sub.refl _, fun F' hF' => same_ok F' (some ⟨gs, 0, none⟩) oa gsc ca im im (by have := SlF.own_pre (n := im.length) (sz := 1) (b := gs) hF' (by simp); rwa [hpre] at this) (ha.ext hF'.F) (by omega), ?_⟩
      rw [show decide (im = im) = true from decide_eq_true rfl]
      rintro e A' ⟨rfl, rfl⟩
      conv => whnf
      refine CallS.mk Try.call8 ⟨[], [_, _, _, _, _, _, _, _, _, _], _, Sub.sel [0, 1, 2, 3, 4, 5, 6, 7, 8, 9] rfl, fun F' hF' => new_ok F', ?_⟩
      rintro e A' ⟨oe, re, rbe, rfl, rfl⟩
      conv => whnf
      obtain ⟨xa, hxa⟩ : ∃ x : ByteArray, x = ⟨#[115, 112, 111, 105, 108, 116]⟩ := ⟨_, rfl⟩
      rw [← hxa]
      have hsp2 : strs im ++ [Value.string sp] = strs (im ++ [sp]) := (List.map_append (f := Value.string) (l₁ := im) (l₂ := [sp])).symm
      refine LoopI.by_state (σ := Nat × List ByteArray) (fun x => [(3, .pointer (some ⟨b, 0, none⟩)), (6, .slice (some ⟨gs, 0, none⟩) im.length gsc), (7, .pointer (some ⟨d, 0, none⟩)), (9, .pointer (some ⟨rd, 0, none⟩)), (11, .pointer (some ⟨oe, 0, none⟩)), (65, .int .i64 (im.length : Int)), (66, .int .i64 (x.1 : Int))])
        (fun x => .own (.slice (some ⟨gs, 0, none⟩) (im.length + 1) gsc) (im.length + 1) 9 1 (strs x.2) :: .cells b [.int .i64 at_, .string s] 29 (0, 0) :: .cells oe [.map (some re), .map (some rbe), .slice none 0 0, .bool true, .int .i64 (-1)] 59 (0, 0) :: .obj re (.map #[] 0) :: .obj rbe (.map #[] 0) :: .own (.slice none 0 0) 0 29 2 [] :: bothH d r rb es c es c none [] true (-1) rd g0 im rr bl none (-1))
        (fun x => x.1 ≤ im.length ∧ x.2.length = im.length + 1) (fun x => im.length - x.1) (0, im ++ [sp]) ⟨by simp, by simp⟩ ⟨rfl, rfl, rfl, rfl, rfl, rfl, rfl, trivial⟩ (by rw [← hsp2]; exact Sub.sel [12, 13, 0, 1, 2, 3, 8, 9, 10, 11, 4, 5, 6, 7] rfl) ?_
      rintro ⟨i, X⟩ f0 ⟨hi, hX⟩
      dsimp only at hi hX ⊢
      conv => whnf
      refine cond_dec (fun h => ?_) (fun h => ?_)
      · have hil : i < X.length := by omega
        conv => whnf
        refine ⟨by omega, ?_⟩
        conv => whnf
        refine StoreV.os (l := strs X) rfl rfl (by show 0 + i + 1 ≤ _; simp; omega) rfl ?_
        rw [show (Value.string xa).cells.toList = [.string xa] from rfl]
        rw [show elemOff 0 (i : Int) (Try.prog.types[9]'(by decide)).size = 0 + i from rfl, putAt_strs X i _ hil]
        conv => whnf
        refine ArI.to64 ((i + 1 : Nat) : Int) (by omega) (by omega) ?_
        conv => whnf
        exact ⟨(i + 1, X.set i xa), _, by dsimp only; omega, Sub.refl _, ⟨by dsimp only; omega, by simp [hX]⟩, ⟨rfl, rfl, rfl, rfl, rfl, rfl, rfl, trivial⟩, rfl⟩
      · conv => whnf
        refine LoadV.s rfl rfl ?_
        conv => whnf
        refine LoadV.s rfl rfl ?_
        conv => whnf
        have I : Both es c es c none [] true (-1) g0 im bl none (-1) := ⟨M, M, h0, fun h => absurd h hg0, blk_from hbl, (by intro p hp; cases hp), by simp, by simp, Pow.new, by show (-1 : Int) ≤ _; decide⟩
        refine CallS.mk Try.call11 ⟨[_, _, _, _], [_, _, _, _, _, _, _, _, _], _, Sub.sel [6, 7, 8, 9, 1, 2, 3, 4, 5, 10, 11, 12, 13] rfl, fun F' hF' => write_both F' d r rb _ _ es c _ I.M none [] true (-1) at_ s (by decide) (by decide), ?_⟩
        rintro e A' ⟨rfl, es', c', g', lg', on', l', hW, rfl⟩
        conv => whnf
        refine LoadV.s rfl rfl ?_
        conv => whnf
        refine LoadV.s rfl rfl ?_
        conv => whnf
        refine CallS.mk Try.call21 ⟨[_, _, _], [_, _, _, _, _, _, _, _, _], _, Sub.sel [9, 11, 12, 0, 1, 2, 3, 5, 6, 7, 8, 10] rfl, fun F' hF' => r5write_both F' rd _ rr bl none [] (-1) at_ s hbl.1 (by decide) (by decide), ?_⟩
        rintro e A' ⟨rfl, bl', gl', lg2, p', hW2, rfl⟩
        obtain ⟨rfl, I', hl1⟩ := both_comb I hW hW2
        clear hW hW2 I
        replace hl1 : lg2.length ≤ 1 := by simpa using hl1
        have hIn : InDisk (replay (fromM im im.length) lg2) := inDisk_replay I'.ok (inDisk_from (fromC_len I'.fi0))
        conv => whnf
        refine CallS.mk Try.call9 ⟨[_, _, _, _], [_, _, _, _, _, _, _, _], _, Sub.sel [3, 4, 5, 6, 0, 1, 2, 7, 8, 9, 10, 11] rfl, fun F' hF' => image_cp F' d r rb _ es' c' _ I'.M hIn (svOf g' lg2.length) lg2 on' l', ?_⟩
        rintro e A' ⟨bi, im2, him, rfl, rfl⟩
        conv => whnf
        refine CallS.mk Try.call9 ⟨[_, _, _, _], [_, _, _, _, _, _, _, _, _], _, Sub.sel [1, 2, 3, 4, 0, 5, 6, 7, 8, 9, 10, 11, 12] rfl, fun F' hF' => image_cp F' d r rb _ es' c' _ I'.M hIn (svOf g' lg2.length) lg2 on' l', ?_⟩
        rintro e A' ⟨bj, im3, him3, rfl, rfl⟩
        obtain rfl : im3 = im2 := him3.trans him.symm
        conv => whnf
        refine CallS.mk Try.call10 ⟨[_, _, _, _], [_, _, _, _, _, _, _, _, _, _], _, Sub.sel [1, 2, 3, 4, 0, 5, 6, 7, 8, 9, 10, 11, 12, 13] rfl, fun F' hF' => writes_cp F' d r rb _ _ g' lg2 on' l' I'.hg (by omega), ?_⟩
        rintro e A' ⟨gw, lk, hlk, hgw, rfl, rfl⟩
        obtain rfl : lk = lg2 := hlk
        conv => whnf
        refine CallS.mk Try.call10 ⟨[_, _, _, _], [_, _, _, _, _, _, _, _, _, _, _], _, Sub.sel [1, 2, 3, 4, 0, 5, 6, 7, 8, 9, 10, 11, 12, 13, 14] rfl, fun F' hF' => writes_cp F' d r rb _ _ g' lk on' l' I'.hg (by omega), ?_⟩
        rintro e A' ⟨gx, ly, hly, hgx, rfl, rfl⟩
        obtain rfl : ly = lk := hly
        have himl : im3.length ≤ 2048 := by rw [him]; exact imageL_le _ hIn
        conv => whnf
        obtain ⟨xm, hxm⟩ : ∃ x : ByteArray, x = ⟨#[109, 97, 114, 107]⟩ := ⟨_, rfl⟩
        rw [← hxm]
        refine LoopI.by_state (σ := Nat × List ByteArray) (fun x => [(7, .pointer (some ⟨d, 0, none⟩)), (9, .pointer (some ⟨rd, 0, none⟩)), (11, .pointer (some ⟨oe, 0, none⟩)), (13, svOf (some (bi, im3.length)) im3.length), (14, .slice (some ⟨bj, 0, none⟩) im3.length im3.length), (15, svOf gw ly.length), (16, svOf gx ly.length), (94, .int .i64 (im3.length : Int)), (95, .int .i64 (x.1 : Int))])
          (fun x => [.own (svOf (some (bi, im3.length)) im3.length) im3.length 9 1 (strs x.2), .own (svOf gw ly.length) ly.length 29 2 (logCells ly), .own (svOf gx ly.length) ly.length 29 2 (logCells ly), .cells bj (strs im3) 9 (0, 0),
            .cells oe [.map (some re), .map (some rbe), .slice none 0 0, .bool true, .int .i64 (-1)] 59 (0, 0), .obj re (.map #[] 0), .obj rbe (.map #[] 0), .own (.slice none 0 0) 0 29 2 [],
            .cells d [.map (some r), .map (some rb), svOf g' ly.length, .bool on', .int .i64 l'] 59 (0, 0), .obj r (.map es c), .obj rb (.map es' c'), .own (svOf g' ly.length) ly.length 29 2 (logCells ly),
            .cells rd [svOf g0 im.length, .slice (some ⟨rr, 0, none⟩) 2048 2048, svOf gl' ly.length, .int .i64 p'] 47 (0, 0), .own (svOf g0 im.length) im.length 9 1 (strs im), .cells rr (strs bl') 9 (0, 0), .own (svOf gl' ly.length) ly.length 29 2 (logCells ly)])
          (fun x => x.1 ≤ im3.length ∧ x.2.length = im3.length) (fun x => im3.length - x.1) (0, im3) ⟨by simp, rfl⟩ ⟨rfl, rfl, rfl, rfl, rfl, rfl, rfl, rfl, rfl, trivial⟩ (Sub.trans (Sub.sel [7, 5, 0, 6, 11, 12, 13, 14, 1, 2, 3, 4, 8, 15, 9, 10] rfl) (sub_own4 (by simp) (by simp only [maxLen]; omega))) ?_
        rintro ⟨i, X⟩ f0 ⟨hi, hX⟩
        dsimp only at hi hX ⊢
        conv => whnf
        refine cond_dec (fun h => ?_) (fun h => ?_)
        · have hil : i < X.length := by omega
          conv => whnf
          refine ⟨by omega, ?_⟩
          conv => whnf
          refine StoreV.os (l := strs X) rfl rfl (by show 0 + i + 1 ≤ _; simp; omega) rfl ?_
          rw [show (Value.string xm).cells.toList = [.string xm] from rfl]
          rw [show elemOff 0 (i : Int) (Try.prog.types[9]'(by decide)).size = 0 + i from rfl, putAt_strs X i _ hil]
          conv => whnf
          refine ArI.to64 ((i + 1 : Nat) : Int) (by omega) (by omega) ?_
          conv => whnf
          exact ⟨(i + 1, X.set i xm), _, by dsimp only; omega, Sub.refl _, ⟨by dsimp only; omega, by simp [hX]⟩, ⟨rfl, rfl, rfl, rfl, rfl, rfl, rfl, rfl, rfl, trivial⟩, rfl⟩
        · conv => whnf
          refine LoopI.by_state (σ := Nat × List (Int × ByteArray)) (fun x => [(7, .pointer (some ⟨d, 0, none⟩)), (9, .pointer (some ⟨rd, 0, none⟩)), (11, .pointer (some ⟨oe, 0, none⟩)), (13, svOf (some (bi, im3.length)) im3.length), (14, .slice (some ⟨bj, 0, none⟩) im3.length im3.length), (15, svOf gw ly.length), (16, svOf gx ly.length), (103, .int .i64 (ly.length : Int)), (104, .int .i64 (x.1 : Int))])
            (fun x => [.own (svOf (some (bi, im3.length)) im3.length) im3.length 9 1 (strs X), .own (svOf gw ly.length) ly.length 29 2 (logCells x.2), .own (svOf gx ly.length) ly.length 29 2 (logCells ly), .cells bj (strs im3) 9 (0, 0),
            .cells oe [.map (some re), .map (some rbe), .slice none 0 0, .bool true, .int .i64 (-1)] 59 (0, 0), .obj re (.map #[] 0), .obj rbe (.map #[] 0), .own (.slice none 0 0) 0 29 2 [],
            .cells d [.map (some r), .map (some rb), svOf g' ly.length, .bool on', .int .i64 l'] 59 (0, 0), .obj r (.map es c), .obj rb (.map es' c'), .own (svOf g' ly.length) ly.length 29 2 (logCells ly),
            .cells rd [svOf g0 im.length, .slice (some ⟨rr, 0, none⟩) 2048 2048, svOf gl' ly.length, .int .i64 p'] 47 (0, 0), .own (svOf g0 im.length) im.length 9 1 (strs im), .cells rr (strs bl') 9 (0, 0), .own (svOf gl' ly.length) ly.length 29 2 (logCells ly)])
            (fun x => x.1 ≤ ly.length ∧ x.2.length = ly.length) (fun x => ly.length - x.1) (0, ly) ⟨by simp, rfl⟩ ⟨rfl, rfl, rfl, rfl, rfl, rfl, rfl, rfl, rfl, trivial⟩ (Sub.refl _) ?_
          rintro ⟨i, L⟩ f0 ⟨hi, hL⟩
          dsimp only at hi hL ⊢
          conv => whnf
          refine cond_dec (fun h => ?_) (fun h => ?_)
          · have hil : i < L.length := by omega
            obtain ⟨gwb, gwc, rfl⟩ := gsome hgw (by intro e; rw [e] at hL; rw [hL] at hil; simp at hil)
            conv => whnf
            refine ⟨by omega, ?_⟩
            conv => whnf
            refine StoreV.os (l := logCells L) rfl rfl (by show 0 + i * 2 + 2 ≤ _; rw [logCells_length]; omega) rfl ?_
            rw [show elemOff 0 (i : Int) (Try.prog.types[29]'(by decide)).size = i * 2 by show 0 + i * 2 = _; omega]
            rw [show (Value.agg #[Value.int IntKind.i64 (-1), Value.string { data := #[] }]).cells.toList = logF (-1, nul) from rfl, putAt_log L i _ hil]
            conv => whnf
            refine ArI.to64 ((i + 1 : Nat) : Int) (by omega) (by omega) ?_
            conv => whnf
            exact ⟨(i + 1, L.set i (-1, nul)), _, by dsimp only; omega, Sub.refl _, ⟨by dsimp only; omega, by simp [hL]⟩, ⟨rfl, rfl, rfl, rfl, rfl, rfl, rfl, rfl, rfl, trivial⟩, rfl⟩
          · conv => whnf
            intro bm
            conv => whnf
            refine BuiltV.append (sv := svOf (some (bi, im3.length)) im3.length) (m := 1) Try.underlying27 rfl rfl rfl rfl (by decide) (Row.cells 1) rfl (by decide) rfl (by show (im3.length + 1) * 16 ≤ _; omega) (by omega) fun gb2 gc2 => ?_
            conv => whnf
            intro bn
            conv => whnf
            refine BuiltV.append (sv := svOf gw ly.length) (m := 1) Try.underlying22 rfl rfl rfl rfl (by decide) (Row.cells 2) rfl (by decide) rfl (by show (ly.length + 1) * 24 ≤ _; omega) (by omega) fun gb3 gc3 => ?_
            conv => whnf
            have htr : trimB bl' = im3 := (trim_image I'.M hIn I'.B).trans him.symm
            have hrc := fun (F' : Mem) => r5image_ok F' rd (svOf g0 im.length) (svOf gl' ly.length) rr bl' p' I'.B.1
            rw [htr] at hrc
            have him4 : ∀ x, x = imageL (replay (fromM im im.length) ly) → x = im3 := fun x hx => hx.trans him.symm
            clear him htr
            have himb : im3.length ≤ 9223372036854775807 := by omega
            have hlyb : ly.length ≤ 9223372036854775807 := by omega
            refine DrawI.mixed [2, 3, 4, 6, 8, 9, 11, 17, 19, 21, 26, 28, 30] [_] (by kernel_rfl) (by kernel_rfl) (by kernel_rfl) (by kernel_rfl) (by kernel_rfl) (Sub.sel [14] rfl) ?_
            conv => whnf
            refine CallS.mk Try.call22 ⟨[_, _], [_, _, _, _, _, _, _, _, _, _, _, _], _, Sub.sel [14, 16, 4, 5, 6, 7, 8, 9, 10, 11, 12, 13, 15, 17] rfl, fun F' hF' => hrc F', ?_⟩
            rintro e A' ⟨gi, hgi, rfl, rfl⟩
            obtain ⟨gib, gic, rfl⟩ : ∃ b c, gi = some (b, c) := by
              cases gi with
              | none => exact absurd rfl hgi
              | some p => exact ⟨p.1, p.2, rfl⟩
            conv => whnf
            refine ⟨Sub.sel [1] rfl, ?_⟩
            conv => whnf
            refine CallS.mk Try.call14 ⟨[], _, _, Sub.refl _, fun F' hF' => same_ok F' (some ⟨bj, 0, none⟩) (some ⟨gib, 0, none⟩) im3.length gic im3 im3 (SlF.cells hF' (by simp)) (SlF.sv (g := some (gib, gic)) hF' (T := 9) (by simp) (by simp)) himb, ?_⟩
            rw [show decide (im3 = im3) = true from decide_eq_true rfl]
            rintro e A' ⟨rfl, rfl⟩
            conv => whnf
            refine ⟨Sub.sel [1] rfl, ?_⟩
            conv => whnf
            refine ⟨Sub.sel [1] rfl, ?_⟩
            conv => whnf
            refine CallS.mk Try.call9 ⟨[_, _, _, _], [_, _, _, _, _, _, _, _, _], _, Sub.sel [9, 10, 11, 12, 1, 2, 3, 5, 6, 7, 8, 13, 14] rfl, fun F' hF' => image_cp F' d r rb _ es' c' _ I'.M hIn (svOf g' ly.length) ly on' l', ?_⟩
            rintro e A' ⟨bz, im5, him5, rfl, rfl⟩
            obtain rfl : im5 = im3 := him4 _ him5
            conv => whnf
            refine ⟨Sub.sel [5] rfl, ?_⟩
            conv => whnf
            refine CallS.mk Try.call22 ⟨[_, _], [_, _, _, _, _, _, _, _, _, _, _, _], _, Sub.sel [5, 6, 0, 1, 2, 3, 4, 7, 8, 9, 10, 11, 12, 13] rfl, fun F' hF' => hrc F', ?_⟩
            rintro e A' ⟨gj, hgj, rfl, rfl⟩
            obtain ⟨gjb, gjc, rfl⟩ : ∃ b c, gj = some (b, c) := by
              cases gj with
              | none => exact absurd rfl hgj
              | some p => exact ⟨p.1, p.2, rfl⟩
            conv => whnf
            refine ⟨Sub.sel [1] rfl, ?_⟩
            conv => whnf
            refine CallS.mk Try.call14 ⟨[], _, _, Sub.refl _, fun F' hF' => same_ok F' (some ⟨bz, 0, none⟩) (some ⟨gjb, 0, none⟩) im5.length gjc im5 im5 (SlF.cells hF' (by simp)) (SlF.sv (g := some (gjb, gjc)) hF' (T := 9) (by simp) (by simp)) himb, ?_⟩
            rw [show decide (im5 = im5) = true from decide_eq_true rfl]
            rintro e A' ⟨rfl, rfl⟩
            conv => whnf
            refine ⟨Sub.sel [1] rfl, ?_⟩
            conv => whnf
            refine ⟨Sub.sel [1] rfl, ?_⟩
            conv => whnf
            refine LoadV.s rfl rfl (forceV_of ?_)
            conv => whnf
            refine CallS.mk Try.call15 ⟨[], _, _, Sub.refl _, fun F' hF' => samew_ok F' (oaOf gx) (oaOf gl') (capOf gx) (capOf gl') ly ly (SlF.sv hF' (T := 29) (logCells_length _) (fun e => by rw [hgx.1 e]; rfl)) (SlF.sv hF' (T := 29) (logCells_length _) (fun e => by rw [I'.hgl.1 e]; rfl)) hlyb, ?_⟩
            rw [show decide (ly = ly) = true from decide_eq_true rfl]
            rintro e A' ⟨rfl, rfl⟩
            conv => whnf
            refine ⟨Sub.sel [1] rfl, ?_⟩
            conv => whnf
            refine ⟨Sub.sel [1] rfl, ?_⟩
            conv => whnf
            refine CallS.mk Try.call10 ⟨[_, _, _, _], [_, _, _, _, _, _], _, Sub.sel [4, 5, 6, 7, 1, 9, 10, 11, 12, 14] rfl, fun F' hF' => writes_cp F' d r rb _ _ g' ly on' l' I'.hg (by omega), ?_⟩
            rintro e A' ⟨gz, lz, hlz, hgz, rfl, rfl⟩
            obtain rfl : lz = ly := hlz
            conv => whnf
            refine ⟨Sub.sel [5] rfl, ?_⟩
            conv => whnf
            refine LoadV.s rfl rfl (forceV_of ?_)
            conv => whnf
            refine CallS.mk Try.call15 ⟨[], _, _, Sub.refl _, fun F' hF' => samew_ok F' (oaOf gz) (oaOf gl') (capOf gz) (capOf gl') lz lz (SlF.sv hF' (T := 29) (logCells_length _) (fun e => by rw [hgz.1 e]; rfl)) (SlF.sv hF' (T := 29) (logCells_length _) (fun e => by rw [I'.hgl.1 e]; rfl)) hlyb, ?_⟩
            rw [show decide (lz = lz) = true from decide_eq_true rfl]
            rintro e A' ⟨rfl, rfl⟩
            conv => whnf
            refine ⟨Sub.sel [5] rfl, ?_⟩
            conv => whnf
            refine ⟨Sub.sel [5] rfl, ?_⟩
            conv => whnf
            refine CallS.mk Try.call9 ⟨[_, _, _, _], [_], _, Sub.sel [6, 7, 8, 9, 5] rfl, fun F' hF' => image_cp F' oe re rbe _ #[] 0 [] MapOk.empty inDisk_nil (.slice none 0 0) [] true (-1), ?_⟩
            rintro e A' ⟨bo, im6, him6, rfl, rfl⟩
            obtain rfl : im6 = [] := him6.trans rfl
            conv => whnf
            refine ⟨Sub.sel [5] rfl, ?_⟩
            conv => whnf
            refine ArI.to64 ((im5.length + 1 : Nat) : Int) (by omega) (by omega) ?_
            conv => whnf
            rw [show (((im5.length + 1 : Nat) : Int) == ((im5.length + 1 : Nat) : Int)) = true from beq_self_eq_true _]
            conv => whnf
            refine ArI.to64 ((lz.length + 1 : Nat) : Int) (by omega) (by omega) ?_
            conv => whnf
            repeat (first | (refine LoadV.s rfl rfl (forceV_of ?_); conv => whnf) | (refine LoadV.s rfl rfl ?_; conv => whnf) | (refine StoreV.c rfl rfl (Nat.le_of_ble_eq_true rfl) rfl ?_; conv => whnf) | (refine LoadV.a _ rfl (Nat.le_of_ble_eq_true rfl) ?_; conv => whnf) | (refine DrawI.quiet (by kernel_rfl) (by kernel_rfl) ?_; conv => whnf) | (refine ArI.in64 (by omega) ?_; conv => whnf) | (refine ArI.inU8 (by omega) ?_; conv => whnf) | (refine ArI.inU64 (by omega) ?_; conv => whnf) | (refine ArI.inU32 (by omega) ?_; conv => whnf) | (refine RetI.one Try.results5 rfl ?_; conv => whnf) | (refine RetI.two Try.results5 rfl rfl ?_; conv => whnf) | (refine RetI.three Try.results5 rfl rfl rfl ?_; conv => whnf) | (refine RetI.none Try.results5 ?_; conv => whnf) | (refine ⟨by first | decide | omega, ?_⟩; conv => whnf))
            exact ⟨_, Sub.sel [] rfl, ret_bool (beq_self_eq_true _), rfl⟩
end Go.Proofs.Ytjjkpkacembhpaa
