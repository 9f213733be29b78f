/- One step of both disks. -/
import Derived.Test.YtjjkpkacembhpaaDisk11
import Derived.Test.YtjjkpkacembhpaaDisk7
namespace Go.Proofs.Ytjjkpkacembhpaa
set_option linter.unusedVariables false
set_option linter.unusedSimpArgs false
open SL Go.RowKit Go.Maps

/-- The power of both. -/
def Pow (on : Bool) (l p : Int) : Prop := on = (p != 0) ∧ (on = true → (l > 0 ∧ p = l) ∨ (l ≤ 0 ∧ p = -1))
theorem Pow.write {on : Bool} {l p : Int} (h : Pow on l p) (ho : on = true) : Pow (wOn l) (wLeft l) (wPow p) := by
  obtain ⟨h1, h2⟩ := h
  rcases h2 ho with ⟨h3, rfl⟩ | ⟨h3, rfl⟩
  · unfold wOn wLeft wPow
    rw [if_pos h3, if_pos h3]
    refine ⟨?_, fun h => ?_⟩
    · rw [Bool.eq_iff_iff]; simp; omega
    · have := of_decide_eq_true h; exact .inl ⟨this, rfl⟩
  · unfold wOn wLeft
    rw [if_neg (by omega), if_neg (by omega)]
    exact ⟨rfl, fun _ => .inr ⟨h3, rfl⟩⟩
theorem Pow.up (n : Int) : Pow (n != 0) n (max n (-1)) := by
  refine ⟨?_, fun h => ?_⟩
  · rw [Bool.eq_iff_iff]; simp; omega
  · have : n ≠ 0 := by simpa using h
    omega
theorem Pow.off (l : Int) : Pow false l 0 := ⟨rfl, fun h => by cases h⟩
theorem Pow.new : Pow true (-1) (-1) := ⟨rfl, fun _ => .inr ⟨by decide, rfl⟩⟩
theorem Pow.le {on : Bool} {l p : Int} (h : Pow on l p) (hl : l ≤ 9223372036854775807) : p ≤ 9223372036854775807 := by
  obtain ⟨h1, h2⟩ := h
  cases on with
  | false => have : p = 0 := by simpa using h1.symm
             omega
  | true => have := h2 rfl; omega
abbrev bothH (d r rb : Nat) (es1 : Array MapEntry) (c1 : Nat) (es : Array MapEntry) (c : Nat) (g : Option (Nat × Nat)) (lg : List (Int × ByteArray)) (on : Bool) (l : Int)
    (rd : Nat) (g0 : Option (Nat × Nat)) (fi : List ByteArray) (rr : Nat) (bl : List ByteArray) (gl : Option (Nat × Nat)) (p : Int) : Heap :=
  [.cells d [.map (some r), .map (some rb), svOf g lg.length, .bool on, .int .i64 l] 59 (0, 0), .obj r (.map es1 c1), .obj rb (.map es c), .own (svOf g lg.length) lg.length 29 2 (logCells lg),
   .cells rd [svOf g0 fi.length, .slice (some ⟨rr, 0, none⟩) 2048 2048, svOf gl lg.length, .int .i64 p] 47 (0, 0), .own (svOf g0 fi.length) fi.length 9 1 (strs fi), .cells rr (strs bl) 9 (0, 0), .own (svOf gl lg.length) lg.length 29 2 (logCells lg)]
/-- Both disks tell the same. -/
structure Both (es1 : Array MapEntry) (c1 : Nat) (es : Array MapEntry) (c : Nat) (g : Option (Nat × Nat)) (lg : List (Int × ByteArray)) (on : Bool) (l : Int) (g0 : Option (Nat × Nat)) (fi : List ByteArray) (bl : List ByteArray) (gl : Option (Nat × Nat)) (p : Int) : Prop where
  M1 : MapS es1 c1 (fromM fi fi.length)
  M : MapS es c (replay (fromM fi fi.length) lg)
  fi0 : fromC fi = 0
  g0 : g0 = none → fi = []
  B : BlkOk (replay (fromM fi fi.length) lg) bl
  ok : LogOk lg
  hg : g = none ↔ lg = []
  hgl : gl = none ↔ lg = []
  pw : Pow on l p
  hl : l ≤ 9223372036854775807
theorem fromC_len {im : List ByteArray} (h : fromC im = 0) : im.length ≤ 2048 := by
  unfold fromC at h; split at h
  · cases h
  · omega
theorem logOk_pre {lg : List (Int × ByteArray)} (h : LogOk lg) (k : Nat) : LogOk (lg.take k) := fun q hq => h q (List.mem_of_mem_take hq)
theorem blk_at {m : List (Int × ByteArray)} {bl : List ByteArray} (h : BlkOk m bl) (on : Bool) (a : Int) : r5readV on bl a = readV on m a := by
  unfold r5readV readV
  cases on with
  | false => rfl
  | true =>
    rw [if_neg (by simp : ¬ true = false), if_neg (by simp : ¬ true = false)]
    by_cases h1 : a < 0 ∨ a ≥ 2048
    · rw [if_pos h1, if_pos h1]
    · rw [if_neg h1, if_neg h1, h.2 a.toNat (by omega), show ((a.toNat : Nat) : Int) = a by omega]; rfl
set_option maxHeartbeats 4000000 in
theorem step_ok (F : Mem) (d r rb : Nat) (es1 : Array MapEntry) (c1 : Nat) (es : Array MapEntry) (c : Nat) (g : Option (Nat × Nat)) (lg : List (Int × ByteArray)) (on : Bool) (l : Int)
    (rd : Nat) (g0 : Option (Nat × Nat)) (fi : List ByteArray) (rr : Nat) (bl : List ByteArray) (gl : Option (Nat × Nat)) (p : Int) (I : Both es1 c1 es c g lg on l g0 fi bl gl p)
    (kd at_ : Int) (s : ByteArray) (ha : at_ ≤ 9223372036854775807) (hlog : (lg.length + 1) * 24 ≤ 140737488355328) :
    FT Try.prog 24 [.pointer (some ⟨d, 0, none⟩), .pointer (some ⟨rd, 0, none⟩), .agg #[.int .i64 kd, .int .i64 at_, .string s]].toArray F (bothH d r rb es1 c1 es c g lg on l rd g0 fi rr bl gl p)
    (fun e H => e = .returned (.bool true) ∧ ∃ es' c' g' lg' on' l' bl' gl' p', Both es1 c1 es' c' g' lg' on' l' g0 fi bl' gl' p' ∧ lg'.length ≤ lg.length + 1 ∧ H = bothH d r rb es1 c1 es' c' g' lg' on' l' rd g0 fi rr bl' gl' p') := by
  have hbl := I.B.1
  have hp := I.pw.le I.hl
  have hIn : InDisk (replay (fromM fi fi.length) lg) := inDisk_replay I.ok (inDisk_from (fromC_len I.fi0))
  have hon := I.pw.1
  refine FT.of_body Try.func24 rfl Try.ntmps24 (by simp) fun C hC => ?_
  subst hC
  conv => whnf
  intro b
  conv => whnf
  refine LoadV.s rfl rfl ?_
  conv => whnf
  refine cond_split (fun h1 => ?_) (fun h1 => ?_)
  · conv => whnf
    refine DrawI.mixed [5, 11] [_] (by kernel_rfl) (by kernel_rfl) (by kernel_rfl) (by kernel_rfl) (by kernel_rfl) (Sub.sel [0] rfl) ?_
    conv => whnf
    refine LoadV.s rfl rfl ?_
    conv => whnf
    refine LoadV.s rfl rfl ?_
    conv => whnf
    refine CallS.mk Try.call11 ⟨[_, _, _, _], [_, _, _, _, _], _, Sub.sel [1, 2, 3, 4, 0, 5, 6, 7, 8] rfl, fun F' hF' => write_ok F' d r rb _ es c _ I.M (svOf g lg.length) lg on l at_ s hlog I.hl, ?_⟩
    rintro e A' ⟨rfl, hA⟩
    have hcode : wcode on at_ s = wcode (p != 0) at_ s := by rw [hon]
    rcases hA with ⟨hw, rfl⟩ | ⟨hw, hon1, es', c', gb, gc, M', rfl⟩
    · conv => whnf
      refine ⟨Sub.sel [4] rfl, ?_⟩
      conv => whnf
      refine LoadV.s rfl rfl ?_
      conv => whnf
      refine LoadV.s rfl rfl ?_
      conv => whnf
      refine CallS.mk Try.call21 ⟨[_, _, _], [_, _, _, _, _, _], _, Sub.sel [5, 7, 8, 0, 1, 2, 3, 4, 6] rfl, fun F' hF' => r5write_ok F' rd _ rr bl gl lg p at_ s hbl hlog hp, ?_⟩
      rintro e A' ⟨rfl, hB⟩
      rcases hB with ⟨hw2, rfl⟩ | ⟨hw2, _⟩
      · conv => whnf
        refine ⟨Sub.sel [7] rfl, ?_⟩
        conv => whnf
        repeat (first | (refine LoadV.s rfl rfl (forceV_of ?_); conv => whnf) | (refine LoadV.s rfl rfl ?_; conv => whnf) | (refine StoreV.c rfl rfl (Nat.le_of_ble_eq_true rfl) rfl ?_; conv => whnf) | (refine LoadV.a _ rfl (Nat.le_of_ble_eq_true rfl) ?_; conv => whnf) | (refine DrawI.quiet (by kernel_rfl) (by kernel_rfl) ?_; conv => whnf) | (refine ArI.in64 (by omega) ?_; conv => whnf) | (refine ArI.inU8 (by omega) ?_; conv => whnf) | (refine ArI.inU64 (by omega) ?_; conv => whnf) | (refine ArI.inU32 (by omega) ?_; conv => whnf) | (refine RetI.one Try.results24 rfl ?_; conv => whnf) | (refine RetI.two Try.results24 rfl rfl ?_; conv => whnf) | (refine RetI.three Try.results24 rfl rfl rfl ?_; conv => whnf) | (refine RetI.none Try.results24 ?_; conv => whnf) | (refine ⟨by first | decide | omega, ?_⟩; conv => whnf))
        refine ⟨_, Sub.sel [3, 4, 5, 6, 0, 8, 1, 2] rfl, ret_bool (by rw [hcode]; exact beq_self_eq_true _), es, c, g, lg, on, l, bl, gl, p, I, by omega, rfl⟩
      · exact absurd (hcode.trans hw2) hw
    · conv => whnf
      refine ⟨Sub.sel [4] rfl, ?_⟩
      conv => whnf
      refine LoadV.s rfl rfl ?_
      conv => whnf
      refine LoadV.s rfl rfl ?_
      conv => whnf
      refine CallS.mk Try.call21 ⟨[_, _, _], [_, _, _, _, _, _], _, Sub.sel [5, 7, 8, 0, 1, 2, 3, 4, 6] rfl, fun F' hF' => r5write_ok F' rd _ rr bl gl lg p at_ s hbl hlog hp, ?_⟩
      rintro e A' ⟨rfl, hB⟩
      rcases hB with ⟨hw2, _⟩ | ⟨hw2, gl', hgl', rfl⟩
      · exact absurd (hcode.symm.trans hw) hw2
      · obtain ⟨glb, glc, rfl⟩ : ∃ b c, gl' = some (b, c) := by
          cases gl' with
          | none => exact absurd rfl hgl'
          | some p => exact ⟨p.1, p.2, rfl⟩
        have hin := wcode_at hw
        conv => whnf
        refine ⟨Sub.sel [7] rfl, ?_⟩
        conv => whnf
        repeat (first | (refine LoadV.s rfl rfl (forceV_of ?_); conv => whnf) | (refine LoadV.s rfl rfl ?_; conv => whnf) | (refine StoreV.c rfl rfl (Nat.le_of_ble_eq_true rfl) rfl ?_; conv => whnf) | (refine LoadV.a _ rfl (Nat.le_of_ble_eq_true rfl) ?_; conv => whnf) | (refine DrawI.quiet (by kernel_rfl) (by kernel_rfl) ?_; conv => whnf) | (refine ArI.in64 (by omega) ?_; conv => whnf) | (refine ArI.inU8 (by omega) ?_; conv => whnf) | (refine ArI.inU64 (by omega) ?_; conv => whnf) | (refine ArI.inU32 (by omega) ?_; conv => whnf) | (refine RetI.one Try.results24 rfl ?_; conv => whnf) | (refine RetI.two Try.results24 rfl rfl ?_; conv => whnf) | (refine RetI.three Try.results24 rfl rfl rfl ?_; conv => whnf) | (refine RetI.none Try.results24 ?_; conv => whnf) | (refine ⟨by first | decide | omega, ?_⟩; conv => whnf))
        refine ⟨_, Sub.sel [3, 4, 5, 6, 0, 8, 1, 2] rfl, ret_bool (by rw [hcode]; exact beq_self_eq_true _), es', c', some (gb, gc), lg ++ [(at_, s)], wOn l, wLeft l, bl.set at_.toNat s, some (glb, glc), wPow p,
          ⟨I.M1, by rw [replay_push]; exact M', I.fi0, I.g0, by rw [replay_push]; exact blk_set I.B ⟨hin.1, hin.2.1⟩ s, logOk_push I.ok hin, by simp, by simp, I.pw.write hon1, by unfold wLeft; have := I.hl; split <;> omega⟩, by simp, ?_⟩
        have e1 : svOf (some (gb, gc)) (lg ++ [(at_, s)]).length = .slice (some ⟨gb, 0, none⟩) (lg.length + 1) gc := by simp
        rw [bothH, e1]
  · conv => whnf
    refine cond_split (fun h2 => ?_) (fun h2 => ?_)
    · conv => whnf
      refine LoadV.s rfl rfl ?_
      conv => whnf
      refine CallS.mk Try.call18 ⟨[_, _], [_, _, _, _, _, _, _], _, Sub.sel [1, 3, 0, 2, 4, 5, 6, 7, 8] rfl, fun F' hF' => read_ok F' d r rb es c _ I.M _ on l at_, ?_⟩
      rintro e A' ⟨rfl, rfl⟩
      conv => whnf
      refine LoadV.s rfl rfl ?_
      conv => whnf
      refine CallS.mk Try.call31 ⟨[_, _], [_, _, _, _, _, _, _], _, Sub.sel [5, 7, 0, 1, 2, 3, 4, 6, 8] rfl, fun F' hF' => r5read_ok F' rd _ _ rr bl p at_ hbl, ?_⟩
      rintro e A' ⟨rfl, rfl⟩
      rw [← hon, blk_at I.B on at_]
      generalize readV on (replay (fromM fi fi.length) lg) at_ = v
      conv => whnf
      rw [show (v.1.toList == v.1.toList) = true from beq_self_eq_true _]
      conv => whnf
      repeat (first | (refine LoadV.s rfl rfl (forceV_of ?_); conv => whnf) | (refine LoadV.s rfl rfl ?_; conv => whnf) | (refine StoreV.c rfl rfl (Nat.le_of_ble_eq_true rfl) rfl ?_; conv => whnf) | (refine LoadV.a _ rfl (Nat.le_of_ble_eq_true rfl) ?_; conv => whnf) | (refine DrawI.quiet (by kernel_rfl) (by kernel_rfl) ?_; conv => whnf) | (refine ArI.in64 (by omega) ?_; conv => whnf) | (refine ArI.inU8 (by omega) ?_; conv => whnf) | (refine ArI.inU64 (by omega) ?_; conv => whnf) | (refine ArI.inU32 (by omega) ?_; conv => whnf) | (refine RetI.one Try.results24 rfl ?_; conv => whnf) | (refine RetI.two Try.results24 rfl rfl ?_; conv => whnf) | (refine RetI.three Try.results24 rfl rfl rfl ?_; conv => whnf) | (refine RetI.none Try.results24 ?_; conv => whnf) | (refine ⟨by first | decide | omega, ?_⟩; conv => whnf))
      refine ⟨_, Sub.sel [2, 5, 3, 6, 0, 7, 1, 8] rfl, ret_bool (beq_self_eq_true _), es, c, g, lg, on, l, bl, gl, p, I, by omega, rfl⟩
    · conv => whnf
      refine cond_split (fun h3 => ?_) (fun h3 => ?_)
      · conv => whnf
        refine LoadV.s rfl rfl ?_
        conv => whnf
        refine CallS.mk Try.call17 ⟨[_], [_, _, _, _, _, _, _, _], _, Sub.sel [1, 0, 2, 3, 4, 5, 6, 7, 8] rfl, fun F' hF' => up_ok F' d _ _ _ _ _ at_, ?_⟩
        rintro e A' ⟨rfl, rfl⟩
        conv => whnf
        refine LoadV.s rfl rfl ?_
        conv => whnf
        refine CallS.mk Try.call32 ⟨[_], [_, _, _, _, _, _, _, _], _, Sub.sel [5, 0, 1, 2, 3, 4, 6, 7, 8] rfl, fun F' hF' => r5up_ok F' rd _ _ _ _ at_, ?_⟩
        rintro e A' ⟨rfl, rfl⟩
        conv => whnf
        repeat (first | (refine LoadV.s rfl rfl (forceV_of ?_); conv => whnf) | (refine LoadV.s rfl rfl ?_; conv => whnf) | (refine StoreV.c rfl rfl (Nat.le_of_ble_eq_true rfl) rfl ?_; conv => whnf) | (refine LoadV.a _ rfl (Nat.le_of_ble_eq_true rfl) ?_; conv => whnf) | (refine DrawI.quiet (by kernel_rfl) (by kernel_rfl) ?_; conv => whnf) | (refine ArI.in64 (by omega) ?_; conv => whnf) | (refine ArI.inU8 (by omega) ?_; conv => whnf) | (refine ArI.inU64 (by omega) ?_; conv => whnf) | (refine ArI.inU32 (by omega) ?_; conv => whnf) | (refine RetI.one Try.results24 rfl ?_; conv => whnf) | (refine RetI.two Try.results24 rfl rfl ?_; conv => whnf) | (refine RetI.three Try.results24 rfl rfl rfl ?_; conv => whnf) | (refine RetI.none Try.results24 ?_; conv => whnf) | (refine ⟨by first | decide | omega, ?_⟩; conv => whnf))
        refine ⟨_, Sub.sel [1, 3, 4, 5, 0, 6, 7, 8] rfl, rfl, es, c, g, lg, _, _, bl, gl, _, ⟨I.M1, I.M, I.fi0, I.g0, I.B, I.ok, I.hg, I.hgl, Pow.up at_, ha⟩, by omega, rfl⟩
      · conv => whnf
        refine cond_split (fun h4 => ?_) (fun h4 => ?_)
        · conv => whnf
          refine CallS.mk Try.call16 ⟨[_], [_, _, _, _, _, _, _, _], _, Sub.sel [1, 0, 2, 3, 4, 5, 6, 7, 8] rfl, fun F' hF' => off_ok F' d _ _ _ _ _, ?_⟩
          rintro e A' ⟨rfl, rfl⟩
          conv => whnf
          refine CallS.mk Try.call33 ⟨[_], [_, _, _, _, _, _, _, _], _, Sub.sel [5, 0, 1, 2, 3, 4, 6, 7, 8] rfl, fun F' hF' => r5off_ok F' rd _ _ _ _, ?_⟩
          rintro e A' ⟨rfl, rfl⟩
          conv => whnf
          repeat (first | (refine LoadV.s rfl rfl (forceV_of ?_); conv => whnf) | (refine LoadV.s rfl rfl ?_; conv => whnf) | (refine StoreV.c rfl rfl (Nat.le_of_ble_eq_true rfl) rfl ?_; conv => whnf) | (refine LoadV.a _ rfl (Nat.le_of_ble_eq_true rfl) ?_; conv => whnf) | (refine DrawI.quiet (by kernel_rfl) (by kernel_rfl) ?_; conv => whnf) | (refine ArI.in64 (by omega) ?_; conv => whnf) | (refine ArI.inU8 (by omega) ?_; conv => whnf) | (refine ArI.inU64 (by omega) ?_; conv => whnf) | (refine ArI.inU32 (by omega) ?_; conv => whnf) | (refine RetI.one Try.results24 rfl ?_; conv => whnf) | (refine RetI.two Try.results24 rfl rfl ?_; conv => whnf) | (refine RetI.three Try.results24 rfl rfl rfl ?_; conv => whnf) | (refine RetI.none Try.results24 ?_; conv => whnf) | (refine ⟨by first | decide | omega, ?_⟩; conv => whnf))
          refine ⟨_, Sub.sel [1, 3, 4, 5, 0, 6, 7, 8] rfl, rfl, es, c, g, lg, _, l, bl, gl, _, ⟨I.M1, I.M, I.fi0, I.g0, I.B, I.ok, I.hg, I.hgl, Pow.off l, I.hl⟩, by omega, rfl⟩
        · conv => whnf
          refine cond_split (fun h5 => ?_) (fun h5 => ?_)
          · conv => whnf
            refine DrawI.mixed [1, 3, 4, 5, 7, 12] [_, _] (by kernel_rfl) (by kernel_rfl) (by kernel_rfl) (by kernel_rfl) (by kernel_rfl) (Sub.sel [0, 5] rfl) ?_
            conv => whnf
            refine CallS.mk Try.call9 ⟨[_, _, _, _], [_, _, _, _, _], _, Sub.sel [1, 2, 3, 4, 0, 5, 6, 7, 8] rfl, fun F' hF' => image_cp F' d r rb _ es c _ I.M hIn (svOf g lg.length) lg on l, ?_⟩
            rintro e A' ⟨bi, im, him, rfl, rfl⟩
            conv => whnf
            refine ⟨Sub.sel [5, 6] rfl, ?_⟩
            conv => whnf
            have htr : trimB bl = im := (trim_image I.M hIn I.B).trans him.symm
            have hrc := fun (F' : Mem) => r5image_ok F' rd (svOf g0 fi.length) (svOf gl lg.length) rr bl p hbl
            have himl : im.length ≤ 9223372036854775807 := by rw [him]; have := imageL_le _ hIn; omega
            rw [htr] at hrc
            clear him
            refine CallS.mk Try.call22 ⟨[_, _], [_, _, _, _, _, _, _, _], _, Sub.sel [6, 8, 0, 1, 2, 3, 4, 5, 7, 9] rfl, fun F' hF' => hrc F', ?_⟩
            rintro e A' ⟨gi, hgi, rfl, rfl⟩
            obtain ⟨gib, gic, rfl⟩ : ∃ b c, gi = some (b, c) := by
              cases gi with
              | none => exact absurd rfl hgi
              | some p => exact ⟨p.1, p.2, rfl⟩
            conv => whnf
            refine ⟨Sub.sel [8, 1] rfl, ?_⟩
            conv => whnf
            refine CallS.mk Try.call14 ⟨[], _, _, Sub.refl _, fun F' hF' => same_ok F' (some ⟨bi, 0, none⟩) (some ⟨gib, 0, none⟩) im.length gic im im (SlF.cells hF' (by simp)) (SlF.sv (g := some (gib, gic)) hF' (T := 9) (by simp) (by simp)) himl, ?_⟩
            rw [show decide (im = im) = true from decide_eq_true rfl]
            rintro e A' ⟨rfl, rfl⟩
            conv => whnf
            refine ⟨Sub.sel [8, 1] rfl, ?_⟩
            conv => whnf
            refine ⟨Sub.sel [8, 1] rfl, ?_⟩
            conv => whnf
            refine CallS.mk Try.call10 ⟨[_, _, _, _], [_, _, _, _, _, _, _], _, Sub.sel [4, 5, 6, 7, 0, 1, 2, 3, 8, 9, 10] rfl, fun F' hF' => writes_cp F' d r rb _ _ g lg on l I.hg (by omega), ?_⟩
            rintro e A' ⟨gw, lk, hlk, hgw, rfl, rfl⟩
            conv => whnf
            refine ⟨Sub.sel [9, 6] rfl, ?_⟩
            conv => whnf
            refine LoadV.s rfl rfl (forceV_of ?_)
            conv => whnf
            have hlw : lk.length ≤ 9223372036854775807 := by rw [hlk]; omega
            refine CallS.mk Try.call15 ⟨[], _, _, Sub.refl _, fun F' hF' => samew_ok F' (oaOf gw) (oaOf gl) (capOf gw) (capOf gl) lk lg (SlF.sv hF' (T := 29) (logCells_length _) (fun e => by rw [hgw.1 e]; rfl)) (SlF.sv hF' (T := 29) (logCells_length _) (fun e => by rw [I.hgl.1 e]; rfl)) hlw, ?_⟩
            rw [show decide (lk = lg) = true from decide_eq_true hlk]
            rintro e A' ⟨rfl, rfl⟩
            conv => whnf
            refine ⟨Sub.sel [9, 6] rfl, ?_⟩
            conv => whnf
            repeat (first | (refine LoadV.s rfl rfl (forceV_of ?_); conv => whnf) | (refine LoadV.s rfl rfl ?_; conv => whnf) | (refine StoreV.c rfl rfl (Nat.le_of_ble_eq_true rfl) rfl ?_; conv => whnf) | (refine LoadV.a _ rfl (Nat.le_of_ble_eq_true rfl) ?_; conv => whnf) | (refine DrawI.quiet (by kernel_rfl) (by kernel_rfl) ?_; conv => whnf) | (refine ArI.in64 (by omega) ?_; conv => whnf) | (refine ArI.inU8 (by omega) ?_; conv => whnf) | (refine ArI.inU64 (by omega) ?_; conv => whnf) | (refine ArI.inU32 (by omega) ?_; conv => whnf) | (refine RetI.one Try.results24 rfl ?_; conv => whnf) | (refine RetI.two Try.results24 rfl rfl ?_; conv => whnf) | (refine RetI.three Try.results24 rfl rfl rfl ?_; conv => whnf) | (refine RetI.none Try.results24 ?_; conv => whnf) | (refine ⟨by first | decide | omega, ?_⟩; conv => whnf))
            refine ⟨_, Sub.sel [1, 2, 3, 4, 6, 10, 7, 11] rfl, rfl, es, c, g, lg, on, l, bl, gl, p, I, by omega, rfl⟩
          · conv => whnf
            repeat (first | (refine LoadV.s rfl rfl (forceV_of ?_); conv => whnf) | (refine LoadV.s rfl rfl ?_; conv => whnf) | (refine StoreV.c rfl rfl (Nat.le_of_ble_eq_true rfl) rfl ?_; conv => whnf) | (refine LoadV.a _ rfl (Nat.le_of_ble_eq_true rfl) ?_; conv => whnf) | (refine DrawI.quiet (by kernel_rfl) (by kernel_rfl) ?_; conv => whnf) | (refine ArI.in64 (by omega) ?_; conv => whnf) | (refine ArI.inU8 (by omega) ?_; conv => whnf) | (refine ArI.inU64 (by omega) ?_; conv => whnf) | (refine ArI.inU32 (by omega) ?_; conv => whnf) | (refine RetI.one Try.results24 rfl ?_; conv => whnf) | (refine RetI.two Try.results24 rfl rfl ?_; conv => whnf) | (refine RetI.three Try.results24 rfl rfl rfl ?_; conv => whnf) | (refine RetI.none Try.results24 ?_; conv => whnf) | (refine ⟨by first | decide | omega, ?_⟩; conv => whnf))
            refine ⟨_, Sub.sel [1, 2, 3, 4, 5, 6, 7, 8] rfl, rfl, es, c, g, lg, on, l, bl, gl, p, I, by omega, rfl⟩
end Go.Proofs.Ytjjkpkacembhpaa
