/- The disks from an image. -/
import Derived.Test.YtjjkpkacembhpaaDisk9
namespace Go.Proofs.Ytjjkpkacembhpaa
set_option linter.unusedVariables false
set_option linter.unusedSimpArgs false
open SL Go.RowKit Go.Maps

/-- The blocks of an image, as a map. -/
def fromM (im : List ByteArray) : Nat → List (Int × ByteArray)
  | 0 => []
  | n + 1 => fromM im n ++ [((n : Int), (im[n]?).getD nul)]
theorem fromM_keys (im : List ByteArray) : ∀ n, ∀ p ∈ fromM im n, 0 ≤ p.1 ∧ p.1 < (n : Int)
  | 0, p, h => by cases h
  | n + 1, p, h => by
    rcases List.mem_append.1 h with h | h
    · have := fromM_keys im n p h; omega
    · simp at h; subst h; constructor <;> dsimp only <;> omega
theorem fromM_put (im : List ByteArray) (n : Nat) : putM (fromM im n) (n : Int) ((im[n]?).getD nul) = fromM im (n + 1) := putM_new fun p hp => by have := fromM_keys im n p hp; omega
theorem fromM_look (im : List ByteArray) : ∀ n (i : Nat), lookM (fromM im n) (i : Int) = if i < n then some ((im[i]?).getD nul) else none
  | 0, i => by simp [fromM, lookM]
  | n + 1, i => by
    rw [← fromM_put, lookM_putM]
    by_cases h : n = i
    · subst h; simp
    · rw [if_neg (by omega), fromM_look im n i]
      by_cases h2 : i < n
      · rw [if_pos h2, if_pos (by omega)]
      · rw [if_neg h2, if_neg (by omega)]
/-- What a disk from an image answers. -/
def fromC (im : List ByteArray) : Int := if im.length > 2048 then 8 else if ∀ s ∈ im, s.size ≤ 32 then 0 else 9
theorem fromC_big {im : List ByteArray} (h : im.length > 2048) : fromC im = 8 := if_pos h
theorem fromC_long {im : List ByteArray} (h : ¬ im.length > 2048) {i : Nat} (hi : i < im.length) (hs : im[i].size > 32) : fromC im = 9 := by
  unfold fromC; rw [if_neg h, if_neg fun h2 => by have := h2 _ (List.getElem_mem hi); omega]
theorem fromC_ok {im : List ByteArray} (h : ¬ im.length > 2048) (hs : ∀ s ∈ im, s.size ≤ 32) : fromC im = 0 := by
  unfold fromC; rw [if_neg h, if_pos hs]
theorem from_ok (F : Mem) (oa : Option Addr) (ca : Nat) (im : List ByteArray) (hb : SlF F 1 oa im.length (strs im)) :
    FT Try.prog 19 [.slice oa im.length ca].toArray F [] (fun e H => (fromC im ≠ 0 ∧ e = .returned (.tuple #[.pointer none, .int .i64 (fromC im)]) ∧ H = []) ∨
      (fromC im = 0 ∧ ∃ d r rb es c, MapS es c (fromM im im.length) ∧ e = .returned (.tuple #[.pointer (some ⟨d, 0, none⟩), .int .i64 0]) ∧ H = diskH d r rb (.map es c) (.map es c) (.slice none 0 0) [] true (-1))) := by
  refine FT.of_body Try.func19 rfl Try.ntmps19 (by simp) fun C hC => ?_
  subst hC
  conv => whnf
  refine cond_dec (fun h => ?_) (fun h => ?_)
  · conv => whnf
    repeat (first | (refine LoadV.s rfl rfl (forceV_of ?_); conv => whnf) | (refine LoadV.s rfl rfl ?_; conv => whnf) | (refine StoreV.c rfl rfl (Nat.le_of_ble_eq_true rfl) rfl ?_; conv => whnf) | (refine LoadV.a _ rfl (Nat.le_of_ble_eq_true rfl) ?_; conv => whnf) | (refine DrawI.quiet (by kernel_rfl) (by kernel_rfl) ?_; conv => whnf) | (refine ArI.in64 (by omega) ?_; conv => whnf) | (refine ArI.inU8 (by omega) ?_; conv => whnf) | (refine ArI.inU64 (by omega) ?_; conv => whnf) | (refine ArI.inU32 (by omega) ?_; conv => whnf) | (refine RetI.one Try.results19 rfl ?_; conv => whnf) | (refine RetI.two Try.results19 rfl rfl ?_; conv => whnf) | (refine RetI.three Try.results19 rfl rfl rfl ?_; conv => whnf) | (refine RetI.none Try.results19 ?_; conv => whnf) | (refine ⟨by first | decide | omega, ?_⟩; conv => whnf))
    have e8 := fromC_big (im := im) (by omega)
    exact ⟨_, Sub.refl _, .inl ⟨by rw [e8]; decide, by rw [e8], rfl⟩⟩
  · conv => whnf
    intro r
    conv => whnf
    refine LoopI.by_state (σ := Nat × Array MapEntry × Nat) (fun x => [(0, .slice oa im.length ca), (2, .pointer none), (3, .int .i64 0), (4, .map (some r)), (11, .slice oa im.length ca), (12, .int .i64 (im.length : Int)), (13, .int .i64 (x.1 : Int))]) (fun x => [.obj r (.map x.2.1 x.2.2)])
      (fun x => x.1 ≤ im.length ∧ MapS x.2.1 x.2.2 (fromM im x.1) ∧ ∀ j (hj : j < im.length), j < x.1 → im[j].size ≤ 32) (fun x => im.length - x.1) (0, #[], 0) ⟨by simp, MapOk.empty, fun j _ hj => by omega⟩ ⟨rfl, rfl, rfl, rfl, rfl, rfl, rfl, trivial⟩ (Sub.refl _) ?_
    rintro ⟨i, es, c⟩ f0 ⟨hi, M, hsz⟩
    dsimp only at hi M hsz ⊢
    conv => whnf
    refine cond_dec (fun h2 => ?_) (fun h2 => ?_)
    · obtain ⟨xa, ya, rfl, hra⟩ := hb.at (i := i) (by omega)
      have hia : i < im.length := by omega
      have hget : (im[i]?).getD nul = im[i] := by simp [hia]
      conv => whnf
      repeat (first | (refine LoadV.s rfl rfl (forceV_of ?_); conv => whnf) | (refine LoadV.s rfl rfl ?_; conv => whnf) | (refine StoreV.c rfl rfl (Nat.le_of_ble_eq_true rfl) rfl ?_; conv => whnf) | (refine LoadV.a _ rfl (Nat.le_of_ble_eq_true rfl) ?_; conv => whnf) | (refine DrawI.quiet (by kernel_rfl) (by kernel_rfl) ?_; conv => whnf) | (refine RetI.one Try.results19 rfl ?_; conv => whnf) | (refine RetI.two Try.results19 rfl rfl ?_; conv => whnf) | (refine RetI.three Try.results19 rfl rfl rfl ?_; conv => whnf) | (refine RetI.none Try.results19 ?_; conv => whnf) | (refine ⟨by first | decide | omega, ?_⟩; conv => whnf))
      refine LoadV.f (hra i (.string im[i]) (by simp [strs, hia])) rfl ?_
      conv => whnf
      refine cond_dec (fun h3 => ?_) (fun h3 => ?_)
      · conv => whnf
        repeat (first | (refine LoadV.s rfl rfl (forceV_of ?_); conv => whnf) | (refine LoadV.s rfl rfl ?_; conv => whnf) | (refine StoreV.c rfl rfl (Nat.le_of_ble_eq_true rfl) rfl ?_; conv => whnf) | (refine LoadV.a _ rfl (Nat.le_of_ble_eq_true rfl) ?_; conv => whnf) | (refine DrawI.quiet (by kernel_rfl) (by kernel_rfl) ?_; conv => whnf) | (refine ArI.in64 (by omega) ?_; conv => whnf) | (refine ArI.inU8 (by omega) ?_; conv => whnf) | (refine ArI.inU64 (by omega) ?_; conv => whnf) | (refine ArI.inU32 (by omega) ?_; conv => whnf) | (refine RetI.one Try.results19 rfl ?_; conv => whnf) | (refine RetI.two Try.results19 rfl rfl ?_; conv => whnf) | (refine RetI.three Try.results19 rfl rfl rfl ?_; conv => whnf) | (refine RetI.none Try.results19 ?_; conv => whnf) | (refine ⟨by first | decide | omega, ?_⟩; conv => whnf))
        have e9 := fromC_long (im := im) (by omega) hia (by omega)
        exact ⟨_, Sub.sel [] rfl, .inl ⟨by rw [e9]; decide, by rw [e9], rfl⟩⟩
      · conv => whnf
        refine DoV.update (fk := fkI) (fv := fvS) (a := (i : Int)) (v := im[i]) M keyed3 fkI_inj Try.underlying57 (key_wf (by omega) (by omega)) ?_
        intro es' c' M'
        conv => whnf
        refine ArI.to64 ((i + 1 : Nat) : Int) (by omega) (by omega) ?_
        conv => whnf
        refine ⟨(i + 1, es', c'), _, by dsimp only; omega, Sub.refl _, ⟨by dsimp only; omega, ?_, fun j hj hji => ?_⟩, ⟨rfl, rfl, rfl, rfl, rfl, rfl, rfl, trivial⟩, rfl⟩
        · rw [← fromM_put, hget]; exact M'
        · dsimp only at hji
          by_cases e : j = i
          · subst e; omega
          · exact hsz j hj (by omega)
    · obtain rfl : i = im.length := by omega
      conv => whnf
      refine CallS.mk Try.call27 ⟨[_], _, _, Sub.split [0] rfl, fun F' hF' => with_ok F' r es c, ?_⟩
      rintro e A' ⟨d, rb, rfl, rfl⟩
      conv => whnf
      repeat (first | (refine LoadV.s rfl rfl (forceV_of ?_); conv => whnf) | (refine LoadV.s rfl rfl ?_; conv => whnf) | (refine StoreV.c rfl rfl (Nat.le_of_ble_eq_true rfl) rfl ?_; conv => whnf) | (refine LoadV.a _ rfl (Nat.le_of_ble_eq_true rfl) ?_; conv => whnf) | (refine DrawI.quiet (by kernel_rfl) (by kernel_rfl) ?_; conv => whnf) | (refine ArI.in64 (by omega) ?_; conv => whnf) | (refine ArI.inU8 (by omega) ?_; conv => whnf) | (refine ArI.inU64 (by omega) ?_; conv => whnf) | (refine ArI.inU32 (by omega) ?_; conv => whnf) | (refine RetI.one Try.results19 rfl ?_; conv => whnf) | (refine RetI.two Try.results19 rfl rfl ?_; conv => whnf) | (refine RetI.three Try.results19 rfl rfl rfl ?_; conv => whnf) | (refine RetI.none Try.results19 ?_; conv => whnf) | (refine ⟨by first | decide | omega, ?_⟩; conv => whnf))
      refine ⟨_, Sub.refl _, .inr ⟨fromC_ok (by omega) fun s hs => ?_, d, r, rb, es, c, M, rfl, rfl⟩⟩
      obtain ⟨j, hj, rfl⟩ := List.mem_iff_getElem.1 hs
      exact hsz j hj hj
/-- The blocks are those of an image. -/
def BlkF (im bl : List ByteArray) : Prop := bl.length = 2048 ∧ ∀ i : Nat, i < 2048 → bl[i]? = some ((im[i]?).getD nul)
theorem blkF_nil : BlkF [] (List.replicate 2048 nul) := ⟨List.length_replicate, fun i hi => by rw [List.getElem?_replicate, if_pos hi]; rfl⟩
theorem blk_from {im bl : List ByteArray} (h : BlkF im bl) : BlkOk (fromM im im.length) bl := by
  refine ⟨h.1, fun i hi => ?_⟩
  rw [h.2 i hi, fromM_look]
  by_cases hl : i < im.length
  · rw [if_pos hl]; rfl
  · rw [if_neg hl, List.getElem?_eq_none (by omega)]
theorem inDisk_from {im : List ByteArray} (h : im.length ≤ 2048) : InDisk (fromM im im.length) := fun p hp => by have := fromM_keys im im.length p hp; omega
theorem r5from_ok (F : Mem) (oa : Option Addr) (ca : Nat) (im : List ByteArray) (hb : SlF F 1 oa im.length (strs im)) (hc : oa = none → ca = 0) :
    FT Try.prog 20 [.slice oa im.length ca].toArray F [] (fun e H => (fromC im ≠ 0 ∧ e = .returned (.tuple #[.pointer none, .int .i64 (fromC im)]) ∧ H = []) ∨
      (fromC im = 0 ∧ ∃ d g rb bl, BlkF im bl ∧ g ≠ none ∧ e = .returned (.tuple #[.pointer (some ⟨d, 0, none⟩), .int .i64 0]) ∧ H = refH d g im rb bl none [] (-1))) := by
  refine FT.of_body Try.func20 rfl Try.ntmps20 (by simp) fun C hC => ?_
  subst hC
  conv => whnf
  refine cond_dec (fun h => ?_) (fun h => ?_)
  · conv => whnf
    repeat (first | (refine LoadV.s rfl rfl (forceV_of ?_); conv => whnf) | (refine LoadV.s rfl rfl ?_; conv => whnf) | (refine StoreV.c rfl rfl (Nat.le_of_ble_eq_true rfl) rfl ?_; conv => whnf) | (refine LoadV.a _ rfl (Nat.le_of_ble_eq_true rfl) ?_; conv => whnf) | (refine DrawI.quiet (by kernel_rfl) (by kernel_rfl) ?_; conv => whnf) | (refine ArI.in64 (by omega) ?_; conv => whnf) | (refine ArI.inU8 (by omega) ?_; conv => whnf) | (refine ArI.inU64 (by omega) ?_; conv => whnf) | (refine ArI.inU32 (by omega) ?_; conv => whnf) | (refine RetI.one Try.results20 rfl ?_; conv => whnf) | (refine RetI.two Try.results20 rfl rfl ?_; conv => whnf) | (refine RetI.three Try.results20 rfl rfl rfl ?_; conv => whnf) | (refine RetI.none Try.results20 ?_; conv => whnf) | (refine ⟨by first | decide | omega, ?_⟩; conv => whnf))
    have e8 := fromC_big (im := im) (by omega)
    exact ⟨_, Sub.refl _, .inl ⟨by rw [e8]; decide, by rw [e8], rfl⟩⟩
  · conv => whnf
    refine CallS.mk Try.call23 ⟨[], _, _, Sub.refl _, fun F' hF' => r5new_ok F', ?_⟩
    rintro e A' ⟨d, rb, bl0, hbl0, rfl, rfl⟩
    have hb0 : BlkF [] bl0 := hbl0 ▸ blkF_nil
    clear hbl0
    conv => whnf
    refine LoopI.by_state (σ := Nat × List ByteArray) (fun x => [(0, .slice oa im.length ca), (2, .pointer none), (3, .int .i64 0), (4, .pointer (some ⟨d, 0, none⟩)), (11, .slice oa im.length ca), (12, .int .i64 (im.length : Int)), (13, .int .i64 (x.1 : Int))]) (fun x => refH d none [] rb x.2 none [] (-1))
      (fun x => x.1 ≤ im.length ∧ BlkF (im.take x.1) x.2 ∧ ∀ j (hj : j < im.length), j < x.1 → im[j].size ≤ 32) (fun x => im.length - x.1) (0, bl0) ⟨by simp, by rw [List.take_zero]; exact hb0, fun j _ hj => by omega⟩ ⟨rfl, rfl, rfl, rfl, rfl, rfl, rfl, trivial⟩ (Sub.refl _) ?_
    rintro ⟨i, bl⟩ f0 ⟨hi, hB, hsz⟩
    dsimp only at hi hB hsz ⊢
    conv => whnf
    refine cond_dec (fun h2 => ?_) (fun h2 => ?_)
    · obtain ⟨xa, ya, rfl, hra⟩ := hb.at (i := i) (by omega)
      have hia : i < im.length := by omega
      have hbl := hB.1
      conv => whnf
      repeat (first | (refine LoadV.s rfl rfl (forceV_of ?_); conv => whnf) | (refine LoadV.s rfl rfl ?_; conv => whnf) | (refine StoreV.c rfl rfl (Nat.le_of_ble_eq_true rfl) rfl ?_; conv => whnf) | (refine LoadV.a _ rfl (Nat.le_of_ble_eq_true rfl) ?_; conv => whnf) | (refine DrawI.quiet (by kernel_rfl) (by kernel_rfl) ?_; conv => whnf) | (refine RetI.one Try.results20 rfl ?_; conv => whnf) | (refine RetI.two Try.results20 rfl rfl ?_; conv => whnf) | (refine RetI.three Try.results20 rfl rfl rfl ?_; conv => whnf) | (refine RetI.none Try.results20 ?_; conv => whnf) | (refine ⟨by first | decide | omega, ?_⟩; conv => whnf))
      refine LoadV.f (hra i (.string im[i]) (by simp [strs, hia])) rfl ?_
      conv => whnf
      refine cond_dec (fun h3 => ?_) (fun h3 => ?_)
      · conv => whnf
        repeat (first | (refine LoadV.s rfl rfl (forceV_of ?_); conv => whnf) | (refine LoadV.s rfl rfl ?_; conv => whnf) | (refine StoreV.c rfl rfl (Nat.le_of_ble_eq_true rfl) rfl ?_; conv => whnf) | (refine LoadV.a _ rfl (Nat.le_of_ble_eq_true rfl) ?_; conv => whnf) | (refine DrawI.quiet (by kernel_rfl) (by kernel_rfl) ?_; conv => whnf) | (refine ArI.in64 (by omega) ?_; conv => whnf) | (refine ArI.inU8 (by omega) ?_; conv => whnf) | (refine ArI.inU64 (by omega) ?_; conv => whnf) | (refine ArI.inU32 (by omega) ?_; conv => whnf) | (refine RetI.one Try.results20 rfl ?_; conv => whnf) | (refine RetI.two Try.results20 rfl rfl ?_; conv => whnf) | (refine RetI.three Try.results20 rfl rfl rfl ?_; conv => whnf) | (refine RetI.none Try.results20 ?_; conv => whnf) | (refine ⟨by first | decide | omega, ?_⟩; conv => whnf))
        have e9 := fromC_long (im := im) (by omega) hia (by omega)
        exact ⟨_, Sub.sel [] rfl, .inl ⟨by rw [e9]; decide, by rw [e9], rfl⟩⟩
      · conv => whnf
        refine LoadV.s rfl rfl ?_
        conv => whnf
        refine ⟨by omega, ?_⟩
        conv => whnf
        refine StoreV.c rfl rfl (by show 0 + i + 1 ≤ (strs bl).length; simp only [strs, List.length_map]; omega) rfl ?_
        conv => whnf
        refine ArI.to64 ((i + 1 : Nat) : Int) (by omega) (by omega) ?_
        conv => whnf
        refine ⟨(i + 1, bl.set i im[i]), _, by dsimp only; omega, Sub.refl _, ⟨by dsimp only; omega, ⟨by rw [List.length_set]; exact hbl, fun j hj => ?_⟩, fun j hj hji => ?_⟩, ⟨rfl, rfl, rfl, rfl, rfl, rfl, rfl, trivial⟩, ?_⟩
        · rw [List.getElem?_set, List.getElem?_take]
          by_cases e : i = j
          · subst e; rw [if_pos rfl, if_pos (by omega), if_pos (by omega)]; first | done | simp [hia]
          · rw [if_neg e, hB.2 j hj, List.getElem?_take]
            by_cases h4 : j < i
            · rw [if_pos h4, if_pos (by omega)]
            · rw [if_neg h4, if_neg (by omega)]
        · dsimp only at hji
          by_cases e : j = i
          · subst e; omega
          · exact hsz j hj (by omega)
        · dsimp only
          have e0 : putAt (strs bl) (0 + i) [.string im[i]] = strs (bl.set i im[i]) := putAt_strs bl i im[i] (by omega)
          rw [refH, ← e0]; rfl
    · obtain rfl : i = im.length := by omega
      rw [List.take_length] at hB
      conv => whnf
      intro b0
      conv => whnf
      refine BuiltV.sub (Sub.own (n := 0) (sz := 1) rfl (by decide)) ?_
      refine BuiltV.append_sv (g := some (b0, 0)) (n := 0) (sz := 1) Try.underlying27 rfl rfl rfl rfl (by decide) (Src.foreign hb hc) (by simp) (by simp [Value.oneCell']) (by show (0 + im.length) * 16 ≤ _; omega) (by omega) fun g hg => ?_
      obtain ⟨gb, gc, rfl⟩ : ∃ b c, g = some (b, c) := by
        cases g with
        | none => exact absurd (hg.1 rfl).1 (by simp)
        | some p => exact ⟨p.1, p.2, rfl⟩
      conv => whnf
      refine StoreV.c rfl rfl (Nat.le_of_ble_eq_true rfl) rfl ?_
      conv => whnf
      repeat (first | (refine LoadV.s rfl rfl (forceV_of ?_); conv => whnf) | (refine LoadV.s rfl rfl ?_; conv => whnf) | (refine StoreV.c rfl rfl (Nat.le_of_ble_eq_true rfl) rfl ?_; conv => whnf) | (refine LoadV.a _ rfl (Nat.le_of_ble_eq_true rfl) ?_; conv => whnf) | (refine DrawI.quiet (by kernel_rfl) (by kernel_rfl) ?_; conv => whnf) | (refine ArI.in64 (by omega) ?_; conv => whnf) | (refine ArI.inU8 (by omega) ?_; conv => whnf) | (refine ArI.inU64 (by omega) ?_; conv => whnf) | (refine ArI.inU32 (by omega) ?_; conv => whnf) | (refine RetI.one Try.results20 rfl ?_; conv => whnf) | (refine RetI.two Try.results20 rfl rfl ?_; conv => whnf) | (refine RetI.three Try.results20 rfl rfl rfl ?_; conv => whnf) | (refine RetI.none Try.results20 ?_; conv => whnf) | (refine ⟨by first | decide | omega, ?_⟩; conv => whnf))
      refine ⟨_, Sub.sel [1, 0, 3, 4] rfl, .inr ⟨fromC_ok (by omega) fun s hs => ?_, d, some (gb, gc), rb, bl, hB, by simp, rfl, ?_⟩⟩
      · obtain ⟨j, hj, rfl⟩ := List.mem_iff_getElem.1 hs
        exact hsz j hj hj
      · have e1 : svOf (some (gb, gc)) im.length = .slice (some ⟨gb, 0, none⟩) (0 + im.length) gc := by rw [Nat.zero_add]
        have e2 : HObj.own (svOf (some (gb, gc)) im.length) im.length 9 1 (strs im) = .own (.slice (some ⟨gb, 0, none⟩) (0 + im.length) gc) (0 + im.length) 9 1 ([] ++ strs im) := by rw [Nat.zero_add]; rfl
        rw [refH, e2, e1]; rfl
end Go.Proofs.Ytjjkpkacembhpaa
