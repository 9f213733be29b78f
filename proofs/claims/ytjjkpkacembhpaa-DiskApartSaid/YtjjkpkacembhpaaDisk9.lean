/- The disks from an image; the reference's image and cutting. -/
import Derived.Test.YtjjkpkacembhpaaDisk8
namespace Go.Proofs.Ytjjkpkacembhpaa
set_option linter.unusedVariables false
set_option linter.unusedSimpArgs false
open SL Go.RowKit Go.Maps

/-- One more than the last place of a text that isn't empty, of the first n. -/
def topB (bl : List ByteArray) : Nat → Nat
  | 0 => 0
  | n + 1 => if ((bl[n]?).getD nul).size = 0 then topB bl n else n + 1
theorem topB_le (bl : List ByteArray) : ∀ n, topB bl n ≤ n
  | 0 => Nat.le_refl _
  | n + 1 => by unfold topB; have := topB_le bl n; split <;> omega
theorem topB_ge (bl : List ByteArray) : ∀ n i, i < n → ((bl[i]?).getD nul).size ≠ 0 → i + 1 ≤ topB bl n
  | 0, i, h, _ => by omega
  | n + 1, i, h, hs => by
    unfold topB
    by_cases hi : i = n
    · subst hi; rw [if_neg hs]; exact Nat.le_refl _
    · have := topB_ge bl n i (by omega) hs; split <;> omega
theorem topB_at (bl : List ByteArray) : ∀ n, topB bl n = 0 ∨ ∃ i, topB bl n = i + 1 ∧ ((bl[i]?).getD nul).size ≠ 0
  | 0 => .inl rfl
  | n + 1 => by
    unfold topB
    by_cases h : ((bl[n]?).getD nul).size = 0
    · rw [if_pos h]; exact topB_at bl n
    · rw [if_neg h]; exact .inr ⟨n, rfl, h⟩
def trimB (bl : List ByteArray) : List ByteArray := bl.take (topB bl bl.length)
/-- The blocks are those of the map. -/
def BlkOk (m : List (Int × ByteArray)) (bl : List ByteArray) : Prop := bl.length = 2048 ∧ ∀ i : Nat, i < 2048 → bl[i]? = some ((lookM m (i : Int)).getD nul)
theorem trim_image {es : Array MapEntry} {c : Nat} {m : List (Int × ByteArray)} {bl : List ByteArray} (M : MapS es c m) (hm : InDisk m) (h : BlkOk m bl) : trimB bl = imageL m := by
  have ht : topB bl bl.length = (topM m).toNat := by
    have h0 := topM_nonneg m
    have h1 : topM m ≤ (topB bl bl.length : Int) := topM_le (by omega) fun p hp hs => by
      have hb := hm p hp
      have hl := lookM_of_mem M.nodup hp
      have := topB_ge bl bl.length p.1.toNat (by rw [h.1]; omega) (by rw [h.2 _ (by omega), show ((p.1.toNat : Nat) : Int) = p.1 by omega, hl]; exact hs)
      omega
    have h2 : (topB bl bl.length : Int) ≤ topM m := by
      rcases topB_at bl bl.length with h3 | ⟨i, h3, h4⟩
      · omega
      · have hi : i < 2048 := by have := topB_le bl bl.length; have := h.1; omega
        rw [h.2 i hi] at h4
        cases hl : lookM m (i : Int) with
        | none => rw [hl] at h4; exact absurd rfl h4
        | some s => rw [hl] at h4; have := le_topM (lookM_mem hl) h4; simp only at this; omega
    omega
  apply List.ext_getElem?
  intro i
  have htm := topM_small hm
  unfold trimB imageL
  rw [ht, List.getElem?_take, List.getElem?_map]
  by_cases hi : i < (topM m).toNat
  · rw [if_pos hi, h.2 i (by omega), List.getElem?_range hi]; rfl
  · rw [if_neg hi, List.getElem?_eq_none (by rw [List.length_range]; omega)]; rfl
theorem blk_set {m : List (Int × ByteArray)} {bl : List ByteArray} (h : BlkOk m bl) {a : Int} (ha : 0 ≤ a ∧ a < 2048) (s : ByteArray) : BlkOk (putM m a s) (bl.set a.toNat s) := by
  refine ⟨by rw [List.length_set]; exact h.1, fun i hi => ?_⟩
  rw [lookM_putM, List.getElem?_set]
  by_cases e : a.toNat = i
  · rw [if_pos e, if_pos (by rw [h.1]; omega), if_pos (by omega)]; rfl
  · rw [if_neg e, if_neg (by omega)]; exact h.2 i hi
/-- What a log makes of the first blocks. -/
def setAll (bl : List ByteArray) (l : List (Int × ByteArray)) : List ByteArray := l.foldl (fun b p => b.set p.1.toNat p.2) bl
theorem setAll_length (l : List (Int × ByteArray)) : ∀ bl, (setAll bl l).length = bl.length := by
  induction l with
  | nil => intro bl; rfl
  | cons p l ih => intro bl; show (setAll (bl.set p.1.toNat p.2) l).length = _; rw [ih, List.length_set]
theorem setAll_push (bl : List ByteArray) (l : List (Int × ByteArray)) (p : Int × ByteArray) : setAll bl (l ++ [p]) = (setAll bl l).set p.1.toNat p.2 := by simp [setAll]
theorem blk_replay {l : List (Int × ByteArray)} (hl : LogOk l) : ∀ {m : List (Int × ByteArray)} {bl : List ByteArray}, BlkOk m bl → BlkOk (replay m l) (setAll bl l) := by
  induction l with
  | nil => intro m bl h; exact h
  | cons p l ih =>
    intro m bl h
    have hp := hl p (by simp)
    exact ih (fun q hq => hl q (by simp [hq])) (blk_set h ⟨hp.1, hp.2.1⟩ p.2)
theorem trim_ok (F : Mem) (oa : Option Addr) (ca : Nat) (bl : List ByteArray) (hb : SlF F 1 oa bl.length (strs bl)) (hc : oa = none → ca = 0) (hle : bl.length ≤ ca) (hn : bl.length ≤ 2048) :
    FT Try.prog 30 [.slice oa bl.length ca].toArray F [] (fun e H => ∃ g, g ≠ none ∧ e = .returned (svOf g (trimB bl).length) ∧ H = [.own (svOf g (trimB bl).length) (trimB bl).length 9 1 (strs (trimB bl))]) := by
  refine FT.of_body Try.func30 rfl Try.ntmps30 (by simp) fun C hC => ?_
  subst hC
  conv => whnf
  refine LoopI.by_state (σ := Nat) (fun i => [(0, .slice oa bl.length ca), (3, .int .i64 (topB bl i : Nat)), (6, .slice oa bl.length ca), (7, .int .i64 (bl.length : Int)), (8, .int .i64 (i : Int))]) (fun _ => []) (fun i => i ≤ bl.length) (fun i => bl.length - i) 0 (by simp) ⟨rfl, rfl, rfl, rfl, rfl, trivial⟩ (Sub.refl _) ?_
  rintro i f0 hi
  conv => whnf
  refine cond_dec (fun h => ?_) (fun h => ?_)
  · obtain ⟨xa, ya, rfl, hra⟩ := hb.at (i := i) (by omega)
    have hia : i < bl.length := by omega
    have hget : (bl[i]?).getD nul = bl[i] := by simp [hia]
    conv => whnf
    repeat (first | (refine LoadV.s rfl rfl (forceV_of ?_); conv => whnf) | (refine LoadV.s rfl rfl ?_; conv => whnf) | (refine StoreV.c rfl rfl (Nat.le_of_ble_eq_true rfl) rfl ?_; conv => whnf) | (refine LoadV.a _ rfl (Nat.le_of_ble_eq_true rfl) ?_; conv => whnf) | (refine DrawI.quiet (by kernel_rfl) (by kernel_rfl) ?_; conv => whnf) | (refine RetI.one Try.results30 rfl ?_; conv => whnf) | (refine RetI.two Try.results30 rfl rfl ?_; conv => whnf) | (refine RetI.three Try.results30 rfl rfl rfl ?_; conv => whnf) | (refine RetI.none Try.results30 ?_; conv => whnf) | (refine ⟨by first | decide | omega, ?_⟩; conv => whnf))
    refine LoadV.f (hra i (.string bl[i]) (by simp [strs, hia])) rfl ?_
    conv => whnf
    cases hz : (bl[i].toList == (⟨#[]⟩ : ByteArray).toList) with
    | true =>
      conv => whnf
      refine ArI.to64 ((i + 1 : Nat) : Int) (by omega) (by omega) ?_
      conv => whnf
      refine ⟨i + 1, [], by omega, Sub.refl _, by omega, ⟨rfl, ?_, rfl, rfl, rfl, trivial⟩, rfl⟩
      rw [topB, hget, if_pos (size_nul.1 hz)]; rfl
    | false =>
      conv => whnf
      refine ArI.to64 ((i + 1 : Nat) : Int) (by omega) (by omega) ?_
      conv => whnf
      refine ArI.to64 ((i + 1 : Nat) : Int) (by omega) (by omega) ?_
      conv => whnf
      refine ⟨i + 1, [], by omega, Sub.refl _, by omega, ⟨rfl, ?_, rfl, rfl, rfl, trivial⟩, rfl⟩
      rw [topB, hget, if_neg (fun h => by rw [size_nul.2 h] at hz; cases hz)]; rfl
  · obtain rfl : i = bl.length := by omega
    have htl := topB_le bl bl.length
    conv => whnf
    intro b0
    conv => whnf
    refine DoV.slice_to Try.underlying27 rfl (by omega) (by omega) ?_
    conv => whnf
    have hk : ((topB bl bl.length : Nat) : Int).toNat = (trimB bl).length := by rw [trimB, List.length_take]; omega
    have hsl : SlF C.F 1 oa (trimB bl).length (strs (trimB bl)) := by
      refine ⟨by simp [strs], fun h0 => ?_⟩
      obtain ⟨b, o, e, hr⟩ := hb.row (by rw [trimB, List.length_take] at h0; omega)
      refine ⟨b, o, e, fun j v hj => hr j v ?_⟩
      rw [trimB, strs, List.map_take, List.getElem?_take] at hj
      split at hj
      · exact hj
      · cases hj
    have hlt : (trimB bl).length ≤ 2048 := by rw [trimB, List.length_take]; omega
    rw [hk]
    refine BuiltV.sub (Sub.own (n := 0) (sz := 1) rfl (by decide)) ?_
    refine BuiltV.append_sv (g := some (b0, 0)) (n := 0) (sz := 1) Try.underlying27 rfl rfl rfl rfl (by decide) (Src.foreign hsl hc) (by simp) (by simp [Value.oneCell']) (by show (0 + (trimB bl).length) * 16 ≤ _; omega) (by omega) fun g hg => ?_
    conv => whnf
    obtain ⟨gb, gc, rfl⟩ : ∃ b c, g = some (b, c) := by
      cases g with
      | none => exact absurd (hg.1 rfl).1 (by simp)
      | some p => exact ⟨p.1, p.2, rfl⟩
    conv => whnf
    repeat (first | (refine LoadV.s rfl rfl (forceV_of ?_); conv => whnf) | (refine LoadV.s rfl rfl ?_; conv => whnf) | (refine StoreV.c rfl rfl (Nat.le_of_ble_eq_true rfl) rfl ?_; conv => whnf) | (refine LoadV.a _ rfl (Nat.le_of_ble_eq_true rfl) ?_; conv => whnf) | (refine DrawI.quiet (by kernel_rfl) (by kernel_rfl) ?_; conv => whnf) | (refine ArI.in64 (by omega) ?_; conv => whnf) | (refine ArI.inU8 (by omega) ?_; conv => whnf) | (refine ArI.inU64 (by omega) ?_; conv => whnf) | (refine ArI.inU32 (by omega) ?_; conv => whnf) | (refine RetI.one Try.results30 rfl ?_; conv => whnf) | (refine RetI.two Try.results30 rfl rfl ?_; conv => whnf) | (refine RetI.three Try.results30 rfl rfl rfl ?_; conv => whnf) | (refine RetI.none Try.results30 ?_; conv => whnf) | (refine ⟨by first | decide | omega, ?_⟩; conv => whnf))
    refine ⟨_, Sub.refl _, some (gb, gc), by simp, ?_, ?_⟩
    · rw [Nat.zero_add]
    · rw [Nat.zero_add]; rfl
theorem r5image_ok (F : Mem) (d : Nat) (x y : Value) (rb : Nat) (bl : List ByteArray) (p : Int) (hbl : bl.length = 2048) :
    FT Try.prog 22 [.pointer (some ⟨d, 0, none⟩)].toArray F [.cells d [x, .slice (some ⟨rb, 0, none⟩) 2048 2048, y, .int .i64 p] 47 (0, 0), .cells rb (strs bl) 9 (0, 0)]
    (fun e H => ∃ g, g ≠ none ∧ e = .returned (svOf g (trimB bl).length) ∧ H = [.own (svOf g (trimB bl).length) (trimB bl).length 9 1 (strs (trimB bl)), .cells d [x, .slice (some ⟨rb, 0, none⟩) 2048 2048, y, .int .i64 p] 47 (0, 0), .cells rb (strs bl) 9 (0, 0)]) := by
  refine FT.of_body Try.func22 rfl Try.ntmps22 (by simp) fun C hC => ?_
  subst hC
  conv => whnf
  refine LoadV.s rfl rfl ?_
  conv => whnf
  rw [show Value.slice (some ⟨rb, 0, none⟩) 2048 2048 = .slice (some ⟨rb, 0, none⟩) bl.length 2048 by rw [hbl]]
  refine CallS.mk Try.call30 ⟨[], _, _, Sub.refl _, fun F' hF' => trim_ok F' (some ⟨rb, 0, none⟩) 2048 bl (SlF.cells hF' (by simp)) (by simp) (by omega) (by omega), ?_⟩
  rw [hbl]
  rintro e A' ⟨g, hg, rfl, rfl⟩
  obtain ⟨gb, gc, rfl⟩ : ∃ b c, g = some (b, c) := by
    cases g with
    | none => exact absurd rfl hg
    | some p => exact ⟨p.1, p.2, rfl⟩
  conv => whnf
  repeat (first | (refine LoadV.s rfl rfl (forceV_of ?_); conv => whnf) | (refine LoadV.s rfl rfl ?_; conv => whnf) | (refine StoreV.c rfl rfl (Nat.le_of_ble_eq_true rfl) rfl ?_; conv => whnf) | (refine LoadV.a _ rfl (Nat.le_of_ble_eq_true rfl) ?_; conv => whnf) | (refine DrawI.quiet (by kernel_rfl) (by kernel_rfl) ?_; conv => whnf) | (refine ArI.in64 (by omega) ?_; conv => whnf) | (refine ArI.inU8 (by omega) ?_; conv => whnf) | (refine ArI.inU64 (by omega) ?_; conv => whnf) | (refine ArI.inU32 (by omega) ?_; conv => whnf) | (refine RetI.one Try.results22 rfl ?_; conv => whnf) | (refine RetI.two Try.results22 rfl rfl ?_; conv => whnf) | (refine RetI.three Try.results22 rfl rfl rfl ?_; conv => whnf) | (refine RetI.none Try.results22 ?_; conv => whnf) | (refine ⟨by first | decide | omega, ?_⟩; conv => whnf))
  exact ⟨_, Sub.refl _, some (gb, gc), by simp, rfl, rfl⟩
end Go.Proofs.Ytjjkpkacembhpaa
