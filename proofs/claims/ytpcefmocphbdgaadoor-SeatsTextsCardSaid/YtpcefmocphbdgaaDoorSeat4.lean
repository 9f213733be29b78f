/- The reference's places and words. -/
import Derived.Test.YtpcefmocphbdgaaDoorSeat3
namespace Go.Proofs.YtpcefmocphbdgaaDoor
set_option linter.unusedVariables false
set_option linter.unusedSimpArgs false
set_option maxRecDepth 100000
open SL Go.RowKit Go.Maps Go.Lib

abbrev boolsV (l : List Bool) : List Value := l.map Value.bool
theorem putAt_one {l : List Value} {i : Nat} (v : Value) (h : i < l.length) : putAt l i [v] = l.set i v := by
  unfold putAt
  rw [List.set_eq_take_append_cons_drop, if_pos h, List.append_assoc]; rfl
theorem putAt_all {l vs : List Value} (h : l.length = vs.length) : putAt l 0 vs = vs := by
  unfold putAt; rw [List.take_zero, List.nil_append, Nat.zero_add, List.drop_of_length_le (by omega), List.append_nil]
/-- The places while they are written. -/
def placesK (s i : Nat) : List Bool := (places s).take i ++ List.replicate (64 - i) false
theorem placesK_length (s i : Nat) (h : i ≤ 64) : (placesK s i).length = 64 := by
  unfold placesK; rw [List.length_append, List.length_take, places_length, List.length_replicate]; omega
theorem placesK_step {s i : Nat} (h : i < 64) : (placesK s i).set i (s.testBit i) = placesK s (i + 1) := by
  unfold placesK
  obtain ⟨k, hk⟩ : ∃ k, 64 - i = k + 1 := ⟨63 - i, by omega⟩
  have hlen : ((places s).take i).length = i := by rw [List.length_take, places_length]; omega
  rw [List.set_append_right _ _ (by omega), hlen, Nat.sub_self, hk, List.replicate_succ, List.set_cons_zero, show 64 - (i + 1) = k by omega]
  have hi : i < (places s).length := by rw [places_length]; exact h
  rw [← List.take_append_getElem hi, List.append_assoc]
  congr 2
  have := places_at (s := s) h
  rw [List.getElem?_eq_getElem hi] at this
  rw [Option.some.inj this]
theorem testBit_half (s i : Nat) : ((((s / 2 ^ i : Nat) : Int).tmod 2 == 1) : Bool) = s.testBit i := by
  rw [Nat.testBit_eq_decide_div_mod_eq, Int.tmod_eq_emod_of_nonneg (Int.natCast_nonneg _)]
  by_cases h : s / 2 ^ i % 2 = 1
  · rw [decide_eq_true h]
    exact beq_iff_eq.2 (by omega)
  · rw [decide_eq_false h]
    exact beq_eq_false_iff_ne.2 (by omega)
theorem places_ok (F : Mem) (s : Nat) (hs : s < 18446744073709551616) : FT Tryd.prog 36 [.int .u64 (s : Int)].toArray F [] (Ret (.agg (boolsV (places s)).toArray)) := by
  refine FT.of_body Tryd.func36 rfl Tryd.ntmps36 (by simp) fun C hC => ?_
  subst hC
  conv => whnf
  intro b2
  conv => whnf
  intro b3
  conv => whnf
  refine LoopI.by_state (σ := Nat) (fun i => [(0, .int .u64 (s / 2 ^ i : Nat)), (2, .pointer (some ⟨b2, 0, none⟩)), (3, .pointer (some ⟨b3, 0, none⟩)), (4, .int .i64 (i : Int))])
    (fun i => [.cells b3 (boolsV (placesK s i)) 48 (0, 0), .cells b2 (boolsV (placesK 0 0)) 48 (0, 0)]) (fun i => i ≤ 64) (fun i => 64 - i) 0 (by simp) ⟨by simp; rfl, rfl, rfl, rfl, trivial⟩ (Sub.refl _) ?_
  rintro i f0 hi
  conv => whnf
  refine cond_dec (fun h => ?_) (fun h => ?_)
  · have hi64 : i < 64 := by omega
    have hl := placesK_length s i hi
    have hst := placesK_step (s := s) hi64
    have hx : s / 2 ^ i < 18446744073709551616 := Nat.lt_of_le_of_lt (Nat.div_le_self _ _) hs
    have hd : s / 2 ^ i / 2 = s / 2 ^ (i + 1) := by rw [Nat.div_div_eq_div_mul, ← Nat.pow_succ]
    have htb := testBit_half s i
    generalize s / 2 ^ i = x at hx hd htb ⊢
    conv => whnf
    refine ⟨⟨rfl, by decide⟩, ?_⟩
    conv => whnf
    rw [htb]
    refine ⟨by omega, ?_⟩
    conv => whnf
    rw [elemOff_nat]
    rotate_left
    · kernel_rfl
    rw [Nat.zero_add]
    refine StoreV.c rfl rfl (by show i + 1 ≤ _; rw [List.length_map, hl]; omega) rfl ?_
    rw [show (Value.bool (s.testBit i)).cells.toList = [Value.bool (s.testBit i)] from rfl, putAt_one _ (by rw [List.length_map, hl]; exact hi64), show (boolsV (placesK s i)).set i (.bool (s.testBit i)) = boolsV (placesK s (i + 1)) by rw [← hst]; exact List.map_set.symm]
    conv => whnf
    refine ⟨⟨rfl, by decide⟩, ?_⟩
    refine ArI.mk ((s / 2 ^ (i + 1) : Nat) : Int) (by rw [← hd, IntKind.wrap_u64, Int.tdiv_eq_ediv_of_nonneg (by omega)]; omega) ?_
    conv => whnf
    refine ArI.to64 ((i + 1 : Nat) : Int) (by omega) (by omega) ?_
    conv => whnf
    exact ⟨i + 1, _, by omega, Sub.refl _, by omega, ⟨rfl, rfl, rfl, rfl, trivial⟩, rfl⟩
  · obtain rfl : i = 64 := by omega
    have e : placesK s 64 = places s := by unfold placesK; rw [List.take_of_length_le (by rw [places_length]; decide)]; simp
    rw [e]
    have hl := places_length s
    generalize places s = l at hl ⊢
    have hl2 : (boolsV l).length = 64 := by rw [List.length_map, hl]
    have hall : (boolsV l).all Value.oneCell' = true := by simp [Value.oneCell']
    generalize boolsV l = L at hl2 hall ⊢
    conv => whnf
    refine LoadV.a 64 rfl (by rw [hl2]; decide) ?_
    rw [forceL_eq, List.drop_zero, List.take_of_length_le (by omega)]
    conv => whnf
    refine StoreV.c (by show 64 = L.length; exact hl2.symm) rfl (by show 0 + L.length ≤ 64; omega) hall ?_
    conv => whnf
    refine RetI.cell Tryd.results36 rfl ?_
    conv => whnf
    rw [show (Value.agg L.toArray).cells.toList = L from rfl, putAt_all (show (boolsV (placesK 0 0)).length = L.length from hl2.symm)]
    refine LoadV.a 64 rfl (by rw [hl2]; decide) ?_
    rw [forceL_eq, List.drop_zero, List.take_of_length_le (by omega)]
    exact ⟨_, Sub.sel [] rfl, rfl, rfl⟩
theorem slot_ok (F : Mem) (n : Int) : FT Tryd.prog 38 [.int .i64 n].toArray F [] (Ret (.bool (decide (okSlot n)))) := by
  refine FT.of_body Tryd.func38 rfl Tryd.ntmps38 (by simp) fun C hC => ?_
  subst hC
  conv => whnf
  by_cases h : 0 ≤ n
  · rw [decide_eq_true (show n ≥ 0 from h)]
    conv => whnf
    repeat (first | (refine LoadV.s rfl rfl (forceV_of ?_); conv => whnf) | (refine LoadV.s rfl rfl ?_; conv => whnf) | (refine StoreV.c rfl rfl (Nat.le_of_ble_eq_true rfl) rfl ?_; conv => whnf) | (refine LoadV.a _ rfl (Nat.le_of_ble_eq_true rfl) ?_; conv => whnf) | (refine DrawI.quiet (by kernel_rfl) (by kernel_rfl) ?_; conv => whnf) | (refine ArI.in64 (by omega) ?_; conv => whnf) | (refine ArI.inU8 (by omega) ?_; conv => whnf) | (refine ArI.inU64 (by omega) ?_; conv => whnf) | (refine ArI.inU32 (by omega) ?_; conv => whnf) | (refine RetI.one Tryd.results38 rfl ?_; conv => whnf) | (refine RetI.two Tryd.results38 rfl rfl ?_; conv => whnf) | (refine RetI.three Tryd.results38 rfl rfl rfl ?_; conv => whnf) | (refine RetI.none Tryd.results38 ?_; conv => whnf) | (refine ⟨by first | decide | omega, ?_⟩; conv => whnf))
    exact ⟨_, Sub.refl _, ret_bool (by by_cases h2 : n < 64 <;> simp [okSlot, h, h2]), rfl⟩
  · rw [decide_eq_false (show ¬ n ≥ 0 from h)]
    conv => whnf
    repeat (first | (refine LoadV.s rfl rfl (forceV_of ?_); conv => whnf) | (refine LoadV.s rfl rfl ?_; conv => whnf) | (refine StoreV.c rfl rfl (Nat.le_of_ble_eq_true rfl) rfl ?_; conv => whnf) | (refine LoadV.a _ rfl (Nat.le_of_ble_eq_true rfl) ?_; conv => whnf) | (refine DrawI.quiet (by kernel_rfl) (by kernel_rfl) ?_; conv => whnf) | (refine ArI.in64 (by omega) ?_; conv => whnf) | (refine ArI.inU8 (by omega) ?_; conv => whnf) | (refine ArI.inU64 (by omega) ?_; conv => whnf) | (refine ArI.inU32 (by omega) ?_; conv => whnf) | (refine RetI.one Tryd.results38 rfl ?_; conv => whnf) | (refine RetI.two Tryd.results38 rfl rfl ?_; conv => whnf) | (refine RetI.three Tryd.results38 rfl rfl rfl ?_; conv => whnf) | (refine RetI.none Tryd.results38 ?_; conv => whnf) | (refine ⟨by first | decide | omega, ?_⟩; conv => whnf))
    exact ⟨_, Sub.refl _, ret_bool (by simp [okSlot, h]), rfl⟩
theorem wordL_drop {l : List Bool} {j : Nat} (h : j < l.length) : wordL (l.drop j) = 2 * wordL (l.drop (j + 1)) + (if l[j] = true then 1 else 0) := by
  rw [List.drop_eq_getElem_cons h]; rfl
theorem wordL_drop_lt {l : List Bool} (hl : l.length = 64) {j : Nat} (hj : 0 < j) : 2 * wordL (l.drop j) + 1 < 18446744073709551616 := by
  have h1 := wordL_lt (l.drop j)
  rw [List.length_drop, hl] at h1
  have : 2 ^ (64 - j) ≤ 2 ^ 63 := Nat.pow_le_pow_right (by decide) (by omega)
  omega
theorem word_ok (F : Mem) (l : List Bool) (hl : l.length = 64) : FT Tryd.prog 39 [.agg (boolsV l).toArray].toArray F [] (Ret (.int .u64 (wordL l : Int))) := by
  have hl2 : (boolsV l).length = 64 := by rw [List.length_map, hl]
  refine FT.of_body Tryd.func39 rfl Tryd.ntmps39 (by simp) fun C hC => ?_
  subst hC
  conv => whnf
  intro b1
  conv => whnf
  refine LoopI.by_state (σ := Nat) (fun k => [(1, .pointer (some ⟨b1, 0, none⟩)), (3, .int .u64 (wordL (l.drop (64 - k)) : Int)), (4, .int .i64 (63 - (k : Int)))])
    (fun k => [.cells b1 (boolsV l) 48 (0, 0)]) (fun k => k ≤ 64) (fun k => 64 - k) 0 (by simp) ⟨rfl, by rw [List.drop_of_length_le (by omega)]; rfl, rfl, trivial⟩ (Sub.refl _) ?_
  rintro k f0 hk
  conv => whnf
  refine cond_dec (fun h => ?_) (fun h => ?_)
  · have hlt := wordL_drop_lt hl (j := 64 - k) (by omega)
    obtain ⟨j, hj⟩ : ∃ j, 64 - k = j + 1 := ⟨63 - k, by omega⟩
    have hjl : j < l.length := by omega
    have hd := wordL_drop hjl
    have hk1 : 64 - (k + 1) = j := by omega
    rw [hj] at hlt
    rw [show (63 : Int) - (k : Int) = (j : Int) by omega, hj]
    generalize wordL (l.drop (j + 1)) = x at hlt hd ⊢
    conv => whnf
    refine ArI.mk ((2 * x : Nat) : Int) (by rw [IntKind.wrap_u64]; omega) ?_
    conv => whnf
    refine ⟨by omega, ?_⟩
    conv => whnf
    rw [elemOff_nat]
    rotate_left
    · kernel_rfl
    rw [Nat.zero_add]
    refine LoadV.s rfl (show (boolsV l)[j]? = some (.bool l[j]) by rw [List.getElem?_map, List.getElem?_eq_getElem hjl]; rfl) ?_
    refine cond_split (fun h1 => ?_) (fun h1 => ?_)
    · rw [h1, if_pos rfl] at hd
      conv => whnf
      refine ArI.mk ((2 * x + 1 : Nat) : Int) (by rw [IntKind.wrap_u64]; omega) ?_
      conv => whnf
      refine ArI.to64 (63 - ((k + 1 : Nat) : Int)) (by omega) (by omega) ?_
      conv => whnf
      exact ⟨k + 1, _, by omega, Sub.refl _, by omega, ⟨rfl, by rw [hk1, hd]; rfl, rfl, trivial⟩, rfl⟩
    · rw [h1] at hd
      simp only [Bool.false_eq_true, if_false, Nat.add_zero] at hd
      conv => whnf
      refine ArI.to64 (63 - ((k + 1 : Nat) : Int)) (by omega) (by omega) ?_
      conv => whnf
      exact ⟨k + 1, _, by omega, Sub.refl _, by omega, ⟨rfl, by rw [hk1, hd]; rfl, rfl, trivial⟩, rfl⟩
  · obtain rfl : k = 64 := by omega
    conv => whnf
    repeat (first | (refine LoadV.s rfl rfl (forceV_of ?_); conv => whnf) | (refine LoadV.s rfl rfl ?_; conv => whnf) | (refine StoreV.c rfl rfl (Nat.le_of_ble_eq_true rfl) rfl ?_; conv => whnf) | (refine LoadV.a _ rfl (Nat.le_of_ble_eq_true rfl) ?_; conv => whnf) | (refine DrawI.quiet (by kernel_rfl) (by kernel_rfl) ?_; conv => whnf) | (refine ArI.in64 (by omega) ?_; conv => whnf) | (refine ArI.inU8 (by omega) ?_; conv => whnf) | (refine ArI.inU64 (by omega) ?_; conv => whnf) | (refine ArI.inU32 (by omega) ?_; conv => whnf) | (refine RetI.one Tryd.results39 rfl ?_; conv => whnf) | (refine RetI.two Tryd.results39 rfl rfl ?_; conv => whnf) | (refine RetI.three Tryd.results39 rfl rfl rfl ?_; conv => whnf) | (refine RetI.none Tryd.results39 ?_; conv => whnf) | (refine ⟨by first | decide | omega, ?_⟩; conv => whnf))
    exact ⟨_, Sub.sel [] rfl, ret_u64 rfl, rfl⟩
theorem boolsV_at {s i : Nat} (h : i < 64) : (boolsV (places s))[i]? = some (.bool (s.testBit i)) := by rw [List.getElem?_map, places_at h]; rfl
theorem boolsV_length (s : Nat) : (boolsV (places s)).length = 64 := by rw [List.length_map, places_length]
theorem boolsV_all (l : List Bool) : (boolsV l).all Value.oneCell' = true := by simp [Value.oneCell']
theorem rhas_ok (F : Mem) (s : Nat) (hs : s < 18446744073709551616) (n : Int) : FT Tryd.prog 24 [.int .u64 (s : Int), .int .i64 n].toArray F [] (Ret (.bool (hasN s n))) := by
  refine FT.of_body Tryd.func24 rfl Tryd.ntmps24 (by simp) fun C hC => ?_
  subst hC
  conv => whnf
  refine CallS.mk Tryd.call36 ⟨[], _, _, Sub.refl _, fun F' hF' => places_ok F' s hs, ?_⟩
  rintro e A' ⟨rfl, rfl⟩
  conv => whnf
  intro bp
  conv => whnf
  have hL := boolsV_length s
  have hA := boolsV_all (places s)
  refine StoreV.c (l := boolsV (placesK 0 0)) (by show 64 = (boolsV (places s)).length; exact hL.symm) rfl (by show 0 + (boolsV (places s)).length ≤ 64; omega) hA ?_
  rw [show (Value.agg (boolsV (places s)).toArray).cells.toList = boolsV (places s) from rfl, putAt_all (show (boolsV (placesK 0 0)).length = (boolsV (places s)).length from hL.symm)]
  conv => whnf
  refine CallS.mk Tryd.call38 ⟨[], _, _, Sub.refl _, fun F' hF' => slot_ok F' n, ?_⟩
  rintro e A' ⟨rfl, rfl⟩
  by_cases h : okSlot n
  · have e1 : hasN s n = s.testBit n.toNat := by unfold hasN; rw [decide_eq_true h, Bool.true_and]
    rw [decide_eq_true h, e1]
    obtain ⟨m, rfl⟩ := Int.eq_ofNat_of_zero_le h.1
    rw [Int.toNat_natCast]
    conv => whnf
    refine ⟨by omega, ?_⟩
    conv => whnf
    rw [elemOff_nat]
    rotate_left
    · kernel_rfl
    rw [Nat.zero_add]
    refine LoadV.s rfl (boolsV_at (s := s) (by omega)) ?_
    conv => whnf
    repeat (first | (refine LoadV.s rfl rfl (forceV_of ?_); conv => whnf) | (refine LoadV.s rfl rfl ?_; conv => whnf) | (refine StoreV.c rfl rfl (Nat.le_of_ble_eq_true rfl) rfl ?_; conv => whnf) | (refine LoadV.a _ rfl (Nat.le_of_ble_eq_true rfl) ?_; conv => whnf) | (refine DrawI.quiet (by kernel_rfl) (by kernel_rfl) ?_; conv => whnf) | (refine ArI.in64 (by omega) ?_; conv => whnf) | (refine ArI.inU8 (by omega) ?_; conv => whnf) | (refine ArI.inU64 (by omega) ?_; conv => whnf) | (refine ArI.inU32 (by omega) ?_; conv => whnf) | (refine RetI.one Tryd.results24 rfl ?_; conv => whnf) | (refine RetI.two Tryd.results24 rfl rfl ?_; conv => whnf) | (refine RetI.three Tryd.results24 rfl rfl rfl ?_; conv => whnf) | (refine RetI.none Tryd.results24 ?_; conv => whnf) | (refine ⟨by first | decide | omega, ?_⟩; conv => whnf))
    exact ⟨_, Sub.sel [] rfl, rfl, rfl⟩
  · have e1 : hasN s n = false := by unfold hasN; rw [decide_eq_false h, Bool.false_and]
    rw [decide_eq_false h, e1]
    conv => whnf
    repeat (first | (refine LoadV.s rfl rfl (forceV_of ?_); conv => whnf) | (refine LoadV.s rfl rfl ?_; conv => whnf) | (refine StoreV.c rfl rfl (Nat.le_of_ble_eq_true rfl) rfl ?_; conv => whnf) | (refine LoadV.a _ rfl (Nat.le_of_ble_eq_true rfl) ?_; conv => whnf) | (refine DrawI.quiet (by kernel_rfl) (by kernel_rfl) ?_; conv => whnf) | (refine ArI.in64 (by omega) ?_; conv => whnf) | (refine ArI.inU8 (by omega) ?_; conv => whnf) | (refine ArI.inU64 (by omega) ?_; conv => whnf) | (refine ArI.inU32 (by omega) ?_; conv => whnf) | (refine RetI.one Tryd.results24 rfl ?_; conv => whnf) | (refine RetI.two Tryd.results24 rfl rfl ?_; conv => whnf) | (refine RetI.three Tryd.results24 rfl rfl rfl ?_; conv => whnf) | (refine RetI.none Tryd.results24 ?_; conv => whnf) | (refine ⟨by first | decide | omega, ?_⟩; conv => whnf))
    exact ⟨_, Sub.sel [] rfl, rfl, rfl⟩
theorem set_ok (F : Mem) (s : Nat) (hs : s < 18446744073709551616) (n : Int) (b : Bool) : FT Tryd.prog 23 [.int .u64 (s : Int), .int .i64 n, .bool b].toArray F [] (Ret (.tuple #[.int .u64 (setN s n b : Int), .int .i64 (errS n)])) := by
  refine FT.of_body Tryd.func23 rfl Tryd.ntmps23 (by simp) fun C hC => ?_
  subst hC
  conv => whnf
  refine CallS.mk Tryd.call38 ⟨[], _, _, Sub.refl _, fun F' hF' => slot_ok F' n, ?_⟩
  rintro e A' ⟨rfl, rfl⟩
  by_cases h : okSlot n
  · have e2 : errS n = 0 := if_pos h
    rw [decide_eq_true h, e2]
    obtain ⟨m, rfl⟩ := Int.eq_ofNat_of_zero_le h.1
    have hm : m < 64 := by have := h.2; omega
    conv => whnf
    refine CallS.mk Tryd.call36 ⟨[], _, _, Sub.refl _, fun F' hF' => places_ok F' s hs, ?_⟩
    rintro e A' ⟨rfl, rfl⟩
    conv => whnf
    intro bp
    conv => whnf
    have hL := boolsV_length s
    have hA := boolsV_all (places s)
    refine StoreV.c (l := boolsV (placesK 0 0)) (by show 64 = (boolsV (places s)).length; exact hL.symm) rfl (by show 0 + (boolsV (places s)).length ≤ 64; omega) hA ?_
    rw [show (Value.agg (boolsV (places s)).toArray).cells.toList = boolsV (places s) from rfl, putAt_all (show (boolsV (placesK 0 0)).length = (boolsV (places s)).length from hL.symm)]
    conv => whnf
    refine ⟨by omega, ?_⟩
    conv => whnf
    rw [elemOff_nat]
    rotate_left
    · kernel_rfl
    rw [Nat.zero_add]
    refine StoreV.c (l := boolsV (places s)) rfl rfl (by show m + 1 ≤ _; omega) rfl ?_
    have e3 : (boolsV (places s)).set m (Value.bool b) = boolsV ((places s).set m b) := List.map_set.symm
    rw [show (Value.bool b).cells.toList = [Value.bool b] from rfl, putAt_one _ (by omega), e3]
    have hl : ((places s).set m b).length = 64 := by rw [List.length_set, places_length]
    have hw := word_set hs hm b
    generalize (places s).set m b = l at hl hw ⊢
    rw [← hw]
    have hL2 : (boolsV l).length = 64 := by rw [List.length_map, hl]
    conv => whnf
    refine LoadV.a 64 rfl (by omega) ?_
    rw [forceL_eq, List.drop_zero, List.take_of_length_le (by omega)]
    conv => whnf
    refine CallS.mk Tryd.call39 ⟨[], _, _, Sub.refl _, fun F' hF' => word_ok F' l hl, ?_⟩
    rintro e A' ⟨rfl, rfl⟩
    conv => whnf
    repeat (first | (refine LoadV.s rfl rfl (forceV_of ?_); conv => whnf) | (refine LoadV.s rfl rfl ?_; conv => whnf) | (refine StoreV.c rfl rfl (Nat.le_of_ble_eq_true rfl) rfl ?_; conv => whnf) | (refine LoadV.a _ rfl (Nat.le_of_ble_eq_true rfl) ?_; conv => whnf) | (refine DrawI.quiet (by kernel_rfl) (by kernel_rfl) ?_; conv => whnf) | (refine ArI.in64 (by omega) ?_; conv => whnf) | (refine ArI.inU8 (by omega) ?_; conv => whnf) | (refine ArI.inU64 (by omega) ?_; conv => whnf) | (refine ArI.inU32 (by omega) ?_; conv => whnf) | (refine RetI.one Tryd.results23 rfl ?_; conv => whnf) | (refine RetI.two Tryd.results23 rfl rfl ?_; conv => whnf) | (refine RetI.three Tryd.results23 rfl rfl rfl ?_; conv => whnf) | (refine RetI.none Tryd.results23 ?_; conv => whnf) | (refine ⟨by first | decide | omega, ?_⟩; conv => whnf))
    exact ⟨_, Sub.sel [] rfl, rfl, rfl⟩
  · have e1 : setN s n b = 0 := by unfold setN putN dropN; rw [if_neg h, if_neg h]; split <;> rfl
    have e2 : errS n = 1 := if_neg h
    rw [decide_eq_false h, e1, e2]
    conv => whnf
    repeat (first | (refine LoadV.s rfl rfl (forceV_of ?_); conv => whnf) | (refine LoadV.s rfl rfl ?_; conv => whnf) | (refine StoreV.c rfl rfl (Nat.le_of_ble_eq_true rfl) rfl ?_; conv => whnf) | (refine LoadV.a _ rfl (Nat.le_of_ble_eq_true rfl) ?_; conv => whnf) | (refine DrawI.quiet (by kernel_rfl) (by kernel_rfl) ?_; conv => whnf) | (refine ArI.in64 (by omega) ?_; conv => whnf) | (refine ArI.inU8 (by omega) ?_; conv => whnf) | (refine ArI.inU64 (by omega) ?_; conv => whnf) | (refine ArI.inU32 (by omega) ?_; conv => whnf) | (refine RetI.one Tryd.results23 rfl ?_; conv => whnf) | (refine RetI.two Tryd.results23 rfl rfl ?_; conv => whnf) | (refine RetI.three Tryd.results23 rfl rfl rfl ?_; conv => whnf) | (refine RetI.none Tryd.results23 ?_; conv => whnf) | (refine ⟨by first | decide | omega, ?_⟩; conv => whnf))
    exact ⟨_, Sub.sel [] rfl, rfl, rfl⟩
end Go.Proofs.YtpcefmocphbdgaaDoor
