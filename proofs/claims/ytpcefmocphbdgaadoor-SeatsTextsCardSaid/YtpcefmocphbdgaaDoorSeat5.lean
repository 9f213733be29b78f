/- The reference's lists; lists compared; sets of lists. -/
import Derived.Test.YtpcefmocphbdgaaDoorSeat4
namespace Go.Proofs.YtpcefmocphbdgaaDoor
set_option linter.unusedVariables false
set_option linter.unusedSimpArgs false
set_option maxRecDepth 100000
open SL Go.RowKit Go.Maps Go.Lib

abbrev ints (l : List Nat) : List Int := l.map fun (x : Nat) => (x : Int)
theorem natsV_ints (l : List Nat) : natsV l = intsV (ints l) := by simp
theorem same_ok (F : Mem) (oa ob : Option Addr) (ca cb : Nat) (a b : List Int) (ha : SlF F 1 oa a.length (intsV a)) (hb : SlF F 1 ob b.length (intsV b)) (hn : a.length ≤ 9223372036854775807) :
    FT Tryd.prog 16 [.slice oa a.length ca, .slice ob b.length cb].toArray F [] (Ret (.bool (decide (a = b)))) := by
  refine FT.of_body Tryd.func16 rfl Tryd.ntmps16 (by simp) fun C hC => ?_
  subst hC
  conv => whnf
  conv => whnf
  refine cond_split ?_ ?_
  · intro hne
    conv => whnf
    repeat (first | (refine LoadV.s rfl rfl (forceV_of ?_); conv => whnf) | (refine LoadV.s rfl rfl ?_; conv => whnf) | (refine StoreV.c rfl rfl (Nat.le_of_ble_eq_true rfl) rfl ?_; conv => whnf) | (refine LoadV.a _ rfl (Nat.le_of_ble_eq_true rfl) ?_; conv => whnf) | (refine DrawI.quiet (by kernel_rfl) (by kernel_rfl) ?_; conv => whnf) | (refine ArI.in64 (by omega) ?_; conv => whnf) | (refine ArI.inU8 (by omega) ?_; conv => whnf) | (refine ArI.inU64 (by omega) ?_; conv => whnf) | (refine ArI.inU32 (by omega) ?_; conv => whnf) | (refine RetI.one Tryd.results16 rfl ?_; conv => whnf) | (refine RetI.two Tryd.results16 rfl rfl ?_; conv => whnf) | (refine RetI.three Tryd.results16 rfl rfl rfl ?_; conv => whnf) | (refine RetI.none Tryd.results16 ?_; conv => whnf) | (refine ⟨by first | decide | omega, ?_⟩; conv => whnf))
    refine ⟨_, Sub.refl _, ret_bool ?_, rfl⟩
    have hne : ((a.length : Nat) : Int) ≠ ((b.length : Nat) : Int) := by simpa using hne
    rw [decide_eq_false]
    intro e; subst e; exact hne rfl
  · intro he
    have he : a.length = b.length := by have : ((a.length : Nat) : Int) = ((b.length : Nat) : Int) := by simpa using he
                                        omega
    conv => whnf
    refine LoopI.by_state (σ := Nat) (fun i => [(0, .slice oa a.length ca), (1, .slice ob b.length cb), (12, .int .i64 (a.length : Int)), (13, .int .i64 (i : Int))]) (fun _ => []) (fun i => i ≤ a.length ∧ a.take i = b.take i) (fun i => a.length - i) 0 (by simp) ⟨rfl, rfl, rfl, rfl, trivial⟩ (Sub.refl _) ?_
    rintro i f0 ⟨hi, ht⟩
    conv => whnf
    refine cond_dec (fun h => ?_) (fun h => ?_)
    · obtain ⟨xa, ya, rfl, hra⟩ := ha.at (i := i) (by omega)
      obtain ⟨xb, yb, rfl, hrb⟩ := hb.at (i := i) (by omega)
      have hia : i < a.length := by omega
      have hib : i < b.length := by omega
      conv => whnf
      repeat (first | (refine LoadV.s rfl rfl (forceV_of ?_); conv => whnf) | (refine LoadV.s rfl rfl ?_; conv => whnf) | (refine StoreV.c rfl rfl (Nat.le_of_ble_eq_true rfl) rfl ?_; conv => whnf) | (refine LoadV.a _ rfl (Nat.le_of_ble_eq_true rfl) ?_; conv => whnf) | (refine DrawI.quiet (by kernel_rfl) (by kernel_rfl) ?_; conv => whnf) | (refine RetI.one Tryd.results16 rfl ?_; conv => whnf) | (refine RetI.two Tryd.results16 rfl rfl ?_; conv => whnf) | (refine RetI.three Tryd.results16 rfl rfl rfl ?_; conv => whnf) | (refine RetI.none Tryd.results16 ?_; conv => whnf) | (refine ⟨by first | decide | omega, ?_⟩; conv => whnf))
      refine LoadV.f (hra i ((fun (x : Int) => Value.int .i64 x) a[i]) (by rw [List.getElem?_map, List.getElem?_eq_getElem hia]; rfl)) rfl ?_
      conv => whnf
      repeat (first | (refine LoadV.s rfl rfl (forceV_of ?_); conv => whnf) | (refine LoadV.s rfl rfl ?_; conv => whnf) | (refine StoreV.c rfl rfl (Nat.le_of_ble_eq_true rfl) rfl ?_; conv => whnf) | (refine LoadV.a _ rfl (Nat.le_of_ble_eq_true rfl) ?_; conv => whnf) | (refine DrawI.quiet (by kernel_rfl) (by kernel_rfl) ?_; conv => whnf) | (refine RetI.one Tryd.results16 rfl ?_; conv => whnf) | (refine RetI.two Tryd.results16 rfl rfl ?_; conv => whnf) | (refine RetI.three Tryd.results16 rfl rfl rfl ?_; conv => whnf) | (refine RetI.none Tryd.results16 ?_; conv => whnf) | (refine ⟨by first | decide | omega, ?_⟩; conv => whnf))
      refine LoadV.f (hrb i ((fun (x : Int) => Value.int .i64 x) b[i]) (by rw [List.getElem?_map, List.getElem?_eq_getElem hib]; rfl)) rfl ?_
      conv => whnf
      by_cases hq : a[i] = b[i]
      · rw [hq]
        rw [show (b[i] != b[i]) = false from bne_self_eq_false _]
        conv => whnf
        refine ArI.to64 ((i + 1 : Nat) : Int) (by omega) (by omega) ?_
        conv => whnf
        exact ⟨i + 1, [], by omega, Sub.refl _, ⟨by omega, take_eq_step ht (by omega) (by omega) hq⟩, ⟨rfl, rfl, rfl, rfl, trivial⟩, rfl⟩
      · rw [show (a[i] != b[i]) = true from bne_iff_ne.2 hq]
        conv => whnf
        repeat (first | (refine LoadV.s rfl rfl (forceV_of ?_); conv => whnf) | (refine LoadV.s rfl rfl ?_; conv => whnf) | (refine StoreV.c rfl rfl (Nat.le_of_ble_eq_true rfl) rfl ?_; conv => whnf) | (refine LoadV.a _ rfl (Nat.le_of_ble_eq_true rfl) ?_; conv => whnf) | (refine DrawI.quiet (by kernel_rfl) (by kernel_rfl) ?_; conv => whnf) | (refine ArI.in64 (by omega) ?_; conv => whnf) | (refine ArI.inU8 (by omega) ?_; conv => whnf) | (refine ArI.inU64 (by omega) ?_; conv => whnf) | (refine ArI.inU32 (by omega) ?_; conv => whnf) | (refine RetI.one Tryd.results16 rfl ?_; conv => whnf) | (refine RetI.two Tryd.results16 rfl rfl ?_; conv => whnf) | (refine RetI.three Tryd.results16 rfl rfl rfl ?_; conv => whnf) | (refine RetI.none Tryd.results16 ?_; conv => whnf) | (refine ⟨by first | decide | omega, ?_⟩; conv => whnf))
        refine ⟨_, Sub.refl _, ret_bool ?_, rfl⟩
        rw [decide_eq_false]
        intro e; subst e; exact hq rfl
    · conv => whnf
      repeat (first | (refine LoadV.s rfl rfl (forceV_of ?_); conv => whnf) | (refine LoadV.s rfl rfl ?_; conv => whnf) | (refine StoreV.c rfl rfl (Nat.le_of_ble_eq_true rfl) rfl ?_; conv => whnf) | (refine LoadV.a _ rfl (Nat.le_of_ble_eq_true rfl) ?_; conv => whnf) | (refine DrawI.quiet (by kernel_rfl) (by kernel_rfl) ?_; conv => whnf) | (refine ArI.in64 (by omega) ?_; conv => whnf) | (refine ArI.inU8 (by omega) ?_; conv => whnf) | (refine ArI.inU64 (by omega) ?_; conv => whnf) | (refine ArI.inU32 (by omega) ?_; conv => whnf) | (refine RetI.one Tryd.results16 rfl ?_; conv => whnf) | (refine RetI.two Tryd.results16 rfl rfl ?_; conv => whnf) | (refine RetI.three Tryd.results16 rfl rfl rfl ?_; conv => whnf) | (refine RetI.none Tryd.results16 ?_; conv => whnf) | (refine ⟨by first | decide | omega, ?_⟩; conv => whnf))
      refine ⟨_, Sub.refl _, ret_bool ?_, rfl⟩
      have : i = a.length := by omega
      subst this
      rw [decide_eq_true]
      have h1 : a.take a.length = a := List.take_length
      have h2 : b.take a.length = b := by rw [he]; exact List.take_length
      rw [← h1, ht, h2]
/-- The slots up to a place. -/
def slotsK (s i : Nat) : List Nat := (List.range i).filter fun j => s.testBit j
theorem slotsK_succ (s i : Nat) : slotsK s (i + 1) = slotsK s i ++ (if s.testBit i = true then [i] else []) := by
  unfold slotsK; rw [List.range_succ, List.filter_append]; cases h : s.testBit i <;> simp [h]
theorem slotsK_len (s i : Nat) : (slotsK s i).length ≤ i := by
  unfold slotsK
  have := List.length_filter_le (fun j => s.testBit j) (List.range i)
  rwa [List.length_range] at this
theorem rlist_ok (F : Mem) (s : Nat) (hs : s < 18446744073709551616) :
    FT Tryd.prog 21 [.int .u64 (s : Int)].toArray F [] (fun e H => ∃ g, (g = none ↔ slots s = []) ∧ e = .returned (svOf g (slots s).length) ∧ H = [ownL g (slots s)]) := by
  refine FT.of_body Tryd.func21 rfl Tryd.ntmps21 (by simp) fun C hC => ?_
  subst hC
  conv => whnf
  refine CallS.mk Tryd.call36 ⟨[], _, _, Sub.refl _, fun F' hF' => places_ok F' s hs, ?_⟩
  rintro e A' ⟨rfl, rfl⟩
  conv => whnf
  intro bp
  conv => whnf
  have hL := boolsV_length s
  have hA := boolsV_all (places s)
  refine StoreV.c (l := boolsV (placesK 0 0)) (by show 64 = (boolsV (places s)).length; exact hL.symm) rfl (by show 0 + (boolsV (places s)).length ≤ 64; omega) hA ?_
  rw [show (Value.agg (boolsV (places s)).toArray).cells.toList = boolsV (places s) from rfl, putAt_all (show (boolsV (placesK 0 0)).length = (boolsV (places s)).length from hL.symm)]
  conv => whnf
  refine LoopI.by_state (σ := Nat × Option (Nat × Nat)) (fun y => [(3, .pointer (some ⟨bp, 0, none⟩)), (4, svOf y.2 (slotsK s y.1).length), (5, .int .i64 (y.1 : Int))])
    (fun y => [ownL y.2 (slotsK s y.1), .cells bp (boolsV (places s)) 48 (0, 0)]) (fun y => y.1 ≤ 64 ∧ (y.2 = none ↔ slotsK s y.1 = [])) (fun y => 64 - y.1) (0, none) ⟨by simp, by simp [slotsK]⟩ ⟨rfl, rfl, rfl, trivial⟩ ((Sub.nil 3 1).trans (Sub.sel [0, 1] rfl)) ?_
  rintro ⟨i, g⟩ f0 ⟨hi, hg⟩
  dsimp only at hi hg ⊢
  conv => whnf
  refine cond_dec (fun h => ?_) (fun h => ?_)
  · conv => whnf
    refine ⟨by omega, ?_⟩
    conv => whnf
    rw [elemOff_nat]
    rotate_left
    · kernel_rfl
    rw [Nat.zero_add]
    refine LoadV.s rfl (boolsV_at (s := s) (by omega)) ?_
    have hss := slotsK_succ s i
    have hle := slotsK_len s i
    refine cond_split (fun h1 => ?_) (fun h1 => ?_)
    · rw [h1, if_pos rfl] at hss
      conv => whnf
      intro bl
      conv => whnf
      refine BuiltV.append (sv := svOf g (slotsK s i).length) (m := 1) Tryd.underlying30 rfl rfl rfl rfl (by decide) (Row.cells 1) rfl (by decide) rfl (by show ((slotsK s i).length + 1) * 8 ≤ _; omega) (by omega) fun gb gc => ?_
      conv => whnf
      refine ArI.to64 ((i + 1 : Nat) : Int) (by omega) (by omega) ?_
      conv => whnf
      refine ⟨(i + 1, some (gb, gc)), _, by dsimp only; omega, Sub.sel [1, 2] rfl, ⟨by dsimp only; omega, by dsimp only; rw [hss]; simp⟩, ⟨rfl, by dsimp only; rw [hss, List.length_append]; rfl, rfl, trivial⟩, ?_⟩
      dsimp only [ownL, natsV]
      rw [hss, List.length_append, List.map_append]
      rfl
    · rw [h1] at hss
      simp only [Bool.false_eq_true, if_false, List.append_nil] at hss
      conv => whnf
      refine ArI.to64 ((i + 1 : Nat) : Int) (by omega) (by omega) ?_
      conv => whnf
      exact ⟨(i + 1, g), _, by dsimp only; omega, Sub.refl _, ⟨by dsimp only; omega, by dsimp only; rw [hss]; exact hg⟩, ⟨rfl, by dsimp only; rw [hss]; rfl, rfl, trivial⟩, by dsimp only; rw [hss]⟩
  · obtain rfl : i = 64 := by omega
    conv => whnf
    repeat (first | (refine LoadV.s rfl rfl (forceV_of ?_); conv => whnf) | (refine LoadV.s rfl rfl ?_; conv => whnf) | (refine StoreV.c rfl rfl (Nat.le_of_ble_eq_true rfl) rfl ?_; conv => whnf) | (refine LoadV.a _ rfl (Nat.le_of_ble_eq_true rfl) ?_; conv => whnf) | (refine DrawI.quiet (by kernel_rfl) (by kernel_rfl) ?_; conv => whnf) | (refine ArI.in64 (by omega) ?_; conv => whnf) | (refine ArI.inU8 (by omega) ?_; conv => whnf) | (refine ArI.inU64 (by omega) ?_; conv => whnf) | (refine ArI.inU32 (by omega) ?_; conv => whnf) | (refine RetI.one Tryd.results21 rfl ?_; conv => whnf) | (refine RetI.two Tryd.results21 rfl rfl ?_; conv => whnf) | (refine RetI.three Tryd.results21 rfl rfl rfl ?_; conv => whnf) | (refine RetI.none Tryd.results21 ?_; conv => whnf) | (refine ⟨by first | decide | omega, ?_⟩; conv => whnf))
    exact ⟨_, Sub.sel [0] rfl, g, hg, rfl, rfl⟩
theorem rcount_ok (F : Mem) (s : Nat) (hs : s < 18446744073709551616) : FT Tryd.prog 25 [.int .u64 (s : Int)].toArray F [] (fun e H => e = .returned (.int .i64 ((slots s).length : Int)) ∧ H = []) := by
  refine FT.of_body Tryd.func25 rfl Tryd.ntmps25 (by simp) fun C hC => ?_
  subst hC
  conv => whnf
  refine CallS.mk Tryd.call21 ⟨[], _, _, Sub.refl _, fun F' hF' => rlist_ok F' s hs, ?_⟩
  rintro e A' ⟨g, hg, rfl, rfl⟩
  conv => whnf
  repeat (first | (refine LoadV.s rfl rfl (forceV_of ?_); conv => whnf) | (refine LoadV.s rfl rfl ?_; conv => whnf) | (refine StoreV.c rfl rfl (Nat.le_of_ble_eq_true rfl) rfl ?_; conv => whnf) | (refine LoadV.a _ rfl (Nat.le_of_ble_eq_true rfl) ?_; conv => whnf) | (refine DrawI.quiet (by kernel_rfl) (by kernel_rfl) ?_; conv => whnf) | (refine ArI.in64 (by omega) ?_; conv => whnf) | (refine ArI.inU8 (by omega) ?_; conv => whnf) | (refine ArI.inU64 (by omega) ?_; conv => whnf) | (refine ArI.inU32 (by omega) ?_; conv => whnf) | (refine RetI.one Tryd.results25 rfl ?_; conv => whnf) | (refine RetI.two Tryd.results25 rfl rfl ?_; conv => whnf) | (refine RetI.three Tryd.results25 rfl rfl rfl ?_; conv => whnf) | (refine RetI.none Tryd.results25 ?_; conv => whnf) | (refine ⟨by first | decide | omega, ?_⟩; conv => whnf))
  exact ⟨_, Sub.sel [] rfl, rfl, rfl⟩
theorem find_none_step {p : Nat → Bool} {i : Nat} (h : ∀ j, j < i → p j = false) (hp : p i = false) : ∀ j, j < i + 1 → p j = false := fun j hj => by
  by_cases e : j = i
  · rw [e]; exact hp
  · exact h j (by omega)
theorem rlowest_ok (F : Mem) (s : Nat) (hs : s < 18446744073709551616) : FT Tryd.prog 26 [.int .u64 (s : Int)].toArray F [] (Ret (.int .i64 (nextI (cmp s) 0))) := by
  refine FT.of_body Tryd.func26 rfl Tryd.ntmps26 (by simp) fun C hC => ?_
  subst hC
  conv => whnf
  refine CallS.mk Tryd.call36 ⟨[], _, _, Sub.refl _, fun F' hF' => places_ok F' s hs, ?_⟩
  rintro e A' ⟨rfl, rfl⟩
  conv => whnf
  intro bp
  conv => whnf
  have hL := boolsV_length s
  have hA := boolsV_all (places s)
  refine StoreV.c (l := boolsV (placesK 0 0)) (by show 64 = (boolsV (places s)).length; exact hL.symm) rfl (by show 0 + (boolsV (places s)).length ≤ 64; omega) hA ?_
  rw [show (Value.agg (boolsV (places s)).toArray).cells.toList = boolsV (places s) from rfl, putAt_all (show (boolsV (placesK 0 0)).length = (boolsV (places s)).length from hL.symm)]
  conv => whnf
  refine LoopI.by_state (σ := Nat) (fun i => [(3, .pointer (some ⟨bp, 0, none⟩)), (4, .int .i64 (i : Int))])
    (fun _ => [.cells bp (boolsV (places s)) 48 (0, 0)]) (fun i => i ≤ 64 ∧ ∀ j, j < i → (cmp s).testBit j = false) (fun i => 64 - i) 0 ⟨by simp, fun j hj => by omega⟩ ⟨rfl, rfl, trivial⟩ (Sub.refl _) ?_
  rintro i f0 ⟨hi, hf⟩
  conv => whnf
  refine cond_dec (fun h => ?_) (fun h => ?_)
  · conv => whnf
    refine ⟨by omega, ?_⟩
    conv => whnf
    rw [elemOff_nat]
    rotate_left
    · kernel_rfl
    rw [Nat.zero_add]
    refine LoadV.s rfl (boolsV_at (s := s) (by omega)) ?_
    have hc := cmp_bit hs i
    rw [decide_eq_true (show i < 64 by omega), Bool.true_and] at hc
    conv => whnf
    rw [← hc]
    refine cond_split (fun h1 => ?_) (fun h1 => ?_)
    · conv => whnf
      repeat (first | (refine LoadV.s rfl rfl (forceV_of ?_); conv => whnf) | (refine LoadV.s rfl rfl ?_; conv => whnf) | (refine StoreV.c rfl rfl (Nat.le_of_ble_eq_true rfl) rfl ?_; conv => whnf) | (refine LoadV.a _ rfl (Nat.le_of_ble_eq_true rfl) ?_; conv => whnf) | (refine DrawI.quiet (by kernel_rfl) (by kernel_rfl) ?_; conv => whnf) | (refine ArI.in64 (by omega) ?_; conv => whnf) | (refine ArI.inU8 (by omega) ?_; conv => whnf) | (refine ArI.inU64 (by omega) ?_; conv => whnf) | (refine ArI.inU32 (by omega) ?_; conv => whnf) | (refine RetI.one Tryd.results26 rfl ?_; conv => whnf) | (refine RetI.two Tryd.results26 rfl rfl ?_; conv => whnf) | (refine RetI.three Tryd.results26 rfl rfl rfl ?_; conv => whnf) | (refine RetI.none Tryd.results26 ?_; conv => whnf) | (refine ⟨by first | decide | omega, ?_⟩; conv => whnf))
      refine ⟨_, Sub.sel [] rfl, ret_int ?_, rfl⟩
      have : firstFrom (cmp s) (max (0 : Int) 0).toNat = some i := firstFrom_some.2 ⟨by omega, Nat.zero_le _, h1, fun j hj _ => hf j hj⟩
      unfold nextI; rw [this]; rfl
    · conv => whnf
      refine ArI.to64 ((i + 1 : Nat) : Int) (by omega) (by omega) ?_
      conv => whnf
      exact ⟨i + 1, _, by omega, Sub.refl _, ⟨by omega, find_none_step hf h1⟩, ⟨rfl, rfl, trivial⟩, rfl⟩
  · obtain rfl : i = 64 := by omega
    conv => whnf
    repeat (first | (refine LoadV.s rfl rfl (forceV_of ?_); conv => whnf) | (refine LoadV.s rfl rfl ?_; conv => whnf) | (refine StoreV.c rfl rfl (Nat.le_of_ble_eq_true rfl) rfl ?_; conv => whnf) | (refine LoadV.a _ rfl (Nat.le_of_ble_eq_true rfl) ?_; conv => whnf) | (refine DrawI.quiet (by kernel_rfl) (by kernel_rfl) ?_; conv => whnf) | (refine ArI.in64 (by omega) ?_; conv => whnf) | (refine ArI.inU8 (by omega) ?_; conv => whnf) | (refine ArI.inU64 (by omega) ?_; conv => whnf) | (refine ArI.inU32 (by omega) ?_; conv => whnf) | (refine RetI.one Tryd.results26 rfl ?_; conv => whnf) | (refine RetI.two Tryd.results26 rfl rfl ?_; conv => whnf) | (refine RetI.three Tryd.results26 rfl rfl rfl ?_; conv => whnf) | (refine RetI.none Tryd.results26 ?_; conv => whnf) | (refine ⟨by first | decide | omega, ?_⟩; conv => whnf))
    refine ⟨_, Sub.sel [] rfl, ret_int ?_, rfl⟩
    have : firstFrom (cmp s) (max (0 : Int) 0).toNat = none := firstFrom_none.2 fun j hj _ => hf j hj
    unfold nextI; rw [this]; rfl
theorem rnext_ok (F : Mem) (s : Nat) (hs : s < 18446744073709551616) (n : Int) : FT Tryd.prog 27 [.int .u64 (s : Int), .int .i64 n].toArray F [] (Ret (.int .i64 (nextI s n))) := by
  refine FT.of_body Tryd.func27 rfl Tryd.ntmps27 (by simp) fun C hC => ?_
  subst hC
  conv => whnf
  refine CallS.mk Tryd.call36 ⟨[], _, _, Sub.refl _, fun F' hF' => places_ok F' s hs, ?_⟩
  rintro e A' ⟨rfl, rfl⟩
  conv => whnf
  intro bp
  conv => whnf
  have hL := boolsV_length s
  have hA := boolsV_all (places s)
  refine StoreV.c (l := boolsV (placesK 0 0)) (by show 64 = (boolsV (places s)).length; exact hL.symm) rfl (by show 0 + (boolsV (places s)).length ≤ 64; omega) hA ?_
  rw [show (Value.agg (boolsV (places s)).toArray).cells.toList = boolsV (places s) from rfl, putAt_all (show (boolsV (placesK 0 0)).length = (boolsV (places s)).length from hL.symm)]
  conv => whnf
  have hmx := max_nat n
  unfold nextI
  generalize (max n 0).toNat = k at hmx ⊢
  rw [hmx]
  refine LoopI.by_state (σ := Nat) (fun i => [(5, .pointer (some ⟨bp, 0, none⟩)), (6, .int .i64 (i : Int))])
    (fun _ => [.cells bp (boolsV (places s)) 48 (0, 0)]) (fun i => k ≤ i ∧ (i ≤ 64 ∨ i = k) ∧ ∀ j, j < i → k ≤ j → s.testBit j = false) (fun i => 64 - i) k ⟨by omega, .inr rfl, fun j hj hk => by omega⟩ ⟨rfl, rfl, trivial⟩ (Sub.refl _) ?_
  rintro i f0 ⟨hk, hi, hf⟩
  conv => whnf
  refine cond_dec (fun h => ?_) (fun h => ?_)
  · conv => whnf
    refine ⟨by omega, ?_⟩
    conv => whnf
    rw [elemOff_nat]
    rotate_left
    · kernel_rfl
    rw [Nat.zero_add]
    refine LoadV.s rfl (boolsV_at (s := s) (by omega)) ?_
    conv => whnf
    refine cond_split (fun h1 => ?_) (fun h1 => ?_)
    · conv => whnf
      repeat (first | (refine LoadV.s rfl rfl (forceV_of ?_); conv => whnf) | (refine LoadV.s rfl rfl ?_; conv => whnf) | (refine StoreV.c rfl rfl (Nat.le_of_ble_eq_true rfl) rfl ?_; conv => whnf) | (refine LoadV.a _ rfl (Nat.le_of_ble_eq_true rfl) ?_; conv => whnf) | (refine DrawI.quiet (by kernel_rfl) (by kernel_rfl) ?_; conv => whnf) | (refine ArI.in64 (by omega) ?_; conv => whnf) | (refine ArI.inU8 (by omega) ?_; conv => whnf) | (refine ArI.inU64 (by omega) ?_; conv => whnf) | (refine ArI.inU32 (by omega) ?_; conv => whnf) | (refine RetI.one Tryd.results27 rfl ?_; conv => whnf) | (refine RetI.two Tryd.results27 rfl rfl ?_; conv => whnf) | (refine RetI.three Tryd.results27 rfl rfl rfl ?_; conv => whnf) | (refine RetI.none Tryd.results27 ?_; conv => whnf) | (refine ⟨by first | decide | omega, ?_⟩; conv => whnf))
      refine ⟨_, Sub.sel [] rfl, ret_int ?_, rfl⟩
      have : firstFrom s k = some i := firstFrom_some.2 ⟨by omega, hk, h1, hf⟩
      rw [this]; rfl
    · conv => whnf
      refine ArI.to64 ((i + 1 : Nat) : Int) (by omega) (by omega) ?_
      conv => whnf
      refine ⟨i + 1, _, by omega, Sub.refl _, ⟨by omega, .inl (by omega), fun j hj hkj => ?_⟩, ⟨rfl, rfl, trivial⟩, rfl⟩
      by_cases e : j = i
      · rw [e]; exact h1
      · exact hf j (by omega) hkj
  · conv => whnf
    repeat (first | (refine LoadV.s rfl rfl (forceV_of ?_); conv => whnf) | (refine LoadV.s rfl rfl ?_; conv => whnf) | (refine StoreV.c rfl rfl (Nat.le_of_ble_eq_true rfl) rfl ?_; conv => whnf) | (refine LoadV.a _ rfl (Nat.le_of_ble_eq_true rfl) ?_; conv => whnf) | (refine DrawI.quiet (by kernel_rfl) (by kernel_rfl) ?_; conv => whnf) | (refine ArI.in64 (by omega) ?_; conv => whnf) | (refine ArI.inU8 (by omega) ?_; conv => whnf) | (refine ArI.inU64 (by omega) ?_; conv => whnf) | (refine ArI.inU32 (by omega) ?_; conv => whnf) | (refine RetI.one Tryd.results27 rfl ?_; conv => whnf) | (refine RetI.two Tryd.results27 rfl rfl ?_; conv => whnf) | (refine RetI.three Tryd.results27 rfl rfl rfl ?_; conv => whnf) | (refine RetI.none Tryd.results27 ?_; conv => whnf) | (refine ⟨by first | decide | omega, ?_⟩; conv => whnf))
    refine ⟨_, Sub.sel [] rfl, ret_int ?_, rfl⟩
    have : firstFrom s k = none := firstFrom_none.2 fun j hj hkj => by
      rcases hi with hi | rfl
      · exact hf j (by omega) hkj
      · omega
    rw [this]; rfl
end Go.Proofs.YtpcefmocphbdgaaDoor
