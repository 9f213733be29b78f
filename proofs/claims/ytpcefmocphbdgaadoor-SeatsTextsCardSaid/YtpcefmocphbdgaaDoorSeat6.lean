/- The reference's taking; sets of lists. -/
import Derived.Test.YtpcefmocphbdgaaDoorSeat5
namespace Go.Proofs.YtpcefmocphbdgaaDoor
set_option linter.unusedVariables false
set_option linter.unusedSimpArgs false
set_option maxRecDepth 100000
open SL Go.RowKit Go.Maps Go.Lib

theorem some_snoc {α : Type} (p : Nat × Nat) (l : List α) (x : α) : some p = none ↔ l ++ [x] = [] := by simp
theorem rtake_ok (F : Mem) (s : Nat) (hs : s < 18446744073709551616) (n : Int) (hn : n ≤ 9223372036854775807) : FT Tryd.prog 15 [.int .u64 (s : Int), .int .i64 n].toArray F [] (TakeR s n) := by
  refine FT.of_body Tryd.func15 rfl Tryd.ntmps15 (by simp) fun C hC => ?_
  subst hC
  conv => whnf
  refine cond_dec (fun h => ?_) (fun h => ?_)
  · have e1 : takeL s n = [] := if_pos (.inl h)
    have e2 : takeS s n = 0 := if_pos (.inl h)
    have e3 : takeE s n = 1 := if_pos h
    conv => whnf
    repeat (first | (refine LoadV.s rfl rfl (forceV_of ?_); conv => whnf) | (refine LoadV.s rfl rfl ?_; conv => whnf) | (refine StoreV.c rfl rfl (Nat.le_of_ble_eq_true rfl) rfl ?_; conv => whnf) | (refine LoadV.a _ rfl (Nat.le_of_ble_eq_true rfl) ?_; conv => whnf) | (refine DrawI.quiet (by kernel_rfl) (by kernel_rfl) ?_; conv => whnf) | (refine ArI.in64 (by omega) ?_; conv => whnf) | (refine ArI.inU8 (by omega) ?_; conv => whnf) | (refine ArI.inU64 (by omega) ?_; conv => whnf) | (refine ArI.inU32 (by omega) ?_; conv => whnf) | (refine RetI.one Tryd.results15 rfl ?_; conv => whnf) | (refine RetI.two Tryd.results15 rfl rfl ?_; conv => whnf) | (refine RetI.three Tryd.results15 rfl rfl rfl ?_; conv => whnf) | (refine RetI.none Tryd.results15 ?_; conv => whnf) | (refine ⟨by first | decide | omega, ?_⟩; conv => whnf))
    exact ⟨_, (Sub.nil 3 1).trans (Sub.sel [0] rfl), none, by simp [e1], by rw [e1, e2, e3]; rfl, by rw [e1]; rfl⟩
  · conv => whnf
    refine CallS.mk Tryd.call25 ⟨[], _, _, Sub.refl _, fun F' hF' => rcount_ok F' s hs, ?_⟩
    rintro e A' ⟨rfl, rfl⟩
    conv => whnf
    have hle := slots_length_le s
    refine ArI.in64 (by omega) ?_
    conv => whnf
    refine cond_dec (fun h2 => ?_) (fun h2 => ?_)
    · have e1 : takeL s n = [] := if_pos (.inr h2)
      have e2 : takeS s n = 0 := if_pos (.inr h2)
      have e3 : takeE s n = 18 := by unfold takeE; rw [if_neg h, if_pos h2]
      conv => whnf
      repeat (first | (refine LoadV.s rfl rfl (forceV_of ?_); conv => whnf) | (refine LoadV.s rfl rfl ?_; conv => whnf) | (refine StoreV.c rfl rfl (Nat.le_of_ble_eq_true rfl) rfl ?_; conv => whnf) | (refine LoadV.a _ rfl (Nat.le_of_ble_eq_true rfl) ?_; conv => whnf) | (refine DrawI.quiet (by kernel_rfl) (by kernel_rfl) ?_; conv => whnf) | (refine ArI.in64 (by omega) ?_; conv => whnf) | (refine ArI.inU8 (by omega) ?_; conv => whnf) | (refine ArI.inU64 (by omega) ?_; conv => whnf) | (refine ArI.inU32 (by omega) ?_; conv => whnf) | (refine RetI.one Tryd.results15 rfl ?_; conv => whnf) | (refine RetI.two Tryd.results15 rfl rfl ?_; conv => whnf) | (refine RetI.three Tryd.results15 rfl rfl rfl ?_; conv => whnf) | (refine RetI.none Tryd.results15 ?_; conv => whnf) | (refine ⟨by first | decide | omega, ?_⟩; conv => whnf))
      exact ⟨_, (Sub.nil 3 1).trans (Sub.sel [0] rfl), none, by simp [e1], by rw [e1, e2, e3]; rfl, by rw [e1]; rfl⟩
    · have hno : ¬ (n < 0 ∨ n > 64 - (slots s).length) := by omega
      have e1 : takeL s n = (slots (cmp s)).take n.toNat := if_neg hno
      have e2 : takeS s n = putL s ((slots (cmp s)).take n.toNat) := if_neg hno
      have e3 : takeE s n = 0 := by unfold takeE; rw [if_neg h, if_neg h2]
      have hcc := count_cmp hs
      unfold TakeR
      rw [e1, e2, e3]
      obtain ⟨m, rfl⟩ := Int.eq_ofNat_of_zero_le (show 0 ≤ n by omega)
      rw [Int.toNat_natCast]
      conv => whnf
      refine LoopI.by_state (σ := Nat × Option (Nat × Nat)) (fun y => [(0, .int .u64 (putL s ((slots (cmp s)).take y.1) : Int)), (1, .int .i64 (m : Int)), (7, svOf y.2 ((slots (cmp s)).take y.1).length), (8, .int .i64 (y.1 : Int))])
        (fun y => [ownL y.2 ((slots (cmp s)).take y.1)]) (fun y => y.1 ≤ m ∧ (y.2 = none ↔ (slots (cmp s)).take y.1 = [])) (fun y => m - y.1) (0, none) ⟨Nat.zero_le _, by simp⟩ ⟨rfl, rfl, rfl, rfl, trivial⟩ ((Sub.nil 3 1).trans (Sub.sel [0] rfl)) ?_
      rintro ⟨i, g⟩ f0 ⟨hi, hg⟩
      dsimp only at hi hg ⊢
      conv => whnf
      refine cond_dec (fun h3 => ?_) (fun h3 => ?_)
      · have hil : i < (slots (cmp s)).length := by omega
        obtain ⟨hlow, h64⟩ := take_low hs hil
        have hput := take_put (s := s) hil h64
        obtain ⟨_, hlt⟩ := take_steps hs i (by omega)
        have hsn : (slots (cmp s)).take (i + 1) = (slots (cmp s)).take i ++ [(slots (cmp s))[i]] := (List.take_append_getElem hil).symm
        have hlen : ((slots (cmp s)).take i).length ≤ 64 := by rw [List.length_take]; omega
        conv => whnf
        refine CallS.mk Tryd.call26 ⟨[], _, _, Sub.refl _, fun F' hF' => rlowest_ok F' _ hlt, ?_⟩
        rintro e A' ⟨rfl, rfl⟩
        rw [hlow]
        conv => whnf
        intro bl
        conv => whnf
        refine BuiltV.append (sv := svOf g ((slots (cmp s)).take i).length) (m := 1) Tryd.underlying30 rfl rfl rfl rfl (by decide) (Row.cells 1) rfl (by decide) rfl (by show (((slots (cmp s)).take i).length + 1) * 8 ≤ _; omega) (by omega) fun gb gc => ?_
        conv => whnf
        refine CallS.mk Tryd.call23 ⟨[], _, _, Sub.refl _, fun F' hF' => set_ok F' _ hlt _ true, ?_⟩
        rintro e A' ⟨rfl, rfl⟩
        rw [show setN (putL s ((slots (cmp s)).take i)) ((slots (cmp s))[i] : Int) true = putL s ((slots (cmp s)).take (i + 1)) from hput]
        conv => whnf
        refine ArI.to64 ((i + 1 : Nat) : Int) (by omega) (by omega) ?_
        conv => whnf
        refine ⟨(i + 1, some (gb, gc)), _, by dsimp only; omega, Sub.sel [1] rfl, ⟨by dsimp only; omega, by dsimp only; rw [hsn]; exact some_snoc _ _ _⟩, ⟨rfl, rfl, by dsimp only; rw [hsn, List.length_append]; rfl, rfl, trivial⟩, ?_⟩
        dsimp only [ownL, natsV]
        rw [hsn, List.length_append, List.map_append]
        rfl
      · obtain rfl : i = m := by omega
        conv => whnf
        repeat (first | (refine LoadV.s rfl rfl (forceV_of ?_); conv => whnf) | (refine LoadV.s rfl rfl ?_; conv => whnf) | (refine StoreV.c rfl rfl (Nat.le_of_ble_eq_true rfl) rfl ?_; conv => whnf) | (refine LoadV.a _ rfl (Nat.le_of_ble_eq_true rfl) ?_; conv => whnf) | (refine DrawI.quiet (by kernel_rfl) (by kernel_rfl) ?_; conv => whnf) | (refine ArI.in64 (by omega) ?_; conv => whnf) | (refine ArI.inU8 (by omega) ?_; conv => whnf) | (refine ArI.inU64 (by omega) ?_; conv => whnf) | (refine ArI.inU32 (by omega) ?_; conv => whnf) | (refine RetI.one Tryd.results15 rfl ?_; conv => whnf) | (refine RetI.two Tryd.results15 rfl rfl ?_; conv => whnf) | (refine RetI.three Tryd.results15 rfl rfl rfl ?_; conv => whnf) | (refine RetI.none Tryd.results15 ?_; conv => whnf) | (refine ⟨by first | decide | omega, ?_⟩; conv => whnf))
        exact ⟨_, Sub.refl _, g, hg, rfl, rfl⟩
/-! ### Sets of lists -/
def allOk (l : List Int) : Bool := l.all fun n => decide (okSlot n)
def foldS (s : Nat) (l : List Int) : Nat := l.foldl putN s
def ofS (l : List Int) : Nat := if allOk l = true then foldS 0 l else 0
def errO (l : List Int) : Int := if allOk l = true then 0 else 1
theorem foldS_lt {s : Nat} (hs : s < 18446744073709551616) : ∀ l : List Int, foldS s l < 18446744073709551616
  | [] => hs
  | n :: l => by unfold foldS; rw [List.foldl_cons]; exact foldS_lt (putN_lt hs n) l
theorem foldS_snoc (s : Nat) (l : List Int) (i : Nat) (h : i < l.length) : foldS s (l.take (i + 1)) = putN (foldS s (l.take i)) l[i] := by
  unfold foldS; rw [← List.take_append_getElem h, List.foldl_append]; rfl
theorem not_allOk {l : List Int} {i : Nat} (h : i < l.length) (hn : ¬ okSlot l[i]) : allOk l = false := by
  unfold allOk
  rw [List.all_eq_false]
  exact ⟨l[i], List.getElem_mem h, by simpa using hn⟩
theorem allOk_snoc {l : List Int} {i : Nat} (h : i < l.length) (ht : allOk (l.take i) = true) (hn : okSlot l[i]) : allOk (l.take (i + 1)) = true := by
  unfold allOk at *
  rw [← List.take_append_getElem h, List.all_append, ht]; simp; exact hn
theorem of_ok (F : Mem) (oa : Option Addr) (ca : Nat) (l : List Int) (hl : SlF F 1 oa l.length (intsV l)) (hn : l.length ≤ 9223372036854775807) :
    FT Tryd.prog 18 [.slice oa l.length ca].toArray F [] (Ret (.tuple #[.int .u64 (ofS l : Int), .int .i64 (errO l)])) := by
  refine FT.of_body Tryd.func18 rfl Tryd.ntmps18 (by simp) fun C hC => ?_
  subst hC
  conv => whnf
  refine LoopI.by_state (σ := Nat) (fun i => [(4, .int .u64 (foldS 0 (l.take i) : Int)), (7, .slice oa l.length ca), (8, .int .i64 (l.length : Int)), (9, .int .i64 (i : Int))]) (fun _ => []) (fun i => i ≤ l.length ∧ allOk (l.take i) = true) (fun i => l.length - i) 0 ⟨Nat.zero_le _, by simp [allOk]⟩ ⟨rfl, rfl, rfl, rfl, trivial⟩ (Sub.refl _) ?_
  rintro i f0 ⟨hi, ha⟩
  conv => whnf
  refine cond_dec (fun h => ?_) (fun h => ?_)
  · have hil : i < l.length := by omega
    obtain ⟨xa, ya, rfl, hra⟩ := hl.at hil
    have hsn := foldS_snoc 0 l i hil
    have hlt := foldS_lt (s := 0) (by decide) (l.take i)
    have hmore : okSlot l[i] → allOk (l.take (i + 1)) = true := allOk_snoc hil ha
    have hno : ¬ okSlot l[i] → allOk l = false := not_allOk hil
    have hld := hra i (.int .i64 l[i]) (by rw [List.getElem?_map, List.getElem?_eq_getElem hil]; rfl)
    generalize l[i] = y at hsn hmore hno hld
    conv => whnf
    refine ⟨by omega, ?_⟩
    conv => whnf
    rw [elemOff_nat]
    rotate_left
    · kernel_rfl
    refine LoadV.f hld rfl ?_
    conv => whnf
    refine CallS.mk Tryd.call32 ⟨[], _, _, Sub.refl _, fun F' hF' => bit_ok F' y, ?_⟩
    rintro e A' ⟨rfl, rfl⟩
    conv => whnf
    rw [bit_zero]
    by_cases hk : okSlot y
    · have e1 : putN (foldS 0 (l.take i)) y = foldS 0 (l.take i) ||| bitN y := by unfold putN bitN; rw [if_pos hk, if_pos hk]
      rw [decide_eq_true hk]
      conv => whnf
      refine CallS.mk Tryd.call32 ⟨[], _, _, Sub.refl _, fun F' hF' => bit_ok F' y, ?_⟩
      rintro e A' ⟨rfl, rfl⟩
      conv => whnf
      rw [u64_or_nat _ _ hlt (bitN_lt _), ← e1, ← hsn]
      refine ArI.to64 ((i + 1 : Nat) : Int) (by omega) (by omega) ?_
      conv => whnf
      exact ⟨i + 1, _, by omega, Sub.refl _, ⟨by omega, hmore hk⟩, ⟨rfl, rfl, rfl, rfl, trivial⟩, rfl⟩
    · have e0 := hno hk
      have e1 : ofS l = 0 := by unfold ofS; rw [e0]; rfl
      have e2 : errO l = 1 := by unfold errO; rw [e0]; rfl
      rw [decide_eq_false hk, e1, e2]
      conv => whnf
      repeat (first | (refine LoadV.s rfl rfl (forceV_of ?_); conv => whnf) | (refine LoadV.s rfl rfl ?_; conv => whnf) | (refine StoreV.c rfl rfl (Nat.le_of_ble_eq_true rfl) rfl ?_; conv => whnf) | (refine LoadV.a _ rfl (Nat.le_of_ble_eq_true rfl) ?_; conv => whnf) | (refine DrawI.quiet (by kernel_rfl) (by kernel_rfl) ?_; conv => whnf) | (refine ArI.in64 (by omega) ?_; conv => whnf) | (refine ArI.inU8 (by omega) ?_; conv => whnf) | (refine ArI.inU64 (by omega) ?_; conv => whnf) | (refine ArI.inU32 (by omega) ?_; conv => whnf) | (refine RetI.one Tryd.results18 rfl ?_; conv => whnf) | (refine RetI.two Tryd.results18 rfl rfl ?_; conv => whnf) | (refine RetI.three Tryd.results18 rfl rfl rfl ?_; conv => whnf) | (refine RetI.none Tryd.results18 ?_; conv => whnf) | (refine ⟨by first | decide | omega, ?_⟩; conv => whnf))
      exact ⟨_, Sub.refl _, rfl, rfl⟩
  · obtain rfl : i = l.length := by omega
    rw [List.take_length] at ha ⊢
    have e1 : ofS l = foldS 0 l := if_pos ha
    have e2 : errO l = 0 := if_pos ha
    rw [e1, e2]
    conv => whnf
    repeat (first | (refine LoadV.s rfl rfl (forceV_of ?_); conv => whnf) | (refine LoadV.s rfl rfl ?_; conv => whnf) | (refine StoreV.c rfl rfl (Nat.le_of_ble_eq_true rfl) rfl ?_; conv => whnf) | (refine LoadV.a _ rfl (Nat.le_of_ble_eq_true rfl) ?_; conv => whnf) | (refine DrawI.quiet (by kernel_rfl) (by kernel_rfl) ?_; conv => whnf) | (refine ArI.in64 (by omega) ?_; conv => whnf) | (refine ArI.inU8 (by omega) ?_; conv => whnf) | (refine ArI.inU64 (by omega) ?_; conv => whnf) | (refine ArI.inU32 (by omega) ?_; conv => whnf) | (refine RetI.one Tryd.results18 rfl ?_; conv => whnf) | (refine RetI.two Tryd.results18 rfl rfl ?_; conv => whnf) | (refine RetI.three Tryd.results18 rfl rfl rfl ?_; conv => whnf) | (refine RetI.none Tryd.results18 ?_; conv => whnf) | (refine ⟨by first | decide | omega, ?_⟩; conv => whnf))
    exact ⟨_, Sub.refl _, rfl, rfl⟩
theorem rof_ok (F : Mem) (oa : Option Addr) (ca : Nat) (l : List Int) (hl : SlF F 1 oa l.length (intsV l)) (hn : l.length ≤ 9223372036854775807) :
    FT Tryd.prog 19 [.slice oa l.length ca].toArray F [] (Ret (.tuple #[.int .u64 (ofS l : Int), .int .i64 (errO l)])) := by
  refine FT.of_body Tryd.func19 rfl Tryd.ntmps19 (by simp) fun C hC => ?_
  subst hC
  conv => whnf
  refine LoopI.by_state (σ := Nat) (fun i => [(4, .int .u64 (foldS 0 (l.take i) : Int)), (9, .slice oa l.length ca), (10, .int .i64 (l.length : Int)), (11, .int .i64 (i : Int))]) (fun _ => []) (fun i => i ≤ l.length ∧ allOk (l.take i) = true) (fun i => l.length - i) 0 ⟨Nat.zero_le _, by simp [allOk]⟩ ⟨rfl, rfl, rfl, rfl, trivial⟩ (Sub.refl _) ?_
  rintro i f0 ⟨hi, ha⟩
  conv => whnf
  refine cond_dec (fun h => ?_) (fun h => ?_)
  · have hil : i < l.length := by omega
    obtain ⟨xa, ya, rfl, hra⟩ := hl.at hil
    have hsn := foldS_snoc 0 l i hil
    have hlt := foldS_lt (s := 0) (by decide) (l.take i)
    have hmore : okSlot l[i] → allOk (l.take (i + 1)) = true := allOk_snoc hil ha
    have hno : ¬ okSlot l[i] → allOk l = false := not_allOk hil
    have hld := hra i (.int .i64 l[i]) (by rw [List.getElem?_map, List.getElem?_eq_getElem hil]; rfl)
    generalize l[i] = y at hsn hmore hno hld
    conv => whnf
    refine ⟨by omega, ?_⟩
    conv => whnf
    rw [elemOff_nat]
    rotate_left
    · kernel_rfl
    refine LoadV.f hld rfl ?_
    conv => whnf
    refine CallS.mk Tryd.call23 ⟨[], _, _, Sub.refl _, fun F' hF' => set_ok F' _ hlt y true, ?_⟩
    rintro e A' ⟨rfl, rfl⟩
    rw [show setN (foldS 0 (l.take i)) y true = putN (foldS 0 (l.take i)) y from rfl, ← hsn]
    by_cases hk : okSlot y
    · have e1 : errS y = 0 := if_pos hk
      rw [e1]
      conv => whnf
      refine ArI.to64 ((i + 1 : Nat) : Int) (by omega) (by omega) ?_
      conv => whnf
      exact ⟨i + 1, _, by omega, Sub.refl _, ⟨by omega, hmore hk⟩, ⟨rfl, rfl, rfl, rfl, trivial⟩, rfl⟩
    · have e0 := hno hk
      have e1 : ofS l = 0 := by unfold ofS; rw [e0]; rfl
      have e2 : errO l = 1 := by unfold errO; rw [e0]; rfl
      have e3 : errS y = 1 := if_neg hk
      rw [e1, e2, e3]
      conv => whnf
      repeat (first | (refine LoadV.s rfl rfl (forceV_of ?_); conv => whnf) | (refine LoadV.s rfl rfl ?_; conv => whnf) | (refine StoreV.c rfl rfl (Nat.le_of_ble_eq_true rfl) rfl ?_; conv => whnf) | (refine LoadV.a _ rfl (Nat.le_of_ble_eq_true rfl) ?_; conv => whnf) | (refine DrawI.quiet (by kernel_rfl) (by kernel_rfl) ?_; conv => whnf) | (refine ArI.in64 (by omega) ?_; conv => whnf) | (refine ArI.inU8 (by omega) ?_; conv => whnf) | (refine ArI.inU64 (by omega) ?_; conv => whnf) | (refine ArI.inU32 (by omega) ?_; conv => whnf) | (refine RetI.one Tryd.results19 rfl ?_; conv => whnf) | (refine RetI.two Tryd.results19 rfl rfl ?_; conv => whnf) | (refine RetI.three Tryd.results19 rfl rfl rfl ?_; conv => whnf) | (refine RetI.none Tryd.results19 ?_; conv => whnf) | (refine ⟨by first | decide | omega, ?_⟩; conv => whnf))
      exact ⟨_, Sub.refl _, rfl, rfl⟩
  · obtain rfl : i = l.length := by omega
    rw [List.take_length] at ha ⊢
    have e1 : ofS l = foldS 0 l := if_pos ha
    have e2 : errO l = 0 := if_pos ha
    rw [e1, e2]
    conv => whnf
    repeat (first | (refine LoadV.s rfl rfl (forceV_of ?_); conv => whnf) | (refine LoadV.s rfl rfl ?_; conv => whnf) | (refine StoreV.c rfl rfl (Nat.le_of_ble_eq_true rfl) rfl ?_; conv => whnf) | (refine LoadV.a _ rfl (Nat.le_of_ble_eq_true rfl) ?_; conv => whnf) | (refine DrawI.quiet (by kernel_rfl) (by kernel_rfl) ?_; conv => whnf) | (refine ArI.in64 (by omega) ?_; conv => whnf) | (refine ArI.inU8 (by omega) ?_; conv => whnf) | (refine ArI.inU64 (by omega) ?_; conv => whnf) | (refine ArI.inU32 (by omega) ?_; conv => whnf) | (refine RetI.one Tryd.results19 rfl ?_; conv => whnf) | (refine RetI.two Tryd.results19 rfl rfl ?_; conv => whnf) | (refine RetI.three Tryd.results19 rfl rfl rfl ?_; conv => whnf) | (refine RetI.none Tryd.results19 ?_; conv => whnf) | (refine ⟨by first | decide | omega, ?_⟩; conv => whnf))
    exact ⟨_, Sub.refl _, rfl, rfl⟩
end Go.Proofs.YtpcefmocphbdgaaDoor
