/- The reference's scan of bits: numbers, keys, boxes, seats. -/
import Derived.Test.YtlbdnkkaacccoaaWireR3
namespace Go.Proofs.Ytlbdnkkaacccoaa
set_option linter.unusedVariables false
set_option linter.unusedSimpArgs false
set_option maxRecDepth 100000
open SL Go.RowKit Go.Maps
/-- As the scan takes a number: where the bits end, 0, and it stays. -/
def sc (T : List Bool) (W n : Nat) : Nat × Nat := match tk T W n with | some p => p | none => (0, n)
def scKey (T : List Bool) (n : Nat) : (Int × Int) × Nat := (((sc T 16 n).1, (sc T 8 (sc T 16 n).2).1), (sc T 8 (sc T 16 n).2).2)
def scBox (T : List Bool) (n : Nat) : Bx × Nat := (((scKey T n).1.1, (scKey T n).1.2, (scKey T (scKey T n).2).1.1, (scKey T (scKey T n).2).1.2), (scKey T (scKey T n).2).2)
def scSeat (T : List Bool) (n : Nat) : Seat × Nat := (((sc T 8 n).1, (sc T 6 (sc T 8 n).2).1), (sc T 6 (sc T 8 n).2).2)
def scItem (T : List Bool) (n : Nat) : Item × Nat := (((sc T 5 n).1, (sc T 7 (sc T 5 n).2).1, (scBox T (sc T 7 (sc T 5 n).2).2).1), (scBox T (sc T 7 (sc T 5 n).2).2).2)
def scList {α : Type} (f : Nat → α × Nat) : Nat → Nat → List α × Nat
  | 0, n => ([], n)
  | k + 1, n => ((scList f k n).1 ++ [(f (scList f k n).2).1], (f (scList f k n).2).2)
def scSeats (T : List Bool) (n : Nat) : List Seat × Nat := scList (scSeat T) (sc T 7 n).1 (sc T 7 n).2
theorem sc_eq {T : List Bool} {W n : Nat} {p : Nat × Nat} (h : tk T W n = some p) : sc T W n = p := by unfold sc; rw [h]
theorem scKey_eq {T : List Bool} {n : Nat} {p : (Int × Int) × Nat} (h : tkKey T n = some p) : scKey T n = p := by
  unfold tkKey at h
  obtain ⟨a, h1, h⟩ := bind_some h
  obtain ⟨b, h2, rfl⟩ := map_some h
  unfold scKey
  rw [sc_eq h1, sc_eq h2]
theorem scBox_eq {T : List Bool} {n : Nat} {p : Bx × Nat} (h : tkBox T n = some p) : scBox T n = p := by
  unfold tkBox at h
  obtain ⟨a, h1, h⟩ := bind_some h
  obtain ⟨b, h2, rfl⟩ := map_some h
  unfold scBox
  rw [scKey_eq h1, scKey_eq h2]
theorem scSeat_eq {T : List Bool} {n : Nat} {p : Seat × Nat} (h : tkSeat T n = some p) : scSeat T n = p := by
  unfold tkSeat at h
  obtain ⟨a, h1, h⟩ := bind_some h
  obtain ⟨b, h2, rfl⟩ := map_some h
  unfold scSeat
  rw [sc_eq h1, sc_eq h2]
theorem scItem_eq {T : List Bool} {n : Nat} {p : Item × Nat} (h : tkItem T n = some p) : scItem T n = p := by
  unfold tkItem at h
  obtain ⟨a, h1, h⟩ := bind_some h
  obtain ⟨b, h2, h⟩ := bind_some h
  obtain ⟨c, h3, rfl⟩ := map_some h
  unfold scItem
  rw [sc_eq h1, sc_eq h2, scBox_eq h3]
theorem scList_eq {α : Type} {f : Nat → Option (α × Nat)} {g : Nat → α × Nat} (hf : ∀ n p, f n = some p → g n = p) : ∀ (k n : Nat) (p : List α × Nat), tkList f k n = some p → scList g k n = p
  | 0, n, p, h => by cases h; rfl
  | k + 1, n, p, h => by
    replace h : (tkList f k n).bind (fun p => (f p.2).map fun q => (p.1 ++ [q.1], q.2)) = some p := h
    obtain ⟨a, h1, h⟩ := bind_some h
    obtain ⟨b, h2, rfl⟩ := map_some h
    unfold scList
    rw [scList_eq hf k n a h1, hf _ _ h2]
theorem scSeats_eq {T : List Bool} {n : Nat} {p : List Seat × Nat} (h : tkSeats T n = some p) : scSeats T n = p := by
  unfold tkSeats at h
  obtain ⟨a, h1, h⟩ := bind_some h
  unfold scSeats
  rw [sc_eq h1, scList_eq (fun n p h => scSeat_eq h) _ _ _ h]
theorem sc_le {T : List Bool} {W n : Nat} (hn : n ≤ T.length) : (sc T W n).2 ≤ T.length := by
  unfold sc
  cases h : tk T W n with
  | none => exact hn
  | some p => exact tk_le h hn
theorem sc_lt {T : List Bool} {W n : Nat} : (sc T W n).1 < 2 ^ W := by
  unfold sc
  cases h : tk T W n with
  | none => exact Nat.two_pow_pos W
  | some p => exact (tk_lt h).1
theorem scKey_le {T : List Bool} {n : Nat} (hn : n ≤ T.length) : (scKey T n).2 ≤ T.length := sc_le (sc_le hn)
theorem scBox_le {T : List Bool} {n : Nat} (hn : n ≤ T.length) : (scBox T n).2 ≤ T.length := scKey_le (scKey_le hn)
theorem scSeat_le {T : List Bool} {n : Nat} (hn : n ≤ T.length) : (scSeat T n).2 ≤ T.length := sc_le (sc_le hn)
theorem scItem_le {T : List Bool} {n : Nat} (hn : n ≤ T.length) : (scItem T n).2 ≤ T.length := by
  have h1 := sc_le (W := 5) hn
  have h2 := sc_le (W := 7) h1
  unfold scItem
  generalize (sc T 7 (sc T 5 n).2) = q at h2 ⊢
  exact scBox_le h2
theorem scList_le {α : Type} {N : Nat} {g : Nat → α × Nat} (hg : ∀ n, n ≤ N → (g n).2 ≤ N) : ∀ (k n : Nat), n ≤ N → (scList g k n).2 ≤ N ∧ (scList g k n).1.length = k
  | 0, n, hn => ⟨hn, rfl⟩
  | k + 1, n, hn => by
    obtain ⟨h1, h2⟩ := scList_le hg k n hn
    exact ⟨hg _ h1, by unfold scList; simp [h2]⟩
theorem scSeats_le {T : List Bool} {n : Nat} (hn : n ≤ T.length) : (scSeats T n).2 ≤ T.length := (scList_le (fun n h => scSeat_le h) _ _ (sc_le hn)).1
/-- A scan's memory. -/
abbrev scX (x r : Nat) (g : Option (Nat × Nat)) (T : List Bool) (n : Nat) (X : Heap) : Heap := .cells x [.pointer (some ⟨r, 0, none⟩)] 98 (0, 0) :: .cells r [svOf g T.length, .int .i64 (n : Int)] 126 (0, 0) :: bitO g T :: X
section
variable (F : Mem) (x r : Nat) (g : Option (Nat × Nat)) (T : List Bool) (hg : g = none ↔ T = []) (hT : T.length ≤ 35184372088832)
include hg hT
theorem scnum_ok (n W : Nat) (h1 : 1 ≤ W) (h2 : W ≤ 62) (hn : n ≤ T.length) :
    FT Try.prog 73 [.pointer (some ⟨x, 0, none⟩), .int .i64 (W : Int)].toArray F (scX x r g T n []) (fun e H => e = .returned (.int .i64 ((sc T W n).1 : Int)) ∧ H = scX x r g T (sc T W n).2 []) := by
  have hB : takeB T n (W : Int) = ((sc T W n).1, (if W ≤ T.length - n then 0 else 6), (sc T W n).2) := by
    unfold takeB sc tk
    by_cases h : W ≤ T.length - n
    · rw [if_pos ⟨by omega, by omega, by simpa using h⟩, if_pos h, if_pos h]; simp
    · rw [if_neg (fun hh => h (by simpa using hh.2.2)), if_neg h, if_neg h]
  have hlt : (sc T W n).1 < 4611686018427387904 := Nat.lt_of_lt_of_le sc_lt (by rw [show (4611686018427387904 : Nat) = 2 ^ 62 from rfl]; exact Nat.pow_le_pow_right (by omega) h2)
  generalize sc T W n = p at hB hlt ⊢
  obtain ⟨v, n2⟩ := p
  dsimp only at hB hlt ⊢
  refine FT.of_body Try.func73 rfl Try.ntmps73 (by simp) fun C hC => ?_
  subst hC
  conv => whnf
  refine LoadV.s rfl rfl ?_
  conv => whnf
  refine CallS.mk Try.call89 ⟨[_, _], [_], _, Sub.sel [1, 2, 0] rfl, fun F' hF' => rTake_ok F' r n g T (W : Int) hg hT hn, ?_⟩
  rw [hB]
  generalize (if W ≤ T.length - n then (0 : Int) else 6) = er
  rintro e A' ⟨rfl, rfl⟩
  conv => whnf
  refine ArI.in64 (by omega) ?_
  conv => whnf
  repeat (first | (refine LoadV.s rfl rfl (forceV_of ?_); conv => whnf) | (refine LoadV.s rfl rfl ?_; conv => whnf) | (refine StoreV.c rfl rfl (Nat.le_of_ble_eq_true rfl) rfl ?_; conv => whnf) | (refine LoadV.a _ rfl (Nat.le_of_ble_eq_true rfl) ?_; conv => whnf) | (refine DrawI.quiet (by kernel_rfl) (by kernel_rfl) ?_; conv => whnf) | (refine ArI.in64 (by omega) ?_; conv => whnf) | (refine ArI.inU8 (by omega) ?_; conv => whnf) | (refine ArI.inU64 (by omega) ?_; conv => whnf) | (refine ArI.inU32 (by omega) ?_; conv => whnf) | (refine RetI.one Try.results73 rfl ?_; conv => whnf) | (refine RetI.two Try.results73 rfl rfl ?_; conv => whnf) | (refine RetI.three Try.results73 rfl rfl rfl ?_; conv => whnf) | (refine RetI.none Try.results73 ?_; conv => whnf) | (refine ⟨by first | decide | omega, ?_⟩; conv => whnf))
  exact ⟨_, Sub.sel [2, 0, 1] rfl, rfl, rfl⟩
theorem sckey_ok (n : Nat) (hn : n ≤ T.length) :
    FT Try.prog 76 [.pointer (some ⟨x, 0, none⟩)].toArray F (scX x r g T n []) (fun e H => e = .returned (.agg #[.int .i64 (scKey T n).1.1, .int .i64 (scKey T n).1.2]) ∧ H = scX x r g T (scKey T n).2 []) := by
  refine FT.of_body Try.func76 rfl Try.ntmps76 (by simp) fun C hC => ?_
  subst hC
  conv => whnf
  intro c
  conv => whnf
  refine CallS.mk Try.call73 ⟨[_, _, _], [_], _, Sub.sel [1, 2, 3, 0] rfl, fun F' hF' => scnum_ok F' x r g T hg hT n 16 (by omega) (by omega) hn, ?_⟩
  have hn1 := sc_le (W := 16) hn
  unfold scKey
  generalize sc T 16 n = p at hn1 ⊢
  rintro e A' ⟨rfl, rfl⟩
  conv => whnf
  refine CallS.mk Try.call73 ⟨[_, _, _], [_], _, Sub.sel [0, 1, 2, 3] rfl, fun F' hF' => scnum_ok F' x r g T hg hT p.2 8 (by omega) (by omega) hn1, ?_⟩
  generalize sc T 8 p.2 = q
  rintro e A' ⟨rfl, rfl⟩
  conv => whnf
  refine StoreV.c rfl rfl (Nat.le_of_ble_eq_true rfl) rfl ?_
  conv => whnf
  refine RetI.cell Try.results76 rfl ?_
  refine LoadV.a 2 rfl (Nat.le_of_ble_eq_true rfl) ?_
  conv => whnf
  exact ⟨_, Sub.sel [0, 1, 2] rfl, rfl, rfl⟩
theorem scbox_ok (n : Nat) (hn : n ≤ T.length) :
    FT Try.prog 75 [.pointer (some ⟨x, 0, none⟩)].toArray F (scX x r g T n []) (fun e H => e = .returned (.agg (bxF (scBox T n).1).toArray) ∧ H = scX x r g T (scBox T n).2 []) := by
  refine FT.of_body Try.func75 rfl Try.ntmps75 (by simp) fun C hC => ?_
  subst hC
  conv => whnf
  intro c
  conv => whnf
  refine CallS.mk Try.call76 ⟨[_, _, _], [_], _, Sub.sel [1, 2, 3, 0] rfl, fun F' hF' => sckey_ok F' x r g T hg hT n hn, ?_⟩
  have hn1 := scKey_le hn
  unfold scBox
  generalize scKey T n = p at hn1 ⊢
  rintro e A' ⟨rfl, rfl⟩
  conv => whnf
  intro d
  conv => whnf
  refine StoreV.c rfl rfl (Nat.le_of_ble_eq_true rfl) rfl ?_
  conv => whnf
  refine DrawI.mixed [2, 4] [_] (by kernel_rfl) (by kernel_rfl) (by kernel_rfl) (by kernel_rfl) (by kernel_rfl) (Sub.sel [0] rfl) ?_
  conv => whnf
  refine LoadV.a 2 rfl (Nat.le_of_ble_eq_true rfl) ?_
  conv => whnf
  refine CallS.mk Try.call76 ⟨[_, _, _], [_, _], _, Sub.sel [1, 2, 3, 0, 4] rfl, fun F' hF' => sckey_ok F' x r g T hg hT p.2 hn1, ?_⟩
  generalize scKey T p.2 = q
  rintro e A' ⟨rfl, rfl⟩
  conv => whnf
  refine ⟨Sub.sel [3] rfl, ?_⟩
  conv => whnf
  refine StoreV.c rfl rfl (Nat.le_of_ble_eq_true rfl) rfl ?_
  conv => whnf
  refine ⟨Sub.sel [3] rfl, ?_⟩
  conv => whnf
  refine RetI.cell Try.results75 rfl ?_
  refine LoadV.a 4 rfl (Nat.le_of_ble_eq_true rfl) ?_
  conv => whnf
  exact ⟨_, Sub.sel [0, 1, 2] rfl, rfl, rfl⟩
theorem scseats_ok (n : Nat) (hn : n ≤ T.length) :
    FT Try.prog 74 [.pointer (some ⟨x, 0, none⟩)].toArray F (scX x r g T n []) (fun e H => ∃ gs, (gs = none ↔ (scSeats T n).1 = []) ∧ e = .returned (svOf gs (scSeats T n).1.length) ∧ H = scX x r g T (scSeats T n).2 [ownS gs (scSeats T n).1]) := by
  refine FT.of_body Try.func74 rfl Try.ntmps74 (by simp) fun C hC => ?_
  subst hC
  conv => whnf
  refine CallS.mk Try.call73 ⟨[_, _, _], [], _, Sub.sel [0, 1, 2] rfl, fun F' hF' => scnum_ok F' x r g T hg hT n 7 (by omega) (by omega) hn, ?_⟩
  have hn1 := sc_le (W := 7) hn
  have hc7 := sc_lt (T := T) (W := 7) (n := n)
  unfold scSeats
  generalize sc T 7 n = c at hn1 hc7 ⊢
  rintro e A' ⟨rfl, rfl⟩
  conv => whnf
  refine LoopI.by_state (σ := Nat × (List Seat × Nat) × Option (Nat × Nat)) (fun y => [(0, .pointer (some ⟨x, 0, none⟩)), (3, svOf y.2.2 y.2.1.1.length), (4, .int .i64 (c.1 : Int)), (5, .int .i64 (y.1 : Int))])
    (fun y => scX x r g T y.2.1.2 [ownS y.2.2 y.2.1.1])
    (fun y => y.1 ≤ c.1 ∧ scList (scSeat T) y.1 c.2 = y.2.1 ∧ (y.2.2 = none ↔ y.2.1.1 = [])) (fun y => c.1 - y.1) (0, ([], c.2), none) ⟨Nat.zero_le _, rfl, by simp⟩ ⟨rfl, rfl, rfl, rfl, trivial⟩ (Sub.trans (Sub.nil 57 2) (Sub.sel [1, 2, 3, 0] rfl)) ?_
  rintro ⟨i, ⟨xs, n2⟩, gs⟩ f0 ⟨hi, hx, hgs⟩
  dsimp only at hi hx hgs ⊢
  have hle := scList_le (fun n h => scSeat_le (T := T) h) i c.2 hn1
  have hstep : scList (scSeat T) (i + 1) c.2 = (xs ++ [(scSeat T n2).1], (scSeat T n2).2) := by
    show ((scList (scSeat T) i c.2).1 ++ [(scSeat T (scList (scSeat T) i c.2).2).1], (scSeat T (scList (scSeat T) i c.2).2).2) = _
    rw [hx]
  rw [hx] at hle
  dsimp only at hle
  obtain ⟨hn2, hxl⟩ := hle
  conv => whnf
  refine cond_dec (fun h => ?_) (fun h => ?_)
  · conv => whnf
    refine CallS.mk Try.call73 ⟨[_, _, _], [_], _, Sub.sel [0, 1, 2, 3] rfl, fun F' hF' => scnum_ok F' x r g T hg hT n2 8 (by omega) (by omega) hn2, ?_⟩
    have hn3 := sc_le (W := 8) hn2
    unfold scSeat at hstep
    generalize sc T 8 n2 = p at hn3 hstep ⊢
    rintro e A' ⟨rfl, rfl⟩
    conv => whnf
    refine CallS.mk Try.call73 ⟨[_, _, _], [_], _, Sub.sel [0, 1, 2, 3] rfl, fun F' hF' => scnum_ok F' x r g T hg hT p.2 6 (by omega) (by omega) hn3, ?_⟩
    generalize sc T 6 p.2 = q at hstep ⊢
    rintro e A' ⟨rfl, rfl⟩
    conv => whnf
    intro bl
    conv => whnf
    refine BuiltV.append (sv := svOf gs xs.length) (m := 1) Try.underlying22 rfl rfl rfl rfl (by decide) (Row.cells 2) rfl (by decide) rfl (by show (xs.length + 1) * 16 ≤ _; omega) (by omega) fun gb gc => ?_
    conv => whnf
    refine ArI.to64 ((i + 1 : Nat) : Int) (by omega) (by omega) ?_
    conv => whnf
    refine ⟨(i + 1, (xs ++ [((p.1 : Int), (q.1 : Int))], q.2), some (gb, gc)), _, by dsimp only; omega, Sub.sel [1, 2, 3, 4] rfl, ⟨by dsimp only; omega, hstep, by simp⟩, ⟨rfl, ?_, rfl, rfl, trivial⟩, ?_⟩
    · dsimp only; rw [List.length_append]; rfl
    · dsimp only [ownS]; rw [own_snocF seatF]; rfl
  · have hie : i = c.1 := by omega
    rw [← hie, hx]
    conv => whnf
    repeat (first | (refine LoadV.s rfl rfl (forceV_of ?_); conv => whnf) | (refine LoadV.s rfl rfl ?_; conv => whnf) | (refine StoreV.c rfl rfl (Nat.le_of_ble_eq_true rfl) rfl ?_; conv => whnf) | (refine LoadV.a _ rfl (Nat.le_of_ble_eq_true rfl) ?_; conv => whnf) | (refine DrawI.quiet (by kernel_rfl) (by kernel_rfl) ?_; conv => whnf) | (refine ArI.in64 (by omega) ?_; conv => whnf) | (refine ArI.inU8 (by omega) ?_; conv => whnf) | (refine ArI.inU64 (by omega) ?_; conv => whnf) | (refine ArI.inU32 (by omega) ?_; conv => whnf) | (refine RetI.one Try.results74 rfl ?_; conv => whnf) | (refine RetI.two Try.results74 rfl rfl ?_; conv => whnf) | (refine RetI.three Try.results74 rfl rfl rfl ?_; conv => whnf) | (refine RetI.none Try.results74 ?_; conv => whnf) | (refine ⟨by first | decide | omega, ?_⟩; conv => whnf))
    exact ⟨_, Sub.refl _, gs, hgs, rfl, rfl⟩
end
end Go.Proofs.Ytlbdnkkaacccoaa
