/- The reference's Encode. -/
import Derived.Test.YtlbdnkkaacccoaaWire11
import Derived.Test.YtlbdnkkaacccoaaWireLaw2
import Derived.Test.YtlbdnkkaacccoaaBits6
namespace Go.Proofs.Ytlbdnkkaacccoaa
set_option linter.unusedVariables false
set_option linter.unusedSimpArgs false
set_option maxRecDepth 100000
open SL Go.RowKit Go.Maps
abbrev FL := List (Nat × Int)
abbrev ownF (g : Option (Nat × Nat)) (fs : FL) : HObj := .own (svOf g fs.length) fs.length 114 2 (fs.flatMap fldF)
/-- A list of fields is handed back. -/
def PutP (fs : FL) : Ending → Heap → Prop := fun e H => ∃ g, (g = none ↔ fs = []) ∧ e = .returned (svOf g fs.length) ∧ H = [ownF g fs]
theorem put_ok (F : Mem) (g : Option (Nat × Nat)) (fs : FL) (hg : g = none ↔ fs = []) (n W : Int) (h0 : 0 ≤ n) (h1 : n ≤ 9223372036854775807) (hl : fs.length ≤ 1000000) :
    FT Try.prog 42 [svOf g fs.length, .int .i64 n, .int .i64 W].toArray F [ownF g fs] (PutP (fs ++ [(n.toNat, W)])) := by
  obtain ⟨n, rfl⟩ := Int.eq_ofNat_of_zero_le h0
  rw [Int.toNat_natCast]
  refine FT.of_body Try.func42 rfl Try.ntmps42 (by simp) fun C hC => ?_
  subst hC
  conv => whnf
  refine ArI.toU64 (n : Int) rfl (by omega) ?_
  conv => whnf
  intro b
  conv => whnf
  refine BuiltV.append (sv := svOf g fs.length) (m := 1) Try.underlying82 rfl rfl rfl rfl (by decide) (Row.cells 2) rfl (by decide) rfl (by show (fs.length + 1) * 16 ≤ _; omega) (by omega) fun gb gc => ?_
  conv => whnf
  repeat (first | (refine LoadV.s rfl rfl (forceV_of ?_); conv => whnf) | (refine LoadV.s rfl rfl ?_; conv => whnf) | (refine StoreV.c rfl rfl (Nat.le_of_ble_eq_true rfl) rfl ?_; conv => whnf) | (refine LoadV.a _ rfl (Nat.le_of_ble_eq_true rfl) ?_; conv => whnf) | (refine DrawI.quiet (by kernel_rfl) (by kernel_rfl) ?_; conv => whnf) | (refine ArI.in64 (by omega) ?_; conv => whnf) | (refine ArI.inU8 (by omega) ?_; conv => whnf) | (refine ArI.inU64 (by omega) ?_; conv => whnf) | (refine ArI.inU32 (by omega) ?_; conv => whnf) | (refine RetI.one Try.results42 rfl ?_; conv => whnf) | (refine RetI.two Try.results42 rfl rfl ?_; conv => whnf) | (refine RetI.three Try.results42 rfl rfl rfl ?_; conv => whnf) | (refine RetI.none Try.results42 ?_; conv => whnf) | (refine ⟨by first | decide | omega, ?_⟩; conv => whnf))
  refine ⟨_, Sub.sel [1] rfl, some (gb, gc), by simp, ?_, ?_⟩
  · rw [List.length_append]; rfl
  · dsimp only [ownF]; rw [own_snocF fldF]; rfl
def fKey (b s : Int) : FL := [(b.toNat, 16), (s.toNat, 8)]
def fBox (b : Bx) : FL := fKey b.1 b.2.1 ++ fKey b.2.2.1 b.2.2.2
def fSeat (s : Seat) : FL := [(s.1.toNat, 8), (s.2.toNat, 6)]
def fItem (i : Item) : FL := [(i.1.toNat, 5), (i.2.1.toNat, 7)] ++ fBox i.2.2
def fSeats (l : List Seat) : FL := ((l.length : Int).toNat, 7) :: l.flatMap fSeat
theorem putKey_ok (F : Mem) (g : Option (Nat × Nat)) (fs : FL) (hg : g = none ↔ fs = []) (b s : Int) (hk : keyB b s = true) (hl : fs.length ≤ 900000) :
    FT Try.prog 45 [svOf g fs.length, .agg #[.int .i64 b, .int .i64 s]].toArray F [ownF g fs] (PutP (fs ++ fKey b s)) := by
  obtain ⟨h1, h2, h3, h4⟩ := keyB_spec hk
  refine FT.of_body Try.func45 rfl Try.ntmps45 (by simp) fun C hC => ?_
  subst hC
  conv => whnf
  intro c
  conv => whnf
  refine DrawI.mixed [3, 6] [_] (by kernel_rfl) (by kernel_rfl) (by kernel_rfl) (by kernel_rfl) (by kernel_rfl) (Sub.sel [0] rfl) ?_
  conv => whnf
  refine LoadV.s rfl rfl ?_
  conv => whnf
  refine CallS.mk Try.call42 ⟨[_], [_], _, Sub.sel [1, 0] rfl, fun F' hF' => put_ok F' g fs hg b 16 (by omega) (by omega) (by omega), ?_⟩
  rintro e A' ⟨g1, hg1, rfl, rfl⟩
  conv => whnf
  refine ⟨Sub.sel [1] rfl, ?_⟩
  conv => whnf
  refine LoadV.s rfl rfl ?_
  conv => whnf
  refine CallS.mk Try.call42 ⟨[_], [_], _, Sub.sel [0, 1] rfl, fun F' hF' => put_ok F' g1 _ hg1 s 8 (by omega) (by omega) (by rw [List.length_append]; simp only [List.length_cons, List.length_nil]; omega), ?_⟩
  rintro e A' ⟨g2, hg2, rfl, rfl⟩
  conv => whnf
  refine ⟨Sub.sel [1] rfl, ?_⟩
  conv => whnf
  repeat (first | (refine LoadV.s rfl rfl (forceV_of ?_); conv => whnf) | (refine LoadV.s rfl rfl ?_; conv => whnf) | (refine StoreV.c rfl rfl (Nat.le_of_ble_eq_true rfl) rfl ?_; conv => whnf) | (refine LoadV.a _ rfl (Nat.le_of_ble_eq_true rfl) ?_; conv => whnf) | (refine DrawI.quiet (by kernel_rfl) (by kernel_rfl) ?_; conv => whnf) | (refine ArI.in64 (by omega) ?_; conv => whnf) | (refine ArI.inU8 (by omega) ?_; conv => whnf) | (refine ArI.inU64 (by omega) ?_; conv => whnf) | (refine ArI.inU32 (by omega) ?_; conv => whnf) | (refine RetI.one Try.results45 rfl ?_; conv => whnf) | (refine RetI.two Try.results45 rfl rfl ?_; conv => whnf) | (refine RetI.three Try.results45 rfl rfl rfl ?_; conv => whnf) | (refine RetI.none Try.results45 ?_; conv => whnf) | (refine ⟨by first | decide | omega, ?_⟩; conv => whnf))
  rw [List.append_assoc] at hg2
  refine ⟨_, Sub.sel [0] rfl, g2, hg2, ?_, ?_⟩
  · rw [List.append_assoc]; rfl
  · rw [List.append_assoc]; rfl
theorem fKey_length (b s : Int) : (fKey b s).length = 2 := rfl
theorem fBox_length (b : Bx) : (fBox b).length = 4 := rfl
theorem fSeat_length (b : Seat) : (fSeat b).length = 2 := rfl
theorem fItem_length (b : Item) : (fItem b).length = 6 := rfl
theorem flatF_length {α : Type} {f : α → FL} {n : Nat} (hf : ∀ x, (f x).length = n) (l : List α) : (l.flatMap f).length = n * l.length := by
  induction l with
  | nil => rfl
  | cons x l ih => rw [List.flatMap_cons, List.length_append, hf, ih, List.length_cons, Nat.mul_succ]; omega
theorem flatF_take {α : Type} (f : α → FL) {l : List α} {i : Nat} (hi : i < l.length) : (l.take (i + 1)).flatMap f = (l.take i).flatMap f ++ f l[i] := by
  rw [← List.take_append_getElem hi, List.flatMap_append]; simp
theorem putBox_ok (F : Mem) (g : Option (Nat × Nat)) (fs : FL) (hg : g = none ↔ fs = []) (x : Bx) (hk : bxB x = true) (hl : fs.length ≤ 800000) :
    FT Try.prog 44 [svOf g fs.length, .agg (bxF x).toArray].toArray F [ownF g fs] (PutP (fs ++ fBox x)) := by
  have hk' : keyB x.1 x.2.1 = true ∧ keyB x.2.2.1 x.2.2.2 = true := by simpa [bxB] using hk
  refine FT.of_body Try.func44 rfl Try.ntmps44 (by simp) fun C hC => ?_
  subst hC
  conv => whnf
  intro c
  conv => whnf
  refine DrawI.mixed [3, 6] [_] (by kernel_rfl) (by kernel_rfl) (by kernel_rfl) (by kernel_rfl) (by kernel_rfl) (Sub.sel [0] rfl) ?_
  conv => whnf
  refine LoadV.a 2 rfl (Nat.le_of_ble_eq_true rfl) ?_
  conv => whnf
  refine CallS.mk Try.call45 ⟨[_], [_], _, Sub.sel [1, 0] rfl, fun F' hF' => putKey_ok F' g fs hg x.1 x.2.1 hk'.1 (by omega), ?_⟩
  rintro e A' ⟨g1, hg1, rfl, rfl⟩
  conv => whnf
  refine ⟨Sub.sel [1] rfl, ?_⟩
  conv => whnf
  refine LoadV.a 2 rfl (Nat.le_of_ble_eq_true rfl) ?_
  conv => whnf
  refine CallS.mk Try.call45 ⟨[_], [_], _, Sub.sel [0, 1] rfl, fun F' hF' => putKey_ok F' g1 _ hg1 x.2.2.1 x.2.2.2 hk'.2 (by rw [List.length_append, fKey_length]; omega), ?_⟩
  rintro e A' ⟨g2, hg2, rfl, rfl⟩
  conv => whnf
  refine ⟨Sub.sel [1] rfl, ?_⟩
  conv => whnf
  repeat (first | (refine LoadV.s rfl rfl (forceV_of ?_); conv => whnf) | (refine LoadV.s rfl rfl ?_; conv => whnf) | (refine StoreV.c rfl rfl (Nat.le_of_ble_eq_true rfl) rfl ?_; conv => whnf) | (refine LoadV.a _ rfl (Nat.le_of_ble_eq_true rfl) ?_; conv => whnf) | (refine DrawI.quiet (by kernel_rfl) (by kernel_rfl) ?_; conv => whnf) | (refine ArI.in64 (by omega) ?_; conv => whnf) | (refine ArI.inU8 (by omega) ?_; conv => whnf) | (refine ArI.inU64 (by omega) ?_; conv => whnf) | (refine ArI.inU32 (by omega) ?_; conv => whnf) | (refine RetI.one Try.results44 rfl ?_; conv => whnf) | (refine RetI.two Try.results44 rfl rfl ?_; conv => whnf) | (refine RetI.three Try.results44 rfl rfl rfl ?_; conv => whnf) | (refine RetI.none Try.results44 ?_; conv => whnf) | (refine ⟨by first | decide | omega, ?_⟩; conv => whnf))
  rw [List.append_assoc] at hg2
  refine ⟨_, Sub.sel [0] rfl, g2, hg2, ?_, ?_⟩
  · rw [List.append_assoc]; rfl
  · rw [List.append_assoc]; rfl
theorem putSeats_ok (F : Mem) (g : Option (Nat × Nat)) (fs : FL) (hg : g = none ↔ fs = []) (oa : Option Addr) (ca : Nat) (xs : List Seat) (ha : SlF F 2 oa xs.length (xs.flatMap seatF)) (hk : xs.all seatB = true) (hn : xs.length ≤ 64) (hl : fs.length ≤ 700000) :
    FT Try.prog 43 [svOf g fs.length, .slice oa xs.length ca].toArray F [ownF g fs] (PutP (fs ++ fSeats xs)) := by
  refine FT.of_body Try.func43 rfl Try.ntmps43 (by simp) fun C hC => ?_
  subst hC
  conv => whnf
  refine CallS.mk Try.call42 ⟨[_], [], _, Sub.sel [0] rfl, fun F' hF' => put_ok F' g fs hg (xs.length : Int) 7 (by omega) (by omega) (by omega), ?_⟩
  rintro e A' ⟨g1, hg1, rfl, rfl⟩
  conv => whnf
  refine LoopI.by_state (σ := Nat × Option (Nat × Nat)) (fun x => [(0, svOf x.2 (fs ++ (((xs.length : Int).toNat, (7 : Int)) :: (xs.take x.1).flatMap fSeat)).length), (11, .slice oa xs.length ca), (12, .int .i64 (xs.length : Int)), (13, .int .i64 (x.1 : Int))])
    (fun x => [ownF x.2 (fs ++ (((xs.length : Int).toNat, (7 : Int)) :: (xs.take x.1).flatMap fSeat))])
    (fun x => x.1 ≤ xs.length ∧ (x.2 = none ↔ fs ++ (((xs.length : Int).toNat, (7 : Int)) :: (xs.take x.1).flatMap fSeat) = [])) (fun x => xs.length - x.1) (0, g1) ⟨Nat.zero_le _, by simpa using hg1⟩ ⟨rfl, rfl, rfl, rfl, trivial⟩ (Sub.refl _) ?_
  rintro ⟨i, g2⟩ f0 ⟨hi, hg2⟩
  dsimp only at hi hg2 ⊢
  have hlen : (fs ++ (((xs.length : Int).toNat, (7 : Int)) :: (xs.take i).flatMap fSeat)).length ≤ 800000 := by
    rw [List.length_append, List.length_cons, flatF_length fSeat_length, List.length_take]; omega
  conv => whnf
  refine cond_dec (fun h => ?_) (fun h => ?_)
  · have hil : i < xs.length := by omega
    have hft := flatF_take fSeat hil
    obtain ⟨xb, yb, rfl, hrb⟩ := ha.at (i := i) hil
    have hsx : seatB xs[i] = true := List.all_eq_true.1 hk _ (List.getElem_mem hil)
    conv => whnf
    refine ⟨by omega, ?_⟩
    conv => whnf
    refine LoadV.fa (cs := seatF (xs[i])) (flat_row seatF_length hrb hil rfl) rfl ?_
    obtain ⟨x, hx⟩ : ∃ x, x = xs[i] := ⟨_, rfl⟩
    rw [← hx] at hsx hft ⊢
    have hp : btw x.1 0 255 = true ∧ btw x.2 0 63 = true := by simpa [seatB] using hsx
    obtain ⟨p0, p1⟩ := btw_spec hp.1
    obtain ⟨q0, q1⟩ := btw_spec hp.2
    conv => whnf
    intro c
    conv => whnf
    refine StoreV.c rfl rfl (Nat.le_of_ble_eq_true rfl) rfl ?_
    conv => whnf
    refine DrawI.mixed [3, 6] [_] (by kernel_rfl) (by kernel_rfl) (by kernel_rfl) (by kernel_rfl) (by kernel_rfl) (Sub.sel [0] rfl) ?_
    conv => whnf
    refine LoadV.s rfl rfl ?_
    conv => whnf
    refine CallS.mk Try.call42 ⟨[_], [_], _, Sub.sel [1, 0] rfl, fun F' hF' => put_ok F' g2 _ hg2 x.1 8 (by omega) (by omega) (by omega), ?_⟩
    rintro e A' ⟨g3, hg3, rfl, rfl⟩
    conv => whnf
    refine ⟨Sub.sel [1] rfl, ?_⟩
    conv => whnf
    refine LoadV.s rfl rfl ?_
    conv => whnf
    refine CallS.mk Try.call42 ⟨[_], [_], _, Sub.sel [0, 1] rfl, fun F' hF' => put_ok F' g3 _ hg3 x.2 6 (by omega) (by omega) (by rw [List.length_append]; simp only [List.length_cons, List.length_nil]; omega), ?_⟩
    rintro e A' ⟨g4, hg4, rfl, rfl⟩
    conv => whnf
    refine ⟨Sub.sel [1] rfl, ?_⟩
    conv => whnf
    refine ArI.to64 ((i + 1 : Nat) : Int) (by omega) (by omega) ?_
    conv => whnf
    have hcat : fs ++ (((xs.length : Int).toNat, (7 : Int)) :: (xs.take i).flatMap fSeat) ++ [(x.1.toNat, 8)] ++ [(x.2.toNat, 6)] = fs ++ (((xs.length : Int).toNat, (7 : Int)) :: (xs.take (i + 1)).flatMap fSeat) := by rw [hft]; simp [fSeat]
    rw [hcat] at hg4
    refine ⟨(i + 1, g4), _, by dsimp only; omega, Sub.sel [0] rfl, ⟨by dsimp only; omega, hg4⟩, ⟨?_, rfl, rfl, rfl, trivial⟩, ?_⟩
    · dsimp only; rw [← hcat]; rfl
    · dsimp only; rw [← hcat]
  · have hie : i = xs.length := by omega
    subst hie
    rw [List.take_length] at hg2 ⊢
    conv => whnf
    repeat (first | (refine LoadV.s rfl rfl (forceV_of ?_); conv => whnf) | (refine LoadV.s rfl rfl ?_; conv => whnf) | (refine StoreV.c rfl rfl (Nat.le_of_ble_eq_true rfl) rfl ?_; conv => whnf) | (refine LoadV.a _ rfl (Nat.le_of_ble_eq_true rfl) ?_; conv => whnf) | (refine DrawI.quiet (by kernel_rfl) (by kernel_rfl) ?_; conv => whnf) | (refine ArI.in64 (by omega) ?_; conv => whnf) | (refine ArI.inU8 (by omega) ?_; conv => whnf) | (refine ArI.inU64 (by omega) ?_; conv => whnf) | (refine ArI.inU32 (by omega) ?_; conv => whnf) | (refine RetI.one Try.results43 rfl ?_; conv => whnf) | (refine RetI.two Try.results43 rfl rfl ?_; conv => whnf) | (refine RetI.three Try.results43 rfl rfl rfl ?_; conv => whnf) | (refine RetI.none Try.results43 ?_; conv => whnf) | (refine ⟨by first | decide | omega, ?_⟩; conv => whnf))
    exact ⟨_, Sub.refl _, g2, hg2, rfl, rfl⟩
end Go.Proofs.Ytlbdnkkaacccoaa
