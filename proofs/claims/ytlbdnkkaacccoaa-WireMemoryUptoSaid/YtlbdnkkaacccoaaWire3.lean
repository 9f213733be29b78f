/- The program's writer of messages. -/
import Derived.Test.YtlbdnkkaacccoaaWire2
import Derived.Test.YtlbdnkkaacccoaaBits2
namespace Go.Proofs.Ytlbdnkkaacccoaa
set_option linter.unusedVariables false
set_option linter.unusedSimpArgs false
set_option maxRecDepth 100000
open SL Go.RowKit Go.Maps
/-- A call of the writer returns; the bits that are written behind it. -/
def WrP (w : Nat) (B : List Bool) : Ending → Heap → Prop := fun e H => e = .returned (.tuple #[]) ∧ ∃ g, (g = none ↔ B = []) ∧ H = wrH w (B.length : Nat) g (packB B)
abbrev wrX (w : Nat) (n : Int) (g : Option (Nat × Nat)) (o : List Nat) (X : Heap) : Heap := .cells w [.int .i64 n, svOf g o.length] 107 (0, 0) :: .own (svOf g o.length) o.length 5 1 (bytesV o) :: X
theorem fits_nat {n W : Nat} (h1 : 1 ≤ W) (h2 : W ≤ 64) (h3 : n < 2 ^ W) : fitsB n (W : Int) = true := by unfold fitsB; exact decide_eq_true ⟨by omega, by omega, by simpa using h3⟩
theorem u64_nat {n W : Nat} (h2 : W ≤ 64) (h3 : n < 2 ^ W) : n < 18446744073709551616 := Nat.lt_of_lt_of_le h3 (by rw [show (18446744073709551616 : Nat) = 2 ^ 64 from rfl]; exact Nat.pow_le_pow_right (by omega) h2)
theorem wnum_ok (F : Mem) (w : Nat) (B : List Bool) (g : Option (Nat × Nat)) (hg : g = none ↔ B = []) (n W : Nat) (h1 : 1 ≤ W) (h2 : W ≤ 64) (h3 : n < 2 ^ W) (hB : B.length ≤ 1000000) :
    FT Try.prog 37 [.agg #[.pointer (some ⟨w, 0, none⟩)], .int .i64 (n : Int), .int .i64 (W : Int)].toArray F (wrH w B.length g (packB B)) (WrP w (B ++ bitsOf W n)) := by
  have hu := u64_nat h2 h3
  refine FT.of_body Try.func37 rfl Try.ntmps37 (by simp) fun C hC => ?_
  subst hC
  conv => whnf
  intro b
  conv => whnf
  refine LoadV.s rfl rfl ?_
  conv => whnf
  refine ArI.toU64 (n : Int) rfl (by omega) ?_
  conv => whnf
  refine CallS.mk Try.call61 ⟨[_, _], [], _, Sub.sel [1, 2] rfl, fun F' hF' => bPut_ok F' w B g hg n (W : Int) hu (by omega), ?_⟩
  rintro e A' (⟨hf, _⟩ | ⟨_, rfl, g', hg', rfl⟩)
  · rw [fits_nat h1 h2 h3] at hf; cases hf
  conv => whnf
  repeat (first | (refine LoadV.s rfl rfl (forceV_of ?_); conv => whnf) | (refine LoadV.s rfl rfl ?_; conv => whnf) | (refine StoreV.c rfl rfl (Nat.le_of_ble_eq_true rfl) rfl ?_; conv => whnf) | (refine LoadV.a _ rfl (Nat.le_of_ble_eq_true rfl) ?_; conv => whnf) | (refine DrawI.quiet (by kernel_rfl) (by kernel_rfl) ?_; conv => whnf) | (refine ArI.in64 (by omega) ?_; conv => whnf) | (refine ArI.inU8 (by omega) ?_; conv => whnf) | (refine ArI.inU64 (by omega) ?_; conv => whnf) | (refine ArI.inU32 (by omega) ?_; conv => whnf) | (refine RetI.one Try.results37 rfl ?_; conv => whnf) | (refine RetI.two Try.results37 rfl rfl ?_; conv => whnf) | (refine RetI.three Try.results37 rfl rfl rfl ?_; conv => whnf) | (refine RetI.none Try.results37 ?_; conv => whnf) | (refine ⟨by first | decide | omega, ?_⟩; conv => whnf))
  exact ⟨_, Sub.refl _, rfl, g', hg', rfl⟩
def kBits (b s : Int) : List Bool := bitsOf 16 b.toNat ++ bitsOf 8 s.toNat
def bBits (b : Bx) : List Bool := kBits b.1 b.2.1 ++ kBits b.2.2.1 b.2.2.2
def sBits (s : Seat) : List Bool := bitsOf 8 s.1.toNat ++ bitsOf 6 s.2.toNat
def iBits (i : Item) : List Bool := bitsOf 5 i.1.toNat ++ (bitsOf 7 i.2.1.toNat ++ bBits i.2.2)
def ssBits (l : List Seat) : List Bool := bitsOf 7 l.length ++ l.flatMap sBits
def isBits (l : List Item) : List Bool := bitsOf 11 l.length ++ l.flatMap iBits
theorem kBits_length (b s : Int) : (kBits b s).length = 24 := by simp [kBits, bitsOf_length]
theorem bBits_length (b : Bx) : (bBits b).length = 48 := by simp [bBits, kBits_length]
theorem sBits_length (b : Seat) : (sBits b).length = 14 := by simp [sBits, bitsOf_length]
theorem iBits_length (b : Item) : (iBits b).length = 60 := by simp [iBits, bitsOf_length, bBits_length]
theorem flat_length {α : Type} {f : α → List Bool} {n : Nat} (hf : ∀ x, (f x).length = n) (l : List α) : (l.flatMap f).length = n * l.length := by
  induction l with
  | nil => rfl
  | cons x l ih => rw [List.flatMap_cons, List.length_append, hf, ih, List.length_cons, Nat.mul_succ]; omega
theorem flat_take {α : Type} (f : α → List Bool) {l : List α} {i : Nat} (hi : i < l.length) : (l.take (i + 1)).flatMap f = (l.take i).flatMap f ++ f l[i] := by
  rw [← List.take_append_getElem hi, List.flatMap_append]; simp
theorem keyB_spec {b s : Int} (h : keyB b s = true) : 0 < b ∧ b ≤ 65535 ∧ 0 ≤ s ∧ s ≤ 255 := by simp [keyB] at h; omega
theorem btw_spec {n lo hi : Int} (h : btw n lo hi = true) : lo ≤ n ∧ n ≤ hi := by simpa [btw] using h
theorem pack24 {b s : Nat} (hb : b < 65536) (hs : s < 256) : bits .or .u32 (IntKind.u32.wrap ((b : Int) * 2 ^ min (8 : Int).toNat 32)) (s : Int) = ((b * 256 + s : Nat) : Int) := by
  have h1 : IntKind.u32.wrap ((b : Int) * 2 ^ min (8 : Int).toNat 32) = ((b * 256 : Nat) : Int) := by
    rw [show (2 : Int) ^ min (8 : Int).toNat 32 = 256 from rfl, IntWalk.u32_in _ (by omega)]; omega
  rw [h1, u32_or_nat _ _ (by omega) (by omega)]
  have := Nat.two_pow_add_eq_or_of_lt (i := 8) hs b
  rw [show b * 256 = 2 ^ 8 * b by omega, ← this]
theorem kpack_ok (F : Mem) (x y : Int) (hk : keyB x y = true) : FT Try.prog 62 [.agg #[.int .i64 x, .int .i64 y]].toArray F [] (Ret (.tuple #[.int .u32 ((x.toNat * 256 + y.toNat : Nat) : Int), .int .i64 0])) := by
  obtain ⟨h1, h2, h3, h4⟩ := keyB_spec hk
  obtain ⟨b, rfl⟩ := Int.eq_ofNat_of_zero_le (Int.le_of_lt h1)
  obtain ⟨s, rfl⟩ := Int.eq_ofNat_of_zero_le h3
  simp only [Int.toNat_natCast]
  refine FT.of_body Try.func62 rfl Try.ntmps62 (by simp) fun C hC => ?_
  subst hC
  conv => whnf
  intro bx
  conv => whnf
  refine LoadV.a 2 rfl (Nat.le_of_ble_eq_true rfl) ?_
  conv => whnf
  refine CallS.mk Try.call30 ⟨[], _, _, Sub.refl _, fun F' hF' => kgood_ok F' _ _, ?_⟩
  rintro e A' ⟨rfl, rfl⟩
  rw [hk]
  conv => whnf
  refine LoadV.s rfl rfl ?_
  conv => whnf
  refine ArI.inU32 (by omega) ?_
  conv => whnf
  refine ⟨by decide, ?_⟩
  conv => whnf
  refine LoadV.s rfl rfl ?_
  conv => whnf
  refine ArI.inU8 (by omega) ?_
  conv => whnf
  refine ArI.inU32 (by omega) ?_
  conv => whnf
  repeat (first | (refine LoadV.s rfl rfl (forceV_of ?_); conv => whnf) | (refine LoadV.s rfl rfl ?_; conv => whnf) | (refine StoreV.c rfl rfl (Nat.le_of_ble_eq_true rfl) rfl ?_; conv => whnf) | (refine LoadV.a _ rfl (Nat.le_of_ble_eq_true rfl) ?_; conv => whnf) | (refine DrawI.quiet (by kernel_rfl) (by kernel_rfl) ?_; conv => whnf) | (refine ArI.in64 (by omega) ?_; conv => whnf) | (refine ArI.inU8 (by omega) ?_; conv => whnf) | (refine ArI.inU64 (by omega) ?_; conv => whnf) | (refine ArI.inU32 (by omega) ?_; conv => whnf) | (refine RetI.one Try.results62 rfl ?_; conv => whnf) | (refine RetI.two Try.results62 rfl rfl ?_; conv => whnf) | (refine RetI.three Try.results62 rfl rfl rfl ?_; conv => whnf) | (refine RetI.none Try.results62 ?_; conv => whnf) | (refine ⟨by first | decide | omega, ?_⟩; conv => whnf))
  exact ⟨_, Sub.sel [] rfl, congrArg (fun v => Ending.returned (.tuple #[.int .u32 v, .int .i64 0])) (pack24 (by omega) (by omega)), rfl⟩
theorem bits24 {b s : Nat} (hs : s < 256) : bitsOf 24 (b * 256 + s) = bitsOf 16 b ++ bitsOf 8 s := by
  rw [show 24 = 16 + 8 from rfl, bitsOf_add, show (2 : Nat) ^ 8 = 256 from rfl]
  congr 1
  · congr 1; omega
  · rw [← bitsOf_mod (w := 8) (k := 8) (Nat.le_refl _)]
    congr 1; omega
theorem wkey_ok (F : Mem) (w : Nat) (B : List Bool) (g : Option (Nat × Nat)) (hg : g = none ↔ B = []) (x y : Int) (hk : keyB x y = true) (hB : B.length ≤ 1000000) :
    FT Try.prog 40 [.agg #[.pointer (some ⟨w, 0, none⟩)], .agg #[.int .i64 x, .int .i64 y]].toArray F (wrH w B.length g (packB B)) (WrP w (B ++ kBits x y)) := by
  obtain ⟨h1, h2, h3, h4⟩ := keyB_spec hk
  have hb : x.toNat < 65536 := by omega
  have hs : y.toNat < 256 := by omega
  refine FT.of_body Try.func40 rfl Try.ntmps40 (by simp) fun C hC => ?_
  subst hC
  conv => whnf
  intro b
  conv => whnf
  intro c
  conv => whnf
  refine LoadV.a 2 rfl (Nat.le_of_ble_eq_true rfl) ?_
  conv => whnf
  refine CallS.mk Try.call62 ⟨[], _, _, Sub.refl _, fun F' hF' => kpack_ok F' x y hk, ?_⟩
  rintro e A' ⟨rfl, rfl⟩
  conv => whnf
  refine LoadV.s rfl rfl ?_
  conv => whnf
  refine ArI.inU64 (by omega) ?_
  conv => whnf
  refine CallS.mk Try.call61 ⟨[_, _], [], _, Sub.sel [2, 3] rfl, fun F' hF' => bPut_ok F' w B g hg (x.toNat * 256 + y.toNat) 24 (by omega) (by omega), ?_⟩
  rintro e A' (⟨hf, _⟩ | ⟨_, rfl, g', hg', rfl⟩)
  · have := fits_nat (n := x.toNat * 256 + y.toNat) (W := 24) (by omega) (by omega) (by show _ < 16777216; omega)
    rw [show ((24 : Nat) : Int) = 24 from rfl, hf] at this; cases this
  conv => whnf
  repeat (first | (refine LoadV.s rfl rfl (forceV_of ?_); conv => whnf) | (refine LoadV.s rfl rfl ?_; conv => whnf) | (refine StoreV.c rfl rfl (Nat.le_of_ble_eq_true rfl) rfl ?_; conv => whnf) | (refine LoadV.a _ rfl (Nat.le_of_ble_eq_true rfl) ?_; conv => whnf) | (refine DrawI.quiet (by kernel_rfl) (by kernel_rfl) ?_; conv => whnf) | (refine ArI.in64 (by omega) ?_; conv => whnf) | (refine ArI.inU8 (by omega) ?_; conv => whnf) | (refine ArI.inU64 (by omega) ?_; conv => whnf) | (refine ArI.inU32 (by omega) ?_; conv => whnf) | (refine RetI.one Try.results40 rfl ?_; conv => whnf) | (refine RetI.two Try.results40 rfl rfl ?_; conv => whnf) | (refine RetI.three Try.results40 rfl rfl rfl ?_; conv => whnf) | (refine RetI.none Try.results40 ?_; conv => whnf) | (refine ⟨by first | decide | omega, ?_⟩; conv => whnf))
  refine ⟨_, Sub.refl _, rfl, g', ?_, ?_⟩
  · rw [kBits, ← bits24 hs]; exact hg'
  · rw [kBits, ← bits24 hs]; rfl
theorem wbox_ok (F : Mem) (w : Nat) (B : List Bool) (g : Option (Nat × Nat)) (hg : g = none ↔ B = []) (x : Bx) (hk : bxB x = true) (hB : B.length ≤ 900000) :
    FT Try.prog 39 [.agg #[.pointer (some ⟨w, 0, none⟩)], .agg (bxF x).toArray].toArray F (wrH w B.length g (packB B)) (WrP w (B ++ bBits x)) := by
  have hk' : keyB x.1 x.2.1 = true ∧ keyB x.2.2.1 x.2.2.2 = true := by simpa [bxB] using hk
  refine FT.of_body Try.func39 rfl Try.ntmps39 (by simp) fun C hC => ?_
  subst hC
  conv => whnf
  intro b
  conv => whnf
  intro c
  conv => whnf
  refine LoadV.a 1 rfl (Nat.le_of_ble_eq_true rfl) ?_
  conv => whnf
  refine LoadV.a 2 rfl (Nat.le_of_ble_eq_true rfl) ?_
  conv => whnf
  refine CallS.mk Try.call40 ⟨[_, _], [_, _], _, Sub.sel [2, 3, 0, 1] rfl, fun F' hF' => wkey_ok F' w B g hg x.1 x.2.1 hk'.1 (by omega), ?_⟩
  rintro e A' ⟨rfl, g1, hg1, rfl⟩
  conv => whnf
  refine LoadV.a 1 rfl (Nat.le_of_ble_eq_true rfl) ?_
  conv => whnf
  refine LoadV.a 2 rfl (Nat.le_of_ble_eq_true rfl) ?_
  conv => whnf
  refine CallS.mk Try.call40 ⟨[_, _], [], _, Sub.sel [0, 1] rfl, fun F' hF' => wkey_ok F' w (B ++ kBits x.1 x.2.1) g1 hg1 x.2.2.1 x.2.2.2 hk'.2 (by rw [List.length_append, kBits_length]; omega), ?_⟩
  rintro e A' ⟨rfl, g2, hg2, rfl⟩
  conv => whnf
  repeat (first | (refine LoadV.s rfl rfl (forceV_of ?_); conv => whnf) | (refine LoadV.s rfl rfl ?_; conv => whnf) | (refine StoreV.c rfl rfl (Nat.le_of_ble_eq_true rfl) rfl ?_; conv => whnf) | (refine LoadV.a _ rfl (Nat.le_of_ble_eq_true rfl) ?_; conv => whnf) | (refine DrawI.quiet (by kernel_rfl) (by kernel_rfl) ?_; conv => whnf) | (refine ArI.in64 (by omega) ?_; conv => whnf) | (refine ArI.inU8 (by omega) ?_; conv => whnf) | (refine ArI.inU64 (by omega) ?_; conv => whnf) | (refine ArI.inU32 (by omega) ?_; conv => whnf) | (refine RetI.one Try.results39 rfl ?_; conv => whnf) | (refine RetI.two Try.results39 rfl rfl ?_; conv => whnf) | (refine RetI.three Try.results39 rfl rfl rfl ?_; conv => whnf) | (refine RetI.none Try.results39 ?_; conv => whnf) | (refine ⟨by first | decide | omega, ?_⟩; conv => whnf))
  rw [List.append_assoc] at hg2
  refine ⟨_, Sub.refl _, rfl, g2, hg2, ?_⟩
  rw [show B ++ bBits x = B ++ kBits x.1 x.2.1 ++ kBits x.2.2.1 x.2.2.2 by simp [bBits]]
theorem wseats_ok (F : Mem) (w : Nat) (B : List Bool) (g : Option (Nat × Nat)) (hg : g = none ↔ B = []) (oa : Option Addr) (ca : Nat) (xs : List Seat) (ha : SlF F 2 oa xs.length (xs.flatMap seatF)) (hk : xs.all seatB = true) (hn : xs.length ≤ 64) (hB : B.length ≤ 500000) :
    FT Try.prog 38 [.agg #[.pointer (some ⟨w, 0, none⟩)], .slice oa xs.length ca].toArray F (wrH w B.length g (packB B)) (WrP w (B ++ ssBits xs)) := by
  refine FT.of_body Try.func38 rfl Try.ntmps38 (by simp) fun C hC => ?_
  subst hC
  conv => whnf
  intro b
  conv => whnf
  refine LoadV.a 1 rfl (Nat.le_of_ble_eq_true rfl) ?_
  conv => whnf
  refine CallS.mk Try.call37 ⟨[_, _], [_], _, Sub.sel [1, 2, 0] rfl, fun F' hF' => wnum_ok F' w B g hg xs.length 7 (by omega) (by omega) (by show _ < 128; omega) (by omega), ?_⟩
  rintro e A' ⟨rfl, g1, hg1, rfl⟩
  conv => whnf
  refine LoopI.by_state (σ := Nat × Option (Nat × Nat)) (fun x => [(1, .slice oa xs.length ca), (2, .pointer (some ⟨b, 0, none⟩)), (10, .slice oa xs.length ca), (11, .int .i64 (xs.length : Int)), (12, .int .i64 (x.1 : Int))])
    (fun x => wrX w ((B ++ (bitsOf 7 xs.length ++ (xs.take x.1).flatMap sBits)).length : Nat) x.2 (packB (B ++ (bitsOf 7 xs.length ++ (xs.take x.1).flatMap sBits))) [.cells b [.pointer (some ⟨w, 0, none⟩)] 76 (0, 0)])
    (fun x => x.1 ≤ xs.length ∧ (x.2 = none ↔ B ++ (bitsOf 7 xs.length ++ (xs.take x.1).flatMap sBits) = [])) (fun x => xs.length - x.1) (0, g1) ⟨Nat.zero_le _, by simpa using hg1⟩ ⟨rfl, rfl, rfl, rfl, rfl, trivial⟩ (by simp only [List.take_zero, List.flatMap_nil, List.append_nil]; exact Sub.refl _) ?_
  rintro ⟨i, g2⟩ f0 ⟨hi, hg2⟩
  dsimp only at hi hg2 ⊢
  have hlen : (B ++ (bitsOf 7 xs.length ++ (xs.take i).flatMap sBits)).length ≤ 600000 := by
    rw [List.length_append, List.length_append, bitsOf_length, flat_length sBits_length, List.length_take]; omega
  conv => whnf
  refine cond_dec (fun h => ?_) (fun h => ?_)
  · have hil : i < xs.length := by omega
    have hft := flat_take sBits hil
    obtain ⟨xb, yb, rfl, hrb⟩ := ha.at (i := i) hil
    have hsx : seatB xs[i] = true := List.all_eq_true.1 hk _ (List.getElem_mem hil)
    conv => whnf
    refine ⟨by omega, ?_⟩
    conv => whnf
    refine LoadV.fa (cs := seatF (xs[i])) (flat_row seatF_length hrb hil rfl) rfl ?_
    obtain ⟨x, hx⟩ : ∃ x, x = xs[i] := ⟨_, rfl⟩
    rw [← hx] at hsx hft ⊢
    obtain ⟨p, q⟩ := x
    have hp : btw p 0 255 = true ∧ btw q 0 63 = true := by simpa [seatB] using hsx
    obtain ⟨p0, p1⟩ := btw_spec hp.1
    obtain ⟨q0, q1⟩ := btw_spec hp.2
    obtain ⟨p, rfl⟩ := Int.eq_ofNat_of_zero_le p0
    obtain ⟨q, rfl⟩ := Int.eq_ofNat_of_zero_le q0
    conv => whnf
    intro c
    conv => whnf
    refine StoreV.c rfl rfl (Nat.le_of_ble_eq_true rfl) rfl ?_
    conv => whnf
    refine LoadV.a 1 rfl (Nat.le_of_ble_eq_true rfl) ?_
    conv => whnf
    refine LoadV.s rfl rfl ?_
    conv => whnf
    refine CallS.mk Try.call37 ⟨[_, _], [_, _], _, Sub.sel [1, 2, 0, 3] rfl, fun F' hF' => wnum_ok F' w (B ++ (bitsOf 7 xs.length ++ (xs.take i).flatMap sBits)) g2 hg2 p 8 (by omega) (by omega) (by show _ < 256; omega) (by omega), ?_⟩
    rintro e A' ⟨rfl, g3, hg3, rfl⟩
    conv => whnf
    refine LoadV.a 1 rfl (Nat.le_of_ble_eq_true rfl) ?_
    conv => whnf
    refine LoadV.s rfl rfl ?_
    conv => whnf
    refine CallS.mk Try.call37 ⟨[_, _], [_], _, Sub.sel [0, 1, 3] rfl, fun F' hF' => wnum_ok F' w (B ++ (bitsOf 7 xs.length ++ (xs.take i).flatMap sBits) ++ bitsOf 8 p) g3 hg3 q 6 (by omega) (by omega) (by show _ < 64; omega) (by rw [List.length_append, bitsOf_length]; omega), ?_⟩
    rintro e A' ⟨rfl, g4, hg4, rfl⟩
    conv => whnf
    refine ArI.to64 ((i + 1 : Nat) : Int) (by omega) (by omega) ?_
    conv => whnf
    have hcat : B ++ (bitsOf 7 xs.length ++ (xs.take i).flatMap sBits) ++ bitsOf 8 p ++ bitsOf 6 q = B ++ (bitsOf 7 xs.length ++ (xs.take (i + 1)).flatMap sBits) := by rw [hft]; simp [sBits]
    rw [hcat] at hg4
    refine ⟨(i + 1, g4), _, by dsimp only; omega, Sub.refl _, ⟨by dsimp only; omega, hg4⟩, ⟨rfl, rfl, rfl, rfl, rfl, trivial⟩, ?_⟩
    dsimp only
    rw [← hcat]
  · have hie : i = xs.length := by omega
    subst hie
    rw [List.take_length] at hg2 ⊢
    conv => whnf
    repeat (first | (refine LoadV.s rfl rfl (forceV_of ?_); conv => whnf) | (refine LoadV.s rfl rfl ?_; conv => whnf) | (refine StoreV.c rfl rfl (Nat.le_of_ble_eq_true rfl) rfl ?_; conv => whnf) | (refine LoadV.a _ rfl (Nat.le_of_ble_eq_true rfl) ?_; conv => whnf) | (refine DrawI.quiet (by kernel_rfl) (by kernel_rfl) ?_; conv => whnf) | (refine ArI.in64 (by omega) ?_; conv => whnf) | (refine ArI.inU8 (by omega) ?_; conv => whnf) | (refine ArI.inU64 (by omega) ?_; conv => whnf) | (refine ArI.inU32 (by omega) ?_; conv => whnf) | (refine RetI.one Try.results38 rfl ?_; conv => whnf) | (refine RetI.two Try.results38 rfl rfl ?_; conv => whnf) | (refine RetI.three Try.results38 rfl rfl rfl ?_; conv => whnf) | (refine RetI.none Try.results38 ?_; conv => whnf) | (refine ⟨by first | decide | omega, ?_⟩; conv => whnf))
    exact ⟨_, Sub.sel [0, 1] rfl, rfl, g2, hg2, rfl⟩
end Go.Proofs.Ytlbdnkkaacccoaa
