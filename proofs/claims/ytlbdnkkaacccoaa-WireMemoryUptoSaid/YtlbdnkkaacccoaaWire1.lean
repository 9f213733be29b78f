/- Messages: what is right; the program's checks of the parts. -/
import Derived.Test.YtlbdnkkaacccoaaCom
import Derived.Test.YtlbdnkkaacccoaaShape1
namespace Go.Proofs.Ytlbdnkkaacccoaa
set_option linter.unusedVariables false
set_option linter.unusedSimpArgs false
set_option maxRecDepth 100000
open SL Go.RowKit Go.Maps
abbrev Seat := Int × Int
abbrev Bx := Int × Int × Int × Int
abbrev Item := Int × Int × Bx
structure Msg where
  kind : Int
  ep : Int
  L : List Seat
  J : List Seat
  I : List Item
  qw : Int
  qe : Int
  pw : Int
  ps : Int
  pe : Int
  b0 : Bx
  b1 : Bx
  b2 : Bx
  se : Int
  sb : Int
  ss : Int
  tx : ByteArray
/-- Where a message's lists lie. -/
structure Sls where
  oL : Option Addr
  cL : Nat
  oJ : Option Addr
  cJ : Nat
  oI : Option Addr
  cI : Nat
def seatF (s : Seat) : List Value := [.int .i64 s.1, .int .i64 s.2]
def bxF (b : Bx) : List Value := [.int .i64 b.1, .int .i64 b.2.1, .int .i64 b.2.2.1, .int .i64 b.2.2.2]
def itemF (i : Item) : List Value := [.int .i64 i.1, .int .i64 i.2.1, .int .i64 i.2.2.1, .int .i64 i.2.2.2.1, .int .i64 i.2.2.2.2.1, .int .i64 i.2.2.2.2.2]
theorem seatF_length (s : Seat) : (seatF s).length = 2 := rfl
theorem bxF_length (s : Bx) : (bxF s).length = 4 := rfl
theorem itemF_length (s : Item) : (itemF s).length = 6 := rfl
def rkV (m : Msg) (s : Sls) : List Value := [.int .i64 m.ep, .slice s.oL m.L.length s.cL, .slice s.oJ m.J.length s.cJ, .slice s.oI m.I.length s.cI]
def rqV (m : Msg) : List Value := [.int .i64 m.qw, .int .i64 m.qe]
def rpV (m : Msg) : List Value := [.int .i64 m.pw, .int .i64 m.ps, .int .i64 m.pe, .int .i64 m.b0.1, .int .i64 m.b0.2.1, .int .i64 m.b0.2.2.1, .int .i64 m.b0.2.2.2, .int .i64 m.b1.1, .int .i64 m.b1.2.1, .int .i64 m.b1.2.2.1, .int .i64 m.b1.2.2.2, .int .i64 m.b2.1, .int .i64 m.b2.2.1, .int .i64 m.b2.2.2.1, .int .i64 m.b2.2.2.2]
def seV (m : Msg) : List Value := [.int .i64 m.se, .int .i64 m.sb, .int .i64 m.ss, .string m.tx]
def msgL (m : Msg) (s : Sls) : List Value := .int .i64 m.kind :: (rkV m s ++ rqV m ++ rpV m ++ seV m)
/-- The message's lists, as foreign rows. -/
structure Rows14 (F : Mem) (m : Msg) (s : Sls) : Prop where
  L : SlF F 2 s.oL m.L.length (m.L.flatMap seatF)
  J : SlF F 2 s.oJ m.J.length (m.J.flatMap seatF)
  I : SlF F 6 s.oI m.I.length (m.I.flatMap itemF)
theorem Rows14.ext {F F' : Mem} {m : Msg} {s : Sls} (h : Rows14 F m s) (hF : ∀ r o, F r = some o → F' r = some o) : Rows14 F' m s := ⟨h.L.ext hF, h.J.ext hF, h.I.ext hF⟩

def btw (n lo hi : Int) : Bool := decide (lo ≤ n) && decide (n ≤ hi)
def seatB (s : Seat) : Bool := btw s.1 0 255 && btw s.2 0 63
def keyB (b s : Int) : Bool := decide (0 < b) && decide (b ≤ 65535) && decide (0 ≤ s) && decide (s ≤ 255)
def bxB (b : Bx) : Bool := keyB b.1 b.2.1 && keyB b.2.2.1 b.2.2.2
def itemB (i : Item) : Bool := btw i.1 0 20 && (i.2.1 != i.1) && isBelow i.1 i.2.1 && bxB i.2.2
theorem boolIf {a b : Bool} {X Y : Prop} (h1 : a = true → X) (h2 : a = false → Y) : cond a X Y := by
  cases a
  · exact h2 rfl
  · exact h1 rfl
theorem between_ok (F : Mem) (n lo hi : Int) : FT Try.prog 22 [.int .i64 n, .int .i64 lo, .int .i64 hi].toArray F [] (Ret (.bool (btw n lo hi))) := by
  refine FT.of_body Try.func22 rfl Try.ntmps22 (by simp) fun C hC => ?_
  subst hC
  conv => whnf
  refine cond_dec (fun h => ?_) (fun h => ?_)
  · conv => whnf
    repeat (first | (refine LoadV.s rfl rfl (forceV_of ?_); conv => whnf) | (refine LoadV.s rfl rfl ?_; conv => whnf) | (refine StoreV.c rfl rfl (Nat.le_of_ble_eq_true rfl) rfl ?_; conv => whnf) | (refine LoadV.a _ rfl (Nat.le_of_ble_eq_true rfl) ?_; conv => whnf) | (refine DrawI.quiet (by kernel_rfl) (by kernel_rfl) ?_; conv => whnf) | (refine ArI.in64 (by omega) ?_; conv => whnf) | (refine ArI.inU8 (by omega) ?_; conv => whnf) | (refine ArI.inU64 (by omega) ?_; conv => whnf) | (refine ArI.inU32 (by omega) ?_; conv => whnf) | (refine RetI.one Try.results22 rfl ?_; conv => whnf) | (refine RetI.two Try.results22 rfl rfl ?_; conv => whnf) | (refine RetI.three Try.results22 rfl rfl rfl ?_; conv => whnf) | (refine RetI.none Try.results22 ?_; conv => whnf) | (refine ⟨by first | decide | omega, ?_⟩; conv => whnf))
    exact ⟨_, Sub.refl _, ret_bool (by simp [btw, h]), rfl⟩
  · conv => whnf
    repeat (first | (refine LoadV.s rfl rfl (forceV_of ?_); conv => whnf) | (refine LoadV.s rfl rfl ?_; conv => whnf) | (refine StoreV.c rfl rfl (Nat.le_of_ble_eq_true rfl) rfl ?_; conv => whnf) | (refine LoadV.a _ rfl (Nat.le_of_ble_eq_true rfl) ?_; conv => whnf) | (refine DrawI.quiet (by kernel_rfl) (by kernel_rfl) ?_; conv => whnf) | (refine ArI.in64 (by omega) ?_; conv => whnf) | (refine ArI.inU8 (by omega) ?_; conv => whnf) | (refine ArI.inU64 (by omega) ?_; conv => whnf) | (refine ArI.inU32 (by omega) ?_; conv => whnf) | (refine RetI.one Try.results22 rfl ?_; conv => whnf) | (refine RetI.two Try.results22 rfl rfl ?_; conv => whnf) | (refine RetI.three Try.results22 rfl rfl rfl ?_; conv => whnf) | (refine RetI.none Try.results22 ?_; conv => whnf) | (refine ⟨by first | decide | omega, ?_⟩; conv => whnf))
    exact ⟨_, Sub.refl _, ret_bool (by simp [btw, h]), rfl⟩
theorem epoch_ok (F : Mem) (n : Int) : FT Try.prog 23 [.int .i64 n].toArray F [] (Ret (.bool (btw n 1 200))) := by
  refine FT.of_body Try.func23 rfl Try.ntmps23 (by simp) fun C hC => ?_
  subst hC
  conv => whnf
  refine CallS.mk Try.call22 ⟨[], _, _, Sub.refl _, fun F' hF' => between_ok F' n 1 200, ?_⟩
  rintro e A' ⟨rfl, rfl⟩
  conv => whnf
  repeat (first | (refine LoadV.s rfl rfl (forceV_of ?_); conv => whnf) | (refine LoadV.s rfl rfl ?_; conv => whnf) | (refine StoreV.c rfl rfl (Nat.le_of_ble_eq_true rfl) rfl ?_; conv => whnf) | (refine LoadV.a _ rfl (Nat.le_of_ble_eq_true rfl) ?_; conv => whnf) | (refine DrawI.quiet (by kernel_rfl) (by kernel_rfl) ?_; conv => whnf) | (refine ArI.in64 (by omega) ?_; conv => whnf) | (refine ArI.inU8 (by omega) ?_; conv => whnf) | (refine ArI.inU64 (by omega) ?_; conv => whnf) | (refine ArI.inU32 (by omega) ?_; conv => whnf) | (refine RetI.one Try.results23 rfl ?_; conv => whnf) | (refine RetI.two Try.results23 rfl rfl ?_; conv => whnf) | (refine RetI.three Try.results23 rfl rfl rfl ?_; conv => whnf) | (refine RetI.none Try.results23 ?_; conv => whnf) | (refine ⟨by first | decide | omega, ?_⟩; conv => whnf))
  exact ⟨_, Sub.refl _, rfl, rfl⟩
theorem seat_ok (F : Mem) (s : Seat) : FT Try.prog 25 [.agg (seatF s).toArray].toArray F [] (Ret (.bool (seatB s))) := by
  refine FT.of_body Try.func25 rfl Try.ntmps25 (by simp) fun C hC => ?_
  subst hC
  conv => whnf
  intro b
  conv => whnf
  repeat (first | (refine LoadV.s rfl rfl (forceV_of ?_); conv => whnf) | (refine LoadV.s rfl rfl ?_; conv => whnf) | (refine StoreV.c rfl rfl (Nat.le_of_ble_eq_true rfl) rfl ?_; conv => whnf) | (refine LoadV.a _ rfl (Nat.le_of_ble_eq_true rfl) ?_; conv => whnf) | (refine DrawI.quiet (by kernel_rfl) (by kernel_rfl) ?_; conv => whnf) | (refine ArI.in64 (by omega) ?_; conv => whnf) | (refine ArI.inU8 (by omega) ?_; conv => whnf) | (refine ArI.inU64 (by omega) ?_; conv => whnf) | (refine ArI.inU32 (by omega) ?_; conv => whnf) | (refine RetI.one Try.results25 rfl ?_; conv => whnf) | (refine RetI.two Try.results25 rfl rfl ?_; conv => whnf) | (refine RetI.three Try.results25 rfl rfl rfl ?_; conv => whnf) | (refine RetI.none Try.results25 ?_; conv => whnf) | (refine ⟨by first | decide | omega, ?_⟩; conv => whnf))
  refine CallS.mk Try.call22 ⟨[], _, _, Sub.refl _, fun F' hF' => between_ok F' s.1 0 255, ?_⟩
  rintro e A' ⟨rfl, rfl⟩
  cases hb : btw s.1 0 255 with
  | false =>
    conv => whnf
    repeat (first | (refine LoadV.s rfl rfl (forceV_of ?_); conv => whnf) | (refine LoadV.s rfl rfl ?_; conv => whnf) | (refine StoreV.c rfl rfl (Nat.le_of_ble_eq_true rfl) rfl ?_; conv => whnf) | (refine LoadV.a _ rfl (Nat.le_of_ble_eq_true rfl) ?_; conv => whnf) | (refine DrawI.quiet (by kernel_rfl) (by kernel_rfl) ?_; conv => whnf) | (refine ArI.in64 (by omega) ?_; conv => whnf) | (refine ArI.inU8 (by omega) ?_; conv => whnf) | (refine ArI.inU64 (by omega) ?_; conv => whnf) | (refine ArI.inU32 (by omega) ?_; conv => whnf) | (refine RetI.one Try.results25 rfl ?_; conv => whnf) | (refine RetI.two Try.results25 rfl rfl ?_; conv => whnf) | (refine RetI.three Try.results25 rfl rfl rfl ?_; conv => whnf) | (refine RetI.none Try.results25 ?_; conv => whnf) | (refine ⟨by first | decide | omega, ?_⟩; conv => whnf))
    exact ⟨_, Sub.sel [] rfl, ret_bool (by simp [seatB, hb]), rfl⟩
  | true =>
    conv => whnf
    repeat (first | (refine LoadV.s rfl rfl (forceV_of ?_); conv => whnf) | (refine LoadV.s rfl rfl ?_; conv => whnf) | (refine StoreV.c rfl rfl (Nat.le_of_ble_eq_true rfl) rfl ?_; conv => whnf) | (refine LoadV.a _ rfl (Nat.le_of_ble_eq_true rfl) ?_; conv => whnf) | (refine DrawI.quiet (by kernel_rfl) (by kernel_rfl) ?_; conv => whnf) | (refine ArI.in64 (by omega) ?_; conv => whnf) | (refine ArI.inU8 (by omega) ?_; conv => whnf) | (refine ArI.inU64 (by omega) ?_; conv => whnf) | (refine ArI.inU32 (by omega) ?_; conv => whnf) | (refine RetI.one Try.results25 rfl ?_; conv => whnf) | (refine RetI.two Try.results25 rfl rfl ?_; conv => whnf) | (refine RetI.three Try.results25 rfl rfl rfl ?_; conv => whnf) | (refine RetI.none Try.results25 ?_; conv => whnf) | (refine ⟨by first | decide | omega, ?_⟩; conv => whnf))
    refine CallS.mk Try.call22 ⟨[], _, _, Sub.refl _, fun F' hF' => between_ok F' s.2 0 63, ?_⟩
    rintro e A' ⟨rfl, rfl⟩
    conv => whnf
    repeat (first | (refine LoadV.s rfl rfl (forceV_of ?_); conv => whnf) | (refine LoadV.s rfl rfl ?_; conv => whnf) | (refine StoreV.c rfl rfl (Nat.le_of_ble_eq_true rfl) rfl ?_; conv => whnf) | (refine LoadV.a _ rfl (Nat.le_of_ble_eq_true rfl) ?_; conv => whnf) | (refine DrawI.quiet (by kernel_rfl) (by kernel_rfl) ?_; conv => whnf) | (refine ArI.in64 (by omega) ?_; conv => whnf) | (refine ArI.inU8 (by omega) ?_; conv => whnf) | (refine ArI.inU64 (by omega) ?_; conv => whnf) | (refine ArI.inU32 (by omega) ?_; conv => whnf) | (refine RetI.one Try.results25 rfl ?_; conv => whnf) | (refine RetI.two Try.results25 rfl rfl ?_; conv => whnf) | (refine RetI.three Try.results25 rfl rfl rfl ?_; conv => whnf) | (refine RetI.none Try.results25 ?_; conv => whnf) | (refine ⟨by first | decide | omega, ?_⟩; conv => whnf))
    exact ⟨_, Sub.sel [] rfl, ret_bool (by simp [seatB, hb]), rfl⟩
theorem kgood_ok (F : Mem) (x y : Int) : FT Try.prog 30 [.agg #[.int .i64 x, .int .i64 y]].toArray F [] (Ret (.bool (keyB x y))) := by
  refine FT.of_body Try.func30 rfl Try.ntmps30 (by simp) fun C hC => ?_
  subst hC
  conv => whnf
  intro b
  conv => whnf
  repeat (first | (refine LoadV.s rfl rfl (forceV_of ?_); conv => whnf) | (refine LoadV.s rfl rfl ?_; conv => whnf) | (refine StoreV.c rfl rfl (Nat.le_of_ble_eq_true rfl) rfl ?_; conv => whnf) | (refine LoadV.a _ rfl (Nat.le_of_ble_eq_true rfl) ?_; conv => whnf) | (refine DrawI.quiet (by kernel_rfl) (by kernel_rfl) ?_; conv => whnf) | (refine ArI.in64 (by omega) ?_; conv => whnf) | (refine ArI.inU8 (by omega) ?_; conv => whnf) | (refine ArI.inU64 (by omega) ?_; conv => whnf) | (refine ArI.inU32 (by omega) ?_; conv => whnf) | (refine RetI.one Try.results30 rfl ?_; conv => whnf) | (refine RetI.two Try.results30 rfl rfl ?_; conv => whnf) | (refine RetI.three Try.results30 rfl rfl rfl ?_; conv => whnf) | (refine RetI.none Try.results30 ?_; conv => whnf) | (refine ⟨by first | decide | omega, ?_⟩; conv => whnf))
  refine cond_dec (fun h => ?_) (fun h => ?_)
  · conv => whnf
    repeat (first | (refine LoadV.s rfl rfl (forceV_of ?_); conv => whnf) | (refine LoadV.s rfl rfl ?_; conv => whnf) | (refine StoreV.c rfl rfl (Nat.le_of_ble_eq_true rfl) rfl ?_; conv => whnf) | (refine LoadV.a _ rfl (Nat.le_of_ble_eq_true rfl) ?_; conv => whnf) | (refine DrawI.quiet (by kernel_rfl) (by kernel_rfl) ?_; conv => whnf) | (refine ArI.in64 (by omega) ?_; conv => whnf) | (refine ArI.inU8 (by omega) ?_; conv => whnf) | (refine ArI.inU64 (by omega) ?_; conv => whnf) | (refine ArI.inU32 (by omega) ?_; conv => whnf) | (refine RetI.one Try.results30 rfl ?_; conv => whnf) | (refine RetI.two Try.results30 rfl rfl ?_; conv => whnf) | (refine RetI.three Try.results30 rfl rfl rfl ?_; conv => whnf) | (refine RetI.none Try.results30 ?_; conv => whnf) | (refine ⟨by first | decide | omega, ?_⟩; conv => whnf))
    refine cond_dec (fun h1 => ?_) (fun h1 => ?_)
    · conv => whnf
      repeat (first | (refine LoadV.s rfl rfl (forceV_of ?_); conv => whnf) | (refine LoadV.s rfl rfl ?_; conv => whnf) | (refine StoreV.c rfl rfl (Nat.le_of_ble_eq_true rfl) rfl ?_; conv => whnf) | (refine LoadV.a _ rfl (Nat.le_of_ble_eq_true rfl) ?_; conv => whnf) | (refine DrawI.quiet (by kernel_rfl) (by kernel_rfl) ?_; conv => whnf) | (refine ArI.in64 (by omega) ?_; conv => whnf) | (refine ArI.inU8 (by omega) ?_; conv => whnf) | (refine ArI.inU64 (by omega) ?_; conv => whnf) | (refine ArI.inU32 (by omega) ?_; conv => whnf) | (refine RetI.one Try.results30 rfl ?_; conv => whnf) | (refine RetI.two Try.results30 rfl rfl ?_; conv => whnf) | (refine RetI.three Try.results30 rfl rfl rfl ?_; conv => whnf) | (refine RetI.none Try.results30 ?_; conv => whnf) | (refine ⟨by first | decide | omega, ?_⟩; conv => whnf))
      refine cond_dec (fun h2 => ?_) (fun h2 => ?_)
      · conv => whnf
        repeat (first | (refine LoadV.s rfl rfl (forceV_of ?_); conv => whnf) | (refine LoadV.s rfl rfl ?_; conv => whnf) | (refine StoreV.c rfl rfl (Nat.le_of_ble_eq_true rfl) rfl ?_; conv => whnf) | (refine LoadV.a _ rfl (Nat.le_of_ble_eq_true rfl) ?_; conv => whnf) | (refine DrawI.quiet (by kernel_rfl) (by kernel_rfl) ?_; conv => whnf) | (refine ArI.in64 (by omega) ?_; conv => whnf) | (refine ArI.inU8 (by omega) ?_; conv => whnf) | (refine ArI.inU64 (by omega) ?_; conv => whnf) | (refine ArI.inU32 (by omega) ?_; conv => whnf) | (refine RetI.one Try.results30 rfl ?_; conv => whnf) | (refine RetI.two Try.results30 rfl rfl ?_; conv => whnf) | (refine RetI.three Try.results30 rfl rfl rfl ?_; conv => whnf) | (refine RetI.none Try.results30 ?_; conv => whnf) | (refine ⟨by first | decide | omega, ?_⟩; conv => whnf))
        exact ⟨_, Sub.sel [] rfl, ret_bool (by simp [keyB]; omega), rfl⟩
      · conv => whnf
        repeat (first | (refine LoadV.s rfl rfl (forceV_of ?_); conv => whnf) | (refine LoadV.s rfl rfl ?_; conv => whnf) | (refine StoreV.c rfl rfl (Nat.le_of_ble_eq_true rfl) rfl ?_; conv => whnf) | (refine LoadV.a _ rfl (Nat.le_of_ble_eq_true rfl) ?_; conv => whnf) | (refine DrawI.quiet (by kernel_rfl) (by kernel_rfl) ?_; conv => whnf) | (refine ArI.in64 (by omega) ?_; conv => whnf) | (refine ArI.inU8 (by omega) ?_; conv => whnf) | (refine ArI.inU64 (by omega) ?_; conv => whnf) | (refine ArI.inU32 (by omega) ?_; conv => whnf) | (refine RetI.one Try.results30 rfl ?_; conv => whnf) | (refine RetI.two Try.results30 rfl rfl ?_; conv => whnf) | (refine RetI.three Try.results30 rfl rfl rfl ?_; conv => whnf) | (refine RetI.none Try.results30 ?_; conv => whnf) | (refine ⟨by first | decide | omega, ?_⟩; conv => whnf))
        exact ⟨_, Sub.sel [] rfl, ret_bool (by simp [keyB]; omega), rfl⟩
    · conv => whnf
      repeat (first | (refine LoadV.s rfl rfl (forceV_of ?_); conv => whnf) | (refine LoadV.s rfl rfl ?_; conv => whnf) | (refine StoreV.c rfl rfl (Nat.le_of_ble_eq_true rfl) rfl ?_; conv => whnf) | (refine LoadV.a _ rfl (Nat.le_of_ble_eq_true rfl) ?_; conv => whnf) | (refine DrawI.quiet (by kernel_rfl) (by kernel_rfl) ?_; conv => whnf) | (refine ArI.in64 (by omega) ?_; conv => whnf) | (refine ArI.inU8 (by omega) ?_; conv => whnf) | (refine ArI.inU64 (by omega) ?_; conv => whnf) | (refine ArI.inU32 (by omega) ?_; conv => whnf) | (refine RetI.one Try.results30 rfl ?_; conv => whnf) | (refine RetI.two Try.results30 rfl rfl ?_; conv => whnf) | (refine RetI.three Try.results30 rfl rfl rfl ?_; conv => whnf) | (refine RetI.none Try.results30 ?_; conv => whnf) | (refine ⟨by first | decide | omega, ?_⟩; conv => whnf))
      exact ⟨_, Sub.sel [] rfl, ret_bool (by simp [keyB]; omega), rfl⟩
  · conv => whnf
    repeat (first | (refine LoadV.s rfl rfl (forceV_of ?_); conv => whnf) | (refine LoadV.s rfl rfl ?_; conv => whnf) | (refine StoreV.c rfl rfl (Nat.le_of_ble_eq_true rfl) rfl ?_; conv => whnf) | (refine LoadV.a _ rfl (Nat.le_of_ble_eq_true rfl) ?_; conv => whnf) | (refine DrawI.quiet (by kernel_rfl) (by kernel_rfl) ?_; conv => whnf) | (refine ArI.in64 (by omega) ?_; conv => whnf) | (refine ArI.inU8 (by omega) ?_; conv => whnf) | (refine ArI.inU64 (by omega) ?_; conv => whnf) | (refine ArI.inU32 (by omega) ?_; conv => whnf) | (refine RetI.one Try.results30 rfl ?_; conv => whnf) | (refine RetI.two Try.results30 rfl rfl ?_; conv => whnf) | (refine RetI.three Try.results30 rfl rfl rfl ?_; conv => whnf) | (refine RetI.none Try.results30 ?_; conv => whnf) | (refine ⟨by first | decide | omega, ?_⟩; conv => whnf))
    exact ⟨_, Sub.sel [] rfl, ret_bool (by simp [keyB]; omega), rfl⟩
theorem r2good_ok (F : Mem) (x y : Int) : FT Try.prog 60 [.agg #[.int .i64 x, .int .i64 y]].toArray F [] (Ret (.bool (keyB x y))) := by
  refine FT.of_body Try.func60 rfl Try.ntmps60 (by simp) fun C hC => ?_
  subst hC
  conv => whnf
  intro b
  conv => whnf
  repeat (first | (refine LoadV.s rfl rfl (forceV_of ?_); conv => whnf) | (refine LoadV.s rfl rfl ?_; conv => whnf) | (refine StoreV.c rfl rfl (Nat.le_of_ble_eq_true rfl) rfl ?_; conv => whnf) | (refine LoadV.a _ rfl (Nat.le_of_ble_eq_true rfl) ?_; conv => whnf) | (refine DrawI.quiet (by kernel_rfl) (by kernel_rfl) ?_; conv => whnf) | (refine ArI.in64 (by omega) ?_; conv => whnf) | (refine ArI.inU8 (by omega) ?_; conv => whnf) | (refine ArI.inU64 (by omega) ?_; conv => whnf) | (refine ArI.inU32 (by omega) ?_; conv => whnf) | (refine RetI.one Try.results60 rfl ?_; conv => whnf) | (refine RetI.two Try.results60 rfl rfl ?_; conv => whnf) | (refine RetI.three Try.results60 rfl rfl rfl ?_; conv => whnf) | (refine RetI.none Try.results60 ?_; conv => whnf) | (refine ⟨by first | decide | omega, ?_⟩; conv => whnf))
  refine cond_dec (fun h => ?_) (fun h => ?_)
  · conv => whnf
    repeat (first | (refine LoadV.s rfl rfl (forceV_of ?_); conv => whnf) | (refine LoadV.s rfl rfl ?_; conv => whnf) | (refine StoreV.c rfl rfl (Nat.le_of_ble_eq_true rfl) rfl ?_; conv => whnf) | (refine LoadV.a _ rfl (Nat.le_of_ble_eq_true rfl) ?_; conv => whnf) | (refine DrawI.quiet (by kernel_rfl) (by kernel_rfl) ?_; conv => whnf) | (refine ArI.in64 (by omega) ?_; conv => whnf) | (refine ArI.inU8 (by omega) ?_; conv => whnf) | (refine ArI.inU64 (by omega) ?_; conv => whnf) | (refine ArI.inU32 (by omega) ?_; conv => whnf) | (refine RetI.one Try.results60 rfl ?_; conv => whnf) | (refine RetI.two Try.results60 rfl rfl ?_; conv => whnf) | (refine RetI.three Try.results60 rfl rfl rfl ?_; conv => whnf) | (refine RetI.none Try.results60 ?_; conv => whnf) | (refine ⟨by first | decide | omega, ?_⟩; conv => whnf))
    refine cond_dec (fun h1 => ?_) (fun h1 => ?_)
    · conv => whnf
      repeat (first | (refine LoadV.s rfl rfl (forceV_of ?_); conv => whnf) | (refine LoadV.s rfl rfl ?_; conv => whnf) | (refine StoreV.c rfl rfl (Nat.le_of_ble_eq_true rfl) rfl ?_; conv => whnf) | (refine LoadV.a _ rfl (Nat.le_of_ble_eq_true rfl) ?_; conv => whnf) | (refine DrawI.quiet (by kernel_rfl) (by kernel_rfl) ?_; conv => whnf) | (refine ArI.in64 (by omega) ?_; conv => whnf) | (refine ArI.inU8 (by omega) ?_; conv => whnf) | (refine ArI.inU64 (by omega) ?_; conv => whnf) | (refine ArI.inU32 (by omega) ?_; conv => whnf) | (refine RetI.one Try.results60 rfl ?_; conv => whnf) | (refine RetI.two Try.results60 rfl rfl ?_; conv => whnf) | (refine RetI.three Try.results60 rfl rfl rfl ?_; conv => whnf) | (refine RetI.none Try.results60 ?_; conv => whnf) | (refine ⟨by first | decide | omega, ?_⟩; conv => whnf))
      refine cond_dec (fun h2 => ?_) (fun h2 => ?_)
      · conv => whnf
        repeat (first | (refine LoadV.s rfl rfl (forceV_of ?_); conv => whnf) | (refine LoadV.s rfl rfl ?_; conv => whnf) | (refine StoreV.c rfl rfl (Nat.le_of_ble_eq_true rfl) rfl ?_; conv => whnf) | (refine LoadV.a _ rfl (Nat.le_of_ble_eq_true rfl) ?_; conv => whnf) | (refine DrawI.quiet (by kernel_rfl) (by kernel_rfl) ?_; conv => whnf) | (refine ArI.in64 (by omega) ?_; conv => whnf) | (refine ArI.inU8 (by omega) ?_; conv => whnf) | (refine ArI.inU64 (by omega) ?_; conv => whnf) | (refine ArI.inU32 (by omega) ?_; conv => whnf) | (refine RetI.one Try.results60 rfl ?_; conv => whnf) | (refine RetI.two Try.results60 rfl rfl ?_; conv => whnf) | (refine RetI.three Try.results60 rfl rfl rfl ?_; conv => whnf) | (refine RetI.none Try.results60 ?_; conv => whnf) | (refine ⟨by first | decide | omega, ?_⟩; conv => whnf))
        exact ⟨_, Sub.sel [] rfl, ret_bool (by simp [keyB]; omega), rfl⟩
      · conv => whnf
        repeat (first | (refine LoadV.s rfl rfl (forceV_of ?_); conv => whnf) | (refine LoadV.s rfl rfl ?_; conv => whnf) | (refine StoreV.c rfl rfl (Nat.le_of_ble_eq_true rfl) rfl ?_; conv => whnf) | (refine LoadV.a _ rfl (Nat.le_of_ble_eq_true rfl) ?_; conv => whnf) | (refine DrawI.quiet (by kernel_rfl) (by kernel_rfl) ?_; conv => whnf) | (refine ArI.in64 (by omega) ?_; conv => whnf) | (refine ArI.inU8 (by omega) ?_; conv => whnf) | (refine ArI.inU64 (by omega) ?_; conv => whnf) | (refine ArI.inU32 (by omega) ?_; conv => whnf) | (refine RetI.one Try.results60 rfl ?_; conv => whnf) | (refine RetI.two Try.results60 rfl rfl ?_; conv => whnf) | (refine RetI.three Try.results60 rfl rfl rfl ?_; conv => whnf) | (refine RetI.none Try.results60 ?_; conv => whnf) | (refine ⟨by first | decide | omega, ?_⟩; conv => whnf))
        exact ⟨_, Sub.sel [] rfl, ret_bool (by simp [keyB]; omega), rfl⟩
    · conv => whnf
      repeat (first | (refine LoadV.s rfl rfl (forceV_of ?_); conv => whnf) | (refine LoadV.s rfl rfl ?_; conv => whnf) | (refine StoreV.c rfl rfl (Nat.le_of_ble_eq_true rfl) rfl ?_; conv => whnf) | (refine LoadV.a _ rfl (Nat.le_of_ble_eq_true rfl) ?_; conv => whnf) | (refine DrawI.quiet (by kernel_rfl) (by kernel_rfl) ?_; conv => whnf) | (refine ArI.in64 (by omega) ?_; conv => whnf) | (refine ArI.inU8 (by omega) ?_; conv => whnf) | (refine ArI.inU64 (by omega) ?_; conv => whnf) | (refine ArI.inU32 (by omega) ?_; conv => whnf) | (refine RetI.one Try.results60 rfl ?_; conv => whnf) | (refine RetI.two Try.results60 rfl rfl ?_; conv => whnf) | (refine RetI.three Try.results60 rfl rfl rfl ?_; conv => whnf) | (refine RetI.none Try.results60 ?_; conv => whnf) | (refine ⟨by first | decide | omega, ?_⟩; conv => whnf))
      exact ⟨_, Sub.sel [] rfl, ret_bool (by simp [keyB]; omega), rfl⟩
  · conv => whnf
    repeat (first | (refine LoadV.s rfl rfl (forceV_of ?_); conv => whnf) | (refine LoadV.s rfl rfl ?_; conv => whnf) | (refine StoreV.c rfl rfl (Nat.le_of_ble_eq_true rfl) rfl ?_; conv => whnf) | (refine LoadV.a _ rfl (Nat.le_of_ble_eq_true rfl) ?_; conv => whnf) | (refine DrawI.quiet (by kernel_rfl) (by kernel_rfl) ?_; conv => whnf) | (refine ArI.in64 (by omega) ?_; conv => whnf) | (refine ArI.inU8 (by omega) ?_; conv => whnf) | (refine ArI.inU64 (by omega) ?_; conv => whnf) | (refine ArI.inU32 (by omega) ?_; conv => whnf) | (refine RetI.one Try.results60 rfl ?_; conv => whnf) | (refine RetI.two Try.results60 rfl rfl ?_; conv => whnf) | (refine RetI.three Try.results60 rfl rfl rfl ?_; conv => whnf) | (refine RetI.none Try.results60 ?_; conv => whnf) | (refine ⟨by first | decide | omega, ?_⟩; conv => whnf))
    exact ⟨_, Sub.sel [] rfl, ret_bool (by simp [keyB]; omega), rfl⟩
theorem box_ok (F : Mem) (s : Bx) : FT Try.prog 29 [.agg (bxF s).toArray].toArray F [] (Ret (.bool (bxB s))) := by
  refine FT.of_body Try.func29 rfl Try.ntmps29 (by simp) fun C hC => ?_
  subst hC
  conv => whnf
  intro b
  conv => whnf
  refine LoadV.a 2 rfl (Nat.le_of_ble_eq_true rfl) ?_
  conv => whnf
  refine CallS.mk Try.call30 ⟨[], _, _, Sub.refl _, fun F' hF' => kgood_ok F' s.1 s.2.1, ?_⟩
  rintro e A' ⟨rfl, rfl⟩
  cases hb : keyB s.1 s.2.1 with
  | false =>
    conv => whnf
    repeat (first | (refine LoadV.s rfl rfl (forceV_of ?_); conv => whnf) | (refine LoadV.s rfl rfl ?_; conv => whnf) | (refine StoreV.c rfl rfl (Nat.le_of_ble_eq_true rfl) rfl ?_; conv => whnf) | (refine LoadV.a _ rfl (Nat.le_of_ble_eq_true rfl) ?_; conv => whnf) | (refine DrawI.quiet (by kernel_rfl) (by kernel_rfl) ?_; conv => whnf) | (refine ArI.in64 (by omega) ?_; conv => whnf) | (refine ArI.inU8 (by omega) ?_; conv => whnf) | (refine ArI.inU64 (by omega) ?_; conv => whnf) | (refine ArI.inU32 (by omega) ?_; conv => whnf) | (refine RetI.one Try.results29 rfl ?_; conv => whnf) | (refine RetI.two Try.results29 rfl rfl ?_; conv => whnf) | (refine RetI.three Try.results29 rfl rfl rfl ?_; conv => whnf) | (refine RetI.none Try.results29 ?_; conv => whnf) | (refine ⟨by first | decide | omega, ?_⟩; conv => whnf))
    exact ⟨_, Sub.sel [] rfl, ret_bool (by simp [bxB, hb]), rfl⟩
  | true =>
    conv => whnf
    refine LoadV.a 2 rfl (Nat.le_of_ble_eq_true rfl) ?_
    conv => whnf
    refine CallS.mk Try.call30 ⟨[], _, _, Sub.refl _, fun F' hF' => kgood_ok F' s.2.2.1 s.2.2.2, ?_⟩
    rintro e A' ⟨rfl, rfl⟩
    conv => whnf
    repeat (first | (refine LoadV.s rfl rfl (forceV_of ?_); conv => whnf) | (refine LoadV.s rfl rfl ?_; conv => whnf) | (refine StoreV.c rfl rfl (Nat.le_of_ble_eq_true rfl) rfl ?_; conv => whnf) | (refine LoadV.a _ rfl (Nat.le_of_ble_eq_true rfl) ?_; conv => whnf) | (refine DrawI.quiet (by kernel_rfl) (by kernel_rfl) ?_; conv => whnf) | (refine ArI.in64 (by omega) ?_; conv => whnf) | (refine ArI.inU8 (by omega) ?_; conv => whnf) | (refine ArI.inU64 (by omega) ?_; conv => whnf) | (refine ArI.inU32 (by omega) ?_; conv => whnf) | (refine RetI.one Try.results29 rfl ?_; conv => whnf) | (refine RetI.two Try.results29 rfl rfl ?_; conv => whnf) | (refine RetI.three Try.results29 rfl rfl rfl ?_; conv => whnf) | (refine RetI.none Try.results29 ?_; conv => whnf) | (refine ⟨by first | decide | omega, ?_⟩; conv => whnf))
    exact ⟨_, Sub.sel [] rfl, ret_bool (by simp [bxB, hb]), rfl⟩
theorem r2box_ok (F : Mem) (s : Bx) : FT Try.prog 57 [.agg (bxF s).toArray].toArray F [] (Ret (.bool (bxB s))) := by
  refine FT.of_body Try.func57 rfl Try.ntmps57 (by simp) fun C hC => ?_
  subst hC
  conv => whnf
  intro b
  conv => whnf
  refine LoadV.a 2 rfl (Nat.le_of_ble_eq_true rfl) ?_
  conv => whnf
  refine CallS.mk Try.call60 ⟨[], _, _, Sub.refl _, fun F' hF' => r2good_ok F' s.1 s.2.1, ?_⟩
  rintro e A' ⟨rfl, rfl⟩
  cases hb : keyB s.1 s.2.1 with
  | false =>
    conv => whnf
    repeat (first | (refine LoadV.s rfl rfl (forceV_of ?_); conv => whnf) | (refine LoadV.s rfl rfl ?_; conv => whnf) | (refine StoreV.c rfl rfl (Nat.le_of_ble_eq_true rfl) rfl ?_; conv => whnf) | (refine LoadV.a _ rfl (Nat.le_of_ble_eq_true rfl) ?_; conv => whnf) | (refine DrawI.quiet (by kernel_rfl) (by kernel_rfl) ?_; conv => whnf) | (refine ArI.in64 (by omega) ?_; conv => whnf) | (refine ArI.inU8 (by omega) ?_; conv => whnf) | (refine ArI.inU64 (by omega) ?_; conv => whnf) | (refine ArI.inU32 (by omega) ?_; conv => whnf) | (refine RetI.one Try.results57 rfl ?_; conv => whnf) | (refine RetI.two Try.results57 rfl rfl ?_; conv => whnf) | (refine RetI.three Try.results57 rfl rfl rfl ?_; conv => whnf) | (refine RetI.none Try.results57 ?_; conv => whnf) | (refine ⟨by first | decide | omega, ?_⟩; conv => whnf))
    exact ⟨_, Sub.sel [] rfl, ret_bool (by simp [bxB, hb]), rfl⟩
  | true =>
    conv => whnf
    refine LoadV.a 2 rfl (Nat.le_of_ble_eq_true rfl) ?_
    conv => whnf
    refine CallS.mk Try.call60 ⟨[], _, _, Sub.refl _, fun F' hF' => r2good_ok F' s.2.2.1 s.2.2.2, ?_⟩
    rintro e A' ⟨rfl, rfl⟩
    conv => whnf
    repeat (first | (refine LoadV.s rfl rfl (forceV_of ?_); conv => whnf) | (refine LoadV.s rfl rfl ?_; conv => whnf) | (refine StoreV.c rfl rfl (Nat.le_of_ble_eq_true rfl) rfl ?_; conv => whnf) | (refine LoadV.a _ rfl (Nat.le_of_ble_eq_true rfl) ?_; conv => whnf) | (refine DrawI.quiet (by kernel_rfl) (by kernel_rfl) ?_; conv => whnf) | (refine ArI.in64 (by omega) ?_; conv => whnf) | (refine ArI.inU8 (by omega) ?_; conv => whnf) | (refine ArI.inU64 (by omega) ?_; conv => whnf) | (refine ArI.inU32 (by omega) ?_; conv => whnf) | (refine RetI.one Try.results57 rfl ?_; conv => whnf) | (refine RetI.two Try.results57 rfl rfl ?_; conv => whnf) | (refine RetI.three Try.results57 rfl rfl rfl ?_; conv => whnf) | (refine RetI.none Try.results57 ?_; conv => whnf) | (refine ⟨by first | decide | omega, ?_⟩; conv => whnf))
    exact ⟨_, Sub.sel [] rfl, ret_bool (by simp [bxB, hb]), rfl⟩
theorem item_ok (F : Mem) (s : Item) : FT Try.prog 27 [.agg (itemF s).toArray].toArray F [] (Ret (.bool (itemB s))) := by
  refine FT.of_body Try.func27 rfl Try.ntmps27 (by simp) fun C hC => ?_
  subst hC
  conv => whnf
  intro b
  conv => whnf
  repeat (first | (refine LoadV.s rfl rfl (forceV_of ?_); conv => whnf) | (refine LoadV.s rfl rfl ?_; conv => whnf) | (refine StoreV.c rfl rfl (Nat.le_of_ble_eq_true rfl) rfl ?_; conv => whnf) | (refine LoadV.a _ rfl (Nat.le_of_ble_eq_true rfl) ?_; conv => whnf) | (refine DrawI.quiet (by kernel_rfl) (by kernel_rfl) ?_; conv => whnf) | (refine ArI.in64 (by omega) ?_; conv => whnf) | (refine ArI.inU8 (by omega) ?_; conv => whnf) | (refine ArI.inU64 (by omega) ?_; conv => whnf) | (refine ArI.inU32 (by omega) ?_; conv => whnf) | (refine RetI.one Try.results27 rfl ?_; conv => whnf) | (refine RetI.two Try.results27 rfl rfl ?_; conv => whnf) | (refine RetI.three Try.results27 rfl rfl rfl ?_; conv => whnf) | (refine RetI.none Try.results27 ?_; conv => whnf) | (refine ⟨by first | decide | omega, ?_⟩; conv => whnf))
  refine CallS.mk Try.call22 ⟨[], _, _, Sub.refl _, fun F' hF' => between_ok F' s.1 0 20, ?_⟩
  rintro e A' ⟨rfl, rfl⟩
  cases hb : btw s.1 0 20 with
  | false =>
    conv => whnf
    repeat (first | (refine LoadV.s rfl rfl (forceV_of ?_); conv => whnf) | (refine LoadV.s rfl rfl ?_; conv => whnf) | (refine StoreV.c rfl rfl (Nat.le_of_ble_eq_true rfl) rfl ?_; conv => whnf) | (refine LoadV.a _ rfl (Nat.le_of_ble_eq_true rfl) ?_; conv => whnf) | (refine DrawI.quiet (by kernel_rfl) (by kernel_rfl) ?_; conv => whnf) | (refine ArI.in64 (by omega) ?_; conv => whnf) | (refine ArI.inU8 (by omega) ?_; conv => whnf) | (refine ArI.inU64 (by omega) ?_; conv => whnf) | (refine ArI.inU32 (by omega) ?_; conv => whnf) | (refine RetI.one Try.results27 rfl ?_; conv => whnf) | (refine RetI.two Try.results27 rfl rfl ?_; conv => whnf) | (refine RetI.three Try.results27 rfl rfl rfl ?_; conv => whnf) | (refine RetI.none Try.results27 ?_; conv => whnf) | (refine ⟨by first | decide | omega, ?_⟩; conv => whnf))
    exact ⟨_, Sub.sel [] rfl, ret_bool (by simp [itemB, hb]), rfl⟩
  | true =>
    conv => whnf
    refine LoadV.s rfl rfl ?_
    conv => whnf
    refine LoadV.s rfl rfl ?_
    conv => whnf
    cases hc : (s.2.1 != s.1) with
    | false =>
      conv => whnf
      repeat (first | (refine LoadV.s rfl rfl (forceV_of ?_); conv => whnf) | (refine LoadV.s rfl rfl ?_; conv => whnf) | (refine StoreV.c rfl rfl (Nat.le_of_ble_eq_true rfl) rfl ?_; conv => whnf) | (refine LoadV.a _ rfl (Nat.le_of_ble_eq_true rfl) ?_; conv => whnf) | (refine DrawI.quiet (by kernel_rfl) (by kernel_rfl) ?_; conv => whnf) | (refine ArI.in64 (by omega) ?_; conv => whnf) | (refine ArI.inU8 (by omega) ?_; conv => whnf) | (refine ArI.inU64 (by omega) ?_; conv => whnf) | (refine ArI.inU32 (by omega) ?_; conv => whnf) | (refine RetI.one Try.results27 rfl ?_; conv => whnf) | (refine RetI.two Try.results27 rfl rfl ?_; conv => whnf) | (refine RetI.three Try.results27 rfl rfl rfl ?_; conv => whnf) | (refine RetI.none Try.results27 ?_; conv => whnf) | (refine ⟨by first | decide | omega, ?_⟩; conv => whnf))
      exact ⟨_, Sub.sel [] rfl, ret_bool (by simp [itemB, hb, hc]), rfl⟩
    | true =>
      conv => whnf
      refine LoadV.s rfl rfl ?_
      conv => whnf
      refine LoadV.s rfl rfl ?_
      conv => whnf
      refine CallS.mk Try.call51 ⟨[], _, _, Sub.refl _, fun F' hF' => below_ok F' s.1 s.2.1, ?_⟩
      rintro e A' ⟨rfl, rfl⟩
      cases hd : isBelow s.1 s.2.1 with
      | false =>
        conv => whnf
        repeat (first | (refine LoadV.s rfl rfl (forceV_of ?_); conv => whnf) | (refine LoadV.s rfl rfl ?_; conv => whnf) | (refine StoreV.c rfl rfl (Nat.le_of_ble_eq_true rfl) rfl ?_; conv => whnf) | (refine LoadV.a _ rfl (Nat.le_of_ble_eq_true rfl) ?_; conv => whnf) | (refine DrawI.quiet (by kernel_rfl) (by kernel_rfl) ?_; conv => whnf) | (refine ArI.in64 (by omega) ?_; conv => whnf) | (refine ArI.inU8 (by omega) ?_; conv => whnf) | (refine ArI.inU64 (by omega) ?_; conv => whnf) | (refine ArI.inU32 (by omega) ?_; conv => whnf) | (refine RetI.one Try.results27 rfl ?_; conv => whnf) | (refine RetI.two Try.results27 rfl rfl ?_; conv => whnf) | (refine RetI.three Try.results27 rfl rfl rfl ?_; conv => whnf) | (refine RetI.none Try.results27 ?_; conv => whnf) | (refine ⟨by first | decide | omega, ?_⟩; conv => whnf))
        exact ⟨_, Sub.sel [] rfl, ret_bool (by simp [itemB, hb, hc, hd]), rfl⟩
      | true =>
        conv => whnf
        refine LoadV.a 4 rfl (Nat.le_of_ble_eq_true rfl) ?_
        conv => whnf
        refine CallS.mk Try.call29 ⟨[], _, _, Sub.refl _, fun F' hF' => box_ok F' s.2.2, ?_⟩
        rintro e A' ⟨rfl, rfl⟩
        conv => whnf
        repeat (first | (refine LoadV.s rfl rfl (forceV_of ?_); conv => whnf) | (refine LoadV.s rfl rfl ?_; conv => whnf) | (refine StoreV.c rfl rfl (Nat.le_of_ble_eq_true rfl) rfl ?_; conv => whnf) | (refine LoadV.a _ rfl (Nat.le_of_ble_eq_true rfl) ?_; conv => whnf) | (refine DrawI.quiet (by kernel_rfl) (by kernel_rfl) ?_; conv => whnf) | (refine ArI.in64 (by omega) ?_; conv => whnf) | (refine ArI.inU8 (by omega) ?_; conv => whnf) | (refine ArI.inU64 (by omega) ?_; conv => whnf) | (refine ArI.inU32 (by omega) ?_; conv => whnf) | (refine RetI.one Try.results27 rfl ?_; conv => whnf) | (refine RetI.two Try.results27 rfl rfl ?_; conv => whnf) | (refine RetI.three Try.results27 rfl rfl rfl ?_; conv => whnf) | (refine RetI.none Try.results27 ?_; conv => whnf) | (refine ⟨by first | decide | omega, ?_⟩; conv => whnf))
        exact ⟨_, Sub.sel [] rfl, ret_bool (by simp [itemB, hb, hc, hd]), rfl⟩
theorem all_take {α : Type} {p : α → Bool} {l : List α} {i : Nat} (h : ∀ x ∈ l.take i, p x = true) (hi : i < l.length) (hp : p l[i] = true) : ∀ x ∈ l.take (i + 1), p x = true := by
  intro x hx
  rw [← List.take_append_getElem hi] at hx
  rcases List.mem_append.1 hx with hx | hx
  · exact h x hx
  · simp at hx; subst hx; exact hp
theorem allS_ok (F : Mem) (oa : Option Addr) (ca : Nat) (xs : List Seat) (n : Int) (ha : SlF F 2 oa xs.length (xs.flatMap seatF)) (hn : xs.length ≤ 9223372036854775807) :
    FT Try.prog 24 [.slice oa xs.length ca, .int .i64 n, .func (.func 25) #[] #[]].toArray F [] (Ret (.bool (xs.all seatB && decide ((xs.length : Int) ≤ n)))) := by
  refine FT.of_body Try.func24 rfl Try.ntmps24 (by simp) fun C hC => ?_
  subst hC
  conv => whnf
  conv => whnf
  refine LoopI.by_state (σ := Nat) (fun i => [(0, .slice oa xs.length ca), (1, .int .i64 n), (2, .func (.func 25) #[] #[]), (9, .slice oa xs.length ca), (10, .int .i64 (xs.length : Int)), (11, .int .i64 (i : Int))]) (fun _ => []) (fun i => i ≤ xs.length ∧ ∀ x ∈ xs.take i, seatB x = true) (fun i => xs.length - i) 0 ⟨Nat.zero_le _, by simp⟩ ⟨rfl, rfl, rfl, rfl, rfl, rfl, trivial⟩ (Sub.refl _) ?_
  rintro i f0 ⟨hi, hall⟩
  conv => whnf
  refine cond_dec (fun h => ?_) (fun h => ?_)
  · have hil : i < xs.length := by omega
    obtain ⟨xb, yb, rfl, hrb⟩ := ha.at (i := i) hil
    conv => whnf
    refine ⟨by omega, ?_⟩
    conv => whnf
    refine LoadV.fa (cs := seatF (xs[i])) (flat_row seatF_length hrb hil rfl) rfl ?_
    obtain ⟨x, hx⟩ : ∃ x, x = xs[i] := ⟨_, rfl⟩
    rw [← hx]
    conv => whnf
    intro b
    conv => whnf
    refine StoreV.c rfl rfl (Nat.le_of_ble_eq_true rfl) rfl ?_
    conv => whnf
    refine LoadV.a 2 rfl (Nat.le_of_ble_eq_true rfl) ?_
    conv => whnf
    refine CallS.mk Try.call25 ⟨[], _, _, Sub.refl _, fun F' hF' => seat_ok F' x, ?_⟩
    rintro e A' ⟨rfl, rfl⟩
    cases hb : seatB x with
    | false =>
      conv => whnf
      repeat (first | (refine LoadV.s rfl rfl (forceV_of ?_); conv => whnf) | (refine LoadV.s rfl rfl ?_; conv => whnf) | (refine StoreV.c rfl rfl (Nat.le_of_ble_eq_true rfl) rfl ?_; conv => whnf) | (refine LoadV.a _ rfl (Nat.le_of_ble_eq_true rfl) ?_; conv => whnf) | (refine DrawI.quiet (by kernel_rfl) (by kernel_rfl) ?_; conv => whnf) | (refine ArI.in64 (by omega) ?_; conv => whnf) | (refine ArI.inU8 (by omega) ?_; conv => whnf) | (refine ArI.inU64 (by omega) ?_; conv => whnf) | (refine ArI.inU32 (by omega) ?_; conv => whnf) | (refine RetI.one Try.results24 rfl ?_; conv => whnf) | (refine RetI.two Try.results24 rfl rfl ?_; conv => whnf) | (refine RetI.three Try.results24 rfl rfl rfl ?_; conv => whnf) | (refine RetI.none Try.results24 ?_; conv => whnf) | (refine ⟨by first | decide | omega, ?_⟩; conv => whnf))
      refine ⟨_, Sub.sel [] rfl, ret_bool ?_, rfl⟩
      rw [show xs.all seatB = false from by rw [List.all_eq_false]; exact ⟨x, hx ▸ List.getElem_mem hil, by simp [hb]⟩]
      rfl
    | true =>
      conv => whnf
      refine ArI.to64 ((i + 1 : Nat) : Int) (by omega) (by omega) ?_
      conv => whnf
      exact ⟨i + 1, [], by omega, Sub.sel [] rfl, ⟨by omega, all_take hall hil (hx ▸ hb)⟩, ⟨rfl, rfl, rfl, rfl, rfl, rfl, trivial⟩, rfl⟩
  · conv => whnf
    repeat (first | (refine LoadV.s rfl rfl (forceV_of ?_); conv => whnf) | (refine LoadV.s rfl rfl ?_; conv => whnf) | (refine StoreV.c rfl rfl (Nat.le_of_ble_eq_true rfl) rfl ?_; conv => whnf) | (refine LoadV.a _ rfl (Nat.le_of_ble_eq_true rfl) ?_; conv => whnf) | (refine DrawI.quiet (by kernel_rfl) (by kernel_rfl) ?_; conv => whnf) | (refine ArI.in64 (by omega) ?_; conv => whnf) | (refine ArI.inU8 (by omega) ?_; conv => whnf) | (refine ArI.inU64 (by omega) ?_; conv => whnf) | (refine ArI.inU32 (by omega) ?_; conv => whnf) | (refine RetI.one Try.results24 rfl ?_; conv => whnf) | (refine RetI.two Try.results24 rfl rfl ?_; conv => whnf) | (refine RetI.three Try.results24 rfl rfl rfl ?_; conv => whnf) | (refine RetI.none Try.results24 ?_; conv => whnf) | (refine ⟨by first | decide | omega, ?_⟩; conv => whnf))
    refine ⟨_, Sub.sel [] rfl, ret_bool ?_, rfl⟩
    have hie : i = xs.length := by omega
    rw [hie, List.take_length] at hall
    rw [show xs.all seatB = true from List.all_eq_true.2 hall]
    rfl
theorem allI_ok (F : Mem) (oa : Option Addr) (ca : Nat) (xs : List Item) (n : Int) (ha : SlF F 6 oa xs.length (xs.flatMap itemF)) (hn : xs.length ≤ 9223372036854775807) :
    FT Try.prog 26 [.slice oa xs.length ca, .int .i64 n, .func (.func 27) #[] #[]].toArray F [] (Ret (.bool (xs.all itemB && decide ((xs.length : Int) ≤ n)))) := by
  refine FT.of_body Try.func26 rfl Try.ntmps26 (by simp) fun C hC => ?_
  subst hC
  conv => whnf
  conv => whnf
  refine LoopI.by_state (σ := Nat) (fun i => [(0, .slice oa xs.length ca), (1, .int .i64 n), (2, .func (.func 27) #[] #[]), (9, .slice oa xs.length ca), (10, .int .i64 (xs.length : Int)), (11, .int .i64 (i : Int))]) (fun _ => []) (fun i => i ≤ xs.length ∧ ∀ x ∈ xs.take i, itemB x = true) (fun i => xs.length - i) 0 ⟨Nat.zero_le _, by simp⟩ ⟨rfl, rfl, rfl, rfl, rfl, rfl, trivial⟩ (Sub.refl _) ?_
  rintro i f0 ⟨hi, hall⟩
  conv => whnf
  refine cond_dec (fun h => ?_) (fun h => ?_)
  · have hil : i < xs.length := by omega
    obtain ⟨xb, yb, rfl, hrb⟩ := ha.at (i := i) hil
    conv => whnf
    refine ⟨by omega, ?_⟩
    conv => whnf
    refine LoadV.fa (cs := itemF (xs[i])) (flat_row itemF_length hrb hil rfl) rfl ?_
    obtain ⟨x, hx⟩ : ∃ x, x = xs[i] := ⟨_, rfl⟩
    rw [← hx]
    conv => whnf
    intro b
    conv => whnf
    refine StoreV.c rfl rfl (Nat.le_of_ble_eq_true rfl) rfl ?_
    conv => whnf
    refine LoadV.a 6 rfl (Nat.le_of_ble_eq_true rfl) ?_
    conv => whnf
    refine CallS.mk Try.call27 ⟨[], _, _, Sub.refl _, fun F' hF' => item_ok F' x, ?_⟩
    rintro e A' ⟨rfl, rfl⟩
    cases hb : itemB x with
    | false =>
      conv => whnf
      repeat (first | (refine LoadV.s rfl rfl (forceV_of ?_); conv => whnf) | (refine LoadV.s rfl rfl ?_; conv => whnf) | (refine StoreV.c rfl rfl (Nat.le_of_ble_eq_true rfl) rfl ?_; conv => whnf) | (refine LoadV.a _ rfl (Nat.le_of_ble_eq_true rfl) ?_; conv => whnf) | (refine DrawI.quiet (by kernel_rfl) (by kernel_rfl) ?_; conv => whnf) | (refine ArI.in64 (by omega) ?_; conv => whnf) | (refine ArI.inU8 (by omega) ?_; conv => whnf) | (refine ArI.inU64 (by omega) ?_; conv => whnf) | (refine ArI.inU32 (by omega) ?_; conv => whnf) | (refine RetI.one Try.results26 rfl ?_; conv => whnf) | (refine RetI.two Try.results26 rfl rfl ?_; conv => whnf) | (refine RetI.three Try.results26 rfl rfl rfl ?_; conv => whnf) | (refine RetI.none Try.results26 ?_; conv => whnf) | (refine ⟨by first | decide | omega, ?_⟩; conv => whnf))
      refine ⟨_, Sub.sel [] rfl, ret_bool ?_, rfl⟩
      rw [show xs.all itemB = false from by rw [List.all_eq_false]; exact ⟨x, hx ▸ List.getElem_mem hil, by simp [hb]⟩]
      rfl
    | true =>
      conv => whnf
      refine ArI.to64 ((i + 1 : Nat) : Int) (by omega) (by omega) ?_
      conv => whnf
      exact ⟨i + 1, [], by omega, Sub.sel [] rfl, ⟨by omega, all_take hall hil (hx ▸ hb)⟩, ⟨rfl, rfl, rfl, rfl, rfl, rfl, trivial⟩, rfl⟩
  · conv => whnf
    repeat (first | (refine LoadV.s rfl rfl (forceV_of ?_); conv => whnf) | (refine LoadV.s rfl rfl ?_; conv => whnf) | (refine StoreV.c rfl rfl (Nat.le_of_ble_eq_true rfl) rfl ?_; conv => whnf) | (refine LoadV.a _ rfl (Nat.le_of_ble_eq_true rfl) ?_; conv => whnf) | (refine DrawI.quiet (by kernel_rfl) (by kernel_rfl) ?_; conv => whnf) | (refine ArI.in64 (by omega) ?_; conv => whnf) | (refine ArI.inU8 (by omega) ?_; conv => whnf) | (refine ArI.inU64 (by omega) ?_; conv => whnf) | (refine ArI.inU32 (by omega) ?_; conv => whnf) | (refine RetI.one Try.results26 rfl ?_; conv => whnf) | (refine RetI.two Try.results26 rfl rfl ?_; conv => whnf) | (refine RetI.three Try.results26 rfl rfl rfl ?_; conv => whnf) | (refine RetI.none Try.results26 ?_; conv => whnf) | (refine ⟨by first | decide | omega, ?_⟩; conv => whnf))
    refine ⟨_, Sub.sel [] rfl, ret_bool ?_, rfl⟩
    have hie : i = xs.length := by omega
    rw [hie, List.take_length] at hall
    rw [show xs.all itemB = true from List.all_eq_true.2 hall]
    rfl
theorem allB_ok (F : Mem) (oa : Option Addr) (ca : Nat) (xs : List Bx) (n : Int) (ha : SlF F 4 oa xs.length (xs.flatMap bxF)) (hn : xs.length ≤ 9223372036854775807) :
    FT Try.prog 28 [.slice oa xs.length ca, .int .i64 n, .func (.func 29) #[] #[]].toArray F [] (Ret (.bool (xs.all bxB && decide ((xs.length : Int) ≤ n)))) := by
  refine FT.of_body Try.func28 rfl Try.ntmps28 (by simp) fun C hC => ?_
  subst hC
  conv => whnf
  conv => whnf
  refine LoopI.by_state (σ := Nat) (fun i => [(0, .slice oa xs.length ca), (1, .int .i64 n), (2, .func (.func 29) #[] #[]), (9, .slice oa xs.length ca), (10, .int .i64 (xs.length : Int)), (11, .int .i64 (i : Int))]) (fun _ => []) (fun i => i ≤ xs.length ∧ ∀ x ∈ xs.take i, bxB x = true) (fun i => xs.length - i) 0 ⟨Nat.zero_le _, by simp⟩ ⟨rfl, rfl, rfl, rfl, rfl, rfl, trivial⟩ (Sub.refl _) ?_
  rintro i f0 ⟨hi, hall⟩
  conv => whnf
  refine cond_dec (fun h => ?_) (fun h => ?_)
  · have hil : i < xs.length := by omega
    obtain ⟨xb, yb, rfl, hrb⟩ := ha.at (i := i) hil
    conv => whnf
    refine ⟨by omega, ?_⟩
    conv => whnf
    refine LoadV.fa (cs := bxF (xs[i])) (flat_row bxF_length hrb hil rfl) rfl ?_
    obtain ⟨x, hx⟩ : ∃ x, x = xs[i] := ⟨_, rfl⟩
    rw [← hx]
    conv => whnf
    intro b
    conv => whnf
    refine StoreV.c rfl rfl (Nat.le_of_ble_eq_true rfl) rfl ?_
    conv => whnf
    refine LoadV.a 4 rfl (Nat.le_of_ble_eq_true rfl) ?_
    conv => whnf
    refine CallS.mk Try.call29 ⟨[], _, _, Sub.refl _, fun F' hF' => box_ok F' x, ?_⟩
    rintro e A' ⟨rfl, rfl⟩
    cases hb : bxB x with
    | false =>
      conv => whnf
      repeat (first | (refine LoadV.s rfl rfl (forceV_of ?_); conv => whnf) | (refine LoadV.s rfl rfl ?_; conv => whnf) | (refine StoreV.c rfl rfl (Nat.le_of_ble_eq_true rfl) rfl ?_; conv => whnf) | (refine LoadV.a _ rfl (Nat.le_of_ble_eq_true rfl) ?_; conv => whnf) | (refine DrawI.quiet (by kernel_rfl) (by kernel_rfl) ?_; conv => whnf) | (refine ArI.in64 (by omega) ?_; conv => whnf) | (refine ArI.inU8 (by omega) ?_; conv => whnf) | (refine ArI.inU64 (by omega) ?_; conv => whnf) | (refine ArI.inU32 (by omega) ?_; conv => whnf) | (refine RetI.one Try.results28 rfl ?_; conv => whnf) | (refine RetI.two Try.results28 rfl rfl ?_; conv => whnf) | (refine RetI.three Try.results28 rfl rfl rfl ?_; conv => whnf) | (refine RetI.none Try.results28 ?_; conv => whnf) | (refine ⟨by first | decide | omega, ?_⟩; conv => whnf))
      refine ⟨_, Sub.sel [] rfl, ret_bool ?_, rfl⟩
      rw [show xs.all bxB = false from by rw [List.all_eq_false]; exact ⟨x, hx ▸ List.getElem_mem hil, by simp [hb]⟩]
      rfl
    | true =>
      conv => whnf
      refine ArI.to64 ((i + 1 : Nat) : Int) (by omega) (by omega) ?_
      conv => whnf
      exact ⟨i + 1, [], by omega, Sub.sel [] rfl, ⟨by omega, all_take hall hil (hx ▸ hb)⟩, ⟨rfl, rfl, rfl, rfl, rfl, rfl, trivial⟩, rfl⟩
  · conv => whnf
    repeat (first | (refine LoadV.s rfl rfl (forceV_of ?_); conv => whnf) | (refine LoadV.s rfl rfl ?_; conv => whnf) | (refine StoreV.c rfl rfl (Nat.le_of_ble_eq_true rfl) rfl ?_; conv => whnf) | (refine LoadV.a _ rfl (Nat.le_of_ble_eq_true rfl) ?_; conv => whnf) | (refine DrawI.quiet (by kernel_rfl) (by kernel_rfl) ?_; conv => whnf) | (refine ArI.in64 (by omega) ?_; conv => whnf) | (refine ArI.inU8 (by omega) ?_; conv => whnf) | (refine ArI.inU64 (by omega) ?_; conv => whnf) | (refine ArI.inU32 (by omega) ?_; conv => whnf) | (refine RetI.one Try.results28 rfl ?_; conv => whnf) | (refine RetI.two Try.results28 rfl rfl ?_; conv => whnf) | (refine RetI.three Try.results28 rfl rfl rfl ?_; conv => whnf) | (refine RetI.none Try.results28 ?_; conv => whnf) | (refine ⟨by first | decide | omega, ?_⟩; conv => whnf))
    refine ⟨_, Sub.sel [] rfl, ret_bool ?_, rfl⟩
    have hie : i = xs.length := by omega
    rw [hie, List.take_length] at hall
    rw [show xs.all bxB = true from List.all_eq_true.2 hall]
    rfl
end Go.Proofs.Ytlbdnkkaacccoaa
