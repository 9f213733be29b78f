/- Are two messages the same? The reference's Same. -/
import Derived.Test.YtlbdnkkaacccoaaWire2
namespace Go.Proofs.Ytlbdnkkaacccoaa
set_option linter.unusedVariables false
set_option linter.unusedSimpArgs false
set_option maxRecDepth 100000
open SL Go.RowKit Go.Maps
theorem eq_seat (x y : Seat) : cellsEq (seatF x) (seatF y) = decide (x = y) := by
  obtain ⟨a, b⟩ := x
  obtain ⟨c, d⟩ := y
  simp only [seatF, cellsEq, vEq, Prod.mk.injEq, Bool.and_true]
  rw [Bool.eq_iff_iff]; simp
theorem eq_item (x y : Item) : cellsEq (itemF x) (itemF y) = decide (x = y) := by
  obtain ⟨a, b, c, d, e, f⟩ := x
  obtain ⟨a', b', c', d', e', f'⟩ := y
  simp only [itemF, cellsEq, vEq, Prod.mk.injEq, Bool.and_true]
  rw [Bool.eq_iff_iff]; simp
theorem sameS_ok (F : Mem) (oa ob : Option Addr) (ca cb : Nat) (a b : List Seat) (ha : SlF F 2 oa a.length (a.flatMap seatF)) (hb : SlF F 2 ob b.length (b.flatMap seatF)) (hn : a.length ≤ 140737488355328) :
    FT Try.prog 52 [.slice oa a.length ca, .slice ob b.length cb].toArray F [] (Ret (.bool (decide (a = b)))) := by
  refine FT.of_body Try.func52 rfl Try.ntmps52 (by simp) fun C hC => ?_
  subst hC
  conv => whnf
  refine cond_split ?_ ?_
  · intro hne
    conv => whnf
    repeat (first | (refine LoadV.s rfl rfl (forceV_of ?_); conv => whnf) | (refine LoadV.s rfl rfl ?_; conv => whnf) | (refine StoreV.c rfl rfl (Nat.le_of_ble_eq_true rfl) rfl ?_; conv => whnf) | (refine LoadV.a _ rfl (Nat.le_of_ble_eq_true rfl) ?_; conv => whnf) | (refine DrawI.quiet (by kernel_rfl) (by kernel_rfl) ?_; conv => whnf) | (refine ArI.in64 (by omega) ?_; conv => whnf) | (refine ArI.inU8 (by omega) ?_; conv => whnf) | (refine ArI.inU64 (by omega) ?_; conv => whnf) | (refine ArI.inU32 (by omega) ?_; conv => whnf) | (refine RetI.one Try.results52 rfl ?_; conv => whnf) | (refine RetI.two Try.results52 rfl rfl ?_; conv => whnf) | (refine RetI.three Try.results52 rfl rfl rfl ?_; conv => whnf) | (refine RetI.none Try.results52 ?_; conv => whnf) | (refine ⟨by first | decide | omega, ?_⟩; conv => whnf))
    refine ⟨_, Sub.refl _, ret_bool ?_, rfl⟩
    have hne : ((a.length : Nat) : Int) ≠ ((b.length : Nat) : Int) := by simpa using hne
    rw [decide_eq_false]
    intro e; subst e; exact hne rfl
  · intro he
    have he : a.length = b.length := by have : ((a.length : Nat) : Int) = ((b.length : Nat) : Int) := by simpa using he
                                        omega
    conv => whnf
    refine LoopI.by_state (σ := Nat) (fun i => [(0, .slice oa a.length ca), (1, .slice ob b.length cb), (12, .int .i64 (a.length : Int)), (13, .int .i64 (i : Int))]) (fun _ => []) (fun i => i ≤ a.length ∧ a.take i = b.take i) (fun i => a.length - i) 0 (by simp) ⟨rfl, rfl, rfl, rfl, trivial⟩ (Sub.refl _) ?_
    rintro i f0 ⟨hi, ht⟩
    conv => whnf
    refine cond_dec (fun h => ?_) (fun h => ?_)
    · have hia : i < a.length := by omega
      have hib : i < b.length := by omega
      obtain ⟨xa, ya, rfl, hra⟩ := ha.at (i := i) hia
      obtain ⟨xb, yb, rfl, hrb⟩ := hb.at (i := i) hib
      conv => whnf
      refine DrawI.quiet (by kernel_rfl) (by kernel_rfl) ?_
      conv => whnf
      refine ⟨by omega, ?_⟩
      conv => whnf
      refine LoadV.fa (cs := seatF (a[i])) (flat_row seatF_length hra hia rfl) rfl ?_
      conv => whnf
      refine ⟨by omega, ?_⟩
      conv => whnf
      refine LoadV.fa (cs := seatF (b[i])) (flat_row seatF_length hrb hib rfl) rfl ?_
      have hpa : ∃ x, x = a[i] := ⟨_, rfl⟩
      have hpb : ∃ x, x = b[i] := ⟨_, rfl⟩
      obtain ⟨x, hx⟩ := hpa
      obtain ⟨y, hy⟩ := hpb
      rw [← hx, ← hy]
      conv => whnf
      refine neqAs (d := 10) (ks := [.i .i64, .i .i64]) (xs := seatF x) (ys := seatF y) (decide (x = y)) (eq_seat x y) (by kernel_rfl) rfl (by kernel_rfl) rfl rfl rfl ?_
      by_cases hq : x = y
      · rw [decide_eq_true hq]
        conv => whnf
        refine ArI.to64 ((i + 1 : Nat) : Int) (by omega) (by omega) ?_
        conv => whnf
        exact ⟨i + 1, [], by omega, Sub.refl _, ⟨by omega, take_eq_step ht (by omega) (by omega) (by rw [← hx, ← hy, hq])⟩, ⟨rfl, rfl, rfl, rfl, trivial⟩, rfl⟩
      · rw [decide_eq_false hq]
        conv => whnf
        repeat (first | (refine LoadV.s rfl rfl (forceV_of ?_); conv => whnf) | (refine LoadV.s rfl rfl ?_; conv => whnf) | (refine StoreV.c rfl rfl (Nat.le_of_ble_eq_true rfl) rfl ?_; conv => whnf) | (refine LoadV.a _ rfl (Nat.le_of_ble_eq_true rfl) ?_; conv => whnf) | (refine DrawI.quiet (by kernel_rfl) (by kernel_rfl) ?_; conv => whnf) | (refine ArI.in64 (by omega) ?_; conv => whnf) | (refine ArI.inU8 (by omega) ?_; conv => whnf) | (refine ArI.inU64 (by omega) ?_; conv => whnf) | (refine ArI.inU32 (by omega) ?_; conv => whnf) | (refine RetI.one Try.results52 rfl ?_; conv => whnf) | (refine RetI.two Try.results52 rfl rfl ?_; conv => whnf) | (refine RetI.three Try.results52 rfl rfl rfl ?_; conv => whnf) | (refine RetI.none Try.results52 ?_; conv => whnf) | (refine ⟨by first | decide | omega, ?_⟩; conv => whnf))
        refine ⟨_, Sub.refl _, ret_bool ?_, rfl⟩
        rw [decide_eq_false]
        intro e; subst e; exact hq (hx.trans hy.symm)
    · conv => whnf
      repeat (first | (refine LoadV.s rfl rfl (forceV_of ?_); conv => whnf) | (refine LoadV.s rfl rfl ?_; conv => whnf) | (refine StoreV.c rfl rfl (Nat.le_of_ble_eq_true rfl) rfl ?_; conv => whnf) | (refine LoadV.a _ rfl (Nat.le_of_ble_eq_true rfl) ?_; conv => whnf) | (refine DrawI.quiet (by kernel_rfl) (by kernel_rfl) ?_; conv => whnf) | (refine ArI.in64 (by omega) ?_; conv => whnf) | (refine ArI.inU8 (by omega) ?_; conv => whnf) | (refine ArI.inU64 (by omega) ?_; conv => whnf) | (refine ArI.inU32 (by omega) ?_; conv => whnf) | (refine RetI.one Try.results52 rfl ?_; conv => whnf) | (refine RetI.two Try.results52 rfl rfl ?_; conv => whnf) | (refine RetI.three Try.results52 rfl rfl rfl ?_; conv => whnf) | (refine RetI.none Try.results52 ?_; conv => whnf) | (refine ⟨by first | decide | omega, ?_⟩; conv => whnf))
      refine ⟨_, Sub.refl _, ret_bool ?_, rfl⟩
      have : i = a.length := by omega
      subst this
      rw [decide_eq_true]
      have h1 : a.take a.length = a := List.take_length
      have h2 : b.take a.length = b := by rw [he]; exact List.take_length
      rw [← h1, ht, h2]
theorem sameI_ok (F : Mem) (oa ob : Option Addr) (ca cb : Nat) (a b : List Item) (ha : SlF F 6 oa a.length (a.flatMap itemF)) (hb : SlF F 6 ob b.length (b.flatMap itemF)) (hn : a.length ≤ 140737488355328) :
    FT Try.prog 53 [.slice oa a.length ca, .slice ob b.length cb].toArray F [] (Ret (.bool (decide (a = b)))) := by
  refine FT.of_body Try.func53 rfl Try.ntmps53 (by simp) fun C hC => ?_
  subst hC
  conv => whnf
  refine cond_split ?_ ?_
  · intro hne
    conv => whnf
    repeat (first | (refine LoadV.s rfl rfl (forceV_of ?_); conv => whnf) | (refine LoadV.s rfl rfl ?_; conv => whnf) | (refine StoreV.c rfl rfl (Nat.le_of_ble_eq_true rfl) rfl ?_; conv => whnf) | (refine LoadV.a _ rfl (Nat.le_of_ble_eq_true rfl) ?_; conv => whnf) | (refine DrawI.quiet (by kernel_rfl) (by kernel_rfl) ?_; conv => whnf) | (refine ArI.in64 (by omega) ?_; conv => whnf) | (refine ArI.inU8 (by omega) ?_; conv => whnf) | (refine ArI.inU64 (by omega) ?_; conv => whnf) | (refine ArI.inU32 (by omega) ?_; conv => whnf) | (refine RetI.one Try.results53 rfl ?_; conv => whnf) | (refine RetI.two Try.results53 rfl rfl ?_; conv => whnf) | (refine RetI.three Try.results53 rfl rfl rfl ?_; conv => whnf) | (refine RetI.none Try.results53 ?_; conv => whnf) | (refine ⟨by first | decide | omega, ?_⟩; conv => whnf))
    refine ⟨_, Sub.refl _, ret_bool ?_, rfl⟩
    have hne : ((a.length : Nat) : Int) ≠ ((b.length : Nat) : Int) := by simpa using hne
    rw [decide_eq_false]
    intro e; subst e; exact hne rfl
  · intro he
    have he : a.length = b.length := by have : ((a.length : Nat) : Int) = ((b.length : Nat) : Int) := by simpa using he
                                        omega
    conv => whnf
    refine LoopI.by_state (σ := Nat) (fun i => [(0, .slice oa a.length ca), (1, .slice ob b.length cb), (12, .int .i64 (a.length : Int)), (13, .int .i64 (i : Int))]) (fun _ => []) (fun i => i ≤ a.length ∧ a.take i = b.take i) (fun i => a.length - i) 0 (by simp) ⟨rfl, rfl, rfl, rfl, trivial⟩ (Sub.refl _) ?_
    rintro i f0 ⟨hi, ht⟩
    conv => whnf
    refine cond_dec (fun h => ?_) (fun h => ?_)
    · have hia : i < a.length := by omega
      have hib : i < b.length := by omega
      obtain ⟨xa, ya, rfl, hra⟩ := ha.at (i := i) hia
      obtain ⟨xb, yb, rfl, hrb⟩ := hb.at (i := i) hib
      conv => whnf
      refine DrawI.quiet (by kernel_rfl) (by kernel_rfl) ?_
      conv => whnf
      refine ⟨by omega, ?_⟩
      conv => whnf
      refine LoadV.fa (cs := itemF (a[i])) (flat_row itemF_length hra hia rfl) rfl ?_
      conv => whnf
      refine ⟨by omega, ?_⟩
      conv => whnf
      refine LoadV.fa (cs := itemF (b[i])) (flat_row itemF_length hrb hib rfl) rfl ?_
      have hpa : ∃ x, x = a[i] := ⟨_, rfl⟩
      have hpb : ∃ x, x = b[i] := ⟨_, rfl⟩
      obtain ⟨x, hx⟩ := hpa
      obtain ⟨y, hy⟩ := hpb
      rw [← hx, ← hy]
      conv => whnf
      refine neqAs (d := 10) (ks := [.i .i64, .i .i64, .i .i64, .i .i64, .i .i64, .i .i64]) (xs := itemF x) (ys := itemF y) (decide (x = y)) (eq_item x y) (by kernel_rfl) rfl (by kernel_rfl) rfl rfl rfl ?_
      by_cases hq : x = y
      · rw [decide_eq_true hq]
        conv => whnf
        refine ArI.to64 ((i + 1 : Nat) : Int) (by omega) (by omega) ?_
        conv => whnf
        exact ⟨i + 1, [], by omega, Sub.refl _, ⟨by omega, take_eq_step ht (by omega) (by omega) (by rw [← hx, ← hy, hq])⟩, ⟨rfl, rfl, rfl, rfl, trivial⟩, rfl⟩
      · rw [decide_eq_false hq]
        conv => whnf
        repeat (first | (refine LoadV.s rfl rfl (forceV_of ?_); conv => whnf) | (refine LoadV.s rfl rfl ?_; conv => whnf) | (refine StoreV.c rfl rfl (Nat.le_of_ble_eq_true rfl) rfl ?_; conv => whnf) | (refine LoadV.a _ rfl (Nat.le_of_ble_eq_true rfl) ?_; conv => whnf) | (refine DrawI.quiet (by kernel_rfl) (by kernel_rfl) ?_; conv => whnf) | (refine ArI.in64 (by omega) ?_; conv => whnf) | (refine ArI.inU8 (by omega) ?_; conv => whnf) | (refine ArI.inU64 (by omega) ?_; conv => whnf) | (refine ArI.inU32 (by omega) ?_; conv => whnf) | (refine RetI.one Try.results53 rfl ?_; conv => whnf) | (refine RetI.two Try.results53 rfl rfl ?_; conv => whnf) | (refine RetI.three Try.results53 rfl rfl rfl ?_; conv => whnf) | (refine RetI.none Try.results53 ?_; conv => whnf) | (refine ⟨by first | decide | omega, ?_⟩; conv => whnf))
        refine ⟨_, Sub.refl _, ret_bool ?_, rfl⟩
        rw [decide_eq_false]
        intro e; subst e; exact hq (hx.trans hy.symm)
    · conv => whnf
      repeat (first | (refine LoadV.s rfl rfl (forceV_of ?_); conv => whnf) | (refine LoadV.s rfl rfl ?_; conv => whnf) | (refine StoreV.c rfl rfl (Nat.le_of_ble_eq_true rfl) rfl ?_; conv => whnf) | (refine LoadV.a _ rfl (Nat.le_of_ble_eq_true rfl) ?_; conv => whnf) | (refine DrawI.quiet (by kernel_rfl) (by kernel_rfl) ?_; conv => whnf) | (refine ArI.in64 (by omega) ?_; conv => whnf) | (refine ArI.inU8 (by omega) ?_; conv => whnf) | (refine ArI.inU64 (by omega) ?_; conv => whnf) | (refine ArI.inU32 (by omega) ?_; conv => whnf) | (refine RetI.one Try.results53 rfl ?_; conv => whnf) | (refine RetI.two Try.results53 rfl rfl ?_; conv => whnf) | (refine RetI.three Try.results53 rfl rfl rfl ?_; conv => whnf) | (refine RetI.none Try.results53 ?_; conv => whnf) | (refine ⟨by first | decide | omega, ?_⟩; conv => whnf))
      refine ⟨_, Sub.refl _, ret_bool ?_, rfl⟩
      have : i = a.length := by omega
      subst this
      rw [decide_eq_true]
      have h1 : a.take a.length = a := List.take_length
      have h2 : b.take a.length = b := by rw [he]; exact List.take_length
      rw [← h1, ht, h2]
def sameRk (a b : Msg) : Bool := (a.ep == b.ep) && decide (a.L = b.L) && decide (a.J = b.J) && decide (a.I = b.I)
def sameB (a b : Msg) : Bool := (a.kind == b.kind) && sameRk a b && cellsEq (rqV a) (rqV b) && cellsEq (rpV a) (rpV b) && cellsEq (seV a) (seV b)
theorem same12_ok (F : Mem) (m m' : Msg) (s s' : Sls) (hr : Rows14 F m s) (hr' : Rows14 F m' s') (hz : Sz m) : FT Try.prog 31 [.agg (rkV m s).toArray, .agg (rkV m' s').toArray].toArray F [] (Ret (.bool (sameRk m m'))) := by
  have z1 := hz.L; have z2 := hz.J; have z3 := hz.I
  refine FT.of_body Try.func31 rfl Try.ntmps31 (by simp) fun C hC => ?_
  subst hC
  conv => whnf
  intro b
  conv => whnf
  intro c
  conv => whnf
  refine LoadV.s rfl rfl ?_
  conv => whnf
  refine LoadV.s rfl rfl ?_
  conv => whnf
  cases h1 : (m.ep == m'.ep) with
  | false =>
    conv => whnf
    repeat (first | (refine LoadV.s rfl rfl (forceV_of ?_); conv => whnf) | (refine LoadV.s rfl rfl ?_; conv => whnf) | (refine StoreV.c rfl rfl (Nat.le_of_ble_eq_true rfl) rfl ?_; conv => whnf) | (refine LoadV.a _ rfl (Nat.le_of_ble_eq_true rfl) ?_; conv => whnf) | (refine DrawI.quiet (by kernel_rfl) (by kernel_rfl) ?_; conv => whnf) | (refine ArI.in64 (by omega) ?_; conv => whnf) | (refine ArI.inU8 (by omega) ?_; conv => whnf) | (refine ArI.inU64 (by omega) ?_; conv => whnf) | (refine ArI.inU32 (by omega) ?_; conv => whnf) | (refine RetI.one Try.results31 rfl ?_; conv => whnf) | (refine RetI.two Try.results31 rfl rfl ?_; conv => whnf) | (refine RetI.three Try.results31 rfl rfl rfl ?_; conv => whnf) | (refine RetI.none Try.results31 ?_; conv => whnf) | (refine ⟨by first | decide | omega, ?_⟩; conv => whnf))
    exact ⟨_, Sub.sel [] rfl, ret_bool (by simp [sameRk, h1]), rfl⟩
  | true =>
    conv => whnf
    refine LoadV.s rfl rfl ?_
    conv => whnf
    refine LoadV.s rfl rfl ?_
    conv => whnf
    refine CallS.mk Try.call52 ⟨[], _, _, Sub.refl _, fun F' hF' => sameS_ok F' s.oL s'.oL s.cL s'.cL m.L m'.L (hr.L.ext hF'.F) (hr'.L.ext hF'.F) z1, ?_⟩
    rintro e A' ⟨rfl, rfl⟩
    cases h2 : decide (m.L = m'.L) with
    | false =>
      conv => whnf
      repeat (first | (refine LoadV.s rfl rfl (forceV_of ?_); conv => whnf) | (refine LoadV.s rfl rfl ?_; conv => whnf) | (refine StoreV.c rfl rfl (Nat.le_of_ble_eq_true rfl) rfl ?_; conv => whnf) | (refine LoadV.a _ rfl (Nat.le_of_ble_eq_true rfl) ?_; conv => whnf) | (refine DrawI.quiet (by kernel_rfl) (by kernel_rfl) ?_; conv => whnf) | (refine ArI.in64 (by omega) ?_; conv => whnf) | (refine ArI.inU8 (by omega) ?_; conv => whnf) | (refine ArI.inU64 (by omega) ?_; conv => whnf) | (refine ArI.inU32 (by omega) ?_; conv => whnf) | (refine RetI.one Try.results31 rfl ?_; conv => whnf) | (refine RetI.two Try.results31 rfl rfl ?_; conv => whnf) | (refine RetI.three Try.results31 rfl rfl rfl ?_; conv => whnf) | (refine RetI.none Try.results31 ?_; conv => whnf) | (refine ⟨by first | decide | omega, ?_⟩; conv => whnf))
      exact ⟨_, Sub.sel [] rfl, ret_bool (by simp [sameRk, h1, h2]), rfl⟩
    | true =>
      conv => whnf
      refine LoadV.s rfl rfl ?_
      conv => whnf
      refine LoadV.s rfl rfl ?_
      conv => whnf
      refine CallS.mk Try.call52 ⟨[], _, _, Sub.refl _, fun F' hF' => sameS_ok F' s.oJ s'.oJ s.cJ s'.cJ m.J m'.J (hr.J.ext hF'.F) (hr'.J.ext hF'.F) z2, ?_⟩
      rintro e A' ⟨rfl, rfl⟩
      cases h3 : decide (m.J = m'.J) with
      | false =>
        conv => whnf
        repeat (first | (refine LoadV.s rfl rfl (forceV_of ?_); conv => whnf) | (refine LoadV.s rfl rfl ?_; conv => whnf) | (refine StoreV.c rfl rfl (Nat.le_of_ble_eq_true rfl) rfl ?_; conv => whnf) | (refine LoadV.a _ rfl (Nat.le_of_ble_eq_true rfl) ?_; conv => whnf) | (refine DrawI.quiet (by kernel_rfl) (by kernel_rfl) ?_; conv => whnf) | (refine ArI.in64 (by omega) ?_; conv => whnf) | (refine ArI.inU8 (by omega) ?_; conv => whnf) | (refine ArI.inU64 (by omega) ?_; conv => whnf) | (refine ArI.inU32 (by omega) ?_; conv => whnf) | (refine RetI.one Try.results31 rfl ?_; conv => whnf) | (refine RetI.two Try.results31 rfl rfl ?_; conv => whnf) | (refine RetI.three Try.results31 rfl rfl rfl ?_; conv => whnf) | (refine RetI.none Try.results31 ?_; conv => whnf) | (refine ⟨by first | decide | omega, ?_⟩; conv => whnf))
        exact ⟨_, Sub.sel [] rfl, ret_bool (by simp [sameRk, h1, h2, h3]), rfl⟩
      | true =>
        conv => whnf
        refine LoadV.s rfl rfl ?_
        conv => whnf
        refine LoadV.s rfl rfl ?_
        conv => whnf
        refine CallS.mk Try.call53 ⟨[], _, _, Sub.refl _, fun F' hF' => sameI_ok F' s.oI s'.oI s.cI s'.cI m.I m'.I (hr.I.ext hF'.F) (hr'.I.ext hF'.F) z3, ?_⟩
        rintro e A' ⟨rfl, rfl⟩
        conv => whnf
        repeat (first | (refine LoadV.s rfl rfl (forceV_of ?_); conv => whnf) | (refine LoadV.s rfl rfl ?_; conv => whnf) | (refine StoreV.c rfl rfl (Nat.le_of_ble_eq_true rfl) rfl ?_; conv => whnf) | (refine LoadV.a _ rfl (Nat.le_of_ble_eq_true rfl) ?_; conv => whnf) | (refine DrawI.quiet (by kernel_rfl) (by kernel_rfl) ?_; conv => whnf) | (refine ArI.in64 (by omega) ?_; conv => whnf) | (refine ArI.inU8 (by omega) ?_; conv => whnf) | (refine ArI.inU64 (by omega) ?_; conv => whnf) | (refine ArI.inU32 (by omega) ?_; conv => whnf) | (refine RetI.one Try.results31 rfl ?_; conv => whnf) | (refine RetI.two Try.results31 rfl rfl ?_; conv => whnf) | (refine RetI.three Try.results31 rfl rfl rfl ?_; conv => whnf) | (refine RetI.none Try.results31 ?_; conv => whnf) | (refine ⟨by first | decide | omega, ?_⟩; conv => whnf))
        exact ⟨_, Sub.sel [] rfl, ret_bool (by unfold sameRk; rw [h1, h2, h3]; simp), rfl⟩
theorem same14_ok (F : Mem) (m m' : Msg) (s s' : Sls) (hr : Rows14 F m s) (hr' : Rows14 F m' s') (hz : Sz m) : FT Try.prog 15 [.agg (msgL m s).toArray, .agg (msgL m' s').toArray].toArray F [] (Ret (.bool (sameB m m'))) := by
  refine FT.of_body Try.func15 rfl Try.ntmps15 (by simp) fun C hC => ?_
  subst hC
  conv => whnf
  intro b
  conv => whnf
  intro c
  conv => whnf
  refine LoadV.s rfl rfl ?_
  conv => whnf
  refine LoadV.s rfl rfl ?_
  conv => whnf
  cases h1 : (m.kind == m'.kind) with
  | false =>
    conv => whnf
    repeat (first | (refine LoadV.s rfl rfl (forceV_of ?_); conv => whnf) | (refine LoadV.s rfl rfl ?_; conv => whnf) | (refine StoreV.c rfl rfl (Nat.le_of_ble_eq_true rfl) rfl ?_; conv => whnf) | (refine LoadV.a _ rfl (Nat.le_of_ble_eq_true rfl) ?_; conv => whnf) | (refine DrawI.quiet (by kernel_rfl) (by kernel_rfl) ?_; conv => whnf) | (refine ArI.in64 (by omega) ?_; conv => whnf) | (refine ArI.inU8 (by omega) ?_; conv => whnf) | (refine ArI.inU64 (by omega) ?_; conv => whnf) | (refine ArI.inU32 (by omega) ?_; conv => whnf) | (refine RetI.one Try.results15 rfl ?_; conv => whnf) | (refine RetI.two Try.results15 rfl rfl ?_; conv => whnf) | (refine RetI.three Try.results15 rfl rfl rfl ?_; conv => whnf) | (refine RetI.none Try.results15 ?_; conv => whnf) | (refine ⟨by first | decide | omega, ?_⟩; conv => whnf))
    exact ⟨_, Sub.sel [] rfl, ret_bool (by simp [sameB, h1]), rfl⟩
  | true =>
    conv => whnf
    refine LoadV.a 4 rfl (Nat.le_of_ble_eq_true rfl) ?_
    conv => whnf
    refine LoadV.a 4 rfl (Nat.le_of_ble_eq_true rfl) ?_
    conv => whnf
    refine CallS.mk Try.call31 ⟨[], _, _, Sub.refl _, fun F' hF' => same12_ok F' m m' s s' (hr.ext hF'.F) (hr'.ext hF'.F) hz, ?_⟩
    rintro e A' ⟨rfl, rfl⟩
    cases h2 : sameRk m m' with
    | false =>
      conv => whnf
      repeat (first | (refine LoadV.s rfl rfl (forceV_of ?_); conv => whnf) | (refine LoadV.s rfl rfl ?_; conv => whnf) | (refine StoreV.c rfl rfl (Nat.le_of_ble_eq_true rfl) rfl ?_; conv => whnf) | (refine LoadV.a _ rfl (Nat.le_of_ble_eq_true rfl) ?_; conv => whnf) | (refine DrawI.quiet (by kernel_rfl) (by kernel_rfl) ?_; conv => whnf) | (refine ArI.in64 (by omega) ?_; conv => whnf) | (refine ArI.inU8 (by omega) ?_; conv => whnf) | (refine ArI.inU64 (by omega) ?_; conv => whnf) | (refine ArI.inU32 (by omega) ?_; conv => whnf) | (refine RetI.one Try.results15 rfl ?_; conv => whnf) | (refine RetI.two Try.results15 rfl rfl ?_; conv => whnf) | (refine RetI.three Try.results15 rfl rfl rfl ?_; conv => whnf) | (refine RetI.none Try.results15 ?_; conv => whnf) | (refine ⟨by first | decide | omega, ?_⟩; conv => whnf))
      exact ⟨_, Sub.sel [] rfl, ret_bool (by simp [sameB, h1, h2]), rfl⟩
    | true =>
      conv => whnf
      refine LoadV.a 2 rfl (Nat.le_of_ble_eq_true rfl) ?_
      conv => whnf
      refine LoadV.a 2 rfl (Nat.le_of_ble_eq_true rfl) ?_
      conv => whnf
      refine eqlAs (d := 10) (ks := [.i .i64, .i .i64]) (xs := rqV m) (ys := rqV m') (cellsEq (rqV m) (rqV m')) rfl (by kernel_rfl) rfl (by kernel_rfl) rfl rfl rfl ?_
      cases h3 : cellsEq (rqV m) (rqV m') with
      | false =>
        conv => whnf
        repeat (first | (refine LoadV.s rfl rfl (forceV_of ?_); conv => whnf) | (refine LoadV.s rfl rfl ?_; conv => whnf) | (refine StoreV.c rfl rfl (Nat.le_of_ble_eq_true rfl) rfl ?_; conv => whnf) | (refine LoadV.a _ rfl (Nat.le_of_ble_eq_true rfl) ?_; conv => whnf) | (refine DrawI.quiet (by kernel_rfl) (by kernel_rfl) ?_; conv => whnf) | (refine ArI.in64 (by omega) ?_; conv => whnf) | (refine ArI.inU8 (by omega) ?_; conv => whnf) | (refine ArI.inU64 (by omega) ?_; conv => whnf) | (refine ArI.inU32 (by omega) ?_; conv => whnf) | (refine RetI.one Try.results15 rfl ?_; conv => whnf) | (refine RetI.two Try.results15 rfl rfl ?_; conv => whnf) | (refine RetI.three Try.results15 rfl rfl rfl ?_; conv => whnf) | (refine RetI.none Try.results15 ?_; conv => whnf) | (refine ⟨by first | decide | omega, ?_⟩; conv => whnf))
        exact ⟨_, Sub.sel [] rfl, ret_bool (by simp [sameB, h1, h2, h3]), rfl⟩
      | true =>
        conv => whnf
        refine LoadV.a 15 rfl (Nat.le_of_ble_eq_true rfl) ?_
        conv => whnf
        refine LoadV.a 15 rfl (Nat.le_of_ble_eq_true rfl) ?_
        conv => whnf
        refine eqlAs (d := 10) (ks := List.replicate 15 (.i .i64)) (xs := rpV m) (ys := rpV m') (cellsEq (rpV m) (rpV m')) rfl (by kernel_rfl) rfl (by kernel_rfl) rfl rfl rfl ?_
        cases h4 : cellsEq (rpV m) (rpV m') with
        | false =>
          conv => whnf
          repeat (first | (refine LoadV.s rfl rfl (forceV_of ?_); conv => whnf) | (refine LoadV.s rfl rfl ?_; conv => whnf) | (refine StoreV.c rfl rfl (Nat.le_of_ble_eq_true rfl) rfl ?_; conv => whnf) | (refine LoadV.a _ rfl (Nat.le_of_ble_eq_true rfl) ?_; conv => whnf) | (refine DrawI.quiet (by kernel_rfl) (by kernel_rfl) ?_; conv => whnf) | (refine ArI.in64 (by omega) ?_; conv => whnf) | (refine ArI.inU8 (by omega) ?_; conv => whnf) | (refine ArI.inU64 (by omega) ?_; conv => whnf) | (refine ArI.inU32 (by omega) ?_; conv => whnf) | (refine RetI.one Try.results15 rfl ?_; conv => whnf) | (refine RetI.two Try.results15 rfl rfl ?_; conv => whnf) | (refine RetI.three Try.results15 rfl rfl rfl ?_; conv => whnf) | (refine RetI.none Try.results15 ?_; conv => whnf) | (refine ⟨by first | decide | omega, ?_⟩; conv => whnf))
          exact ⟨_, Sub.sel [] rfl, ret_bool (by simp [sameB, h1, h2, h3, h4]), rfl⟩
        | true =>
          conv => whnf
          refine LoadV.a 4 rfl (Nat.le_of_ble_eq_true rfl) ?_
          conv => whnf
          refine LoadV.a 4 rfl (Nat.le_of_ble_eq_true rfl) ?_
          conv => whnf
          refine eqlAs (d := 10) (ks := [.i .i64, .i .i64, .i .i64, .s]) (xs := seV m) (ys := seV m') (cellsEq (seV m) (seV m')) rfl (by kernel_rfl) rfl (by kernel_rfl) rfl rfl rfl ?_
          conv => whnf
          repeat (first | (refine LoadV.s rfl rfl (forceV_of ?_); conv => whnf) | (refine LoadV.s rfl rfl ?_; conv => whnf) | (refine StoreV.c rfl rfl (Nat.le_of_ble_eq_true rfl) rfl ?_; conv => whnf) | (refine LoadV.a _ rfl (Nat.le_of_ble_eq_true rfl) ?_; conv => whnf) | (refine DrawI.quiet (by kernel_rfl) (by kernel_rfl) ?_; conv => whnf) | (refine ArI.in64 (by omega) ?_; conv => whnf) | (refine ArI.inU8 (by omega) ?_; conv => whnf) | (refine ArI.inU64 (by omega) ?_; conv => whnf) | (refine ArI.inU32 (by omega) ?_; conv => whnf) | (refine RetI.one Try.results15 rfl ?_; conv => whnf) | (refine RetI.two Try.results15 rfl rfl ?_; conv => whnf) | (refine RetI.three Try.results15 rfl rfl rfl ?_; conv => whnf) | (refine RetI.none Try.results15 ?_; conv => whnf) | (refine ⟨by first | decide | omega, ?_⟩; conv => whnf))
          exact ⟨_, Sub.sel [] rfl, ret_bool (by unfold sameB; rw [h1, h2, h3, h4]; simp), rfl⟩
theorem bx_ext {x y : Bx} (h1 : x.1 = y.1) (h2 : x.2.1 = y.2.1) (h3 : x.2.2.1 = y.2.2.1) (h4 : x.2.2.2 = y.2.2.2) : x = y := Prod.ext h1 (Prod.ext h2 (Prod.ext h3 h4))
theorem sameB_iff {a b : Msg} : sameB a b = true ↔ a = b := by
  constructor
  · intro h
    simp only [sameB, sameRk, rqV, rpV, seV, cellsEq, vEq, Bool.and_eq_true, beq_iff_eq, decide_eq_true_eq, and_true] at h
    obtain ⟨⟨⟨⟨h0, ⟨⟨h1, h2⟩, h3⟩, h4⟩, h5, h6⟩, h7, h8, h9, a1, a2, a3, a4, b1, b2, b3, b4, c1, c2, c3, c4⟩, h10, h11, h12, h13⟩ := h
    have x0 := bx_ext a1 a2 a3 a4
    have x1 := bx_ext b1 b2 b3 b4
    have x2 := bx_ext c1 c2 c3 c4
    have x3 := toList_inj h13
    clear a1 a2 a3 a4 b1 b2 b3 b4 c1 c2 c3 c4 h13
    cases a; cases b
    dsimp only at *
    subst h0; subst h1; subst h2; subst h3; subst h4; subst h5; subst h6; subst h7; subst h8; subst h9; subst h10; subst h11; subst h12; subst x0; subst x1; subst x2; subst x3
    rfl
  · rintro rfl
    simp [sameB, sameRk, rqV, rpV, seV, cellsEq, vEq]
end Go.Proofs.Ytlbdnkkaacccoaa
