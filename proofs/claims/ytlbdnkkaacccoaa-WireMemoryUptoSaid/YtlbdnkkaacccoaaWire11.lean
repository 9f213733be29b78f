/- The reference's Good. -/
import Derived.Test.YtlbdnkkaacccoaaWire10
import Derived.Test.YtlbdnkkaacccoaaWire8
namespace Go.Proofs.Ytlbdnkkaacccoaa
set_option linter.unusedVariables false
set_option linter.unusedSimpArgs false
set_option maxRecDepth 100000
open SL Go.RowKit Go.Maps
theorem repoch_ok (F : Mem) (n : Int) : FT Try.prog 54 [.int .i64 n].toArray F [] (Ret (.bool (btw n 1 200))) := by
  refine FT.of_body Try.func54 rfl Try.ntmps54 (by simp) fun C hC => ?_
  subst hC
  conv => whnf
  refine cond_dec (fun h => ?_) (fun h => ?_)
  · conv => whnf
    repeat (first | (refine LoadV.s rfl rfl (forceV_of ?_); conv => whnf) | (refine LoadV.s rfl rfl ?_; conv => whnf) | (refine StoreV.c rfl rfl (Nat.le_of_ble_eq_true rfl) rfl ?_; conv => whnf) | (refine LoadV.a _ rfl (Nat.le_of_ble_eq_true rfl) ?_; conv => whnf) | (refine DrawI.quiet (by kernel_rfl) (by kernel_rfl) ?_; conv => whnf) | (refine ArI.in64 (by omega) ?_; conv => whnf) | (refine ArI.inU8 (by omega) ?_; conv => whnf) | (refine ArI.inU64 (by omega) ?_; conv => whnf) | (refine ArI.inU32 (by omega) ?_; conv => whnf) | (refine RetI.one Try.results54 rfl ?_; conv => whnf) | (refine RetI.two Try.results54 rfl rfl ?_; conv => whnf) | (refine RetI.three Try.results54 rfl rfl rfl ?_; conv => whnf) | (refine RetI.none Try.results54 ?_; conv => whnf) | (refine ⟨by first | decide | omega, ?_⟩; conv => whnf))
    exact ⟨_, Sub.refl _, ret_bool (by unfold btw; rw [show decide (1 ≤ n) = true from decide_eq_true h, Bool.true_and]; try exact decide_eq_decide.2 (by omega)), rfl⟩
  · conv => whnf
    repeat (first | (refine LoadV.s rfl rfl (forceV_of ?_); conv => whnf) | (refine LoadV.s rfl rfl ?_; conv => whnf) | (refine StoreV.c rfl rfl (Nat.le_of_ble_eq_true rfl) rfl ?_; conv => whnf) | (refine LoadV.a _ rfl (Nat.le_of_ble_eq_true rfl) ?_; conv => whnf) | (refine DrawI.quiet (by kernel_rfl) (by kernel_rfl) ?_; conv => whnf) | (refine ArI.in64 (by omega) ?_; conv => whnf) | (refine ArI.inU8 (by omega) ?_; conv => whnf) | (refine ArI.inU64 (by omega) ?_; conv => whnf) | (refine ArI.inU32 (by omega) ?_; conv => whnf) | (refine RetI.one Try.results54 rfl ?_; conv => whnf) | (refine RetI.two Try.results54 rfl rfl ?_; conv => whnf) | (refine RetI.three Try.results54 rfl rfl rfl ?_; conv => whnf) | (refine RetI.none Try.results54 ?_; conv => whnf) | (refine ⟨by first | decide | omega, ?_⟩; conv => whnf))
    exact ⟨_, Sub.refl _, ret_bool (by unfold btw; simp only [show decide (1 ≤ n) = false from decide_eq_false h, Bool.false_and]), rfl⟩
theorem person_ok (F : Mem) (n : Int) : FT Try.prog 58 [.int .i64 n].toArray F [] (Ret (.bool (btw n 0 255))) := by
  refine FT.of_body Try.func58 rfl Try.ntmps58 (by simp) fun C hC => ?_
  subst hC
  conv => whnf
  refine cond_dec (fun h => ?_) (fun h => ?_)
  · conv => whnf
    repeat (first | (refine LoadV.s rfl rfl (forceV_of ?_); conv => whnf) | (refine LoadV.s rfl rfl ?_; conv => whnf) | (refine StoreV.c rfl rfl (Nat.le_of_ble_eq_true rfl) rfl ?_; conv => whnf) | (refine LoadV.a _ rfl (Nat.le_of_ble_eq_true rfl) ?_; conv => whnf) | (refine DrawI.quiet (by kernel_rfl) (by kernel_rfl) ?_; conv => whnf) | (refine ArI.in64 (by omega) ?_; conv => whnf) | (refine ArI.inU8 (by omega) ?_; conv => whnf) | (refine ArI.inU64 (by omega) ?_; conv => whnf) | (refine ArI.inU32 (by omega) ?_; conv => whnf) | (refine RetI.one Try.results58 rfl ?_; conv => whnf) | (refine RetI.two Try.results58 rfl rfl ?_; conv => whnf) | (refine RetI.three Try.results58 rfl rfl rfl ?_; conv => whnf) | (refine RetI.none Try.results58 ?_; conv => whnf) | (refine ⟨by first | decide | omega, ?_⟩; conv => whnf))
    exact ⟨_, Sub.refl _, ret_bool (by unfold btw; rw [show decide (0 ≤ n) = true from decide_eq_true h, Bool.true_and]; try exact decide_eq_decide.2 (by omega)), rfl⟩
  · conv => whnf
    repeat (first | (refine LoadV.s rfl rfl (forceV_of ?_); conv => whnf) | (refine LoadV.s rfl rfl ?_; conv => whnf) | (refine StoreV.c rfl rfl (Nat.le_of_ble_eq_true rfl) rfl ?_; conv => whnf) | (refine LoadV.a _ rfl (Nat.le_of_ble_eq_true rfl) ?_; conv => whnf) | (refine DrawI.quiet (by kernel_rfl) (by kernel_rfl) ?_; conv => whnf) | (refine ArI.in64 (by omega) ?_; conv => whnf) | (refine ArI.inU8 (by omega) ?_; conv => whnf) | (refine ArI.inU64 (by omega) ?_; conv => whnf) | (refine ArI.inU32 (by omega) ?_; conv => whnf) | (refine RetI.one Try.results58 rfl ?_; conv => whnf) | (refine RetI.two Try.results58 rfl rfl ?_; conv => whnf) | (refine RetI.three Try.results58 rfl rfl rfl ?_; conv => whnf) | (refine RetI.none Try.results58 ?_; conv => whnf) | (refine ⟨by first | decide | omega, ?_⟩; conv => whnf))
    exact ⟨_, Sub.refl _, ret_bool (by unfold btw; simp only [show decide (0 ≤ n) = false from decide_eq_false h, Bool.false_and]), rfl⟩
theorem slot14_ok (F : Mem) (n : Int) : FT Try.prog 59 [.int .i64 n].toArray F [] (Ret (.bool (btw n 0 63))) := by
  refine FT.of_body Try.func59 rfl Try.ntmps59 (by simp) fun C hC => ?_
  subst hC
  conv => whnf
  refine cond_dec (fun h => ?_) (fun h => ?_)
  · conv => whnf
    repeat (first | (refine LoadV.s rfl rfl (forceV_of ?_); conv => whnf) | (refine LoadV.s rfl rfl ?_; conv => whnf) | (refine StoreV.c rfl rfl (Nat.le_of_ble_eq_true rfl) rfl ?_; conv => whnf) | (refine LoadV.a _ rfl (Nat.le_of_ble_eq_true rfl) ?_; conv => whnf) | (refine DrawI.quiet (by kernel_rfl) (by kernel_rfl) ?_; conv => whnf) | (refine ArI.in64 (by omega) ?_; conv => whnf) | (refine ArI.inU8 (by omega) ?_; conv => whnf) | (refine ArI.inU64 (by omega) ?_; conv => whnf) | (refine ArI.inU32 (by omega) ?_; conv => whnf) | (refine RetI.one Try.results59 rfl ?_; conv => whnf) | (refine RetI.two Try.results59 rfl rfl ?_; conv => whnf) | (refine RetI.three Try.results59 rfl rfl rfl ?_; conv => whnf) | (refine RetI.none Try.results59 ?_; conv => whnf) | (refine ⟨by first | decide | omega, ?_⟩; conv => whnf))
    exact ⟨_, Sub.refl _, ret_bool (by unfold btw; rw [show decide (0 ≤ n) = true from decide_eq_true h, Bool.true_and]; try exact decide_eq_decide.2 (by omega)), rfl⟩
  · conv => whnf
    repeat (first | (refine LoadV.s rfl rfl (forceV_of ?_); conv => whnf) | (refine LoadV.s rfl rfl ?_; conv => whnf) | (refine StoreV.c rfl rfl (Nat.le_of_ble_eq_true rfl) rfl ?_; conv => whnf) | (refine LoadV.a _ rfl (Nat.le_of_ble_eq_true rfl) ?_; conv => whnf) | (refine DrawI.quiet (by kernel_rfl) (by kernel_rfl) ?_; conv => whnf) | (refine ArI.in64 (by omega) ?_; conv => whnf) | (refine ArI.inU8 (by omega) ?_; conv => whnf) | (refine ArI.inU64 (by omega) ?_; conv => whnf) | (refine ArI.inU32 (by omega) ?_; conv => whnf) | (refine RetI.one Try.results59 rfl ?_; conv => whnf) | (refine RetI.two Try.results59 rfl rfl ?_; conv => whnf) | (refine RetI.three Try.results59 rfl rfl rfl ?_; conv => whnf) | (refine RetI.none Try.results59 ?_; conv => whnf) | (refine ⟨by first | decide | omega, ?_⟩; conv => whnf))
    exact ⟨_, Sub.refl _, ret_bool (by unfold btw; simp only [show decide (0 ≤ n) = false from decide_eq_false h, Bool.false_and]), rfl⟩
theorem rgseats_ok (F : Mem) (oa : Option Addr) (ca : Nat) (xs : List Seat) (ha : SlF F 2 oa xs.length (xs.flatMap seatF)) (hn : xs.length ≤ 140737488355328) :
    FT Try.prog 55 [.slice oa xs.length ca].toArray F [] (Ret (.bool (xs.all seatB && decide ((xs.length : Int) ≤ 64)))) := by
  refine FT.of_body Try.func55 rfl Try.ntmps55 (by simp) fun C hC => ?_
  subst hC
  conv => whnf
  refine LoopI.by_state (σ := Nat) (fun i => [(0, .slice oa xs.length ca), (5, .slice oa xs.length ca), (6, .int .i64 (xs.length : Int)), (7, .int .i64 (i : Int))]) (fun _ => []) (fun i => i ≤ xs.length ∧ ∀ x ∈ xs.take i, seatB x = true) (fun i => xs.length - i) 0 ⟨Nat.zero_le _, by simp⟩ ⟨rfl, rfl, rfl, rfl, trivial⟩ (Sub.refl _) ?_
  rintro i f0 ⟨hi, hall⟩
  conv => whnf
  refine cond_dec (fun h => ?_) (fun h => ?_)
  · have hil : i < xs.length := by omega
    obtain ⟨xb, yb, rfl, hrb⟩ := ha.at (i := i) hil
    conv => whnf
    refine ⟨by omega, ?_⟩
    conv => whnf
    refine LoadV.fa (cs := seatF (xs[i])) (flat_row seatF_length hrb hil rfl) rfl ?_
    obtain ⟨x, hx⟩ : ∃ x, x = xs[i] := ⟨_, rfl⟩
    rw [← hx]
    conv => whnf
    intro b
    conv => whnf
    refine StoreV.c rfl rfl (Nat.le_of_ble_eq_true rfl) rfl ?_
    have hbad : seatB x = false → (xs.all seatB && decide ((xs.length : Int) ≤ 64)) = false := fun hb => by
      rw [show xs.all seatB = false from by rw [List.all_eq_false]; exact ⟨x, hx ▸ List.getElem_mem hil, by simp [hb]⟩]; rfl
    conv => whnf
    refine LoadV.s rfl rfl ?_
    conv => whnf
    refine CallS.mk Try.call58 ⟨[], _, _, Sub.refl _, fun F' hF' => person_ok F' x.1, ?_⟩
    rintro e A' ⟨rfl, rfl⟩
    cases h1 : btw x.1 0 255 with
    | false =>
      conv => whnf
      repeat (first | (refine LoadV.s rfl rfl (forceV_of ?_); conv => whnf) | (refine LoadV.s rfl rfl ?_; conv => whnf) | (refine StoreV.c rfl rfl (Nat.le_of_ble_eq_true rfl) rfl ?_; conv => whnf) | (refine LoadV.a _ rfl (Nat.le_of_ble_eq_true rfl) ?_; conv => whnf) | (refine DrawI.quiet (by kernel_rfl) (by kernel_rfl) ?_; conv => whnf) | (refine ArI.in64 (by omega) ?_; conv => whnf) | (refine ArI.inU8 (by omega) ?_; conv => whnf) | (refine ArI.inU64 (by omega) ?_; conv => whnf) | (refine ArI.inU32 (by omega) ?_; conv => whnf) | (refine RetI.one Try.results55 rfl ?_; conv => whnf) | (refine RetI.two Try.results55 rfl rfl ?_; conv => whnf) | (refine RetI.three Try.results55 rfl rfl rfl ?_; conv => whnf) | (refine RetI.none Try.results55 ?_; conv => whnf) | (refine ⟨by first | decide | omega, ?_⟩; conv => whnf))
      exact ⟨_, Sub.sel [] rfl, ret_bool (hbad (by simp [seatB, h1])).symm, rfl⟩
    | true =>
      conv => whnf
      refine LoadV.s rfl rfl ?_
      conv => whnf
      refine CallS.mk Try.call59 ⟨[], _, _, Sub.refl _, fun F' hF' => slot14_ok F' x.2, ?_⟩
      rintro e A' ⟨rfl, rfl⟩
      cases h2 : btw x.2 0 63 with
      | false =>
        conv => whnf
        repeat (first | (refine LoadV.s rfl rfl (forceV_of ?_); conv => whnf) | (refine LoadV.s rfl rfl ?_; conv => whnf) | (refine StoreV.c rfl rfl (Nat.le_of_ble_eq_true rfl) rfl ?_; conv => whnf) | (refine LoadV.a _ rfl (Nat.le_of_ble_eq_true rfl) ?_; conv => whnf) | (refine DrawI.quiet (by kernel_rfl) (by kernel_rfl) ?_; conv => whnf) | (refine ArI.in64 (by omega) ?_; conv => whnf) | (refine ArI.inU8 (by omega) ?_; conv => whnf) | (refine ArI.inU64 (by omega) ?_; conv => whnf) | (refine ArI.inU32 (by omega) ?_; conv => whnf) | (refine RetI.one Try.results55 rfl ?_; conv => whnf) | (refine RetI.two Try.results55 rfl rfl ?_; conv => whnf) | (refine RetI.three Try.results55 rfl rfl rfl ?_; conv => whnf) | (refine RetI.none Try.results55 ?_; conv => whnf) | (refine ⟨by first | decide | omega, ?_⟩; conv => whnf))
        exact ⟨_, Sub.sel [] rfl, ret_bool (hbad (by simp [seatB, h2])).symm, rfl⟩
      | true =>
        conv => whnf
        refine ArI.to64 ((i + 1 : Nat) : Int) (by omega) (by omega) ?_
        conv => whnf
        exact ⟨i + 1, [], by omega, Sub.sel [] rfl, ⟨by omega, all_take hall hil (hx ▸ (show seatB x = true by simp [seatB, h1, h2]))⟩, ⟨rfl, rfl, rfl, rfl, trivial⟩, rfl⟩
  · conv => whnf
    repeat (first | (refine LoadV.s rfl rfl (forceV_of ?_); conv => whnf) | (refine LoadV.s rfl rfl ?_; conv => whnf) | (refine StoreV.c rfl rfl (Nat.le_of_ble_eq_true rfl) rfl ?_; conv => whnf) | (refine LoadV.a _ rfl (Nat.le_of_ble_eq_true rfl) ?_; conv => whnf) | (refine DrawI.quiet (by kernel_rfl) (by kernel_rfl) ?_; conv => whnf) | (refine ArI.in64 (by omega) ?_; conv => whnf) | (refine ArI.inU8 (by omega) ?_; conv => whnf) | (refine ArI.inU64 (by omega) ?_; conv => whnf) | (refine ArI.inU32 (by omega) ?_; conv => whnf) | (refine RetI.one Try.results55 rfl ?_; conv => whnf) | (refine RetI.two Try.results55 rfl rfl ?_; conv => whnf) | (refine RetI.three Try.results55 rfl rfl rfl ?_; conv => whnf) | (refine RetI.none Try.results55 ?_; conv => whnf) | (refine ⟨by first | decide | omega, ?_⟩; conv => whnf))
    refine ⟨_, Sub.sel [] rfl, ret_bool ?_, rfl⟩
    have hie : i = xs.length := by omega
    rw [hie, List.take_length] at hall
    rw [show xs.all seatB = true from List.all_eq_true.2 hall]
    rfl
theorem btw_split {n lo hi : Int} (h : ¬ n < lo) (h2 : ¬ hi + 1 ≤ n) : btw n lo hi = true := by unfold btw; rw [decide_eq_true (by omega), decide_eq_true (by omega)]; rfl
theorem btw_no {n lo hi : Int} (h : n < lo ∨ hi + 1 ≤ n) : btw n lo hi = false := by
  unfold btw
  rcases h with h | h
  · rw [decide_eq_false (by omega)]; rfl
  · rw [decide_eq_false (show ¬ n ≤ hi by omega)]; simp
set_option maxHeartbeats 2000000 in
theorem grekey_ok (F : Mem) (m : Msg) (s : Sls) (hr : Rows14 F m s) (hz : Sz m) : FT Try.prog 32 [.agg (rkV m s).toArray].toArray F [] (Ret (.bool (gRk m))) := by
  have z1 := hz.L; have z2 := hz.J; have z3 := hz.I
  refine FT.of_body Try.func32 rfl Try.ntmps32 (by simp) fun C hC => ?_
  subst hC
  conv => whnf
  intro b
  conv => whnf
  refine LoadV.s rfl rfl ?_
  conv => whnf
  refine CallS.mk Try.call54 ⟨[], _, _, Sub.refl _, fun F' hF' => repoch_ok F' m.ep, ?_⟩
  rintro e A' ⟨rfl, rfl⟩
  cases h1 : btw m.ep 1 200 with
  | false =>
    conv => whnf
    repeat (first | (refine LoadV.s rfl rfl (forceV_of ?_); conv => whnf) | (refine LoadV.s rfl rfl ?_; conv => whnf) | (refine StoreV.c rfl rfl (Nat.le_of_ble_eq_true rfl) rfl ?_; conv => whnf) | (refine LoadV.a _ rfl (Nat.le_of_ble_eq_true rfl) ?_; conv => whnf) | (refine DrawI.quiet (by kernel_rfl) (by kernel_rfl) ?_; conv => whnf) | (refine ArI.in64 (by omega) ?_; conv => whnf) | (refine ArI.inU8 (by omega) ?_; conv => whnf) | (refine ArI.inU64 (by omega) ?_; conv => whnf) | (refine ArI.inU32 (by omega) ?_; conv => whnf) | (refine RetI.one Try.results32 rfl ?_; conv => whnf) | (refine RetI.two Try.results32 rfl rfl ?_; conv => whnf) | (refine RetI.three Try.results32 rfl rfl rfl ?_; conv => whnf) | (refine RetI.none Try.results32 ?_; conv => whnf) | (refine ⟨by first | decide | omega, ?_⟩; conv => whnf))
    exact ⟨_, Sub.sel [] rfl, ret_bool (by simp [gRk, h1]), rfl⟩
  | true =>
    conv => whnf
    refine LoadV.s rfl rfl ?_
    conv => whnf
    refine CallS.mk Try.call55 ⟨[], _, _, Sub.refl _, fun F' hF' => rgseats_ok F' s.oL s.cL m.L (hr.L.ext hF'.F) (by omega), ?_⟩
    rintro e A' ⟨rfl, rfl⟩
    cases h2 : (m.L.all seatB && decide ((m.L.length : Int) ≤ 64)) with
    | false =>
      conv => whnf
      repeat (first | (refine LoadV.s rfl rfl (forceV_of ?_); conv => whnf) | (refine LoadV.s rfl rfl ?_; conv => whnf) | (refine StoreV.c rfl rfl (Nat.le_of_ble_eq_true rfl) rfl ?_; conv => whnf) | (refine LoadV.a _ rfl (Nat.le_of_ble_eq_true rfl) ?_; conv => whnf) | (refine DrawI.quiet (by kernel_rfl) (by kernel_rfl) ?_; conv => whnf) | (refine ArI.in64 (by omega) ?_; conv => whnf) | (refine ArI.inU8 (by omega) ?_; conv => whnf) | (refine ArI.inU64 (by omega) ?_; conv => whnf) | (refine ArI.inU32 (by omega) ?_; conv => whnf) | (refine RetI.one Try.results32 rfl ?_; conv => whnf) | (refine RetI.two Try.results32 rfl rfl ?_; conv => whnf) | (refine RetI.three Try.results32 rfl rfl rfl ?_; conv => whnf) | (refine RetI.none Try.results32 ?_; conv => whnf) | (refine ⟨by first | decide | omega, ?_⟩; conv => whnf))
      exact ⟨_, Sub.sel [] rfl, ret_bool (by simp [gRk, h1, h2]), rfl⟩
    | true =>
      conv => whnf
      refine LoadV.s rfl rfl ?_
      conv => whnf
      refine CallS.mk Try.call55 ⟨[], _, _, Sub.refl _, fun F' hF' => rgseats_ok F' s.oJ s.cJ m.J (hr.J.ext hF'.F) (by omega), ?_⟩
      rintro e A' ⟨rfl, rfl⟩
      cases h3 : (m.J.all seatB && decide ((m.J.length : Int) ≤ 64)) with
      | false =>
        conv => whnf
        repeat (first | (refine LoadV.s rfl rfl (forceV_of ?_); conv => whnf) | (refine LoadV.s rfl rfl ?_; conv => whnf) | (refine StoreV.c rfl rfl (Nat.le_of_ble_eq_true rfl) rfl ?_; conv => whnf) | (refine LoadV.a _ rfl (Nat.le_of_ble_eq_true rfl) ?_; conv => whnf) | (refine DrawI.quiet (by kernel_rfl) (by kernel_rfl) ?_; conv => whnf) | (refine ArI.in64 (by omega) ?_; conv => whnf) | (refine ArI.inU8 (by omega) ?_; conv => whnf) | (refine ArI.inU64 (by omega) ?_; conv => whnf) | (refine ArI.inU32 (by omega) ?_; conv => whnf) | (refine RetI.one Try.results32 rfl ?_; conv => whnf) | (refine RetI.two Try.results32 rfl rfl ?_; conv => whnf) | (refine RetI.three Try.results32 rfl rfl rfl ?_; conv => whnf) | (refine RetI.none Try.results32 ?_; conv => whnf) | (refine ⟨by first | decide | omega, ?_⟩; conv => whnf))
        exact ⟨_, Sub.sel [] rfl, ret_bool (by simp [gRk, h1, h2, h3]), rfl⟩
      | true =>
        conv => whnf
        refine LoadV.s rfl rfl ?_
        conv => whnf
        refine cond_dec (fun h4 => ?_) (fun h4 => ?_)
        · conv => whnf
          repeat (first | (refine LoadV.s rfl rfl (forceV_of ?_); conv => whnf) | (refine LoadV.s rfl rfl ?_; conv => whnf) | (refine StoreV.c rfl rfl (Nat.le_of_ble_eq_true rfl) rfl ?_; conv => whnf) | (refine LoadV.a _ rfl (Nat.le_of_ble_eq_true rfl) ?_; conv => whnf) | (refine DrawI.quiet (by kernel_rfl) (by kernel_rfl) ?_; conv => whnf) | (refine ArI.in64 (by omega) ?_; conv => whnf) | (refine ArI.inU8 (by omega) ?_; conv => whnf) | (refine ArI.inU64 (by omega) ?_; conv => whnf) | (refine ArI.inU32 (by omega) ?_; conv => whnf) | (refine RetI.one Try.results32 rfl ?_; conv => whnf) | (refine RetI.two Try.results32 rfl rfl ?_; conv => whnf) | (refine RetI.three Try.results32 rfl rfl rfl ?_; conv => whnf) | (refine RetI.none Try.results32 ?_; conv => whnf) | (refine ⟨by first | decide | omega, ?_⟩; conv => whnf))
          refine ⟨_, Sub.sel [] rfl, ret_bool ?_, rfl⟩
          unfold gRk
          rw [decide_eq_false (show ¬ (m.I.length : Int) ≤ 1536 by omega)]; simp
        · have hgr : gRk m = m.I.all itemB := by
            unfold gRk
            rw [h1, h2, h3, decide_eq_true (show (m.I.length : Int) ≤ 1536 by omega)]; simp
          rw [hgr]
          conv => whnf
          refine LoadV.s rfl rfl ?_
          conv => whnf
          refine LoopI.by_state (σ := Nat) (fun i => [(28, .slice s.oI m.I.length s.cI), (29, .int .i64 (m.I.length : Int)), (30, .int .i64 (i : Int))]) (fun _ => []) (fun i => i ≤ m.I.length ∧ ∀ x ∈ m.I.take i, itemB x = true) (fun i => m.I.length - i) 0 ⟨Nat.zero_le _, by simp⟩ ⟨rfl, rfl, rfl, trivial⟩ (Sub.sel [] rfl) ?_
          rintro i f0 ⟨hi, hall⟩
          conv => whnf
          refine cond_dec (fun h => ?_) (fun h => ?_)
          · have hil : i < m.I.length := by omega
            have hri := hr.I
            obtain ⟨xb, yb, hoI, hrb⟩ := hri.at (i := i) hil
            rw [hoI]
            conv => whnf
            refine ⟨by omega, ?_⟩
            conv => whnf
            refine LoadV.fa (cs := itemF (m.I[i])) (flat_row itemF_length hrb hil rfl) rfl ?_
            obtain ⟨x, hx⟩ : ∃ x, x = m.I[i] := ⟨_, rfl⟩
            rw [← hx]
            have hbad : itemB x = false → m.I.all itemB = false := fun hb => by
              rw [List.all_eq_false]; exact ⟨x, hx ▸ List.getElem_mem hil, by simp [hb]⟩
            conv => whnf
            intro c
            conv => whnf
            refine StoreV.c rfl rfl (Nat.le_of_ble_eq_true rfl) rfl ?_
            conv => whnf
            refine LoadV.s rfl rfl ?_
            conv => whnf
            refine cond_dec (fun k1 => ?_) (fun k1 => ?_)
            · conv => whnf
              repeat (first | (refine LoadV.s rfl rfl (forceV_of ?_); conv => whnf) | (refine LoadV.s rfl rfl ?_; conv => whnf) | (refine StoreV.c rfl rfl (Nat.le_of_ble_eq_true rfl) rfl ?_; conv => whnf) | (refine LoadV.a _ rfl (Nat.le_of_ble_eq_true rfl) ?_; conv => whnf) | (refine DrawI.quiet (by kernel_rfl) (by kernel_rfl) ?_; conv => whnf) | (refine ArI.in64 (by omega) ?_; conv => whnf) | (refine ArI.inU8 (by omega) ?_; conv => whnf) | (refine ArI.inU64 (by omega) ?_; conv => whnf) | (refine ArI.inU32 (by omega) ?_; conv => whnf) | (refine RetI.one Try.results32 rfl ?_; conv => whnf) | (refine RetI.two Try.results32 rfl rfl ?_; conv => whnf) | (refine RetI.three Try.results32 rfl rfl rfl ?_; conv => whnf) | (refine RetI.none Try.results32 ?_; conv => whnf) | (refine ⟨by first | decide | omega, ?_⟩; conv => whnf))
              exact ⟨_, Sub.sel [] rfl, ret_bool (hbad (by unfold itemB; rw [btw_no (.inl k1)]; rfl)).symm, rfl⟩
            · conv => whnf
              refine LoadV.s rfl rfl ?_
              conv => whnf
              refine cond_dec (fun k2 => ?_) (fun k2 => ?_)
              · conv => whnf
                repeat (first | (refine LoadV.s rfl rfl (forceV_of ?_); conv => whnf) | (refine LoadV.s rfl rfl ?_; conv => whnf) | (refine StoreV.c rfl rfl (Nat.le_of_ble_eq_true rfl) rfl ?_; conv => whnf) | (refine LoadV.a _ rfl (Nat.le_of_ble_eq_true rfl) ?_; conv => whnf) | (refine DrawI.quiet (by kernel_rfl) (by kernel_rfl) ?_; conv => whnf) | (refine ArI.in64 (by omega) ?_; conv => whnf) | (refine ArI.inU8 (by omega) ?_; conv => whnf) | (refine ArI.inU64 (by omega) ?_; conv => whnf) | (refine ArI.inU32 (by omega) ?_; conv => whnf) | (refine RetI.one Try.results32 rfl ?_; conv => whnf) | (refine RetI.two Try.results32 rfl rfl ?_; conv => whnf) | (refine RetI.three Try.results32 rfl rfl rfl ?_; conv => whnf) | (refine RetI.none Try.results32 ?_; conv => whnf) | (refine ⟨by first | decide | omega, ?_⟩; conv => whnf))
                exact ⟨_, Sub.sel [] rfl, ret_bool (hbad (by unfold itemB; rw [btw_no (.inr (by omega))]; rfl)).symm, rfl⟩
              · have k3 : btw x.1 0 20 = true := btw_split k1 (by omega)
                conv => whnf
                refine LoadV.s rfl rfl ?_
                conv => whnf
                refine LoadV.s rfl rfl ?_
                conv => whnf
                cases k4 : (x.2.1 == x.1) with
                | true =>
                  conv => whnf
                  repeat (first | (refine LoadV.s rfl rfl (forceV_of ?_); conv => whnf) | (refine LoadV.s rfl rfl ?_; conv => whnf) | (refine StoreV.c rfl rfl (Nat.le_of_ble_eq_true rfl) rfl ?_; conv => whnf) | (refine LoadV.a _ rfl (Nat.le_of_ble_eq_true rfl) ?_; conv => whnf) | (refine DrawI.quiet (by kernel_rfl) (by kernel_rfl) ?_; conv => whnf) | (refine ArI.in64 (by omega) ?_; conv => whnf) | (refine ArI.inU8 (by omega) ?_; conv => whnf) | (refine ArI.inU64 (by omega) ?_; conv => whnf) | (refine ArI.inU32 (by omega) ?_; conv => whnf) | (refine RetI.one Try.results32 rfl ?_; conv => whnf) | (refine RetI.two Try.results32 rfl rfl ?_; conv => whnf) | (refine RetI.three Try.results32 rfl rfl rfl ?_; conv => whnf) | (refine RetI.none Try.results32 ?_; conv => whnf) | (refine ⟨by first | decide | omega, ?_⟩; conv => whnf))
                  exact ⟨_, Sub.sel [] rfl, ret_bool (hbad (by unfold itemB; rw [k3, show (x.2.1 != x.1) = false by simp [bne, k4]]; rfl)).symm, rfl⟩
                | false =>
                  have k5 : (x.2.1 != x.1) = true := by simp [bne, k4]
                  conv => whnf
                  refine LoadV.s rfl rfl ?_
                  conv => whnf
                  refine LoadV.s rfl rfl ?_
                  conv => whnf
                  refine CallS.mk Try.call56 ⟨[], _, _, Sub.refl _, fun F' hF' => rbelow_ok F' x.1 x.2.1, ?_⟩
                  rintro e A' ⟨rfl, rfl⟩
                  cases k6 : isBelow x.1 x.2.1 with
                  | false =>
                    conv => whnf
                    repeat (first | (refine LoadV.s rfl rfl (forceV_of ?_); conv => whnf) | (refine LoadV.s rfl rfl ?_; conv => whnf) | (refine StoreV.c rfl rfl (Nat.le_of_ble_eq_true rfl) rfl ?_; conv => whnf) | (refine LoadV.a _ rfl (Nat.le_of_ble_eq_true rfl) ?_; conv => whnf) | (refine DrawI.quiet (by kernel_rfl) (by kernel_rfl) ?_; conv => whnf) | (refine ArI.in64 (by omega) ?_; conv => whnf) | (refine ArI.inU8 (by omega) ?_; conv => whnf) | (refine ArI.inU64 (by omega) ?_; conv => whnf) | (refine ArI.inU32 (by omega) ?_; conv => whnf) | (refine RetI.one Try.results32 rfl ?_; conv => whnf) | (refine RetI.two Try.results32 rfl rfl ?_; conv => whnf) | (refine RetI.three Try.results32 rfl rfl rfl ?_; conv => whnf) | (refine RetI.none Try.results32 ?_; conv => whnf) | (refine ⟨by first | decide | omega, ?_⟩; conv => whnf))
                    exact ⟨_, Sub.sel [] rfl, ret_bool (hbad (by unfold itemB; rw [k3, k5, k6]; rfl)).symm, rfl⟩
                  | true =>
                    conv => whnf
                    refine LoadV.a 4 rfl (Nat.le_of_ble_eq_true rfl) ?_
                    conv => whnf
                    refine CallS.mk Try.call57 ⟨[], _, _, Sub.refl _, fun F' hF' => r2box_ok F' x.2.2, ?_⟩
                    rintro e A' ⟨rfl, rfl⟩
                    cases k7 : bxB x.2.2 with
                    | false =>
                      conv => whnf
                      repeat (first | (refine LoadV.s rfl rfl (forceV_of ?_); conv => whnf) | (refine LoadV.s rfl rfl ?_; conv => whnf) | (refine StoreV.c rfl rfl (Nat.le_of_ble_eq_true rfl) rfl ?_; conv => whnf) | (refine LoadV.a _ rfl (Nat.le_of_ble_eq_true rfl) ?_; conv => whnf) | (refine DrawI.quiet (by kernel_rfl) (by kernel_rfl) ?_; conv => whnf) | (refine ArI.in64 (by omega) ?_; conv => whnf) | (refine ArI.inU8 (by omega) ?_; conv => whnf) | (refine ArI.inU64 (by omega) ?_; conv => whnf) | (refine ArI.inU32 (by omega) ?_; conv => whnf) | (refine RetI.one Try.results32 rfl ?_; conv => whnf) | (refine RetI.two Try.results32 rfl rfl ?_; conv => whnf) | (refine RetI.three Try.results32 rfl rfl rfl ?_; conv => whnf) | (refine RetI.none Try.results32 ?_; conv => whnf) | (refine ⟨by first | decide | omega, ?_⟩; conv => whnf))
                      exact ⟨_, Sub.sel [] rfl, ret_bool (hbad (by unfold itemB; rw [k3, k5, k6, k7]; rfl)).symm, rfl⟩
                    | true =>
                      conv => whnf
                      refine ArI.to64 ((i + 1 : Nat) : Int) (by omega) (by omega) ?_
                      conv => whnf
                      exact ⟨i + 1, [], by omega, Sub.sel [] rfl, ⟨by omega, all_take hall hil (hx ▸ (show itemB x = true by unfold itemB; rw [k3, k5, k6, k7]; rfl))⟩, ⟨rfl, rfl, rfl, trivial⟩, rfl⟩
          · conv => whnf
            repeat (first | (refine LoadV.s rfl rfl (forceV_of ?_); conv => whnf) | (refine LoadV.s rfl rfl ?_; conv => whnf) | (refine StoreV.c rfl rfl (Nat.le_of_ble_eq_true rfl) rfl ?_; conv => whnf) | (refine LoadV.a _ rfl (Nat.le_of_ble_eq_true rfl) ?_; conv => whnf) | (refine DrawI.quiet (by kernel_rfl) (by kernel_rfl) ?_; conv => whnf) | (refine ArI.in64 (by omega) ?_; conv => whnf) | (refine ArI.inU8 (by omega) ?_; conv => whnf) | (refine ArI.inU64 (by omega) ?_; conv => whnf) | (refine ArI.inU32 (by omega) ?_; conv => whnf) | (refine RetI.one Try.results32 rfl ?_; conv => whnf) | (refine RetI.two Try.results32 rfl rfl ?_; conv => whnf) | (refine RetI.three Try.results32 rfl rfl rfl ?_; conv => whnf) | (refine RetI.none Try.results32 ?_; conv => whnf) | (refine ⟨by first | decide | omega, ?_⟩; conv => whnf))
            refine ⟨_, Sub.sel [] rfl, ret_bool ?_, rfl⟩
            have hie : i = m.I.length := by omega
            rw [hie, List.take_length] at hall
            exact (List.all_eq_true.2 hall).symm
theorem greq_ok (F : Mem) (m : Msg) : FT Try.prog 33 [.agg (rqV m).toArray].toArray F [] (Ret (.bool (gRq m))) := by
  refine FT.of_body Try.func33 rfl Try.ntmps33 (by simp) fun C hC => ?_
  subst hC
  conv => whnf
  intro b
  conv => whnf
  refine LoadV.s rfl rfl ?_
  conv => whnf
  refine CallS.mk Try.call58 ⟨[], _, _, Sub.refl _, fun F' hF' => person_ok F' m.qw, ?_⟩
  rintro e A' ⟨rfl, rfl⟩
  cases h1 : btw m.qw 0 255 with
  | false =>
    conv => whnf
    repeat (first | (refine LoadV.s rfl rfl (forceV_of ?_); conv => whnf) | (refine LoadV.s rfl rfl ?_; conv => whnf) | (refine StoreV.c rfl rfl (Nat.le_of_ble_eq_true rfl) rfl ?_; conv => whnf) | (refine LoadV.a _ rfl (Nat.le_of_ble_eq_true rfl) ?_; conv => whnf) | (refine DrawI.quiet (by kernel_rfl) (by kernel_rfl) ?_; conv => whnf) | (refine ArI.in64 (by omega) ?_; conv => whnf) | (refine ArI.inU8 (by omega) ?_; conv => whnf) | (refine ArI.inU64 (by omega) ?_; conv => whnf) | (refine ArI.inU32 (by omega) ?_; conv => whnf) | (refine RetI.one Try.results33 rfl ?_; conv => whnf) | (refine RetI.two Try.results33 rfl rfl ?_; conv => whnf) | (refine RetI.three Try.results33 rfl rfl rfl ?_; conv => whnf) | (refine RetI.none Try.results33 ?_; conv => whnf) | (refine ⟨by first | decide | omega, ?_⟩; conv => whnf))
    exact ⟨_, Sub.sel [] rfl, ret_bool (by simp [gRq, seatB, h1]), rfl⟩
  | true =>
    conv => whnf
    refine LoadV.s rfl rfl ?_
    conv => whnf
    refine CallS.mk Try.call54 ⟨[], _, _, Sub.refl _, fun F' hF' => repoch_ok F' m.qe, ?_⟩
    rintro e A' ⟨rfl, rfl⟩
    conv => whnf
    repeat (first | (refine LoadV.s rfl rfl (forceV_of ?_); conv => whnf) | (refine LoadV.s rfl rfl ?_; conv => whnf) | (refine StoreV.c rfl rfl (Nat.le_of_ble_eq_true rfl) rfl ?_; conv => whnf) | (refine LoadV.a _ rfl (Nat.le_of_ble_eq_true rfl) ?_; conv => whnf) | (refine DrawI.quiet (by kernel_rfl) (by kernel_rfl) ?_; conv => whnf) | (refine ArI.in64 (by omega) ?_; conv => whnf) | (refine ArI.inU8 (by omega) ?_; conv => whnf) | (refine ArI.inU64 (by omega) ?_; conv => whnf) | (refine ArI.inU32 (by omega) ?_; conv => whnf) | (refine RetI.one Try.results33 rfl ?_; conv => whnf) | (refine RetI.two Try.results33 rfl rfl ?_; conv => whnf) | (refine RetI.three Try.results33 rfl rfl rfl ?_; conv => whnf) | (refine RetI.none Try.results33 ?_; conv => whnf) | (refine ⟨by first | decide | omega, ?_⟩; conv => whnf))
    exact ⟨_, Sub.sel [] rfl, ret_bool (by unfold gRq seatB; rw [h1]; rfl), rfl⟩
theorem gsea_ok (F : Mem) (m : Msg) (hz : Sz m) : FT Try.prog 35 [.agg (seV m).toArray].toArray F [] (Ret (.bool (gSe m))) := by
  have z4 := hz.tx
  refine FT.of_body Try.func35 rfl Try.ntmps35 (by simp) fun C hC => ?_
  subst hC
  conv => whnf
  intro b
  conv => whnf
  refine LoadV.s rfl rfl ?_
  conv => whnf
  refine CallS.mk Try.call54 ⟨[], _, _, Sub.refl _, fun F' hF' => repoch_ok F' m.se, ?_⟩
  rintro e A' ⟨rfl, rfl⟩
  cases h1 : btw m.se 1 200 with
  | false =>
    conv => whnf
    repeat (first | (refine LoadV.s rfl rfl (forceV_of ?_); conv => whnf) | (refine LoadV.s rfl rfl ?_; conv => whnf) | (refine StoreV.c rfl rfl (Nat.le_of_ble_eq_true rfl) rfl ?_; conv => whnf) | (refine LoadV.a _ rfl (Nat.le_of_ble_eq_true rfl) ?_; conv => whnf) | (refine DrawI.quiet (by kernel_rfl) (by kernel_rfl) ?_; conv => whnf) | (refine ArI.in64 (by omega) ?_; conv => whnf) | (refine ArI.inU8 (by omega) ?_; conv => whnf) | (refine ArI.inU64 (by omega) ?_; conv => whnf) | (refine ArI.inU32 (by omega) ?_; conv => whnf) | (refine RetI.one Try.results35 rfl ?_; conv => whnf) | (refine RetI.two Try.results35 rfl rfl ?_; conv => whnf) | (refine RetI.three Try.results35 rfl rfl rfl ?_; conv => whnf) | (refine RetI.none Try.results35 ?_; conv => whnf) | (refine ⟨by first | decide | omega, ?_⟩; conv => whnf))
    exact ⟨_, Sub.sel [] rfl, ret_bool (by simp [gSe, h1]), rfl⟩
  | true =>
    conv => whnf
    refine LoadV.a 2 rfl (Nat.le_of_ble_eq_true rfl) ?_
    conv => whnf
    refine CallS.mk Try.call60 ⟨[], _, _, Sub.refl _, fun F' hF' => r2good_ok F' m.sb m.ss, ?_⟩
    rintro e A' ⟨rfl, rfl⟩
    cases h2 : keyB m.sb m.ss with
    | false =>
      conv => whnf
      repeat (first | (refine LoadV.s rfl rfl (forceV_of ?_); conv => whnf) | (refine LoadV.s rfl rfl ?_; conv => whnf) | (refine StoreV.c rfl rfl (Nat.le_of_ble_eq_true rfl) rfl ?_; conv => whnf) | (refine LoadV.a _ rfl (Nat.le_of_ble_eq_true rfl) ?_; conv => whnf) | (refine DrawI.quiet (by kernel_rfl) (by kernel_rfl) ?_; conv => whnf) | (refine ArI.in64 (by omega) ?_; conv => whnf) | (refine ArI.inU8 (by omega) ?_; conv => whnf) | (refine ArI.inU64 (by omega) ?_; conv => whnf) | (refine ArI.inU32 (by omega) ?_; conv => whnf) | (refine RetI.one Try.results35 rfl ?_; conv => whnf) | (refine RetI.two Try.results35 rfl rfl ?_; conv => whnf) | (refine RetI.three Try.results35 rfl rfl rfl ?_; conv => whnf) | (refine RetI.none Try.results35 ?_; conv => whnf) | (refine ⟨by first | decide | omega, ?_⟩; conv => whnf))
      exact ⟨_, Sub.sel [] rfl, ret_bool (by simp [gSe, h1, h2]), rfl⟩
    | true =>
      conv => whnf
      refine LoadV.s rfl rfl ?_
      conv => whnf
      repeat (first | (refine LoadV.s rfl rfl (forceV_of ?_); conv => whnf) | (refine LoadV.s rfl rfl ?_; conv => whnf) | (refine StoreV.c rfl rfl (Nat.le_of_ble_eq_true rfl) rfl ?_; conv => whnf) | (refine LoadV.a _ rfl (Nat.le_of_ble_eq_true rfl) ?_; conv => whnf) | (refine DrawI.quiet (by kernel_rfl) (by kernel_rfl) ?_; conv => whnf) | (refine ArI.in64 (by omega) ?_; conv => whnf) | (refine ArI.inU8 (by omega) ?_; conv => whnf) | (refine ArI.inU64 (by omega) ?_; conv => whnf) | (refine ArI.inU32 (by omega) ?_; conv => whnf) | (refine RetI.one Try.results35 rfl ?_; conv => whnf) | (refine RetI.two Try.results35 rfl rfl ?_; conv => whnf) | (refine RetI.three Try.results35 rfl rfl rfl ?_; conv => whnf) | (refine RetI.none Try.results35 ?_; conv => whnf) | (refine ⟨by first | decide | omega, ?_⟩; conv => whnf))
      exact ⟨_, Sub.sel [] rfl, ret_bool (by unfold gSe; rw [h1, h2]; rfl), rfl⟩
theorem grep_ok (F : Mem) (m : Msg) : FT Try.prog 34 [.agg (rpV m).toArray].toArray F [] (Ret (.bool (gRp m))) := by
  refine FT.of_body Try.func34 rfl Try.ntmps34 (by simp) fun C hC => ?_
  subst hC
  conv => whnf
  intro b
  conv => whnf
  refine LoopI.by_state (σ := Nat) (fun i => [(1, .pointer (some ⟨b, 0, none⟩)), (3, .int .i64 (i : Int))]) (fun _ => [.cells b (rpV m) 34 (0, 0)]) (fun i => i ≤ 3 ∧ ∀ x ∈ [m.b0, m.b1, m.b2].take i, bxB x = true) (fun i => 3 - i) 0 ⟨Nat.zero_le _, by simp⟩ ⟨rfl, rfl, trivial⟩ (Sub.refl _) ?_
  rintro i f0 ⟨hi, hall⟩
  conv => whnf
  refine cond_dec (fun h => ?_) (fun h => ?_)
  · have hil : i < [m.b0, m.b1, m.b2].length := by simp only [List.length_cons, List.length_nil]; omega
    have hix : ∃ x, x = [m.b0, m.b1, m.b2][i] ∧ ((rpV m).drop (3 + i * 4)).take 4 = bxF x := by
      refine ⟨_, rfl, ?_⟩
      have h3 : i = 0 ∨ i = 1 ∨ i = 2 := by omega
      rcases h3 with rfl | rfl | rfl <;> rfl
    obtain ⟨x, hx, hmk⟩ := hix
    have hbad : bxB x = false → gRp m = false := fun hb => by
      unfold gRp
      rw [show [m.b0, m.b1, m.b2].all bxB = false from by rw [List.all_eq_false]; exact ⟨x, hx ▸ List.getElem_mem hil, by simp [hb]⟩]; simp
    conv => whnf
    refine ⟨by omega, ?_⟩
    conv => whnf
    refine (show LoadV _ _ _ ⟨b, 3 + i * 4, none⟩ _ _ from ?_)
    refine LoadV.a (l := rpV m) 4 rfl (by show 3 + i * 4 + 4 ≤ 15; omega) ?_
    rw [hmk]
    conv => whnf
    refine CallS.mk Try.call57 ⟨[], _, _, Sub.refl _, fun F' hF' => r2box_ok F' x, ?_⟩
    rintro e A' ⟨rfl, rfl⟩
    cases hb : bxB x with
    | false =>
      conv => whnf
      repeat (first | (refine LoadV.s rfl rfl (forceV_of ?_); conv => whnf) | (refine LoadV.s rfl rfl ?_; conv => whnf) | (refine StoreV.c rfl rfl (Nat.le_of_ble_eq_true rfl) rfl ?_; conv => whnf) | (refine LoadV.a _ rfl (Nat.le_of_ble_eq_true rfl) ?_; conv => whnf) | (refine DrawI.quiet (by kernel_rfl) (by kernel_rfl) ?_; conv => whnf) | (refine ArI.in64 (by omega) ?_; conv => whnf) | (refine ArI.inU8 (by omega) ?_; conv => whnf) | (refine ArI.inU64 (by omega) ?_; conv => whnf) | (refine ArI.inU32 (by omega) ?_; conv => whnf) | (refine RetI.one Try.results34 rfl ?_; conv => whnf) | (refine RetI.two Try.results34 rfl rfl ?_; conv => whnf) | (refine RetI.three Try.results34 rfl rfl rfl ?_; conv => whnf) | (refine RetI.none Try.results34 ?_; conv => whnf) | (refine ⟨by first | decide | omega, ?_⟩; conv => whnf))
      exact ⟨_, Sub.sel [] rfl, ret_bool (hbad hb).symm, rfl⟩
    | true =>
      conv => whnf
      refine ArI.to64 ((i + 1 : Nat) : Int) (by omega) (by omega) ?_
      conv => whnf
      exact ⟨i + 1, _, by omega, Sub.refl _, ⟨by omega, all_take hall hil (hx ▸ hb)⟩, ⟨rfl, rfl, trivial⟩, rfl⟩
  · have hie : i = [m.b0, m.b1, m.b2].length := by simp only [List.length_cons, List.length_nil]; omega
    rw [hie, List.take_length] at hall
    have hb3 : [m.b0, m.b1, m.b2].all bxB = true := List.all_eq_true.2 hall
    conv => whnf
    refine LoadV.s rfl rfl ?_
    conv => whnf
    refine CallS.mk Try.call58 ⟨[], _, _, Sub.refl _, fun F' hF' => person_ok F' m.pw, ?_⟩
    rintro e A' ⟨rfl, rfl⟩
    cases h1 : btw m.pw 0 255 with
    | false =>
      conv => whnf
      repeat (first | (refine LoadV.s rfl rfl (forceV_of ?_); conv => whnf) | (refine LoadV.s rfl rfl ?_; conv => whnf) | (refine StoreV.c rfl rfl (Nat.le_of_ble_eq_true rfl) rfl ?_; conv => whnf) | (refine LoadV.a _ rfl (Nat.le_of_ble_eq_true rfl) ?_; conv => whnf) | (refine DrawI.quiet (by kernel_rfl) (by kernel_rfl) ?_; conv => whnf) | (refine ArI.in64 (by omega) ?_; conv => whnf) | (refine ArI.inU8 (by omega) ?_; conv => whnf) | (refine ArI.inU64 (by omega) ?_; conv => whnf) | (refine ArI.inU32 (by omega) ?_; conv => whnf) | (refine RetI.one Try.results34 rfl ?_; conv => whnf) | (refine RetI.two Try.results34 rfl rfl ?_; conv => whnf) | (refine RetI.three Try.results34 rfl rfl rfl ?_; conv => whnf) | (refine RetI.none Try.results34 ?_; conv => whnf) | (refine ⟨by first | decide | omega, ?_⟩; conv => whnf))
      exact ⟨_, Sub.sel [] rfl, ret_bool (by simp [gRp, seatB, h1]), rfl⟩
    | true =>
      conv => whnf
      refine LoadV.s rfl rfl ?_
      conv => whnf
      refine CallS.mk Try.call59 ⟨[], _, _, Sub.refl _, fun F' hF' => slot14_ok F' m.ps, ?_⟩
      rintro e A' ⟨rfl, rfl⟩
      cases h2 : btw m.ps 0 63 with
      | false =>
        conv => whnf
        repeat (first | (refine LoadV.s rfl rfl (forceV_of ?_); conv => whnf) | (refine LoadV.s rfl rfl ?_; conv => whnf) | (refine StoreV.c rfl rfl (Nat.le_of_ble_eq_true rfl) rfl ?_; conv => whnf) | (refine LoadV.a _ rfl (Nat.le_of_ble_eq_true rfl) ?_; conv => whnf) | (refine DrawI.quiet (by kernel_rfl) (by kernel_rfl) ?_; conv => whnf) | (refine ArI.in64 (by omega) ?_; conv => whnf) | (refine ArI.inU8 (by omega) ?_; conv => whnf) | (refine ArI.inU64 (by omega) ?_; conv => whnf) | (refine ArI.inU32 (by omega) ?_; conv => whnf) | (refine RetI.one Try.results34 rfl ?_; conv => whnf) | (refine RetI.two Try.results34 rfl rfl ?_; conv => whnf) | (refine RetI.three Try.results34 rfl rfl rfl ?_; conv => whnf) | (refine RetI.none Try.results34 ?_; conv => whnf) | (refine ⟨by first | decide | omega, ?_⟩; conv => whnf))
        exact ⟨_, Sub.sel [] rfl, ret_bool (by simp [gRp, seatB, h1, h2]), rfl⟩
      | true =>
        conv => whnf
        refine LoadV.s rfl rfl ?_
        conv => whnf
        refine CallS.mk Try.call54 ⟨[], _, _, Sub.refl _, fun F' hF' => repoch_ok F' m.pe, ?_⟩
        rintro e A' ⟨rfl, rfl⟩
        conv => whnf
        repeat (first | (refine LoadV.s rfl rfl (forceV_of ?_); conv => whnf) | (refine LoadV.s rfl rfl ?_; conv => whnf) | (refine StoreV.c rfl rfl (Nat.le_of_ble_eq_true rfl) rfl ?_; conv => whnf) | (refine LoadV.a _ rfl (Nat.le_of_ble_eq_true rfl) ?_; conv => whnf) | (refine DrawI.quiet (by kernel_rfl) (by kernel_rfl) ?_; conv => whnf) | (refine ArI.in64 (by omega) ?_; conv => whnf) | (refine ArI.inU8 (by omega) ?_; conv => whnf) | (refine ArI.inU64 (by omega) ?_; conv => whnf) | (refine ArI.inU32 (by omega) ?_; conv => whnf) | (refine RetI.one Try.results34 rfl ?_; conv => whnf) | (refine RetI.two Try.results34 rfl rfl ?_; conv => whnf) | (refine RetI.three Try.results34 rfl rfl rfl ?_; conv => whnf) | (refine RetI.none Try.results34 ?_; conv => whnf) | (refine ⟨by first | decide | omega, ?_⟩; conv => whnf))
        exact ⟨_, Sub.sel [] rfl, ret_bool (by unfold gRp seatB; rw [h1, h2, hb3]; simp), rfl⟩
theorem sameRk_zero (m : Msg) : sameRk m zMsg = e0 m := by
  unfold sameRk e0
  rw [Bool.eq_iff_iff]
  simp only [Bool.and_eq_true, beq_iff_eq, decide_eq_true_eq]
  constructor
  · rintro ⟨⟨⟨h1, h2⟩, h3⟩, h4⟩
    exact ⟨h1, by rw [h2, h3, h4]; rfl⟩
  · rintro ⟨h1, h2⟩
    exact ⟨⟨⟨h1, List.eq_nil_of_length_eq_zero (by omega)⟩, List.eq_nil_of_length_eq_zero (by omega)⟩, List.eq_nil_of_length_eq_zero (by omega)⟩
theorem zero_rows (F : Mem) : Rows14 F zMsg zSls := ⟨SlF.nil, SlF.nil, SlF.nil⟩
set_option maxHeartbeats 4000000 in
theorem rgood_ok (F : Mem) (m : Msg) (s : Sls) (hr : Rows14 F m s) (hz : Sz m) : FT Try.prog 10 [.agg (msgL m s).toArray].toArray F [] (Ret (.bool (goodB m))) := by
  refine FT.of_body Try.func10 rfl Try.ntmps10 (by simp) fun C hC => ?_
  subst hC
  conv => whnf
  intro b
  conv => whnf
  refine LoadV.a 4 rfl (Nat.le_of_ble_eq_true rfl) ?_
  conv => whnf
  refine CallS.mk Try.call31 ⟨[], _, _, Sub.refl _, fun F' hF' => same12_ok F' m zMsg s zSls (hr.ext hF'.F) (zero_rows F') hz, ?_⟩
  rintro e A' ⟨rfl, rfl⟩
  rw [sameRk_zero]
  conv => whnf
  refine LoadV.s rfl rfl ?_
  conv => whnf
  cases k1 : (m.kind == 1) with
  | true =>
    have hk : m.kind = 1 := eq_of_beq k1
    have hgood : goodB m = (gRk m && e1 m && e2 m && e3 m) := by unfold goodB; rw [if_pos hk]
    conv => whnf
    refine LoadV.a 4 rfl (Nat.le_of_ble_eq_true rfl) ?_
    conv => whnf
    refine CallS.mk Try.call32 ⟨[], _, _, Sub.refl _, fun F' hF' => grekey_ok F' m s (hr.ext hF'.F) hz, ?_⟩
    rintro e A' ⟨rfl, rfl⟩
    cases h1 : gRk m with
    | false =>
      conv => whnf
      repeat (first | (refine LoadV.s rfl rfl (forceV_of ?_); conv => whnf) | (refine LoadV.s rfl rfl ?_; conv => whnf) | (refine StoreV.c rfl rfl (Nat.le_of_ble_eq_true rfl) rfl ?_; conv => whnf) | (refine LoadV.a _ rfl (Nat.le_of_ble_eq_true rfl) ?_; conv => whnf) | (refine DrawI.quiet (by kernel_rfl) (by kernel_rfl) ?_; conv => whnf) | (refine ArI.in64 (by omega) ?_; conv => whnf) | (refine ArI.inU8 (by omega) ?_; conv => whnf) | (refine ArI.inU64 (by omega) ?_; conv => whnf) | (refine ArI.inU32 (by omega) ?_; conv => whnf) | (refine RetI.one Try.results10 rfl ?_; conv => whnf) | (refine RetI.two Try.results10 rfl rfl ?_; conv => whnf) | (refine RetI.three Try.results10 rfl rfl rfl ?_; conv => whnf) | (refine RetI.none Try.results10 ?_; conv => whnf) | (refine ⟨by first | decide | omega, ?_⟩; conv => whnf))
      exact ⟨_, Sub.sel [] rfl, ret_bool (by simp [hgood, h1]), rfl⟩
    | true =>
      conv => whnf
      refine LoadV.a 2 rfl (Nat.le_of_ble_eq_true rfl) ?_
      conv => whnf
      refine eqlAs (d := 10) (ks := [.i .i64, .i .i64]) (e1 m) rfl (by kernel_rfl) rfl (by kernel_rfl) rfl rfl rfl ?_
      cases h2 : e1 m with
      | false =>
        conv => whnf
        repeat (first | (refine LoadV.s rfl rfl (forceV_of ?_); conv => whnf) | (refine LoadV.s rfl rfl ?_; conv => whnf) | (refine StoreV.c rfl rfl (Nat.le_of_ble_eq_true rfl) rfl ?_; conv => whnf) | (refine LoadV.a _ rfl (Nat.le_of_ble_eq_true rfl) ?_; conv => whnf) | (refine DrawI.quiet (by kernel_rfl) (by kernel_rfl) ?_; conv => whnf) | (refine ArI.in64 (by omega) ?_; conv => whnf) | (refine ArI.inU8 (by omega) ?_; conv => whnf) | (refine ArI.inU64 (by omega) ?_; conv => whnf) | (refine ArI.inU32 (by omega) ?_; conv => whnf) | (refine RetI.one Try.results10 rfl ?_; conv => whnf) | (refine RetI.two Try.results10 rfl rfl ?_; conv => whnf) | (refine RetI.three Try.results10 rfl rfl rfl ?_; conv => whnf) | (refine RetI.none Try.results10 ?_; conv => whnf) | (refine ⟨by first | decide | omega, ?_⟩; conv => whnf))
        exact ⟨_, Sub.sel [] rfl, ret_bool (by simp [hgood, h1, h2]), rfl⟩
      | true =>
        conv => whnf
        refine LoadV.a 15 rfl (Nat.le_of_ble_eq_true rfl) ?_
        conv => whnf
        refine eqlAs (d := 10) (ks := List.replicate 15 (.i .i64)) (e2 m) rfl (by kernel_rfl) rfl (by kernel_rfl) rfl rfl rfl ?_
        cases h3 : e2 m with
        | false =>
          conv => whnf
          repeat (first | (refine LoadV.s rfl rfl (forceV_of ?_); conv => whnf) | (refine LoadV.s rfl rfl ?_; conv => whnf) | (refine StoreV.c rfl rfl (Nat.le_of_ble_eq_true rfl) rfl ?_; conv => whnf) | (refine LoadV.a _ rfl (Nat.le_of_ble_eq_true rfl) ?_; conv => whnf) | (refine DrawI.quiet (by kernel_rfl) (by kernel_rfl) ?_; conv => whnf) | (refine ArI.in64 (by omega) ?_; conv => whnf) | (refine ArI.inU8 (by omega) ?_; conv => whnf) | (refine ArI.inU64 (by omega) ?_; conv => whnf) | (refine ArI.inU32 (by omega) ?_; conv => whnf) | (refine RetI.one Try.results10 rfl ?_; conv => whnf) | (refine RetI.two Try.results10 rfl rfl ?_; conv => whnf) | (refine RetI.three Try.results10 rfl rfl rfl ?_; conv => whnf) | (refine RetI.none Try.results10 ?_; conv => whnf) | (refine ⟨by first | decide | omega, ?_⟩; conv => whnf))
          exact ⟨_, Sub.sel [] rfl, ret_bool (by simp [hgood, h1, h2, h3]), rfl⟩
        | true =>
          conv => whnf
          refine LoadV.a 4 rfl (Nat.le_of_ble_eq_true rfl) ?_
          conv => whnf
          refine eqlAs (d := 10) (ks := [.i .i64, .i .i64, .i .i64, .s]) (e3 m) rfl (by kernel_rfl) rfl (by kernel_rfl) rfl rfl rfl ?_
          conv => whnf
          repeat (first | (refine LoadV.s rfl rfl (forceV_of ?_); conv => whnf) | (refine LoadV.s rfl rfl ?_; conv => whnf) | (refine StoreV.c rfl rfl (Nat.le_of_ble_eq_true rfl) rfl ?_; conv => whnf) | (refine LoadV.a _ rfl (Nat.le_of_ble_eq_true rfl) ?_; conv => whnf) | (refine DrawI.quiet (by kernel_rfl) (by kernel_rfl) ?_; conv => whnf) | (refine ArI.in64 (by omega) ?_; conv => whnf) | (refine ArI.inU8 (by omega) ?_; conv => whnf) | (refine ArI.inU64 (by omega) ?_; conv => whnf) | (refine ArI.inU32 (by omega) ?_; conv => whnf) | (refine RetI.one Try.results10 rfl ?_; conv => whnf) | (refine RetI.two Try.results10 rfl rfl ?_; conv => whnf) | (refine RetI.three Try.results10 rfl rfl rfl ?_; conv => whnf) | (refine RetI.none Try.results10 ?_; conv => whnf) | (refine ⟨by first | decide | omega, ?_⟩; conv => whnf))
          exact ⟨_, Sub.sel [] rfl, ret_bool (by rw [hgood, h1, h2, h3]; simp), rfl⟩
  | false =>
    have hk1 : ¬ m.kind = 1 := fun e => by rw [e] at k1; cases k1
    conv => whnf
    cases k2 : (m.kind == 2) with
    | true =>
      have hk : m.kind = 2 := eq_of_beq k2
      have hgood : goodB m = (e0 m && gRq m && e2 m && e3 m) := by unfold goodB; rw [if_neg hk1, if_pos hk]
      conv => whnf
      cases h1 : e0 m with
      | false =>
        conv => whnf
        repeat (first | (refine LoadV.s rfl rfl (forceV_of ?_); conv => whnf) | (refine LoadV.s rfl rfl ?_; conv => whnf) | (refine StoreV.c rfl rfl (Nat.le_of_ble_eq_true rfl) rfl ?_; conv => whnf) | (refine LoadV.a _ rfl (Nat.le_of_ble_eq_true rfl) ?_; conv => whnf) | (refine DrawI.quiet (by kernel_rfl) (by kernel_rfl) ?_; conv => whnf) | (refine ArI.in64 (by omega) ?_; conv => whnf) | (refine ArI.inU8 (by omega) ?_; conv => whnf) | (refine ArI.inU64 (by omega) ?_; conv => whnf) | (refine ArI.inU32 (by omega) ?_; conv => whnf) | (refine RetI.one Try.results10 rfl ?_; conv => whnf) | (refine RetI.two Try.results10 rfl rfl ?_; conv => whnf) | (refine RetI.three Try.results10 rfl rfl rfl ?_; conv => whnf) | (refine RetI.none Try.results10 ?_; conv => whnf) | (refine ⟨by first | decide | omega, ?_⟩; conv => whnf))
        exact ⟨_, Sub.sel [] rfl, ret_bool (by simp [hgood, h1]), rfl⟩
      | true =>
        conv => whnf
        refine LoadV.a 2 rfl (Nat.le_of_ble_eq_true rfl) ?_
        conv => whnf
        refine CallS.mk Try.call33 ⟨[], _, _, Sub.refl _, fun F' hF' => greq_ok F' m, ?_⟩
        rintro e A' ⟨rfl, rfl⟩
        cases h2 : gRq m with
        | false =>
          conv => whnf
          repeat (first | (refine LoadV.s rfl rfl (forceV_of ?_); conv => whnf) | (refine LoadV.s rfl rfl ?_; conv => whnf) | (refine StoreV.c rfl rfl (Nat.le_of_ble_eq_true rfl) rfl ?_; conv => whnf) | (refine LoadV.a _ rfl (Nat.le_of_ble_eq_true rfl) ?_; conv => whnf) | (refine DrawI.quiet (by kernel_rfl) (by kernel_rfl) ?_; conv => whnf) | (refine ArI.in64 (by omega) ?_; conv => whnf) | (refine ArI.inU8 (by omega) ?_; conv => whnf) | (refine ArI.inU64 (by omega) ?_; conv => whnf) | (refine ArI.inU32 (by omega) ?_; conv => whnf) | (refine RetI.one Try.results10 rfl ?_; conv => whnf) | (refine RetI.two Try.results10 rfl rfl ?_; conv => whnf) | (refine RetI.three Try.results10 rfl rfl rfl ?_; conv => whnf) | (refine RetI.none Try.results10 ?_; conv => whnf) | (refine ⟨by first | decide | omega, ?_⟩; conv => whnf))
          exact ⟨_, Sub.sel [] rfl, ret_bool (by simp [hgood, h1, h2]), rfl⟩
        | true =>
          conv => whnf
          refine LoadV.a 15 rfl (Nat.le_of_ble_eq_true rfl) ?_
          conv => whnf
          refine eqlAs (d := 10) (ks := List.replicate 15 (.i .i64)) (e2 m) rfl (by kernel_rfl) rfl (by kernel_rfl) rfl rfl rfl ?_
          cases h3 : e2 m with
          | false =>
            conv => whnf
            repeat (first | (refine LoadV.s rfl rfl (forceV_of ?_); conv => whnf) | (refine LoadV.s rfl rfl ?_; conv => whnf) | (refine StoreV.c rfl rfl (Nat.le_of_ble_eq_true rfl) rfl ?_; conv => whnf) | (refine LoadV.a _ rfl (Nat.le_of_ble_eq_true rfl) ?_; conv => whnf) | (refine DrawI.quiet (by kernel_rfl) (by kernel_rfl) ?_; conv => whnf) | (refine ArI.in64 (by omega) ?_; conv => whnf) | (refine ArI.inU8 (by omega) ?_; conv => whnf) | (refine ArI.inU64 (by omega) ?_; conv => whnf) | (refine ArI.inU32 (by omega) ?_; conv => whnf) | (refine RetI.one Try.results10 rfl ?_; conv => whnf) | (refine RetI.two Try.results10 rfl rfl ?_; conv => whnf) | (refine RetI.three Try.results10 rfl rfl rfl ?_; conv => whnf) | (refine RetI.none Try.results10 ?_; conv => whnf) | (refine ⟨by first | decide | omega, ?_⟩; conv => whnf))
            exact ⟨_, Sub.sel [] rfl, ret_bool (by simp [hgood, h1, h2, h3]), rfl⟩
          | true =>
            conv => whnf
            refine LoadV.a 4 rfl (Nat.le_of_ble_eq_true rfl) ?_
            conv => whnf
            refine eqlAs (d := 10) (ks := [.i .i64, .i .i64, .i .i64, .s]) (e3 m) rfl (by kernel_rfl) rfl (by kernel_rfl) rfl rfl rfl ?_
            conv => whnf
            repeat (first | (refine LoadV.s rfl rfl (forceV_of ?_); conv => whnf) | (refine LoadV.s rfl rfl ?_; conv => whnf) | (refine StoreV.c rfl rfl (Nat.le_of_ble_eq_true rfl) rfl ?_; conv => whnf) | (refine LoadV.a _ rfl (Nat.le_of_ble_eq_true rfl) ?_; conv => whnf) | (refine DrawI.quiet (by kernel_rfl) (by kernel_rfl) ?_; conv => whnf) | (refine ArI.in64 (by omega) ?_; conv => whnf) | (refine ArI.inU8 (by omega) ?_; conv => whnf) | (refine ArI.inU64 (by omega) ?_; conv => whnf) | (refine ArI.inU32 (by omega) ?_; conv => whnf) | (refine RetI.one Try.results10 rfl ?_; conv => whnf) | (refine RetI.two Try.results10 rfl rfl ?_; conv => whnf) | (refine RetI.three Try.results10 rfl rfl rfl ?_; conv => whnf) | (refine RetI.none Try.results10 ?_; conv => whnf) | (refine ⟨by first | decide | omega, ?_⟩; conv => whnf))
            exact ⟨_, Sub.sel [] rfl, ret_bool (by rw [hgood, h1, h2, h3]; simp), rfl⟩
    | false =>
      have hk2 : ¬ m.kind = 2 := fun e => by rw [e] at k2; cases k2
      conv => whnf
      cases k3 : (m.kind == 3) with
      | true =>
        have hk : m.kind = 3 := eq_of_beq k3
        have hgood : goodB m = (e0 m && e1 m && gRp m && e3 m) := by unfold goodB; rw [if_neg hk1, if_neg hk2, if_pos hk]
        conv => whnf
        cases h1 : e0 m with
        | false =>
          conv => whnf
          repeat (first | (refine LoadV.s rfl rfl (forceV_of ?_); conv => whnf) | (refine LoadV.s rfl rfl ?_; conv => whnf) | (refine StoreV.c rfl rfl (Nat.le_of_ble_eq_true rfl) rfl ?_; conv => whnf) | (refine LoadV.a _ rfl (Nat.le_of_ble_eq_true rfl) ?_; conv => whnf) | (refine DrawI.quiet (by kernel_rfl) (by kernel_rfl) ?_; conv => whnf) | (refine ArI.in64 (by omega) ?_; conv => whnf) | (refine ArI.inU8 (by omega) ?_; conv => whnf) | (refine ArI.inU64 (by omega) ?_; conv => whnf) | (refine ArI.inU32 (by omega) ?_; conv => whnf) | (refine RetI.one Try.results10 rfl ?_; conv => whnf) | (refine RetI.two Try.results10 rfl rfl ?_; conv => whnf) | (refine RetI.three Try.results10 rfl rfl rfl ?_; conv => whnf) | (refine RetI.none Try.results10 ?_; conv => whnf) | (refine ⟨by first | decide | omega, ?_⟩; conv => whnf))
          exact ⟨_, Sub.sel [] rfl, ret_bool (by simp [hgood, h1]), rfl⟩
        | true =>
          conv => whnf
          refine LoadV.a 2 rfl (Nat.le_of_ble_eq_true rfl) ?_
          conv => whnf
          refine eqlAs (d := 10) (ks := [.i .i64, .i .i64]) (e1 m) rfl (by kernel_rfl) rfl (by kernel_rfl) rfl rfl rfl ?_
          cases h2 : e1 m with
          | false =>
            conv => whnf
            repeat (first | (refine LoadV.s rfl rfl (forceV_of ?_); conv => whnf) | (refine LoadV.s rfl rfl ?_; conv => whnf) | (refine StoreV.c rfl rfl (Nat.le_of_ble_eq_true rfl) rfl ?_; conv => whnf) | (refine LoadV.a _ rfl (Nat.le_of_ble_eq_true rfl) ?_; conv => whnf) | (refine DrawI.quiet (by kernel_rfl) (by kernel_rfl) ?_; conv => whnf) | (refine ArI.in64 (by omega) ?_; conv => whnf) | (refine ArI.inU8 (by omega) ?_; conv => whnf) | (refine ArI.inU64 (by omega) ?_; conv => whnf) | (refine ArI.inU32 (by omega) ?_; conv => whnf) | (refine RetI.one Try.results10 rfl ?_; conv => whnf) | (refine RetI.two Try.results10 rfl rfl ?_; conv => whnf) | (refine RetI.three Try.results10 rfl rfl rfl ?_; conv => whnf) | (refine RetI.none Try.results10 ?_; conv => whnf) | (refine ⟨by first | decide | omega, ?_⟩; conv => whnf))
            exact ⟨_, Sub.sel [] rfl, ret_bool (by simp [hgood, h1, h2]), rfl⟩
          | true =>
            conv => whnf
            refine LoadV.a 15 rfl (Nat.le_of_ble_eq_true rfl) ?_
            conv => whnf
            refine CallS.mk Try.call34 ⟨[], _, _, Sub.refl _, fun F' hF' => grep_ok F' m, ?_⟩
            rintro e A' ⟨rfl, rfl⟩
            cases h3 : gRp m with
            | false =>
              conv => whnf
              repeat (first | (refine LoadV.s rfl rfl (forceV_of ?_); conv => whnf) | (refine LoadV.s rfl rfl ?_; conv => whnf) | (refine StoreV.c rfl rfl (Nat.le_of_ble_eq_true rfl) rfl ?_; conv => whnf) | (refine LoadV.a _ rfl (Nat.le_of_ble_eq_true rfl) ?_; conv => whnf) | (refine DrawI.quiet (by kernel_rfl) (by kernel_rfl) ?_; conv => whnf) | (refine ArI.in64 (by omega) ?_; conv => whnf) | (refine ArI.inU8 (by omega) ?_; conv => whnf) | (refine ArI.inU64 (by omega) ?_; conv => whnf) | (refine ArI.inU32 (by omega) ?_; conv => whnf) | (refine RetI.one Try.results10 rfl ?_; conv => whnf) | (refine RetI.two Try.results10 rfl rfl ?_; conv => whnf) | (refine RetI.three Try.results10 rfl rfl rfl ?_; conv => whnf) | (refine RetI.none Try.results10 ?_; conv => whnf) | (refine ⟨by first | decide | omega, ?_⟩; conv => whnf))
              exact ⟨_, Sub.sel [] rfl, ret_bool (by simp [hgood, h1, h2, h3]), rfl⟩
            | true =>
              conv => whnf
              refine LoadV.a 4 rfl (Nat.le_of_ble_eq_true rfl) ?_
              conv => whnf
              refine eqlAs (d := 10) (ks := [.i .i64, .i .i64, .i .i64, .s]) (e3 m) rfl (by kernel_rfl) rfl (by kernel_rfl) rfl rfl rfl ?_
              conv => whnf
              repeat (first | (refine LoadV.s rfl rfl (forceV_of ?_); conv => whnf) | (refine LoadV.s rfl rfl ?_; conv => whnf) | (refine StoreV.c rfl rfl (Nat.le_of_ble_eq_true rfl) rfl ?_; conv => whnf) | (refine LoadV.a _ rfl (Nat.le_of_ble_eq_true rfl) ?_; conv => whnf) | (refine DrawI.quiet (by kernel_rfl) (by kernel_rfl) ?_; conv => whnf) | (refine ArI.in64 (by omega) ?_; conv => whnf) | (refine ArI.inU8 (by omega) ?_; conv => whnf) | (refine ArI.inU64 (by omega) ?_; conv => whnf) | (refine ArI.inU32 (by omega) ?_; conv => whnf) | (refine RetI.one Try.results10 rfl ?_; conv => whnf) | (refine RetI.two Try.results10 rfl rfl ?_; conv => whnf) | (refine RetI.three Try.results10 rfl rfl rfl ?_; conv => whnf) | (refine RetI.none Try.results10 ?_; conv => whnf) | (refine ⟨by first | decide | omega, ?_⟩; conv => whnf))
              exact ⟨_, Sub.sel [] rfl, ret_bool (by rw [hgood, h1, h2, h3]; simp), rfl⟩
      | false =>
        have hk3 : ¬ m.kind = 3 := fun e => by rw [e] at k3; cases k3
        conv => whnf
        cases k4 : (m.kind == 4) with
        | true =>
          have hk : m.kind = 4 := eq_of_beq k4
          have hgood : goodB m = (e0 m && e1 m && e2 m && gSe m) := by unfold goodB; rw [if_neg hk1, if_neg hk2, if_neg hk3, if_pos hk]
          conv => whnf
          cases h1 : e0 m with
          | false =>
            conv => whnf
            repeat (first | (refine LoadV.s rfl rfl (forceV_of ?_); conv => whnf) | (refine LoadV.s rfl rfl ?_; conv => whnf) | (refine StoreV.c rfl rfl (Nat.le_of_ble_eq_true rfl) rfl ?_; conv => whnf) | (refine LoadV.a _ rfl (Nat.le_of_ble_eq_true rfl) ?_; conv => whnf) | (refine DrawI.quiet (by kernel_rfl) (by kernel_rfl) ?_; conv => whnf) | (refine ArI.in64 (by omega) ?_; conv => whnf) | (refine ArI.inU8 (by omega) ?_; conv => whnf) | (refine ArI.inU64 (by omega) ?_; conv => whnf) | (refine ArI.inU32 (by omega) ?_; conv => whnf) | (refine RetI.one Try.results10 rfl ?_; conv => whnf) | (refine RetI.two Try.results10 rfl rfl ?_; conv => whnf) | (refine RetI.three Try.results10 rfl rfl rfl ?_; conv => whnf) | (refine RetI.none Try.results10 ?_; conv => whnf) | (refine ⟨by first | decide | omega, ?_⟩; conv => whnf))
            exact ⟨_, Sub.sel [] rfl, ret_bool (by simp [hgood, h1]), rfl⟩
          | true =>
            conv => whnf
            refine LoadV.a 2 rfl (Nat.le_of_ble_eq_true rfl) ?_
            conv => whnf
            refine eqlAs (d := 10) (ks := [.i .i64, .i .i64]) (e1 m) rfl (by kernel_rfl) rfl (by kernel_rfl) rfl rfl rfl ?_
            cases h2 : e1 m with
            | false =>
              conv => whnf
              repeat (first | (refine LoadV.s rfl rfl (forceV_of ?_); conv => whnf) | (refine LoadV.s rfl rfl ?_; conv => whnf) | (refine StoreV.c rfl rfl (Nat.le_of_ble_eq_true rfl) rfl ?_; conv => whnf) | (refine LoadV.a _ rfl (Nat.le_of_ble_eq_true rfl) ?_; conv => whnf) | (refine DrawI.quiet (by kernel_rfl) (by kernel_rfl) ?_; conv => whnf) | (refine ArI.in64 (by omega) ?_; conv => whnf) | (refine ArI.inU8 (by omega) ?_; conv => whnf) | (refine ArI.inU64 (by omega) ?_; conv => whnf) | (refine ArI.inU32 (by omega) ?_; conv => whnf) | (refine RetI.one Try.results10 rfl ?_; conv => whnf) | (refine RetI.two Try.results10 rfl rfl ?_; conv => whnf) | (refine RetI.three Try.results10 rfl rfl rfl ?_; conv => whnf) | (refine RetI.none Try.results10 ?_; conv => whnf) | (refine ⟨by first | decide | omega, ?_⟩; conv => whnf))
              exact ⟨_, Sub.sel [] rfl, ret_bool (by simp [hgood, h1, h2]), rfl⟩
            | true =>
              conv => whnf
              refine LoadV.a 15 rfl (Nat.le_of_ble_eq_true rfl) ?_
              conv => whnf
              refine eqlAs (d := 10) (ks := List.replicate 15 (.i .i64)) (e2 m) rfl (by kernel_rfl) rfl (by kernel_rfl) rfl rfl rfl ?_
              cases h3 : e2 m with
              | false =>
                conv => whnf
                repeat (first | (refine LoadV.s rfl rfl (forceV_of ?_); conv => whnf) | (refine LoadV.s rfl rfl ?_; conv => whnf) | (refine StoreV.c rfl rfl (Nat.le_of_ble_eq_true rfl) rfl ?_; conv => whnf) | (refine LoadV.a _ rfl (Nat.le_of_ble_eq_true rfl) ?_; conv => whnf) | (refine DrawI.quiet (by kernel_rfl) (by kernel_rfl) ?_; conv => whnf) | (refine ArI.in64 (by omega) ?_; conv => whnf) | (refine ArI.inU8 (by omega) ?_; conv => whnf) | (refine ArI.inU64 (by omega) ?_; conv => whnf) | (refine ArI.inU32 (by omega) ?_; conv => whnf) | (refine RetI.one Try.results10 rfl ?_; conv => whnf) | (refine RetI.two Try.results10 rfl rfl ?_; conv => whnf) | (refine RetI.three Try.results10 rfl rfl rfl ?_; conv => whnf) | (refine RetI.none Try.results10 ?_; conv => whnf) | (refine ⟨by first | decide | omega, ?_⟩; conv => whnf))
                exact ⟨_, Sub.sel [] rfl, ret_bool (by simp [hgood, h1, h2, h3]), rfl⟩
              | true =>
                conv => whnf
                refine LoadV.a 4 rfl (Nat.le_of_ble_eq_true rfl) ?_
                conv => whnf
                refine CallS.mk Try.call35 ⟨[], _, _, Sub.refl _, fun F' hF' => gsea_ok F' m hz, ?_⟩
                rintro e A' ⟨rfl, rfl⟩
                conv => whnf
                repeat (first | (refine LoadV.s rfl rfl (forceV_of ?_); conv => whnf) | (refine LoadV.s rfl rfl ?_; conv => whnf) | (refine StoreV.c rfl rfl (Nat.le_of_ble_eq_true rfl) rfl ?_; conv => whnf) | (refine LoadV.a _ rfl (Nat.le_of_ble_eq_true rfl) ?_; conv => whnf) | (refine DrawI.quiet (by kernel_rfl) (by kernel_rfl) ?_; conv => whnf) | (refine ArI.in64 (by omega) ?_; conv => whnf) | (refine ArI.inU8 (by omega) ?_; conv => whnf) | (refine ArI.inU64 (by omega) ?_; conv => whnf) | (refine ArI.inU32 (by omega) ?_; conv => whnf) | (refine RetI.one Try.results10 rfl ?_; conv => whnf) | (refine RetI.two Try.results10 rfl rfl ?_; conv => whnf) | (refine RetI.three Try.results10 rfl rfl rfl ?_; conv => whnf) | (refine RetI.none Try.results10 ?_; conv => whnf) | (refine ⟨by first | decide | omega, ?_⟩; conv => whnf))
                exact ⟨_, Sub.sel [] rfl, ret_bool (by rw [hgood, h1, h2, h3]; simp), rfl⟩
        | false =>
          have hk4 : ¬ m.kind = 4 := fun e => by rw [e] at k4; cases k4
          conv => whnf
          repeat (first | (refine LoadV.s rfl rfl (forceV_of ?_); conv => whnf) | (refine LoadV.s rfl rfl ?_; conv => whnf) | (refine StoreV.c rfl rfl (Nat.le_of_ble_eq_true rfl) rfl ?_; conv => whnf) | (refine LoadV.a _ rfl (Nat.le_of_ble_eq_true rfl) ?_; conv => whnf) | (refine DrawI.quiet (by kernel_rfl) (by kernel_rfl) ?_; conv => whnf) | (refine ArI.in64 (by omega) ?_; conv => whnf) | (refine ArI.inU8 (by omega) ?_; conv => whnf) | (refine ArI.inU64 (by omega) ?_; conv => whnf) | (refine ArI.inU32 (by omega) ?_; conv => whnf) | (refine RetI.one Try.results10 rfl ?_; conv => whnf) | (refine RetI.two Try.results10 rfl rfl ?_; conv => whnf) | (refine RetI.three Try.results10 rfl rfl rfl ?_; conv => whnf) | (refine RetI.none Try.results10 ?_; conv => whnf) | (refine ⟨by first | decide | omega, ?_⟩; conv => whnf))
          exact ⟨_, Sub.sel [] rfl, ret_bool (by unfold goodB; rw [if_neg hk1, if_neg hk2, if_neg hk3, if_neg hk4]), rfl⟩
end Go.Proofs.Ytlbdnkkaacccoaa
