/- The program's Good. -/
import Derived.Test.YtlbdnkkaacccoaaWire1
import Derived.Test.YtlbdnkkaacccoaaFail
namespace Go.Proofs.Ytlbdnkkaacccoaa
set_option linter.unusedVariables false
set_option linter.unusedSimpArgs false
set_option maxRecDepth 100000
open SL Go.RowKit Go.Maps
/-- The whole of an array, as a slice. -/
theorem SL.DoV.arr_all {C : Ctx} {P : Program} {t : TypeId} {b o n : Nat} {i : TypeInfo} {H : Heap} {K : Value → Heap → Prop} (ht : P.underlying t = some (.array (P.arrayLen t) (P.elem t))) (hn : P.arrayLen t = n + 1) (hi : P.info? (P.elem t) = some i)
    (k : K (.slice (some ⟨b, o, none⟩) (n + 1) (n + 1)) H) : DoV C P (Instr.sliceAt t (.pointer (some ⟨b, o, none⟩)) none none none) H K := DoV.of_quiet (fun w => by
  rw [run_sliceAt_array_all (P := P) w t ⟨b, o, none⟩ ht]
  have hsz : (Go.sizeOf (P.elem t)).run P w = .ok i.size w := by simp [Go.sizeOf, typeInfo, hi]
  rw [hsz, hn]
  simp [Result.andThen, slicedAt, Addr_add]) k
/-- A part of a caller's own row, as its callee reads it. -/
theorem SL.SlF.part {F F' : Mem} {B : Heap} {b o n sz : Nat} {l vs : List Value} {T : TypeId} {fr : Nat × Nat} [hf : Find B b l T fr] (he : Ext F B F') (hl : vs.length = n * sz) (hp : ∀ j v, vs[j]? = some v → l[o + j]? = some v) : SlF F' sz (some ⟨b, o, none⟩) n vs :=
  ⟨hl, fun _ => ⟨b, o, rfl, fun j v hj w hw => by
    have := he.H _ hf.mem w hw
    simp only [HObj.sat] at this
    rw [cell_of_row w b _ _ _ _ this]
    simpa using hp j v hj⟩⟩
theorem neqAs {P : Program} {t : TypeId} {d : Nat} {ks : List LK} {x y : Operand} {xs ys : List Value} {K : Value → Prop} (p : Bool) (hp : cellsEq xs ys = p) (hs : shapeOf P d t = some ks) (hd : Nat.ble d 10000 = true) (hg : P.eqGuardType P.depth t = false) (ha : isAggT P t = true)
    (hx : okCells ks xs = true) (hy : okCells ks ys = true) (k : K (.bool (!p))) : EqV P .neq t x y (.agg xs.toArray) (.agg ys.toArray) K := EqV.neq hs hd hg ha hx hy (hp ▸ k)
theorem eqlAs {P : Program} {t : TypeId} {d : Nat} {ks : List LK} {x y : Operand} {xs ys : List Value} {K : Value → Prop} (p : Bool) (hp : cellsEq xs ys = p) (hs : shapeOf P d t = some ks) (hd : Nat.ble d 10000 = true) (hg : P.eqGuardType P.depth t = false) (ha : isAggT P t = true)
    (hx : okCells ks xs = true) (hy : okCells ks ys = true) (k : K (.bool p)) : EqV P .eql t x y (.agg xs.toArray) (.agg ys.toArray) K := EqV.eql hs hd hg ha hx hy (hp ▸ k)
def zeros (n : Nat) : List Value := List.replicate n (.int .i64 0)
def e0 (m : Msg) : Bool := decide (m.ep = 0) && decide (m.L.length + m.J.length + m.I.length = 0)
def e1 (m : Msg) : Bool := cellsEq (rqV m) (zeros 2)
def e2 (m : Msg) : Bool := cellsEq (rpV m) (zeros 15)
def e3 (m : Msg) : Bool := cellsEq (seV m) (zeros 3 ++ [.string ⟨#[]⟩])
def gRk (m : Msg) : Bool := btw m.ep 1 200 && (m.L.all seatB && decide ((m.L.length : Int) ≤ 64)) && (m.J.all seatB && decide ((m.J.length : Int) ≤ 64)) && (m.I.all itemB && decide ((m.I.length : Int) ≤ 1536))
def gRq (m : Msg) : Bool := seatB (m.qw, 0) && btw m.qe 1 200
def gRp (m : Msg) : Bool := seatB (m.pw, m.ps) && btw m.pe 1 200 && [m.b0, m.b1, m.b2].all bxB
def gSe (m : Msg) : Bool := btw m.se 1 200 && keyB m.sb m.ss && decide ((m.tx.size : Int) ≤ 64)
/-- Is the message right? -/
def goodB (m : Msg) : Bool :=
  if m.kind = 1 then gRk m && e1 m && e2 m && e3 m
  else if m.kind = 2 then e0 m && gRq m && e2 m && e3 m
  else if m.kind = 3 then e0 m && e1 m && gRp m && e3 m
  else if m.kind = 4 then e0 m && e1 m && e2 m && gSe m
  else false
/-- The sizes of a message's parts, as any message in memory has. -/
structure Sz (m : Msg) : Prop where
  L : m.L.length ≤ 140737488355328
  J : m.J.length ≤ 140737488355328
  I : m.I.length ≤ 140737488355328
  tx : m.tx.size ≤ 9223372036854775807
theorem empty_ok (F : Mem) (m : Msg) (s : Sls) (hz : Sz m) : FT Try.prog 21 [.agg (rkV m s).toArray].toArray F [] (Ret (.bool (e0 m))) := by
  have h1 := hz.L; have h2 := hz.J; have h3 := hz.I
  refine FT.of_body Try.func21 rfl Try.ntmps21 (by simp) fun C hC => ?_
  subst hC
  conv => whnf
  intro b
  conv => whnf
  repeat (first | (refine LoadV.s rfl rfl (forceV_of ?_); conv => whnf) | (refine LoadV.s rfl rfl ?_; conv => whnf) | (refine StoreV.c rfl rfl (Nat.le_of_ble_eq_true rfl) rfl ?_; conv => whnf) | (refine LoadV.a _ rfl (Nat.le_of_ble_eq_true rfl) ?_; conv => whnf) | (refine DrawI.quiet (by kernel_rfl) (by kernel_rfl) ?_; conv => whnf) | (refine ArI.in64 (by omega) ?_; conv => whnf) | (refine ArI.inU8 (by omega) ?_; conv => whnf) | (refine ArI.inU64 (by omega) ?_; conv => whnf) | (refine ArI.inU32 (by omega) ?_; conv => whnf) | (refine RetI.one Try.results21 rfl ?_; conv => whnf) | (refine RetI.two Try.results21 rfl rfl ?_; conv => whnf) | (refine RetI.three Try.results21 rfl rfl rfl ?_; conv => whnf) | (refine RetI.none Try.results21 ?_; conv => whnf) | (refine ⟨by first | decide | omega, ?_⟩; conv => whnf))
  refine cond_dec (fun h => ?_) (fun h => ?_)
  · conv => whnf
    refine LoadV.s rfl rfl ?_
    conv => whnf
    refine LoadV.s rfl rfl ?_
    conv => whnf
    refine ArI.to64 ((m.L.length + m.J.length : Nat) : Int) (by omega) (by omega) ?_
    conv => whnf
    refine LoadV.s rfl rfl ?_
    conv => whnf
    refine ArI.to64 ((m.L.length + m.J.length + m.I.length : Nat) : Int) (by omega) (by omega) ?_
    conv => whnf
    repeat (first | (refine LoadV.s rfl rfl (forceV_of ?_); conv => whnf) | (refine LoadV.s rfl rfl ?_; conv => whnf) | (refine StoreV.c rfl rfl (Nat.le_of_ble_eq_true rfl) rfl ?_; conv => whnf) | (refine LoadV.a _ rfl (Nat.le_of_ble_eq_true rfl) ?_; conv => whnf) | (refine DrawI.quiet (by kernel_rfl) (by kernel_rfl) ?_; conv => whnf) | (refine ArI.in64 (by omega) ?_; conv => whnf) | (refine ArI.inU8 (by omega) ?_; conv => whnf) | (refine ArI.inU64 (by omega) ?_; conv => whnf) | (refine ArI.inU32 (by omega) ?_; conv => whnf) | (refine RetI.one Try.results21 rfl ?_; conv => whnf) | (refine RetI.two Try.results21 rfl rfl ?_; conv => whnf) | (refine RetI.three Try.results21 rfl rfl rfl ?_; conv => whnf) | (refine RetI.none Try.results21 ?_; conv => whnf) | (refine ⟨by first | decide | omega, ?_⟩; conv => whnf))
    refine ⟨_, Sub.sel [] rfl, ret_bool ?_, rfl⟩
    unfold e0
    rw [decide_eq_true h, Bool.true_and]
    by_cases h4 : m.L.length + m.J.length + m.I.length = 0
    · rw [decide_eq_true h4, h4]; rfl
    · rw [decide_eq_false h4]; exact beq_eq_false_iff_ne.2 (by omega)
  · conv => whnf
    repeat (first | (refine LoadV.s rfl rfl (forceV_of ?_); conv => whnf) | (refine LoadV.s rfl rfl ?_; conv => whnf) | (refine StoreV.c rfl rfl (Nat.le_of_ble_eq_true rfl) rfl ?_; conv => whnf) | (refine LoadV.a _ rfl (Nat.le_of_ble_eq_true rfl) ?_; conv => whnf) | (refine DrawI.quiet (by kernel_rfl) (by kernel_rfl) ?_; conv => whnf) | (refine ArI.in64 (by omega) ?_; conv => whnf) | (refine ArI.inU8 (by omega) ?_; conv => whnf) | (refine ArI.inU64 (by omega) ?_; conv => whnf) | (refine ArI.inU32 (by omega) ?_; conv => whnf) | (refine RetI.one Try.results21 rfl ?_; conv => whnf) | (refine RetI.two Try.results21 rfl rfl ?_; conv => whnf) | (refine RetI.three Try.results21 rfl rfl rfl ?_; conv => whnf) | (refine RetI.none Try.results21 ?_; conv => whnf) | (refine ⟨by first | decide | omega, ?_⟩; conv => whnf))
    refine ⟨_, Sub.sel [] rfl, ret_bool ?_, rfl⟩
    unfold e0
    rw [decide_eq_false h]; rfl
theorem good_no0 {m : Msg} (h : e0 m = false) (hk : m.kind ≠ 1) : goodB m = false := by unfold goodB; rw [if_neg hk, h]; simp
theorem good_no1 {m : Msg} (h : e1 m = false) (hk : m.kind ≠ 2) : goodB m = false := by unfold goodB; rw [h]; by_cases h1 : m.kind = 1 <;> simp [h1, hk]
theorem good_no2 {m : Msg} (h : e2 m = false) (hk : m.kind ≠ 3) : goodB m = false := by unfold goodB; rw [h]; by_cases h1 : m.kind = 1 <;> by_cases h2 : m.kind = 2 <;> simp [h1, h2, hk]
theorem good_no3 {m : Msg} (h : e3 m = false) (hk : m.kind ≠ 4) : goodB m = false := by unfold goodB; rw [h]; by_cases h1 : m.kind = 1 <;> by_cases h2 : m.kind = 2 <;> by_cases h3 : m.kind = 3 <;> simp [h1, h2, h3, hk]
set_option maxHeartbeats 2000000 in
theorem good_ok (F : Mem) (m : Msg) (s : Sls) (hr : Rows14 F m s) (hz : Sz m) : FT Try.prog 9 [.agg (msgL m s).toArray].toArray F [] (Ret (.bool (goodB m))) := by
  have z1 := hz.L; have z2 := hz.J; have z3 := hz.I; have z4 := hz.tx
  refine FT.of_body Try.func9 rfl Try.ntmps9 (by simp) fun C hC => ?_
  subst hC
  conv => whnf
  intro b
  conv => whnf
  refine SL.Fail.drawA [2, 17, 18] [_] (fun _ _ => False) 17 [.bool false, .bool false, .bool false, .bool false] 59 (by kernel_rfl) (by kernel_rfl) (by kernel_rfl) (by kernel_rfl) (by kernel_rfl) (by kernel_rfl) (by kernel_rfl) (by kernel_rfl) (fun o ho a w => by cases ho; rfl) (Sub.refl _) (fun _ _ _ _ h => h.elim) ?_
  conv => whnf
  refine LoadV.a 4 rfl (Nat.le_of_ble_eq_true rfl) ?_
  conv => whnf
  refine SL.Fail.EffG.call rfl rfl rfl rfl Try.call21 ⟨[], [_], _, Sub.sel [0] rfl, fun F' hF' => empty_ok F' m s hz, ?_⟩
  rintro e A' ⟨rfl, rfl⟩
  conv => whnf
  refine ⟨Sub.refl _, ?_⟩
  conv => whnf
  refine LoadV.a 2 rfl (Nat.le_of_ble_eq_true rfl) ?_
  conv => whnf
  refine neqAs (d := 10) (ks := [.i .i64, .i .i64]) (e1 m) rfl (by kernel_rfl) rfl (by kernel_rfl) rfl rfl rfl ?_
  conv => whnf
  refine LoadV.a 15 rfl (Nat.le_of_ble_eq_true rfl) ?_
  conv => whnf
  refine neqAs (d := 10) (ks := List.replicate 15 (.i .i64)) (e2 m) rfl (by kernel_rfl) rfl (by kernel_rfl) rfl rfl rfl ?_
  conv => whnf
  refine LoadV.a 4 rfl (Nat.le_of_ble_eq_true rfl) ?_
  conv => whnf
  refine neqAs (d := 10) (ks := [.i .i64, .i .i64, .i .i64, .s]) (e3 m) rfl (by kernel_rfl) rfl (by kernel_rfl) rfl rfl rfl ?_
  conv => whnf
  intro c
  conv => whnf
  refine SL.Fail.EffG.ret rfl rfl ?_
  conv => whnf
  refine StoreV.c rfl rfl (Nat.le_of_ble_eq_true rfl) rfl ?_
  conv => whnf
  refine ⟨Sub.sel [1] rfl, ?_⟩
  conv => whnf
  intro _
  conv => whnf
  refine LoadV.s rfl rfl ?_
  conv => whnf
  refine CallS.mk Try.call22 ⟨[], _, _, Sub.refl _, fun F' hF' => between_ok F' m.kind 1 4, ?_⟩
  rintro e A' ⟨rfl, rfl⟩
  cases hb : btw m.kind 1 4 with
  | false =>
    conv => whnf
    repeat (first | (refine LoadV.s rfl rfl (forceV_of ?_); conv => whnf) | (refine LoadV.s rfl rfl ?_; conv => whnf) | (refine StoreV.c rfl rfl (Nat.le_of_ble_eq_true rfl) rfl ?_; conv => whnf) | (refine LoadV.a _ rfl (Nat.le_of_ble_eq_true rfl) ?_; conv => whnf) | (refine DrawI.quiet (by kernel_rfl) (by kernel_rfl) ?_; conv => whnf) | (refine ArI.in64 (by omega) ?_; conv => whnf) | (refine ArI.inU8 (by omega) ?_; conv => whnf) | (refine ArI.inU64 (by omega) ?_; conv => whnf) | (refine ArI.inU32 (by omega) ?_; conv => whnf) | (refine RetI.one Try.results9 rfl ?_; conv => whnf) | (refine RetI.two Try.results9 rfl rfl ?_; conv => whnf) | (refine RetI.three Try.results9 rfl rfl rfl ?_; conv => whnf) | (refine RetI.none Try.results9 ?_; conv => whnf) | (refine ⟨by first | decide | omega, ?_⟩; conv => whnf))
    refine ⟨_, Sub.sel [] rfl, ret_bool ?_, rfl⟩
    unfold btw at hb
    unfold goodB
    rw [if_neg (fun h => by rw [h] at hb; simp at hb), if_neg (fun h => by rw [h] at hb; simp at hb), if_neg (fun h => by rw [h] at hb; simp at hb), if_neg (fun h => by rw [h] at hb; simp at hb)]
  | true =>
    have hk : m.kind = 1 ∨ m.kind = 2 ∨ m.kind = 3 ∨ m.kind = 4 := by simp [btw] at hb; omega
    conv => whnf
    refine LoadV.a 4 rfl (Nat.le_of_ble_eq_true rfl) ?_
    conv => whnf
    refine LoopI.by_state (σ := Nat) (fun i => [(1, .pointer (some ⟨b, 0, none⟩)), (29, .agg #[.bool (!e0 m), .bool (!e1 m), .bool (!e2 m), .bool (!e3 m)]), (30, .int .i64 (i : Int))]) (fun _ => [.cells b (msgL m s) 38 (0, 0)])
      (fun i => i ≤ 4 ∧ (0 < i → e0 m = true ∨ m.kind = 1) ∧ (1 < i → e1 m = true ∨ m.kind = 2) ∧ (2 < i → e2 m = true ∨ m.kind = 3) ∧ (3 < i → e3 m = true ∨ m.kind = 4)) (fun i => 4 - i) 0 ⟨by omega, by omega, by omega, by omega, by omega⟩ ⟨rfl, rfl, rfl, trivial⟩ (Sub.sel [1] rfl) ?_
    rintro i f0 ⟨hi, i0, i1, i2, i3⟩
    conv => whnf
    refine cond_dec (fun h => ?_) (fun h => ?_)
    · have h4 : i = 0 ∨ i = 1 ∨ i = 2 ∨ i = 3 := by omega
      rcases h4 with rfl | rfl | rfl | rfl
      · conv => whnf
        refine IndexV.agg1 rfl rfl rfl rfl rfl (by decide) rfl ?_
        conv => whnf
        cases he : e0 m with
        | true =>
          have new : true = true ∨ m.kind = 0 + 1 := .inl rfl
          conv => whnf
          refine ArI.to64 ((0 + 1 : Nat) : Int) (by omega) (by omega) ?_
          conv => whnf
          exact ⟨0 + 1, [_], by omega, Sub.refl _, ⟨by omega, fun _ => new, fun h => absurd h (by omega), fun h => absurd h (by omega), fun h => absurd h (by omega)⟩, ⟨rfl, rfl, rfl, trivial⟩, rfl⟩
        | false =>
          conv => whnf
          refine ArI.to64 ((0 + 1 : Nat) : Int) (by omega) (by omega) ?_
          conv => whnf
          refine LoadV.s rfl rfl ?_
          conv => whnf
          cases hq : (((0 + 1 : Nat) : Int) != m.kind) with
          | false =>
            have hkk : m.kind = 0 + 1 := by have := (bne_eq_false_iff_eq.1 hq); omega
            have new : false = true ∨ m.kind = 0 + 1 := .inr hkk
            conv => whnf
            refine ArI.to64 ((0 + 1 : Nat) : Int) (by omega) (by omega) ?_
            conv => whnf
            exact ⟨0 + 1, [_], by omega, Sub.refl _, ⟨by omega, fun _ => new, fun h => absurd h (by omega), fun h => absurd h (by omega), fun h => absurd h (by omega)⟩, ⟨rfl, rfl, rfl, trivial⟩, rfl⟩
          | true =>
            conv => whnf
            repeat (first | (refine LoadV.s rfl rfl (forceV_of ?_); conv => whnf) | (refine LoadV.s rfl rfl ?_; conv => whnf) | (refine StoreV.c rfl rfl (Nat.le_of_ble_eq_true rfl) rfl ?_; conv => whnf) | (refine LoadV.a _ rfl (Nat.le_of_ble_eq_true rfl) ?_; conv => whnf) | (refine DrawI.quiet (by kernel_rfl) (by kernel_rfl) ?_; conv => whnf) | (refine ArI.in64 (by omega) ?_; conv => whnf) | (refine ArI.inU8 (by omega) ?_; conv => whnf) | (refine ArI.inU64 (by omega) ?_; conv => whnf) | (refine ArI.inU32 (by omega) ?_; conv => whnf) | (refine RetI.one Try.results9 rfl ?_; conv => whnf) | (refine RetI.two Try.results9 rfl rfl ?_; conv => whnf) | (refine RetI.three Try.results9 rfl rfl rfl ?_; conv => whnf) | (refine RetI.none Try.results9 ?_; conv => whnf) | (refine ⟨by first | decide | omega, ?_⟩; conv => whnf))
            exact ⟨_, Sub.sel [] rfl, ret_bool (good_no0 he (by have := bne_iff_ne.1 hq; omega)).symm, rfl⟩
      · conv => whnf
        refine IndexV.agg1 rfl rfl rfl rfl rfl (by decide) rfl ?_
        conv => whnf
        cases he : e1 m with
        | true =>
          have new : true = true ∨ m.kind = 1 + 1 := .inl rfl
          conv => whnf
          refine ArI.to64 ((1 + 1 : Nat) : Int) (by omega) (by omega) ?_
          conv => whnf
          exact ⟨1 + 1, [_], by omega, Sub.refl _, ⟨by omega, fun _ => i0 (by omega), fun _ => new, fun h => absurd h (by omega), fun h => absurd h (by omega)⟩, ⟨rfl, rfl, rfl, trivial⟩, rfl⟩
        | false =>
          conv => whnf
          refine ArI.to64 ((1 + 1 : Nat) : Int) (by omega) (by omega) ?_
          conv => whnf
          refine LoadV.s rfl rfl ?_
          conv => whnf
          cases hq : (((1 + 1 : Nat) : Int) != m.kind) with
          | false =>
            have hkk : m.kind = 1 + 1 := by have := (bne_eq_false_iff_eq.1 hq); omega
            have new : false = true ∨ m.kind = 1 + 1 := .inr hkk
            conv => whnf
            refine ArI.to64 ((1 + 1 : Nat) : Int) (by omega) (by omega) ?_
            conv => whnf
            exact ⟨1 + 1, [_], by omega, Sub.refl _, ⟨by omega, fun _ => i0 (by omega), fun _ => new, fun h => absurd h (by omega), fun h => absurd h (by omega)⟩, ⟨rfl, rfl, rfl, trivial⟩, rfl⟩
          | true =>
            conv => whnf
            repeat (first | (refine LoadV.s rfl rfl (forceV_of ?_); conv => whnf) | (refine LoadV.s rfl rfl ?_; conv => whnf) | (refine StoreV.c rfl rfl (Nat.le_of_ble_eq_true rfl) rfl ?_; conv => whnf) | (refine LoadV.a _ rfl (Nat.le_of_ble_eq_true rfl) ?_; conv => whnf) | (refine DrawI.quiet (by kernel_rfl) (by kernel_rfl) ?_; conv => whnf) | (refine ArI.in64 (by omega) ?_; conv => whnf) | (refine ArI.inU8 (by omega) ?_; conv => whnf) | (refine ArI.inU64 (by omega) ?_; conv => whnf) | (refine ArI.inU32 (by omega) ?_; conv => whnf) | (refine RetI.one Try.results9 rfl ?_; conv => whnf) | (refine RetI.two Try.results9 rfl rfl ?_; conv => whnf) | (refine RetI.three Try.results9 rfl rfl rfl ?_; conv => whnf) | (refine RetI.none Try.results9 ?_; conv => whnf) | (refine ⟨by first | decide | omega, ?_⟩; conv => whnf))
            exact ⟨_, Sub.sel [] rfl, ret_bool (good_no1 he (by have := bne_iff_ne.1 hq; omega)).symm, rfl⟩
      · conv => whnf
        refine IndexV.agg1 rfl rfl rfl rfl rfl (by decide) rfl ?_
        conv => whnf
        cases he : e2 m with
        | true =>
          have new : true = true ∨ m.kind = 2 + 1 := .inl rfl
          conv => whnf
          refine ArI.to64 ((2 + 1 : Nat) : Int) (by omega) (by omega) ?_
          conv => whnf
          exact ⟨2 + 1, [_], by omega, Sub.refl _, ⟨by omega, fun _ => i0 (by omega), fun _ => i1 (by omega), fun _ => new, fun h => absurd h (by omega)⟩, ⟨rfl, rfl, rfl, trivial⟩, rfl⟩
        | false =>
          conv => whnf
          refine ArI.to64 ((2 + 1 : Nat) : Int) (by omega) (by omega) ?_
          conv => whnf
          refine LoadV.s rfl rfl ?_
          conv => whnf
          cases hq : (((2 + 1 : Nat) : Int) != m.kind) with
          | false =>
            have hkk : m.kind = 2 + 1 := by have := (bne_eq_false_iff_eq.1 hq); omega
            have new : false = true ∨ m.kind = 2 + 1 := .inr hkk
            conv => whnf
            refine ArI.to64 ((2 + 1 : Nat) : Int) (by omega) (by omega) ?_
            conv => whnf
            exact ⟨2 + 1, [_], by omega, Sub.refl _, ⟨by omega, fun _ => i0 (by omega), fun _ => i1 (by omega), fun _ => new, fun h => absurd h (by omega)⟩, ⟨rfl, rfl, rfl, trivial⟩, rfl⟩
          | true =>
            conv => whnf
            repeat (first | (refine LoadV.s rfl rfl (forceV_of ?_); conv => whnf) | (refine LoadV.s rfl rfl ?_; conv => whnf) | (refine StoreV.c rfl rfl (Nat.le_of_ble_eq_true rfl) rfl ?_; conv => whnf) | (refine LoadV.a _ rfl (Nat.le_of_ble_eq_true rfl) ?_; conv => whnf) | (refine DrawI.quiet (by kernel_rfl) (by kernel_rfl) ?_; conv => whnf) | (refine ArI.in64 (by omega) ?_; conv => whnf) | (refine ArI.inU8 (by omega) ?_; conv => whnf) | (refine ArI.inU64 (by omega) ?_; conv => whnf) | (refine ArI.inU32 (by omega) ?_; conv => whnf) | (refine RetI.one Try.results9 rfl ?_; conv => whnf) | (refine RetI.two Try.results9 rfl rfl ?_; conv => whnf) | (refine RetI.three Try.results9 rfl rfl rfl ?_; conv => whnf) | (refine RetI.none Try.results9 ?_; conv => whnf) | (refine ⟨by first | decide | omega, ?_⟩; conv => whnf))
            exact ⟨_, Sub.sel [] rfl, ret_bool (good_no2 he (by have := bne_iff_ne.1 hq; omega)).symm, rfl⟩
      · conv => whnf
        refine IndexV.agg1 rfl rfl rfl rfl rfl (by decide) rfl ?_
        conv => whnf
        cases he : e3 m with
        | true =>
          have new : true = true ∨ m.kind = 3 + 1 := .inl rfl
          conv => whnf
          refine ArI.to64 ((3 + 1 : Nat) : Int) (by omega) (by omega) ?_
          conv => whnf
          exact ⟨3 + 1, [_], by omega, Sub.refl _, ⟨by omega, fun _ => i0 (by omega), fun _ => i1 (by omega), fun _ => i2 (by omega), fun _ => new⟩, ⟨rfl, rfl, rfl, trivial⟩, rfl⟩
        | false =>
          conv => whnf
          refine ArI.to64 ((3 + 1 : Nat) : Int) (by omega) (by omega) ?_
          conv => whnf
          refine LoadV.s rfl rfl ?_
          conv => whnf
          cases hq : (((3 + 1 : Nat) : Int) != m.kind) with
          | false =>
            have hkk : m.kind = 3 + 1 := by have := (bne_eq_false_iff_eq.1 hq); omega
            have new : false = true ∨ m.kind = 3 + 1 := .inr hkk
            conv => whnf
            refine ArI.to64 ((3 + 1 : Nat) : Int) (by omega) (by omega) ?_
            conv => whnf
            exact ⟨3 + 1, [_], by omega, Sub.refl _, ⟨by omega, fun _ => i0 (by omega), fun _ => i1 (by omega), fun _ => i2 (by omega), fun _ => new⟩, ⟨rfl, rfl, rfl, trivial⟩, rfl⟩
          | true =>
            conv => whnf
            repeat (first | (refine LoadV.s rfl rfl (forceV_of ?_); conv => whnf) | (refine LoadV.s rfl rfl ?_; conv => whnf) | (refine StoreV.c rfl rfl (Nat.le_of_ble_eq_true rfl) rfl ?_; conv => whnf) | (refine LoadV.a _ rfl (Nat.le_of_ble_eq_true rfl) ?_; conv => whnf) | (refine DrawI.quiet (by kernel_rfl) (by kernel_rfl) ?_; conv => whnf) | (refine ArI.in64 (by omega) ?_; conv => whnf) | (refine ArI.inU8 (by omega) ?_; conv => whnf) | (refine ArI.inU64 (by omega) ?_; conv => whnf) | (refine ArI.inU32 (by omega) ?_; conv => whnf) | (refine RetI.one Try.results9 rfl ?_; conv => whnf) | (refine RetI.two Try.results9 rfl rfl ?_; conv => whnf) | (refine RetI.three Try.results9 rfl rfl rfl ?_; conv => whnf) | (refine RetI.none Try.results9 ?_; conv => whnf) | (refine ⟨by first | decide | omega, ?_⟩; conv => whnf))
            exact ⟨_, Sub.sel [] rfl, ret_bool (good_no3 he (by have := bne_iff_ne.1 hq; omega)).symm, rfl⟩
    · replace i0 := i0 (by omega)
      replace i1 := i1 (by omega)
      replace i2 := i2 (by omega)
      replace i3 := i3 (by omega)
      conv => whnf
      refine LoadV.s rfl rfl ?_
      conv => whnf
      rcases hk with hk | hk | hk | hk
      · have hgood : goodB m = gRk m := by
          unfold goodB
          rw [if_pos hk, i1.resolve_right (by omega), i2.resolve_right (by omega), i3.resolve_right (by omega)]; simp
        rw [show (m.kind == 1) = true from by rw [hk]; rfl]
        conv => whnf
        refine LoadV.a 4 rfl (Nat.le_of_ble_eq_true rfl) ?_
        conv => whnf
        intro d
        conv => whnf
        refine StoreV.c rfl rfl (Nat.le_of_ble_eq_true rfl) rfl ?_
        conv => whnf
        refine LoadV.s rfl rfl ?_
        conv => whnf
        refine CallS.mk Try.call23 ⟨[], _, _, Sub.refl _, fun F' hF' => epoch_ok F' m.ep, ?_⟩
        rintro e A' ⟨rfl, rfl⟩
        cases b1 : btw m.ep 1 200 with
        | false =>
          conv => whnf
          repeat (first | (refine LoadV.s rfl rfl (forceV_of ?_); conv => whnf) | (refine LoadV.s rfl rfl ?_; conv => whnf) | (refine StoreV.c rfl rfl (Nat.le_of_ble_eq_true rfl) rfl ?_; conv => whnf) | (refine LoadV.a _ rfl (Nat.le_of_ble_eq_true rfl) ?_; conv => whnf) | (refine DrawI.quiet (by kernel_rfl) (by kernel_rfl) ?_; conv => whnf) | (refine ArI.in64 (by omega) ?_; conv => whnf) | (refine ArI.inU8 (by omega) ?_; conv => whnf) | (refine ArI.inU64 (by omega) ?_; conv => whnf) | (refine ArI.inU32 (by omega) ?_; conv => whnf) | (refine RetI.one Try.results9 rfl ?_; conv => whnf) | (refine RetI.two Try.results9 rfl rfl ?_; conv => whnf) | (refine RetI.three Try.results9 rfl rfl rfl ?_; conv => whnf) | (refine RetI.none Try.results9 ?_; conv => whnf) | (refine ⟨by first | decide | omega, ?_⟩; conv => whnf))
          exact ⟨_, Sub.sel [] rfl, ret_bool (by rw [hgood]; simp [gRk, b1]), rfl⟩
        | true =>
          conv => whnf
          refine LoadV.s rfl rfl ?_
          conv => whnf
          refine CallS.mk Try.call24 ⟨[], _, _, Sub.refl _, fun F' hF' => allS_ok F' s.oL s.cL m.L 64 (hr.L.ext hF'.F) (by omega), ?_⟩
          rintro e A' ⟨rfl, rfl⟩
          cases b2 : (m.L.all seatB && decide ((m.L.length : Int) ≤ 64)) with
          | false =>
            conv => whnf
            repeat (first | (refine LoadV.s rfl rfl (forceV_of ?_); conv => whnf) | (refine LoadV.s rfl rfl ?_; conv => whnf) | (refine StoreV.c rfl rfl (Nat.le_of_ble_eq_true rfl) rfl ?_; conv => whnf) | (refine LoadV.a _ rfl (Nat.le_of_ble_eq_true rfl) ?_; conv => whnf) | (refine DrawI.quiet (by kernel_rfl) (by kernel_rfl) ?_; conv => whnf) | (refine ArI.in64 (by omega) ?_; conv => whnf) | (refine ArI.inU8 (by omega) ?_; conv => whnf) | (refine ArI.inU64 (by omega) ?_; conv => whnf) | (refine ArI.inU32 (by omega) ?_; conv => whnf) | (refine RetI.one Try.results9 rfl ?_; conv => whnf) | (refine RetI.two Try.results9 rfl rfl ?_; conv => whnf) | (refine RetI.three Try.results9 rfl rfl rfl ?_; conv => whnf) | (refine RetI.none Try.results9 ?_; conv => whnf) | (refine ⟨by first | decide | omega, ?_⟩; conv => whnf))
            exact ⟨_, Sub.sel [] rfl, ret_bool (by rw [hgood]; simp [gRk, b1, b2]), rfl⟩
          | true =>
            conv => whnf
            refine LoadV.s rfl rfl ?_
            conv => whnf
            refine CallS.mk Try.call24 ⟨[], _, _, Sub.refl _, fun F' hF' => allS_ok F' s.oJ s.cJ m.J 64 (hr.J.ext hF'.F) (by omega), ?_⟩
            rintro e A' ⟨rfl, rfl⟩
            cases b3 : (m.J.all seatB && decide ((m.J.length : Int) ≤ 64)) with
            | false =>
              conv => whnf
              repeat (first | (refine LoadV.s rfl rfl (forceV_of ?_); conv => whnf) | (refine LoadV.s rfl rfl ?_; conv => whnf) | (refine StoreV.c rfl rfl (Nat.le_of_ble_eq_true rfl) rfl ?_; conv => whnf) | (refine LoadV.a _ rfl (Nat.le_of_ble_eq_true rfl) ?_; conv => whnf) | (refine DrawI.quiet (by kernel_rfl) (by kernel_rfl) ?_; conv => whnf) | (refine ArI.in64 (by omega) ?_; conv => whnf) | (refine ArI.inU8 (by omega) ?_; conv => whnf) | (refine ArI.inU64 (by omega) ?_; conv => whnf) | (refine ArI.inU32 (by omega) ?_; conv => whnf) | (refine RetI.one Try.results9 rfl ?_; conv => whnf) | (refine RetI.two Try.results9 rfl rfl ?_; conv => whnf) | (refine RetI.three Try.results9 rfl rfl rfl ?_; conv => whnf) | (refine RetI.none Try.results9 ?_; conv => whnf) | (refine ⟨by first | decide | omega, ?_⟩; conv => whnf))
              exact ⟨_, Sub.sel [] rfl, ret_bool (by rw [hgood]; simp [gRk, b1, b2, b3]), rfl⟩
            | true =>
              conv => whnf
              refine LoadV.s rfl rfl ?_
              conv => whnf
              refine CallS.mk Try.call26 ⟨[], _, _, Sub.refl _, fun F' hF' => allI_ok F' s.oI s.cI m.I 1536 (hr.I.ext hF'.F) (by omega), ?_⟩
              rintro e A' ⟨rfl, rfl⟩
              conv => whnf
              repeat (first | (refine LoadV.s rfl rfl (forceV_of ?_); conv => whnf) | (refine LoadV.s rfl rfl ?_; conv => whnf) | (refine StoreV.c rfl rfl (Nat.le_of_ble_eq_true rfl) rfl ?_; conv => whnf) | (refine LoadV.a _ rfl (Nat.le_of_ble_eq_true rfl) ?_; conv => whnf) | (refine DrawI.quiet (by kernel_rfl) (by kernel_rfl) ?_; conv => whnf) | (refine ArI.in64 (by omega) ?_; conv => whnf) | (refine ArI.inU8 (by omega) ?_; conv => whnf) | (refine ArI.inU64 (by omega) ?_; conv => whnf) | (refine ArI.inU32 (by omega) ?_; conv => whnf) | (refine RetI.one Try.results9 rfl ?_; conv => whnf) | (refine RetI.two Try.results9 rfl rfl ?_; conv => whnf) | (refine RetI.three Try.results9 rfl rfl rfl ?_; conv => whnf) | (refine RetI.none Try.results9 ?_; conv => whnf) | (refine ⟨by first | decide | omega, ?_⟩; conv => whnf))
              exact ⟨_, Sub.sel [] rfl, ret_bool (by rw [hgood]; unfold gRk; rw [b1, b2, b3]; simp), rfl⟩
      · have hgood : goodB m = gRq m := by
          unfold goodB
          rw [if_neg (by omega), if_pos hk, i0.resolve_right (by omega), i2.resolve_right (by omega), i3.resolve_right (by omega)]; simp
        rw [show (m.kind == 1) = false from by rw [hk]; rfl]
        conv => whnf
        rw [show (m.kind == 2) = true from by rw [hk]; rfl]
        conv => whnf
        refine (show LoadV _ _ _ ⟨b, 5, none⟩ _ _ from ?_)
        refine LoadV.s rfl rfl ?_
        conv => whnf
        refine CallS.mk Try.call25 ⟨[], _, _, Sub.refl _, fun F' hF' => seat_ok F' (m.qw, 0), ?_⟩
        rintro e A' ⟨rfl, rfl⟩
        cases b1 : seatB (m.qw, 0) with
        | false =>
          conv => whnf
          repeat (first | (refine LoadV.s rfl rfl (forceV_of ?_); conv => whnf) | (refine LoadV.s rfl rfl ?_; conv => whnf) | (refine StoreV.c rfl rfl (Nat.le_of_ble_eq_true rfl) rfl ?_; conv => whnf) | (refine LoadV.a _ rfl (Nat.le_of_ble_eq_true rfl) ?_; conv => whnf) | (refine DrawI.quiet (by kernel_rfl) (by kernel_rfl) ?_; conv => whnf) | (refine ArI.in64 (by omega) ?_; conv => whnf) | (refine ArI.inU8 (by omega) ?_; conv => whnf) | (refine ArI.inU64 (by omega) ?_; conv => whnf) | (refine ArI.inU32 (by omega) ?_; conv => whnf) | (refine RetI.one Try.results9 rfl ?_; conv => whnf) | (refine RetI.two Try.results9 rfl rfl ?_; conv => whnf) | (refine RetI.three Try.results9 rfl rfl rfl ?_; conv => whnf) | (refine RetI.none Try.results9 ?_; conv => whnf) | (refine ⟨by first | decide | omega, ?_⟩; conv => whnf))
          exact ⟨_, Sub.sel [] rfl, ret_bool (by rw [hgood]; simp [gRq, b1]), rfl⟩
        | true =>
          conv => whnf
          refine (show LoadV _ _ _ ⟨b, 6, none⟩ _ _ from ?_)
          refine LoadV.s rfl rfl ?_
          conv => whnf
          refine CallS.mk Try.call23 ⟨[], _, _, Sub.refl _, fun F' hF' => epoch_ok F' m.qe, ?_⟩
          rintro e A' ⟨rfl, rfl⟩
          conv => whnf
          repeat (first | (refine LoadV.s rfl rfl (forceV_of ?_); conv => whnf) | (refine LoadV.s rfl rfl ?_; conv => whnf) | (refine StoreV.c rfl rfl (Nat.le_of_ble_eq_true rfl) rfl ?_; conv => whnf) | (refine LoadV.a _ rfl (Nat.le_of_ble_eq_true rfl) ?_; conv => whnf) | (refine DrawI.quiet (by kernel_rfl) (by kernel_rfl) ?_; conv => whnf) | (refine ArI.in64 (by omega) ?_; conv => whnf) | (refine ArI.inU8 (by omega) ?_; conv => whnf) | (refine ArI.inU64 (by omega) ?_; conv => whnf) | (refine ArI.inU32 (by omega) ?_; conv => whnf) | (refine RetI.one Try.results9 rfl ?_; conv => whnf) | (refine RetI.two Try.results9 rfl rfl ?_; conv => whnf) | (refine RetI.three Try.results9 rfl rfl rfl ?_; conv => whnf) | (refine RetI.none Try.results9 ?_; conv => whnf) | (refine ⟨by first | decide | omega, ?_⟩; conv => whnf))
          exact ⟨_, Sub.sel [] rfl, ret_bool (by rw [hgood]; unfold gRq; rw [b1]; simp), rfl⟩
      · have hgood : goodB m = gRp m := by
          unfold goodB
          rw [if_neg (by omega), if_neg (by omega), if_pos hk, i0.resolve_right (by omega), i1.resolve_right (by omega), i3.resolve_right (by omega)]; simp
        rw [show (m.kind == 1) = false from by rw [hk]; rfl]
        conv => whnf
        rw [show (m.kind == 2) = false from by rw [hk]; rfl]
        conv => whnf
        rw [show (m.kind == 3) = true from by rw [hk]; rfl]
        conv => whnf
        refine LoadV.a 15 rfl (Nat.le_of_ble_eq_true rfl) ?_
        conv => whnf
        intro d
        conv => whnf
        refine StoreV.c rfl rfl (Nat.le_of_ble_eq_true rfl) rfl ?_
        conv => whnf
        refine LoadV.s rfl rfl ?_
        conv => whnf
        refine LoadV.s rfl rfl ?_
        conv => whnf
        refine CallS.mk Try.call25 ⟨[], _, _, Sub.refl _, fun F' hF' => seat_ok F' (m.pw, m.ps), ?_⟩
        rintro e A' ⟨rfl, rfl⟩
        cases b1 : seatB (m.pw, m.ps) with
        | false =>
          conv => whnf
          repeat (first | (refine LoadV.s rfl rfl (forceV_of ?_); conv => whnf) | (refine LoadV.s rfl rfl ?_; conv => whnf) | (refine StoreV.c rfl rfl (Nat.le_of_ble_eq_true rfl) rfl ?_; conv => whnf) | (refine LoadV.a _ rfl (Nat.le_of_ble_eq_true rfl) ?_; conv => whnf) | (refine DrawI.quiet (by kernel_rfl) (by kernel_rfl) ?_; conv => whnf) | (refine ArI.in64 (by omega) ?_; conv => whnf) | (refine ArI.inU8 (by omega) ?_; conv => whnf) | (refine ArI.inU64 (by omega) ?_; conv => whnf) | (refine ArI.inU32 (by omega) ?_; conv => whnf) | (refine RetI.one Try.results9 rfl ?_; conv => whnf) | (refine RetI.two Try.results9 rfl rfl ?_; conv => whnf) | (refine RetI.three Try.results9 rfl rfl rfl ?_; conv => whnf) | (refine RetI.none Try.results9 ?_; conv => whnf) | (refine ⟨by first | decide | omega, ?_⟩; conv => whnf))
          exact ⟨_, Sub.sel [] rfl, ret_bool (by rw [hgood]; simp [gRp, b1]), rfl⟩
        | true =>
          conv => whnf
          refine LoadV.s rfl rfl ?_
          conv => whnf
          refine CallS.mk Try.call23 ⟨[], _, _, Sub.refl _, fun F' hF' => epoch_ok F' m.pe, ?_⟩
          rintro e A' ⟨rfl, rfl⟩
          cases b2 : btw m.pe 1 200 with
          | false =>
            conv => whnf
            repeat (first | (refine LoadV.s rfl rfl (forceV_of ?_); conv => whnf) | (refine LoadV.s rfl rfl ?_; conv => whnf) | (refine StoreV.c rfl rfl (Nat.le_of_ble_eq_true rfl) rfl ?_; conv => whnf) | (refine LoadV.a _ rfl (Nat.le_of_ble_eq_true rfl) ?_; conv => whnf) | (refine DrawI.quiet (by kernel_rfl) (by kernel_rfl) ?_; conv => whnf) | (refine ArI.in64 (by omega) ?_; conv => whnf) | (refine ArI.inU8 (by omega) ?_; conv => whnf) | (refine ArI.inU64 (by omega) ?_; conv => whnf) | (refine ArI.inU32 (by omega) ?_; conv => whnf) | (refine RetI.one Try.results9 rfl ?_; conv => whnf) | (refine RetI.two Try.results9 rfl rfl ?_; conv => whnf) | (refine RetI.three Try.results9 rfl rfl rfl ?_; conv => whnf) | (refine RetI.none Try.results9 ?_; conv => whnf) | (refine ⟨by first | decide | omega, ?_⟩; conv => whnf))
            exact ⟨_, Sub.sel [] rfl, ret_bool (by rw [hgood]; simp [gRp, b1, b2]), rfl⟩
          | true =>
            conv => whnf
            refine DoV.arr_all (n := 2) rfl rfl rfl ?_
            conv => whnf
            refine CallS.mk Try.call28 ⟨[], _, _, Sub.refl _, fun F' hF' => allB_ok F' (some ⟨d, 3, none⟩) 3 [m.b0, m.b1, m.b2] 3 (SlF.part (l := rpV m) (T := 34) (fr := (0, 0)) hF' rfl (fun j v hj => by rw [← List.getElem?_drop]; exact hj)) (by simp), ?_⟩
            rintro e A' ⟨rfl, rfl⟩
            conv => whnf
            repeat (first | (refine LoadV.s rfl rfl (forceV_of ?_); conv => whnf) | (refine LoadV.s rfl rfl ?_; conv => whnf) | (refine StoreV.c rfl rfl (Nat.le_of_ble_eq_true rfl) rfl ?_; conv => whnf) | (refine LoadV.a _ rfl (Nat.le_of_ble_eq_true rfl) ?_; conv => whnf) | (refine DrawI.quiet (by kernel_rfl) (by kernel_rfl) ?_; conv => whnf) | (refine ArI.in64 (by omega) ?_; conv => whnf) | (refine ArI.inU8 (by omega) ?_; conv => whnf) | (refine ArI.inU64 (by omega) ?_; conv => whnf) | (refine ArI.inU32 (by omega) ?_; conv => whnf) | (refine RetI.one Try.results9 rfl ?_; conv => whnf) | (refine RetI.two Try.results9 rfl rfl ?_; conv => whnf) | (refine RetI.three Try.results9 rfl rfl rfl ?_; conv => whnf) | (refine RetI.none Try.results9 ?_; conv => whnf) | (refine ⟨by first | decide | omega, ?_⟩; conv => whnf))
            exact ⟨_, Sub.sel [] rfl, ret_bool (by rw [hgood]; unfold gRp; rw [b1, b2]; simp), rfl⟩
      · have hgood : goodB m = gSe m := by
          unfold goodB
          rw [if_neg (by omega), if_neg (by omega), if_neg (by omega), if_pos hk, i0.resolve_right (by omega), i1.resolve_right (by omega), i2.resolve_right (by omega)]; simp
        rw [show (m.kind == 1) = false from by rw [hk]; rfl]
        conv => whnf
        rw [show (m.kind == 2) = false from by rw [hk]; rfl]
        conv => whnf
        rw [show (m.kind == 3) = false from by rw [hk]; rfl]
        conv => whnf
        refine (show LoadV _ _ _ ⟨b, 22, none⟩ _ _ from ?_)
        refine LoadV.s rfl rfl ?_
        conv => whnf
        refine CallS.mk Try.call23 ⟨[], _, _, Sub.refl _, fun F' hF' => epoch_ok F' m.se, ?_⟩
        rintro e A' ⟨rfl, rfl⟩
        cases b1 : btw m.se 1 200 with
        | false =>
          conv => whnf
          repeat (first | (refine LoadV.s rfl rfl (forceV_of ?_); conv => whnf) | (refine LoadV.s rfl rfl ?_; conv => whnf) | (refine StoreV.c rfl rfl (Nat.le_of_ble_eq_true rfl) rfl ?_; conv => whnf) | (refine LoadV.a _ rfl (Nat.le_of_ble_eq_true rfl) ?_; conv => whnf) | (refine DrawI.quiet (by kernel_rfl) (by kernel_rfl) ?_; conv => whnf) | (refine ArI.in64 (by omega) ?_; conv => whnf) | (refine ArI.inU8 (by omega) ?_; conv => whnf) | (refine ArI.inU64 (by omega) ?_; conv => whnf) | (refine ArI.inU32 (by omega) ?_; conv => whnf) | (refine RetI.one Try.results9 rfl ?_; conv => whnf) | (refine RetI.two Try.results9 rfl rfl ?_; conv => whnf) | (refine RetI.three Try.results9 rfl rfl rfl ?_; conv => whnf) | (refine RetI.none Try.results9 ?_; conv => whnf) | (refine ⟨by first | decide | omega, ?_⟩; conv => whnf))
          exact ⟨_, Sub.sel [] rfl, ret_bool (by rw [hgood]; simp [gSe, b1]), rfl⟩
        | true =>
          conv => whnf
          refine (show LoadV _ _ _ ⟨b, 23, none⟩ _ _ from ?_)
          refine LoadV.a 2 rfl (Nat.le_of_ble_eq_true rfl) ?_
          conv => whnf
          refine CallS.mk Try.call30 ⟨[], _, _, Sub.refl _, fun F' hF' => kgood_ok F' m.sb m.ss, ?_⟩
          rintro e A' ⟨rfl, rfl⟩
          cases b2 : keyB m.sb m.ss with
          | false =>
            conv => whnf
            repeat (first | (refine LoadV.s rfl rfl (forceV_of ?_); conv => whnf) | (refine LoadV.s rfl rfl ?_; conv => whnf) | (refine StoreV.c rfl rfl (Nat.le_of_ble_eq_true rfl) rfl ?_; conv => whnf) | (refine LoadV.a _ rfl (Nat.le_of_ble_eq_true rfl) ?_; conv => whnf) | (refine DrawI.quiet (by kernel_rfl) (by kernel_rfl) ?_; conv => whnf) | (refine ArI.in64 (by omega) ?_; conv => whnf) | (refine ArI.inU8 (by omega) ?_; conv => whnf) | (refine ArI.inU64 (by omega) ?_; conv => whnf) | (refine ArI.inU32 (by omega) ?_; conv => whnf) | (refine RetI.one Try.results9 rfl ?_; conv => whnf) | (refine RetI.two Try.results9 rfl rfl ?_; conv => whnf) | (refine RetI.three Try.results9 rfl rfl rfl ?_; conv => whnf) | (refine RetI.none Try.results9 ?_; conv => whnf) | (refine ⟨by first | decide | omega, ?_⟩; conv => whnf))
            exact ⟨_, Sub.sel [] rfl, ret_bool (by rw [hgood]; simp [gSe, b1, b2]), rfl⟩
          | true =>
            conv => whnf
            refine (show LoadV _ _ _ ⟨b, 25, none⟩ _ _ from ?_)
            refine LoadV.s rfl rfl ?_
            conv => whnf
            repeat (first | (refine LoadV.s rfl rfl (forceV_of ?_); conv => whnf) | (refine LoadV.s rfl rfl ?_; conv => whnf) | (refine StoreV.c rfl rfl (Nat.le_of_ble_eq_true rfl) rfl ?_; conv => whnf) | (refine LoadV.a _ rfl (Nat.le_of_ble_eq_true rfl) ?_; conv => whnf) | (refine DrawI.quiet (by kernel_rfl) (by kernel_rfl) ?_; conv => whnf) | (refine ArI.in64 (by omega) ?_; conv => whnf) | (refine ArI.inU8 (by omega) ?_; conv => whnf) | (refine ArI.inU64 (by omega) ?_; conv => whnf) | (refine ArI.inU32 (by omega) ?_; conv => whnf) | (refine RetI.one Try.results9 rfl ?_; conv => whnf) | (refine RetI.two Try.results9 rfl rfl ?_; conv => whnf) | (refine RetI.three Try.results9 rfl rfl rfl ?_; conv => whnf) | (refine RetI.none Try.results9 ?_; conv => whnf) | (refine ⟨by first | decide | omega, ?_⟩; conv => whnf))
            exact ⟨_, Sub.sel [] rfl, ret_bool (by rw [hgood]; unfold gSe; rw [b1, b2]; simp), rfl⟩
end Go.Proofs.Ytlbdnkkaacccoaa
