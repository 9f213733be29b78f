/- Are two lists of boxes the same? What lies behind a list's end. -/
import Derived.Test.YtlbdnkkaacccoaaWireM2
namespace Go.Proofs.Ytlbdnkkaacccoaa
set_option linter.unusedVariables false
set_option linter.unusedSimpArgs false
set_option maxRecDepth 100000
open SL Go.RowKit Go.Maps
theorem eq_bx (x y : Bx) : cellsEq (bxF x) (bxF y) = decide (x = y) := by
  obtain ⟨a, b, c, d⟩ := x
  obtain ⟨a', b', c', d'⟩ := y
  simp only [bxF, cellsEq, vEq, Prod.mk.injEq, Bool.and_true]
  rw [Bool.eq_iff_iff]; simp
theorem sameX_ok (F : Mem) (oa ob : Option Addr) (ca cb : Nat) (a b : List Bx) (ha : SlF F 4 oa a.length (a.flatMap bxF)) (hb : SlF F 4 ob b.length (b.flatMap bxF)) (hn : a.length ≤ 140737488355328) :
    FT Try.prog 19 [.slice oa a.length ca, .slice ob b.length cb].toArray F [] (Ret (.bool (decide (a = b)))) := by
  refine FT.of_body Try.func19 rfl Try.ntmps19 (by simp) fun C hC => ?_
  subst hC
  conv => whnf
  refine cond_split ?_ ?_
  · intro hne
    conv => whnf
    repeat (first | (refine LoadV.s rfl rfl (forceV_of ?_); conv => whnf) | (refine LoadV.s rfl rfl ?_; conv => whnf) | (refine StoreV.c rfl rfl (Nat.le_of_ble_eq_true rfl) rfl ?_; conv => whnf) | (refine LoadV.a _ rfl (Nat.le_of_ble_eq_true rfl) ?_; conv => whnf) | (refine DrawI.quiet (by kernel_rfl) (by kernel_rfl) ?_; conv => whnf) | (refine ArI.in64 (by omega) ?_; conv => whnf) | (refine ArI.inU8 (by omega) ?_; conv => whnf) | (refine ArI.inU64 (by omega) ?_; conv => whnf) | (refine ArI.inU32 (by omega) ?_; conv => whnf) | (refine RetI.one Try.results19 rfl ?_; conv => whnf) | (refine RetI.two Try.results19 rfl rfl ?_; conv => whnf) | (refine RetI.three Try.results19 rfl rfl rfl ?_; conv => whnf) | (refine RetI.none Try.results19 ?_; conv => whnf) | (refine ⟨by first | decide | omega, ?_⟩; conv => whnf))
    refine ⟨_, Sub.refl _, ret_bool ?_, rfl⟩
    have hne : ((a.length : Nat) : Int) ≠ ((b.length : Nat) : Int) := by simpa using hne
    rw [decide_eq_false]
    intro e; subst e; exact hne rfl
  · intro he
    have he : a.length = b.length := by have : ((a.length : Nat) : Int) = ((b.length : Nat) : Int) := by simpa using he
                                        omega
    conv => whnf
    refine LoopI.by_state (σ := Nat) (fun i => [(0, .slice oa a.length ca), (1, .slice ob b.length cb), (12, .int .i64 (a.length : Int)), (13, .int .i64 (i : Int))]) (fun _ => []) (fun i => i ≤ a.length ∧ a.take i = b.take i) (fun i => a.length - i) 0 (by simp) ⟨rfl, rfl, rfl, rfl, trivial⟩ (Sub.refl _) ?_
    rintro i f0 ⟨hi, ht⟩
    conv => whnf
    refine cond_dec (fun h => ?_) (fun h => ?_)
    · have hia : i < a.length := by omega
      have hib : i < b.length := by omega
      obtain ⟨xa, ya, rfl, hra⟩ := ha.at (i := i) hia
      obtain ⟨xb, yb, rfl, hrb⟩ := hb.at (i := i) hib
      conv => whnf
      refine DrawI.quiet (by kernel_rfl) (by kernel_rfl) ?_
      conv => whnf
      refine ⟨by omega, ?_⟩
      conv => whnf
      refine LoadV.fa (cs := bxF (a[i])) (flat_row bxF_length hra hia rfl) rfl ?_
      conv => whnf
      refine ⟨by omega, ?_⟩
      conv => whnf
      refine LoadV.fa (cs := bxF (b[i])) (flat_row bxF_length hrb hib rfl) rfl ?_
      have hpa : ∃ x, x = a[i] := ⟨_, rfl⟩
      have hpb : ∃ x, x = b[i] := ⟨_, rfl⟩
      obtain ⟨x, hx⟩ := hpa
      obtain ⟨y, hy⟩ := hpb
      rw [← hx, ← hy]
      conv => whnf
      refine neqAs (d := 10) (ks := [.i .i64, .i .i64, .i .i64, .i .i64]) (xs := bxF x) (ys := bxF y) (decide (x = y)) (eq_bx x y) (by kernel_rfl) rfl (by kernel_rfl) rfl rfl rfl ?_
      by_cases hq : x = y
      · rw [decide_eq_true hq]
        conv => whnf
        refine ArI.to64 ((i + 1 : Nat) : Int) (by omega) (by omega) ?_
        conv => whnf
        exact ⟨i + 1, [], by omega, Sub.refl _, ⟨by omega, take_eq_step ht (by omega) (by omega) (by rw [← hx, ← hy, hq])⟩, ⟨rfl, rfl, rfl, rfl, trivial⟩, rfl⟩
      · rw [decide_eq_false hq]
        conv => whnf
        repeat (first | (refine LoadV.s rfl rfl (forceV_of ?_); conv => whnf) | (refine LoadV.s rfl rfl ?_; conv => whnf) | (refine StoreV.c rfl rfl (Nat.le_of_ble_eq_true rfl) rfl ?_; conv => whnf) | (refine LoadV.a _ rfl (Nat.le_of_ble_eq_true rfl) ?_; conv => whnf) | (refine DrawI.quiet (by kernel_rfl) (by kernel_rfl) ?_; conv => whnf) | (refine ArI.in64 (by omega) ?_; conv => whnf) | (refine ArI.inU8 (by omega) ?_; conv => whnf) | (refine ArI.inU64 (by omega) ?_; conv => whnf) | (refine ArI.inU32 (by omega) ?_; conv => whnf) | (refine RetI.one Try.results19 rfl ?_; conv => whnf) | (refine RetI.two Try.results19 rfl rfl ?_; conv => whnf) | (refine RetI.three Try.results19 rfl rfl rfl ?_; conv => whnf) | (refine RetI.none Try.results19 ?_; conv => whnf) | (refine ⟨by first | decide | omega, ?_⟩; conv => whnf))
        refine ⟨_, Sub.refl _, ret_bool ?_, rfl⟩
        rw [decide_eq_false]
        intro e; subst e; exact hq (hx.trans hy.symm)
    · conv => whnf
      repeat (first | (refine LoadV.s rfl rfl (forceV_of ?_); conv => whnf) | (refine LoadV.s rfl rfl ?_; conv => whnf) | (refine StoreV.c rfl rfl (Nat.le_of_ble_eq_true rfl) rfl ?_; conv => whnf) | (refine LoadV.a _ rfl (Nat.le_of_ble_eq_true rfl) ?_; conv => whnf) | (refine DrawI.quiet (by kernel_rfl) (by kernel_rfl) ?_; conv => whnf) | (refine ArI.in64 (by omega) ?_; conv => whnf) | (refine ArI.inU8 (by omega) ?_; conv => whnf) | (refine ArI.inU64 (by omega) ?_; conv => whnf) | (refine ArI.inU32 (by omega) ?_; conv => whnf) | (refine RetI.one Try.results19 rfl ?_; conv => whnf) | (refine RetI.two Try.results19 rfl rfl ?_; conv => whnf) | (refine RetI.three Try.results19 rfl rfl rfl ?_; conv => whnf) | (refine RetI.none Try.results19 ?_; conv => whnf) | (refine ⟨by first | decide | omega, ?_⟩; conv => whnf))
      refine ⟨_, Sub.refl _, ret_bool ?_, rfl⟩
      have : i = a.length := by omega
      subst this
      rw [decide_eq_true]
      have h1 : a.take a.length = a := List.take_length
      have h2 : b.take a.length = b := by rw [he]; exact List.take_length
      rw [← h1, ht, h2]
theorem end_cell {τ : Type} {f : τ → List Value} {sz : Nat} {v : Value} {rest : List Value} (hf : ∀ x, (f x).length = sz) (l : List τ) (x : τ) (hx : f x = v :: rest) : ((l ++ [x]).flatMap f)[l.length * sz]? = some v := by
  have h := SL.flat_length hf l
  rw [List.flatMap_append, List.getElem?_append_right (by omega), h, Nat.sub_self]
  simp [hx]
set_option maxHeartbeats 4000000 in
theorem kept_ok (F : Mem) (m : Msg) (s : Sls) (hL : SlF F 2 s.oL (m.L.length + 1) ((m.L ++ [(-7, 0)]).flatMap seatF)) (hJ : SlF F 2 s.oJ (m.J.length + 1) ((m.J ++ [(-8, 0)]).flatMap seatF)) (hI : SlF F 6 s.oI (m.I.length + 1) ((m.I ++ [(-9, 0, 0, 0, 0, 0)]).flatMap itemF))
    (cL : m.L.length + 1 ≤ s.cL) (cJ : m.J.length + 1 ≤ s.cJ) (cI : m.I.length + 1 ≤ s.cI) (lL : m.L.length ≤ 1048576) (lJ : m.J.length ≤ 1048576) (lI : m.I.length ≤ 1048576) :
    FT Try.prog 20 [.agg (msgL m s).toArray].toArray F [] (Ret (.bool true)) := by
  refine FT.of_body Try.func20 rfl Try.ntmps20 (by simp) fun C hC => ?_
  subst hC
  conv => whnf
  intro p
  conv => whnf
  refine DrawI.quiet (by kernel_rfl) (by kernel_rfl) ?_
  conv => whnf
  refine (show LoadV _ _ _ ⟨p, 2, none⟩ _ _ from ?_)
  refine LoadV.s rfl rfl (forceV_of ?_)
  conv => whnf
  refine (show LoadV _ _ _ ⟨p, 3, none⟩ _ _ from ?_)
  refine LoadV.s rfl rfl (forceV_of ?_)
  conv => whnf
  refine (show LoadV _ _ _ ⟨p, 4, none⟩ _ _ from ?_)
  refine LoadV.s rfl rfl (forceV_of ?_)
  conv => whnf
  refine (show LoadV _ _ _ ⟨p, 2, none⟩ _ _ from ?_)
  refine LoadV.s rfl rfl (forceV_of ?_)
  conv => whnf
  refine ArI.to64 ((m.L.length + 1 : Nat) : Int) (by omega) (by omega) ?_
  conv => whnf
  obtain ⟨xb, yb, hoa, hrb⟩ := hL.at (i := m.L.length) (by omega)
  rw [hoa]
  refine DoV.slice_to Try.underlying22 rfl (by omega) (by omega) ?_
  rw [Int.toNat_natCast]
  conv => whnf
  refine ⟨by omega, ?_⟩
  conv => whnf
  refine (show LoadV _ _ _ ⟨xb, yb + m.L.length * 2, none⟩ _ _ from ?_)
  refine LoadV.f (hrb _ _ (end_cell seatF_length m.L _ rfl)) rfl (forceV_of ?_)
  conv => whnf
  refine (show LoadV _ _ _ ⟨p, 3, none⟩ _ _ from ?_)
  refine LoadV.s rfl rfl (forceV_of ?_)
  conv => whnf
  refine ArI.to64 ((m.J.length + 1 : Nat) : Int) (by omega) (by omega) ?_
  conv => whnf
  obtain ⟨xb, yb, hoa, hrb⟩ := hJ.at (i := m.J.length) (by omega)
  rw [hoa]
  refine DoV.slice_to Try.underlying22 rfl (by omega) (by omega) ?_
  rw [Int.toNat_natCast]
  conv => whnf
  refine ⟨by omega, ?_⟩
  conv => whnf
  refine (show LoadV _ _ _ ⟨xb, yb + m.J.length * 2, none⟩ _ _ from ?_)
  refine LoadV.f (hrb _ _ (end_cell seatF_length m.J _ rfl)) rfl (forceV_of ?_)
  conv => whnf
  refine (show LoadV _ _ _ ⟨p, 4, none⟩ _ _ from ?_)
  refine LoadV.s rfl rfl (forceV_of ?_)
  conv => whnf
  refine ArI.to64 ((m.I.length + 1 : Nat) : Int) (by omega) (by omega) ?_
  conv => whnf
  obtain ⟨xb, yb, hoa, hrb⟩ := hI.at (i := m.I.length) (by omega)
  rw [hoa]
  refine DoV.slice_to Try.underlying23 rfl (by omega) (by omega) ?_
  rw [Int.toNat_natCast]
  conv => whnf
  refine ⟨by omega, ?_⟩
  conv => whnf
  refine (show LoadV _ _ _ ⟨xb, yb + m.I.length * 6, none⟩ _ _ from ?_)
  refine LoadV.f (hrb _ _ (end_cell itemF_length m.I _ rfl)) rfl (forceV_of ?_)
  conv => whnf
  repeat (first | (refine LoadV.s rfl rfl (forceV_of ?_); conv => whnf) | (refine LoadV.s rfl rfl ?_; conv => whnf) | (refine StoreV.c rfl rfl (Nat.le_of_ble_eq_true rfl) rfl ?_; conv => whnf) | (refine LoadV.a _ rfl (Nat.le_of_ble_eq_true rfl) ?_; conv => whnf) | (refine DrawI.quiet (by kernel_rfl) (by kernel_rfl) ?_; conv => whnf) | (refine ArI.in64 (by omega) ?_; conv => whnf) | (refine ArI.inU8 (by omega) ?_; conv => whnf) | (refine ArI.inU64 (by omega) ?_; conv => whnf) | (refine ArI.inU32 (by omega) ?_; conv => whnf) | (refine RetI.one Try.results20 rfl ?_; conv => whnf) | (refine RetI.two Try.results20 rfl rfl ?_; conv => whnf) | (refine RetI.three Try.results20 rfl rfl rfl ?_; conv => whnf) | (refine RetI.none Try.results20 ?_; conv => whnf) | (refine ⟨by first | decide | omega, ?_⟩; conv => whnf))
  exact ⟨_, Sub.sel [] rfl, rfl, rfl⟩
end Go.Proofs.Ytlbdnkkaacccoaa
