/- The boxes of a message: the program's, the reference's; whether two lists are the same. -/
import Derived.Test.YtlbdnkkaacccoaaWireM1
namespace Go.Proofs.Ytlbdnkkaacccoaa
set_option linter.unusedVariables false
set_option linter.unusedSimpArgs false
set_option maxRecDepth 100000
open SL Go.RowKit Go.Maps
/-- The boxes that a message holds. -/
def boxesOf (m : Msg) : List Bx := if m.kind = 1 then m.I.map (fun x => x.2.2) else if m.kind = 3 then [m.b0, m.b1, m.b2] else []
abbrev ownX (g : Option (Nat × Nat)) (l : List Bx) : HObj := .own (svOf g l.length) l.length 31 4 (l.flatMap bxF)
/-- What is answered with boxes. -/
def BxRet (l : List Bx) : Ending → Heap → Prop := fun e H => ∃ g, (g = none ↔ l = []) ∧ e = .returned (svOf g l.length) ∧ H = [ownX g l]
set_option maxHeartbeats 4000000 in
theorem wboxes_ok (F : Mem) (m : Msg) (s : Sls) (hr : Rows14 F m s) (hI : m.I.length ≤ 1048576) : FT Try.prog 17 [.agg (msgL m s).toArray].toArray F [] (BxRet (boxesOf m)) := by
  refine FT.of_body Try.func17 rfl Try.ntmps17 (by simp) fun C hC => ?_
  subst hC
  conv => whnf
  intro p
  conv => whnf
  refine (show LoadV _ _ _ ⟨p, 0, none⟩ _ _ from ?_)
  refine LoadV.s rfl rfl (forceV_of ?_)
  unfold boxesOf
  conv => whnf
  refine cond_dec (fun h1 => ?_) (fun h1 => ?_)
  · rw [if_pos h1]
    conv => whnf
    refine (show LoadV _ _ _ ⟨p, 4, none⟩ _ _ from ?_)
    refine LoadV.s rfl rfl (forceV_of ?_)
    conv => whnf
    refine LoopI.by_state (σ := Nat × List Bx × Option (Nat × Nat)) (fun y => [(1, .pointer (some ⟨p, 0, none⟩)), (3, svOf y.2.2 y.2.1.length), (12, .slice s.oI m.I.length s.cI), (13, .int .i64 (m.I.length : Int)), (14, .int .i64 (y.1 : Int))])
      (fun y => [ownX y.2.2 y.2.1, .cells p (msgL m s) 38 (0, 0)])
      (fun y => y.1 ≤ m.I.length ∧ (m.I.map (fun x => x.2.2)).take y.1 = y.2.1 ∧ (y.2.2 = none ↔ y.2.1 = [])) (fun y => m.I.length - y.1) (0, [], none) ⟨Nat.zero_le _, rfl, by simp⟩ ⟨rfl, rfl, rfl, rfl, rfl, trivial⟩ (Sub.trans (Sub.nil 31 4) (Sub.sel [0, 1] rfl)) ?_
    rintro ⟨i, xs, gs⟩ f0 ⟨hi, hx, hgs⟩
    dsimp only at hi hx hgs ⊢
    have hxl : xs.length = i := by rw [← hx, List.length_take, List.length_map]; omega
    conv => whnf
    refine cond_dec (fun h => ?_) (fun h => ?_)
    · have hil : i < m.I.length := by omega
      obtain ⟨xb, yb, hoI, hrb⟩ := hr.I.at (i := i) hil
      have hstep : (m.I.map (fun x => x.2.2)).take (i + 1) = xs ++ [(m.I[i]).2.2] := by
        rw [List.take_succ_eq_append_getElem (by simpa using hil), hx]; simp
      rw [hoI]
      conv => whnf
      refine ⟨by omega, ?_⟩
      conv => whnf
      refine LoadV.fa (cs := itemF (m.I[i])) (flat_row itemF_length hrb hil rfl) rfl ?_
      obtain ⟨x, hxe⟩ : ∃ x, x = m.I[i] := ⟨_, rfl⟩
      rw [← hxe] at hstep ⊢
      obtain ⟨n1, n2, x1, x2, x3, x4⟩ := x
      conv => whnf
      intro e0
      conv => whnf
      refine StoreV.c rfl rfl (Nat.le_of_ble_eq_true rfl) rfl ?_
      conv => whnf
      refine (show LoadV _ _ _ ⟨e0, 2, none⟩ _ _ from ?_)
      refine LoadV.a 4 rfl (Nat.le_of_ble_eq_true rfl) ?_
      conv => whnf
      intro bl
      conv => whnf
      refine BuiltV.append (sv := svOf gs xs.length) (m := 1) Try.underlying51 rfl rfl rfl rfl (by decide) (Row.cells 4) rfl (by decide) rfl (by show (xs.length + 1) * 32 ≤ _; omega) (by omega) fun gb gc => ?_
      conv => whnf
      refine ArI.to64 ((i + 1 : Nat) : Int) (by omega) (by omega) ?_
      conv => whnf
      refine ⟨(i + 1, xs ++ [(x1, x2, x3, x4)], some (gb, gc)), _, by dsimp only; omega, Sub.sel [2, 3] rfl, ⟨by dsimp only; omega, hstep, by simp⟩, ⟨rfl, ?_, rfl, rfl, rfl, trivial⟩, ?_⟩
      · dsimp only; rw [List.length_append]; rfl
      · dsimp only [ownX]; rw [own_snocF bxF xs (x1, x2, x3, x4) gb gc]; rfl
    · have hie : i = m.I.length := by omega
      rw [show m.I.map (fun x => x.2.2) = xs by rw [← hx, hie]; exact (List.take_of_length_le (by simp)).symm]
      conv => whnf
      skip
      repeat (first | (refine LoadV.s rfl rfl (forceV_of ?_); conv => whnf) | (refine LoadV.s rfl rfl ?_; conv => whnf) | (refine StoreV.c rfl rfl (Nat.le_of_ble_eq_true rfl) rfl ?_; conv => whnf) | (refine LoadV.a _ rfl (Nat.le_of_ble_eq_true rfl) ?_; conv => whnf) | (refine DrawI.quiet (by kernel_rfl) (by kernel_rfl) ?_; conv => whnf) | (refine ArI.in64 (by omega) ?_; conv => whnf) | (refine ArI.inU8 (by omega) ?_; conv => whnf) | (refine ArI.inU64 (by omega) ?_; conv => whnf) | (refine ArI.inU32 (by omega) ?_; conv => whnf) | (refine RetI.one Try.results17 rfl ?_; conv => whnf) | (refine RetI.two Try.results17 rfl rfl ?_; conv => whnf) | (refine RetI.three Try.results17 rfl rfl rfl ?_; conv => whnf) | (refine RetI.none Try.results17 ?_; conv => whnf) | (refine ⟨by first | decide | omega, ?_⟩; conv => whnf))
      exact ⟨_, Sub.sel [0] rfl, gs, hgs, rfl, rfl⟩
  · rw [if_neg h1]
    conv => whnf
    refine cond_dec (fun h3 => ?_) (fun h3 => ?_)
    · rw [if_pos h3]
      conv => whnf
      refine DoV.slice_arr Try.underlying32 rfl ?_
      conv => whnf
      refine (show BuiltV _ _ _ #[51, 51] _ _ [.slice none 0 0, .slice (some ⟨p, 10, none⟩) 3 3] _ _ from ?_)
      refine BuiltV.append_nil (m := 3) Try.underlying51 rfl rfl rfl rfl (by decide) (Row.cells 12) rfl (by decide) rfl (by decide) (by decide) fun gb gc => ?_
      conv => whnf
      repeat (first | (refine LoadV.s rfl rfl (forceV_of ?_); conv => whnf) | (refine LoadV.s rfl rfl ?_; conv => whnf) | (refine StoreV.c rfl rfl (Nat.le_of_ble_eq_true rfl) rfl ?_; conv => whnf) | (refine LoadV.a _ rfl (Nat.le_of_ble_eq_true rfl) ?_; conv => whnf) | (refine DrawI.quiet (by kernel_rfl) (by kernel_rfl) ?_; conv => whnf) | (refine ArI.in64 (by omega) ?_; conv => whnf) | (refine ArI.inU8 (by omega) ?_; conv => whnf) | (refine ArI.inU64 (by omega) ?_; conv => whnf) | (refine ArI.inU32 (by omega) ?_; conv => whnf) | (refine RetI.one Try.results17 rfl ?_; conv => whnf) | (refine RetI.two Try.results17 rfl rfl ?_; conv => whnf) | (refine RetI.three Try.results17 rfl rfl rfl ?_; conv => whnf) | (refine RetI.none Try.results17 ?_; conv => whnf) | (refine ⟨by first | decide | omega, ?_⟩; conv => whnf))
      exact ⟨_, Sub.sel [0] rfl, some (gb, gc), by simp, rfl, rfl⟩
    · rw [if_neg h3]
      conv => whnf
      repeat (first | (refine LoadV.s rfl rfl (forceV_of ?_); conv => whnf) | (refine LoadV.s rfl rfl ?_; conv => whnf) | (refine StoreV.c rfl rfl (Nat.le_of_ble_eq_true rfl) rfl ?_; conv => whnf) | (refine LoadV.a _ rfl (Nat.le_of_ble_eq_true rfl) ?_; conv => whnf) | (refine DrawI.quiet (by kernel_rfl) (by kernel_rfl) ?_; conv => whnf) | (refine ArI.in64 (by omega) ?_; conv => whnf) | (refine ArI.inU8 (by omega) ?_; conv => whnf) | (refine ArI.inU64 (by omega) ?_; conv => whnf) | (refine ArI.inU32 (by omega) ?_; conv => whnf) | (refine RetI.one Try.results17 rfl ?_; conv => whnf) | (refine RetI.two Try.results17 rfl rfl ?_; conv => whnf) | (refine RetI.three Try.results17 rfl rfl rfl ?_; conv => whnf) | (refine RetI.none Try.results17 ?_; conv => whnf) | (refine ⟨by first | decide | omega, ?_⟩; conv => whnf))
      exact ⟨_, Sub.trans (Sub.nil 31 4) (Sub.sel [0] rfl), none, by simp, rfl, rfl⟩
set_option maxHeartbeats 4000000 in
theorem rboxes_ok (F : Mem) (m : Msg) (s : Sls) (hr : Rows14 F m s) (hI : m.I.length ≤ 1048576) : FT Try.prog 18 [.agg (msgL m s).toArray].toArray F [] (BxRet (boxesOf m)) := by
  refine FT.of_body Try.func18 rfl Try.ntmps18 (by simp) fun C hC => ?_
  subst hC
  conv => whnf
  intro p
  conv => whnf
  refine (show LoadV _ _ _ ⟨p, 0, none⟩ _ _ from ?_)
  refine LoadV.s rfl rfl (forceV_of ?_)
  unfold boxesOf
  conv => whnf
  refine cond_dec (fun h1 => ?_) (fun h1 => ?_)
  · rw [if_pos h1]
    conv => whnf
    refine (show LoadV _ _ _ ⟨p, 4, none⟩ _ _ from ?_)
    refine LoadV.s rfl rfl (forceV_of ?_)
    conv => whnf
    refine LoopI.by_state (σ := Nat × List Bx × Option (Nat × Nat)) (fun y => [(1, .pointer (some ⟨p, 0, none⟩)), (3, svOf y.2.2 y.2.1.length), (11, .slice s.oI m.I.length s.cI), (12, .int .i64 (m.I.length : Int)), (13, .int .i64 (y.1 : Int))])
      (fun y => [ownX y.2.2 y.2.1, .cells p (msgL m s) 38 (0, 0)])
      (fun y => y.1 ≤ m.I.length ∧ (m.I.map (fun x => x.2.2)).take y.1 = y.2.1 ∧ (y.2.2 = none ↔ y.2.1 = [])) (fun y => m.I.length - y.1) (0, [], none) ⟨Nat.zero_le _, rfl, by simp⟩ ⟨rfl, rfl, rfl, rfl, rfl, trivial⟩ (Sub.trans (Sub.nil 31 4) (Sub.sel [0, 1] rfl)) ?_
    rintro ⟨i, xs, gs⟩ f0 ⟨hi, hx, hgs⟩
    dsimp only at hi hx hgs ⊢
    have hxl : xs.length = i := by rw [← hx, List.length_take, List.length_map]; omega
    conv => whnf
    refine cond_dec (fun h => ?_) (fun h => ?_)
    · have hil : i < m.I.length := by omega
      obtain ⟨xb, yb, hoI, hrb⟩ := hr.I.at (i := i) hil
      have hstep : (m.I.map (fun x => x.2.2)).take (i + 1) = xs ++ [(m.I[i]).2.2] := by
        rw [List.take_succ_eq_append_getElem (by simpa using hil), hx]; simp
      rw [hoI]
      conv => whnf
      refine ⟨by omega, ?_⟩
      conv => whnf
      refine LoadV.fa (cs := itemF (m.I[i])) (flat_row itemF_length hrb hil rfl) rfl ?_
      obtain ⟨x, hxe⟩ : ∃ x, x = m.I[i] := ⟨_, rfl⟩
      rw [← hxe] at hstep ⊢
      obtain ⟨n1, n2, x1, x2, x3, x4⟩ := x
      conv => whnf
      intro e0
      conv => whnf
      refine StoreV.c rfl rfl (Nat.le_of_ble_eq_true rfl) rfl ?_
      conv => whnf
      refine (show LoadV _ _ _ ⟨e0, 2, none⟩ _ _ from ?_)
      refine LoadV.a 4 rfl (Nat.le_of_ble_eq_true rfl) ?_
      conv => whnf
      intro bl
      conv => whnf
      refine BuiltV.append (sv := svOf gs xs.length) (m := 1) Try.underlying51 rfl rfl rfl rfl (by decide) (Row.cells 4) rfl (by decide) rfl (by show (xs.length + 1) * 32 ≤ _; omega) (by omega) fun gb gc => ?_
      conv => whnf
      refine ArI.to64 ((i + 1 : Nat) : Int) (by omega) (by omega) ?_
      conv => whnf
      refine ⟨(i + 1, xs ++ [(x1, x2, x3, x4)], some (gb, gc)), _, by dsimp only; omega, Sub.sel [2, 3] rfl, ⟨by dsimp only; omega, hstep, by simp⟩, ⟨rfl, ?_, rfl, rfl, rfl, trivial⟩, ?_⟩
      · dsimp only; rw [List.length_append]; rfl
      · dsimp only [ownX]; rw [own_snocF bxF xs (x1, x2, x3, x4) gb gc]; rfl
    · have hie : i = m.I.length := by omega
      rw [show m.I.map (fun x => x.2.2) = xs by rw [← hx, hie]; exact (List.take_of_length_le (by simp)).symm]
      conv => whnf
      (refine (show LoadV _ _ _ ⟨p, 0, none⟩ _ _ from ?_); refine LoadV.s rfl rfl (forceV_of ?_); (conv => whnf); rw [show (m.kind == 3) = false by rw [h1]; rfl]; (conv => whnf))
      repeat (first | (refine LoadV.s rfl rfl (forceV_of ?_); conv => whnf) | (refine LoadV.s rfl rfl ?_; conv => whnf) | (refine StoreV.c rfl rfl (Nat.le_of_ble_eq_true rfl) rfl ?_; conv => whnf) | (refine LoadV.a _ rfl (Nat.le_of_ble_eq_true rfl) ?_; conv => whnf) | (refine DrawI.quiet (by kernel_rfl) (by kernel_rfl) ?_; conv => whnf) | (refine ArI.in64 (by omega) ?_; conv => whnf) | (refine ArI.inU8 (by omega) ?_; conv => whnf) | (refine ArI.inU64 (by omega) ?_; conv => whnf) | (refine ArI.inU32 (by omega) ?_; conv => whnf) | (refine RetI.one Try.results18 rfl ?_; conv => whnf) | (refine RetI.two Try.results18 rfl rfl ?_; conv => whnf) | (refine RetI.three Try.results18 rfl rfl rfl ?_; conv => whnf) | (refine RetI.none Try.results18 ?_; conv => whnf) | (refine ⟨by first | decide | omega, ?_⟩; conv => whnf))
      exact ⟨_, Sub.sel [0] rfl, gs, hgs, rfl, rfl⟩
  · rw [if_neg h1]
    conv => whnf
    refine (show LoadV _ _ _ ⟨p, 0, none⟩ _ _ from ?_)
    refine LoadV.s rfl rfl (forceV_of ?_)
    conv => whnf
    refine cond_dec (fun h3 => ?_) (fun h3 => ?_)
    · rw [if_pos h3]
      conv => whnf
      refine DoV.slice_arr Try.underlying32 rfl ?_
      conv => whnf
      refine (show BuiltV _ _ _ #[51, 51] _ _ [.slice none 0 0, .slice (some ⟨p, 10, none⟩) 3 3] _ _ from ?_)
      refine BuiltV.append_nil (m := 3) Try.underlying51 rfl rfl rfl rfl (by decide) (Row.cells 12) rfl (by decide) rfl (by decide) (by decide) fun gb gc => ?_
      conv => whnf
      repeat (first | (refine LoadV.s rfl rfl (forceV_of ?_); conv => whnf) | (refine LoadV.s rfl rfl ?_; conv => whnf) | (refine StoreV.c rfl rfl (Nat.le_of_ble_eq_true rfl) rfl ?_; conv => whnf) | (refine LoadV.a _ rfl (Nat.le_of_ble_eq_true rfl) ?_; conv => whnf) | (refine DrawI.quiet (by kernel_rfl) (by kernel_rfl) ?_; conv => whnf) | (refine ArI.in64 (by omega) ?_; conv => whnf) | (refine ArI.inU8 (by omega) ?_; conv => whnf) | (refine ArI.inU64 (by omega) ?_; conv => whnf) | (refine ArI.inU32 (by omega) ?_; conv => whnf) | (refine RetI.one Try.results18 rfl ?_; conv => whnf) | (refine RetI.two Try.results18 rfl rfl ?_; conv => whnf) | (refine RetI.three Try.results18 rfl rfl rfl ?_; conv => whnf) | (refine RetI.none Try.results18 ?_; conv => whnf) | (refine ⟨by first | decide | omega, ?_⟩; conv => whnf))
      exact ⟨_, Sub.sel [0] rfl, some (gb, gc), by simp, rfl, rfl⟩
    · rw [if_neg h3]
      conv => whnf
      repeat (first | (refine LoadV.s rfl rfl (forceV_of ?_); conv => whnf) | (refine LoadV.s rfl rfl ?_; conv => whnf) | (refine StoreV.c rfl rfl (Nat.le_of_ble_eq_true rfl) rfl ?_; conv => whnf) | (refine LoadV.a _ rfl (Nat.le_of_ble_eq_true rfl) ?_; conv => whnf) | (refine DrawI.quiet (by kernel_rfl) (by kernel_rfl) ?_; conv => whnf) | (refine ArI.in64 (by omega) ?_; conv => whnf) | (refine ArI.inU8 (by omega) ?_; conv => whnf) | (refine ArI.inU64 (by omega) ?_; conv => whnf) | (refine ArI.inU32 (by omega) ?_; conv => whnf) | (refine RetI.one Try.results18 rfl ?_; conv => whnf) | (refine RetI.two Try.results18 rfl rfl ?_; conv => whnf) | (refine RetI.three Try.results18 rfl rfl rfl ?_; conv => whnf) | (refine RetI.none Try.results18 ?_; conv => whnf) | (refine ⟨by first | decide | omega, ?_⟩; conv => whnf))
      exact ⟨_, Sub.trans (Sub.nil 31 4) (Sub.sel [0] rfl), none, by simp, rfl, rfl⟩
end Go.Proofs.Ytlbdnkkaacccoaa
