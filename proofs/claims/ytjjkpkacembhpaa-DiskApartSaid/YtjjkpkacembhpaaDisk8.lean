/- The reference's disk: its simple functions. -/
import Derived.Test.YtjjkpkacembhpaaDisk6
namespace Go.Proofs.Ytjjkpkacembhpaa
set_option linter.unusedVariables false
set_option linter.unusedSimpArgs false
open SL Go.RowKit Go.Maps

/-- The blocks' row is this one. -/
abbrev refH (d : Nat) (g0 : Option (Nat × Nat)) (fi : List ByteArray) (rb : Nat) (bl : List ByteArray) (gl : Option (Nat × Nat)) (lg : List (Int × ByteArray)) (p : Int) : Heap :=
  [.cells d [svOf g0 fi.length, .slice (some ⟨rb, 0, none⟩) 2048 2048, svOf gl lg.length, .int .i64 p] 47 (0, 0), .own (svOf g0 fi.length) fi.length 9 1 (strs fi), .cells rb (strs bl) 9 (0, 0), .own (svOf gl lg.length) lg.length 29 2 (logCells lg)]
theorem putAt_strs (bl : List ByteArray) (k : Nat) (s : ByteArray) (h : k < bl.length) : putAt (strs bl) (0 + k) [.string s] = strs (bl.set k s) := by
  rw [Nat.zero_add, putAt_one _ _ _ (by simpa using h)]; simp [strs]
theorem r5on_ok (F : Mem) (d : Nat) (x y z : Value) (p : Int) : FT Try.prog 25 [.pointer (some ⟨d, 0, none⟩)].toArray F [.cells d [x, y, z, .int .i64 p] 47 (0, 0)]
    (fun e H => e = .returned (.bool (p != 0)) ∧ H = [.cells d [x, y, z, .int .i64 p] 47 (0, 0)]) := by
  refine FT.of_body Try.func25 rfl Try.ntmps25 (by simp) fun C hC => ?_
  subst hC
  conv => whnf
  repeat (first | (refine LoadV.s rfl rfl (forceV_of ?_); conv => whnf) | (refine LoadV.s rfl rfl ?_; conv => whnf) | (refine StoreV.c rfl rfl (Nat.le_of_ble_eq_true rfl) rfl ?_; conv => whnf) | (refine LoadV.a _ rfl (Nat.le_of_ble_eq_true rfl) ?_; conv => whnf) | (refine DrawI.quiet (by kernel_rfl) (by kernel_rfl) ?_; conv => whnf) | (refine ArI.in64 (by omega) ?_; conv => whnf) | (refine ArI.inU8 (by omega) ?_; conv => whnf) | (refine ArI.inU64 (by omega) ?_; conv => whnf) | (refine ArI.inU32 (by omega) ?_; conv => whnf) | (refine RetI.one Try.results25 rfl ?_; conv => whnf) | (refine RetI.two Try.results25 rfl rfl ?_; conv => whnf) | (refine RetI.three Try.results25 rfl rfl rfl ?_; conv => whnf) | (refine RetI.none Try.results25 ?_; conv => whnf) | (refine ⟨by first | decide | omega, ?_⟩; conv => whnf))
  exact ⟨_, Sub.refl _, rfl, rfl⟩
theorem r5off_ok (F : Mem) (d : Nat) (x y z : Value) (p : Int) : FT Try.prog 33 [.pointer (some ⟨d, 0, none⟩)].toArray F [.cells d [x, y, z, .int .i64 p] 47 (0, 0)]
    (fun e H => e = .returned (.tuple #[]) ∧ H = [.cells d [x, y, z, .int .i64 0] 47 (0, 0)]) := by
  refine FT.of_body Try.func33 rfl Try.ntmps33 (by simp) fun C hC => ?_
  subst hC
  conv => whnf
  repeat (first | (refine LoadV.s rfl rfl (forceV_of ?_); conv => whnf) | (refine LoadV.s rfl rfl ?_; conv => whnf) | (refine StoreV.c rfl rfl (Nat.le_of_ble_eq_true rfl) rfl ?_; conv => whnf) | (refine LoadV.a _ rfl (Nat.le_of_ble_eq_true rfl) ?_; conv => whnf) | (refine DrawI.quiet (by kernel_rfl) (by kernel_rfl) ?_; conv => whnf) | (refine ArI.in64 (by omega) ?_; conv => whnf) | (refine ArI.inU8 (by omega) ?_; conv => whnf) | (refine ArI.inU64 (by omega) ?_; conv => whnf) | (refine ArI.inU32 (by omega) ?_; conv => whnf) | (refine RetI.one Try.results33 rfl ?_; conv => whnf) | (refine RetI.two Try.results33 rfl rfl ?_; conv => whnf) | (refine RetI.three Try.results33 rfl rfl rfl ?_; conv => whnf) | (refine RetI.none Try.results33 ?_; conv => whnf) | (refine ⟨by first | decide | omega, ?_⟩; conv => whnf))
  exact ⟨_, Sub.refl _, rfl, rfl⟩
theorem r5up_ok (F : Mem) (d : Nat) (x y z : Value) (p n : Int) : FT Try.prog 32 [.pointer (some ⟨d, 0, none⟩), .int .i64 n].toArray F [.cells d [x, y, z, .int .i64 p] 47 (0, 0)]
    (fun e H => e = .returned (.tuple #[]) ∧ H = [.cells d [x, y, z, .int .i64 (max n (-1))] 47 (0, 0)]) := by
  refine FT.of_body Try.func32 rfl Try.ntmps32 (by simp) fun C hC => ?_
  subst hC
  conv => whnf
  repeat (first | (refine LoadV.s rfl rfl (forceV_of ?_); conv => whnf) | (refine LoadV.s rfl rfl ?_; conv => whnf) | (refine StoreV.c rfl rfl (Nat.le_of_ble_eq_true rfl) rfl ?_; conv => whnf) | (refine LoadV.a _ rfl (Nat.le_of_ble_eq_true rfl) ?_; conv => whnf) | (refine DrawI.quiet (by kernel_rfl) (by kernel_rfl) ?_; conv => whnf) | (refine ArI.in64 (by omega) ?_; conv => whnf) | (refine ArI.inU8 (by omega) ?_; conv => whnf) | (refine ArI.inU64 (by omega) ?_; conv => whnf) | (refine ArI.inU32 (by omega) ?_; conv => whnf) | (refine RetI.one Try.results32 rfl ?_; conv => whnf) | (refine RetI.two Try.results32 rfl rfl ?_; conv => whnf) | (refine RetI.three Try.results32 rfl rfl rfl ?_; conv => whnf) | (refine RetI.none Try.results32 ?_; conv => whnf) | (refine ⟨by first | decide | omega, ?_⟩; conv => whnf))
  exact ⟨_, Sub.refl _, rfl, rfl⟩
theorem r5new_ok (F : Mem) : FT Try.prog 23 [].toArray F [] (fun e H => ∃ d rb bl, bl = List.replicate 2048 nul ∧ e = .returned (.pointer (some ⟨d, 0, none⟩)) ∧ H = refH d none [] rb bl none [] (-1)) := by
  refine FT.of_body Try.func23 rfl Try.ntmps23 (by simp) fun C hC => ?_
  subst hC
  conv => whnf
  refine DoV.makeSlice Try.underlying27 rfl rfl rfl rfl (by omega) (by decide) (by omega) fun b2 => ?_
  conv => whnf
  intro d
  conv => whnf
  repeat (first | (refine LoadV.s rfl rfl (forceV_of ?_); conv => whnf) | (refine LoadV.s rfl rfl ?_; conv => whnf) | (refine StoreV.c rfl rfl (Nat.le_of_ble_eq_true rfl) rfl ?_; conv => whnf) | (refine LoadV.a _ rfl (Nat.le_of_ble_eq_true rfl) ?_; conv => whnf) | (refine DrawI.quiet (by kernel_rfl) (by kernel_rfl) ?_; conv => whnf) | (refine ArI.in64 (by omega) ?_; conv => whnf) | (refine ArI.inU8 (by omega) ?_; conv => whnf) | (refine ArI.inU64 (by omega) ?_; conv => whnf) | (refine ArI.inU32 (by omega) ?_; conv => whnf) | (refine RetI.one Try.results23 rfl ?_; conv => whnf) | (refine RetI.two Try.results23 rfl rfl ?_; conv => whnf) | (refine RetI.three Try.results23 rfl rfl rfl ?_; conv => whnf) | (refine RetI.none Try.results23 ?_; conv => whnf) | (refine ⟨by first | decide | omega, ?_⟩; conv => whnf))
  refine ⟨_, Sub.trans (Sub.trans (Sub.nil 29 2) (Sub.nil 9 1)) (Sub.sel [2, 0, 3, 1] rfl), d, b2, _, rfl, rfl, ?_⟩
  have e : strs (List.replicate 2048 nul) = List.replicate 2048 (.string nul) := List.map_replicate
  rw [refH, e]; rfl
def wPow (p : Int) : Int := if p > 0 then p - 1 else p
theorem r5write_ok (F : Mem) (d : Nat) (x : Value) (rb : Nat) (bl : List ByteArray) (gl : Option (Nat × Nat)) (lg : List (Int × ByteArray)) (p at_ : Int) (s : ByteArray) (hbl : bl.length = 2048)
    (hlog : (lg.length + 1) * 24 ≤ 140737488355328) (hp : p ≤ 9223372036854775807) :
    FT Try.prog 21 [.pointer (some ⟨d, 0, none⟩), .int .i64 at_, .string s].toArray F [.cells d [x, .slice (some ⟨rb, 0, none⟩) 2048 2048, svOf gl lg.length, .int .i64 p] 47 (0, 0), .cells rb (strs bl) 9 (0, 0), .own (svOf gl lg.length) lg.length 29 2 (logCells lg)]
    (fun e H => e = .returned (.int .i64 (wcode (p != 0) at_ s)) ∧ ((wcode (p != 0) at_ s ≠ 0 ∧ H = [.cells d [x, .slice (some ⟨rb, 0, none⟩) 2048 2048, svOf gl lg.length, .int .i64 p] 47 (0, 0), .cells rb (strs bl) 9 (0, 0), .own (svOf gl lg.length) lg.length 29 2 (logCells lg)]) ∨
      (wcode (p != 0) at_ s = 0 ∧ ∃ gl', gl' ≠ none ∧ H = [.cells d [x, .slice (some ⟨rb, 0, none⟩) 2048 2048, svOf gl' (lg ++ [(at_, s)]).length, .int .i64 (wPow p)] 47 (0, 0), .cells rb (strs (bl.set at_.toNat s)) 9 (0, 0), .own (svOf gl' (lg ++ [(at_, s)]).length) (lg ++ [(at_, s)]).length 29 2 (logCells (lg ++ [(at_, s)]))]))) := by
  refine FT.of_body Try.func21 rfl Try.ntmps21 (by simp) fun C hC => ?_
  subst hC
  conv => whnf
  refine CallS.mk Try.call25 ⟨[_], _, _, Sub.split [0] rfl, fun F' hF' => r5on_ok F' d _ _ _ _, ?_⟩
  rintro e A' ⟨rfl, rfl⟩
  cases hon : (p != 0) with
  | false =>
    conv => whnf
    repeat (first | (refine LoadV.s rfl rfl (forceV_of ?_); conv => whnf) | (refine LoadV.s rfl rfl ?_; conv => whnf) | (refine StoreV.c rfl rfl (Nat.le_of_ble_eq_true rfl) rfl ?_; conv => whnf) | (refine LoadV.a _ rfl (Nat.le_of_ble_eq_true rfl) ?_; conv => whnf) | (refine DrawI.quiet (by kernel_rfl) (by kernel_rfl) ?_; conv => whnf) | (refine ArI.in64 (by omega) ?_; conv => whnf) | (refine ArI.inU8 (by omega) ?_; conv => whnf) | (refine ArI.inU64 (by omega) ?_; conv => whnf) | (refine ArI.inU32 (by omega) ?_; conv => whnf) | (refine RetI.one Try.results21 rfl ?_; conv => whnf) | (refine RetI.two Try.results21 rfl rfl ?_; conv => whnf) | (refine RetI.three Try.results21 rfl rfl rfl ?_; conv => whnf) | (refine RetI.none Try.results21 ?_; conv => whnf) | (refine ⟨by first | decide | omega, ?_⟩; conv => whnf))
    exact ⟨_, Sub.refl _, rfl, .inl ⟨by unfold wcode; simp, rfl⟩⟩
  | true =>
    conv => whnf
    refine cond_dec (fun h1 => ?_) (fun h1 => ?_)
    · conv => whnf
      repeat (first | (refine LoadV.s rfl rfl (forceV_of ?_); conv => whnf) | (refine LoadV.s rfl rfl ?_; conv => whnf) | (refine StoreV.c rfl rfl (Nat.le_of_ble_eq_true rfl) rfl ?_; conv => whnf) | (refine LoadV.a _ rfl (Nat.le_of_ble_eq_true rfl) ?_; conv => whnf) | (refine DrawI.quiet (by kernel_rfl) (by kernel_rfl) ?_; conv => whnf) | (refine ArI.in64 (by omega) ?_; conv => whnf) | (refine ArI.inU8 (by omega) ?_; conv => whnf) | (refine ArI.inU64 (by omega) ?_; conv => whnf) | (refine ArI.inU32 (by omega) ?_; conv => whnf) | (refine RetI.one Try.results21 rfl ?_; conv => whnf) | (refine RetI.two Try.results21 rfl rfl ?_; conv => whnf) | (refine RetI.three Try.results21 rfl rfl rfl ?_; conv => whnf) | (refine RetI.none Try.results21 ?_; conv => whnf) | (refine ⟨by first | decide | omega, ?_⟩; conv => whnf))
      have hw : wcode true at_ s = 8 := by unfold wcode; rw [if_neg (by simp), if_pos (.inl h1)]
      exact ⟨_, Sub.refl _, ret_int hw.symm, .inl ⟨by rw [hw]; simp, rfl⟩⟩
    · conv => whnf
      refine cond_dec (fun h2 => ?_) (fun h2 => ?_)
      · conv => whnf
        repeat (first | (refine LoadV.s rfl rfl (forceV_of ?_); conv => whnf) | (refine LoadV.s rfl rfl ?_; conv => whnf) | (refine StoreV.c rfl rfl (Nat.le_of_ble_eq_true rfl) rfl ?_; conv => whnf) | (refine LoadV.a _ rfl (Nat.le_of_ble_eq_true rfl) ?_; conv => whnf) | (refine DrawI.quiet (by kernel_rfl) (by kernel_rfl) ?_; conv => whnf) | (refine ArI.in64 (by omega) ?_; conv => whnf) | (refine ArI.inU8 (by omega) ?_; conv => whnf) | (refine ArI.inU64 (by omega) ?_; conv => whnf) | (refine ArI.inU32 (by omega) ?_; conv => whnf) | (refine RetI.one Try.results21 rfl ?_; conv => whnf) | (refine RetI.two Try.results21 rfl rfl ?_; conv => whnf) | (refine RetI.three Try.results21 rfl rfl rfl ?_; conv => whnf) | (refine RetI.none Try.results21 ?_; conv => whnf) | (refine ⟨by first | decide | omega, ?_⟩; conv => whnf))
        have hw : wcode true at_ s = 8 := by unfold wcode; rw [if_neg (by simp), if_pos (.inr h2)]
        exact ⟨_, Sub.refl _, ret_int hw.symm, .inl ⟨by rw [hw]; simp, rfl⟩⟩
      · conv => whnf
        refine cond_dec (fun h3 => ?_) (fun h3 => ?_)
        · conv => whnf
          repeat (first | (refine LoadV.s rfl rfl (forceV_of ?_); conv => whnf) | (refine LoadV.s rfl rfl ?_; conv => whnf) | (refine StoreV.c rfl rfl (Nat.le_of_ble_eq_true rfl) rfl ?_; conv => whnf) | (refine LoadV.a _ rfl (Nat.le_of_ble_eq_true rfl) ?_; conv => whnf) | (refine DrawI.quiet (by kernel_rfl) (by kernel_rfl) ?_; conv => whnf) | (refine ArI.in64 (by omega) ?_; conv => whnf) | (refine ArI.inU8 (by omega) ?_; conv => whnf) | (refine ArI.inU64 (by omega) ?_; conv => whnf) | (refine ArI.inU32 (by omega) ?_; conv => whnf) | (refine RetI.one Try.results21 rfl ?_; conv => whnf) | (refine RetI.two Try.results21 rfl rfl ?_; conv => whnf) | (refine RetI.three Try.results21 rfl rfl rfl ?_; conv => whnf) | (refine RetI.none Try.results21 ?_; conv => whnf) | (refine ⟨by first | decide | omega, ?_⟩; conv => whnf))
          have hw : wcode true at_ s = 9 := by unfold wcode; rw [if_neg (by simp), if_neg (by omega), if_pos (by have h4 : (32 : Int) < (s.size : Int) := h3; omega)]
          exact ⟨_, Sub.refl _, ret_int hw.symm, .inl ⟨by rw [hw]; simp, rfl⟩⟩
        · have hw : wcode true at_ s = 0 := by unfold wcode; rw [if_neg (by simp), if_neg (by omega), if_neg (by have h4 : ¬ (32 : Int) < (s.size : Int) := h3; omega)]
          obtain ⟨k, rfl⟩ : ∃ k : Nat, at_ = k := ⟨at_.toNat, by omega⟩
          conv => whnf
          refine LoadV.s rfl rfl ?_
          conv => whnf
          refine ⟨by omega, ?_⟩
          conv => whnf
          refine StoreV.c rfl rfl (by show 0 + k + 1 ≤ (strs bl).length; simp only [strs, List.length_map]; omega) rfl ?_
          conv => whnf
          refine LoadV.s rfl rfl (forceV_of ?_)
          conv => whnf
          intro b
          conv => whnf
          refine BuiltV.append (sv := svOf gl lg.length) (m := 1) Try.underlying22 rfl rfl rfl rfl (by decide) (Row.cells 2) rfl (by decide) rfl hlog (by omega) fun g cap => ?_
          conv => whnf
          refine StoreV.c rfl rfl (Nat.le_of_ble_eq_true rfl) rfl ?_
          conv => whnf
          refine LoadV.s rfl rfl ?_
          conv => whnf
          have e1 : svOf (some (g, cap)) (lg ++ [((k : Int), s)]).length = .slice (some ⟨g, 0, none⟩) (lg.length + 1) cap := by simp
          have e0 : putAt (strs bl) (0 + k) [.string s] = strs (bl.set (Int.toNat k) s) := putAt_strs bl k s (by omega)
          refine cond_dec (fun h4 => ?_) (fun h4 => ?_)
          · conv => whnf
            refine LoadV.s rfl rfl ?_
            conv => whnf
            refine ArI.in64 (by omega) ?_
            conv => whnf
            refine StoreV.c rfl rfl (Nat.le_of_ble_eq_true rfl) rfl ?_
            conv => whnf
            repeat (first | (refine LoadV.s rfl rfl (forceV_of ?_); conv => whnf) | (refine LoadV.s rfl rfl ?_; conv => whnf) | (refine StoreV.c rfl rfl (Nat.le_of_ble_eq_true rfl) rfl ?_; conv => whnf) | (refine LoadV.a _ rfl (Nat.le_of_ble_eq_true rfl) ?_; conv => whnf) | (refine DrawI.quiet (by kernel_rfl) (by kernel_rfl) ?_; conv => whnf) | (refine ArI.in64 (by omega) ?_; conv => whnf) | (refine ArI.inU8 (by omega) ?_; conv => whnf) | (refine ArI.inU64 (by omega) ?_; conv => whnf) | (refine ArI.inU32 (by omega) ?_; conv => whnf) | (refine RetI.one Try.results21 rfl ?_; conv => whnf) | (refine RetI.two Try.results21 rfl rfl ?_; conv => whnf) | (refine RetI.three Try.results21 rfl rfl rfl ?_; conv => whnf) | (refine RetI.none Try.results21 ?_; conv => whnf) | (refine ⟨by first | decide | omega, ?_⟩; conv => whnf))
            refine ⟨_, Sub.sel [1, 2, 3] rfl, ret_int hw.symm, .inr ⟨hw, some (g, cap), by simp, ?_⟩⟩
            rw [e1, show wPow p = p - 1 from if_pos h4, logCells_append, ← e0, List.length_append]; rfl
          · conv => whnf
            repeat (first | (refine LoadV.s rfl rfl (forceV_of ?_); conv => whnf) | (refine LoadV.s rfl rfl ?_; conv => whnf) | (refine StoreV.c rfl rfl (Nat.le_of_ble_eq_true rfl) rfl ?_; conv => whnf) | (refine LoadV.a _ rfl (Nat.le_of_ble_eq_true rfl) ?_; conv => whnf) | (refine DrawI.quiet (by kernel_rfl) (by kernel_rfl) ?_; conv => whnf) | (refine ArI.in64 (by omega) ?_; conv => whnf) | (refine ArI.inU8 (by omega) ?_; conv => whnf) | (refine ArI.inU64 (by omega) ?_; conv => whnf) | (refine ArI.inU32 (by omega) ?_; conv => whnf) | (refine RetI.one Try.results21 rfl ?_; conv => whnf) | (refine RetI.two Try.results21 rfl rfl ?_; conv => whnf) | (refine RetI.three Try.results21 rfl rfl rfl ?_; conv => whnf) | (refine RetI.none Try.results21 ?_; conv => whnf) | (refine ⟨by first | decide | omega, ?_⟩; conv => whnf))
            refine ⟨_, Sub.sel [1, 2, 3] rfl, ret_int hw.symm, .inr ⟨hw, some (g, cap), by simp, ?_⟩⟩
            rw [e1, show wPow p = p from if_neg h4, logCells_append, ← e0, List.length_append]; rfl
def r5readV (on : Bool) (bl : List ByteArray) (at_ : Int) : ByteArray × Int :=
  if on = false then (⟨#[]⟩, 11) else if at_ < 0 ∨ at_ ≥ 2048 then (⟨#[]⟩, 8) else ((bl[at_.toNat]?).getD ⟨#[]⟩, 0)
theorem r5read_ok (F : Mem) (d : Nat) (x y : Value) (rb : Nat) (bl : List ByteArray) (p at_ : Int) (hbl : bl.length = 2048) :
    FT Try.prog 31 [.pointer (some ⟨d, 0, none⟩), .int .i64 at_].toArray F [.cells d [x, .slice (some ⟨rb, 0, none⟩) 2048 2048, y, .int .i64 p] 47 (0, 0), .cells rb (strs bl) 9 (0, 0)]
    (fun e H => e = .returned (.tuple #[.string (r5readV (p != 0) bl at_).1, .int .i64 (r5readV (p != 0) bl at_).2]) ∧ H = [.cells d [x, .slice (some ⟨rb, 0, none⟩) 2048 2048, y, .int .i64 p] 47 (0, 0), .cells rb (strs bl) 9 (0, 0)]) := by
  refine FT.of_body Try.func31 rfl Try.ntmps31 (by simp) fun C hC => ?_
  subst hC
  conv => whnf
  refine CallS.mk Try.call25 ⟨[_], _, _, Sub.split [0] rfl, fun F' hF' => r5on_ok F' d _ _ _ _, ?_⟩
  rintro e A' ⟨rfl, rfl⟩
  cases hon : (p != 0) with
  | false =>
    conv => whnf
    repeat (first | (refine LoadV.s rfl rfl (forceV_of ?_); conv => whnf) | (refine LoadV.s rfl rfl ?_; conv => whnf) | (refine StoreV.c rfl rfl (Nat.le_of_ble_eq_true rfl) rfl ?_; conv => whnf) | (refine LoadV.a _ rfl (Nat.le_of_ble_eq_true rfl) ?_; conv => whnf) | (refine DrawI.quiet (by kernel_rfl) (by kernel_rfl) ?_; conv => whnf) | (refine ArI.in64 (by omega) ?_; conv => whnf) | (refine ArI.inU8 (by omega) ?_; conv => whnf) | (refine ArI.inU64 (by omega) ?_; conv => whnf) | (refine ArI.inU32 (by omega) ?_; conv => whnf) | (refine RetI.one Try.results31 rfl ?_; conv => whnf) | (refine RetI.two Try.results31 rfl rfl ?_; conv => whnf) | (refine RetI.three Try.results31 rfl rfl rfl ?_; conv => whnf) | (refine RetI.none Try.results31 ?_; conv => whnf) | (refine ⟨by first | decide | omega, ?_⟩; conv => whnf))
    exact ⟨_, Sub.refl _, rfl, rfl⟩
  | true =>
    conv => whnf
    refine cond_dec (fun h1 => ?_) (fun h1 => ?_)
    · conv => whnf
      repeat (first | (refine LoadV.s rfl rfl (forceV_of ?_); conv => whnf) | (refine LoadV.s rfl rfl ?_; conv => whnf) | (refine StoreV.c rfl rfl (Nat.le_of_ble_eq_true rfl) rfl ?_; conv => whnf) | (refine LoadV.a _ rfl (Nat.le_of_ble_eq_true rfl) ?_; conv => whnf) | (refine DrawI.quiet (by kernel_rfl) (by kernel_rfl) ?_; conv => whnf) | (refine ArI.in64 (by omega) ?_; conv => whnf) | (refine ArI.inU8 (by omega) ?_; conv => whnf) | (refine ArI.inU64 (by omega) ?_; conv => whnf) | (refine ArI.inU32 (by omega) ?_; conv => whnf) | (refine RetI.one Try.results31 rfl ?_; conv => whnf) | (refine RetI.two Try.results31 rfl rfl ?_; conv => whnf) | (refine RetI.three Try.results31 rfl rfl rfl ?_; conv => whnf) | (refine RetI.none Try.results31 ?_; conv => whnf) | (refine ⟨by first | decide | omega, ?_⟩; conv => whnf))
      exact ⟨_, Sub.refl _, by unfold r5readV; rw [if_neg (by simp), if_pos (.inl h1)], rfl⟩
    · conv => whnf
      refine cond_dec (fun h2 => ?_) (fun h2 => ?_)
      · conv => whnf
        repeat (first | (refine LoadV.s rfl rfl (forceV_of ?_); conv => whnf) | (refine LoadV.s rfl rfl ?_; conv => whnf) | (refine StoreV.c rfl rfl (Nat.le_of_ble_eq_true rfl) rfl ?_; conv => whnf) | (refine LoadV.a _ rfl (Nat.le_of_ble_eq_true rfl) ?_; conv => whnf) | (refine DrawI.quiet (by kernel_rfl) (by kernel_rfl) ?_; conv => whnf) | (refine ArI.in64 (by omega) ?_; conv => whnf) | (refine ArI.inU8 (by omega) ?_; conv => whnf) | (refine ArI.inU64 (by omega) ?_; conv => whnf) | (refine ArI.inU32 (by omega) ?_; conv => whnf) | (refine RetI.one Try.results31 rfl ?_; conv => whnf) | (refine RetI.two Try.results31 rfl rfl ?_; conv => whnf) | (refine RetI.three Try.results31 rfl rfl rfl ?_; conv => whnf) | (refine RetI.none Try.results31 ?_; conv => whnf) | (refine ⟨by first | decide | omega, ?_⟩; conv => whnf))
        exact ⟨_, Sub.refl _, by unfold r5readV; rw [if_neg (by simp), if_pos (.inr h2)], rfl⟩
      · obtain ⟨k, rfl⟩ : ∃ k : Nat, at_ = k := ⟨at_.toNat, by omega⟩
        have hk : k < bl.length := by omega
        conv => whnf
        refine LoadV.s rfl rfl ?_
        conv => whnf
        refine ⟨by omega, ?_⟩
        conv => whnf
        refine LoadV.s (v := .string bl[k]) rfl (by show (strs bl)[0 + k]? = _; simp [strs, hk]) ?_
        conv => whnf
        repeat (first | (refine LoadV.s rfl rfl (forceV_of ?_); conv => whnf) | (refine LoadV.s rfl rfl ?_; conv => whnf) | (refine StoreV.c rfl rfl (Nat.le_of_ble_eq_true rfl) rfl ?_; conv => whnf) | (refine LoadV.a _ rfl (Nat.le_of_ble_eq_true rfl) ?_; conv => whnf) | (refine DrawI.quiet (by kernel_rfl) (by kernel_rfl) ?_; conv => whnf) | (refine ArI.in64 (by omega) ?_; conv => whnf) | (refine ArI.inU8 (by omega) ?_; conv => whnf) | (refine ArI.inU64 (by omega) ?_; conv => whnf) | (refine ArI.inU32 (by omega) ?_; conv => whnf) | (refine RetI.one Try.results31 rfl ?_; conv => whnf) | (refine RetI.two Try.results31 rfl rfl ?_; conv => whnf) | (refine RetI.three Try.results31 rfl rfl rfl ?_; conv => whnf) | (refine RetI.none Try.results31 ?_; conv => whnf) | (refine ⟨by first | decide | omega, ?_⟩; conv => whnf))
        exact ⟨_, Sub.refl _, by unfold r5readV; rw [if_neg (by simp), if_neg (by omega)]; simp [hk], rfl⟩
end Go.Proofs.Ytjjkpkacembhpaa
