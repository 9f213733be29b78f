/- The disk: its simple functions. -/
import Derived.Test.YtjjkpkacembhpaaCom
namespace Go.Proofs.Ytjjkpkacembhpaa
set_option linter.unusedVariables false
set_option linter.unusedSimpArgs false
open SL Go.RowKit Go.Maps

abbrev fkI : Int → Value := fun a => .int .i64 a
abbrev fvS : ByteArray → Value := fun s => .string s
abbrev MapS (es : Array MapEntry) (clock : Nat) (m : List (Int × ByteArray)) : Prop := MapOk Try.prog 3 fkI fvS es clock m
theorem fkI_inj : ∀ a b, fkI a = fkI b → a = b := fun a b h => by cases h; rfl
theorem keyed3 : Keyed Try.prog 3 := int_keyed Try.underlying3
abbrev logCells (lg : List (Int × ByteArray)) : List Value := lg.flatMap fun p => [.int .i64 p.1, .string p.2]
/-- The disk's own memory. -/
abbrev diskH (d rf rb : Nat) (o1 o2 : Obj) (sv : Value) (lg : List (Int × ByteArray)) (on : Bool) (left : Int) : Heap :=
  [.cells d [.map (some rf), .map (some rb), sv, .bool on, .int .i64 left] 59 (0, 0), .obj rf o1, .obj rb o2, .own sv lg.length 29 2 (logCells lg)]

theorem clone_ok (F : Mem) (r : Nat) (es : Array MapEntry) (clock : Nat) : FT Try.prog 29 [.map (some r)].toArray F [.obj r (.map es clock)] (fun e H => ∃ b, e = .returned (.map (some b)) ∧ H = [.obj b (.map es clock), .obj r (.map es clock)]) := by
  refine FT.of_body Try.func29 rfl Try.ntmps29 (by simp) fun C hC => ?_
  conv => whnf
  refine CallS.mapsClone Try.func34 (by kernel_rfl) (by kernel_rfl) (by kernel_rfl) (by kernel_rfl) ?_
  intro b
  conv => whnf
  refine RetI.one Try.results29 rfl ?_
  conv => whnf
  exact ⟨_, Sub.refl _, b, rfl, rfl⟩
theorem with_ok (F : Mem) (r : Nat) (es : Array MapEntry) (clock : Nat) : FT Try.prog 27 [.map (some r)].toArray F [.obj r (.map es clock)] (fun e H => ∃ d rb, e = .returned (.pointer (some ⟨d, 0, none⟩)) ∧ H = diskH d r rb (.map es clock) (.map es clock) (.slice none 0 0) [] true (-1)) := by
  refine FT.of_body Try.func27 rfl Try.ntmps27 (by simp) fun C hC => ?_
  conv => whnf
  refine CallS.mk Try.call29 ⟨[_], [], _, Sub.split [0] rfl, fun F' _ => clone_ok F' r es clock, ?_⟩
  rintro e A' ⟨b, rfl, rfl⟩
  conv => whnf
  intro d
  conv => whnf
  refine RetI.one Try.results27 rfl ?_
  conv => whnf
  exact ⟨_, Sub.trans (Sub.nil 29 2) (Sub.sel [1, 3, 2, 0] rfl), d, b, rfl, rfl⟩
theorem new_ok (F : Mem) : FT Try.prog 8 [].toArray F [] (fun e H => ∃ d r rb, e = .returned (.pointer (some ⟨d, 0, none⟩)) ∧ H = diskH d r rb (.map #[] 0) (.map #[] 0) (.slice none 0 0) [] true (-1)) := by
  refine FT.of_body Try.func8 rfl Try.ntmps8 (by simp) fun C hC => ?_
  conv => whnf
  intro r
  conv => whnf
  refine CallS.mk Try.call27 ⟨[_], [], _, Sub.split [0] rfl, fun F' _ => with_ok F' r _ _, ?_⟩
  rintro e A' ⟨d, rb, rfl, rfl⟩
  conv => whnf
  refine RetI.one Try.results8 rfl ?_
  conv => whnf
  exact ⟨_, Sub.refl _, d, r, rb, rfl, rfl⟩
theorem on_ok (F : Mem) (d : Nat) (x y sv : Value) (on : Bool) (l : Int) : FT Try.prog 13 [.pointer (some ⟨d, 0, none⟩)].toArray F [.cells d [x, y, sv, .bool on, .int .i64 l] 59 (0, 0)]
    (fun e H => e = .returned (.bool on) ∧ H = [.cells d [x, y, sv, .bool on, .int .i64 l] 59 (0, 0)]) := by
  refine FT.of_body Try.func13 rfl Try.ntmps13 (by simp) fun C hC => ?_
  conv => whnf
  refine LoadV.s rfl rfl ?_
  conv => whnf
  refine RetI.one Try.results13 rfl ?_
  conv => whnf
  exact ⟨_, Sub.refl _, rfl, rfl⟩
theorem off_ok (F : Mem) (d : Nat) (x y sv : Value) (on : Bool) (l : Int) : FT Try.prog 16 [.pointer (some ⟨d, 0, none⟩)].toArray F [.cells d [x, y, sv, .bool on, .int .i64 l] 59 (0, 0)]
    (fun e H => e = .returned (.tuple #[]) ∧ H = [.cells d [x, y, sv, .bool false, .int .i64 l] 59 (0, 0)]) := by
  refine FT.of_body Try.func16 rfl Try.ntmps16 (by simp) fun C hC => ?_
  conv => whnf
  refine StoreV.c rfl rfl (Nat.le_of_ble_eq_true rfl) rfl ?_
  conv => whnf
  refine RetI.none Try.results16 ?_
  exact ⟨_, Sub.refl _, rfl, rfl⟩
theorem up_ok (F : Mem) (d : Nat) (x y sv : Value) (on : Bool) (l n : Int) : FT Try.prog 17 [.pointer (some ⟨d, 0, none⟩), .int .i64 n].toArray F [.cells d [x, y, sv, .bool on, .int .i64 l] 59 (0, 0)]
    (fun e H => e = .returned (.tuple #[]) ∧ H = [.cells d [x, y, sv, .bool (n != 0), .int .i64 n] 59 (0, 0)]) := by
  refine FT.of_body Try.func17 rfl Try.ntmps17 (by simp) fun C hC => ?_
  conv => whnf
  refine StoreV.c rfl rfl (Nat.le_of_ble_eq_true rfl) rfl ?_
  conv => whnf
  refine StoreV.c rfl rfl (Nat.le_of_ble_eq_true rfl) rfl ?_
  conv => whnf
  refine RetI.none Try.results17 ?_
  exact ⟨_, Sub.refl _, rfl, rfl⟩
/-- What a reading answers. -/
def readV (on : Bool) (m : List (Int × ByteArray)) (at_ : Int) : ByteArray × Int :=
  if on = false then (⟨#[]⟩, 11) else if at_ < 0 ∨ at_ ≥ 2048 then (⟨#[]⟩, 8) else ((lookM m at_).getD ⟨#[]⟩, 0)
theorem read_ok (F : Mem) (d rf rb : Nat) (es : Array MapEntry) (c : Nat) (m : List (Int × ByteArray)) (M : MapS es c m) (sv : Value) (on : Bool) (l at_ : Int) :
    FT Try.prog 18 [.pointer (some ⟨d, 0, none⟩), .int .i64 at_].toArray F [.cells d [.map (some rf), .map (some rb), sv, .bool on, .int .i64 l] 59 (0, 0), .obj rb (.map es c)]
    (fun e H => e = .returned (.tuple #[.string (readV on m at_).1, .int .i64 (readV on m at_).2]) ∧ H = [.cells d [.map (some rf), .map (some rb), sv, .bool on, .int .i64 l] 59 (0, 0), .obj rb (.map es c)]) := by
  refine FT.of_body Try.func18 rfl Try.ntmps18 (by simp) fun C hC => ?_
  conv => whnf
  refine LoadV.s rfl rfl ?_
  cases on with
  | false =>
    conv => whnf
    refine RetI.two Try.results18 rfl rfl ?_
    conv => whnf
    exact ⟨_, Sub.refl _, rfl, rfl⟩
  | true =>
    conv => whnf
    refine cond_dec (fun h1 => ?_) (fun h1 => ?_)
    · conv => whnf
      refine RetI.two Try.results18 rfl rfl ?_
      conv => whnf
      exact ⟨_, Sub.refl _, by unfold readV; rw [if_neg (by simp), if_pos (.inl h1)], rfl⟩
    · conv => whnf
      refine cond_dec (fun h2 => ?_) (fun h2 => ?_)
      · conv => whnf
        refine RetI.two Try.results18 rfl rfl ?_
        conv => whnf
        exact ⟨_, Sub.refl _, by unfold readV; rw [if_neg (by simp), if_pos (.inr h2)], rfl⟩
      · conv => whnf
        refine LoadV.s rfl rfl ?_
        conv => whnf
        refine DoV.lookup (fk := fkI) M keyed3 fkI_inj Try.underlying57 rfl rfl (keyOf_int_mk Try.underlying3 (by simp [Lit.wf, IntKind.min, IntKind.max, IntKind.signed, IntKind.bits]; omega)) (u := .string ((lookM m at_).getD ⟨#[]⟩)) (by cases lookM m at_ <;> rfl) ?_
        conv => whnf
        refine RetI.two Try.results18 rfl rfl ?_
        conv => whnf
        exact ⟨_, Sub.refl _, by unfold readV; rw [if_neg (by simp), if_neg (by omega)], rfl⟩
end Go.Proofs.Ytjjkpkacembhpaa
