/- What all layers use. -/
import Derived.Test.YtpcefmocphbdgaaDoorSl2
import Derived.Test.YtpcefmocphbdgaaDoorProg
namespace Go.Proofs.YtpcefmocphbdgaaDoor
set_option linter.unusedVariables false
set_option linter.unusedSimpArgs false
set_option maxRecDepth 100000
open SL Go.RowKit Go.Maps

abbrev Ret (v : Value) : Ending → Heap → Prop := fun e H => e = .returned v ∧ H = []
theorem ret_int {k : IntKind} {a b : Int} (h : a = b) : Ending.returned (.int k a) = .returned (.int k b) := by rw [h]
theorem ret_bool {a b : Bool} (h : a = b) : Ending.returned (.bool a) = .returned (.bool b) := by rw [h]
theorem ret_str {a b : ByteArray} (h : a = b) : Ending.returned (.string a) = .returned (.string b) := by rw [h]
theorem gsome {g : Option (Nat × Nat)} {α : Type} {l : List α} (h : g = none ↔ l = []) (hl : l ≠ []) : ∃ b c, g = some (b, c) := by
  cases g with
  | none => exact absurd (h.1 rfl) hl
  | some p => exact ⟨p.1, p.2, rfl⟩
theorem take_eq_step {α : Type} [DecidableEq α] {a b : List α} {i : Nat} (h : a.take i = b.take i) (ha : i < a.length) (hb : i < b.length) (he : a[i] = b[i]) : a.take (i + 1) = b.take (i + 1) := by
  rw [← List.take_append_getElem ha, ← List.take_append_getElem hb, h, he]
abbrev strs (a : List ByteArray) : List Value := a.map .string
abbrev intsV (l : List Int) : List Value := l.map fun x => Value.int .i64 x
theorem elemOff_nat (o i sz : Nat) (h : sz = 1) : elemOff o (i : Int) sz = o + i := by subst h; rfl
theorem u64_mod (v : Int) (n : Int) (h0 : 0 < n) : ∃ x : Nat, (IntKind.u64.wrap v).tmod n = (x : Int) ∧ (x : Int) < n := by
  have h : 0 ≤ IntKind.u64.wrap v := by simp [IntKind.wrap, IntKind.signed]; omega
  have h2 := Int.tmod_nonneg n h
  have h3 := Int.tmod_lt_of_pos (IntKind.u64.wrap v) h0
  exact ⟨((IntKind.u64.wrap v).tmod n).toNat, by omega, by omega⟩
end Go.Proofs.YtpcefmocphbdgaaDoor
