/- The arguments of the disk's laws with operations. -/
import Derived.Test.YtjjkpkacembhpaaDisk13
namespace Go.Proofs.Ytjjkpkacembhpaa
set_option linter.unusedVariables false
set_option linter.unusedSimpArgs false
open SL Go.RowKit
theorem view_str : ∀ row, okCells [.s] row = true → row.all wfCell = true → ∃ x : ByteArray, True ∧ row = [Value.string x] := by
  intro row h _
  match row, okCells_length h with
  | [a], _ =>
    cases a <;> simp [okCells, okCell] at h
    exact ⟨_, trivial, rfl⟩
theorem view_op : ∀ row, okCells [.i .i64, .i .i64, .s] row = true → row.all wfCell = true → ∃ x : Int × Int × ByteArray, x.2.1 ≤ 9223372036854775807 ∧ row = opF x := by
  intro row h hw
  match row, okCells_length h with
  | [a, b, c], _ =>
    cases a <;> simp [okCells, okCell] at h
    cases b <;> simp at h
    cases c <;> simp at h
    obtain ⟨rfl, rfl⟩ := h
    rename_i x y s hl0
    simp [wfCell, Lit.wf, IntKind.min, IntKind.max, IntKind.signed, IntKind.bits] at hw
    exact ⟨(x, y, s), by dsimp only; omega, rfl⟩
theorem view_w : ∀ row, okCells [.i .i64, .s] row = true → row.all wfCell = true → ∃ x : Int × ByteArray, x.1 ≤ 9223372036854775807 ∧ row = [.int .i64 x.1, .string x.2] := by
  intro row h hw
  match row, okCells_length h with
  | [a, b], _ =>
    cases a <;> simp [okCells, okCell] at h
    cases b <;> simp at h
    obtain rfl := h
    rename_i x s hl0
    simp [wfCell, Lit.wf, IntKind.min, IntKind.max, IntKind.signed, IntKind.bits] at hw
    exact ⟨(x, s), by dsimp only; omega, rfl⟩
end Go.Proofs.Ytjjkpkacembhpaa
