/- The arguments of the disk's laws. -/
import Derived.Test.YtjjkpkacembhpaaCom
namespace Go.Proofs.Ytjjkpkacembhpaa
set_option linter.unusedVariables false
set_option linter.unusedSimpArgs false
open SL Go.RowKit
theorem view_write : ∀ row, okCells [.i .i64, .s] row = true → row.all wfCell = true → ∃ x : Int × ByteArray, True ∧ row = [.int .i64 x.1, .string x.2] := by
  intro row h _
  match row, okCells_length h with
  | [a, b], _ =>
    cases a <;> simp [okCells, okCell] at h
    cases b <;> simp at h
    obtain rfl := h
    exact ⟨(_, _), trivial, rfl⟩
end Go.Proofs.Ytjjkpkacembhpaa
