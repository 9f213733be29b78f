/- The arguments of the frame's laws. -/
import Derived.Test.YtphnpchblkpjhaaCom
namespace Go.Proofs.Ytphnpchblkpjhaa
set_option linter.unusedVariables false
set_option linter.unusedSimpArgs false
set_option maxRecDepth 100000
open SL Go.RowKit
theorem view_piece : ∀ row, okCells [.i .i64, .i .i64, .i .i64, .s] row = true → row.all wfCell = true → ∃ x : Int × Int × Int × ByteArray, True ∧ row = [Value.int .i64 x.1, .int .i64 x.2.1, .int .i64 x.2.2.1, .string x.2.2.2] := by
  intro row h hw
  match row, okCells_length h with
  | [a, b, c, d], _ =>
    cases a <;> simp [okCells, okCell] at h
    cases b <;> simp at h
    cases c <;> simp at h
    cases d <;> simp at h
    obtain ⟨rfl, rfl, rfl⟩ := h
    exact ⟨(_, _, _, _), trivial, rfl⟩
theorem view_str6 : ∀ row, okCells [.s] row = true → row.all wfCell = true → ∃ x : ByteArray, True ∧ row = [Value.string x] := by
  intro row h _
  match row, okCells_length h with
  | [a], _ =>
    cases a <;> simp [okCells, okCell] at h
    exact ⟨_, trivial, rfl⟩
end Go.Proofs.Ytphnpchblkpjhaa
