/- The arguments of the bits' laws. -/
import Derived.Test.YtcmijlclenpjiaaBits3
namespace Go.Proofs.Ytcmijlclenpjiaa
open SL Go.RowKit Go.Maps
theorem view_fld : ∀ row, okCells [.i .u64, .i .i64] row = true → row.all wfCell = true → ∃ x : Nat × Int, x.1 < 18446744073709551616 ∧ row = fldF x := by
  intro row h hw
  match row, okCells_length h with
  | [a, b], _ =>
    cases a <;> simp [okCells, okCell] at h
    cases b <;> simp at h
    obtain ⟨rfl, rfl⟩ := h
    rename_i x y hl
    simp [wfCell, Lit.wf, IntKind.min, IntKind.max, IntKind.signed, IntKind.bits] at hw
    obtain ⟨u, rfl⟩ := Int.eq_ofNat_of_zero_le (show 0 ≤ x by omega)
    exact ⟨(u, y), by dsimp only; omega, rfl⟩
theorem view_cut : ∀ row, okCells [.i .i64, .i .i64, .i .i64] row = true → row.all wfCell = true → ∃ x : Int × Int × Int, True ∧ row = [Value.int .i64 x.1, .int .i64 x.2.1, .int .i64 x.2.2] := by
  intro row h hw
  match row, okCells_length h with
  | [a, b, c], _ =>
    cases a <;> simp [okCells, okCell] at h
    cases b <;> simp at h
    cases c <;> simp at h
    obtain ⟨rfl, rfl, rfl⟩ := h
    exact ⟨(_, _, _), trivial, rfl⟩
end Go.Proofs.Ytcmijlclenpjiaa
