/- The arguments of the sum's laws. -/
import Derived.Test.YtphnpchblkpjhaaCom
namespace Go.Proofs.Ytphnpchblkpjhaa
set_option linter.unusedVariables false
set_option linter.unusedSimpArgs false
set_option maxRecDepth 100000
open SL Go.RowKit
theorem u8_view {c : Value} (h : okCell (.i .u8) c = true) (hw : wfCell c = true) : ∃ n : Nat, n < 256 ∧ c = .int .u8 (n : Int) := by
  cases c <;> simp [okCell] at h
  subst h
  simp [wfCell, Lit.wf, IntKind.min, IntKind.max, IntKind.signed, IntKind.bits] at hw
  rename_i n
  obtain ⟨m, rfl⟩ := Int.eq_ofNat_of_zero_le hw.1
  exact ⟨m, by omega, rfl⟩
theorem view_four : ∀ row, okCells [.i .u8, .i .u8, .i .u8, .i .u8] row = true → row.all wfCell = true → ∃ x : Nat × Nat × Nat × Nat, (x.1 < 256 ∧ x.2.1 < 256 ∧ x.2.2.1 < 256 ∧ x.2.2.2 < 256) ∧ row = [Value.int .u8 (x.1 : Int), .int .u8 (x.2.1 : Int), .int .u8 (x.2.2.1 : Int), .int .u8 (x.2.2.2 : Int)] := by
  intro row h hw
  match row, okCells_length h with
  | [a, b, c, d], _ =>
    simp only [okCells, Bool.and_eq_true] at h
    simp only [List.all_cons, Bool.and_eq_true] at hw
    obtain ⟨n0, l0, rfl⟩ := u8_view h.1 hw.1
    obtain ⟨n1, l1, rfl⟩ := u8_view h.2.1 hw.2.1
    obtain ⟨n2, l2, rfl⟩ := u8_view h.2.2.1 hw.2.2.1
    obtain ⟨n3, l3, rfl⟩ := u8_view h.2.2.2.1 hw.2.2.2.1
    exact ⟨(n0, n1, n2, n3), ⟨l0, l1, l2, l3⟩, rfl⟩
end Go.Proofs.Ytphnpchblkpjhaa
