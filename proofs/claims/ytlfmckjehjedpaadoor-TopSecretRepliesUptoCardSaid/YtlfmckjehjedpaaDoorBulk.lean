/- What the bound on the arguments' bulk gives. -/
import Derived.Test.YtlfmckjehjedpaaDoorRows
namespace Go.Proofs.YtlfmckjehjedpaaDoor.bulks
set_option linter.unusedVariables false
set_option linter.unusedSimpArgs false
set_option maxRecDepth 100000
theorem one_le {H : Type} (d : DataW H) : 1 ≤ Rows.uptoBulk d := by
  cases d with
  | lit l => cases l <;> simp [Rows.uptoBulk]
  | nil => simp [Rows.uptoBulk]
  | ptr d => simp [Rows.uptoBulk]
  | slice elems spare => simp [Rows.uptoBulk]
  | agg parts => simp [Rows.uptoBulk]
  | iface t d => simp [Rows.uptoBulk]
  | map entries => simp [Rows.uptoBulk]
  | held h => simp [Rows.uptoBulk]
theorem length_le {H : Type} (l : List (DataW H)) : l.length ≤ Rows.uptoBulkAll l := by
  induction l with
  | nil => simp [Rows.uptoBulkAll]
  | cons x r ih => have := one_le x; simp only [Rows.uptoBulkAll, List.length_cons]; omega
theorem slice {H : Type} {d : DataW H} {n : Nat} (h : (d = .nil ∧ n = 0) ∨ ∃ els spare, d = .slice els spare ∧ els.length = n) : n + 1 ≤ Rows.uptoBulk d := by
  rcases h with ⟨rfl, rfl⟩ | ⟨els, spare, rfl, rfl⟩
  · simp [Rows.uptoBulk]
  · have := length_le els; simp only [Rows.uptoBulk]; omega
theorem str {H : Type} (s : ByteArray) : Rows.uptoBulk (DataW.lit (H := H) (.string s.data.toList)) = s.size + 1 := by
  simp only [Rows.uptoBulk]; rw [Array.length_toList]; rfl
end Go.Proofs.YtlfmckjehjedpaaDoor.bulks
