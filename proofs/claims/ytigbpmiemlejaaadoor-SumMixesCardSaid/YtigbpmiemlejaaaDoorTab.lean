/- What the listed variables give: the table of trailing noughts at its sixteenth place. -/
import Derived.Test.YtigbpmiemlejaaaDoorSum2
import Derived.Test.YtigbpmiemlejaaaDoorRows
import Derived.ProofKit
import Derived.OpenShut
import Derived.LaidMore
import Derived.Lay
import Derived.Stop.Joined
namespace Go.Proofs.YtigbpmiemlejaaaDoor
set_option linter.unusedVariables false
set_option linter.unusedSimpArgs false
open SL Go.RowKit Go.ChangeShapes Go.WideShapes Go.ChangeAt

theorem tab_cell {W : World} (h : laidMetH Tryd.prog Rows.sumJoinsRow.laid W) : W.cell? ⟨3, 15, none⟩ = some (.int .u8 4) := by
  rw [MakeChecks.laidMetH_plain _ _ _ (by kernel_rfl)] at h
  obtain ⟨ps, ⟨g0, t0, cs0, f0, p0, q0, hg0, ht0, hv0, hd0, ⟨g1, t1, cs1, f1, p1, q1, hg1, ht1, hv1, hd1, _, _⟩, _⟩, _, _⟩ := h
  obtain rfl : g1 = 3 := Option.some.inj (hg1.symm.trans (by kernel_rfl))
  obtain rfl : t1 = 77 := Option.some.inj (ht1.symm.trans (by kernel_rfl))
  obtain ⟨xs, m, _, ex, _, hl, hel⟩ := DataW.trod_array Tryd.underlying77 hd1
  have c5 : Tryd.prog.cellsOf 5 = 1 := by kernel_rfl
  have hE := hel 15 (by decide)
  rw [c5, Nat.mul_one, List.getElem?_eq_getElem (by omega)] at hE
  obtain ⟨z, e1, e2, _⟩ := DataW.trod_int Tryd.underlying5 hE
  have e3 := (DataW.agg.inj (Prod.mk.inj ex).1).symm
  have e4 : (xs.map (·.1))[15]? = some (.lit (.int .u8 4)) := by rw [e3]; rfl
  rw [List.getElem?_map, List.getElem?_eq_getElem (by omega : 15 < xs.length), e2] at e4
  have hz : z = 4 := by simpa using e4
  rw [World.var?_cell hg1 hv1 15, ← hz]
  have : cs1.toList[15]? = some (.int .u8 z) := by
    have h0 : ((cs1.toList.drop 15).take 1)[0]? = some (.int .u8 z) := by rw [e1]; rfl
    simpa using h0
  simpa using this
theorem tab_of {W : World} (h : laidMetH Tryd.prog Rows.sumJoinsRow.laid W) : Tab (fun r => W.heap[r]?) := rd_of_cell (tab_cell h)
end Go.Proofs.YtigbpmiemlejaaaDoor
