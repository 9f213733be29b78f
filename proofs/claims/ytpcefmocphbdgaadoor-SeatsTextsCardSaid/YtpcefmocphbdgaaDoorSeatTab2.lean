/- What the listed variables of SeatsTexts give: the table of trailing noughts, the two errors. -/
import Derived.Test.YtpcefmocphbdgaaDoorSeat12
import Derived.Test.YtpcefmocphbdgaaDoorRows
import Derived.ProofKit
import Derived.OpenShut
import Derived.LaidMore
import Derived.Lay
import Derived.Stop.Joined
import Derived.Stop.LaidErr
namespace Go.Proofs.YtpcefmocphbdgaaDoor
set_option linter.unusedVariables false
set_option linter.unusedSimpArgs false
set_option maxRecDepth 100000
open SL Go.RowKit Go.ChangeShapes Go.WideShapes Go.ChangeAt Go.Lib

theorem laid_plain {W : World} (h : laidMetH Tryd.prog Rows.seatsTextsRow.laid W) : laidMet Tryd.prog Rows.seatsTextsRow.laid W := by
  rwa [MakeChecks.laidMetH_plain _ _ _ (by kernel_rfl)] at h
theorem tabx_cell {W : World} (h : laidMetH Tryd.prog Rows.seatsTextsRow.laid W) (j : Nat) (hj : j < 64) : W.cell? ⟨0, j, none⟩ = some (.int .u8 (deBruijn64tab.getD j 0)) := by
  obtain ⟨ps, ⟨g0, t0, cs0, f0, p0, q0, hg0, ht0, hv0, hd0, ⟨g1, t1, cs1, f1, p1, q1, hg1, ht1, hv1, hd1, _, _⟩, _⟩, _, _⟩ := laid_plain h
  obtain rfl : g1 = 0 := Option.some.inj (hg1.symm.trans (by kernel_rfl))
  obtain rfl : t1 = 60 := Option.some.inj (ht1.symm.trans (by kernel_rfl))
  obtain ⟨xs, m, _, ex, _, hl, hel⟩ := DataW.trod_array Tryd.underlying60 hd1
  have c5 : Tryd.prog.cellsOf 5 = 1 := by kernel_rfl
  have hE := hel j hj
  rw [c5, Nat.mul_one, List.getElem?_eq_getElem (by omega)] at hE
  obtain ⟨z, e1, e2, _⟩ := DataW.trod_int Tryd.underlying5 hE
  have e3 := (DataW.agg.inj (Prod.mk.inj ex).1).symm
  have e4 : (xs.map (·.1))[j]? = some (.lit (.int .u8 (deBruijn64tab.getD j 0))) := by
    rw [e3]
    show (deBruijn64tab.map fun (n : Nat) => DataW.lit (Lit.int .u8 (n : Int)))[j]? = _
    rw [List.getElem?_map, List.getD_eq_getElem?_getD, List.getElem?_eq_getElem (show j < deBruijn64tab.length from hj)]; rfl
  rw [List.getElem?_map, List.getElem?_eq_getElem (by omega : j < xs.length), e2] at e4
  have hz : z = (deBruijn64tab.getD j 0 : Nat) := by simpa using e4
  rw [World.var?_cell hg1 hv1 j, ← hz]
  have : cs1.toList[j]? = some (.int .u8 z) := by
    have h0 : ((cs1.toList.drop j).take 1)[0]? = some (.int .u8 z) := by rw [e1]; rfl
    simpa using h0
  simpa using this
theorem tabx_of {W : World} (h : laidMetH Tryd.prog Rows.seatsTextsRow.laid W) : TabA (fun r => W.heap[r]?) := fun j hj => rd_of_cell (tabx_cell h j hj)
theorem star : "*" ++ "errors.errorString" = "*errors.errorString" := by decide
theorem rowP (u : TypeId) (h : Tryd.prog.typeName? 3 u = some "*errors.errorString") : u = 104 :=
  typeName_ptr_named (nm := "errors.errorString") (by rw [star]; kernel_rfl) (by kernel_rfl) (by decide) u (by rw [star]; exact h)
theorem errs_of {W : World} (h : laidMetH Tryd.prog Rows.seatsTextsRow.laid W) : ErrA (fun r => W.heap[r]?) := by
  have h3 := (laid_plain h).tail.tail.tail
  obtain ⟨a1, s1, hv1, _, _, _⟩ := laid_sentinel (g := 3) h3 (by kernel_rfl) (by kernel_rfl) Tryd.underlying56 rowP Tryd.underlying104 Tryd.underlying106 rfl rfl Tryd.underlying9 (by kernel_rfl) (by kernel_rfl)
  obtain ⟨a2, s2, hv2, _, _, _⟩ := laid_sentinel (g := 2) h3.tail (by kernel_rfl) (by kernel_rfl) Tryd.underlying56 rowP Tryd.underlying104 Tryd.underlying106 rfl rfl Tryd.underlying9 (by kernel_rfl) (by kernel_rfl)
  have c1 : W.cell? ⟨3, 0, none⟩ = some (.iface 104 (.pointer (some a1))) := by simpa using World.var?_cell (g := 3) (by kernel_rfl) hv1 0
  have c2 : W.cell? ⟨2, 0, none⟩ = some (.iface 104 (.pointer (some a2))) := by simpa using World.var?_cell (g := 2) (by kernel_rfl) hv2 0
  exact ⟨⟨_, _, rd_of_cell c2⟩, _, _, rd_of_cell c1⟩
end Go.Proofs.YtpcefmocphbdgaaDoor
