/- The law ShapePaths holds at every input: the call returns true, and the arguments read as they did. No condition. -/
import Derived.Test.YtebhhfojiiohpaaH
import Derived.Test.YtebhhfojiiohpaaRows
import Derived.ProofKit
import Derived.OpenShut
namespace Go.Proofs.Ytebhhfojiiohpaa.shapePaths
open Go.ChangeShapes Go.WideShapes Go.ChangeAt Go.RowKit
open SL
set_option linter.unusedVariables false
set_option linter.unusedSimpArgs false

theorem own : ownKnob Try.prog.godebug = none := by kernel_rfl
theorem laidOut : laidOutB Try.prog = true := by kernel_rfl

theorem walk (a0 : Int) (a1x0 : Int) (a1x1 : Int) (a1x2 : Int) (w0 : (Lit.int .i64 a0).wf = true) (w1x0 : (Lit.int .u8 a1x0).wf = true) (w1x1 : (Lit.int .u8 a1x1).wf = true) (w1x2 : (Lit.int .u8 a1x2).wf = true) (w : World) :
    Calls Try.prog 8 #[.int .i64 a0, .agg #[.int .u8 a1x0, .int .u8 a1x1, .int .u8 a1x2]] w fun e w' => e = .returned (.bool true) ∧ Below w.heap.size w w' := by
  have b1x0 : 0 ≤ a1x0 ∧ a1x0 < 256 := by
    have h := w1x0
    simp [Lit.wf, IntKind.min, IntKind.max, IntKind.signed, IntKind.bits] at h
    omega
  have b1x1 : 0 ≤ a1x1 ∧ a1x1 < 256 := by
    have h := w1x1
    simp [Lit.wf, IntKind.min, IntKind.max, IntKind.signed, IntKind.bits] at h
    omega
  have b1x2 : 0 ≤ a1x2 ∧ a1x2 < 256 := by
    have h := w1x2
    simp [Lit.wf, IntKind.min, IntKind.max, IntKind.signed, IntKind.bits] at h
    omega
  exact (FT.run (paths_ok _ a0 a1x0 a1x1 a1x2 b1x0.1 b1x1.1 b1x2.1)).mono fun e w' ⟨⟨H, he, _⟩, hb⟩ => ⟨he, hb⟩

set_option maxRecDepth 100000 in
set_option maxHeartbeats 2000000 in
theorem lifted (os : Os) (started : os.Started) (H : Type) (enc : TypeId × Value → H) :
    ReturnsInHanded {} Try.checked os 8 .any (Rows.shapePathsSpec.pre6 enc Try.prog Try.f8 Rows.shapePathsRow.domain false) (Rows.shapePathsSpec.post enc Try.prog Try.f8 false true false false) := by
  refine returnsInHanded_of_change (C := Try.checked) own started (by kernel_rfl) Try.func8
    (ChangeSpec.witness6 (enc := enc) (C := Try.checked) false ⟨#[], #[.int .i64 0, .agg #[.int .u8 0, .int .u8 0, .int .u8 0]], []⟩ 8 (by kernel_rfl) (by kernel_rfl) (by kernel_rfl) (by kernel_rfl)) ?_
  intro W base args ds gs before hval0 hW hcnd _
  have hval : ∀ (j : Nat) t v, Try.f8.params[j]? = some t → args[j]? = some v → Value.okWide Try.prog W .any base t v := hval0
  have hW' := hW
  obtain ⟨p, q, hA0, hV, rfl, hfz, hnd⟩ := hW
  have hA : DataW.TrodAll enc Try.prog W 0 (fun _ => true) true Try.f8.params.toList args.toList ds p := hA0
  rw [Try.params8] at hA hval
  obtain ⟨v0, vs0, d0, ds0, p0, q0, hargs, rfl, rfl, h0, r0⟩ := trodAll_cons hA
  obtain ⟨v1, vs1, d1, ds1, p1, q1, rfl, rfl, rfl, h1, r1⟩ := trodAll_cons r0
  obtain ⟨rfl, rfl, rfl⟩ := trodAll_nil r1
  obtain rfl : args = #[v0, v1] := by cases args; simp_all
  obtain ⟨rfl, rfl⟩ := trodVars_none hV
  obtain ⟨a0, rfl, rfl, rfl, w0⟩ := open_int Try.underlying3 (hval 0 3 v0 rfl rfl) h0
  have k1 := h1
  have lt1 : ∀ x ∈ p1, x.block < W.heap.size := by obtain ⟨m, hm⟩ := k1; exact DataW.trod_lt m _ _ _ hm
  obtain ⟨xs1, rfl, len1, row1⟩ := SL.open_arr (n := 3) (q := .u8) Try.underlying32 Try.underlying5 (by kernel_rfl) (by kernel_rfl) (hval 1 32 v1 rfl rfl) h1
  obtain ⟨y1x0, y1x1, y1x2, rfl⟩ := SL.len3 len1
  obtain ⟨a1x0, e1x0, w1x0⟩ := row1 0 (by omega)
  simp only [List.getElem?_cons_zero, List.getElem?_cons_succ, Option.some.injEq] at e1x0
  subst e1x0
  obtain ⟨a1x1, e1x1, w1x1⟩ := row1 1 (by omega)
  simp only [List.getElem?_cons_zero, List.getElem?_cons_succ, Option.some.injEq] at e1x1
  subst e1x1
  obtain ⟨a1x2, e1x2, w1x2⟩ := row1 2 (by omega)
  simp only [List.getElem?_cons_zero, List.getElem?_cons_succ, Option.some.injEq] at e1x2
  subst e1x2
  clear hA0 hval0
  refine (walk a0 a1x0 a1x1 a1x2 w0 w1x0 w1x1 w1x2 W).mono fun e W' ⟨he, bel⟩ => ?_
  subst he
  exact ⟨_, rfl, _, _, _, [], _, [], hW', trodAll_mk1 (shut_bool Try.underlying4 _), (trodAll_cons_mk (shut_int Try.underlying3 w0) (trodAll_cons_mk (Below.trod laidOut (by kernel_rfl) (of_decide_eq_true (by kernel_rfl)) k1 bel lt1) trodAll_mk0)), rfl, bel.frame _, fun h => by cases h⟩

theorem over : Rows.shapePathsRow.holds Try.pinned (OpenSpec.ofChange Rows.shapePathsSpec) :=
  OpenClaim.holds_of_wide 8 Try.f8 rfl rfl rfl rfl rfl rfl rfl ⟨rfl, rfl, rfl, rfl, rfl⟩ rfl rfl rfl rfl rfl (by kernel_rfl) Try.func8 (by kernel_rfl)
    (of_decide_eq_true (by kernel_rfl)) (by unfold Func.isWrapper; first | (rw [if_pos (by decide +kernel)]; kernel_rfl) | (rw [if_neg (by decide +kernel)]; exact ⟨rfl, rfl⟩))
    (fun os started H enc _ => lifted os started H enc)

theorem proved : Rows.ShapePathsSaid := over
end Go.Proofs.Ytebhhfojiiohpaa.shapePaths
