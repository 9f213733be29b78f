/- The law DiskPower holds at every input: the call returns true, and the arguments read as they did. No condition. -/
import Derived.Test.YtjjkpkacembhpaaF
import Derived.Test.YtjjkpkacembhpaaRows
import Derived.ProofKit
import Derived.OpenShut
import Derived.SizedLaws
namespace Go.Proofs.Ytjjkpkacembhpaa.diskPower
open Go.ChangeShapes Go.WideShapes Go.ChangeAt Go.RowKit
open SL
set_option linter.unusedVariables false
set_option linter.unusedSimpArgs false

theorem own : ownKnob Try.prog.godebug = none := by kernel_rfl
theorem laidOut : laidOutB Try.prog = true := by kernel_rfl
theorem row_write : ∀ row, okCells [.i .i64, .s] row = true → row.all wfCell = true → ∃ x : Int × ByteArray, row = [.int .i64 x.1, .string x.2] := by
  intro row h _
  match row, okCells_length h with
  | [a, b], _ =>
    cases a <;> simp [okCells, okCell] at h
    cases b <;> simp at h
    obtain rfl := h
    exact ⟨(_, _), rfl⟩

set_option maxRecDepth 100000 in
set_option maxHeartbeats 2000000 in
theorem lifted (os : Os) (started : os.Started) (H : Type) (enc : TypeId × Value → H) :
    ReturnsInHanded {} Try.checked os 4 .any (Rows.diskPowerSpec.pre6 enc Try.prog Try.f4 Rows.diskPowerRow.domain false) (Rows.diskPowerSpec.post enc Try.prog Try.f4 false true false false) := by
  refine returnsInHanded_of_change_sized (C := Try.checked) own started (by kernel_rfl) Try.func4
    (ChangeSpec.witness6 (enc := enc) (C := Try.checked) false ⟨#[], #[.slice none 0 0, .int .i64 0], []⟩ 8 (by kernel_rfl) (by kernel_rfl) (by kernel_rfl) (by kernel_rfl)) ?_
  intro W base args ds gs before hval0 hW hcnd hreach _
  have hval : ∀ (j : Nat) t v, Try.f4.params[j]? = some t → args[j]? = some v → Value.okWide Try.prog W .any base t v := hval0
  have hW' := hW
  obtain ⟨p, q, hA0, hV, rfl, hfz, hnd⟩ := hW
  have hA : DataW.TrodAll enc Try.prog W 0 (fun _ => true) true Try.f4.params.toList args.toList ds p := hA0
  rw [Try.params4] at hA hval
  obtain ⟨v0, vs0, d0, ds0, p0, q0, hargs, rfl, rfl, h0, r0⟩ := trodAll_cons hA
  obtain ⟨v1, vs1, d1, ds1, p1, q1, rfl, rfl, rfl, h1, r1⟩ := trodAll_cons r0
  obtain ⟨rfl, rfl, rfl⟩ := trodAll_nil r1
  obtain rfl : args = #[v0, v1] := by cases args; simp_all
  obtain ⟨rfl, rfl⟩ := trodVars_none hV
  have k0 := h0
  have lt0 : ∀ x ∈ p0, x.block < W.heap.size := by obtain ⟨m, hm⟩ := k0; exact DataW.trod_lt m _ _ _ hm
  obtain ⟨fuel, hf⟩ := h0
  obtain ⟨oa, len, cap, vs, hv0, hS, hok, hwf, hD⟩ := open_rows (d := 3) (ks := [.i .i64, .s]) Try.underlying22 (by kernel_rfl) (by kernel_rfl) (by decide) hf
  obtain ⟨a0, len0, cap0, rfl⟩ := okWide_slice Try.underlying22 (hval 0 22 v0 rfl rfl)
  obtain ⟨rfl, rfl, rfl⟩ : a0 = oa ∧ len0 = len ∧ cap0 = cap := by simpa [Value.cells] using hv0
  obtain ⟨ws, hl, rfl⟩ := rows_view row_write len0 vs hok hwf
  subst hl
  have hb : (ws.length + 1) * 24 ≤ 140737488355328 := by
    rcases hD with ⟨_, h⟩ | ⟨els, spare, hd, hel⟩
    · rw [h]; decide
    · have := sized_slice (j := 0) (t := 22) (e := 29) (elems := els) (spare := spare) hreach rfl (by simp only [List.cons_append, List.getElem?_cons_zero]; exact congrArg some hd) Try.underlying22
      have hby : Try.checked.prog.bytesOf 29 = 24 := by kernel_rfl
      have hlt := reachBytes_lt
      rw [hby, hel] at this
      simp only [reachBytes] at this
      omega
  obtain ⟨a1, rfl, rfl, rfl, w1⟩ := open_int Try.underlying3 (hval 1 3 v1 rfl rfl) h1
  clear hA0 hval0
  have hwalk : Calls Try.prog 4 #[.slice a0 ws.length cap0, .int .i64 a1] W fun e w' => e = .returned (.bool true) ∧ Below W.heap.size W w' :=
    (FT.run (power_ok _ a0 cap0 ws a1 hS hb)).mono fun e w' ⟨⟨H, he, _⟩, hb⟩ => ⟨he, hb⟩
  refine hwalk.mono fun e W' ⟨he, bel⟩ => ?_
  subst he
  exact ⟨_, rfl, _, _, _, [], _, [], hW', trodAll_mk1 (shut_bool Try.underlying4 _), (trodAll_cons_mk (Below.trod laidOut (by kernel_rfl) (of_decide_eq_true (by kernel_rfl)) k0 bel lt0) (trodAll_cons_mk (shut_int Try.underlying3 w1) trodAll_mk0)), rfl, bel.frame _, fun h => by cases h⟩

theorem over : Rows.diskPowerRow.holds Try.pinned (OpenSpec.ofChange Rows.diskPowerSpec) :=
  OpenClaim.holds_of_wide 4 Try.f4 rfl rfl rfl rfl rfl rfl rfl ⟨rfl, rfl, rfl, rfl, rfl⟩ rfl rfl rfl rfl rfl (by kernel_rfl) Try.func4 (by kernel_rfl)
    (of_decide_eq_true (by kernel_rfl)) (by unfold Func.isWrapper; first | (rw [if_pos (by decide +kernel)]; kernel_rfl) | (rw [if_neg (by decide +kernel)]; exact ⟨rfl, rfl⟩))
    (fun os started H enc _ => lifted os started H enc)

theorem proved : Rows.DiskPowerSaid := over
end Go.Proofs.Ytjjkpkacembhpaa.diskPower
