/- The law JournalPlays holds at every input of bulk at most 1048576: the call returns true, and the arguments read as they did. The bound of the form itself is the only condition. -/
import Derived.Test.YtgodkfaacjllcaaV1
import Derived.Test.YtgodkfaacjllcaaBulk
import Derived.ProofKit
import Derived.OpenShut
import Derived.JoinedCond
namespace Go.Proofs.Ytgodkfaacjllcaa.journalPlays
open Go.ChangeShapes Go.WideShapes Go.ChangeAt Go.RowKit
open SL
set_option linter.unusedVariables false
set_option linter.unusedSimpArgs false

theorem own : ownKnob Try.prog.godebug = none := by kernel_rfl
theorem laidOut : laidOutB Try.prog = true := by kernel_rfl
set_option maxRecDepth 100000 in
set_option maxHeartbeats 2000000 in
theorem lifted (os : Os) (started : os.Started) (H : Type) (enc : TypeId × Value → H) (F : Stop.Interp) :
    ReturnsInHanded {} Try.checked os 6 .any ((Rows.OpenSpec.upto Rows.journalPlaysSpec).pre6 enc Try.prog Try.f6 Rows.journalPlaysUptoRow.domain false) (((Rows.OpenSpec.upto Rows.journalPlaysSpec).at F).post enc Try.prog Try.f6 false true false false) := by
  refine returnsInHanded_of_cond (C := Try.checked) (s := Rows.OpenSpec.upto Rows.journalPlaysSpec) (k := Rows.uptoSmall) rfl own started (by kernel_rfl) Try.func6
    (OpenSpec.witness (enc := enc) (C := Try.checked) (s := Rows.OpenSpec.upto Rows.journalPlaysSpec) (k := Rows.uptoSmall) rfl false ⟨#[], #[.slice none 0 0, .slice none 0 0], []⟩ 8 (by kernel_rfl) (by kernel_rfl) (by kernel_rfl)
      (x := ([.nil, .nil], [], [])) (by kernel_rfl) rfl (by kernel_rfl)) ?_
  intro W base args ds gs before hval0 hW _ hk _
  have hval : ∀ (j : Nat) t v, Try.f6.params[j]? = some t → args[j]? = some v → Value.okWide Try.prog W .any base t v := hval0
  have hW' := hW
  obtain ⟨p, q, hA0, hV, rfl, hfz, hnd⟩ := hW
  have hA : DataW.TrodAll enc Try.prog W 0 (fun _ => true) true Try.f6.params.toList args.toList ds p := hA0
  rw [Try.params6] at hA hval
  obtain ⟨v0, vs0, d0, ds0, p0, q0, hargs, rfl, rfl, h0, r0⟩ := trodAll_cons hA
  obtain ⟨v1, vs1, d1, ds1, p1, q1, rfl, rfl, rfl, h1, r1⟩ := trodAll_cons r0
  obtain ⟨rfl, rfl, rfl⟩ := trodAll_nil r1
  obtain rfl : args = #[v0, v1] := by cases args; simp_all
  obtain ⟨rfl, rfl⟩ := trodVars_none hV
  have k0 := h0
  have lt0 : ∀ x ∈ p0, x.block < W.heap.size := by obtain ⟨m, hm⟩ := k0; exact DataW.trod_lt m _ _ _ hm
  have k1 := h1
  have lt1 : ∀ x ∈ p1, x.block < W.heap.size := by obtain ⟨m, hm⟩ := k1; exact DataW.trod_lt m _ _ _ hm
  have hB : Rows.uptoBulkAll _ ≤ 1048576 := of_decide_eq_true hk
  obtain ⟨oa0, xs0, cap0, rfl, S0, Q0, hc0, D0⟩ := open_rowsQ (f := fun (x : ByteArray) => [Value.string x]) (Q := fun (x : ByteArray) => x.size ≤ 9223372036854775807) (k := 3) (ks := [.s]) Try.underlying22 (by kernel_rfl) (by kernel_rfl) (by decide) view_strQ (hval 0 22 v0 rfl rfl) h0
  rw [flatMap_one] at S0
  have b0 := bulks.slice D0
  obtain ⟨oa1, xs1, cap1, rfl, S1, Q1, hc1, D1⟩ := open_rowsQ (f := fun (o : Int × Int × ByteArray) => [Value.int .i64 o.1, .int .i64 o.2.1, .string o.2.2]) (Q := fun (o : Int × Int × ByteArray) => o.2.1 ≤ 9223372036854775807 ∧ o.2.2.size ≤ 9223372036854775807) (k := 3) (ks := [.i .i64, .i .i64, .s]) Try.underlying49 (by kernel_rfl) (by kernel_rfl) (by decide) view_op7 (hval 1 49 v1 rfl rfl) h1
  have b1 := bulks.slice D1
  simp only [List.cons_append, List.nil_append, Rows.uptoBulkAll] at hB
  clear hA0 hval0
  have hwalk : Calls Try.prog 6 #[.slice oa0 xs0.length cap0, .slice oa1 xs1.length cap1] W fun e w' => e = .returned (.bool true) ∧ Below W.heap.size W w' :=
    (FT.run (jplays_ok _ oa0 cap0 xs0 S0 hc0 oa1 cap1 xs1 S1 Q1 (by omega))).mono fun e w' ⟨⟨H, he, _⟩, hb⟩ => ⟨he, hb⟩
  refine hwalk.mono fun e W' ⟨he, bel⟩ => ?_
  subst he
  exact ⟨_, rfl, _, _, _, [], _, [], hW', trodAll_mk1 (shut_bool Try.underlying4 _), (trodAll_cons_mk (Below.trod laidOut (by kernel_rfl) (of_decide_eq_true (by kernel_rfl)) k0 bel lt0) (trodAll_cons_mk (Below.trod laidOut (by kernel_rfl) (of_decide_eq_true (by kernel_rfl)) k1 bel lt1) trodAll_mk0)), rfl, bel.frame _, fun h => by cases h⟩

theorem over : Rows.journalPlaysUptoRow.holds Try.pinned (Rows.OpenSpec.upto Rows.journalPlaysSpec) :=
  OpenClaim.holds_of_cond 6 Try.f6 rfl rfl rfl rfl rfl rfl rfl ⟨rfl, rfl, rfl, rfl, rfl⟩ rfl rfl rfl rfl rfl (by kernel_rfl) Try.func6 (by kernel_rfl)
    (of_decide_eq_true (by kernel_rfl)) (by unfold Func.isWrapper; first | (rw [if_pos (by decide +kernel)]; kernel_rfl) | (rw [if_neg (by decide +kernel)]; exact ⟨rfl, rfl⟩))
    (fun os started H enc _ F => lifted os started H enc F)

theorem proved : Rows.JournalPlaysUptoSaid := over
end Go.Proofs.Ytgodkfaacjllcaa.journalPlays
