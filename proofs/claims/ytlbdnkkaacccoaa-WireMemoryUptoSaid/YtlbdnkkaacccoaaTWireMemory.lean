/- The law WireMemory holds at every input of bulk at most 1048576: the call returns true, and the arguments read as they did. The bound of the form itself is the only condition. -/
import Derived.Test.YtlbdnkkaacccoaaWireM4
import Derived.Test.YtlbdnkkaacccoaaMsgUp
import Derived.Test.YtlbdnkkaacccoaaBulk
import Derived.ProofKit
import Derived.OpenShut
import Derived.JoinedCond
namespace Go.Proofs.Ytlbdnkkaacccoaa.wireMemory
open Go.ChangeShapes Go.WideShapes Go.ChangeAt Go.RowKit
open SL
set_option linter.unusedVariables false
set_option linter.unusedSimpArgs false

theorem own : ownKnob Try.prog.godebug = none := by kernel_rfl
theorem laidOut : laidOutB Try.prog = true := by kernel_rfl
set_option maxRecDepth 100000 in
set_option maxHeartbeats 2000000 in
theorem lifted (os : Os) (started : os.Started) (H : Type) (enc : TypeId × Value → H) (F : Stop.Interp) :
    ReturnsInHanded {} Try.checked os 7 .any ((Rows.OpenSpec.upto Rows.wireMemorySpec).pre6 enc Try.prog Try.f7 Rows.wireMemoryUptoRow.domain false) (((Rows.OpenSpec.upto Rows.wireMemorySpec).at F).post enc Try.prog Try.f7 false true false false) := by
  refine returnsInHanded_of_cond (C := Try.checked) (s := Rows.OpenSpec.upto Rows.wireMemorySpec) (k := Rows.uptoSmall) rfl own started (by kernel_rfl) Try.func7
    (OpenSpec.witness (enc := enc) (C := Try.checked) (s := Rows.OpenSpec.upto Rows.wireMemorySpec) (k := Rows.uptoSmall) rfl false ⟨#[], #[.agg (msgL zMsg zSls).toArray, .string ByteArray.empty], []⟩ 8 (by kernel_rfl) (by kernel_rfl) (by kernel_rfl)
      (x := ([zMsgD H, .lit (.string [])], [], [])) (by kernel_rfl) rfl (by kernel_rfl)) ?_
  intro W base args ds gs before hval0 hW _ hk _
  have hval : ∀ (j : Nat) t v, Try.f7.params[j]? = some t → args[j]? = some v → Value.okWide Try.prog W .any base t v := hval0
  have hW' := hW
  obtain ⟨p, q, hA0, hV, rfl, hfz, hnd⟩ := hW
  have hA : DataW.TrodAll enc Try.prog W 0 (fun _ => true) true Try.f7.params.toList args.toList ds p := hA0
  rw [Try.params7] at hA hval
  obtain ⟨v0, vs0, d0, ds0, p0, q0, hargs, rfl, rfl, h0, r0⟩ := trodAll_cons hA
  obtain ⟨v1, vs1, d1, ds1, p1, q1, rfl, rfl, rfl, h1, r1⟩ := trodAll_cons r0
  obtain ⟨rfl, rfl, rfl⟩ := trodAll_nil r1
  obtain rfl : args = #[v0, v1] := by cases args; simp_all
  obtain ⟨rfl, rfl⟩ := trodVars_none hV
  have k0 := h0
  have lt0 : ∀ x ∈ p0, x.block < W.heap.size := by obtain ⟨m, hm⟩ := k0; exact DataW.trod_lt m _ _ _ hm
  have k1 := h1
  have lt1 : ∀ x ∈ p1, x.block < W.heap.size := by obtain ⟨m, hm⟩ := k1; exact DataW.trod_lt m _ _ _ hm
  have hB : Rows.uptoBulkAll _ ≤ 1048576 := of_decide_eq_true hk
  obtain ⟨m0, s0, rfl, R0, T0, dk0, de0, dL0, dJ0, dI0, dq0, dr0, dt0, dd0, DL0, DJ0, DI0, HC0⟩ := open_msg (hval 0 38 v0 rfl rfl) h0
  have Z0 := msg_up dd0 T0 DL0 DJ0 DI0 (by simp only [List.cons_append, List.nil_append, Rows.uptoBulkAll] at hB; omega)
  obtain ⟨s1, rfl, rfl, b1⟩ := open_str Try.underlying9 (hval 1 9 v1 rfl rfl) h1
  have c1 := bulks.str (H := H) s1
  simp only [List.cons_append, List.nil_append, Rows.uptoBulkAll] at hB
  clear hA0 hval0
  have hwalk : Calls Try.prog 7 #[.agg (msgL m0 s0).toArray, .string s1] W fun e w' => e = .returned (.bool true) ∧ Below W.heap.size W w' :=
    (FT.run (memory_ok14 _ m0 s0 s1 R0 Z0.2.2.2 Z0.1 Z0.2.1 Z0.2.2.1 HC0 (by omega))).mono fun e w' ⟨⟨H, he, _⟩, hb⟩ => ⟨he, hb⟩
  refine hwalk.mono fun e W' ⟨he, bel⟩ => ?_
  subst he
  exact ⟨_, rfl, _, _, _, [], _, [], hW', trodAll_mk1 (shut_bool Try.underlying4 _), (trodAll_cons_mk (Below.trod laidOut (by kernel_rfl) (of_decide_eq_true (by kernel_rfl)) k0 bel lt0) (trodAll_cons_mk (Below.trod laidOut (by kernel_rfl) (of_decide_eq_true (by kernel_rfl)) k1 bel lt1) trodAll_mk0)), rfl, bel.frame _, fun h => by cases h⟩

theorem over : Rows.wireMemoryUptoRow.holds Try.pinned (Rows.OpenSpec.upto Rows.wireMemorySpec) :=
  OpenClaim.holds_of_cond 7 Try.f7 rfl rfl rfl rfl rfl rfl rfl ⟨rfl, rfl, rfl, rfl, rfl⟩ rfl rfl rfl rfl rfl (by kernel_rfl) Try.func7 (by kernel_rfl)
    (of_decide_eq_true (by kernel_rfl)) (by unfold Func.isWrapper; first | (rw [if_pos (by decide +kernel)]; kernel_rfl) | (rw [if_neg (by decide +kernel)]; exact ⟨rfl, rfl⟩))
    (fun os started H enc _ F => lifted os started H enc F)

theorem proved : Rows.WireMemoryUptoSaid := over
end Go.Proofs.Ytlbdnkkaacccoaa.wireMemory
