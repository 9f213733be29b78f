/- The law FrameTurned holds at every input: the call returns true, and the arguments read as they did. No condition. -/
import Derived.Test.YtphnpchblkpjhaaFrame7
import Derived.Test.YtphnpchblkpjhaaFrameView
import Derived.Test.YtphnpchblkpjhaaSumView
import Derived.Test.YtphnpchblkpjhaaRows
import Derived.ProofKit
import Derived.OpenShut
import Derived.SizedLaws
namespace Go.Proofs.Ytphnpchblkpjhaa.frameTurned
open Go.ChangeShapes Go.WideShapes Go.ChangeAt Go.RowKit
open SL
set_option linter.unusedVariables false
set_option linter.unusedSimpArgs false

theorem own : ownKnob Try.prog.godebug = none := by kernel_rfl
theorem laidOut : laidOutB Try.prog = true := by kernel_rfl
set_option maxRecDepth 100000 in
set_option maxHeartbeats 2000000 in
theorem lifted (os : Os) (started : os.Started) (H : Type) (enc : TypeId × Value → H) :
    ReturnsInHanded {} Try.checked os 6 .any (Rows.frameTurnedSpec.pre6 enc Try.prog Try.f6 Rows.frameTurnedRow.domain false) (Rows.frameTurnedSpec.post enc Try.prog Try.f6 false true false false) := by
  refine returnsInHanded_of_change_sized (C := Try.checked) own started (by kernel_rfl) Try.func6
    (ChangeSpec.witness6 (enc := enc) (C := Try.checked) false ⟨#[], #[.agg #[.int .i64 0, .int .i64 0, .int .i64 0, .string ByteArray.empty], .int .i64 0, .agg #[.int .u8 0, .int .u8 0, .int .u8 0, .int .u8 0]], []⟩ 8 (by kernel_rfl) (by kernel_rfl) (by kernel_rfl) (by kernel_rfl)) ?_
  intro W base args ds gs before hval0 hW hcnd hreach _
  have hval : ∀ (j : Nat) t v, Try.f6.params[j]? = some t → args[j]? = some v → Value.okWide Try.prog W .any base t v := hval0
  have hW' := hW
  obtain ⟨p, q, hA0, hV, rfl, hfz, hnd⟩ := hW
  have hA : DataW.TrodAll enc Try.prog W 0 (fun _ => true) true Try.f6.params.toList args.toList ds p := hA0
  rw [Try.params6] at hA hval
  obtain ⟨v0, vs0, d0, ds0, p0, q0, hargs, rfl, rfl, h0, r0⟩ := trodAll_cons hA
  obtain ⟨v1, vs1, d1, ds1, p1, q1, rfl, rfl, rfl, h1, r1⟩ := trodAll_cons r0
  obtain ⟨v2, vs2, d2, ds2, p2, q2, rfl, rfl, rfl, h2, r2⟩ := trodAll_cons r1
  obtain ⟨rfl, rfl, rfl⟩ := trodAll_nil r2
  obtain rfl : args = #[v0, v1, v2] := by cases args; simp_all
  obtain ⟨rfl, rfl⟩ := trodVars_none hV
  have k0 := h0
  have lt0 : ∀ x ∈ p0, x.block < W.heap.size := by obtain ⟨m, hm⟩ := k0; exact DataW.trod_lt m _ _ _ hm
  have k1 := h1
  have lt1 : ∀ x ∈ p1, x.block < W.heap.size := by obtain ⟨m, hm⟩ := k1; exact DataW.trod_lt m _ _ _ hm
  have k2 := h2
  have lt2 : ∀ x ∈ p2, x.block < W.heap.size := by obtain ⟨m, hm⟩ := k2; exact DataW.trod_lt m _ _ _ hm
  obtain ⟨x0, rfl, Q0⟩ := open_agg (f := fun (x : Int × Int × Int × ByteArray) => [Value.int .i64 x.1, .int .i64 x.2.1, .int .i64 x.2.2.1, .string x.2.2.2]) (Q := fun _ => True) (k := 4) (ks := [.i .i64, .i .i64, .i .i64, .s]) (by kernel_rfl) (by kernel_rfl) (by kernel_rfl) view_piece (hval 0 31 v0 rfl rfl) h0
  obtain ⟨a1, rfl, rfl, rfl, w1⟩ := open_int Try.underlying3 (hval 1 3 v1 rfl rfl) h1
  obtain ⟨x2, rfl, Q2⟩ := open_agg (f := fun (x : Nat × Nat × Nat × Nat) => [Value.int .u8 (x.1 : Int), .int .u8 (x.2.1 : Int), .int .u8 (x.2.2.1 : Int), .int .u8 (x.2.2.2 : Int)]) (Q := fun (x : Nat × Nat × Nat × Nat) => x.1 < 256 ∧ x.2.1 < 256 ∧ x.2.2.1 < 256 ∧ x.2.2.2 < 256) (k := 4) (ks := [.i .u8, .i .u8, .i .u8, .i .u8]) (by kernel_rfl) (by kernel_rfl) (by kernel_rfl) view_four (hval 2 41 v2 rfl rfl) h2
  clear hA0 hval0
  have hwalk : Calls Try.prog 6 #[.agg #[.int .i64 x0.1, .int .i64 x0.2.1, .int .i64 x0.2.2.1, .string x0.2.2.2], .int .i64 a1, .agg #[.int .u8 (x2.1 : Int), .int .u8 (x2.2.1 : Int), .int .u8 (x2.2.2.1 : Int), .int .u8 (x2.2.2.2 : Int)]] W fun e w' => e = .returned (.bool true) ∧ Below W.heap.size W w' :=
    (FT.run (turned_ok _ x0.1 x0.2.1 x0.2.2.1 x0.2.2.2 a1 x2.1 x2.2.1 x2.2.2.1 x2.2.2.2 Q2.1 Q2.2.1 Q2.2.2.1 Q2.2.2.2)).mono fun e w' ⟨⟨H, he, _⟩, hb⟩ => ⟨he, hb⟩
  refine hwalk.mono fun e W' ⟨he, bel⟩ => ?_
  subst he
  exact ⟨_, rfl, _, _, _, [], _, [], hW', trodAll_mk1 (shut_bool Try.underlying4 _), (trodAll_cons_mk (Below.trod laidOut (by kernel_rfl) (of_decide_eq_true (by kernel_rfl)) k0 bel lt0) (trodAll_cons_mk (Below.trod laidOut (by kernel_rfl) (of_decide_eq_true (by kernel_rfl)) k1 bel lt1) (trodAll_cons_mk (Below.trod laidOut (by kernel_rfl) (of_decide_eq_true (by kernel_rfl)) k2 bel lt2) trodAll_mk0))), rfl, bel.frame _, fun h => by cases h⟩

theorem over : Rows.frameTurnedRow.holds Try.pinned (OpenSpec.ofChange Rows.frameTurnedSpec) :=
  OpenClaim.holds_of_wide 6 Try.f6 rfl rfl rfl rfl rfl rfl rfl ⟨rfl, rfl, rfl, rfl, rfl⟩ rfl rfl rfl rfl rfl (by kernel_rfl) Try.func6 (by kernel_rfl)
    (of_decide_eq_true (by kernel_rfl)) (by unfold Func.isWrapper; first | (rw [if_pos (by decide +kernel)]; kernel_rfl) | (rw [if_neg (by decide +kernel)]; exact ⟨rfl, rfl⟩))
    (fun os started H enc _ => lifted os started H enc)

theorem proved : Rows.FrameTurnedSaid := over
end Go.Proofs.Ytphnpchblkpjhaa.frameTurned
