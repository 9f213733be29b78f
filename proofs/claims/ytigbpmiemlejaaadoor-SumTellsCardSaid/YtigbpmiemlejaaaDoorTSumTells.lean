/- The law SumTells holds at every input: the call returns true, and the arguments read as they did. No condition. -/
import Derived.Test.YtigbpmiemlejaaaDoorSum6
import Derived.Test.YtigbpmiemlejaaaDoorSumView
import Derived.Test.YtigbpmiemlejaaaDoorTab
import Derived.Test.YtigbpmiemlejaaaDoorCards
import Derived.Test.YtigbpmiemlejaaaDoorTie
import Derived.SevenTiedAt
import Derived.LaidMore
import Derived.Lay
import Derived.Stop.Joined
import Derived.Test.YtigbpmiemlejaaaDoorRows
import Derived.ProofKit
import Derived.OpenShut
import Derived.SizedLaws
namespace Go.Proofs.YtigbpmiemlejaaaDoor.sumTells
open Go.ChangeShapes Go.WideShapes Go.ChangeAt Go.RowKit
open SL
set_option linter.unusedVariables false
set_option linter.unusedSimpArgs false

theorem own : ownKnob Tryd.prog.godebug = none := by kernel_rfl
theorem laidOut : laidOutB Tryd.prog = true := by kernel_rfl
set_option maxRecDepth 100000 in
set_option maxHeartbeats 2000000 in
theorem lifted (os : Os) (started : os.Started) (H : Type) (enc : TypeId × Value → H) :
    ReturnsInHanded {} Tryd.checked os 5 .any (fun w args => (Rows.sumTellsSpec.pre enc Tryd.prog Tryd.f5 Rows.sumTellsRow.domain false w args ∧ laidMetH Tryd.prog Rows.sumTellsRow.laid w) ∧ sizedMet enc Tryd.prog Tryd.f5 (OpenSpec.ofChange Rows.sumTellsSpec) false w args)
      (Rows.sumTellsSpec.post enc Tryd.prog Tryd.f5 false true false false) := by
  refine returnsInHanded_of_change_and (C := Tryd.checked) (X := fun w _ => laidMetH Tryd.prog Rows.sumTellsRow.laid w) (fun _ _ _ hh h => h.of_heap hh) own started (by kernel_rfl) Tryd.func5
    (ChangeSpec.witness_shaped (enc := enc) (C := Tryd.checked) (os := os) (X := fun w _ => laidMetH Tryd.prog Rows.sumTellsRow.laid w) false (World.laidAll Tryd.prog os Rows.sumTellsRow.laid) #[.string ByteArray.empty, .int .i64 0, .agg #[.int .u8 0, .int .u8 0, .int .u8 0, .int .u8 0]] 8 (World.laidAll_os _ _ _)
      (World.shaped_of_ZipB (by kernel_rfl) (by kernel_rfl)) (by kernel_rfl) (by kernel_rfl) (by kernel_rfl)
      (by rw [MakeChecks.laidMetH_plain _ _ _ (by kernel_rfl)]; exact laidMet_laidAll _ (by kernel_rfl) (by kernel_rfl))) ?_
  intro W base args ds gs before hval0 hW hcnd hreach hL _
  have hval : ∀ (j : Nat) t v, Tryd.f5.params[j]? = some t → args[j]? = some v → Value.okWide Tryd.prog W .any base t v := hval0
  have hW' := hW
  obtain ⟨p, q, hA0, hV, rfl, hfz, hnd⟩ := hW
  have hA : DataW.TrodAll enc Tryd.prog W 0 (fun _ => true) true Tryd.f5.params.toList args.toList ds p := hA0
  rw [Tryd.params5] at hA hval
  obtain ⟨v0, vs0, d0, ds0, p0, q0, hargs, rfl, rfl, h0, r0⟩ := trodAll_cons hA
  obtain ⟨v1, vs1, d1, ds1, p1, q1, rfl, rfl, rfl, h1, r1⟩ := trodAll_cons r0
  obtain ⟨v2, vs2, d2, ds2, p2, q2, rfl, rfl, rfl, h2, r2⟩ := trodAll_cons r1
  obtain ⟨rfl, rfl, rfl⟩ := trodAll_nil r2
  obtain rfl : args = #[v0, v1, v2] := by cases args; simp_all
  obtain ⟨rfl, rfl⟩ := trodVars_none hV
  have k0 := h0
  have lt0 : ∀ x ∈ p0, x.block < W.heap.size := by obtain ⟨m, hm⟩ := k0; exact DataW.trod_lt m _ _ _ hm
  have k1 := h1
  have lt1 : ∀ x ∈ p1, x.block < W.heap.size := by obtain ⟨m, hm⟩ := k1; exact DataW.trod_lt m _ _ _ hm
  have k2 := h2
  have lt2 : ∀ x ∈ p2, x.block < W.heap.size := by obtain ⟨m, hm⟩ := k2; exact DataW.trod_lt m _ _ _ hm
  obtain ⟨s0, rfl, rfl, b0⟩ := open_str Tryd.underlying9 (hval 0 9 v0 rfl rfl) h0
  have b0 : s0.size + 2048 ≤ 140737488355328 := by
    have := sized_string (j := 0) (t := 9) (bytes := s0.data.toList) hreach rfl rfl
    rw [Array.length_toList] at this
    have e : s0.data.size = s0.size := rfl
    have hlt := reachBytes_lt
    simp only [reachBytes] at this
    omega
  obtain ⟨a1, rfl, rfl, rfl, w1⟩ := open_int Tryd.underlying3 (hval 1 3 v1 rfl rfl) h1
  obtain ⟨x2, rfl, Q2⟩ := open_agg (f := fun (x : Nat × Nat × Nat × Nat) => [Value.int .u8 (x.1 : Int), .int .u8 (x.2.1 : Int), .int .u8 (x.2.2.1 : Int), .int .u8 (x.2.2.2 : Int)]) (Q := fun (x : Nat × Nat × Nat × Nat) => x.1 < 256 ∧ x.2.1 < 256 ∧ x.2.2.1 < 256 ∧ x.2.2.2 < 256) (k := 4) (ks := [.i .u8, .i .u8, .i .u8, .i .u8]) (by kernel_rfl) (by kernel_rfl) (by kernel_rfl) view_four (hval 2 29 v2 rfl rfl) h2
  clear hA0 hval0
  have hwalk : Calls Tryd.prog 5 #[.string s0, .int .i64 a1, .agg #[.int .u8 (x2.1 : Int), .int .u8 (x2.2.1 : Int), .int .u8 (x2.2.2.1 : Int), .int .u8 (x2.2.2.2 : Int)]] W fun e w' => e = .returned (.bool true) ∧ Below W.heap.size W w' :=
    (FT.run (tells_ok _ (tab_of hL) s0 a1 x2.1 x2.2.1 x2.2.2.1 x2.2.2.2 (by omega) Q2.1 Q2.2.1 Q2.2.2.1 Q2.2.2.2)).mono fun e w' ⟨⟨H, he, _⟩, hb⟩ => ⟨he, hb⟩
  refine hwalk.mono fun e W' ⟨he, bel⟩ => ?_
  subst he
  exact ⟨_, rfl, _, _, _, [], _, [], hW', trodAll_mk1 (shut_bool Tryd.underlying4 _), (trodAll_cons_mk (Below.trod laidOut (by kernel_rfl) (of_decide_eq_true (by kernel_rfl)) k0 bel lt0) (trodAll_cons_mk (Below.trod laidOut (by kernel_rfl) (of_decide_eq_true (by kernel_rfl)) k1 bel lt1) (trodAll_cons_mk (Below.trod laidOut (by kernel_rfl) (of_decide_eq_true (by kernel_rfl)) k2 bel lt2) trodAll_mk0))), rfl, bel.frame _, fun h => by cases h⟩

theorem over : Rows.sumTellsRow.holds Tryd.pinned (OpenSpec.ofChange Rows.sumTellsSpec) :=
  OpenClaim.holds_of_wide 5 Tryd.f5 rfl rfl rfl rfl rfl rfl rfl ⟨rfl, rfl, rfl, rfl, rfl⟩ rfl rfl rfl rfl rfl (by kernel_rfl) Tryd.func5 (by kernel_rfl)
    (of_decide_eq_true (by kernel_rfl)) (by unfold Func.isWrapper; first | (rw [if_pos (by decide +kernel)]; kernel_rfl) | (rw [if_neg (by decide +kernel)]; exact ⟨rfl, rfl⟩))
    (fun os started H enc _ => lifted os started H enc)
theorem card : Rows.SumTellsCardSaid :=
  Claim7.holds_tied_plain_at .later [] [.data, .data, .data] true Rows.sumTellsCard.stood.harness false over (fun _ h => by cases h) (by kernel_rfl) (fun _ h => by cases h) sumTells_row_tie rfl ⟨rfl, rfl⟩ (by kernel_rfl) rfl
    (fun f fn hf hfn => by
      obtain rfl : f = 5 := Option.some.inj ((show Tryd.prog.funcNamed Rows.sumTellsRow.func = some 5 by kernel_rfl).symm.trans hf) |>.symm
      obtain rfl : fn = Tryd.f5 := (Option.some.inj (Tryd.func5.symm.trans hfn)).symm
      exact ⟨by kernel_rfl, fun j t ht => by
        rw [Tryd.params5] at ht
        have hm : t ∈ [9, 3, 29] := by simpa using Array.mem_of_getElem? ht
        have hall : ([9, 3, 29].all fun u => !Tryd.prog.wantsStandIn u) = true := by kernel_rfl
        exact (show Tryd.prog.wantsStandIn t = false by simpa using List.all_eq_true.1 hall t hm)⟩)
    (by kernel_rfl)
theorem proved : Rows.SumTellsCardSaid := card
end Go.Proofs.YtigbpmiemlejaaaDoor.sumTells
