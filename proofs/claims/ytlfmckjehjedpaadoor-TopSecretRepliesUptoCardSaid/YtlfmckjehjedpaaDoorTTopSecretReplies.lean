/- The law TopSecretReplies holds at every input of bulk at most 1048576: the call returns true, and the arguments read as they did. The bound of the form itself is the only condition. -/
import Derived.Test.YtlfmckjehjedpaaDoorV1
import Derived.Test.YtlfmckjehjedpaaDoorCards
import Derived.Test.YtlfmckjehjedpaaDoorTie
import Derived.SevenTiedAt
import Derived.LaidMore
import Derived.Lay
import Derived.Stop.Joined
import Derived.Test.YtlfmckjehjedpaaDoorBulk
import Derived.ProofKit
import Derived.OpenShut
import Derived.JoinedCond
namespace Go.Proofs.YtlfmckjehjedpaaDoor.topSecretReplies
open Go.ChangeShapes Go.WideShapes Go.ChangeAt Go.RowKit
open SL
set_option linter.unusedVariables false
set_option linter.unusedSimpArgs false

theorem own : ownKnob Tryd.prog.godebug = none := by kernel_rfl
theorem laidOut : laidOutB Tryd.prog = true := by kernel_rfl
set_option maxRecDepth 100000 in
set_option maxHeartbeats 2000000 in
theorem lifted (os : Os) (started : os.Started) (H : Type) (enc : TypeId × Value → H) (F : Stop.Interp) :
    ReturnsInHanded {} Tryd.checked os 5 .any (fun w args => ((Rows.OpenSpec.upto Rows.topSecretRepliesSpec).pre enc Tryd.prog Tryd.f5 Rows.topSecretRepliesUptoRow.domain false w args ∧ laidMetH Tryd.prog Rows.topSecretRepliesUptoRow.laid w) ∧ sizedMet enc Tryd.prog Tryd.f5 (Rows.OpenSpec.upto Rows.topSecretRepliesSpec) false w args)
      (((Rows.OpenSpec.upto Rows.topSecretRepliesSpec).at F).post enc Tryd.prog Tryd.f5 false true false false) := by
  refine cond_and (C := Tryd.checked) (s := Rows.OpenSpec.upto Rows.topSecretRepliesSpec) (k := Rows.uptoSmall) rfl (X := fun w _ => laidMetH Tryd.prog Rows.topSecretRepliesUptoRow.laid w) (fun _ _ _ hh h => h.of_heap hh) own started (by kernel_rfl) Tryd.func5
    (cond_wit (enc := enc) (C := Tryd.checked) (os := os) (s := Rows.OpenSpec.upto Rows.topSecretRepliesSpec) (k := Rows.uptoSmall) rfl (X := fun w _ => laidMetH Tryd.prog Rows.topSecretRepliesUptoRow.laid w) false (World.laidAll Tryd.prog os Rows.topSecretRepliesUptoRow.laid) #[.slice none 0 0, .slice none 0 0, .slice none 0 0] 8 (World.laidAll_os _ _ _)
      (World.shaped_of_ZipB (by kernel_rfl) (by kernel_rfl)) (by kernel_rfl) (x := ([.nil, .nil, .nil], [], [])) (by kernel_rfl) rfl (by kernel_rfl) (by kernel_rfl)
      (by rw [MakeChecks.laidMetH_plain _ _ _ (by kernel_rfl)]; exact laidMet_laidAll _ (by kernel_rfl) (by kernel_rfl))) ?_
  intro W base args ds gs before hval0 hW hcnd hk hL _
  have hval : ∀ (j : Nat) t v, Tryd.f5.params[j]? = some t → args[j]? = some v → Value.okWide Tryd.prog W .any base t v := hval0
  have hW' := hW
  obtain ⟨p, q, hA0, hV, rfl, hfz, hnd⟩ := hW
  have hA : DataW.TrodAll enc Tryd.prog W 0 (fun _ => true) true Tryd.f5.params.toList args.toList ds p := hA0
  rw [Tryd.params5] at hA hval
  obtain ⟨v0, vs0, d0, ds0, p0, q0, hargs, rfl, rfl, h0, r0⟩ := trodAll_cons hA
  obtain ⟨v1, vs1, d1, ds1, p1, q1, rfl, rfl, rfl, h1, r1⟩ := trodAll_cons r0
  obtain ⟨v2, vs2, d2, ds2, p2, q2, rfl, rfl, rfl, h2, r2⟩ := trodAll_cons r1
  obtain ⟨rfl, rfl, rfl⟩ := trodAll_nil r2
  obtain rfl : args = #[v0, v1, v2] := by cases args; simp_all
  obtain ⟨rfl, rfl⟩ := trodVars_none hV
  have k0 := h0
  have lt0 : ∀ x ∈ p0, x.block < W.heap.size := by obtain ⟨m, hm⟩ := k0; exact DataW.trod_lt m _ _ _ hm
  have k1 := h1
  have lt1 : ∀ x ∈ p1, x.block < W.heap.size := by obtain ⟨m, hm⟩ := k1; exact DataW.trod_lt m _ _ _ hm
  have k2 := h2
  have lt2 : ∀ x ∈ p2, x.block < W.heap.size := by obtain ⟨m, hm⟩ := k2; exact DataW.trod_lt m _ _ _ hm
  have hB : Rows.uptoBulkAll _ ≤ 1048576 := of_decide_eq_true hk
  obtain ⟨oa0, xs0, cap0, rfl, T0, D0⟩ := open_bats (hval 0 22 v0 rfl rfl) h0
  have S0 := bats_up T0 D0 (by simp only [List.cons_append, List.nil_append, Rows.uptoBulkAll] at hB; omega)
  obtain ⟨oa1, xs1, cap1, rfl, S1, Q1, hc1, D1⟩ := open_rowsQ (f := seatF) (Q := fun _ => True) (k := 3) (ks := [.i .i64, .i .i64]) Tryd.underlying23 (by kernel_rfl) (by kernel_rfl) (by decide) (fun row h hw => by obtain ⟨x, hx⟩ := view_seatB row h hw; exact ⟨x, trivial, hx⟩) (hval 1 23 v1 rfl rfl) h1
  have b1 := bulks.slice D1
  obtain ⟨oa2, xs2, cap2, rfl, S2, Q2, hc2, D2⟩ := open_rowsQ (f := fun (x : Int) => [Value.int .i64 x]) (Q := fun _ => True) (k := 3) (ks := [.i .i64]) Tryd.underlying57 (by kernel_rfl) (by kernel_rfl) (by decide) (fun row h hw => by obtain ⟨x, _, hx⟩ := view_int row h hw; exact ⟨x, trivial, hx⟩) (hval 2 57 v2 rfl rfl) h2
  rw [flatMap_one] at S2
  have b2 := bulks.slice D2
  simp only [List.cons_append, List.nil_append, Rows.uptoBulkAll] at hB
  clear hA0 hval0
  have hwalk : Calls Tryd.prog 5 #[.slice oa0 xs0.length cap0, .slice oa1 xs1.length cap1, .slice oa2 xs2.length cap2] W fun e w' => e = .returned (.bool true) ∧ Below W.heap.size W w' :=
    (FT.run (replies_ok _ (tabR_of hL) oa0 oa1 cap0 cap1 xs0 S0 xs1 S1 (by omega) oa2 cap2 xs2 S2 (by omega))).mono fun e w' ⟨⟨H, he, _⟩, hb⟩ => ⟨he, hb⟩
  refine hwalk.mono fun e W' ⟨he, bel⟩ => ?_
  subst he
  exact ⟨_, rfl, _, _, _, [], _, [], hW', trodAll_mk1 (shut_bool Tryd.underlying4 _), (trodAll_cons_mk (Below.trod laidOut (by kernel_rfl) (of_decide_eq_true (by kernel_rfl)) k0 bel lt0) (trodAll_cons_mk (Below.trod laidOut (by kernel_rfl) (of_decide_eq_true (by kernel_rfl)) k1 bel lt1) (trodAll_cons_mk (Below.trod laidOut (by kernel_rfl) (of_decide_eq_true (by kernel_rfl)) k2 bel lt2) trodAll_mk0))), rfl, bel.frame _, fun h => by cases h⟩

theorem over : Rows.topSecretRepliesUptoRow.holds Tryd.pinned (Rows.OpenSpec.upto Rows.topSecretRepliesSpec) :=
  OpenClaim.holds_of_cond 5 Tryd.f5 rfl rfl rfl rfl rfl rfl rfl ⟨rfl, rfl, rfl, rfl, rfl⟩ rfl rfl rfl rfl rfl (by kernel_rfl) Tryd.func5 (by kernel_rfl)
    (of_decide_eq_true (by kernel_rfl)) (by unfold Func.isWrapper; first | (rw [if_pos (by decide +kernel)]; kernel_rfl) | (rw [if_neg (by decide +kernel)]; exact ⟨rfl, rfl⟩))
    (fun os started H enc _ F => lifted os started H enc F)
theorem card : Rows.TopSecretRepliesUptoCardSaid :=
  Claim7.holds_tied_plain_at .later [] Rows.topSecretRepliesUptoCard.laidKinds true Rows.topSecretRepliesUptoCard.stood.harness Rows.topSecretRepliesUptoCard.stood.looks over (fun _ h => by cases h) (by kernel_rfl) (fun _ h => by cases h) topSecretRepliesUpto_row_tie rfl ⟨rfl, rfl⟩ (by kernel_rfl) rfl
    (fun f fn hf hfn => by
      obtain rfl : f = 5 := Option.some.inj ((show Tryd.prog.funcNamed Rows.topSecretRepliesUptoRow.func = some 5 by kernel_rfl).symm.trans hf) |>.symm
      obtain rfl : fn = Tryd.f5 := (Option.some.inj (Tryd.func5.symm.trans hfn)).symm
      exact ⟨by kernel_rfl, fun j t ht => by
        rw [Tryd.params5] at ht
        have hm : t ∈ [22, 23, 57] := by simpa using Array.mem_of_getElem? ht
        have hall : ([22, 23, 57].all fun u => !Tryd.prog.wantsStandIn u) = true := by kernel_rfl
        exact (show Tryd.prog.wantsStandIn t = false by simpa using List.all_eq_true.1 hall t hm)⟩)
    (by kernel_rfl)
theorem proved : Rows.TopSecretRepliesUptoCardSaid := card
end Go.Proofs.YtlfmckjehjedpaaDoor.topSecretReplies
