/- Regions that draw their order: early operations that read what only the late effects touch. -/
import Derived.Test.YtlbdnkkaacccoaaCom
namespace Go.Proofs.Ytlbdnkkaacccoaa
set_option linter.unusedVariables false
set_option linter.unusedSimpArgs false
set_option maxRecDepth 100000
namespace SL.Late
open Go Go.RowKit SL
section
variable (P : Program) (md : Region.Mode) (ops : Array Oper) (C : Ctx) (St St1 : Heap → Prop) (qf ef lf : Nat → Bool)
/-- What holds where an effect has run: one that isn't late leaves what the early ones read. -/
def Se (k : Nat) (H : Heap) : Prop := St H ∧ (lf k = false → St1 H)
def mOp (i : Nat) (K : Act → Heap → Prop) (a : Act) (H : Heap) : Prop :=
  match ops[i]? with
  | none => K a H
  | some o => if Region.wanted o (yielded ops a.tmps) = true then
      (if qf i = true then ∃ v, QY P C (Sq St St1 ef i) o a v ∧ K (a.put o.dst v) H else ∃ R, ER P C (Se St St1 lf i) o a H R ∧ ∀ v H', R v H' → Se St St1 lf i H' → (∃ w, Sat C H' w) → K (a.put o.dst v) H')
    else K (a.put o.dst undef) H
def wpAnyM (Q : Act → Heap → Prop) : Nat → Array Bool → Act → Heap → Prop
  | 0, listed, a, H => Region.ready md ops listed = [] ∧ Q a H
  | fuel + 1, listed, a, H => (Region.ready md ops listed = [] → Q a H) ∧ ∀ i ∈ Region.ready md ops listed, mOp P ops C St St1 qf ef lf i (wpAnyM Q fuel (listed.setIfInBounds i true)) a H
def wpMix (Q : Act → Heap → Prop) : List Oper → Nat → Act → Heap → Prop
  | [], _, a, H => Q a H
  | o :: rest, k, a, H => if Region.wanted o (yielded ops a.tmps) = true then
      (if qf k = true then ∃ v, QY P C (Sq St St1 ef k) o a v ∧ wpMix Q rest (k + 1) (a.put o.dst v) H else ∃ R, ER P C (Se St St1 lf k) o a H R ∧ ∀ v H', R v H' → Se St St1 lf k H' → (∃ w, Sat C H' w) → wpMix Q rest (k + 1) (a.put o.dst v) H')
    else wpMix Q rest (k + 1) (a.put o.dst undef) H
end
section
variable {P : Program} {md : Region.Mode} {ops : Array Oper} {C : Ctx} {St St1 : Heap → Prop} {qf ef lf : Nat → Bool}
theorem mOp_mono {i : Nat} {a : Act} {H : Heap} {K K' : Act → Heap → Prop} (h : ∀ a H, K a H → K' a H) (hh : mOp P ops C St St1 qf ef lf i K a H) : mOp P ops C St St1 qf ef lf i K' a H := by
  unfold mOp at *
  split
  · rename_i ho; simp only [ho] at hh; exact h _ _ hh
  · rename_i o ho
    simp only [ho] at hh
    split
    · rename_i hw
      rw [if_pos hw] at hh
      split
      · rename_i hq
        rw [if_pos hq] at hh
        obtain ⟨v, h1, h2⟩ := hh
        exact ⟨v, h1, h _ _ h2⟩
      · rename_i hq
        rw [if_neg hq] at hh
        obtain ⟨R, h1, h2⟩ := hh
        exact ⟨R, h1, fun v H' hr hs hw => h _ _ (h2 v H' hr hs hw)⟩
    · rename_i hw
      rw [if_neg hw] at hh
      exact h _ _ hh
def waitsE (md : Region.Mode) (ops : Array Oper) (qf ef lf : Nat → Bool) : Bool :=
  (List.range ops.size).all fun k => qf k || !lf k || match ops[k]? with
    | some ok => (ok.after.any fun e => Region.binds md e && !qf e.on && lf e.on) || (List.range ops.size).all fun i => !ef i || ok.after.any fun e => Region.binds md e && Nat.beq e.on i
    | none => true
def EInv (qf ef lf : Nat → Bool) (size : Nat) (listed : Array Bool) : Prop := ∀ k, qf k = false → lf k = true → listed.getD k false = true → ∀ i, i < size → ef i = true → listed.getD i false = true
theorem EInv.all {k : Nat} {listed : Array Bool} (hW : waitsE md ops qf ef lf = true) (hB : EInv qf ef lf ops.size listed) (hk : k ∈ Region.ready md ops listed) (hq : qf k = false) (hlk : lf k = true) {i : Nat} (hi : i < ops.size) (he : ef i = true) : listed.getD i false = true := by
  obtain ⟨_, ok, hok, hall⟩ := mem_ready.1 hk
  have hks : k < ops.size := (Array.getElem?_eq_some_iff.1 hok).1
  unfold waitsE at hW
  have h1 := List.all_eq_true.1 hW k (by simpa using hks)
  rw [hq, hlk, hok] at h1
  simp only [Bool.false_or, Bool.not_true] at h1
  simp only [Bool.or_eq_true] at h1
  rcases h1 with h1 | h1
  · obtain ⟨e, he', hb⟩ := Array.any_eq_true'.1 h1
    simp only [Bool.and_eq_true, Bool.not_eq_true'] at hb
    exact hB e.on hb.1.2 hb.2 (hall e he' hb.1.1) i hi he
  · have h2 := List.all_eq_true.1 h1 i (by simpa using hi)
    rw [he] at h2
    simp only [Bool.not_true, Bool.false_or] at h2
    obtain ⟨e, he', hb⟩ := Array.any_eq_true'.1 h2
    simp only [Bool.and_eq_true] at hb
    have := hall e he' hb.1
    rwa [Nat.eq_of_beq_eq_true hb.2] at this
theorem EInv.step {k : Nat} {listed : Array Bool} (hW : waitsE md ops qf ef lf = true) (hB : EInv qf ef lf ops.size listed) (hk : k ∈ Region.ready md ops listed) : EInv qf ef lf ops.size (listed.setIfInBounds k true) := by
  intro j hj hlj hl i hi he
  have grow : listed.getD i false = true → (listed.setIfInBounds k true).getD i false = true := fun h => by
    by_cases hki : k = i
    · subst hki
      by_cases hks : k < listed.size
      · simp [Array.getD, hks]
      · simp [Array.getD, hks] at h
    · rw [getD_set_ne false hki]; exact h
  by_cases hkj : k = j
  · subst hkj; exact grow (hB.all hW hk hj hlj hi he)
  · rw [getD_set_ne false hkj] at hl; exact grow (hB j hj hlj hl i hi he)
theorem wpAnyM_sound (hW : waitsE md ops qf ef lf = true) (hef : ∀ i, ef i = true → i < ops.size) {Q : Act → Heap → Prop} {Q' : Exit → Act → World → Prop} (hQ : ∀ a H w, Sat C H w → Q a H → Q' .normal a w) : ∀ (fuel : Nat) (listed : Array Bool) (a : Act) (H : Heap) (w : World), St H → EInv qf ef lf ops.size listed → (∀ i, ef i = true → listed.getD i true = false → St1 H) → Sat C H w →
    wpAnyM P md ops C St St1 qf ef lf Q fuel listed a H → wpAny P md ops Q' fuel listed a w
  | 0, _, _, _, _, _, _, _, hs, h => ⟨h.1, hQ _ _ _ hs h.2⟩
  | fuel + 1, listed, a, H, w, hst, hB, hA, hs, h => by
    refine ⟨fun h0 => hQ _ _ _ hs (h.1 h0), fun i hi => ?_⟩
    have hh := h.2 i hi
    have hB' := hB.step hW hi
    have hun := (mem_ready.1 hi).1
    have hA' : ∀ j, ef j = true → (listed.setIfInBounds i true).getD j true = false → St1 H := fun j hj hl => by
      by_cases hij : i = j
      · subst hij; exact hA i hj hun
      · rw [getD_set_ne true hij] at hl; exact hA j hj hl
    have hE' : qf i = false → ∀ H', Se St St1 lf i H' → ∀ j, ef j = true → (listed.setIfInBounds i true).getD j true = false → St1 H' := fun hqi H' hse j hj hl => by
      cases hlf : lf i with
      | false => exact hse.2 hlf
      | true =>
      exfalso
      by_cases hij : i = j
      · subst hij
        have hls : i < listed.size ∨ ¬ i < listed.size := Nat.lt_or_ge i listed.size |>.imp id (by omega)
        rcases hls with h' | h'
        · simp [Array.getD, h'] at hl
        · simp [Array.getD, h'] at hl
      · rw [getD_set_ne true hij] at hl
        rcases Nat.lt_or_ge j ops.size with h' | h'
        · have := hB.all hW hi hqi hlf h' hj
          rcases Nat.lt_or_ge j listed.size with h2 | h2
          · simp [Array.getD, h2] at this hl; rw [this] at hl; cases hl
          · simp [Array.getD, Nat.not_lt.2 h2] at hl
        · exact absurd h' (by have := hef j hj; omega)
    unfold mOp at hh
    unfold wpOp
    split
    · rename_i ho; simp only [ho] at hh; exact wpAnyM_sound hW hef hQ fuel _ _ _ _ hst hB' hA' hs hh
    · rename_i o ho
      simp only [ho] at hh
      split
      · rename_i hw
        rw [if_pos hw] at hh
        refine .inl ?_
        split at hh
        · obtain ⟨v, h1, h2⟩ := hh
          unfold Oper.wp
          rcases h1 w ⟨H, ⟨hst, fun he => hA i he hun⟩, hs⟩ with h3 | ⟨h3, rfl⟩
          · rw [h3]; exact wpAnyM_sound hW hef hQ fuel _ _ _ _ hst hB' hA' hs h2
          · rw [h3]; exact wpAnyM_sound hW hef hQ fuel _ _ _ _ hst hB' hA' hs h2
        · rename_i hqn
          obtain ⟨R, h1, h2⟩ := hh
          have h3 := h1 w hs
          have hE := hE' (by simpa using hqn)
          unfold Oper.wp
          generalize (execOp a.eval o).run P w = r at *
          cases r with
          | ok n w' =>
            cases n <;> simp only [eff] at h3 <;> simp only [Oper.upon]
            case value v => obtain ⟨H', hr, hst', hs'⟩ := h3; exact wpAnyM_sound hW hef hQ fuel _ _ _ _ hst'.1 hB' (hE _ hst') hs' (h2 v H' hr hst' ⟨w', hs'⟩)
            case skip => obtain ⟨H', hr, hst', hs'⟩ := h3; exact wpAnyM_sound hW hef hQ fuel _ _ _ _ hst'.1 hB' (hE _ hst') hs' (h2 undef H' hr hst' ⟨w', hs'⟩)
            case enter g args =>
              refine h3.mono fun e w'' ⟨v, H', he, hr, hst', hs'⟩ => ?_
              subst he
              exact wpAnyM_sound hW hef hQ fuel _ _ _ _ hst'.1 hB' (hE _ hst') hs' (h2 v H' hr hst' ⟨w'', hs'⟩)
            case row rw args => exact h3.mono fun v w'' ⟨H', hr, hst', hs'⟩ => wpAnyM_sound hW hef hQ fuel _ _ _ _ hst'.1 hB' (hE _ hst') hs' (h2 v H' hr hst' ⟨w'', hs'⟩)
          | halt y w' => simp only [eff] at h3
      · rename_i hw
        rw [if_neg hw] at hh
        exact wpAnyM_sound hW hef hQ fuel _ _ _ _ hst hB' hA' hs hh
theorem mOp_put {j : Nat} {oi oj : Oper} {x : Value} {a : Act} {H : Heap} (hj : ops[j]? = some oj) (hap : oi.apart ops oj = true) (hsj : ∀ cs b, oj.op ≠ .select cs b) {K K' : Act → Heap → Prop}
    (hK : ∀ u H', K ((a.put oi.dst x).put oj.dst u) H' → K' (a.put oj.dst u) H') (h : mOp P ops C St St1 qf ef lf j K (a.put oi.dst x) H) : mOp P ops C St St1 qf ef lf j K' a H := by
  obtain ⟨h1, h2, h3⟩ := Oper.apart_spec hap
  have he : execOp (a.put oi.dst x).eval oj = execOp a.eval oj := execOp_put oj hsj a oi.dst x h1
  unfold mOp at *
  simp only [hj] at *
  rw [wanted_put oj a oi.dst x h1] at h
  split
  · rename_i hw
    rw [if_pos hw] at h
    split
    · rename_i hq
      rw [if_pos hq] at h
      obtain ⟨v, hv, hk⟩ := h
      exact ⟨v, hv.same he.symm, hK v H hk⟩
    · rename_i hq
      rw [if_neg hq] at h
      obtain ⟨R, hR, hk⟩ := h
      exact ⟨R, hR.same he.symm, fun v H' hr hst hw => hK v H' (hk v H' hr hst hw)⟩
  · rename_i hw
    rw [if_neg hw] at h
    exact hK undef H h
theorem qv_mOp {i : Nat} {o : Oper} {v : Value} {a : Act} {H : Heap} (hi : ops[i]? = some o) (hq : qf i = true) (hy : QV P ops C (Sq St St1 ef i) o v a) {K : Act → Heap → Prop} (h : K (a.put o.dst v) H) : mOp P ops C St St1 qf ef lf i K a H := by
  unfold mOp
  simp only [hi]
  rcases hy with ⟨hw, hv⟩ | ⟨hw, rfl⟩
  · rw [if_pos hw, if_pos hq]; exact ⟨v, hv, h⟩
  · rw [if_neg (by simp [hw])]; exact h
theorem wpAnyM_firstQ {Q : Act → Heap → Prop} {i : Nat} {oi : Oper} {v : Value} (hi : ops[i]? = some oi) (hq : qf i = true) (hsel : ∀ (j : Nat) (o : Oper) cs b, ops[j]? = some o → o.op ≠ .select cs b) :
    ∀ (fuel : Nat) (listed : Array Bool) (a : Act) (H : Heap),
      (∀ j oj, ops[j]? = some oj → j ≠ i → listed.getD j true = false → (∀ e ∈ oj.after, Region.binds md e = true → e.on ≠ i) → oi.apart ops oj = true) →
      i ∈ Region.ready md ops listed → QV P ops C (Sq St St1 ef i) oi v a →
      wpAnyM P md ops C St St1 qf ef lf Q fuel (listed.setIfInBounds i true) (a.put oi.dst v) H → wpAnyM P md ops C St St1 qf ef lf Q (fuel + 1) listed a H := by
  intro fuel
  induction fuel with
  | zero =>
    intro listed a H _ hr hy hh
    refine ⟨fun h => (by rw [h] at hr; cases hr), fun j hj => ?_⟩
    by_cases hji : j = i
    · subst hji; exact qv_mOp hi hq hy hh
    · have := ready_mono hj hji
      rw [hh.1] at this
      cases this
  | succ fuel ih =>
    intro listed a H hfree hr hy hh
    refine ⟨fun h => (by rw [h] at hr; cases hr), fun j hj => ?_⟩
    by_cases hji : j = i
    · subst hji; exact qv_mOp hi hq hy hh
    · have h1 := hh.2 j (ready_mono hj hji)
      obtain ⟨hjun, oj, hoj, hall⟩ := mem_ready.1 hj
      have hnot : ∀ e ∈ oj.after, Region.binds md e = true → e.on ≠ i := fun e he hb heq => by
        have h1 := hall e he hb
        have h0 := (mem_ready.1 hr).1
        rw [heq] at h1
        rcases Nat.lt_or_ge i listed.size with h' | h'
        · simp [h'] at h0 h1; rw [h0] at h1; cases h1
        · simp [Array.getElem?_eq_none h'] at h1
      have hap := hfree j oj hoj hji hjun hnot
      have hfree' : ∀ k ok, ops[k]? = some ok → k ≠ i → (listed.setIfInBounds j true).getD k true = false →
          (∀ e ∈ ok.after, Region.binds md e = true → e.on ≠ i) → oi.apart ops ok = true := fun k ok hk hki hun hno => by
        refine hfree k ok hk hki ?_ hno
        by_cases hjk : j = k
        · subst hjk; exact hjun
        · rw [getD_set_ne true hjk] at hun; exact hun
      refine mOp_put hoj hap (fun cs b => hsel j oj cs b hoj) (fun u H' hk => ?_) h1
      refine ih (listed.setIfInBounds j true) _ _ hfree' (ready_mono hr (Ne.symm hji)) (hy.put hap (fun cs b => hsel i oi cs b hi)) ?_
      rw [Array.setIfInBounds_comm _ _ hji, Act.put_comm (a := a) (y := oi.dst) u v (fun d hd hd2 => (Oper.apart_spec hap).2.1 d hd2 hd)]
      exact hk
theorem mOp_push {k : Nat} {ok oj : Oper} {x : Value} {a : Act} {H : Heap} (hk : ops[k]? = some ok) (hap : ok.apart ops oj = true) (hsk : ∀ cs b, ok.op ≠ .select cs b) {K K' : Act → Heap → Prop} {T : Heap → Prop} (hT : T H) (hSe : ∀ H', Se St St1 lf k H' → T H') (hw0 : ∃ w, Sat C H w)
    (hK : ∀ u H', T H' → (∃ w, Sat C H' w) → K (a.put ok.dst u) H' → K' ((a.put oj.dst x).put ok.dst u) H') (h : mOp P ops C St St1 qf ef lf k K a H) : mOp P ops C St St1 qf ef lf k K' (a.put oj.dst x) H := by
  obtain ⟨h1, h2, h3⟩ := Oper.apart_spec hap
  have he : execOp (a.put oj.dst x).eval ok = execOp a.eval ok := execOp_put ok hsk a oj.dst x h3
  unfold mOp at *
  simp only [hk] at *
  rw [wanted_put ok a oj.dst x h3]
  split
  · rename_i hw
    rw [if_pos hw] at h
    split
    · rename_i hq
      rw [if_pos hq] at h
      obtain ⟨v, hv, hk⟩ := h
      exact ⟨v, hv.same he, hK v H hT hw0 hk⟩
    · rename_i hq
      rw [if_neg hq] at h
      obtain ⟨R, hR, hk⟩ := h
      exact ⟨R, hR.same he, fun v H' hr hst hw => hK v H' (hSe H' hst) hw (hk v H' hr hst hw)⟩
  · rename_i hw
    rw [if_neg hw] at h
    exact hK undef H hT hw0 h
theorem mOp_some {k : Nat} {ok : Oper} {a : Act} {H : Heap} (hk : ops[k]? = some ok) {K : Act → Heap → Prop} (hst : St H) (hw0 : ∃ w, Sat C H w) (h : mOp P ops C St St1 qf ef lf k K a H) : ∃ v H', St H' ∧ (∃ w, Sat C H' w) ∧ K (a.put ok.dst v) H' := by
  unfold mOp at h
  simp only [hk] at h
  obtain ⟨w, hw⟩ := hw0
  split at h
  · split at h
    · obtain ⟨v, _, hk⟩ := h; exact ⟨v, H, hst, ⟨w, hw⟩, hk⟩
    · obtain ⟨R, hR, hk⟩ := h
      obtain ⟨v, H', hr, hst', hw'⟩ := hR.ends hw
      exact ⟨v, H', hst'.1, hw', hk v H' hr hst' hw'⟩
  · exact ⟨undef, H, hst, ⟨w, hw⟩, h⟩
theorem mOp_quiet {j : Nat} {oj : Oper} {a : Act} {H : Heap} (hj : ops[j]? = some oj) (hq : qf j = true) {K : Act → Heap → Prop} (h : mOp P ops C St St1 qf ef lf j K a H) : ∃ v, QV P ops C (Sq St St1 ef j) oj v a ∧ K (a.put oj.dst v) H := by
  unfold mOp at h
  simp only [hj] at h
  split at h
  · rename_i hw
    try rw [if_pos hq] at h
    obtain ⟨v, hv, hk⟩ := h
    exact ⟨v, .inl ⟨hw, hv⟩, hk⟩
  · rename_i hw
    exact ⟨undef, .inr ⟨by simpa using hw, rfl⟩, h⟩
theorem wpAnyM_firstE (hW : waitsE md ops qf ef lf = true) {Q : Act → Heap → Prop} {k : Nat} {ok : Oper} (hk : ops[k]? = some ok) (hqk : qf k = false) (hsel : ∀ (j : Nat) (o : Oper) cs b, ops[j]? = some o → o.op ≠ .select cs b) :
    ∀ (fuel : Nat) (listed : Array Bool) (a : Act) (H : Heap), St H → (∃ w, Sat C H w) → EInv qf ef lf ops.size listed → (∀ i, ef i = true → listed.getD i true = false → St1 H) →
      (∀ j oj, ops[j]? = some oj → j ≠ k → listed.getD j true = false → (∀ e ∈ oj.after, Region.binds md e = true → e.on ≠ k) → ok.apart ops oj = true) →
      (∀ j oj, ops[j]? = some oj → qf j = false → j ≠ k → listed.getD j true = false → ∃ e ∈ oj.after, Region.binds md e = true ∧ qf e.on = false ∧ listed.getD e.on false = false) →
      k ∈ Region.ready md ops listed → mOp P ops C St St1 qf ef lf k (wpAnyM P md ops C St St1 qf ef lf Q fuel (listed.setIfInBounds k true)) a H → wpAnyM P md ops C St St1 qf ef lf Q (fuel + 1) listed a H := by
  intro fuel
  induction fuel with
  | zero =>
    intro listed a H hst hw0 _ _ _ _ hr hh
    refine ⟨fun h => (by rw [h] at hr; cases hr), fun j hj => ?_⟩
    by_cases hjk : j = k
    · subst hjk; exact hh
    · have := ready_mono hj hjk
      obtain ⟨v, H', _, _, h2⟩ := mOp_some hk hst hw0 hh
      rw [h2.1] at this
      cases this
  | succ fuel ih =>
    intro listed a H hst hw0 hB hA hfree hwait hr hh
    refine ⟨fun h => (by rw [h] at hr; cases hr), fun j hj => ?_⟩
    by_cases hjk : j = k
    · subst hjk; exact hh
    · obtain ⟨hjun, oj, hoj, hall⟩ := mem_ready.1 hj
      have hqj : qf j = true := by
        cases hq : qf j with
        | true => rfl
        | false =>
          obtain ⟨e, he, hb, _, hu⟩ := hwait j oj hoj hq hjk hjun
          rw [hall e he hb] at hu; cases hu
      have hnot : ∀ e ∈ oj.after, Region.binds md e = true → e.on ≠ k := fun e he hb heq => by
        have h1 := hall e he hb
        have h0 := (mem_ready.1 hr).1
        rw [heq] at h1
        rcases Nat.lt_or_ge k listed.size with h' | h'
        · simp [h'] at h0 h1; rw [h0] at h1; cases h1
        · simp [Array.getElem?_eq_none h'] at h1
      have hap := hfree j oj hoj hjk hjun hnot
      have hsj := fun cs b => hsel j oj cs b hoj
      obtain ⟨v0, H0, hst0, hw00, h0⟩ := mOp_some hk hst hw0 hh
      obtain ⟨vj, hvj, _⟩ := mOp_quiet hoj hqj (h0.2 j (ready_mono hj hjk))
      have hva := hvj.back hap hsj
      refine qv_mOp hoj hqj hva ?_
      have hfree' : ∀ i oi, ops[i]? = some oi → i ≠ k → (listed.setIfInBounds j true).getD i true = false →
          (∀ e ∈ oi.after, Region.binds md e = true → e.on ≠ k) → ok.apart ops oi = true := fun i oi hi hik hun hno => by
        refine hfree i oi hi hik ?_ hno
        by_cases hij : j = i
        · subst hij; exact hjun
        · rw [getD_set_ne true hij] at hun; exact hun
      have hwait' : ∀ i oi, ops[i]? = some oi → qf i = false → i ≠ k → (listed.setIfInBounds j true).getD i true = false → ∃ e ∈ oi.after, Region.binds md e = true ∧ qf e.on = false ∧ (listed.setIfInBounds j true).getD e.on false = false := fun i oi hi hqi hik hun => by
        have hij : j ≠ i := fun e => by subst e; rw [hqj] at hqi; cases hqi
        rw [getD_set_ne true hij] at hun
        obtain ⟨e, he, hb, hqe, hu⟩ := hwait i oi hi hqi hik hun
        have hje : j ≠ e.on := fun h => by rw [← h, hqj] at hqe; cases hqe
        exact ⟨e, he, hb, hqe, by rw [getD_set_ne false hje]; exact hu⟩
      refine ih (listed.setIfInBounds j true) _ H hst hw0 (hB.step hW hj) (fun i he hun => hA i he (by
        by_cases hij : j = i
        · subst hij; exact hjun
        · rw [getD_set_ne true hij] at hun; exact hun)) hfree' hwait' (ready_mono hr (Ne.symm hjk)) ?_
      refine mOp_push (T := fun H' => St H' ∧ (ef j = true → St1 H')) hk hap (fun cs b => hsel k ok cs b hk) ⟨hst, fun he => hA j he hjun⟩ (fun H' hse => ⟨hse.1, fun he => by
        cases hlk : lf k with
        | false => exact hse.2 hlk
        | true =>
          exfalso
          have h1 := hB.all hW hr hqk hlk (Array.getElem?_eq_some_iff.1 hoj).1 he
          rcases Nat.lt_or_ge j listed.size with h' | h'
          · simp [h'] at hjun h1; rw [hjun] at h1; cases h1
          · simp [Array.getElem?_eq_none h'] at hjun⟩) hw0 (fun u H' hst' hw' hK => ?_) hh
      obtain ⟨v', hv', hK'⟩ := mOp_quiet hoj hqj (hK.2 j (ready_mono hj hjk))
      have hvv : v' = vj := (hv'.back hap hsj).unique hva hst' hw'
      subst hvv
      rw [Array.setIfInBounds_comm _ _ (Ne.symm hjk)] at hK'
      rw [Act.put_comm (a := a) (x := oj.dst) (y := ok.dst) v' u (fun d hd hd2 => (Oper.apart_spec hap).2.1 d hd2 hd)]
      exact hK'
theorem wpAnyM_lex (hW : waitsE md ops qf ef lf = true) (hef : ∀ i, ef i = true → i < ops.size) {Q : Act → Heap → Prop} (hs : Region.noSelect ops = true) (hch : chainE md ops qf = true) : ∀ (l : List Oper) (k : Nat) (listed : Array Bool) (a : Act) (H : Heap), (∀ j, l[j]? = ops[k + j]?) → (∀ i, i < k → listed.getD i true = true) → (∀ i, k ≤ i → listed.getD i false = false) →
    Region.lexFrom md ops l.length k listed = true → EInv qf ef lf ops.size listed → (∀ i, ef i = true → listed.getD i true = false → St1 H) → St H → (∃ w, Sat C H w) → wpMix P ops C St St1 qf ef lf Q l k a H → wpAnyM P md ops C St St1 qf ef lf Q l.length listed a H
  | [], _, _, _, _, _, _, _, hB, _, _, _, _, h => ⟨by simpa [Region.lexFrom] using hB, h⟩
  | o :: l, k, listed, a, H, hl, hi1, hi2, hB, hEI, hA, hst, hw0, h => by
    have h0 : ops[k]? = some o := by simpa using (hl 0).symm
    simp only [List.length_cons, Region.lexFrom, Bool.and_eq_true] at hB
    obtain ⟨⟨hr, hf⟩, hB'⟩ := hB
    have hr' : k ∈ Region.ready md ops listed := by simpa using hr
    have hl' : ∀ j, l[j]? = ops[k + 1 + j]? := fun j => by have := hl (j + 1); simpa [Nat.add_assoc, Nat.add_comm 1 j] using this
    have hi1' : ∀ i, i < k + 1 → (listed.setIfInBounds k true).getD i true = true := fun i hi => by
      by_cases hik : k = i
      · subst hik
        by_cases hks : k < listed.size
        · simp [Array.getD, hks]
        · simp [Array.getD, hks]
      · rw [getD_set_ne true hik]; exact hi1 i (by omega)
    have hi2' : ∀ i, k + 1 ≤ i → (listed.setIfInBounds k true).getD i false = false := fun i hi => by
      rw [getD_set_ne false (by omega)]; exact hi2 i (by omega)
    have hA' : ∀ j, ef j = true → (listed.setIfInBounds k true).getD j true = false → St1 H := fun j hj hl => by
      by_cases hij : k = j
      · subst hij
        by_cases hks : k < listed.size
        · simp [Array.getD, hks] at hl
        · simp [Array.getD, hks] at hl
      · rw [getD_set_ne true hij] at hl; exact hA j hj hl
    have ih := fun a' H' (hA' : ∀ j, ef j = true → (listed.setIfInBounds k true).getD j true = false → St1 H') (hst' : St H') (hw' : ∃ w, Sat C H' w) (hm : wpMix P ops C St St1 qf ef lf Q l (k + 1) a' H') => wpAnyM_lex hW hef hs hch l (k + 1) (listed.setIfInBounds k true) a' H' hl' hi1' hi2' hB' (hEI.step hW hr') hA' hst' hw' hm
    unfold wpMix at h
    cases hq : qf k with
    | true =>
      rw [hq] at h
      have hv : ∃ v, QV P ops C (Sq St St1 ef k) o v a ∧ wpMix P ops C St St1 qf ef lf Q l (k + 1) (a.put o.dst v) H := by
        split at h
        · rename_i hw; obtain ⟨v, h1, h2⟩ : ∃ v, QY P C (Sq St St1 ef k) o a v ∧ _ := by simpa using h
          exact ⟨v, .inl ⟨hw, h1⟩, h2⟩
        · rename_i hw; exact ⟨undef, .inr ⟨by simpa using hw, rfl⟩, h⟩
      obtain ⟨v, hv, hm⟩ := hv
      exact wpAnyM_firstQ h0 hq (Region.noSelect_spec hs) l.length listed a H (Region.free_spec h0 hf) hr' hv (ih _ _ hA' hst hw0 hm)
    | false =>
      rw [hq] at h
      refine wpAnyM_firstE hW h0 hq (Region.noSelect_spec hs) l.length listed a H hst hw0 hEI hA (Region.free_spec h0 hf) ?_ hr' ?_
      · intro j oj hj hqj hjk hun
        have hkj : k < j := by
          rcases Nat.lt_trichotomy j k with h1 | h1 | h1
          · rw [hi1 j h1] at hun; cases hun
          · exact absurd h1 hjk
          · exact h1
        have hjs : j < ops.size := (Array.getElem?_eq_some_iff.1 hj).1
        unfold chainE at hch
        have h1 := List.all_eq_true.1 hch j (by simpa using hjs)
        rw [hqj, Bool.false_or] at h1
        have h2 := List.all_eq_true.1 h1 k (by simpa using hkj)
        rw [hq, Bool.false_or, hj] at h2
        obtain ⟨e, he, hb⟩ := Array.any_eq_true'.1 h2
        simp only [Bool.and_eq_true, Bool.not_eq_true'] at hb
        exact ⟨e, he, hb.1.1, hb.1.2, hi2 e.on (Nat.le_of_ble_eq_true hb.2)⟩
      · unfold mOp
        simp only [h0]
        split
        · rename_i hw
          rw [if_pos hw] at h
          obtain ⟨R, hR, hk⟩ : ∃ R, ER P C (Se St St1 lf k) o a H R ∧ _ := by simpa using h
          rw [if_neg (by simp [hq])]
          exact ⟨R, hR, fun v H' hr hst' hw' => ih _ _ (fun j hj hl => by
            cases hlf : lf k with
            | false => exact hst'.2 hlf
            | true =>
              exfalso
              by_cases hij : k = j
              · subst hij
                by_cases hks : k < listed.size
                · simp [Array.getD, hks] at hl
                · simp [Array.getD, hks] at hl
              · rw [getD_set_ne true hij] at hl
                rcases Nat.lt_or_ge j ops.size with h' | h'
                · have := hEI.all hW hr' hq hlf h' hj
                  rcases Nat.lt_or_ge j listed.size with h2 | h2
                  · simp [Array.getD, h2] at this hl; rw [this] at hl; cases hl
                  · simp [Array.getD, Nat.not_lt.2 h2] at hl
                · exact absurd h' (by have := hef j hj; omega)) hst'.1 hw' (hk v H' hr hst' hw'.choose hw'.choose_spec)⟩
        · rename_i hw
          rw [if_neg hw] at h
          exact ih _ _ hA' hst hw0 h
end
section
variable (C : Ctx) (P : Program) (H0 H1 : Heap) (qf ef lf : Nat → Bool) (n : Nat)
def MListW (ops : List Oper) (Q : Fr → Heap → Prop) (l : List Oper) : Nat → Fr → Heap → Prop := @List.rec Oper (fun _ => Nat → Fr → Heap → Prop) (fun _ f H => Q f H)
    (fun o _ ih k f H => guardW n ops f o.guard (fun f => cond (qf k) (cond (ef k) (QOpW C P H1 true n f o fun v => putK f o.dst v fun f' => ih (k + 1) f' H) (QOpW C P H0 true n f o fun v => putK f o.dst v fun f' => ih (k + 1) f' H)) (OpW C P false n f o (fun v H' => Se (fun H => Sub H H0) (fun H => Sub H H1) lf k H' ∧ putK f o.dst v fun f' => ih (k + 1) f' H') (fun _ _ => False) H))
      (fun f => putK f o.dst undef fun f' => ih (k + 1) f' H)) l
end
section
variable {C : Ctx} {P : Program} {H0 H1 : Heap} {qf ef lf : Nat → Bool} {n : Nat}
theorem MListW.sound {ops : Array Oper} {Q : Fr → Heap → Prop} (hn : 0 < n) (hnc : callFree ops qf = true) : ∀ (l : List Oper) (k : Nat) {f : Fr} {H : Heap} {a : Act}, (∀ j, l[j]? = ops[k + j]?) → MListW C P H0 H1 qf ef lf n ops.toList Q l k f H → TR C.ds n f a →
    wpMix P ops C (fun H => Sub H H0) (fun H => Sub H H1) qf ef lf (fun a H => ∃ f, Q f H ∧ TR C.ds n f a) l k a H
  | [], _, f, H, a, _, h, ht => ⟨f, h, ht⟩
  | o :: l, k, f, H, a, hl, h, ht => by
    have h0 : ops[k]? = some o := by simpa using (hl 0).symm
    have hl' : ∀ j, l[j]? = ops[k + 1 + j]? := fun j => by have := hl (j + 1); simpa [Nat.add_assoc, Nat.add_comm 1 j] using this
    replace h : guardW n ops.toList f o.guard (fun f => cond (qf k) (cond (ef k) (QOpW C P H1 true n f o fun v => putK f o.dst v fun f' => MListW C P H0 H1 qf ef lf n ops.toList Q l (k + 1) f' H) (QOpW C P H0 true n f o fun v => putK f o.dst v fun f' => MListW C P H0 H1 qf ef lf n ops.toList Q l (k + 1) f' H)) (OpW C P false n f o (fun v H' => Se (fun H => Sub H H0) (fun H => Sub H H1) lf k H' ∧ putK f o.dst v fun f' => MListW C P H0 H1 qf ef lf n ops.toList Q l (k + 1) f' H') (fun _ _ => False) H))
      (fun f => putK f o.dst undef fun f' => MListW C P H0 H1 qf ef lf n ops.toList Q l (k + 1) f' H) := h
    simp only [putK_eq] at h
    unfold wpMix
    rcases guardW.sound (ops := ops) ht h with ⟨hw, h⟩ | ⟨hw, h⟩
    · rw [if_pos hw]
      cases hq : qf k with
      | true =>
        rw [hq] at h
        simp only [cond_true] at h
        have hcf : ∀ c x, o.op = .call c → c.callee = .value x → False := fun c x ho hc => by
          have hks : k < ops.size := (Array.getElem?_eq_some_iff.1 h0).1
          have h1 := List.all_eq_true.1 hnc k (by simpa using hks)
          simp only [hq, h0, ho, hc] at h1
          simp at h1
        simp only [if_true]
        cases he : ef k with
        | true =>
          rw [he] at h
          simp only [cond_true] at h
          obtain ⟨v, hv, hk⟩ := QOpW.plain h ht hcf
          exact ⟨v, fun w ⟨H2, ⟨_, hs3⟩, hs2⟩ => hv w ((hs3 he).sat hs2), MListW.sound hn hnc l (k + 1) hl' hk (ht.put o.dst v)⟩
        | false =>
          rw [he] at h
          simp only [cond_false] at h
          obtain ⟨v, hv, hk⟩ := QOpW.plain h ht hcf
          exact ⟨v, fun w ⟨H2, ⟨hs1, _⟩, hs2⟩ => hv w (hs1.sat hs2), MListW.sound hn hnc l (k + 1) hl' hk (ht.put o.dst v)⟩
      | false =>
        rw [hq] at h
        simp only [cond_false] at h
        rw [if_neg (by simp)]
        exact ⟨_, ER.of_op hn h ht, fun v H' hk hst hw => MListW.sound hn hnc l (k + 1) hl' hk (ht.put o.dst v)⟩
    · rw [if_neg (by simp [hw])]
      exact MListW.sound hn hnc l (k + 1) hl' h (ht.put o.dst undef)
/-- A region that draws its order, with effects (their places: es), quiet operations that read what lies in H0, early ones (es1) that read what lies in H1, and late effects (ls), for which the early ones don't wait. -/
theorem drawLate (es es1 ls : List Nat) (H0 H1 : Heap) {id : Nat} {ops : Array Oper} {Q : Exit → Fr → Heap → Prop} {f : Fr} {H : Heap} (hn : Nat.blt 0 n = true) (hm : P.follows .mixedOrders = true) (hB : Region.lexB .any ops = true)
    (hch : chainE .any ops (qfl es) = true) (hnc : callFree ops (qfl es) = true) (hW : waitsE .any ops (qfl es) (efl es1) (efl ls) = true) (hlt : (es1.all fun i => Nat.blt i ops.size) = true) (h0 : Sub H H0) (h1 : Sub H H1)
    (h : MListW C P H0 H1 (qfl es) (efl es1) (efl ls) n ops.toList (Q .normal) ops.toList 0 f H) (hd : noDefer ops = true := by kernel_rfl) : DrawI C P n id ops Q f H :=
  ⟨hm, hd, fun a w ht hs' => by
    simp only [Region.lexB, Bool.and_eq_true] at hB
    have hrep : ∀ k, (Array.replicate ops.size false).getD k false = false := fun k => by
      by_cases hk : k < ops.size <;> simp [Array.getD, hk]
    have hEI : EInv (qfl es) (efl es1) (efl ls) ops.size (Array.replicate ops.size false) := fun k _ _ hk => by rw [hrep] at hk; cases hk
    have hef : ∀ i, efl es1 i = true → i < ops.size := fun i hi => by
      have := List.all_eq_true.1 hlt i (by simpa [efl] using hi)
      simpa [Nat.blt_eq] using this
    refine wpAnyM_sound (St := fun H => Sub H H0) (St1 := fun H => Sub H H1) (qf := qfl es) (ef := efl es1) (lf := efl ls) hW (fun i hi => ?_) (Q := fun a H => ∃ f, Q .normal f H ∧ TR C.ds n f a) (fun a' H' w' hs' ⟨f', hq, ht'⟩ => ⟨by simp, f', H', hq, ht', hs'⟩) _ _ _ H _ h0 hEI (fun _ _ _ => h1) hs' ?_
    · exact hef i hi
    have := wpAnyM_lex (P := P) (md := .any) (C := C) (St := fun H => Sub H H0) (St1 := fun H => Sub H H1) (lf := efl ls) (ef := efl es1) hW hef hB.1 hch ops.toList 0 (Array.replicate ops.size false) a H (by simp) (fun i hi => absurd hi (by omega)) (fun i _ => hrep i) (by simpa using hB.2) hEI (fun _ _ _ => h1) h0 ⟨_, hs'⟩
      (MListW.sound (by simpa [Nat.blt_eq] using hn) hnc ops.toList 0 (by simp) h ht)
    simpa using this⟩
end
end SL.Late
end Go.Proofs.Ytlbdnkkaacccoaa
