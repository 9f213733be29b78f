/- A logic of frames and owned memory over the weakest preconditions of a program's code; nothing of a statement stands here. -/
import Derived.Test.YtlfmckjehjedpaaGreatDoorSl
import Derived.Lib.ConvBytes
import Derived.Lib.FrozenHead
import Derived.Lib.UnsafeStr
import Derived.RangeFuncLeaves
import Derived.RangeFuncRecord
namespace Go.Proofs.YtlfmckjehjedpaaGreatDoor
set_option linter.unusedVariables false
set_option linter.unusedSimpArgs false
/- Regions that draw their order, in which calls and stores stand among quiet operations: the effects stand in a row, the quiet ones read what no effect touches; one walk of the lexical order serves every order. -/
namespace SL
open Go Go.RowKit
section
variable (P : Program) (md : Region.Mode) (ops : Array Oper) (C : Ctx) (St St1 : Heap → Prop) (qf ef : Nat → Bool)
/-- The worlds that may come about. -/
def cst (w : World) : Prop := ∃ H, St H ∧ Sat C H w
/-- What holds where a quiet operation runs: an early one runs ahead of every effect. -/
def Sq (i : Nat) (H : Heap) : Prop := St H ∧ (ef i = true → St1 H)
/-- A quiet operation's value, the same in every such world. -/
def QY (o : Oper) (a : Act) (v : Value) : Prop := ∀ w, cst C St w → ((execOp a.eval o).run P w = .ok (.value v) w ∨ ((execOp a.eval o).run P w = .ok .skip w ∧ v = undef))
/-- What an effect leaves. -/
def eff (R : Value → Heap → Prop) : Result Next → Prop
  | .ok (.value v) w' => ∃ H', R v H' ∧ St H' ∧ Sat C H' w'
  | .ok .skip w' => ∃ H', R undef H' ∧ St H' ∧ Sat C H' w'
  | .ok (.enter g args) w' => Calls P g args w' fun e w'' => ∃ v H', e = .returned v ∧ R v H' ∧ St H' ∧ Sat C H' w''
  | .ok (.row row args) w' => Rows P row args w' fun v w'' => ∃ H', R v H' ∧ St H' ∧ Sat C H' w''
  | _ => False
def ER (o : Oper) (a : Act) (H : Heap) (R : Value → Heap → Prop) : Prop := ∀ w, Sat C H w → eff P C St R ((execOp a.eval o).run P w)
def mOp (i : Nat) (K : Act → Heap → Prop) (a : Act) (H : Heap) : Prop :=
  match ops[i]? with
  | none => K a H
  | some o => if Region.wanted o (yielded ops a.tmps) = true then
      (if qf i = true then ∃ v, QY P C (Sq St St1 ef i) o a v ∧ K (a.put o.dst v) H else ∃ R, ER P C St o a H R ∧ ∀ v H', R v H' → St H' → (∃ w, Sat C H' w) → K (a.put o.dst v) H')
    else K (a.put o.dst undef) H
def wpAnyM (Q : Act → Heap → Prop) : Nat → Array Bool → Act → Heap → Prop
  | 0, listed, a, H => Region.ready md ops listed = [] ∧ Q a H
  | fuel + 1, listed, a, H => (Region.ready md ops listed = [] → Q a H) ∧ ∀ i ∈ Region.ready md ops listed, mOp P ops C St St1 qf ef i (wpAnyM Q fuel (listed.setIfInBounds i true)) a H
/-- The lexical walk. -/
def wpMix (Q : Act → Heap → Prop) : List Oper → Nat → Act → Heap → Prop
  | [], _, a, H => Q a H
  | o :: rest, k, a, H => if Region.wanted o (yielded ops a.tmps) = true then
      (if qf k = true then ∃ v, QY P C (Sq St St1 ef k) o a v ∧ wpMix Q rest (k + 1) (a.put o.dst v) H else ∃ R, ER P C St o a H R ∧ ∀ v H', R v H' → St H' → (∃ w, Sat C H' w) → wpMix Q rest (k + 1) (a.put o.dst v) H')
    else wpMix Q rest (k + 1) (a.put o.dst undef) H
end
section
variable {P : Program} {md : Region.Mode} {ops : Array Oper} {C : Ctx} {St St1 : Heap → Prop} {qf ef : Nat → Bool}
theorem mOp_mono {i : Nat} {a : Act} {H : Heap} {K K' : Act → Heap → Prop} (h : ∀ a H, K a H → K' a H) (hh : mOp P ops C St St1 qf ef i K a H) : mOp P ops C St St1 qf ef i K' a H := by
  unfold mOp at *
  split
  · rename_i ho; simp only [ho] at hh; exact h _ _ hh
  · rename_i o ho
    simp only [ho] at hh
    split
    · rename_i hw
      rw [if_pos hw] at hh
      split
      · rename_i hq
        rw [if_pos hq] at hh
        obtain ⟨v, h1, h2⟩ := hh
        exact ⟨v, h1, h _ _ h2⟩
      · rename_i hq
        rw [if_neg hq] at hh
        obtain ⟨R, h1, h2⟩ := hh
        exact ⟨R, h1, fun v H' hr hs hw => h _ _ (h2 v H' hr hs hw)⟩
    · rename_i hw
      rw [if_neg hw] at hh
      exact h _ _ hh
/-- Each effect waits for another one, or for every early operation. -/
def waitsE (md : Region.Mode) (ops : Array Oper) (qf ef : Nat → Bool) : Bool :=
  (List.range ops.size).all fun k => qf k || match ops[k]? with
    | some ok => (ok.after.any fun e => Region.binds md e && !qf e.on) || (List.range ops.size).all fun i => !ef i || ok.after.any fun e => Region.binds md e && Nat.beq e.on i
    | none => true
/-- Where an effect is listed, the early operations are. -/
def EInv (qf ef : Nat → Bool) (size : Nat) (listed : Array Bool) : Prop := ∀ k, qf k = false → listed.getD k false = true → ∀ i, i < size → ef i = true → listed.getD i false = true
theorem EInv.all {k : Nat} {listed : Array Bool} (hW : waitsE md ops qf ef = true) (hB : EInv qf ef ops.size listed) (hk : k ∈ Region.ready md ops listed) (hq : qf k = false) {i : Nat} (hi : i < ops.size) (he : ef i = true) : listed.getD i false = true := by
  obtain ⟨_, ok, hok, hall⟩ := mem_ready.1 hk
  have hks : k < ops.size := (Array.getElem?_eq_some_iff.1 hok).1
  unfold waitsE at hW
  have h1 := List.all_eq_true.1 hW k (by simpa using hks)
  rw [hq, Bool.false_or, hok] at h1
  simp only [Bool.or_eq_true] at h1
  rcases h1 with h1 | h1
  · obtain ⟨e, he', hb⟩ := Array.any_eq_true'.1 h1
    simp only [Bool.and_eq_true, Bool.not_eq_true'] at hb
    exact hB e.on hb.2 (hall e he' hb.1) i hi he
  · have h2 := List.all_eq_true.1 h1 i (by simpa using hi)
    rw [he] at h2
    simp only [Bool.not_true, Bool.false_or] at h2
    obtain ⟨e, he', hb⟩ := Array.any_eq_true'.1 h2
    simp only [Bool.and_eq_true] at hb
    have := hall e he' hb.1
    rwa [Nat.eq_of_beq_eq_true hb.2] at this
theorem EInv.step {k : Nat} {listed : Array Bool} (hW : waitsE md ops qf ef = true) (hB : EInv qf ef ops.size listed) (hk : k ∈ Region.ready md ops listed) : EInv qf ef ops.size (listed.setIfInBounds k true) := by
  intro j hj hl i hi he
  have grow : listed.getD i false = true → (listed.setIfInBounds k true).getD i false = true := fun h => by
    by_cases hki : k = i
    · subst hki
      by_cases hks : k < listed.size
      · simp [Array.getD, hks]
      · simp [Array.getD, hks] at h
    · rw [getD_set_ne false hki]; exact h
  by_cases hkj : k = j
  · subst hkj; exact grow (hB.all hW hk hj hi he)
  · rw [getD_set_ne false hkj] at hl; exact grow (hB j hj hl i hi he)
theorem wpAnyM_sound (hW : waitsE md ops qf ef = true) (hef : ∀ i, ef i = true → i < ops.size) {Q : Act → Heap → Prop} {Q' : Exit → Act → World → Prop} (hQ : ∀ a H w, Sat C H w → Q a H → Q' .normal a w) : ∀ (fuel : Nat) (listed : Array Bool) (a : Act) (H : Heap) (w : World), St H → EInv qf ef ops.size listed → (∀ i, ef i = true → listed.getD i true = false → St1 H) → Sat C H w →
    wpAnyM P md ops C St St1 qf ef Q fuel listed a H → wpAny P md ops Q' fuel listed a w
  | 0, _, _, _, _, _, _, _, hs, h => ⟨h.1, hQ _ _ _ hs h.2⟩
  | fuel + 1, listed, a, H, w, hst, hB, hA, hs, h => by
    refine ⟨fun h0 => hQ _ _ _ hs (h.1 h0), fun i hi => ?_⟩
    have hh := h.2 i hi
    have hB' := hB.step hW hi
    have hun := (mem_ready.1 hi).1
    have hA' : ∀ j, ef j = true → (listed.setIfInBounds i true).getD j true = false → St1 H := fun j hj hl => by
      by_cases hij : i = j
      · subst hij; exact hA i hj hun
      · rw [getD_set_ne true hij] at hl; exact hA j hj hl
    have hE' : qf i = false → ∀ H', ∀ j, ef j = true → (listed.setIfInBounds i true).getD j true = false → St1 H' := fun hqi H' j hj hl => by
      exfalso
      by_cases hij : i = j
      · subst hij
        have hls : i < listed.size ∨ ¬ i < listed.size := Nat.lt_or_ge i listed.size |>.imp id (by omega)
        rcases hls with h' | h'
        · simp [Array.getD, h'] at hl
        · simp [Array.getD, h'] at hl
      · rw [getD_set_ne true hij] at hl
        rcases Nat.lt_or_ge j ops.size with h' | h'
        · have := hB.all hW hi hqi h' hj
          rcases Nat.lt_or_ge j listed.size with h2 | h2
          · simp [Array.getD, h2] at this hl; rw [this] at hl; cases hl
          · simp [Array.getD, Nat.not_lt.2 h2] at hl
        · exact absurd h' (by have := hef j hj; omega)
    unfold mOp at hh
    unfold wpOp
    split
    · rename_i ho; simp only [ho] at hh; exact wpAnyM_sound hW hef hQ fuel _ _ _ _ hst hB' hA' hs hh
    · rename_i o ho
      simp only [ho] at hh
      split
      · rename_i hw
        rw [if_pos hw] at hh
        refine .inl ?_
        split at hh
        · obtain ⟨v, h1, h2⟩ := hh
          unfold Oper.wp
          rcases h1 w ⟨H, ⟨hst, fun he => hA i he hun⟩, hs⟩ with h3 | ⟨h3, rfl⟩
          · rw [h3]; exact wpAnyM_sound hW hef hQ fuel _ _ _ _ hst hB' hA' hs h2
          · rw [h3]; exact wpAnyM_sound hW hef hQ fuel _ _ _ _ hst hB' hA' hs h2
        · rename_i hqn
          obtain ⟨R, h1, h2⟩ := hh
          have h3 := h1 w hs
          have hE := hE' (by simpa using hqn)
          unfold Oper.wp
          generalize (execOp a.eval o).run P w = r at *
          cases r with
          | ok n w' =>
            cases n <;> simp only [eff] at h3 <;> simp only [Oper.upon]
            case value v => obtain ⟨H', hr, hst', hs'⟩ := h3; exact wpAnyM_sound hW hef hQ fuel _ _ _ _ hst' hB' (hE _) hs' (h2 v H' hr hst' ⟨w', hs'⟩)
            case skip => obtain ⟨H', hr, hst', hs'⟩ := h3; exact wpAnyM_sound hW hef hQ fuel _ _ _ _ hst' hB' (hE _) hs' (h2 undef H' hr hst' ⟨w', hs'⟩)
            case enter g args =>
              refine h3.mono fun e w'' ⟨v, H', he, hr, hst', hs'⟩ => ?_
              subst he
              exact wpAnyM_sound hW hef hQ fuel _ _ _ _ hst' hB' (hE _) hs' (h2 v H' hr hst' ⟨w'', hs'⟩)
            case row rw args => exact h3.mono fun v w'' ⟨H', hr, hst', hs'⟩ => wpAnyM_sound hW hef hQ fuel _ _ _ _ hst' hB' (hE _) hs' (h2 v H' hr hst' ⟨w'', hs'⟩)
          | halt y w' => simp only [eff] at h3
      · rename_i hw
        rw [if_neg hw] at hh
        exact wpAnyM_sound hW hef hQ fuel _ _ _ _ hst hB' hA' hs hh
/-- A quiet operation's value is one. -/
theorem QY.unique {o : Oper} {a : Act} {v u : Value} (h : QY P C St o a v) (h' : QY P C St o a u) {H : Heap} {w : World} (hst : St H) (hs : Sat C H w) : v = u := by
  rcases h w ⟨H, hst, hs⟩ with h1 | ⟨h1, rfl⟩ <;> rcases h' w ⟨H, hst, hs⟩ with h2 | ⟨h2, rfl⟩ <;> rw [h1] at h2 <;> simp at h2
  exact h2
theorem QY.same {o : Oper} {a a' : Act} {v : Value} (h : QY P C St o a v) (he : execOp a'.eval o = execOp a.eval o) : QY P C St o a' v := by
  unfold QY at *; rw [he]; exact h
theorem ER.same {o : Oper} {a a' : Act} {H : Heap} {R : Value → Heap → Prop} (h : ER P C St o a H R) (he : execOp a'.eval o = execOp a.eval o) : ER P C St o a' H R := by
  unfold ER at *; rw [he]; exact h
/-- What a step of operation oj, apart from oi, keeps of oi. -/
theorem mOp_put {j : Nat} {oi oj : Oper} {x : Value} {a : Act} {H : Heap} (hj : ops[j]? = some oj) (hap : oi.apart ops oj = true) (hsj : ∀ cs b, oj.op ≠ .select cs b) {K K' : Act → Heap → Prop}
    (hK : ∀ u H', K ((a.put oi.dst x).put oj.dst u) H' → K' (a.put oj.dst u) H') (h : mOp P ops C St St1 qf ef j K (a.put oi.dst x) H) : mOp P ops C St St1 qf ef j K' a H := by
  obtain ⟨h1, h2, h3⟩ := Oper.apart_spec hap
  have he : execOp (a.put oi.dst x).eval oj = execOp a.eval oj := execOp_put oj hsj a oi.dst x h1
  unfold mOp at *
  simp only [hj] at *
  rw [wanted_put oj a oi.dst x h1] at h
  split
  · rename_i hw
    rw [if_pos hw] at h
    split
    · rename_i hq
      rw [if_pos hq] at h
      obtain ⟨v, hv, hk⟩ := h
      exact ⟨v, hv.same he.symm, hK v H hk⟩
    · rename_i hq
      rw [if_neg hq] at h
      obtain ⟨R, hR, hk⟩ := h
      exact ⟨R, hR.same he.symm, fun v H' hr hst hw => hK v H' (hk v H' hr hst hw)⟩
  · rename_i hw
    rw [if_neg hw] at h
    exact hK undef H h
/-- The value of a quiet operation, or of one that isn't wanted. -/
def QV (P : Program) (ops : Array Oper) (C : Ctx) (St : Heap → Prop) (o : Oper) (v : Value) (a : Act) : Prop :=
  (Region.wanted o (yielded ops a.tmps) = true ∧ QY P C St o a v) ∨ (Region.wanted o (yielded ops a.tmps) = false ∧ v = undef)
theorem QV.mOp {i : Nat} {o : Oper} {v : Value} {a : Act} {H : Heap} (hi : ops[i]? = some o) (hq : qf i = true) (hy : QV P ops C (Sq St St1 ef i) o v a) {K : Act → Heap → Prop} (h : K (a.put o.dst v) H) : mOp P ops C St St1 qf ef i K a H := by
  unfold SL.mOp
  simp only [hi]
  rcases hy with ⟨hw, hv⟩ | ⟨hw, rfl⟩
  · rw [if_pos hw, if_pos hq]; exact ⟨v, hv, h⟩
  · rw [if_neg (by simp [hw])]; exact h
theorem QV.put {oi oj : Oper} {v u : Value} {a : Act} (hy : QV P ops C St oi v a) (hap : oi.apart ops oj = true) (hsi : ∀ cs b, oi.op ≠ .select cs b) : QV P ops C St oi v (a.put oj.dst u) := by
  obtain ⟨_, _, h3⟩ := Oper.apart_spec hap
  unfold QV at *
  rw [wanted_put oi a oj.dst u h3]
  rcases hy with ⟨hw, hv⟩ | h
  · exact .inl ⟨hw, hv.same (execOp_put oi hsi a oj.dst u h3)⟩
  · exact .inr h
/-- A quiet operation that may come up now may be taken first. -/
theorem wpAnyM_firstQ {Q : Act → Heap → Prop} {i : Nat} {oi : Oper} {v : Value} (hi : ops[i]? = some oi) (hq : qf i = true) (hsel : ∀ (j : Nat) (o : Oper) cs b, ops[j]? = some o → o.op ≠ .select cs b) :
    ∀ (fuel : Nat) (listed : Array Bool) (a : Act) (H : Heap),
      (∀ j oj, ops[j]? = some oj → j ≠ i → listed.getD j true = false → (∀ e ∈ oj.after, Region.binds md e = true → e.on ≠ i) → oi.apart ops oj = true) →
      i ∈ Region.ready md ops listed → QV P ops C (Sq St St1 ef i) oi v a →
      wpAnyM P md ops C St St1 qf ef Q fuel (listed.setIfInBounds i true) (a.put oi.dst v) H → wpAnyM P md ops C St St1 qf ef Q (fuel + 1) listed a H := by
  intro fuel
  induction fuel with
  | zero =>
    intro listed a H _ hr hy hh
    refine ⟨fun h => (by rw [h] at hr; cases hr), fun j hj => ?_⟩
    by_cases hji : j = i
    · subst hji; exact hy.mOp hi hq hh
    · have := ready_mono hj hji
      rw [hh.1] at this
      cases this
  | succ fuel ih =>
    intro listed a H hfree hr hy hh
    refine ⟨fun h => (by rw [h] at hr; cases hr), fun j hj => ?_⟩
    by_cases hji : j = i
    · subst hji; exact hy.mOp hi hq hh
    · have h1 := hh.2 j (ready_mono hj hji)
      obtain ⟨hjun, oj, hoj, hall⟩ := mem_ready.1 hj
      have hnot : ∀ e ∈ oj.after, Region.binds md e = true → e.on ≠ i := fun e he hb heq => by
        have h1 := hall e he hb
        have h0 := (mem_ready.1 hr).1
        rw [heq] at h1
        rcases Nat.lt_or_ge i listed.size with h' | h'
        · simp [h'] at h0 h1; rw [h0] at h1; cases h1
        · simp [Array.getElem?_eq_none h'] at h1
      have hap := hfree j oj hoj hji hjun hnot
      have hfree' : ∀ k ok, ops[k]? = some ok → k ≠ i → (listed.setIfInBounds j true).getD k true = false →
          (∀ e ∈ ok.after, Region.binds md e = true → e.on ≠ i) → oi.apart ops ok = true := fun k ok hk hki hun hno => by
        refine hfree k ok hk hki ?_ hno
        by_cases hjk : j = k
        · subst hjk; exact hjun
        · rw [getD_set_ne true hjk] at hun; exact hun
      refine mOp_put hoj hap (fun cs b => hsel j oj cs b hoj) (fun u H' hk => ?_) h1
      refine ih (listed.setIfInBounds j true) _ _ hfree' (ready_mono hr (Ne.symm hji)) (hy.put hap (fun cs b => hsel i oi cs b hi)) ?_
      rw [Array.setIfInBounds_comm _ _ hji, Act.put_comm (a := a) (y := oi.dst) u v (fun d hd hd2 => (Oper.apart_spec hap).2.1 d hd2 hd)]
      exact hk
theorem ER.ends {o : Oper} {a : Act} {H : Heap} {R : Value → Heap → Prop} (h : ER P C St o a H R) {w : World} (hs : Sat C H w) : ∃ v H', R v H' ∧ St H' ∧ ∃ w', Sat C H' w' := by
  have h3 := h w hs
  generalize (execOp a.eval o).run P w = r at h3
  cases r with
  | ok n w' =>
    cases n <;> simp only [eff] at h3
    case value v => obtain ⟨H', hr, hst', hs'⟩ := h3; exact ⟨v, H', hr, hst', w', hs'⟩
    case skip => obtain ⟨H', hr, hst', hs'⟩ := h3; exact ⟨undef, H', hr, hst', w', hs'⟩
    case enter g args =>
      obtain ⟨e, w'', fr, ⟨v, H', _, hr, hst', hs'⟩, _⟩ := h3 []
      exact ⟨v, H', hr, hst', w'', hs'⟩
    case row rw args =>
      obtain ⟨v, w'', ⟨H', hr, hst', hs'⟩, _⟩ := h3 default []
      exact ⟨v, H', hr, hst', w'', hs'⟩
  | halt y w' => simp only [eff] at h3
/-- A step of an operation, seen behind another one that is apart from it. -/
theorem mOp_push {k : Nat} {ok oj : Oper} {x : Value} {a : Act} {H : Heap} (hk : ops[k]? = some ok) (hap : ok.apart ops oj = true) (hsk : ∀ cs b, ok.op ≠ .select cs b) {K K' : Act → Heap → Prop} (hst : St H) (hw0 : ∃ w, Sat C H w)
    (hK : ∀ u H', St H' → (∃ w, Sat C H' w) → K (a.put ok.dst u) H' → K' ((a.put oj.dst x).put ok.dst u) H') (h : mOp P ops C St St1 qf ef k K a H) : mOp P ops C St St1 qf ef k K' (a.put oj.dst x) H := by
  obtain ⟨h1, h2, h3⟩ := Oper.apart_spec hap
  have he : execOp (a.put oj.dst x).eval ok = execOp a.eval ok := execOp_put ok hsk a oj.dst x h3
  unfold mOp at *
  simp only [hk] at *
  rw [wanted_put ok a oj.dst x h3]
  split
  · rename_i hw
    rw [if_pos hw] at h
    split
    · rename_i hq
      rw [if_pos hq] at h
      obtain ⟨v, hv, hk⟩ := h
      exact ⟨v, hv.same he, hK v H hst hw0 hk⟩
    · rename_i hq
      rw [if_neg hq] at h
      obtain ⟨R, hR, hk⟩ := h
      exact ⟨R, hR.same he, fun v H' hr hst hw => hK v H' hst hw (hk v H' hr hst hw)⟩
  · rename_i hw
    rw [if_neg hw] at h
    exact hK undef H hst hw0 h
/-- Some way in which an operation may end. -/
theorem mOp_some {k : Nat} {ok : Oper} {a : Act} {H : Heap} (hk : ops[k]? = some ok) {K : Act → Heap → Prop} (hst : St H) (hw0 : ∃ w, Sat C H w) (h : mOp P ops C St St1 qf ef k K a H) : ∃ v H', St H' ∧ (∃ w, Sat C H' w) ∧ K (a.put ok.dst v) H' := by
  unfold mOp at h
  simp only [hk] at h
  obtain ⟨w, hw⟩ := hw0
  split at h
  · split at h
    · obtain ⟨v, _, hk⟩ := h; exact ⟨v, H, hst, ⟨w, hw⟩, hk⟩
    · obtain ⟨R, hR, hk⟩ := h
      obtain ⟨v, H', hr, hst', hw'⟩ := hR.ends hw
      exact ⟨v, H', hst', hw', hk v H' hr hst' hw'⟩
  · exact ⟨undef, H, hst, ⟨w, hw⟩, h⟩
theorem mOp_quiet {j : Nat} {oj : Oper} {a : Act} {H : Heap} (hj : ops[j]? = some oj) (hq : qf j = true) {K : Act → Heap → Prop} (h : mOp P ops C St St1 qf ef j K a H) : ∃ v, QV P ops C (Sq St St1 ef j) oj v a ∧ K (a.put oj.dst v) H := by
  unfold mOp at h
  simp only [hj] at h
  split at h
  · rename_i hw
    try rw [if_pos hq] at h
    obtain ⟨v, hv, hk⟩ := h
    exact ⟨v, .inl ⟨hw, hv⟩, hk⟩
  · rename_i hw
    exact ⟨undef, .inr ⟨by simpa using hw, rfl⟩, h⟩
theorem QV.unique {o : Oper} {v u : Value} {a : Act} (h : QV P ops C St o v a) (h' : QV P ops C St o u a) {H : Heap} (hst : St H) (hw0 : ∃ w, Sat C H w) : v = u := by
  obtain ⟨w, hw⟩ := hw0
  rcases h with ⟨h1, h2⟩ | ⟨h1, rfl⟩ <;> rcases h' with ⟨h3, h4⟩ | ⟨h3, rfl⟩
  · exact h2.unique h4 hst hw
  · rw [h1] at h3; cases h3
  · rw [h1] at h3; cases h3
  · rfl
theorem QV.back {oi oj : Oper} {v u : Value} {a : Act} (hy : QV P ops C St oi v (a.put oj.dst u)) (hap : oj.apart ops oi = true) (hsi : ∀ cs b, oi.op ≠ .select cs b) : QV P ops C St oi v a := by
  obtain ⟨h1, _, _⟩ := Oper.apart_spec hap
  unfold QV at *
  rw [wanted_put oi a oj.dst u h1] at hy
  rcases hy with ⟨hw, hv⟩ | h
  · exact .inl ⟨hw, hv.same (execOp_put oi hsi a oj.dst u h1).symm⟩
  · exact .inr h
/-- An effect for which every other effect waits may be taken first. -/
theorem wpAnyM_firstE (hW : waitsE md ops qf ef = true) {Q : Act → Heap → Prop} {k : Nat} {ok : Oper} (hk : ops[k]? = some ok) (hqk : qf k = false) (hsel : ∀ (j : Nat) (o : Oper) cs b, ops[j]? = some o → o.op ≠ .select cs b) :
    ∀ (fuel : Nat) (listed : Array Bool) (a : Act) (H : Heap), St H → (∃ w, Sat C H w) → EInv qf ef ops.size listed →
      (∀ j oj, ops[j]? = some oj → j ≠ k → listed.getD j true = false → (∀ e ∈ oj.after, Region.binds md e = true → e.on ≠ k) → ok.apart ops oj = true) →
      (∀ j oj, ops[j]? = some oj → qf j = false → j ≠ k → listed.getD j true = false → ∃ e ∈ oj.after, Region.binds md e = true ∧ qf e.on = false ∧ listed.getD e.on false = false) →
      k ∈ Region.ready md ops listed → mOp P ops C St St1 qf ef k (wpAnyM P md ops C St St1 qf ef Q fuel (listed.setIfInBounds k true)) a H → wpAnyM P md ops C St St1 qf ef Q (fuel + 1) listed a H := by
  intro fuel
  induction fuel with
  | zero =>
    intro listed a H hst hw0 _ _ _ hr hh
    refine ⟨fun h => (by rw [h] at hr; cases hr), fun j hj => ?_⟩
    by_cases hjk : j = k
    · subst hjk; exact hh
    · have := ready_mono hj hjk
      obtain ⟨v, H', _, _, h2⟩ := mOp_some hk hst hw0 hh
      rw [h2.1] at this
      cases this
  | succ fuel ih =>
    intro listed a H hst hw0 hB hfree hwait hr hh
    refine ⟨fun h => (by rw [h] at hr; cases hr), fun j hj => ?_⟩
    by_cases hjk : j = k
    · subst hjk; exact hh
    · obtain ⟨hjun, oj, hoj, hall⟩ := mem_ready.1 hj
      have hqj : qf j = true := by
        cases hq : qf j with
        | true => rfl
        | false =>
          obtain ⟨e, he, hb, _, hu⟩ := hwait j oj hoj hq hjk hjun
          rw [hall e he hb] at hu; cases hu
      have hej : ef j = false := by
        cases he : ef j with
        | false => rfl
        | true =>
          have h1 := hB.all hW hr hqk (Array.getElem?_eq_some_iff.1 hoj).1 he
          rcases Nat.lt_or_ge j listed.size with h' | h'
          · simp [h'] at hjun h1; rw [hjun] at h1; cases h1
          · simp [Array.getElem?_eq_none h'] at hjun
      have hnot : ∀ e ∈ oj.after, Region.binds md e = true → e.on ≠ k := fun e he hb heq => by
        have h1 := hall e he hb
        have h0 := (mem_ready.1 hr).1
        rw [heq] at h1
        rcases Nat.lt_or_ge k listed.size with h' | h'
        · simp [h'] at h0 h1; rw [h0] at h1; cases h1
        · simp [Array.getElem?_eq_none h'] at h1
      have hap := hfree j oj hoj hjk hjun hnot
      have hsj := fun cs b => hsel j oj cs b hoj
      obtain ⟨v0, H0, hst0, hw00, h0⟩ := mOp_some hk hst hw0 hh
      obtain ⟨vj, hvj, _⟩ := mOp_quiet hoj hqj (h0.2 j (ready_mono hj hjk))
      have hva := hvj.back hap hsj
      refine hva.mOp hoj hqj ?_
      have hfree' : ∀ i oi, ops[i]? = some oi → i ≠ k → (listed.setIfInBounds j true).getD i true = false →
          (∀ e ∈ oi.after, Region.binds md e = true → e.on ≠ k) → ok.apart ops oi = true := fun i oi hi hik hun hno => by
        refine hfree i oi hi hik ?_ hno
        by_cases hij : j = i
        · subst hij; exact hjun
        · rw [getD_set_ne true hij] at hun; exact hun
      have hwait' : ∀ i oi, ops[i]? = some oi → qf i = false → i ≠ k → (listed.setIfInBounds j true).getD i true = false → ∃ e ∈ oi.after, Region.binds md e = true ∧ qf e.on = false ∧ (listed.setIfInBounds j true).getD e.on false = false := fun i oi hi hqi hik hun => by
        have hij : j ≠ i := fun e => by subst e; rw [hqj] at hqi; cases hqi
        rw [getD_set_ne true hij] at hun
        obtain ⟨e, he, hb, hqe, hu⟩ := hwait i oi hi hqi hik hun
        have hje : j ≠ e.on := fun h => by rw [← h, hqj] at hqe; cases hqe
        exact ⟨e, he, hb, hqe, by rw [getD_set_ne false hje]; exact hu⟩
      refine ih (listed.setIfInBounds j true) _ H hst hw0 (hB.step hW hj) hfree' hwait' (ready_mono hr (Ne.symm hjk)) ?_
      refine mOp_push hk hap (fun cs b => hsel k ok cs b hk) hst hw0 (fun u H' hst' hw' hK => ?_) hh
      obtain ⟨v', hv', hK'⟩ := mOp_quiet hoj hqj (hK.2 j (ready_mono hj hjk))
      have hvv : v' = vj := (hv'.back hap hsj).unique hva ⟨hst', fun h => by rw [hej] at h; cases h⟩ hw'
      subst hvv
      rw [Array.setIfInBounds_comm _ _ (Ne.symm hjk)] at hK'
      rw [Act.put_comm (a := a) (x := oj.dst) (y := ok.dst) v' u (fun d hd hd2 => (Oper.apart_spec hap).2.1 d hd2 hd)]
      exact hK'
end
def PlainAt (P : Program) (o : Oper) (a : Act) (w : World) (v : Value) : Prop := (execOp a.eval o).run P w = .ok (.value v) w ∨ ((execOp a.eval o).run P w = .ok .skip w ∧ v = undef)
section
variable {C : Ctx} {P : Program} {H : Heap} {n : Nat} {b : Bool}
theorem nextP.sound {o : Oper} {a : Act} {f : Fr} {K : Value → Prop} (ht : TR C.ds n f a) {s : Sem Next} (hex : execOp (ev n f) o = s) (h : SemQ C P H s (nextQ K)) : ∃ v, (∀ w, Sat C H w → PlainAt P o a w v) ∧ K v := by
  obtain ⟨nx, hrun, hk⟩ := SemQ.sound _ h
  have hq : ∀ w, Sat C H w → (execOp a.eval o).run P w = .ok nx w := fun w hs => by rw [ht.eval, hex]; exact hrun w hs
  cases nx <;> simp only [nextQ] at hk
  case value v => rw [forceV_eq] at hk; exact ⟨v, fun w hs => .inl (by rw [hq w hs]), hk⟩
  case skip => exact ⟨undef, fun w hs => .inr ⟨hq w hs, rfl⟩, hk⟩

theorem QOpW.plain {o : Oper} {a : Act} {f : Fr} {K : Value → Prop} (h : QOpW C P H b n f o K) (ht : TR C.ds n f a) (hnc : ∀ c x, o.op = .call c → c.callee = .value x → False) : ∃ v, (∀ w, Sat C H w → PlainAt P o a w v) ∧ K v := by
  unfold QOpW at h
  split at h
  · rename_i t x ho
    split at h
    · rename_i ad he
      obtain ⟨v, hv, hk⟩ := h
      rw [forceV_eq] at hk
      refine ⟨v, fun w hs => ?_, hk⟩
      have : (execOp a.eval o).run P w = .ok (.value v) w := by
        rw [ht.eval]
        unfold execOp; simp only [ho]; simp only [Instr.loadAt, he, Instr.sureAddr]
        simp [hv w hs]
      exact .inl this
    · exact h.elim
  · rename_i c x y ho
    split at h
    · rename_i b' hb
      have : ∀ w, (execOp a.eval o).run P w = .ok (.value (if b' then ev n f x else ev n f y)) w := by
        intro w; rw [ht.eval]; unfold execOp; simp only [ho]; simp [hb, asBool]
      cases b' <;> simp only [cond_true, cond_false, forceV_eq] at h
      · exact ⟨_, fun w hs => .inl (by rw [this]; rfl), h⟩
      · exact ⟨_, fun w hs => .inl (by rw [this]; rfl), h⟩
    · exact h.elim
  · rename_i op t x y t' ho
    cases hb : isArith op (ev n f x) with
    | true =>
      rw [hb] at h
      simp only [cond_true] at h
      obtain ⟨v, hv, hk⟩ := arithW.sound (P := P) (ρ := ev n f) ho hb h
      exact ⟨v, fun w hs => .inl (by rw [ht.eval, hv w]), hk⟩
    | false =>
      rw [hb] at h
      cases hc : isAggEq op (ev n f x) with
      | true =>
        rw [hc] at h
        obtain ⟨v, hv, hk⟩ := h
        rw [forceV_eq] at hk
        have : ∀ w, (execOp (ev n f) o).run P w = .ok (.value v) w := by
          intro w
          have hv := hv w
          simp only [Sem.run_bind] at hv
          unfold execOp; simp only [ho]; simp only [Sem.run_bind, hv, Result.andThen_ok, Sem.run_pure]
        exact ⟨v, fun w hs => .inl (by rw [ht.eval, this w]), hk⟩
      | false =>
        rw [hc] at h
        simp only [cond_false] at h
        cases hd : isStrAdd op (ev n f x) with
        | true =>
          rw [hd] at h
          simp only [cond_true] at h
          obtain ⟨v, hv, hk⟩ := strAddW.sound (P := P) (ρ := ev n f) ho hd h
          exact ⟨v, fun w hs => .inl (by rw [ht.eval, hv w]), hk⟩
        | false => rw [hd] at h; exact nextP.sound ht rfl h
  · rename_i src dst x ho
    cases hb : isByteConv P dst (ev n f x) with
    | true =>
      rw [hb] at h
      obtain ⟨v, hv, hk⟩ := h
      rw [forceV_eq] at hk
      have : ∀ w, Sat C H w → (execOp (ev n f) o).run P w = .ok (.value v) w := by
        intro w hs; unfold execOp; simp only [ho]; simp only [Sem.run_bind, hv w hs, Result.andThen_ok, Sem.run_pure]
      exact ⟨v, fun w hs => .inl (by rw [ht.eval, this w hs]), hk⟩
    | false =>
      rw [hb] at h
      simp only [cond_false] at h
      cases hd : isIntConv P src dst (ev n f x) with
      | true =>
        rw [hd] at h
        simp only [cond_true] at h
        have hsrc : ∃ d, P.underlying src = some d := by
          unfold isIntConv at hd
          split at hd
          · split at hd
            · rename_i d hd'; exact ⟨d, hd'⟩
            · cases hd
          · cases hd
        obtain ⟨v, hv, hk⟩ := intConvW.sound hsrc h
        have : ∀ w, (execOp (ev n f) o).run P w = .ok (.value v) w := by
          intro w; unfold execOp; simp only [ho]; simp only [Sem.run_bind, hv w, Result.andThen_ok, Sem.run_pure]
        exact ⟨v, fun w hs => .inl (by rw [ht.eval, this w]), hk⟩
      | false => rw [hd] at h; exact nextP.sound ht rfl h
  · rename_i t parts ho
    obtain ⟨v, hv, hk⟩ := buildW.sound h
    have : ∀ w, (execOp (ev n f) o).run P w = .ok (.value v) w := by
      intro w; unfold execOp; simp only [ho]; simp only [Sem.run_bind, map_parts, hv, Result.andThen_ok, Sem.run_pure]
    exact ⟨v, fun w hs => .inl (by rw [ht.eval, this w]), hk⟩
  · rename_i t m k ok ho
    obtain ⟨v, hv, hk⟩ := h
    rw [forceV_eq] at hk
    have : ∀ w, Sat C H w → (execOp (ev n f) o).run P w = .ok (.value v) w := by
      intro w hs; unfold execOp; simp only [ho]; simp only [Sem.run_bind, hv w hs, Result.andThen_ok, Sem.run_pure]
    exact ⟨v, fun w hs => .inl (by rw [ht.eval, this w hs]), hk⟩
  · rename_i t x lo hi mx ho
    obtain ⟨v, hv, hk⟩ := h
    rw [forceV_eq] at hk
    have : ∀ w, Sat C H w → (execOp (ev n f) o).run P w = .ok (.value v) w := by
      intro w hs; unfold execOp; simp only [ho]; simp only [Sem.run_bind, hv w hs, Result.andThen_ok, Sem.run_pure]
    exact ⟨v, fun w hs => .inl (by rw [ht.eval, this w hs]), hk⟩
  · rename_i t x ix ho
    obtain ⟨v, hv, hk⟩ := indexAddrW.sound h
    have : ∀ w, (execOp a.eval o).run P w = .ok (.value v) w := by
      intro w; rw [ht.eval]; unfold execOp; simp only [ho]; simp [hv w]
    exact ⟨v, fun w hs => .inl (by rw [this]), hk⟩
  · rename_i t x ix ho
    obtain ⟨v, hv, hk⟩ := indexW.sound h
    rw [forceV_eq] at hk
    have : ∀ w, (execOp a.eval o).run P w = .ok (.value v) w := by
      intro w; rw [ht.eval]; unfold execOp; simp only [ho]; simp [hv w]
    exact ⟨v, fun w hs => .inl (by rw [this]), hk⟩
  · rename_i c ho
    split at h
    · rename_i x hc
      split at h
      · exact (hnc c x ho hc).elim
      · exact h.elim
    · rename_i b' hc
      have hex : execOp (ev n f) o = builtin b' c.argTypes o.type (c.args.map fun | .const _ => true | _ => false) (c.args.toList.map (ev n f)).toArray := by
        unfold execOp; simp only [ho]
        simp only [resolve, hc]
        rw [map_args]; rfl
      cases hb : isAppendCopy b' with
      | true => rw [hb] at h; exact h.elim
      | false =>
        rw [hb] at h
        simp only [cond_false] at h
        cases hm : isMinMax b' (c.args.toList.map (ev n f)) with
        | true =>
          rw [hm] at h
          simp only [cond_true] at h
          obtain ⟨v, hv, hk⟩ := minMaxW.sound h
          exact ⟨v, fun w hs => .inl (by rw [ht.eval, hex, hv w]), hk⟩
        | false => rw [hm] at h; exact nextP.sound ht hex h
    · exact h.elim
  · exact nextP.sound ht rfl h

end
/-- An effect's contract, out of an operation's running. -/
theorem ER.of_op {C : Ctx} {P : Program} {n : Nat} {f : Fr} {o : Oper} {a : Act} {H : Heap} {St : Heap → Prop} {K : Value → Heap → Prop} (hn : 0 < n) (h : OpW C P false n f o (fun v H' => St H' ∧ K v H') (fun _ _ => False) H) (ht : TR C.ds n f a) : ER P C St o a H K := by
  intro w hs
  have h0 : OpW C P false n f { o with dst := some 0 } (fun v H' => St H' ∧ K v H') (fun _ _ => False) H := h
  have hsize : 0 < a.tmps.size := by rw [ht.tmps]; simpa using hn
  have hget : ∀ v, ((a.put (some 0) v).tmps.getD 0 undef) = v := by
    intro v
    show (a.tmps.setIfInBounds 0 v).getD 0 undef = v
    simp [Array.getD, hsize]
  have key := OpW.sound (o := { o with dst := some 0 }) (next := fun a' w' => ∃ H', (St H' ∧ K (a'.tmps.getD 0 undef) H') ∧ Sat C H' w' ∧ a'.defers = C.ds) (Q := fun _ _ _ => False) h0 ht hs
    (fun v H' w' hk hs' => ⟨H', by rw [show ({ o with dst := some 0 } : Oper).dst = some 0 from rfl, hget]; exact hk, hs', ht.defers⟩) (fun c H' w' he _ => he)
  unfold Oper.wp at key
  have he : execOp a.eval { o with dst := some 0 } = execOp a.eval o := rfl
  rw [he] at key
  generalize (execOp a.eval o).run P w = r at key ⊢
  cases r with
  | ok nx w' =>
    cases nx <;> simp only [Oper.upon] at key <;> simp only [eff]
    case value v => obtain ⟨H', ⟨h1, h2⟩, h3, _⟩ := key; rw [hget] at h2; exact ⟨H', h2, h1, h3⟩
    case skip => obtain ⟨H', ⟨h1, h2⟩, h3, _⟩ := key; rw [hget] at h2; exact ⟨H', h2, h1, h3⟩
    case enter g args =>
      refine key.mono fun e w'' hh => ?_
      cases e with
      | returned v => obtain ⟨H', ⟨h1, h2⟩, h3, _⟩ := hh; rw [hget] at h2; exact ⟨v, H', rfl, h2, h1, h3⟩
      | panicked c => exact hh.elim
      | outgrown => obtain ⟨_, _, hf⟩ := hh; exact hf.elim
    case defer df =>
      obtain ⟨H', _, _, h4⟩ := key
      have h5 : df :: a.defers = C.ds := h4
      rw [ht.defers] at h5
      exact absurd (congrArg List.length h5) (by simp)
    case row rw args => exact key.mono fun v w'' ⟨H', ⟨h1, h2⟩, h3, _⟩ => by rw [hget] at h2; exact ⟨H', h2, h1, h3⟩
  | halt y w' => cases y <;> simp only [Oper.upon] at key
/-- In the lexical order each effect waits for every one ahead of it, or for one behind that. -/
def chainE (md : Region.Mode) (ops : Array Oper) (qf : Nat → Bool) : Bool :=
  (List.range ops.size).all fun j => qf j || (List.range j).all fun k => qf k || match ops[j]? with
    | some oj => oj.after.any fun e => Region.binds md e && !qf e.on && Nat.ble k e.on
    | none => true
section
variable {P : Program} {md : Region.Mode} {ops : Array Oper} {C : Ctx} {St St1 : Heap → Prop} {qf ef : Nat → Bool}
theorem wpAnyM_lex (hW : waitsE md ops qf ef = true) {Q : Act → Heap → Prop} (hs : Region.noSelect ops = true) (hch : chainE md ops qf = true) : ∀ (l : List Oper) (k : Nat) (listed : Array Bool) (a : Act) (H : Heap), (∀ j, l[j]? = ops[k + j]?) → (∀ i, i < k → listed.getD i true = true) → (∀ i, k ≤ i → listed.getD i false = false) →
    Region.lexFrom md ops l.length k listed = true → EInv qf ef ops.size listed → St H → (∃ w, Sat C H w) → wpMix P ops C St St1 qf ef Q l k a H → wpAnyM P md ops C St St1 qf ef Q l.length listed a H
  | [], _, _, _, _, _, _, _, hB, _, _, _, h => ⟨by simpa [Region.lexFrom] using hB, h⟩
  | o :: l, k, listed, a, H, hl, hi1, hi2, hB, hEI, hst, hw0, h => by
    have h0 : ops[k]? = some o := by simpa using (hl 0).symm
    simp only [List.length_cons, Region.lexFrom, Bool.and_eq_true] at hB
    obtain ⟨⟨hr, hf⟩, hB'⟩ := hB
    have hr' : k ∈ Region.ready md ops listed := by simpa using hr
    have hl' : ∀ j, l[j]? = ops[k + 1 + j]? := fun j => by have := hl (j + 1); simpa [Nat.add_assoc, Nat.add_comm 1 j] using this
    have hi1' : ∀ i, i < k + 1 → (listed.setIfInBounds k true).getD i true = true := fun i hi => by
      by_cases hik : k = i
      · subst hik
        by_cases hks : k < listed.size
        · simp [Array.getD, hks]
        · simp [Array.getD, hks]
      · rw [getD_set_ne true hik]; exact hi1 i (by omega)
    have hi2' : ∀ i, k + 1 ≤ i → (listed.setIfInBounds k true).getD i false = false := fun i hi => by
      rw [getD_set_ne false (by omega)]; exact hi2 i (by omega)
    have ih := fun a' H' (hst' : St H') (hw' : ∃ w, Sat C H' w) (hm : wpMix P ops C St St1 qf ef Q l (k + 1) a' H') => wpAnyM_lex hW hs hch l (k + 1) (listed.setIfInBounds k true) a' H' hl' hi1' hi2' hB' (hEI.step hW hr') hst' hw' hm
    unfold wpMix at h
    cases hq : qf k with
    | true =>
      rw [hq] at h
      have hv : ∃ v, QV P ops C (Sq St St1 ef k) o v a ∧ wpMix P ops C St St1 qf ef Q l (k + 1) (a.put o.dst v) H := by
        split at h
        · rename_i hw; obtain ⟨v, h1, h2⟩ : ∃ v, QY P C (Sq St St1 ef k) o a v ∧ _ := by simpa using h
          exact ⟨v, .inl ⟨hw, h1⟩, h2⟩
        · rename_i hw; exact ⟨undef, .inr ⟨by simpa using hw, rfl⟩, h⟩
      obtain ⟨v, hv, hm⟩ := hv
      exact wpAnyM_firstQ h0 hq (Region.noSelect_spec hs) l.length listed a H (Region.free_spec h0 hf) hr' hv (ih _ _ hst hw0 hm)
    | false =>
      rw [hq] at h
      refine wpAnyM_firstE hW h0 hq (Region.noSelect_spec hs) l.length listed a H hst hw0 hEI (Region.free_spec h0 hf) ?_ hr' ?_
      · intro j oj hj hqj hjk hun
        have hkj : k < j := by
          rcases Nat.lt_trichotomy j k with h1 | h1 | h1
          · rw [hi1 j h1] at hun; cases hun
          · exact absurd h1 hjk
          · exact h1
        have hjs : j < ops.size := (Array.getElem?_eq_some_iff.1 hj).1
        unfold chainE at hch
        have h1 := List.all_eq_true.1 hch j (by simpa using hjs)
        rw [hqj, Bool.false_or] at h1
        have h2 := List.all_eq_true.1 h1 k (by simpa using hkj)
        rw [hq, Bool.false_or, hj] at h2
        obtain ⟨e, he, hb⟩ := Array.any_eq_true'.1 h2
        simp only [Bool.and_eq_true, Bool.not_eq_true'] at hb
        exact ⟨e, he, hb.1.1, hb.1.2, hi2 e.on (Nat.le_of_ble_eq_true hb.2)⟩
      · unfold mOp
        simp only [h0]
        split
        · rename_i hw
          rw [if_pos hw] at h
          obtain ⟨R, hR, hk⟩ : ∃ R, ER P C St o a H R ∧ _ := by simpa using h
          rw [if_neg (by simp [hq])]
          exact ⟨R, hR, fun v H' hr hst' hw' => ih _ _ hst' hw' (hk v H' hr hst' hw'.choose hw'.choose_spec)⟩
        · rename_i hw
          rw [if_neg hw] at h
          exact ih _ _ hst hw0 h
end
/-- The operations that are no effects. -/
def qfl (es : List Nat) (k : Nat) : Bool := !es.contains k
def callFree (ops : Array Oper) (qf : Nat → Bool) : Bool :=
  (List.range ops.size).all fun k => !qf k || match ops[k]? with
    | some o => match o.op with
      | .call c => match c.callee with | .value _ => false | _ => true
      | _ => true
    | none => true
section
variable (C : Ctx) (P : Program) (H0 H1 : Heap) (qf ef : Nat → Bool) (n : Nat)
def MListW (ops : List Oper) (Q : Fr → Heap → Prop) (l : List Oper) : Nat → Fr → Heap → Prop :=
  @List.rec Oper (fun _ => Nat → Fr → Heap → Prop) (fun _ f H => Q f H)
    (fun o _ ih k f H => guardW n ops f o.guard (fun f => cond (qf k) (cond (ef k) (QOpW C P H1 true n f o fun v => putK f o.dst v fun f' => ih (k + 1) f' H) (QOpW C P H0 true n f o fun v => putK f o.dst v fun f' => ih (k + 1) f' H)) (OpW C P false n f o (fun v H' => Sub H' H0 ∧ putK f o.dst v fun f' => ih (k + 1) f' H') (fun _ _ => False) H))
      (fun f => putK f o.dst undef fun f' => ih (k + 1) f' H)) l
end
section
variable {C : Ctx} {P : Program} {H0 H1 : Heap} {qf ef : Nat → Bool} {n : Nat}
theorem MListW.sound {ops : Array Oper} {Q : Fr → Heap → Prop} (hn : 0 < n) (hnc : callFree ops qf = true) : ∀ (l : List Oper) (k : Nat) {f : Fr} {H : Heap} {a : Act}, (∀ j, l[j]? = ops[k + j]?) → MListW C P H0 H1 qf ef n ops.toList Q l k f H → TR C.ds n f a →
    wpMix P ops C (fun H => Sub H H0) (fun H => Sub H H1) qf ef (fun a H => ∃ f, Q f H ∧ TR C.ds n f a) l k a H
  | [], _, f, H, a, _, h, ht => ⟨f, h, ht⟩
  | o :: l, k, f, H, a, hl, h, ht => by
    have h0 : ops[k]? = some o := by simpa using (hl 0).symm
    have hl' : ∀ j, l[j]? = ops[k + 1 + j]? := fun j => by have := hl (j + 1); simpa [Nat.add_assoc, Nat.add_comm 1 j] using this
    replace h : guardW n ops.toList f o.guard (fun f => cond (qf k) (cond (ef k) (QOpW C P H1 true n f o fun v => putK f o.dst v fun f' => MListW C P H0 H1 qf ef n ops.toList Q l (k + 1) f' H) (QOpW C P H0 true n f o fun v => putK f o.dst v fun f' => MListW C P H0 H1 qf ef n ops.toList Q l (k + 1) f' H)) (OpW C P false n f o (fun v H' => Sub H' H0 ∧ putK f o.dst v fun f' => MListW C P H0 H1 qf ef n ops.toList Q l (k + 1) f' H') (fun _ _ => False) H))
      (fun f => putK f o.dst undef fun f' => MListW C P H0 H1 qf ef n ops.toList Q l (k + 1) f' H) := h
    simp only [putK_eq] at h
    unfold wpMix
    rcases guardW.sound (ops := ops) ht h with ⟨hw, h⟩ | ⟨hw, h⟩
    · rw [if_pos hw]
      cases hq : qf k with
      | true =>
        rw [hq] at h
        simp only [cond_true] at h
        have hcf : ∀ c x, o.op = .call c → c.callee = .value x → False := fun c x ho hc => by
          have hks : k < ops.size := (Array.getElem?_eq_some_iff.1 h0).1
          have h1 := List.all_eq_true.1 hnc k (by simpa using hks)
          simp only [hq, h0, ho, hc] at h1
          simp at h1
        simp only [if_true]
        cases he : ef k with
        | true =>
          rw [he] at h
          simp only [cond_true] at h
          obtain ⟨v, hv, hk⟩ := QOpW.plain h ht hcf
          exact ⟨v, fun w ⟨H2, ⟨_, hs3⟩, hs2⟩ => hv w ((hs3 he).sat hs2), MListW.sound hn hnc l (k + 1) hl' hk (ht.put o.dst v)⟩
        | false =>
          rw [he] at h
          simp only [cond_false] at h
          obtain ⟨v, hv, hk⟩ := QOpW.plain h ht hcf
          exact ⟨v, fun w ⟨H2, ⟨hs1, _⟩, hs2⟩ => hv w (hs1.sat hs2), MListW.sound hn hnc l (k + 1) hl' hk (ht.put o.dst v)⟩
      | false =>
        rw [hq] at h
        simp only [cond_false] at h
        rw [if_neg (by simp)]
        exact ⟨_, ER.of_op hn h ht, fun v H' hk hst hw => MListW.sound hn hnc l (k + 1) hl' hk (ht.put o.dst v)⟩
    · rw [if_neg (by simp [hw])]
      exact MListW.sound hn hnc l (k + 1) hl' h (ht.put o.dst undef)
def efl (es1 : List Nat) (k : Nat) : Bool := es1.contains k
/-- A region that draws its order, with effects (their places: es), quiet operations that read what lies in H0, and early ones (es1), ahead of every effect, that read what lies in H1. -/
theorem DrawI.early (es es1 : List Nat) (H0 H1 : Heap) {id : Nat} {ops : Array Oper} {Q : Exit → Fr → Heap → Prop} {f : Fr} {H : Heap} (hn : Nat.blt 0 n = true) (hm : P.follows .mixedOrders = true) (hB : Region.lexB .any ops = true)
    (hch : chainE .any ops (qfl es) = true) (hnc : callFree ops (qfl es) = true) (hW : waitsE .any ops (qfl es) (efl es1) = true) (hlt : (es1.all fun i => Nat.blt i ops.size) = true) (h0 : Sub H H0) (h1 : Sub H H1)
    (h : MListW C P H0 H1 (qfl es) (efl es1) n ops.toList (Q .normal) ops.toList 0 f H) (hd : noDefer ops = true := by kernel_rfl) : DrawI C P n id ops Q f H :=
  ⟨hm, hd, fun a w ht hs' => by
    simp only [Region.lexB, Bool.and_eq_true] at hB
    have hrep : ∀ k, (Array.replicate ops.size false).getD k false = false := fun k => by
      by_cases hk : k < ops.size <;> simp [Array.getD, hk]
    have hEI : EInv (qfl es) (efl es1) ops.size (Array.replicate ops.size false) := fun k _ hk => by rw [hrep] at hk; cases hk
    refine wpAnyM_sound (St := fun H => Sub H H0) (St1 := fun H => Sub H H1) (qf := qfl es) (ef := efl es1) hW (fun i hi => ?_) (Q := fun a H => ∃ f, Q .normal f H ∧ TR C.ds n f a) (fun a' H' w' hs' ⟨f', hq, ht'⟩ => ⟨by simp, f', H', hq, ht', hs'⟩) _ _ _ H _ h0 hEI (fun _ _ _ => h1) hs' ?_
    · have := List.all_eq_true.1 hlt i (by simpa [efl] using hi)
      simpa [Nat.blt_eq] using this
    have := wpAnyM_lex (P := P) (md := .any) (C := C) (St := fun H => Sub H H0) (St1 := fun H => Sub H H1) hW hB.1 hch ops.toList 0 (Array.replicate ops.size false) a H (by simp) (fun i hi => absurd hi (by omega)) (fun i _ => hrep i) (by simpa using hB.2) hEI h0 ⟨_, hs'⟩
      (MListW.sound (by simpa [Nat.blt_eq] using hn) hnc ops.toList 0 (by simp) h ht)
    simpa using this⟩
theorem waitsE_nil {md : Region.Mode} {ops : Array Oper} {qf : Nat → Bool} : waitsE md ops qf (efl []) = true := by
  unfold waitsE
  refine List.all_eq_true.2 fun k _ => ?_
  cases qf k <;> cases ops[k]? <;> simp [efl]
/-- A region that draws its order, with effects (their places: es) and quiet operations that read what lies in H0. -/
theorem DrawI.mixed (es : List Nat) (H0 : Heap) {id : Nat} {ops : Array Oper} {Q : Exit → Fr → Heap → Prop} {f : Fr} {H : Heap} (hn : Nat.blt 0 n = true) (hm : P.follows .mixedOrders = true) (hB : Region.lexB .any ops = true)
    (hch : chainE .any ops (qfl es) = true) (hnc : callFree ops (qfl es) = true) (h0 : Sub H H0) (h : MListW C P H0 H0 (qfl es) (efl []) n ops.toList (Q .normal) ops.toList 0 f H) (hd : noDefer ops = true := by kernel_rfl) : DrawI C P n id ops Q f H :=
  DrawI.early es [] H0 H0 hn hm hB hch hnc waitsE_nil rfl h0 h0 h hd
end
end SL

/- Texts turned to bytes; stores into such a row, which bears a mark behind its end. -/
namespace SL
open Go Go.RowKit Go.Lib
section
variable {C : Ctx} {P : Program} {H H' : Heap} {K : Value → Heap → Prop}
/-- []byte(text): a new row, of any capacity. -/
theorem DoV.string_bytes {src dst e : TypeId} {s : ByteArray} {u : TypeDesc} (hs : P.underlying src = some u) (hd : P.underlying dst = some (.slice e)) (he : P.underlying e = some (.int .u8))
    (k : ∀ b m, K (.slice (some ⟨b, 0, none⟩) s.size (s.size + m)) (.cells b (bytesV (txt s ++ List.replicate m 0)) e (s.size + m, s.size + m + 1) :: H)) : DoV C P (convert src dst (.string s)) H K :=
  ⟨fun v H' => ∃ b m, v = .slice (some ⟨b, 0, none⟩) s.size (s.size + m) ∧ H' = .cells b (bytesV (txt s ++ List.replicate m 0)) e (s.size + m, s.size + m + 1) :: H, fun w hw => by
    have hr := _root_.Go.Lib.run_convert_string_bytes (P := P) w src dst e s hs hd he
    obtain ⟨m, hm⟩ := Nat.exists_eq_add_of_le (grownCap_ge w s.size 0 e)
    refine ⟨_, _, _, hr, ⟨w.heap.size, m, by rw [hm], rfl⟩, ?_⟩
    have hc : bytesCells w e s = (bytesV (txt s ++ List.replicate m 0)).toArray := by
      apply Array.ext'
      simp [bytesCells, hm, txt, Function.comp_def]
    have hn : (bytesCells w e s).size = s.size + m := by rw [hc]; simp [txt_length]
    have hnew := bytesWorld_at_new w e s
    rw [hn, hc] at hnew
    have hN := (hw.drew (w.drawn + 1)).new (.cells (bytesV (txt s ++ List.replicate m 0)).toArray e (s.size + m, s.size + m + 1)) (.cells w.heap.size (bytesV (txt s ++ List.replicate m 0)) e (s.size + m, s.size + m + 1)) rfl (by simp [HObj.sat])
    have e1 : bytesWorld w e s = { w with drawn := w.drawn + 1, heap := w.heap.push (.cells (bytesV (txt s ++ List.replicate m 0)).toArray e (s.size + m, s.size + m + 1)) } := by
      have h3 : (bytesWorld w e s).heap = w.heap.push (.cells (bytesV (txt s ++ List.replicate m 0)).toArray e (s.size + m, s.size + m + 1)) := by
        apply Array.ext_getElem?
        intro j
        rcases Nat.lt_trichotomy j w.heap.size with h | h | h
        · rw [bytesWorld_at_old w e s j h, Array.getElem?_push, if_neg (by omega)]
        · rw [h, hnew, Array.getElem?_push, if_pos rfl]
        · rw [Array.getElem?_eq_none (by rw [bytesWorld_size]; omega), Array.getElem?_eq_none (by simp; omega)]
      rw [← h3]; rfl
    rw [e1]; exact hN, fun v H' ⟨b, m, h1, h2⟩ => by subst h1; subst h2; exact k b m⟩
/-- A store of one cell into a row that bears a mark behind its end. -/
theorem run_storeVar_mark {w : World} {b off : Nat} {t T : TypeId} {v : Value} {cur : Array Value} {n : Nat} (hg : w.heap[b]? = some (.cells cur T (n, n + 1))) (hn : cur.size = n) (hz : P.cellsOf t = 1) (hv : v.cells = #[v]) (hi : (P.info? t).isSome) (hle : off < cur.size) (h1 : v.oneCell' = true) :
    (storeVar t ⟨b, off, none⟩ v).run P w = .ok () (w.setRow b (putAt cur.toList off [v]).toArray) := by
  obtain ⟨i, hi⟩ := Option.isSome_iff_exists.1 hi
  have hz' : i.size = 1 := by simpa [Program.cellsOf, hi] using hz
  have hcell : w.cell? ⟨b, off, none⟩ = some cur[off] := by simp [World.cell?, hg, hle]
  have hfro : w.frozen? ⟨b, off, none⟩ = false := by simp [World.frozen?, hg]; omega
  have hadd : (⟨b, off, none⟩ : Addr).add 0 = ⟨b, off, none⟩ := rfl
  have hset : (cur.setIfInBounds off v) = (putAt cur.toList off [v]).toArray := by
    apply Array.ext'
    simp only [Array.toList_setIfInBounds, putAt, List.length_singleton]
    rw [List.set_eq_take_append_cons_drop, if_pos (by simpa using hle)]
    simp
  have hst : (store ⟨b, off, none⟩ v).run P w = .ok () (w.setRow b (putAt cur.toList off [v]).toArray) := by
    rw [run_store P w _ v _ h1, hcell]
    simp [hfro, setCell_eq_setRow w b off cur T (n, n + 1) v hg, hset]
  simp [storeVar, Go.sizeOf, typeInfo, hi, hz', hv, storeCells, hadd, hst]
theorem StoreV.mark {b off n : Nat} {l : List Value} {t T : TypeId} {v : Value} {KH : Heap → Prop} [hf : Find H b l T (n, n + 1)] (hz : P.cellsOf t = 1) (hv : v.cells = #[v]) (hi : (P.info? t).isSome) (hn : l.length = n) (hle : off < l.length) (h1 : v.oneCell' = true)
    [hp : Put H b (putAt l off [v]) H'] (k : KH H') : StoreV C P t ⟨b, off, none⟩ v H KH :=
  ⟨H', fun w hs => by
    obtain ⟨A, l2, T2, fr2, B, rfl, rfl⟩ := hp.out
    have g1 := hs.objs _ hf.mem
    have g2 : w.heap[b]? = some (.cells l2.toArray T2 fr2) := hs.objs (.cells b l2 T2 fr2) (by simp)
    simp only [HObj.sat] at g1
    rw [g1] at g2
    simp only [Option.some.injEq, Obj.cells.injEq] at g2
    obtain ⟨hl, rfl, rfl⟩ := g2
    obtain rfl : l = l2 := by simpa using congrArg Array.toList hl
    refine ⟨_, run_storeVar_mark g1 (by simpa using hn) hz hv hi (by simpa using hle) h1, ?_⟩
    have hg : w.heap[b]? = some (.cells l.toArray T (n, n + 1)) := g1
    exact hs.write (x := .cells b l T (n, n + 1)) (y := .cells b (putAt l off [v]) T (n, n + 1)) rfl rfl rfl (by simp [World.setRow]) (fun r _ hr => setRow_other w b r _ (by simpa [HObj.blks] using hr)) (setRow_heap w b _ _ _ _ hg) (by simp [HObj.blks]) (fun r hr => .inl hr), k⟩
/-- A part of an array, from a place on. -/
theorem DoV.arr_l {t : TypeId} {b n : Nat} {i : TypeInfo} {kl : IntKind} {l : Int} (ht : P.underlying t = some (.array (P.arrayLen t) (P.elem t))) (hn : P.arrayLen t = n) (hi : P.info? (P.elem t) = some i) (hs : i.size = 1) (h0 : 0 ≤ l) (h1 : l < n)
    (k : K (.slice (some ⟨b, l.toNat, none⟩) (n - l.toNat) (n - l.toNat)) H) : DoV C P (Instr.sliceAt t (.pointer (some ⟨b, 0, none⟩)) (some (.int kl l)) none none) H K := DoV.of_quiet (fun w => by
  rw [run_sliceAt_array_l (P := P) w t ⟨b, 0, none⟩ ht kl l h0 (by omega)]
  have hsz : (Go.sizeOf (P.elem t)).run P w = .ok 1 w := by simp [Go.sizeOf, typeInfo, hi, hs]
  rw [hsz, hn]
  have hne : ¬ n = l.toNat := by omega
  simp [Result.andThen, slicedAt, hne, Addr_add]) k
theorem QuietV.str_h {KV : Value → Prop} {t : TypeId} {s : ByteArray} {kh : IntKind} {h : Int} (ht : P.underlying t = some .string) (h0 : 0 ≤ h) (h2 : h ≤ s.size) (k : KV (.string (s.extract 0 h.toNat))) :
    QuietV C P H (Instr.sliceAt t (.string s) none (some (.int kh h)) none) KV := ⟨_, fun w _ => by
      rw [run_sliceAt_string (P := P) w t _ _ _ _ ht]; exact run_slice_string_h (P := P) w t s ht kh h h0 h2, k⟩
theorem QuietV.str_l {KV : Value → Prop} {t : TypeId} {s : ByteArray} {kl : IntKind} {l : Int} (ht : P.underlying t = some .string) (h0 : 0 ≤ l) (h1 : l ≤ s.size) (k : KV (.string (s.extract l.toNat s.size))) :
    QuietV C P H (Instr.sliceAt t (.string s) (some (.int kl l)) none none) KV := ⟨_, fun w _ => by
      rw [run_sliceAt_string (P := P) w t _ _ _ _ ht]; exact run_slice_string_l (P := P) w t s ht kl l h0 h1, k⟩
theorem QuietV.str_lh {KV : Value → Prop} {t : TypeId} {s : ByteArray} {kl kh : IntKind} {l h : Int} (ht : P.underlying t = some .string) (h0 : 0 ≤ l) (h1 : l ≤ h) (h2 : h ≤ s.size) (k : KV (.string (s.extract l.toNat h.toNat))) :
    QuietV C P H (Instr.sliceAt t (.string s) (some (.int kl l)) (some (.int kh h)) none) KV := ⟨_, fun w _ => by
      rw [run_sliceAt_string (P := P) w t _ _ _ _ ht]; exact run_slice_string (P := P) w t s kl kh l h ht h0 h1 (by omega), k⟩
theorem QuietV.bytes_string {KV : Value → Prop} {src dst e : TypeId} {b o len cap : Nat} {l : List Nat} (hs : P.underlying src = some (.slice e)) (he : P.underlying e = some (.int .u8)) (hd : P.underlying dst = some .string) (hl : l.length = len)
    (hrow : Row C H ⟨b, o, none⟩ (bytesV l)) (k : KV (.string (strB l))) : QuietV C P H (convert src dst (.slice (some ⟨b, o, none⟩) len cap)) KV := ⟨_, fun w hw => run_bytes_string hs he hd hl (hrow w hw), k⟩
theorem QuietV.nil_string {KV : Value → Prop} {src dst e : TypeId} {len cap : Nat} (hs : P.underlying src = some (.slice e)) (he : P.underlying e = some (.int .u8)) (hd : P.underlying dst = some .string) (k : KV (.string ByteArray.empty)) :
    QuietV C P H (convert src dst (.slice none len cap)) KV := ⟨_, fun w _ => run_convert_bytes_nil w src e hs he len cap dst hd, k⟩
/-- append(bytes, text...), onto an owned row or nil. -/
theorem append_str_at {w : World} {t u ty e : TypeId} {i : TypeInfo} {g : Option (Nat × Nat)} {n : Nat} {l : List Value} {s : ByteArray} {v' : Value} {w' : World} (ht : P.underlying t = some (.slice e)) (hu : P.underlying u = some .string) (hi : P.info? e = some i) (hz : i.zero = some (.int .u8 0))
    (hs1 : i.size = 1) (hby : i.bytes = 1) (hown : w.ownsRow 0 e 1 (svOf g n) n l) (hb : n + s.size ≤ 140737488355328) (hr : (Builtin.append_ #[t, u] ty #[svOf g n, .string s]).run P w = .ok v' w') (hnil : v' = .slice none 0 0 ↔ svOf g n = .slice none 0 0 ∧ s.size = 0) :
    v'.ownBlock = (svOf g n).ownBlock ∨ v'.ownBlock = some w.heap.size := by
  cases g with
  | none =>
    have hn : n = 0 := by
      rcases hown.2 with ⟨_, h⟩ | ⟨_, _, _, h, _⟩
      · exact h
      · cases h
    subst hn
    by_cases hm : s.size = 0
    · rw [hnil.2 ⟨rfl, hm⟩]; exact .inl rfl
    · have h2 := run_append_nil_string (P := P) w t u ty e i (.int .u8 0) ht hu hi hz s (by omega) (by omega) (by rw [hby]; omega)
      have h3 : (Builtin.append_ #[t, u] ty #[.slice none 0 0, .string s]).run P w = .ok v' w' := hr
      rw [h2] at h3
      injection h3 with h4 _
      rw [← h4]; exact .inr rfl
  | some p =>
    rcases hown.2 with ⟨h, _⟩ | ⟨b, cap, cur, h, _, hg, hnc, hcm, hcs, htake⟩
    · cases h
    · have hxl : l.length = n := by simpa using hown.1
      have hcs' : cur.size = cap := by simpa using hcs
      have h3 : (Builtin.append_ #[t, u] ty #[svOf (some p) n, .string s]).run P w = .ok v' w' := hr
      rw [h] at h3
      by_cases hroom : n + s.size ≤ cap
      · have h2 := run_append_room_string (P := P) w t u ty e i ht hu hi hs1 b n cap cur hg s hroom (by omega)
        rw [h2] at h3
        injection h3 with h4 _
        rw [← h4, h]; exact .inl rfl
      · have holds : ∀ j x, l[j]? = some x → w.cell? ((⟨b, 0, none⟩ : Addr).add j) = some x := World.ownsRow.cells (w := w) hown (g := b) (by rw [h]; rfl)
        have h2 := run_append_grow_string (P := P) w t u ty e i (.int .u8 0) ht hu hi hz ⟨b, 0, none⟩ n cap l (by rw [hs1]; simpa using hxl) holds s (by omega) (by omega) (by rw [hby]; exact growslice_fits (by omega) (by omega))
        rw [h2] at h3
        injection h3 with h4 _
        rw [← h4]; exact .inr rfl
theorem strCells_txt (s : ByteArray) : strCells s = bytesV (txt s) := by simp [strCells, txt, Function.comp_def]
theorem BuiltV.append_str {n : Nat} {l : List Value} {G : HObj → Heap} {T t u ty : TypeId} {cs : Array Bool} {i : TypeInfo} {g : Option (Nat × Nat)} {s : ByteArray} [ho : OwnHole H (svOf g n) n T 1 l G] (ht : P.underlying t = some (.slice T)) (hu : P.underlying u = some .string) (hi : P.info? T = some i) (hz : i.zero = some (.int .u8 0))
    (hs1 : i.size = 1) (hby : i.bytes = 1) (hmax : n + s.size ≤ 140737488355328)
    (k : ∀ g', (g' = none ↔ g = none ∧ s.size = 0) → K (svOf g' (n + s.size)) (G (.own (svOf g' (n + s.size)) (n + s.size) T 1 (l ++ bytesV (txt s))))) :
    BuiltV C P .append #[t, u] ty cs [svOf g n, .string s] H K := by
  obtain ⟨A, B, hH, hG⟩ := ho.out
  refine ⟨fun v H' => ∃ g', (g' = none ↔ g = none ∧ s.size = 0) ∧ v = svOf g' (n + s.size) ∧ H' = G (.own (svOf g' (n + s.size)) (n + s.size) T 1 (l ++ bytesV (txt s))), fun w hs => ?_, fun v H' ⟨g', h1, hv, hH'⟩ => by subst hv; subst hH'; exact k g' h1⟩
  have hown : w.ownsRow 0 T 1 (svOf g n) n l := hs.objs (.own (svOf g n) n T 1 l) (by rw [hH]; simp)
  obtain ⟨v', w', hr, hown', hg, hnil⟩ := run_append_own_string (P := P) w 0 t u ty T i ht hu hi hz hs1 hby (svOf g n) n l hown s (by simp only [maxLen]; omega) hmax (Nat.zero_le _)
  have hat := append_str_at ht hu hi hz hs1 hby hown hmax hr hnil
  rw [strCells_txt] at hown'
  rw [hH] at hs
  obtain ⟨g', hg', hv', hs'⟩ := append_take hs hown' hg hnil hat
  subst hv'
  refine ⟨svOf g' (n + s.size), w', _, ?_, ⟨g', hg', rfl, rfl⟩, by rw [hG]; exact hs'⟩
  show (builtin .append #[t, u] ty cs #[svOf g n, .string s]).run P w = _
  simp only [builtin, Sem.run_bind]
  rw [hr]; rfl
/-- make([]T, 0, n), T of one cell: a row of one's own, nothing in it. -/
theorem DoV.makeCap {t e : TypeId} {i : TypeInfo} {z : Value} {kl kc : IntKind} {n : Int} (ht : P.underlying t = some (.slice e)) (hi : P.info? e = some i) (hz : i.zero = some z) (hsz : i.size = 1) (hz1 : z.cells = #[z]) (h0 : 0 ≤ n)
    (hb : (i.bytes : Int) * n ≤ 281474976710656) (hn : n ≤ 16777216) (k : ∀ b, K (svOf (some (b, n.toNat)) 0) (.own (svOf (some (b, n.toNat)) 0) 0 e 1 [] :: H)) :
    DoV C P (Instr.makeSlice t (.int kl 0) (.int kc n)) H K :=
  ⟨fun v H' => ∃ b, v = svOf (some (b, n.toNat)) 0 ∧ H' = .own (svOf (some (b, n.toNat)) 0) 0 e 1 [] :: H, fun w hs => by
    have := run_makeSlice (P := P) w t e i z ht hi hz kl kc 0 n (by omega) h0 (by rw [hsz]; omega) hb (by omega)
    refine ⟨_, _, _, this, ⟨w.heap.size, rfl, rfl⟩, hs.new _ (.own (svOf (some (w.heap.size, n.toNat)) 0) 0 e 1 []) rfl ?_⟩
    have e1 : madeCells z.cells (n.toNat * i.size) = (List.replicate n.toNat z).toArray := by
      rw [hsz, Nat.mul_one, hz1]
      apply Array.ext
      · simp [madeCells]
      · intro j h1 h2; simp [madeCells, Nat.mod_one]
    refine ⟨rfl, .inr ⟨w.heap.size, n.toNat, (List.replicate n.toNat z).toArray, rfl, Nat.zero_le _, ?_, Nat.zero_le _, by simp only [maxLen]; omega, by simp, by simp⟩⟩
    rw [e1]; simp,
   fun v H' ⟨b, h1, h2⟩ => by subst h1; subst h2; exact k b⟩
/-- unsafe.SliceData and unsafe.String over a row of one's own: the row is given up. -/
theorem BuiltV.sliceData {ts : Array TypeId} {t : TypeId} {cs : Array Bool} {b n c T sz : Nat} {l : List Value} [hf : FindOwn H b n c T sz l] (h0 : n ≠ 0) (k : K (.pointer (some ⟨b, 0, none⟩)) H) :
    BuiltV C P .unsafeSliceData ts t cs [.slice (some ⟨b, 0, none⟩) n c] H K :=
  ⟨fun v H' => v = .pointer (some ⟨b, 0, none⟩) ∧ H' = H, fun w hs => by
    have hcap := own_cap (hs.objs _ hf.mem)
    refine ⟨_, w, H, ?_, ⟨rfl, rfl⟩, hs⟩
    show (builtin .unsafeSliceData ts t cs #[.slice (some ⟨b, 0, none⟩) n c]).run P w = _
    simp only [builtin, Sem.run_bind]
    rw [run_unsafeSliceData_row _ ts t _ _ _ (by omega)]; rfl, fun v H' ⟨h1, h2⟩ => by subst h1; subst h2; exact k⟩
theorem BuiltV.sliceData_nil {ts : Array TypeId} {t : TypeId} {cs : Array Bool} {n c : Nat} (k : K (.pointer none) H) : BuiltV C P .unsafeSliceData ts t cs [.slice none n c] H K :=
  ⟨fun v H' => v = .pointer none ∧ H' = H, fun w hs => by
    refine ⟨_, w, H, ?_, ⟨rfl, rfl⟩, hs⟩
    show (builtin .unsafeSliceData ts t cs #[.slice none n c]).run P w = _
    simp only [builtin, Sem.run_bind]
    rw [run_unsafeSliceData_nil]; rfl, fun v H' ⟨h1, h2⟩ => by subst h1; subst h2; exact k⟩
theorem BuiltV.unsafeString_none {pt it t : TypeId} {cs : Array Bool} {q : Option Addr} (k : K (.string .empty) H) : BuiltV C P .unsafeString #[pt, it] t cs [.pointer q, .int .i64 0] H K :=
  ⟨fun v H' => v = .string .empty ∧ H' = H, fun w hs => by
    refine ⟨_, w, H, ?_, ⟨rfl, rfl⟩, hs⟩
    show (builtin .unsafeString #[pt, it] t cs #[.pointer q, .int .i64 0]).run P w = _
    simp only [builtin, Sem.run_bind]
    rw [run_unsafeString_none]; rfl, fun v H' ⟨h1, h2⟩ => by subst h1; subst h2; exact k⟩
theorem freeze_old (w : World) (b n r : Nat) (h : r ≠ b) : (w.freeze ⟨b, 0, none⟩ n).heap[r]? = w.heap[r]? := by
  unfold World.freeze
  split
  · rfl
  · rw [Array.getElem?_modify, if_neg (Ne.symm h)]
theorem BuiltV.unsafeString {pt it t T : TypeId} {cs : Array Bool} {b n c : Nat} {L : List Nat} {G : HObj → Heap} [ho : OwnHole H (svOf (some (b, c)) n) n T 1 (bytesV L) G] (hp : P.underlying pt = some (.pointer T)) (hc : P.cellsOf T = 1) (h0 : n ≠ 0) (hL : L.length = n) (hlt : ∀ x ∈ L, x < 256)
    (k : K (.string (strB L)) (G (.own (.slice none 0 0) 0 T 1 []))) : BuiltV C P .unsafeString #[pt, it] t cs [.pointer (some ⟨b, 0, none⟩), .int .i64 (n : Int)] H K := by
  obtain ⟨A, B, hH, hG⟩ := ho.out
  refine ⟨fun v H' => v = .string (strB L) ∧ H' = G (.own (.slice none 0 0) 0 T 1 []), fun w hs => ?_, fun v H' ⟨h1, h2⟩ => by subst h1; subst h2; exact k⟩
  rw [hH] at hs
  have hown : w.ownsRow 0 T 1 (svOf (some (b, c)) n) n (bytesV L) := hs.objs (.own (svOf (some (b, c)) n) n T 1 (bytesV L)) (by simp)
  obtain ⟨cur, hg, hnc, hcm, hcs⟩ : ∃ cur : Array Value, w.heap[b]? = some (.cells cur T (0, 0)) ∧ n ≤ c ∧ c ≤ maxLen ∧ cur.size = c * 1 := by
    rcases hown.2 with ⟨h, _⟩ | ⟨g, cap, cur, h, _, hg, hnc, hcm, hcs, _⟩
    · cases h
    · cases h; exact ⟨cur, hg, hnc, hcm, hcs⟩
  have hsh : w.shape? b = some (T, cur.size) := by simp [World.shape?, hg]
  have hr := run_unsafeString_row (P := P) w pt it t T hp hc b cur.size hsh (L.map UInt8.ofNat) (by intro e; rw [List.map_eq_nil_iff] at e; rw [e] at hL; exact h0 hL.symm) (by simp; omega) (by unfold maxLen at hcm; simp; omega) (by
    intro j x hx
    rw [List.getElem?_map] at hx
    obtain ⟨y, hy, rfl⟩ := Option.map_eq_some_iff.1 hx
    have h1 := World.ownsRow.cells (w := w) hown (g := b) rfl j (.int .u8 (y : Int)) (by rw [List.getElem?_map, hy]; rfl)
    have hy2 := hlt y (List.mem_of_getElem? hy)
    have e : ((UInt8.ofNat y).toNat : Int) = (y : Int) := by rw [UInt8.toNat_ofNat']; omega
    rw [e]; exact h1)
  rw [List.length_map, hL] at hr
  refine ⟨.string (strB L), w.freeze ⟨b, 0, none⟩ n, _, ?_, ⟨rfl, rfl⟩, ?_⟩
  · show (builtin .unsafeString #[pt, it] t cs #[.pointer (some ⟨b, 0, none⟩), .int .i64 (n : Int)]).run P w = _
    simp only [builtin, Sem.run_bind]
    rw [hr]; rfl
  · rw [hG]
    have e3 : (w.freeze ⟨b, 0, none⟩ n).os = w.os ∧ (w.freeze ⟨b, 0, none⟩ n).tape = w.tape ∧ (w.freeze ⟨b, 0, none⟩ n).output = w.output ∧ w.heap.size ≤ (w.freeze ⟨b, 0, none⟩ n).heap.size := by
      unfold World.freeze
      split
      · exact ⟨rfl, rfl, rfl, Nat.le_refl _⟩
      · exact ⟨rfl, rfl, rfl, by simp⟩
    exact hs.write e3.1 e3.2.1 e3.2.2.1 e3.2.2.2 (fun r _ hr => freeze_old w b n r (by simpa [HObj.blks] using hr)) (World.ownsRow_nil _ 0 T 1) (by simp [HObj.blks]) (by intro r hr; simp [HObj.blks] at hr)
/-- What lies behind a place of a row of one's own. -/
theorem QuietV.slice_own_l {KV : Value → Prop} {t e : TypeId} {b n c T sz : Nat} {l : List Value} {i : TypeInfo} {kl : IntKind} {lo : Int} [hf : FindOwn H b n c T sz l] (ht : P.underlying t = some (.slice e)) (hi : P.info? e = some i) (hs : i.size = sz) (h0 : 0 ≤ lo) (h1 : lo ≤ n)
    (k : ∀ (a : Addr) (cc : Nat), Row C H a (l.drop (lo.toNat * sz)) → KV (.slice (some a) (n - lo.toNat) cc)) : QuietV C P H (Instr.sliceAt t (.slice (some ⟨b, 0, none⟩) n c) (some (.int kl lo)) none none) KV := by
  have he : P.elem t = e := by simp [Program.elem, ht]
  have ht' : P.underlying t = some (.slice (P.elem t)) := by rw [he]; exact ht
  have hrun : ∀ w, (Instr.sliceAt t (.slice (some ⟨b, 0, none⟩) n c) (some (.int kl lo)) none none).run P w = .ok (sliced (some ⟨b, 0, none⟩) lo.toNat n c sz) w := fun w => by
    rw [run_sliceAt_slice (P := P) w t _ _ _ _ ht', run_slice_l (P := P) w t _ n c ht' kl lo h0 h1, he]
    simp [Go.sizeOf, typeInfo, hi, hs, Result.andThen]
  refine ⟨_, fun w _ => hrun w, ?_⟩
  unfold sliced
  split
  · rename_i hc
    refine k _ _ ?_
    intro w hw j u hu
    have hown := hw.objs _ hf.mem
    have hcap := own_cap hown
    have hll : l.length = n * sz := hown.1
    have hz : l.drop (lo.toNat * sz) = [] := List.drop_eq_nil_of_le (by rw [hll]; exact Nat.mul_le_mul_right _ (by omega))
    rw [hz] at hu; cases hu
  · refine k _ _ ?_
    have := Row.own (C := C) (H := H) (b := b) (o := lo.toNat * sz) (hf := hf) l.length
    rw [List.take_of_length_le (by rw [List.length_drop]; omega)] at this
    have ha : (⟨b, 0, none⟩ : Addr).add (lo.toNat * sz) = ⟨b, lo.toNat * sz, none⟩ := by rw [Addr_add, Nat.zero_add]
    show Row C H ((⟨b, 0, none⟩ : Addr).add (lo.toNat * sz)) _
    rw [ha]; exact this
/-- A contract of the library: a value answered, nothing turned of what was there. -/
theorem FT.of_below {f : FuncId} {args : Array Value} {F : Mem} {v : Value} (h : ∀ w : World, (∀ r o, F r = some o → w.heap[r]? = some o) → Calls P f args w fun e w' => e = .returned v ∧ Below w.heap.size w w') : FT P f args F [] (fun e H => e = .returned v ∧ H = []) := by
  intro w hF hs
  refine (h w fun r o hr => (hF r o hr).2).mono fun e w' ⟨he, hb⟩ => ⟨by rw [he]; simp, [], ⟨he, rfl⟩, ?_⟩
  exact ⟨hb.os.trans hs.os, hb.tape.trans hs.tape, hb.output.trans hs.output, Nat.le_trans hs.size hb.size, fun r hr hm => (hb.block r (Nat.lt_of_lt_of_le hr hs.size)).trans (hs.keep r hr hm), (by intro o ho; cases ho), List.nodup_nil, (by intro r hr; cases hr)⟩
end
end SL

/- A range over a function: the loop's record is an owned object; yield runs a round; the activation's mark. -/
namespace SL
open Go Go.RowKit

theorem Sat.to_ds {C : Ctx} {ds : List Deferred} {H : Heap} {w : World} (h : Sat C H w) : Sat { C with ds := ds } H w := ⟨h.os, h.tape, h.output, h.size, h.keep, h.objs, h.nodup, h.mine⟩
theorem Sat.of_ds {C : Ctx} {ds : List Deferred} {H : Heap} {w : World} (h : Sat { C with ds := ds } H w) : Sat C H w := ⟨h.os, h.tape, h.output, h.size, h.keep, h.objs, h.nodup, h.mine⟩

/-- The record of a loop that is run over a function, entered by a frame. -/
def mkLoop (fn : FuncId) (n : Nat) (f : Fr) (ps : Array Tmp) (as body : Code) (D : Nat) (st : LoopState) (pend : Option Code) : Loop :=
  { state := st, pending := pend, fn, tmps := ((List.range n).map f).toArray, params := ps, assign := as, body, defers := D }

theorem Sat.putObj {C : Ctx} {l : Nat} {o o' : Obj} {H : Heap} {w : World} (h : Sat C (.obj l o :: H) w) : Sat C (.obj l o' :: H) (w.putObj l o') := by
  have hl : w.heap[l]? = some o := h.objs (.obj l o) (by simp)
  have hlt := (Array.getElem?_eq_some_iff.1 hl).1
  exact Sat.write (A := []) (x := .obj l o) (y := .obj l o') h rfl rfl rfl (by simp) (fun r _ hr => World.putObj_heap_other (by simpa [HObj.blks] using hr)) (World.putObj_heap_same hlt) (by simp [HObj.blks]) (fun r hr => .inl hr)

section
variable {C : Ctx} {P : Program}

/-- How a round's body may be left. -/
def roundQ (l : Nat) (rec : LoopState → Option Code → Loop) (K : Ending → Heap → Prop) : Exit → Fr → Heap → Prop := fun e _ H =>
  ∃ H3, Sub H (.obj l (.loop (rec .busy none)) :: H3) ∧ match e with
    | .normal => forceH (.obj l (.loop (rec .ready none)) :: H3) (K (.returned (.bool true)))
    | .ret => forceH (.obj l (.loop (rec .done (some .ret))) :: H3) (K (.returned (.bool false)))
    | .exit i => forceH (.obj l (.loop (rec .done (some (.exit i)))) :: H3) (K (.returned (.bool false)))
    | _ => False

/-- yield, at a loop with one variable. -/
theorem YieldS.one {l : Nat} {x : Value} {H : Heap} {K : Ending → Heap → Prop} {fn : FuncId} {n : Nat} {f : Fr} {p : Tmp} {as body : Code} {D : Nat} (H1 : Heap)
    (hs : Sub H (.obj l (.loop (mkLoop fn n f #[p] as body D .ready none)) :: H1))
    (h : CW { C with ds := [] } P n as (fun e f2 H2 => match e with
      | .normal => H2 = .obj l (.loop (mkLoop fn n f #[p] as body D .ready none)) :: H1 ∧ CW { C with ds := [] } P n body (roundQ l (mkLoop fn n f #[p] as body D) K) f2 (.obj l (.loop (mkLoop fn n f #[p] as body D .busy none)) :: H1)
      | _ => False) (upd f p x) (.obj l (.loop (mkLoop fn n f #[p] as body D .ready none)) :: H1)) : YieldS C P l [x] H K :=
  ⟨fun w hw => by
    have hw := hs.sat hw
    have hl : w.heap[l]? = some (.loop (mkLoop fn n f #[p] as body D .ready none)) := hw.objs (.obj l _) (by simp)
    refine ⟨_, _, _, _, run_yield (args := [x].toArray) hl rfl, roundIn_of_wpIn trivial ?_⟩
    have ht : TR [] n (upd f p x) { tmps := (((#[p] : Array Tmp).zip [x].toArray).foldl (fun t (p, a) => t.setIfInBounds p a) (mkLoop fn n f #[p] as body D .ready none).tmps), defers := [] } := by
      have h0 : TR [] n f { tmps := ((List.range n).map f).toArray, defers := [] } := ⟨rfl, rfl⟩
      have h1 := TR.put (C := { C with ds := [] }) h0 (some p) x
      simpa [mkLoop, putO, Act.put] using h1
    refine wpIn_mono' ?_ (CW.sound (C := { C with ds := [] }) (r := some l) as h ht hw.to_ds)
    intro e a' w' ⟨hne, f2, H2, hq, ht2, hs2⟩
    cases e with
    | normal =>
      obtain ⟨rfl, hb⟩ := hq
      have hs2 := Sat.of_ds hs2
      have hl2 : w'.heap[l]? = some (.loop (mkLoop fn n f #[p] as body D .ready none)) := hs2.objs (.obj l _) (by simp)
      refine ⟨_, run_beginRound hl2 rfl, wpIn_mono' ?_ (CW.sound (C := { C with ds := [] }) (r := some l) body hb ht2 (Sat.to_ds (hs2.putObj (o' := .loop (mkLoop fn n f #[p] as body D .busy none)))))⟩
      intro e3 a3 w3 ⟨hne3, f3, H3, ⟨H4, hsub, hq3⟩, ht3, hs3⟩
      have hs4 := hsub.sat (Sat.of_ds hs3)
      have hl3 : w3.heap[l]? = some (.loop (mkLoop fn n f #[p] as body D .busy none)) := hs4.objs (.obj l _) (by simp)
      cases e3 with
      | normal => simp only [forceH_eq] at hq3; exact ⟨_, _, run_endRound none hl3, by simp, _, hq3, hs4.putObj⟩
      | ret => simp only [forceH_eq] at hq3; exact ⟨_, _, run_endRound (some .ret) hl3, by simp, _, hq3, hs4.putObj⟩
      | exit i => simp only [forceH_eq] at hq3; exact ⟨_, _, run_endRound (some (.exit i)) hl3, by simp, _, hq3, hs4.putObj⟩
      | goto t => exact hq3.elim
      | panic c => exact hq3.elim
      | outgrown => exact hq3.elim
    | exit i => exact hq.elim
    | goto i => exact hq.elim
    | ret => exact hq.elim
    | panic i => exact hq.elim
    | outgrown => exact hq.elim⟩
/-- yield, at a loop with one variable, which may lie in memory. -/
theorem YieldS.new {l : Nat} {x : Value} {H : Heap} {K : Ending → Heap → Prop} {fn : FuncId} {n : Nat} {f : Fr} {p : Tmp} {as body : Code} {D : Nat} (H1 : Heap)
    (hs : Sub H (.obj l (.loop (mkLoop fn n f #[p] as body D .ready none)) :: H1))
    (h : CW { C with ds := [] } P n as (fun e f2 H2 => match e with
      | .normal => ∃ H5, Sub H2 (.obj l (.loop (mkLoop fn n f #[p] as body D .ready none)) :: H5) ∧ CW { C with ds := [] } P n body (roundQ l (mkLoop fn n f #[p] as body D) K) f2 (.obj l (.loop (mkLoop fn n f #[p] as body D .busy none)) :: H5)
      | _ => False) (upd f p x) (.obj l (.loop (mkLoop fn n f #[p] as body D .ready none)) :: H1)) : YieldS C P l [x] H K :=
  ⟨fun w hw => by
    have hw := hs.sat hw
    have hl : w.heap[l]? = some (.loop (mkLoop fn n f #[p] as body D .ready none)) := hw.objs (.obj l _) (by simp)
    refine ⟨_, _, _, _, run_yield (args := [x].toArray) hl rfl, roundIn_of_wpIn trivial ?_⟩
    have ht : TR [] n (upd f p x) { tmps := (((#[p] : Array Tmp).zip [x].toArray).foldl (fun t (p, a) => t.setIfInBounds p a) (mkLoop fn n f #[p] as body D .ready none).tmps), defers := [] } := by
      have h0 : TR [] n f { tmps := ((List.range n).map f).toArray, defers := [] } := ⟨rfl, rfl⟩
      have h1 := TR.put (C := { C with ds := [] }) h0 (some p) x
      simpa [mkLoop, putO, Act.put] using h1
    refine wpIn_mono' ?_ (CW.sound (C := { C with ds := [] }) (r := some l) as h ht hw.to_ds)
    intro e a' w' ⟨hne, f2, H2, hq, ht2, hs2⟩
    cases e with
    | normal =>
      obtain ⟨H5, hsub5, hb⟩ := hq
      have hs2 := hsub5.sat (Sat.of_ds hs2)
      have hl2 : w'.heap[l]? = some (.loop (mkLoop fn n f #[p] as body D .ready none)) := hs2.objs (.obj l _) (by simp)
      refine ⟨_, run_beginRound hl2 rfl, wpIn_mono' ?_ (CW.sound (C := { C with ds := [] }) (r := some l) body hb ht2 (Sat.to_ds (hs2.putObj (o' := .loop (mkLoop fn n f #[p] as body D .busy none)))))⟩
      intro e3 a3 w3 ⟨hne3, f3, H3, ⟨H4, hsub, hq3⟩, ht3, hs3⟩
      have hs4 := hsub.sat (Sat.of_ds hs3)
      have hl3 : w3.heap[l]? = some (.loop (mkLoop fn n f #[p] as body D .busy none)) := hs4.objs (.obj l _) (by simp)
      cases e3 with
      | normal => simp only [forceH_eq] at hq3; exact ⟨_, _, run_endRound none hl3, by simp, _, hq3, hs4.putObj⟩
      | ret => simp only [forceH_eq] at hq3; exact ⟨_, _, run_endRound (some .ret) hl3, by simp, _, hq3, hs4.putObj⟩
      | exit i => simp only [forceH_eq] at hq3; exact ⟨_, _, run_endRound (some (.exit i)) hl3, by simp, _, hq3, hs4.putObj⟩
      | goto t => exact hq3.elim
      | panic c => exact hq3.elim
      | outgrown => exact hq3.elim
    | exit i => exact hq.elim
    | goto i => exact hq.elim
    | ret => exact hq.elim
    | panic i => exact hq.elim
    | outgrown => exact hq.elim⟩
end

/-- The mark of a loop's block among an activation's deferred calls. -/
def markOf (D : Nat) : Deferred := { target := .collected D, args := #[] }
abbrev QD := Ctx → Exit → Fr → Heap → Prop
/-- The statement 'for .. := range g'. -/
inductive RangeD (C : Ctx) (P : Program) (n : Nat) (g : Operand) (ps : Array Tmp) (as body : Code) (Q : QD) (f : Fr) (H : Heap) : Prop
  | mk (gf : FuncId) (cap : List Value) (he : ev n f g = .func (.func gf) #[] cap.toArray) (hg : ∀ (x : Array Value) (w : World), (callFunc gf x).run P w = .ok (.enter gf x) w)
      (h : ∀ fn D l, CallI C P gf (.func (.yield l) #[] #[] :: cap).toArray (.obj l (.loop (mkLoop fn n f ps as body D .ready none)) :: .obj D (.deferred (some [])) :: H) fun e H2 =>
        match e with
        | .returned _ => ∃ st pend H3, Sub H2 (.obj l (.loop (mkLoop fn n f ps as body D st pend)) :: H3) ∧ st ≠ .busy ∧ (match pend with
          | none => Q { C with ds := markOf D :: C.ds } .normal f H3
          | some .ret => Q { C with ds := markOf D :: C.ds } .ret f H3
          | some (.exit i) => Q { C with ds := markOf D :: C.ds } (.exit i) f H3
          | _ => False)
        | _ => False)

/-- As seqW. -/
def seqD (ihb : QD → Ctx → Fr → Heap → Prop) (Q : QD) : QD := fun C e f H => match e with | .normal => ihb Q C f H | e => Q C e f H
/-- Code that may hold such statements, outside of loops. -/
def CWD (P : Program) (n : Nat) (c : Code) : QD → Ctx → Fr → Heap → Prop :=
  @Code.rec (fun _ => QD → Ctx → Fr → Heap → Prop)
    (fun Q C f H => Q C .normal f H)
    (fun id ops draw Q C f H => regionW C P n id ops draw (Q C) f H)
    (fun _ _ iha ihb Q C f H => iha (seqD ihb Q) C f H)
    (fun c _ _ ihx ihy Q C f H => condW (ev n f c) (ihx Q C f H) (ihy Q C f H))
    (fun id _ ih Q C f H => ih (fun C => blockW id (Q C)) C f H)
    (fun c _ Q C f H => CW C P n (.loop c) (Q C) f H)
    (fun g ps as b _ _ Q C f H => RangeD C P n g ps as b Q f H)
    (fun i Q C f H => Q C (.exit i) f H)
    (fun _ _ _ _ _ _ => False)
    (fun _ Q C f H => Q C .normal f H)
    (fun _ _ _ _ _ => False)
    (fun Q C f H => Q C .ret f H)
    (fun _ _ _ _ _ => False)
    c
def liftD (C : Ctx) (n : Nat) (Q : QD) : Exit → Act → World → Prop :=
  fun e a w => e ≠ .outgrown ∧ ∃ ds f H, Q { C with ds := ds } e f H ∧ TR ds n f a ∧ Sat C H w
theorem liftD_of_lift {C : Ctx} {n : Nat} {Q : QD} {e : Exit} {a : Act} {w : World} (h : lift C n (Q C) e a w) : liftD C n Q e a w :=
  ⟨h.1, C.ds, h.2.choose, h.2.choose_spec.choose, h.2.choose_spec.choose_spec.1, h.2.choose_spec.choose_spec.2.1, h.2.choose_spec.choose_spec.2.2⟩
theorem liftD_ds {C : Ctx} {ds : List Deferred} {n : Nat} {Q : QD} {e : Exit} {a : Act} {w : World} (h : liftD { C with ds := ds } n Q e a w) : liftD C n Q e a w := by
  obtain ⟨hne, ds', f, H, hq, ht, hs⟩ := h
  exact ⟨hne, ds', f, H, hq, ht, hs.of_ds⟩
theorem RangeD.sound {C : Ctx} {P : Program} {n : Nat} {g : Operand} {ps : Array Tmp} {as body : Code} {Q : QD} {f : Fr} {H : Heap} {a : Act} {w : World} (h : RangeD C P n g ps as body Q f H) (ht : TR C.ds n f a) (hs : Sat C H w) :
    (Code.rangeFunc g ps as body).wpIn Fence.wide 0 P (liftD C n Q) a w := by
  obtain ⟨gf, cap, he, hg, h⟩ := h
  refine wpIn_rangeFunc fun fn _ => ?_
  have hatm : a.tmps = ((List.range n).map f).toArray := ht.tmps
  have hs1 : Sat C (.obj w.heap.size (.deferred (some [])) :: H) (w.alloc (.deferred (some []))) := hs.new (.deferred (some [])) (.obj w.heap.size (.deferred (some []))) rfl (by simp [HObj.sat])
  have hs2 : Sat C (.obj (w.heap.size + 1) (.loop (mkLoop fn n f ps as body w.heap.size .ready none)) :: .obj w.heap.size (.deferred (some [])) :: H)
      ((w.alloc (.deferred (some []))).alloc (.loop (mkLoop fn n f ps as body w.heap.size .ready none))) := by
    have h1 := hs1.new (.loop (mkLoop fn n f ps as body w.heap.size .ready none)) (.obj (w.alloc (.deferred (some []))).heap.size (.loop (mkLoop fn n f ps as body w.heap.size .ready none))) rfl (World.alloc_heap_new (w.alloc (.deferred (some []))) (.loop (mkLoop fn n f ps as body w.heap.size .ready none)))
    rw [show (w.alloc (.deferred (some []))).heap.size = w.heap.size + 1 by simp] at h1
    exact h1
  refine ⟨w.heap.size + 1, [markOf w.heap.size], (w.alloc (.deferred (some []))).alloc (.loop (mkLoop fn n f ps as body w.heap.size .ready none)), { target := .fn (.func gf) cap.toArray, args := #[.func (.yield (w.heap.size + 1)) #[] #[]] }, (w.alloc (.deferred (some []))).alloc (.loop (mkLoop fn n f ps as body w.heap.size .ready none)), gf,
    (.func (.yield (w.heap.size + 1)) #[] #[] :: cap).toArray, (w.alloc (.deferred (some []))).alloc (.loop (mkLoop fn n f ps as body w.heap.size .ready none)), ?_, ?_, fun _ _ => trivial, ?_, fun h => by simp [Fence.wide] at h, ?_⟩
  · rw [show (Fence.wide).round = none from rfl, run_enterLoop_outer, hatm]; rfl
  · have : a.eval g = .func (.func gf) #[] cap.toArray := by rw [ht.eval]; exact he
    simp only [resolve, this]
    simp [go_sem]
  · have hh : (#[Value.func (.yield (w.heap.size + 1)) #[] #[]] ++ cap.toArray) = (Value.func (.yield (w.heap.size + 1)) #[] #[] :: cap).toArray := by simp
    simp only [invoke, hh]
    exact hg _ _
  · refine callsIn_wide.2 ((CallI.sound (h fn w.heap.size (w.heap.size + 1)) hs2).mono ?_)
    rintro e w3 ⟨hne, H2, hk, hs3⟩
    cases e with
    | returned v =>
      obtain ⟨st, pend, H3, hsub, hst, hq⟩ := hk
      have hs4 := hsub.sat hs3
      have hl : w3.heap[w.heap.size + 1]? = some (.loop (mkLoop fn n f ps as body w.heap.size st pend)) := hs4.objs (.obj _ _) (by simp)
      refine ⟨pend, _, run_endLoop hl hst, ?_⟩
      have hs5 : Sat C H3 (w3.putObj (w.heap.size + 1) (.loop { mkLoop fn n f ps as body w.heap.size st pend with state := .exhausted })) := (hs4.putObj (o' := .loop { mkLoop fn n f ps as body w.heap.size st pend with state := .exhausted })).drop (A := [_])
      have ht' : TR (markOf w.heap.size :: C.ds) n f { a with defers := [markOf w.heap.size] ++ a.defers } := ⟨ht.tmps, by show [markOf w.heap.size] ++ a.defers = _; rw [ht.defers]; rfl⟩
      cases pend with
      | none => exact ⟨by simp, _, f, H3, hq, ht', hs5⟩
      | some c =>
        cases c with
        | ret => exact wpIn_ret ⟨by simp, _, f, H3, hq, ht', hs5⟩
        | exit i => exact wpIn_exit ⟨by simp, _, f, H3, hq, ht', hs5⟩
        | _ => exact hq.elim
    | panicked c => exact hk.elim
    | outgrown => exact absurd rfl hne

theorem CWD.sound {P : Program} {n : Nat} : ∀ (c : Code) {Q : QD} {C : Ctx} {f : Fr} {H : Heap} {a : Act} {w : World}, CWD P n c Q C f H → TR C.ds n f a → Sat C H w → c.wpIn Fence.wide 0 P (liftD C n Q) a w := by
  intro c
  induction c with
  | skip => intro Q C f H a w h ht hs; exact wpIn_skip ⟨by simp, C.ds, f, H, h, ht, hs⟩
  | label l => intro Q C f H a w h ht hs; exact wpIn_label ⟨by simp, C.ds, f, H, h, ht, hs⟩
  | region id ops draw =>
    intro Q C f H a w h ht hs
    exact wpIn_mono (CW.sound (r := none) (.region id ops draw) h ht hs) fun _ _ _ h => liftD_of_lift h
  | seq x y ihx ihy =>
    intro Q C f H a w h ht hs
    refine wpIn_seq (wpIn_mono' ?_ (ihx h ht hs))
    intro e a' w' ⟨hne, ds, f', H', hq, ht', hs'⟩
    cases e with
    | normal => exact wpIn_mono' (fun _ _ _ h => liftD_ds h) (ihy hq ht' hs'.to_ds)
    | outgrown => exact absurd rfl hne
    | exit i => exact ⟨by simp, ds, f', H', hq, ht', hs'⟩
    | goto i => exact ⟨by simp, ds, f', H', hq, ht', hs'⟩
    | ret => exact ⟨by simp, ds, f', H', hq, ht', hs'⟩
    | panic i => exact ⟨by simp, ds, f', H', hq, ht', hs'⟩
  | cond c x y ihx ihy =>
    intro Q C f H a w h ht hs
    replace h : condW (ev n f c) (CWD P n x Q C f H) (CWD P n y Q C f H) := h
    unfold condW at h
    split at h
    · rename_i b hb
      have hc : a.eval c = .bool b := by rw [ht.eval]; exact hb
      cases b with
      | true => exact wpIn_cond_true hc (ihx h ht hs)
      | false => exact wpIn_cond_false hc (ihy h ht hs)
    · exact h.elim
  | block id c ih =>
    intro Q C f H a w h ht hs
    refine wpIn_block (wpIn_mono' ?_ (ih h ht hs))
    intro e a' w' ⟨hne, ds, f', H', hq, ht', hs'⟩
    cases e with
    | exit i =>
      simp only [Exit.inBlock]
      replace hq : cond (Nat.beq i id) (Q { C with ds := ds } .normal f' H') (Q { C with ds := ds } (.exit i) f' H') := hq
      cases hb : Nat.beq i id with
      | true =>
        rw [hb] at hq
        rw [if_pos (Nat.eq_of_beq_eq_true hb)]
        exact ⟨by simp, ds, f', H', hq, ht', hs'⟩
      | false =>
        rw [hb] at hq
        rw [if_neg (Nat.ne_of_beq_eq_false hb)]
        exact ⟨by simp, ds, f', H', hq, ht', hs'⟩
    | outgrown => exact absurd rfl hne
    | normal => exact ⟨by simp, ds, f', H', hq, ht', hs'⟩
    | goto i => exact ⟨by simp, ds, f', H', hq, ht', hs'⟩
    | ret => exact ⟨by simp, ds, f', H', hq, ht', hs'⟩
    | panic i => exact ⟨by simp, ds, f', H', hq, ht', hs'⟩
  | loop c ih =>
    intro Q C f H a w h ht hs
    exact wpIn_mono (CW.sound (r := none) (.loop c) h ht hs) fun _ _ _ h => liftD_of_lift h
  | rangeFunc g ps as b ih => intro Q C f H a w h ht hs; exact RangeD.sound h ht hs
  | exit i => intro Q C f H a w h ht hs; exact wpIn_exit ⟨by simp, C.ds, f, H, h, ht, hs⟩
  | scope c ih => intro Q C f H a w h; exact h.elim
  | goto l => intro Q C f H a w h; exact h.elim
  | ret => intro Q C f H a w h ht hs; exact wpIn_ret ⟨by simp, C.ds, f, H, h, ht, hs⟩
  | refuse why => intro Q C f H a w h; exact h.elim

/-- A function is left: its marks are gone through, then its results are handed back. -/
def leaveM (C : Ctx) (P : Program) (n : Nat) (fn : Func) (R : Value → Heap → Prop) (ds : List Deferred) : Fr → Heap → Prop :=
  @List.rec Deferred (fun _ => Fr → Heap → Prop) (fun f H => RetI C P n fn f H fun v => ∃ H0, Sub H H0 ∧ R v H0)
    (fun d _ ih f H => ∃ D H1, d = markOf D ∧ Sub H (.obj D (.deferred (some [])) :: H1) ∧ ih f H1) ds
def bodyD (P : Program) (n : Nat) (fn : Func) (R : Ending → Heap → Prop) : QD
  | C, .normal, f, H | C, .ret, f, H => leaveM C P n fn (fun v => R (.returned v)) C.ds f H
  | _, _, _, _ => False
theorem leaveM.sound {C : Ctx} {P : Program} {n : Nat} {fn : Func} {R : Value → Heap → Prop} {R' : Ending → World → Prop} {a : Act} (hR : ∀ v H w, R v H → Sat C H w → R' (.returned v) w) : ∀ (ds : List Deferred) {f : Fr} {H : Heap} {w : World},
    leaveM C P n fn R ds f H → a.tmps = ((List.range n).map f).toArray → Sat C H w → LeavesInM Fence.wide 0 P fn a.tmps R' ds .returning w
  | [], f, H, w, h, ht, hs => by
    obtain ⟨v, hv, H0, hsub, hk⟩ := h
    exact ⟨v, by have := hv { tmps := a.tmps, defers := C.ds } w ⟨ht, rfl⟩ hs; exact this, hR v H0 w hk (hsub.sat hs)⟩
  | d :: ds, f, H, w, h, ht, hs => by
    obtain ⟨D, H1, rfl, hsub, hk⟩ := h
    have hs1 := hsub.sat hs
    have hD : w.heap[D]? = some (.deferred (some [])) := hs1.objs (.obj D _) (by simp)
    exact ⟨by simp, .inl ⟨D, _, rfl, run_takeDeferred hD, leaveM.sound hR ds hk ht ((hs1.putObj (o' := .deferred none)).drop (A := [_]))⟩⟩

theorem FT.of_bodyD {P : Program} {g : FuncId} {fn : Func} {c : Code} {args : List Value} {F : Mem} {H : Heap} {R : Ending → Heap → Prop} {n : Nat}
    (hf : P.funcs[g]? = some fn) (hb : fn.body = some c) (hn : fn.ntmps = n) (hl : args.length ≤ n)
    (h : ∀ C : Ctx, C.F = F → C.ds = [] → CWD P n c (bodyD P n fn R) C (argFr args) H) : FT P g args.toArray F H R := by
  intro w hF hs
  refine callsIn_wide.1 (callsIn_of_wp_marks (n := 0) hf hb trivial (wpIn_mono' ?_ (CWD.sound c (h _ rfl rfl) ⟨?_, rfl⟩ hs)))
  · intro e a w' ⟨hne, ds, f', H', hq, ht, hs'⟩
    have fin : leaveM ⟨w, (· ∈ blks H), F, hF, ds⟩ P n fn (fun v => R (.returned v)) ds f' H' → LeavesInM Fence.wide 0 P fn a.tmps (fun e w' => e ≠ .outgrown ∧ ∃ H', R e H' ∧ Sat ⟨w, (· ∈ blks H), F, hF, []⟩ H' w') a.defers .returning w' := fun hq => by
      rw [ht.defers]
      exact leaveM.sound (fun v H0 w0 hr hs0 => ⟨by simp, H0, hr, hs0.of_ds (C := ⟨w, (· ∈ blks H), F, hF, []⟩)⟩) ds hq ht.tmps (hs'.to_ds (ds := ds))
    cases e with
    | normal => exact fin hq
    | ret => exact fin hq
    | outgrown => exact absurd rfl hne
    | panic c => exact hq.elim
    | exit i => exact hq.elim
    | goto i => exact hq.elim
  · apply Array.ext
    · simp [hn]; omega
    · intro i h1 h2
      simp at h1 h2
      simp only [Array.getElem_append, List.size_toArray]
      split
      · rename_i hi; simp [argFr, List.getElem?_eq_getElem hi]
      · rename_i hi; simp at hi; simp [argFr, List.getElem?_eq_none hi]
end SL

end Go.Proofs.YtlfmckjehjedpaaGreatDoor
