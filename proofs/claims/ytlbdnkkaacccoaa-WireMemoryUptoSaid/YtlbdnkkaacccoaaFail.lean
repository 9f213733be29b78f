/- Drawn regions in which an effect may panic, and a new block may be laid at any time between the calls. -/
import Derived.Test.YtlbdnkkaacccoaaCom
namespace Go.Proofs.Ytlbdnkkaacccoaa
set_option linter.unusedVariables false
set_option linter.unusedSimpArgs false
set_option maxRecDepth 100000
namespace SL.Fail
open Go Go.RowKit SL
/-- Owned memory, and whether the walk is alive (false: behind a panic, a ghost). -/
abbrev GH := Bool × Heap
def SatG (C : Ctx) (G : GH) (w : World) : Prop := Sat C G.2 w
section
variable (P : Program) (md : Region.Mode) (ops : Array Oper) (C : Ctx) (St St1 : GH → Prop) (qf ef : Nat → Bool) (EP : List PanicEntry → Heap → Prop) (al : Nat) (z : List Value) (T : TypeId)
def cst (w : World) : Prop := ∃ H, St H ∧ SatG C H w
def Sq (i : Nat) (H : GH) : Prop := St H ∧ (ef i = true → St1 H)
def QY (o : Oper) (a : Act) (v : Value) : Prop := ∀ w, cst C St w → ((execOp a.eval o).run P w = .ok (.value v) w ∨ ((execOp a.eval o).run P w = .ok .skip w ∧ v = undef))
def eff (R : Value → GH → Prop) : Result Next → Prop
  | .ok (.value v) w' => ∃ H', R v H' ∧ St H' ∧ SatG C H' w'
  | .ok .skip w' => ∃ H', R undef H' ∧ St H' ∧ SatG C H' w'
  | .ok (.enter g args) w' => Calls P g args w' fun e w'' => ∃ v H', e = .returned v ∧ R v H' ∧ St H' ∧ SatG C H' w''
  | .ok (.row row args) w' => Rows P row args w' fun v w'' => ∃ H', R v H' ∧ St H' ∧ SatG C H' w''
  | _ => False
def effP : Result Next → Prop
  | .ok (.enter g args) w' => Calls P g args w' fun e w'' => ∃ c H', e = .panicked c ∧ EP c H' ∧ Sat C H' w''
  | .halt (.panic v) w' => ∃ H', EP [{ v, recovered := false }] H' ∧ Sat C H' w'
  | _ => False
def ER (o : Oper) (a : Act) (H : GH) (R : Value → GH → Prop) : Prop :=
  (∀ w, SatG C H w → eff P C (fun H' => St H' ∧ H'.1 = H.1) R ((execOp a.eval o).run P w)) ∨
  ((∀ w, SatG C H w → effP P C EP ((execOp a.eval o).run P w)) ∧ ∃ v, R v (false, H.2) ∧ St (false, H.2)) ∨
  (H.1 = false ∧ ∃ v, R v H ∧ St H)
/-- An effect that leaves any further object alone. -/
def ERF (o : Oper) (a : Act) (H : GH) (R : Value → GH → Prop) : Prop := ∀ X : Heap, ER P C St EP o a (H.1, X ++ H.2) (fun v G => ∃ H1 : GH, G = (H1.1, X ++ H1.2) ∧ R v H1 ∧ St H1)
/-- An operation that lays a new block. -/
structure ALc (o : Oper) : Prop where
  guard : o.guard = none
  run : ∀ (a : Act) (w : World), (execOp a.eval o).run P w = .ok (.value (.pointer (some ⟨w.heap.size, 0, none⟩))) { w with heap := w.heap.push (.cells z.toArray T (0, 0)) }
/-- What stands behind a new block. -/
abbrev lay (b : Nat) (H : GH) : GH := (H.1, .cells b z T (0, 0) :: H.2)
def mOp (i : Nat) (K : Act → GH → Prop) (a : Act) (H : GH) : Prop :=
  match ops[i]? with
  | none => K a H
  | some o => if Region.wanted o (yielded ops a.tmps) = true then
      (if qf i = true then ∃ v, QY P C (Sq St St1 ef i) o a v ∧ K (a.put o.dst v) H else if i = al then ALc P z T o ∧ (∀ b, (∃ w, SatG C (lay z T b H) w) → K (a.put o.dst (.pointer (some ⟨b, 0, none⟩))) (lay z T b H)) else ∃ R, ER P C St EP o a H R ∧ (i < al → al < ops.size → ERF P C St EP o a H R) ∧ ∀ v H', R v H' → St H' → (∃ w, SatG C H' w) → K (a.put o.dst v) H')
    else K (a.put o.dst undef) H
def wpAnyM (Q : Act → GH → Prop) : Nat → Array Bool → Act → GH → Prop
  | 0, listed, a, H => Region.ready md ops listed = [] ∧ Q a H
  | fuel + 1, listed, a, H => (Region.ready md ops listed = [] → Q a H) ∧ ∀ i ∈ Region.ready md ops listed, mOp P ops C St St1 qf ef EP al z T i (wpAnyM Q fuel (listed.setIfInBounds i true)) a H
def wpMix (Q : Act → GH → Prop) : List Oper → Nat → Act → GH → Prop
  | [], _, a, H => Q a H
  | o :: rest, k, a, H => if Region.wanted o (yielded ops a.tmps) = true then
      (if qf k = true then ∃ v, QY P C (Sq St St1 ef k) o a v ∧ wpMix Q rest (k + 1) (a.put o.dst v) H else if k = al then ALc P z T o ∧ (∀ b, (∃ w, SatG C (lay z T b H) w) → wpMix Q rest (k + 1) (a.put o.dst (.pointer (some ⟨b, 0, none⟩))) (lay z T b H)) else ∃ R, ER P C St EP o a H R ∧ (k < al → al < ops.size → ERF P C St EP o a H R) ∧ ∀ v H', R v H' → St H' → (∃ w, SatG C H' w) → wpMix Q rest (k + 1) (a.put o.dst v) H')
    else wpMix Q rest (k + 1) (a.put o.dst undef) H
end
section
variable {P : Program} {md : Region.Mode} {ops : Array Oper} {C : Ctx} {St St1 : GH → Prop} {qf ef : Nat → Bool} {EP : List PanicEntry → Heap → Prop} {al : Nat} {z : List Value} {T : TypeId}
theorem mOp_mono {i : Nat} {a : Act} {H : GH} {K K' : Act → GH → Prop} (h : ∀ a H, K a H → K' a H) (hh : mOp P ops C St St1 qf ef EP al z T i K a H) : mOp P ops C St St1 qf ef EP al z T i K' a H := by
  unfold mOp at *
  split
  · rename_i ho; simp only [ho] at hh; exact h _ _ hh
  · rename_i o ho
    simp only [ho] at hh
    split
    · rename_i hw
      rw [if_pos hw] at hh
      split
      · rename_i hq
        rw [if_pos hq] at hh
        obtain ⟨v, h1, h2⟩ := hh
        exact ⟨v, h1, h _ _ h2⟩
      · rename_i hq
        rw [if_neg hq] at hh
        split
        · rename_i he
          rw [if_pos he] at hh
          exact ⟨hh.1, fun b hb => h _ _ (hh.2 b hb)⟩
        · rename_i he
          rw [if_neg he] at hh
          obtain ⟨R, h1, hf, h2⟩ := hh
          exact ⟨R, h1, hf, fun v H' hr hs hw => h _ _ (h2 v H' hr hs hw)⟩
    · rename_i hw
      rw [if_neg hw] at hh
      exact h _ _ hh
theorem sound_ret {o : Oper} {a : Act} {R : Value → GH → Prop} {St : GH → Prop} {next : Act → World → Prop} {Q : Exit → Act → World → Prop} {r : Result Next} (h3 : eff P C St R r) (k : ∀ v H' w', R v H' → St H' → SatG C H' w' → next (a.put o.dst v) w') : o.upon P a next Q r := by
  cases r with
  | ok n w' =>
    cases n <;> simp only [eff] at h3 <;> simp only [Oper.upon]
    case value v => obtain ⟨H', hr, hst', hs'⟩ := h3; exact k v H' w' hr hst' hs'
    case skip => obtain ⟨H', hr, hst', hs'⟩ := h3; exact k undef H' w' hr hst' hs'
    case enter g args =>
      refine h3.mono fun e w'' ⟨v, H', he, hr, hst', hs'⟩ => ?_
      subst he
      exact k v H' w'' hr hst' hs'
    case row rw args => exact h3.mono fun v w'' ⟨H', hr, hst', hs'⟩ => k v H' w'' hr hst' hs'
  | halt y w' => simp only [eff] at h3
theorem sound_pan {o : Oper} {a : Act} {next : Act → World → Prop} {Q : Exit → Act → World → Prop} {r : Result Next} (h3 : effP P C EP r) (k : ∀ c H' w', EP c H' → Sat C H' w' → Q (.panic c) a w') : o.upon P a next Q r := by
  cases r with
  | ok n w' =>
    cases n <;> simp only [effP] at h3 <;> simp only [Oper.upon]
    case enter g args =>
      refine h3.mono fun e w'' ⟨c, H', he, hr, hs'⟩ => ?_
      subst he
      exact k c H' w'' hr hs'
  | halt y w' =>
    cases y <;> simp only [effP] at h3
    simp only [Oper.upon]
    obtain ⟨H', he, hs'⟩ := h3
    exact k _ H' w' he hs'
theorem wpAnyM_sound (hSt : ∀ x G, St G → St (G.1, x :: G.2)) (hW : waitsE md ops qf ef = true) (hef : ∀ i, ef i = true → i < ops.size) {Q : Act → GH → Prop} {Q' : Exit → Act → World → Prop} {J : Act → Prop} (hJ : ∀ (a : Act) (i : Nat) (o : Oper) (v : Value), ops[i]? = some o → J a → J (a.put o.dst v)) (hQ : ∀ a H w, SatG C H w → H.1 = true → J a → Q a H → Q' .normal a w) (hP : ∀ a c H w, J a → EP c H → Sat C H w → Q' (.panic c) a w) : ∀ (fuel : Nat) (listed : Array Bool) (a : Act) (H : GH) (w : World), H.1 = true → J a → St H → EInv qf ef ops.size listed → (∀ i, ef i = true → listed.getD i true = false → St1 H) → SatG C H w →
    wpAnyM P md ops C St St1 qf ef EP al z T Q fuel listed a H → wpAny P md ops Q' fuel listed a w
  | 0, _, _, _, _, hal, hj, _, _, _, hs, h => ⟨h.1, hQ _ _ _ hs hal hj h.2⟩
  | fuel + 1, listed, a, H, w, hal, hj, hst, hB, hA, hs, h => by
    refine ⟨fun h0 => hQ _ _ _ hs hal hj (h.1 h0), fun i hi => ?_⟩
    have hh := h.2 i hi
    have hB' := hB.step hW hi
    have hun := (mem_ready.1 hi).1
    have hA' : ∀ j, ef j = true → (listed.setIfInBounds i true).getD j true = false → St1 H := fun j hj hl => by
      by_cases hij : i = j
      · subst hij; exact hA i hj hun
      · rw [getD_set_ne true hij] at hl; exact hA j hj hl
    have hE' : qf i = false → ∀ H', ∀ j, ef j = true → (listed.setIfInBounds i true).getD j true = false → St1 H' := fun hqi H' j hj hl => by
      exfalso
      by_cases hij : i = j
      · subst hij
        have hls : i < listed.size ∨ ¬ i < listed.size := Nat.lt_or_ge i listed.size |>.imp id (by omega)
        rcases hls with h' | h'
        · simp [Array.getD, h'] at hl
        · simp [Array.getD, h'] at hl
      · rw [getD_set_ne true hij] at hl
        rcases Nat.lt_or_ge j ops.size with h' | h'
        · have := hB.all hW hi hqi h' hj
          rcases Nat.lt_or_ge j listed.size with h2 | h2
          · simp [Array.getD, h2] at this hl; rw [this] at hl; cases hl
          · simp [Array.getD, Nat.not_lt.2 h2] at hl
        · exact absurd h' (by have := hef j hj; omega)
    unfold mOp at hh
    unfold wpOp
    split
    · rename_i ho; simp only [ho] at hh; exact wpAnyM_sound hSt hW hef hJ hQ hP fuel _ _ _ _ hal hj hst hB' hA' hs hh
    · rename_i o ho
      simp only [ho] at hh
      split
      · rename_i hw
        rw [if_pos hw] at hh
        refine .inl ?_
        split at hh
        · obtain ⟨v, h1, h2⟩ := hh
          unfold Oper.wp
          rcases h1 w ⟨H, ⟨hst, fun he => hA i he hun⟩, hs⟩ with h3 | ⟨h3, rfl⟩
          · rw [h3]; exact wpAnyM_sound hSt hW hef hJ hQ hP fuel _ _ _ _ hal (hJ _ _ _ _ ho hj) hst hB' hA' hs h2
          · rw [h3]; exact wpAnyM_sound hSt hW hef hJ hQ hP fuel _ _ _ _ hal (hJ _ _ _ _ ho hj) hst hB' hA' hs h2
        · rename_i hqn
          have hE := hE' (by simpa using hqn)
          split at hh
          · obtain ⟨hA, hk⟩ := hh
            have hs1 : SatG C (lay z T w.heap.size H) { w with heap := w.heap.push (.cells z.toArray T (0, 0)) } := Sat.new hs (.cells z.toArray T (0, 0)) (.cells w.heap.size z T (0, 0)) rfl (by simp [HObj.sat])
            unfold Oper.wp
            rw [hA.run]
            exact wpAnyM_sound hSt hW hef hJ hQ hP fuel _ _ (lay z T w.heap.size H) _ hal (hJ _ _ _ _ ho hj) (hSt _ _ hst) hB' (hE _) hs1 (hk _ ⟨_, hs1⟩)
          obtain ⟨R, h1, _, h2⟩ := hh
          unfold Oper.wp
          rcases h1 with h1 | ⟨h1, _⟩ | ⟨h1, _⟩
          · have h3 := h1 w hs
            generalize (execOp a.eval o).run P w = r at *
            exact sound_ret h3 fun v H' w' hr hst' hs' => wpAnyM_sound hSt hW hef hJ hQ hP fuel _ _ _ _ (hst'.2.trans hal) (hJ _ _ _ _ ho hj) hst'.1 hB' (hE _) hs' (h2 v H' hr hst'.1 ⟨w', hs'⟩)
          · have h3 := h1 w hs
            generalize (execOp a.eval o).run P w = r at *
            exact sound_pan h3 fun c H' w' he hs' => hP a c H' w' hj he hs'
          · rw [hal] at h1; cases h1
      · rename_i hw
        rw [if_neg hw] at hh
        exact wpAnyM_sound hSt hW hef hJ hQ hP fuel _ _ _ _ hal (hJ _ _ _ _ ho hj) hst hB' hA' hs hh
theorem QY.unique {o : Oper} {a : Act} {v u : Value} (h : QY P C St o a v) (h' : QY P C St o a u) {H : GH} {w : World} (hst : St H) (hs : SatG C H w) : v = u := by
  rcases h w ⟨H, hst, hs⟩ with h1 | ⟨h1, rfl⟩ <;> rcases h' w ⟨H, hst, hs⟩ with h2 | ⟨h2, rfl⟩ <;> rw [h1] at h2 <;> simp at h2
  exact h2
theorem QY.same {o : Oper} {a a' : Act} {v : Value} (h : QY P C St o a v) (he : execOp a'.eval o = execOp a.eval o) : QY P C St o a' v := by
  unfold QY at *; rw [he]; exact h
theorem ER.same {o : Oper} {a a' : Act} {H : GH} {R : Value → GH → Prop} (h : ER P C St EP o a H R) (he : execOp a'.eval o = execOp a.eval o) : ER P C St EP o a' H R := by
  unfold ER at *; rw [he]; exact h
theorem mOp_put {j : Nat} {oi oj : Oper} {x : Value} {a : Act} {H : GH} (hj : ops[j]? = some oj) (hap : oi.apart ops oj = true) (hsj : ∀ cs b, oj.op ≠ .select cs b) {K K' : Act → GH → Prop}
    (hK : ∀ u H', K ((a.put oi.dst x).put oj.dst u) H' → K' (a.put oj.dst u) H') (h : mOp P ops C St St1 qf ef EP al z T j K (a.put oi.dst x) H) : mOp P ops C St St1 qf ef EP al z T j K' a H := by
  obtain ⟨h1, h2, h3⟩ := Oper.apart_spec hap
  have he : execOp (a.put oi.dst x).eval oj = execOp a.eval oj := execOp_put oj hsj a oi.dst x h1
  unfold mOp at *
  simp only [hj] at *
  rw [wanted_put oj a oi.dst x h1] at h
  split
  · rename_i hw
    rw [if_pos hw] at h
    split
    · rename_i hq
      rw [if_pos hq] at h
      obtain ⟨v, hv, hk⟩ := h
      exact ⟨v, hv.same he.symm, hK v H hk⟩
    · rename_i hq
      rw [if_neg hq] at h
      split
      · rename_i hal
        rw [if_pos hal] at h
        exact ⟨h.1, fun b hb => hK _ _ (h.2 b hb)⟩
      · rename_i hal
        rw [if_neg hal] at h
        obtain ⟨R, hR, hf, hk⟩ := h
        exact ⟨R, hR.same he.symm, fun h1 h2 x => (hf h1 h2 x).same he.symm, fun v H' hr hst hw => hK v H' (hk v H' hr hst hw)⟩
  · rename_i hw
    rw [if_neg hw] at h
    exact hK undef H h
def QV (P : Program) (ops : Array Oper) (C : Ctx) (St : GH → Prop) (o : Oper) (v : Value) (a : Act) : Prop :=
  (Region.wanted o (yielded ops a.tmps) = true ∧ QY P C St o a v) ∨ (Region.wanted o (yielded ops a.tmps) = false ∧ v = undef)
theorem qv_mOp {i : Nat} {o : Oper} {v : Value} {a : Act} {H : GH} (hi : ops[i]? = some o) (hq : qf i = true) (hy : QV P ops C (Sq St St1 ef i) o v a) {K : Act → GH → Prop} (h : K (a.put o.dst v) H) : mOp P ops C St St1 qf ef EP al z T i K a H := by
  unfold mOp
  simp only [hi]
  rcases hy with ⟨hw, hv⟩ | ⟨hw, rfl⟩
  · rw [if_pos hw, if_pos hq]; exact ⟨v, hv, h⟩
  · rw [if_neg (by simp [hw])]; exact h
theorem QV.put {oi oj : Oper} {v u : Value} {a : Act} (hy : QV P ops C St oi v a) (hap : oi.apart ops oj = true) (hsi : ∀ cs b, oi.op ≠ .select cs b) : QV P ops C St oi v (a.put oj.dst u) := by
  obtain ⟨_, _, h3⟩ := Oper.apart_spec hap
  unfold QV at *
  rw [wanted_put oi a oj.dst u h3]
  rcases hy with ⟨hw, hv⟩ | h
  · exact .inl ⟨hw, hv.same (execOp_put oi hsi a oj.dst u h3)⟩
  · exact .inr h
theorem wpAnyM_firstQ {Q : Act → GH → Prop} {i : Nat} {oi : Oper} {v : Value} (hi : ops[i]? = some oi) (hq : qf i = true) (hsel : ∀ (j : Nat) (o : Oper) cs b, ops[j]? = some o → o.op ≠ .select cs b) :
    ∀ (fuel : Nat) (listed : Array Bool) (a : Act) (H : GH),
      (∀ j oj, ops[j]? = some oj → j ≠ i → listed.getD j true = false → (∀ e ∈ oj.after, Region.binds md e = true → e.on ≠ i) → oi.apart ops oj = true) →
      i ∈ Region.ready md ops listed → QV P ops C (Sq St St1 ef i) oi v a →
      wpAnyM P md ops C St St1 qf ef EP al z T Q fuel (listed.setIfInBounds i true) (a.put oi.dst v) H → wpAnyM P md ops C St St1 qf ef EP al z T Q (fuel + 1) listed a H := by
  intro fuel
  induction fuel with
  | zero =>
    intro listed a H _ hr hy hh
    refine ⟨fun h => (by rw [h] at hr; cases hr), fun j hj => ?_⟩
    by_cases hji : j = i
    · subst hji; exact qv_mOp hi hq hy hh
    · have := ready_mono hj hji
      rw [hh.1] at this
      cases this
  | succ fuel ih =>
    intro listed a H hfree hr hy hh
    refine ⟨fun h => (by rw [h] at hr; cases hr), fun j hj => ?_⟩
    by_cases hji : j = i
    · subst hji; exact qv_mOp hi hq hy hh
    · have h1 := hh.2 j (ready_mono hj hji)
      obtain ⟨hjun, oj, hoj, hall⟩ := mem_ready.1 hj
      have hnot : ∀ e ∈ oj.after, Region.binds md e = true → e.on ≠ i := fun e he hb heq => by
        have h1 := hall e he hb
        have h0 := (mem_ready.1 hr).1
        rw [heq] at h1
        rcases Nat.lt_or_ge i listed.size with h' | h'
        · simp [h'] at h0 h1; rw [h0] at h1; cases h1
        · simp [Array.getElem?_eq_none h'] at h1
      have hap := hfree j oj hoj hji hjun hnot
      have hfree' : ∀ k ok, ops[k]? = some ok → k ≠ i → (listed.setIfInBounds j true).getD k true = false →
          (∀ e ∈ ok.after, Region.binds md e = true → e.on ≠ i) → oi.apart ops ok = true := fun k ok hk hki hun hno => by
        refine hfree k ok hk hki ?_ hno
        by_cases hjk : j = k
        · subst hjk; exact hjun
        · rw [getD_set_ne true hjk] at hun; exact hun
      refine mOp_put hoj hap (fun cs b => hsel j oj cs b hoj) (fun u H' hk => ?_) h1
      refine ih (listed.setIfInBounds j true) _ _ hfree' (ready_mono hr (Ne.symm hji)) (hy.put hap (fun cs b => hsel i oi cs b hi)) ?_
      rw [Array.setIfInBounds_comm _ _ hji, Act.put_comm (a := a) (y := oi.dst) u v (fun d hd hd2 => (Oper.apart_spec hap).2.1 d hd2 hd)]
      exact hk
theorem ER.ends {o : Oper} {a : Act} {H : GH} {R : Value → GH → Prop} (h : ER P C St EP o a H R) {w : World} (hs : SatG C H w) : ∃ v H', R v H' ∧ St H' ∧ ∃ w', SatG C H' w' := by
  rcases h with h | ⟨_, v, hr, hst⟩ | ⟨_, v, hr, hst⟩
  · have h3 := h w hs
    generalize (execOp a.eval o).run P w = r at h3
    cases r with
    | ok n w' =>
      cases n <;> simp only [eff] at h3
      case value v => obtain ⟨H', hr, hst', hs'⟩ := h3; exact ⟨v, H', hr, hst'.1, w', hs'⟩
      case skip => obtain ⟨H', hr, hst', hs'⟩ := h3; exact ⟨undef, H', hr, hst'.1, w', hs'⟩
      case enter g args =>
        obtain ⟨e, w'', fr, ⟨v, H', _, hr, hst', hs'⟩, _⟩ := h3 []
        exact ⟨v, H', hr, hst'.1, w'', hs'⟩
      case row rw args =>
        obtain ⟨v, w'', ⟨H', hr, hst', hs'⟩, _⟩ := h3 default []
        exact ⟨v, H', hr, hst'.1, w'', hs'⟩
    | halt y w' => simp only [eff] at h3
  · exact ⟨v, _, hr, hst, w, hs⟩
  · exact ⟨v, H, hr, hst, w, hs⟩
theorem mOp_push {k : Nat} {ok oj : Oper} {x : Value} {a : Act} {H : GH} (hk : ops[k]? = some ok) (hap : ok.apart ops oj = true) (hsk : ∀ cs b, ok.op ≠ .select cs b) {K K' : Act → GH → Prop} (hSt : ∀ x G, St G → St (G.1, x :: G.2)) (hst : St H) (hw0 : ∃ w, SatG C H w)
    (hK : ∀ u H', St H' → (∃ w, SatG C H' w) → K (a.put ok.dst u) H' → K' ((a.put oj.dst x).put ok.dst u) H') (h : mOp P ops C St St1 qf ef EP al z T k K a H) : mOp P ops C St St1 qf ef EP al z T k K' (a.put oj.dst x) H := by
  obtain ⟨h1, h2, h3⟩ := Oper.apart_spec hap
  have he : execOp (a.put oj.dst x).eval ok = execOp a.eval ok := execOp_put ok hsk a oj.dst x h3
  unfold mOp at *
  simp only [hk] at *
  rw [wanted_put ok a oj.dst x h3]
  split
  · rename_i hw
    rw [if_pos hw] at h
    split
    · rename_i hq
      rw [if_pos hq] at h
      obtain ⟨v, hv, hk⟩ := h
      exact ⟨v, hv.same he, hK v H hst hw0 hk⟩
    · rename_i hq
      rw [if_neg hq] at h
      split
      · rename_i hal
        rw [if_pos hal] at h
        exact ⟨h.1, fun b hb => hK _ _ (hSt _ _ hst) hb (h.2 b hb)⟩
      · rename_i hal
        rw [if_neg hal] at h
        obtain ⟨R, hR, hf, hk⟩ := h
        exact ⟨R, hR.same he, fun h1 h2 x => (hf h1 h2 x).same he, fun v H' hr hst hw => hK v H' hst hw (hk v H' hr hst hw)⟩
  · rename_i hw
    rw [if_neg hw] at h
    exact hK undef H hst hw0 h
theorem mOp_some {k : Nat} {ok : Oper} {a : Act} {H : GH} (hk : ops[k]? = some ok) {K : Act → GH → Prop} (hSt : ∀ x G, St G → St (G.1, x :: G.2)) (hst : St H) (hw0 : ∃ w, SatG C H w) (h : mOp P ops C St St1 qf ef EP al z T k K a H) : ∃ v H', St H' ∧ (∃ w, SatG C H' w) ∧ K (a.put ok.dst v) H' := by
  unfold mOp at h
  simp only [hk] at h
  obtain ⟨w, hw⟩ := hw0
  split at h
  · split at h
    · obtain ⟨v, _, hk⟩ := h; exact ⟨v, H, hst, ⟨w, hw⟩, hk⟩
    · split at h
      · have hs1 : SatG C (lay z T w.heap.size H) { w with heap := w.heap.push (.cells z.toArray T (0, 0)) } := Sat.new hw (.cells z.toArray T (0, 0)) (.cells w.heap.size z T (0, 0)) rfl (by simp [HObj.sat])
        exact ⟨_, _, hSt _ _ hst, ⟨_, hs1⟩, h.2 _ ⟨_, hs1⟩⟩
      obtain ⟨R, hR, _, hk⟩ := h
      obtain ⟨v, H', hr, hst', hw'⟩ := hR.ends hw
      exact ⟨v, H', hst', hw', hk v H' hr hst' hw'⟩
  · exact ⟨undef, H, hst, ⟨w, hw⟩, h⟩
theorem mOp_quiet {j : Nat} {oj : Oper} {a : Act} {H : GH} (hj : ops[j]? = some oj) (hq : qf j = true) {K : Act → GH → Prop} (h : mOp P ops C St St1 qf ef EP al z T j K a H) : ∃ v, QV P ops C (Sq St St1 ef j) oj v a ∧ K (a.put oj.dst v) H := by
  unfold mOp at h
  simp only [hj] at h
  split at h
  · rename_i hw
    try rw [if_pos hq] at h
    obtain ⟨v, hv, hk⟩ := h
    exact ⟨v, .inl ⟨hw, hv⟩, hk⟩
  · rename_i hw
    exact ⟨undef, .inr ⟨by simpa using hw, rfl⟩, h⟩
theorem QV.unique {o : Oper} {v u : Value} {a : Act} (h : QV P ops C St o v a) (h' : QV P ops C St o u a) {H : GH} (hst : St H) (hw0 : ∃ w, SatG C H w) : v = u := by
  obtain ⟨w, hw⟩ := hw0
  rcases h with ⟨h1, h2⟩ | ⟨h1, rfl⟩ <;> rcases h' with ⟨h3, h4⟩ | ⟨h3, rfl⟩
  · exact h2.unique h4 hst hw
  · rw [h1] at h3; cases h3
  · rw [h1] at h3; cases h3
  · rfl
theorem QV.back {oi oj : Oper} {v u : Value} {a : Act} (hy : QV P ops C St oi v (a.put oj.dst u)) (hap : oj.apart ops oi = true) (hsi : ∀ cs b, oi.op ≠ .select cs b) : QV P ops C St oi v a := by
  obtain ⟨h1, _, _⟩ := Oper.apart_spec hap
  unfold QV at *
  rw [wanted_put oi a oj.dst u h1] at hy
  rcases hy with ⟨hw, hv⟩ | h
  · exact .inl ⟨hw, hv.same (execOp_put oi hsi a oj.dst u h1).symm⟩
  · exact .inr h
theorem SatG.tail {x : HObj} {H : GH} {w : World} (h : SatG C (H.1, x :: H.2) w) : SatG C H w := Sat.drop (A := [x]) h
theorem eff_mono {St : GH → Prop} {R R' : Value → GH → Prop} {r : Result Next} (h : ∀ v G, R v G → St G → R' v G) (hh : eff P C St R r) : eff P C St R' r := by
  cases r with
  | ok n w' =>
    cases n <;> simp only [eff] at hh <;> simp only [eff]
    case value v => obtain ⟨H', h1, h2, h3⟩ := hh; exact ⟨H', h _ _ h1 h2, h2, h3⟩
    case skip => obtain ⟨H', h1, h2, h3⟩ := hh; exact ⟨H', h _ _ h1 h2, h2, h3⟩
    case enter g args => exact hh.mono fun e w'' ⟨v, H', he, h1, h2, h3⟩ => ⟨v, H', he, h _ _ h1 h2, h2, h3⟩
    case row rw args => exact hh.mono fun v w'' ⟨H', h1, h2, h3⟩ => ⟨H', h _ _ h1 h2, h2, h3⟩
  | halt y w' => simp only [eff] at hh
theorem ER.mono {o : Oper} {a : Act} {H : GH} {R R' : Value → GH → Prop} (h : ∀ v G, R v G → St G → R' v G) (hh : ER P C St EP o a H R) : ER P C St EP o a H R' := by
  rcases hh with hh | ⟨h1, v, h2, h3⟩ | ⟨h1, v, h2, h3⟩
  · exact .inl fun w hw => eff_mono (fun v G hr hs => h v G hr hs.1) (hh w hw)
  · exact .inr (.inl ⟨h1, v, h _ _ h2 h3, h3⟩)
  · exact .inr (.inr ⟨h1, v, h _ _ h2 h3, h3⟩)
/-- A new block is laid ahead of a call. -/
theorem mOp_lay {k : Nat} {ok oj : Oper} {x : Value} {b : Nat} {a : Act} {H : GH} (hSt : ∀ x G, St G → St (G.1, x :: G.2)) (hk : ops[k]? = some ok) (hqk : qf k = false) (hlt : k < al) (hin : al < ops.size) (hap : ok.apart ops oj = true) (hsk : ∀ cs b, ok.op ≠ .select cs b) {K K' : Act → GH → Prop} (hst : St H) (hw0 : ∃ w, SatG C (lay z T b H) w)
    (hK : ∀ u H', St H' → (∃ w, SatG C (lay z T b H') w) → K (a.put ok.dst u) H' → K' ((a.put oj.dst x).put ok.dst u) (lay z T b H')) (h : mOp P ops C St St1 qf ef EP al z T k K a H) : mOp P ops C St St1 qf ef EP al z T k K' (a.put oj.dst x) (lay z T b H) := by
  obtain ⟨h1, h2, h3⟩ := Oper.apart_spec hap
  have he : execOp (a.put oj.dst x).eval ok = execOp a.eval ok := execOp_put ok hsk a oj.dst x h3
  unfold mOp at *
  simp only [hk] at *
  rw [wanted_put ok a oj.dst x h3]
  split
  · rename_i hw
    rw [if_pos hw, if_neg (by simp [hqk]), if_neg (by omega)] at h
    rw [if_neg (by simp [hqk]), if_neg (by omega)]
    obtain ⟨R, hR, hf, hk⟩ := h
    have hf := hf hlt hin
    refine ⟨fun v G => ∃ H1 : GH, G = lay z T b H1 ∧ R v H1 ∧ St H1, (ER.mono (fun v G ⟨H1, e, hr, hs⟩ _ => ⟨H1, e, hr, hs⟩) (hf [.cells b z T (0, 0)])).same he, fun _ _ Y => ?_, ?_⟩
    · have := hf (Y ++ [.cells b z T (0, 0)])
      rw [List.append_assoc] at this
      refine ER.mono (fun v G ⟨H1, e, hr, hs⟩ _ => ⟨lay z T b H1, ?_, ⟨H1, rfl, hr, hs⟩, hSt _ _ hs⟩) (this.same he)
      rw [e, List.append_assoc]; rfl
    · rintro v G ⟨H1, rfl, hr, hst1⟩ hst' hw'
      exact hK v H1 hst1 hw' (hk v H1 hr hst1 (by obtain ⟨w, hw⟩ := hw'; exact ⟨w, SatG.tail (H := H1) hw⟩))
  · rename_i hw
    rw [if_neg hw] at h
    exact hK undef H hst hw0 h
theorem mOp_al {o : Oper} {a : Act} {H : GH} (ho : ops[al]? = some o) (hq : qf al = false) {K : Act → GH → Prop} : mOp P ops C St St1 qf ef EP al z T al K a H ↔ (if Region.wanted o (yielded ops a.tmps) = true then ALc P z T o ∧ (∀ b, (∃ w, SatG C (lay z T b H) w) → K (a.put o.dst (.pointer (some ⟨b, 0, none⟩))) (lay z T b H)) else K (a.put o.dst undef) H) := by
  unfold mOp
  simp only [ho, hq]
  simp
/-- An effect for which every other effect waits (but for the laying of the block) may be taken first. -/
theorem wpAnyM_firstE (hSt : ∀ x G, St G → St (G.1, x :: G.2)) (hW : waitsE md ops qf ef = true) (hqa : al < ops.size → qf al = false) (hga : ∀ o, ops[al]? = some o → o.guard = none) (hlate : ∀ j oj, ops[j]? = some oj → qf j = false → al < j → ∃ e ∈ oj.after, Region.binds md e = true ∧ e.on = al) {Q : Act → GH → Prop} {k : Nat} {ok : Oper} (hk : ops[k]? = some ok) (hqk : qf k = false) (hsel : ∀ (j : Nat) (o : Oper) cs b, ops[j]? = some o → o.op ≠ .select cs b) :
    ∀ (fuel : Nat) (listed : Array Bool) (a : Act) (H : GH), St H → (∃ w, SatG C H w) → EInv qf ef ops.size listed →
      (∀ j oj, ops[j]? = some oj → j ≠ k → listed.getD j true = false → (∀ e ∈ oj.after, Region.binds md e = true → e.on ≠ k) → ok.apart ops oj = true) →
      (∀ j oj, ops[j]? = some oj → qf j = false → j ≠ k → j ≠ al → listed.getD j true = false → ∃ e ∈ oj.after, Region.binds md e = true ∧ (if k = al then e.on = al else qf e.on = false ∧ e.on ≠ al) ∧ listed.getD e.on false = false) →
      k ∈ Region.ready md ops listed → mOp P ops C St St1 qf ef EP al z T k (wpAnyM P md ops C St St1 qf ef EP al z T Q fuel (listed.setIfInBounds k true)) a H → wpAnyM P md ops C St St1 qf ef EP al z T Q (fuel + 1) listed a H := by
  intro fuel
  induction fuel with
  | zero =>
    intro listed a H hst hw0 _ _ _ hr hh
    refine ⟨fun h => (by rw [h] at hr; cases hr), fun j hj => ?_⟩
    by_cases hjk : j = k
    · subst hjk; exact hh
    · have := ready_mono hj hjk
      obtain ⟨v, H', _, _, h2⟩ := mOp_some hk hSt hst hw0 hh
      rw [h2.1] at this
      cases this
  | succ fuel ih =>
    intro listed a H hst hw0 hB hfree hwait hr hh
    refine ⟨fun h => (by rw [h] at hr; cases hr), fun j hj => ?_⟩
    by_cases hjk : j = k
    · subst hjk; exact hh
    · obtain ⟨hjun, oj, hoj, hall⟩ := mem_ready.1 hj
      cases hqj : qf j with
      | false =>
        by_cases hja : j = al
        · subst hja
          have hjs : j < ops.size := (Array.getElem?_eq_some_iff.1 hoj).1
          have hlt : k < j := by
            rcases Nat.lt_trichotomy k j with h1 | h1 | h1
            · exact h1
            · exact absurd h1.symm hjk
            · obtain ⟨e, he, hb, hon⟩ := hlate k ok hk hqk h1
              obtain ⟨_, ok', hok', hall'⟩ := mem_ready.1 hr
              rw [hk] at hok'
              cases hok'
              have h2 := hall' e he hb
              rw [hon] at h2
              rcases Nat.lt_or_ge j listed.size with h' | h'
              · simp [h'] at h2 hjun; rw [hjun] at h2; cases h2
              · simp [Array.getElem?_eq_none h'] at h2
          have hnot : ∀ e ∈ oj.after, Region.binds md e = true → e.on ≠ k := fun e he hb heq => by
            have h1 := hall e he hb
            have h0 := (mem_ready.1 hr).1
            rw [heq] at h1
            rcases Nat.lt_or_ge k listed.size with h' | h'
            · simp [h'] at h0 h1; rw [h0] at h1; cases h1
            · simp [Array.getElem?_eq_none h'] at h1
          have hap := hfree j oj hoj hjk hjun hnot
          have hwj : ∀ (y : Nat → Option Bool), Region.wanted oj y = true := fun y => by unfold Region.wanted; rw [hga oj hoj]
          obtain ⟨v0, H0, hst0, hw00, h0⟩ := mOp_some hk hSt hst hw0 hh
          have hA : ALc P z T oj := by
            have h5 := (mOp_al hoj hqj).1 (h0.2 j (ready_mono hj hjk))
            rw [if_pos (hwj _)] at h5
            exact h5.1
          refine (mOp_al hoj hqj).2 ?_
          rw [if_pos (hwj _)]
          refine ⟨hA, fun b hb => ?_⟩
          refine ih (listed.setIfInBounds j true) _ (lay z T b H) (hSt _ _ hst) hb (hB.step hW hj) (fun i oi hi hik hun hno => by
            refine hfree i oi hi hik ?_ hno
            by_cases hij : j = i
            · subst hij; exact hjun
            · rw [getD_set_ne true hij] at hun; exact hun) (fun i oi hi hqi hik hia hun => by
            rw [getD_set_ne true (Ne.symm hia)] at hun
            obtain ⟨e, he, hb, hc, hu⟩ := hwait i oi hi hqi hik hia hun
            rw [if_neg (Ne.symm hjk)] at hc
            exact ⟨e, he, hb, by rw [if_neg (Ne.symm hjk)]; exact hc, by rw [getD_set_ne false (Ne.symm hc.2)]; exact hu⟩) (ready_mono hr (Ne.symm hjk)) ?_
          refine mOp_lay hSt hk hqk hlt hjs hap (fun cs b => hsel k ok cs b hk) hst hb (fun u H' hst' hw' hK => ?_) hh
          have h5 := (mOp_al hoj hqj).1 (hK.2 j (ready_mono hj hjk))
          rw [if_pos (hwj _)] at h5
          have h6 := h5.2 b hw'
          rw [Array.setIfInBounds_comm _ _ (Ne.symm hjk)] at h6
          rw [Act.put_comm (a := a) (x := oj.dst) (y := ok.dst) _ u (fun d hd hd2 => (Oper.apart_spec hap).2.1 d hd2 hd)]
          exact h6
        · obtain ⟨e, he, hb, _, hu⟩ := hwait j oj hoj hqj hjk hja hjun
          rw [hall e he hb] at hu; cases hu
      | true =>
      have hej : ef j = false := by
        cases he : ef j with
        | false => rfl
        | true =>
          have h1 := hB.all hW hr hqk (Array.getElem?_eq_some_iff.1 hoj).1 he
          rcases Nat.lt_or_ge j listed.size with h' | h'
          · simp [h'] at hjun h1; rw [hjun] at h1; cases h1
          · simp [Array.getElem?_eq_none h'] at hjun
      have hnot : ∀ e ∈ oj.after, Region.binds md e = true → e.on ≠ k := fun e he hb heq => by
        have h1 := hall e he hb
        have h0 := (mem_ready.1 hr).1
        rw [heq] at h1
        rcases Nat.lt_or_ge k listed.size with h' | h'
        · simp [h'] at h0 h1; rw [h0] at h1; cases h1
        · simp [Array.getElem?_eq_none h'] at h1
      have hap := hfree j oj hoj hjk hjun hnot
      have hsj := fun cs b => hsel j oj cs b hoj
      obtain ⟨v0, H0, hst0, hw00, h0⟩ := mOp_some hk hSt hst hw0 hh
      obtain ⟨vj, hvj, _⟩ := mOp_quiet hoj hqj (h0.2 j (ready_mono hj hjk))
      have hva := hvj.back hap hsj
      refine qv_mOp hoj hqj hva ?_
      have hfree' : ∀ i oi, ops[i]? = some oi → i ≠ k → (listed.setIfInBounds j true).getD i true = false →
          (∀ e ∈ oi.after, Region.binds md e = true → e.on ≠ k) → ok.apart ops oi = true := fun i oi hi hik hun hno => by
        refine hfree i oi hi hik ?_ hno
        by_cases hij : j = i
        · subst hij; exact hjun
        · rw [getD_set_ne true hij] at hun; exact hun
      have hwait' : ∀ i oi, ops[i]? = some oi → qf i = false → i ≠ k → i ≠ al → (listed.setIfInBounds j true).getD i true = false → ∃ e ∈ oi.after, Region.binds md e = true ∧ (if k = al then e.on = al else qf e.on = false ∧ e.on ≠ al) ∧ (listed.setIfInBounds j true).getD e.on false = false := fun i oi hi hqi hik hia hun => by
        have hij : j ≠ i := fun e => by subst e; rw [hqj] at hqi; cases hqi
        rw [getD_set_ne true hij] at hun
        obtain ⟨e, he, hb, hqe, hu⟩ := hwait i oi hi hqi hik hia hun
        have hje : j ≠ e.on := fun h => by
          by_cases hka : k = al
          · rw [if_pos hka] at hqe; exact hjk (h.trans (hqe.trans hka.symm))
          · rw [if_neg hka] at hqe; rw [← h, hqj] at hqe; cases hqe.1
        exact ⟨e, he, hb, hqe, by rw [getD_set_ne false hje]; exact hu⟩
      refine ih (listed.setIfInBounds j true) _ H hst hw0 (hB.step hW hj) hfree' hwait' (ready_mono hr (Ne.symm hjk)) ?_
      refine mOp_push hk hap (fun cs b => hsel k ok cs b hk) hSt hst hw0 (fun u H' hst' hw' hK => ?_) hh
      obtain ⟨v', hv', hK'⟩ := mOp_quiet hoj hqj (hK.2 j (ready_mono hj hjk))
      have hvv : v' = vj := (hv'.back hap hsj).unique hva ⟨hst', fun h => by rw [hej] at h; cases h⟩ hw'
      subst hvv
      rw [Array.setIfInBounds_comm _ _ (Ne.symm hjk)] at hK'
      rw [Act.put_comm (a := a) (x := oj.dst) (y := ok.dst) v' u (fun d hd hd2 => (Oper.apart_spec hap).2.1 d hd2 hd)]
      exact hK'
theorem wpAnyM_lex (hSt : ∀ x G, St G → St (G.1, x :: G.2)) (hW : waitsE md ops qf ef = true) (hqa : al < ops.size → qf al = false) (hga : ∀ o, ops[al]? = some o → o.guard = none) (hlate : ∀ j oj, ops[j]? = some oj → qf j = false → al < j → ∃ e ∈ oj.after, Region.binds md e = true ∧ e.on = al) {Q : Act → GH → Prop} (hs : Region.noSelect ops = true) (hch : chainE md ops (fun i => qf i || Nat.beq i al) = true) : ∀ (l : List Oper) (k : Nat) (listed : Array Bool) (a : Act) (H : GH), (∀ j, l[j]? = ops[k + j]?) → (∀ i, i < k → listed.getD i true = true) → (∀ i, k ≤ i → listed.getD i false = false) →
    Region.lexFrom md ops l.length k listed = true → EInv qf ef ops.size listed → St H → (∃ w, SatG C H w) → wpMix P ops C St St1 qf ef EP al z T Q l k a H → wpAnyM P md ops C St St1 qf ef EP al z T Q l.length listed a H
  | [], _, _, _, _, _, _, _, hB, _, _, _, h => ⟨by simpa [Region.lexFrom] using hB, h⟩
  | o :: l, k, listed, a, H, hl, hi1, hi2, hB, hEI, hst, hw0, h => by
    have h0 : ops[k]? = some o := by simpa using (hl 0).symm
    simp only [List.length_cons, Region.lexFrom, Bool.and_eq_true] at hB
    obtain ⟨⟨hr, hf⟩, hB'⟩ := hB
    have hr' : k ∈ Region.ready md ops listed := by simpa using hr
    have hl' : ∀ j, l[j]? = ops[k + 1 + j]? := fun j => by have := hl (j + 1); simpa [Nat.add_assoc, Nat.add_comm 1 j] using this
    have hi1' : ∀ i, i < k + 1 → (listed.setIfInBounds k true).getD i true = true := fun i hi => by
      by_cases hik : k = i
      · subst hik
        by_cases hks : k < listed.size
        · simp [Array.getD, hks]
        · simp [Array.getD, hks]
      · rw [getD_set_ne true hik]; exact hi1 i (by omega)
    have hi2' : ∀ i, k + 1 ≤ i → (listed.setIfInBounds k true).getD i false = false := fun i hi => by
      rw [getD_set_ne false (by omega)]; exact hi2 i (by omega)
    have ih := fun a' H' (hst' : St H') (hw' : ∃ w, SatG C H' w) (hm : wpMix P ops C St St1 qf ef EP al z T Q l (k + 1) a' H') => wpAnyM_lex hSt hW hqa hga hlate hs hch l (k + 1) (listed.setIfInBounds k true) a' H' hl' hi1' hi2' hB' (hEI.step hW hr') hst' hw' hm
    unfold wpMix at h
    cases hq : qf k with
    | true =>
      rw [hq] at h
      have hv : ∃ v, QV P ops C (Sq St St1 ef k) o v a ∧ wpMix P ops C St St1 qf ef EP al z T Q l (k + 1) (a.put o.dst v) H := by
        split at h
        · rename_i hw; obtain ⟨v, h1, h2⟩ : ∃ v, QY P C (Sq St St1 ef k) o a v ∧ _ := by simpa using h
          exact ⟨v, .inl ⟨hw, h1⟩, h2⟩
        · rename_i hw; exact ⟨undef, .inr ⟨by simpa using hw, rfl⟩, h⟩
      obtain ⟨v, hv, hm⟩ := hv
      exact wpAnyM_firstQ h0 hq (Region.noSelect_spec hs) l.length listed a H (Region.free_spec h0 hf) hr' hv (ih _ _ hst hw0 hm)
    | false =>
      rw [hq] at h
      refine wpAnyM_firstE hSt hW hqa hga hlate h0 hq (Region.noSelect_spec hs) l.length listed a H hst hw0 hEI (Region.free_spec h0 hf) ?_ hr' ?_
      · intro j oj hj hqj hjk hja hun
        have hkj : k < j := by
          rcases Nat.lt_trichotomy j k with h1 | h1 | h1
          · rw [hi1 j h1] at hun; cases hun
          · exact absurd h1 hjk
          · exact h1
        have hjs : j < ops.size := (Array.getElem?_eq_some_iff.1 hj).1
        by_cases hka : k = al
        · obtain ⟨e, he, hb, hon⟩ := hlate j oj hj hqj (hka ▸ hkj)
          exact ⟨e, he, hb, by rw [if_pos hka]; exact hon, hi2 e.on (by rw [hon, hka]; exact Nat.le_refl _)⟩
        unfold chainE at hch
        have h1 := List.all_eq_true.1 hch j (by simpa using hjs)
        have bj : Nat.beq j al = false := by
          cases hb : Nat.beq j al with
          | false => rfl
          | true => exact absurd (Nat.eq_of_beq_eq_true hb) hja
        have bk : Nat.beq k al = false := by
          cases hb : Nat.beq k al with
          | false => rfl
          | true => exact absurd (Nat.eq_of_beq_eq_true hb) hka
        simp only [hqj, bj, Bool.false_or] at h1
        have h2 := List.all_eq_true.1 h1 k (by simpa using hkj)
        simp only [hq, bk, Bool.false_or, hj] at h2
        obtain ⟨e, he, hb⟩ := Array.any_eq_true'.1 h2
        simp only [Bool.and_eq_true, Bool.not_eq_true', Bool.or_eq_false_iff] at hb
        exact ⟨e, he, hb.1.1, by rw [if_neg hka]; exact ⟨hb.1.2.1, fun h => by rw [h] at hb; simp at hb⟩, hi2 e.on (Nat.le_of_ble_eq_true hb.2)⟩
      · unfold mOp
        simp only [h0]
        split
        · rename_i hw
          rw [if_pos hw] at h
          rw [if_neg (by simp)] at h
          rw [if_neg (by simp [hq])]
          split
          · rename_i hka
            rw [if_pos hka] at h
            exact ⟨h.1, fun b hb => ih _ _ (hSt _ _ hst) hb (h.2 b hb)⟩
          · rename_i hka
            rw [if_neg hka] at h
            obtain ⟨R, hR, hfr, hk⟩ := h
            exact ⟨R, hR, hfr, fun v H' hr hst' hw' => ih _ _ hst' hw' (hk v H' hr hst' hw')⟩
        · rename_i hw
          rw [if_neg hw] at h
          exact ih _ _ hst hw0 h
end
section
variable (C : Ctx) (P : Program) (H0 H1 : Heap) (qf ef : Nat → Bool) (EP : List PanicEntry → Heap → Prop) (al : Nat) (z : List Value) (T : TypeId) (n : Nat)
/-- An effect in the walk: it returns; it panics, and the walk goes on as a ghost with some value; or the walk is a ghost already. (fr: a block is laid later on: then it must be a call.) -/
inductive EffG (fr : Bool) (f : Fr) (o : Oper) (H : Heap) (b : Bool) (K : Bool → Value → Heap → Prop) : Prop
  | ret (hfr : fr = false) (hb : b = true) (h : OpW C P false n f o (fun v H' => Sub H' H0 ∧ K true v H') (fun _ _ => False) H)
  | pan (hfr : fr = false) (hb : b = true) (v : Value) (hs : Sub H H0) (h : OpW C P false n f o (fun _ _ => False) EP H) (k : K false v H)
  | call (hb : b = true) {c : Call} {x : Operand} {g : FuncId} {first captured : Array Value} (ho : o.op = .call c) (hc : c.callee = .value x) (hv : ev n f x = .func (.func g) first captured) (hg : ∀ (x : Array Value) (w : World), (callFunc g x).run P w = .ok (.enter g x) w)
      (h : CallI C P g (first.toList ++ c.args.toList.map (ev n f) ++ captured.toList).toArray H (endW (fun v H' => Sub H' H0 ∧ K true v H') (fun _ _ => False)))
  | callp (hb : b = true) {c : Call} {x : Operand} {g : FuncId} {first captured : Array Value} (v : Value) (hs : Sub H H0) (ho : o.op = .call c) (hc : c.callee = .value x) (hv : ev n f x = .func (.func g) first captured) (hg : ∀ (x : Array Value) (w : World), (callFunc g x).run P w = .ok (.enter g x) w)
      (h : CallI C P g (first.toList ++ c.args.toList.map (ev n f) ++ captured.toList).toArray H (endW (fun _ _ => False) EP)) (k : K false v H)
  | ghost (hb : b = false) (v : Value) (hs : Sub H H0) (k : K false v H)
def MListW (ops : List Oper) (Q : Bool → Fr → Heap → Prop) (l : List Oper) : Nat → Bool → Fr → Heap → Prop := @List.rec Oper (fun _ => Nat → Bool → Fr → Heap → Prop) (fun _ b f H => Q b f H)
    (fun o _ ih k b f H => guardW n ops f o.guard (fun f => cond (qf k) (cond (ef k) (QOpW C P H1 true n f o fun v => putK f o.dst v fun f' => ih (k + 1) b f' H) (QOpW C P H0 true n f o fun v => putK f o.dst v fun f' => ih (k + 1) b f' H))
        (cond (Nat.beq k al) (∀ x, putK f o.dst (.pointer (some ⟨x, 0, none⟩)) fun f' => ih (k + 1) b f' (.cells x z T (0, 0) :: H)) (EffG C P H0 EP n (Nat.blt k al && Nat.blt al ops.length) f o H b (fun b' v H' => putK f o.dst v fun f' => ih (k + 1) b' f' H'))))
      (fun f => putK f o.dst undef fun f' => ih (k + 1) b f' H)) l
end
section
variable {C : Ctx} {P : Program} {H0 H1 : Heap} {qf ef : Nat → Bool} {EP : List PanicEntry → Heap → Prop} {al : Nat} {z : List Value} {T : TypeId} {n : Nat}
theorem eff_up {St : Heap → Prop} {K : Bool → Value → Heap → Prop} {r : Result Next} (h : SL.eff P C St (fun v H => K true v H) r) : eff P C (fun H' => St H'.2 ∧ H'.1 = true) (fun v G => K G.1 v G.2) r := by
  cases r with
  | ok nx w' =>
    cases nx <;> simp only [SL.eff] at h <;> simp only [eff]
    case value v => obtain ⟨H', h1, h2, h3⟩ := h; exact ⟨(true, H'), h1, ⟨h2, rfl⟩, h3⟩
    case skip => obtain ⟨H', h1, h2, h3⟩ := h; exact ⟨(true, H'), h1, ⟨h2, rfl⟩, h3⟩
    case enter g args => exact h.mono fun e w'' ⟨v, H', he, h1, h2, h3⟩ => ⟨v, (true, H'), he, h1, ⟨h2, rfl⟩, h3⟩
    case row rw args => exact h.mono fun v w'' ⟨H', h1, h2, h3⟩ => ⟨(true, H'), h1, ⟨h2, rfl⟩, h3⟩
  | halt y w' => simp only [SL.eff] at h
theorem effP_of {f : Fr} {o : Oper} {a : Act} {H : Heap} (h : OpW C P false n f o (fun _ _ => False) EP H) (ht : TR C.ds n f a) : ∀ w, Sat C H w → effP P C EP ((execOp a.eval o).run P w) := by
  intro w hs
  have key := OpW.sound (next := fun _ _ => False) (Q := fun e _ w' => ∃ c H', e = .panic c ∧ EP c H' ∧ Sat C H' w') h ht hs (fun _ _ _ hk _ => hk) (fun c H' w' he hs' => ⟨c, H', rfl, he, hs'⟩)
  unfold Oper.wp at key
  generalize (execOp a.eval o).run P w = r at key ⊢
  cases r with
  | ok nx w' =>
    cases nx <;> simp only [Oper.upon] at key <;> simp only [effP]
    case enter g args =>
      refine key.mono fun e w'' hh => ?_
      cases e with
      | returned v => exact hh.elim
      | panicked c => obtain ⟨c', H', he, h1, h2⟩ := hh; cases he; exact ⟨c, H', rfl, h1, h2⟩
      | outgrown => obtain ⟨_, _, c', H', he, _⟩ := hh; cases he
    case row rw args =>
      obtain ⟨v, w'', hh, _⟩ := key default []
      exact hh
  | halt y w' =>
    cases y <;> simp only [Oper.upon] at key <;> simp only [effP]
    obtain ⟨c', H', he, h1, h2⟩ := key
    cases he
    exact ⟨H', h1, h2⟩
/-- A frame for the letting go of objects. -/
theorem Sub.frame {H H' : Heap} (X : Heap) (h : Sub H H') : Sub (X ++ H) (X ++ H') := fun C w hs => by
  have hH := hs.drop
  have h1 := h ⟨w, (· ∈ blks H), fun _ => none, fun _ _ h => (by cases h), []⟩ w ⟨rfl, rfl, rfl, Nat.le_refl _, fun _ _ _ => rfl, hH.objs, hH.nodup, fun r hr => .inl hr⟩
  have hsub : ∀ r ∈ blks H', r ∈ blks H := fun r hr => by
    rcases h1.mine r hr with h2 | h2
    · exact h2
    · have h3 := h1.lt r hr; simp only at h2; omega
  have hnd := hs.nodup
  simp only [blks, List.flatMap_append] at hnd
  obtain ⟨n1, n2, n3⟩ := List.nodup_append.1 hnd
  refine ⟨hs.os, hs.tape, hs.output, hs.size, hs.keep, fun o ho => ?_, ?_, fun r hr => ?_⟩
  · rcases List.mem_append.1 ho with ho | ho
    · exact hs.objs o (by simp [ho])
    · have := h1.objs o ho
      cases o <;> exact this
  · simp only [blks, List.flatMap_append]
    exact List.nodup_append.2 ⟨n1, h1.nodup, fun a ha b hb => n3 a ha b (hsub b hb)⟩
  · simp only [blks, List.flatMap_append, List.mem_append] at hr
    refine hs.mine r ?_
    simp only [blks, List.flatMap_append, List.mem_append]
    exact hr.imp id (hsub r)
theorem CallI.frame {g : FuncId} {args : Array Value} {H : Heap} {K : Ending → Heap → Prop} (X : Heap) (h : CallI C P g args H K) : CallI C P g args (X ++ H) (fun e G => ∃ H1, K e H1 ∧ Sub G (X ++ H1)) := by
  obtain ⟨A, B, R, hp, hft, hk⟩ := h
  refine ⟨A, B ++ X, R, Sub.trans (Sub.frame X hp) (Sub.of_perm (X := []) ?_), fun F' he => hft F' ⟨he.F, fun x hx => he.H x (by simp [hx])⟩, fun e A' hR => ?_⟩
  · rw [List.nil_append, ← List.append_assoc A]
    exact List.perm_append_comm
  · rw [forceH_eq]
    refine ⟨_, by have := hk e A' hR; rwa [forceH_eq] at this, Sub.of_perm (X := []) ?_⟩
    rw [List.nil_append, ← List.append_assoc A']
    exact List.perm_append_comm
theorem call_run {f : Fr} {o : Oper} {a : Act} {c : Call} {x : Operand} {g : FuncId} {first captured : Array Value} (ho : o.op = .call c) (hc : c.callee = .value x) (hv : ev n f x = .func (.func g) first captured) (hg : ∀ (x : Array Value) (w : World), (callFunc g x).run P w = .ok (.enter g x) w) (ht : TR C.ds n f a) (w : World) :
    (execOp a.eval o).run P w = .ok (.enter g (first.toList ++ c.args.toList.map (ev n f) ++ captured.toList).toArray) w := by
  rw [ht.eval]
  unfold execOp; simp only [ho]
  simp only [resolve, hc, Deferred.ofValue, hv]
  have : (first.toList ++ c.args.toList.map (ev n f) ++ captured.toList).toArray = first ++ c.args.map (ev n f) ++ captured := by
    rw [map_args]; simp
  rw [this]
  simpa [invoke] using hg (first ++ c.args.map (ev n f) ++ captured) w
theorem EffG.erf {f : Fr} {o : Oper} {a : Act} {H : Heap} {b : Bool} {K : Bool → Value → Heap → Prop} (h : EffG C P H0 EP n true f o H b K) (ht : TR C.ds n f a) : ERF P C (fun G => Sub G.2 H0) EP o a (b, H) (fun v G => K G.1 v G.2) := by
  intro X
  have hX : ∀ {G : Heap}, Sub G H0 → Sub (X ++ G) H0 := fun h _ _ hs => h.sat hs.drop
  cases h with
  | ret hfr => cases hfr
  | pan hfr => cases hfr
  | call hb ho hc hv hg h =>
    subst hb
    refine .inl fun w hs => ?_
    rw [call_run ho hc hv hg ht]
    refine (CallI.sound (CallI.frame X h) hs).mono fun e w'' ⟨hne, H', ⟨H1, hk, hsub⟩, hs'⟩ => ?_
    cases e with
    | returned v =>
      simp only [endW, forceV_eq] at hk
      exact ⟨v, (true, X ++ H1), rfl, ⟨(true, H1), rfl, hk.2, hk.1⟩, ⟨hX hk.1, rfl⟩, hsub.sat hs'⟩
    | panicked c => exact hk.elim
    | outgrown => exact absurd rfl hne
  | callp hb v hs0 ho hc hv hg h k =>
    subst hb
    refine .inr (.inl ⟨fun w hs => ?_, v, ⟨(false, H), rfl, k, hs0⟩, hX hs0⟩)
    rw [call_run ho hc hv hg ht]
    refine (CallI.sound h (Sat.drop (A := X) hs)).mono fun e w'' ⟨hne, H', hk, hs'⟩ => ?_
    cases e with
    | returned v => simp only [endW, forceV_eq] at hk
    | panicked c => exact ⟨c, H', rfl, hk, hs'⟩
    | outgrown => exact absurd rfl hne
  | ghost hb v hs0 k => subst hb; exact .inr (.inr ⟨rfl, v, ⟨(false, H), rfl, k, hs0⟩, hX hs0⟩)
theorem EffG.er {fr : Bool} {f : Fr} {o : Oper} {a : Act} {H : Heap} {b : Bool} {K : Bool → Value → Heap → Prop} (hn : 0 < n) (h : EffG C P H0 EP n fr f o H b K) (ht : TR C.ds n f a) : ER P C (fun G => Sub G.2 H0) EP o a (b, H) (fun v G => K G.1 v G.2) := by
  cases h with
  | ret _ hb h => subst hb; exact .inl fun w hs => eff_up (SL.ER.of_op hn h ht w hs)
  | pan _ hb v hs h k => exact .inr (.inl ⟨effP_of h ht, v, k, hs⟩)
  | call hb ho hc hv hg h =>
    subst hb
    refine .inl fun w hs => ?_
    rw [call_run ho hc hv hg ht]
    refine (CallI.sound h hs).mono fun e w'' ⟨hne, H', hk, hs'⟩ => ?_
    cases e with
    | returned v =>
      simp only [endW, forceV_eq] at hk
      exact ⟨v, (true, H'), rfl, hk.2, ⟨hk.1, rfl⟩, hs'⟩
    | panicked c => exact hk.elim
    | outgrown => exact absurd rfl hne
  | callp hb v hs0 ho hc hv hg h k =>
    refine .inr (.inl ⟨fun w hs => ?_, v, k, hs0⟩)
    rw [call_run ho hc hv hg ht]
    refine (CallI.sound h hs).mono fun e w'' ⟨hne, H', hk, hs'⟩ => ?_
    cases e with
    | returned v => simp only [endW, forceV_eq] at hk
    | panicked c => exact ⟨c, H', rfl, hk, hs'⟩
    | outgrown => exact absurd rfl hne
  | ghost hb v hs k => subst hb; exact .inr (.inr ⟨rfl, v, k, hs⟩)
theorem MListW.sound {ops : Array Oper} {Q : Bool → Fr → Heap → Prop} (hA : ∀ o, ops[al]? = some o → ALc P z T o) (hn : 0 < n) (hnc : callFree ops qf = true) : ∀ (l : List Oper) (k : Nat) (b : Bool) {f : Fr} {H : Heap} {a : Act}, (∀ j, l[j]? = ops[k + j]?) → MListW C P H0 H1 qf ef EP al z T n ops.toList Q l k b f H → TR C.ds n f a →
    wpMix P ops C (fun G => Sub G.2 H0) (fun G => Sub G.2 H1) qf ef EP al z T (fun a G => ∃ f, Q G.1 f G.2 ∧ TR C.ds n f a) l k a (b, H)
  | [], _, b, f, H, a, _, h, ht => ⟨f, h, ht⟩
  | o :: l, k, b, f, H, a, hl, h, ht => by
    have h0 : ops[k]? = some o := by simpa using (hl 0).symm
    have hl' : ∀ j, l[j]? = ops[k + 1 + j]? := fun j => by have := hl (j + 1); simpa [Nat.add_assoc, Nat.add_comm 1 j] using this
    replace h : guardW n ops.toList f o.guard (fun f => cond (qf k) (cond (ef k) (QOpW C P H1 true n f o fun v => putK f o.dst v fun f' => MListW C P H0 H1 qf ef EP al z T n ops.toList Q l (k + 1) b f' H) (QOpW C P H0 true n f o fun v => putK f o.dst v fun f' => MListW C P H0 H1 qf ef EP al z T n ops.toList Q l (k + 1) b f' H)) (cond (Nat.beq k al) (∀ x, putK f o.dst (.pointer (some ⟨x, 0, none⟩)) fun f' => MListW C P H0 H1 qf ef EP al z T n ops.toList Q l (k + 1) b f' (.cells x z T (0, 0) :: H)) (EffG C P H0 EP n (Nat.blt k al && Nat.blt al ops.toList.length) f o H b (fun b' v H' => putK f o.dst v fun f' => MListW C P H0 H1 qf ef EP al z T n ops.toList Q l (k + 1) b' f' H'))))
      (fun f => putK f o.dst undef fun f' => MListW C P H0 H1 qf ef EP al z T n ops.toList Q l (k + 1) b f' H) := h
    simp only [putK_eq] at h
    unfold wpMix
    rcases guardW.sound (ops := ops) ht h with ⟨hw, h⟩ | ⟨hw, h⟩
    · rw [if_pos hw]
      cases hq : qf k with
      | true =>
        rw [hq] at h
        simp only [cond_true] at h
        have hcf : ∀ c x, o.op = .call c → c.callee = .value x → False := fun c x ho hc => by
          have hks : k < ops.size := (Array.getElem?_eq_some_iff.1 h0).1
          have h1 := List.all_eq_true.1 hnc k (by simpa using hks)
          simp only [hq, h0, ho, hc] at h1
          simp at h1
        simp only [if_true]
        cases he : ef k with
        | true =>
          rw [he] at h
          simp only [cond_true] at h
          obtain ⟨v, hv, hk⟩ := QOpW.plain h ht hcf
          exact ⟨v, fun w ⟨H2, ⟨_, hs3⟩, hs2⟩ => hv w ((hs3 he).sat hs2), MListW.sound hA hn hnc l (k + 1) b hl' hk (ht.put o.dst v)⟩
        | false =>
          rw [he] at h
          simp only [cond_false] at h
          obtain ⟨v, hv, hk⟩ := QOpW.plain h ht hcf
          exact ⟨v, fun w ⟨H2, ⟨hs1, _⟩, hs2⟩ => hv w (hs1.sat hs2), MListW.sound hA hn hnc l (k + 1) b hl' hk (ht.put o.dst v)⟩
      | false =>
        rw [hq] at h
        simp only [cond_false] at h
        rw [if_neg (by simp)]
        cases hka : Nat.beq k al with
        | true =>
          rw [hka] at h
          simp only [cond_true] at h
          have hka := Nat.eq_of_beq_eq_true hka
          rw [if_pos hka]
          exact ⟨hA o (hka ▸ h0), fun x _ => MListW.sound hA hn hnc l (k + 1) b hl' (h x) (ht.put o.dst _)⟩
        | false =>
          rw [hka] at h
          simp only [cond_false] at h
          rw [if_neg (fun e => by rw [e] at hka; simp at hka)]
          refine ⟨_, EffG.er hn h ht, fun h1 h2 => ?_, fun v H' hk hst hw => MListW.sound hA hn hnc l (k + 1) H'.1 hl' hk (ht.put o.dst v)⟩
          have hfr : (Nat.blt k al && Nat.blt al ops.toList.length) = true := by simp [Nat.blt_eq, h1, h2]
          rw [hfr] at h
          exact EffG.erf h ht
    · rw [if_neg (by simp [hw])]
      exact MListW.sound hA hn hnc l (k + 1) b hl' h (ht.put o.dst undef)
/-- The temporaries that a region writes. -/
def dsts (ops : Array Oper) : List Nat := ops.toList.filterMap (·.dst)
theorem core (es : List Nat) (H0 : Heap) (EP : List PanicEntry → Heap → Prop) (al : Nat) (z : List Value) (T : TypeId) {id : Nat} {ops : Array Oper} {Q : Exit → Fr → Heap → Prop} {f : Fr} {H : Heap} (hn : Nat.blt 0 n = true) (hm : P.follows .mixedOrders = true) (hB : Region.lexB .any ops = true)
    (hch : chainE .any ops (fun i => qfl es i || Nat.beq i al) = true) (hnc : callFree ops (qfl es) = true) (hqa : al < ops.size → qfl es al = false) (hA : ∀ o, ops[al]? = some o → ALc P z T o) (hlate : ∀ j oj, ops[j]? = some oj → qfl es j = false → al < j → ∃ e ∈ oj.after, Region.binds .any e = true ∧ e.on = al)
    (h0 : Sub H H0) (hP : ∀ c f' H', (∀ t, t ∉ dsts ops → f' t = f t) → EP c H' → Q (.panic c) f' H')
    (h : MListW C P H0 H0 (qfl es) (efl []) EP al z T n ops.toList (fun b f H => b = true → Q .normal f H) ops.toList 0 true f H) (hd : noDefer ops = true := by kernel_rfl) : DrawI C P n id ops Q f H :=
  ⟨hm, hd, fun a w ht hs' => by
    simp only [Region.lexB, Bool.and_eq_true] at hB
    have hrep : ∀ k, (Array.replicate ops.size false).getD k false = false := fun k => by
      by_cases hk : k < ops.size <;> simp [Array.getD, hk]
    have hEI : EInv (qfl es) (efl []) ops.size (Array.replicate ops.size false) := fun k _ hk => by rw [hrep] at hk; cases hk
    have hW : waitsE .any ops (qfl es) (efl []) = true := waitsE_nil
    have hSt : ∀ (x : HObj) (G : GH), Sub G.2 H0 → Sub (x :: G.2) H0 := fun x G h _ _ hs => h.sat (Sat.drop (A := [x]) hs)
    refine wpAnyM_sound (St := fun G => Sub G.2 H0) (St1 := fun G => Sub G.2 H0) (qf := qfl es) (ef := efl []) (EP := EP) (al := al) (z := z) (T := T) hSt hW (fun i hi => by simp [efl] at hi) (Q := fun a G => ∃ f, (G.1 = true → Q .normal f G.2) ∧ TR C.ds n f a) (J := fun a => ∃ f', TR C.ds n f' a ∧ ∀ t, t ∉ dsts ops → f' t = f t)
      (fun a i o v ho ⟨f', ht', hf'⟩ => ⟨_, ht'.put o.dst v, fun t hnt => ?_⟩) (fun a' G w' hs' hal _ ⟨f', hq, ht'⟩ => ⟨by simp, f', G.2, hq hal, ht', hs'⟩) (fun a' c H' w' ⟨f', ht', hf'⟩ he hs' => ⟨by simp, f', H', hP c f' H' hf' he, ht', hs'⟩) _ _ _ (true, H) _ rfl ⟨f, ht, fun _ _ => rfl⟩ h0 hEI (fun _ _ _ => h0) hs' ?_
    · rw [← hf' t hnt]
      cases hdst : o.dst with
      | none => rfl
      | some d =>
        have hm : d ∈ dsts ops := List.mem_filterMap.2 ⟨o, by have := Array.mem_of_getElem? ho; simpa using this, hdst⟩
        have hne : t ≠ d := fun e => hnt (e ▸ hm)
        show upd f' d v t = f' t
        unfold upd
        cases hb : Nat.beq t d with
        | true => exact absurd (Nat.eq_of_beq_eq_true hb) hne
        | false => rfl
    have := wpAnyM_lex (P := P) (md := .any) (C := C) (St := fun G => Sub G.2 H0) (St1 := fun G => Sub G.2 H0) (EP := EP) (al := al) (z := z) (T := T) hSt hW hqa (fun o ho => (hA o ho).guard) hlate hB.1 hch ops.toList 0 (Array.replicate ops.size false) a (true, H) (by simp) (fun i hi => absurd hi (by omega)) (fun i _ => hrep i) (by simpa using hB.2) hEI h0 ⟨_, hs'⟩
      (MListW.sound hA (by simpa [Nat.blt_eq] using hn) hnc ops.toList 0 true (by simp) h ht)
    simpa using this⟩
/-- A region that draws its order, in which effects (their places: es) may panic. EP: what holds behind a panic; hP: that this is enough, whatever temporaries of the region have been written. The walk begins alive (true); behind a panic it goes on as a ghost, whose end asks for nothing. -/
theorem draw (es : List Nat) (H0 : Heap) (EP : List PanicEntry → Heap → Prop) {id : Nat} {ops : Array Oper} {Q : Exit → Fr → Heap → Prop} {f : Fr} {H : Heap} (hn : Nat.blt 0 n = true) (hm : P.follows .mixedOrders = true) (hB : Region.lexB .any ops = true)
    (hch : chainE .any ops (fun i => qfl es i || Nat.beq i ops.size) = true) (hnc : callFree ops (qfl es) = true) (h0 : Sub H H0) (hP : ∀ c f' H', (∀ t, t ∉ dsts ops → f' t = f t) → EP c H' → Q (.panic c) f' H')
    (h : MListW C P H0 H0 (qfl es) (efl []) EP ops.size [] 0 n ops.toList (fun b f H => b = true → Q .normal f H) ops.toList 0 true f H) (hd : noDefer ops = true := by kernel_rfl) : DrawI C P n id ops Q f H :=
  core es H0 EP ops.size [] 0 hn hm hB hch hnc (fun h => absurd h (by omega)) (fun o ho => by simp at ho) (fun j oj hj _ hlt => by have := (Array.getElem?_eq_some_iff.1 hj).1; omega) h0 hP h hd
def lateB (ops : Array Oper) (es : List Nat) (al : Nat) : Bool := (List.range ops.size).all fun j => qfl es j || Nat.ble j al || match ops[j]? with
  | some o => o.after.any fun e => Region.binds .any e && Nat.beq e.on al
  | none => true
def noGuard (ops : Array Oper) (al : Nat) : Bool := match ops[al]? with | some o => o.guard.isNone | none => true
/-- As draw; the operation al lays a new block (z: its cells, T: their type) and waits for none; the effects ahead of it are calls. -/
theorem drawA (es : List Nat) (H0 : Heap) (EP : List PanicEntry → Heap → Prop) (al : Nat) (z : List Value) (T : TypeId) {id : Nat} {ops : Array Oper} {Q : Exit → Fr → Heap → Prop} {f : Fr} {H : Heap} (hn : Nat.blt 0 n = true) (hm : P.follows .mixedOrders = true) (hB : Region.lexB .any ops = true)
    (hch : chainE .any ops (fun i => qfl es i || Nat.beq i al) = true) (hnc : callFree ops (qfl es) = true) (hqa : qfl es al = false) (hl : lateB ops es al = true) (hg : noGuard ops al = true) (hA : ∀ o, ops[al]? = some o → ∀ (a : Act) (w : World), (execOp a.eval o).run P w = .ok (.value (.pointer (some ⟨w.heap.size, 0, none⟩))) { w with heap := w.heap.push (.cells z.toArray T (0, 0)) })
    (h0 : Sub H H0) (hP : ∀ c f' H', (∀ t, t ∉ dsts ops → f' t = f t) → EP c H' → Q (.panic c) f' H')
    (h : MListW C P H0 H0 (qfl es) (efl []) EP al z T n ops.toList (fun b f H => b = true → Q .normal f H) ops.toList 0 true f H) (hd : noDefer ops = true := by kernel_rfl) : DrawI C P n id ops Q f H :=
  core es H0 EP al z T hn hm hB hch hnc (fun _ => hqa) (fun o ho => ⟨by unfold noGuard at hg; rw [ho] at hg; simpa using hg, hA o ho⟩) (fun j oj hj hq hlt => by
    have hjs : j < ops.size := (Array.getElem?_eq_some_iff.1 hj).1
    unfold lateB at hl
    have h1 := List.all_eq_true.1 hl j (by simpa using hjs)
    have h2 : Nat.ble j al = false := by
      cases hb : Nat.ble j al with
      | false => rfl
      | true => have := Nat.le_of_ble_eq_true hb; omega
    rw [hq, h2, hj] at h1
    simp only [Bool.false_or] at h1
    obtain ⟨e, he, hb⟩ := Array.any_eq_true'.1 h1
    simp only [Bool.and_eq_true] at hb
    exact ⟨e, he, hb.1, Nat.eq_of_beq_eq_true hb.2⟩) h0 hP h hd
end
end SL.Fail
end Go.Proofs.Ytlbdnkkaacccoaa
