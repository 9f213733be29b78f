/- Regions that draw their order, by a tree of the orders of their effects. -/
import Derived.Test.YtlbdnkkaacccoaaLate
namespace Go.Proofs.Ytlbdnkkaacccoaa
set_option linter.unusedVariables false
set_option linter.unusedSimpArgs false
set_option maxRecDepth 100000
namespace SL.Late.Tree
open Go Go.RowKit SL
/-- A tree of orders: all done; a quiet operation first; the ways to go on, each with its effect. -/
inductive Tr where
  | done
  | nil
  | q (i : Nat) (t : Tr)
  | b (i : Nat) (t u : Tr)
def heads : Tr → List Nat
  | .b i _ u => i :: heads u
  | _ => []
def depth : Tr → Nat
  | .q _ t => depth t + 1
  | .b _ t u => max (depth t + 1) (depth u)
  | _ => 0
def ok (ops : Array Oper) (qf : Nat → Bool) : Bool → Array Bool → Tr → Bool
  | top, l, .done => top && (Region.ready .any ops l).isEmpty
  | top, _, .nil => !top
  | top, l, .q i t => top && qf i && (Region.ready .any ops l).contains i && ok ops qf true (l.setIfInBounds i true) t
  | top, l, .b i t u => (!top || (Region.ready .any ops l).all fun j => (i :: heads u).contains j) && (!top || (Region.ready .any ops l).contains i) && !qf i && ok ops qf true (l.setIfInBounds i true) t && ok ops qf false l u
/-- What is unordered is apart. -/
def pairsB (ops : Array Oper) (qf : Nat → Bool) : Bool := (List.range ops.size).all fun i => !qf i || (List.range ops.size).all fun j => Nat.beq i j || match ops[i]?, ops[j]? with
  | some oi, some oj => (oj.after.any fun e => Region.binds .any e && Nat.beq e.on i) || (oi.after.any fun e => Region.binds .any e && Nat.beq e.on j) || oi.apart ops oj
  | _, _ => true
section
variable (C : Ctx) (P : Program) (H0 H1 : Heap) (qf ef lf : Nat → Bool) (n : Nat)
def stepQ (ops : List Oper) (k : Nat) (K : Fr → Heap → Prop) (f : Fr) (H : Heap) : Prop := match ops[k]? with
  | none => False
  | some o => guardW n ops f o.guard (fun f => cond (ef k) (QOpW C P H1 true n f o fun v => putK f o.dst v fun f' => K f' H) (QOpW C P H0 true n f o fun v => putK f o.dst v fun f' => K f' H)) (fun f => putK f o.dst undef fun f' => K f' H)
def stepE (ops : List Oper) (k : Nat) (K : Fr → Heap → Prop) (f : Fr) (H : Heap) : Prop := match ops[k]? with
  | none => False
  | some o => guardW n ops f o.guard (fun f => OpW C P false n f o (fun v H' => Se (fun H => Sub H H0) (fun H => Sub H H1) lf k H' ∧ putK f o.dst v fun f' => K f' H') (fun _ _ => False) H) (fun f => putK f o.dst undef fun f' => K f' H)
def TreeW (ops : List Oper) (Q : Fr → Heap → Prop) (t : Tr) : Fr → Heap → Prop :=
  Tr.rec (motive := fun _ => Fr → Heap → Prop) (fun f H => Q f H) (fun _ _ => True) (fun i _ ih f H => stepQ C P H0 H1 ef n ops i ih f H) (fun i _ _ ih ihu f H => stepE C P H0 H1 lf n ops i ih f H ∧ ihu f H) t
end
section
variable {C : Ctx} {P : Program} {H0 H1 : Heap} {qf ef lf : Nat → Bool} {n : Nat}
abbrev S0 (H0 : Heap) (H : Heap) : Prop := Sub H H0
abbrev W (P : Program) (ops : Array Oper) (C : Ctx) (H0 H1 : Heap) (qf ef lf : Nat → Bool) (n : Nat) (Q : Fr → Heap → Prop) := wpAnyM P .any ops C (S0 H0) (S0 H1) qf ef lf (fun a H => ∃ f, Q f H ∧ TR C.ds n f a)
theorem stepQ.sound {ops : Array Oper} {k : Nat} {K : Fr → Heap → Prop} {f : Fr} {H : Heap} {a : Act} (hq : qf k = true) (hnc : callFree ops qf = true) (ht : TR C.ds n f a) (h : stepQ C P H0 H1 ef n ops.toList k K f H) :
    ∃ o v f', ops[k]? = some o ∧ QV P ops C (Sq (S0 H0) (S0 H1) ef k) o v a ∧ K f' H ∧ TR C.ds n f' (a.put o.dst v) := by
  unfold stepQ at h
  rw [Array.getElem?_toList] at h
  split at h
  · exact h.elim
  · rename_i o h0
    simp only [putK_eq] at h
    rcases guardW.sound (ops := ops) ht h with ⟨hw, h⟩ | ⟨hw, h⟩
    · have hcf : ∀ c x, o.op = .call c → c.callee = .value x → False := fun c x ho hc => by
        have hks : k < ops.size := (Array.getElem?_eq_some_iff.1 h0).1
        have h1 := List.all_eq_true.1 hnc k (by simpa using hks)
        simp only [hq, h0, ho, hc] at h1
        simp at h1
      cases he : ef k with
      | true =>
        rw [he] at h
        simp only [cond_true] at h
        obtain ⟨v, hv, hk⟩ := QOpW.plain h ht hcf
        exact ⟨o, v, _, h0, .inl ⟨hw, fun w ⟨H2, ⟨_, hs3⟩, hs2⟩ => hv w ((hs3 he).sat hs2)⟩, hk, ht.put o.dst v⟩
      | false =>
        rw [he] at h
        simp only [cond_false] at h
        obtain ⟨v, hv, hk⟩ := QOpW.plain h ht hcf
        exact ⟨o, v, _, h0, .inl ⟨hw, fun w ⟨H2, ⟨hs1, _⟩, hs2⟩ => hv w (hs1.sat hs2)⟩, hk, ht.put o.dst v⟩
    · exact ⟨o, undef, _, h0, .inr ⟨hw, rfl⟩, h, ht.put o.dst undef⟩
theorem stepE.sound {ops : Array Oper} {k : Nat} {K : Fr → Heap → Prop} {f : Fr} {H : Heap} {a : Act} (hn : 0 < n) (hq : qf k = false) (ht : TR C.ds n f a) (hst : Sub H H0) (hst1 : Sub H H1 ∨ True) (h : stepE C P H0 H1 lf n ops.toList k K f H) {M : Act → Heap → Prop}
    (hK : ∀ f' H' o v, ops[k]? = some o → (Se (S0 H0) (S0 H1) lf k H' ∨ H' = H) → TR C.ds n f' (a.put o.dst v) → K f' H' → M (a.put o.dst v) H') : mOp P ops C (S0 H0) (S0 H1) qf ef lf k M a H := by
  unfold stepE at h
  rw [Array.getElem?_toList] at h
  split at h
  · exact h.elim
  · rename_i o h0
    simp only [putK_eq] at h
    unfold mOp
    simp only [h0]
    rcases guardW.sound (ops := ops) ht h with ⟨hw, h⟩ | ⟨hw, h⟩
    · rw [if_pos hw, if_neg (by simp [hq])]
      exact ⟨_, ER.of_op hn h ht, fun v H' hk hst' _ => hK _ H' o v h0 (.inl hst') (ht.put o.dst v) hk⟩
    · rw [if_neg (by simp [hw])]
      exact hK _ H o undef h0 (.inr rfl) (ht.put o.dst undef) h
theorem core {ops : Array Oper} {Q : Fr → Heap → Prop} (hn : 0 < n) (hnc : callFree ops qf = true) (hW : waitsE .any ops qf ef lf = true) (hef : ∀ i, ef i = true → i < ops.size) (hp : pairsB ops qf = true) (hsel : Region.noSelect ops = true) : ∀ (t : Tr) (fuel : Nat) (listed : Array Bool) (a : Act) (f : Fr) (H : Heap), EInv qf ef lf ops.size listed → (∀ i, ef i = true → listed.getD i true = false → Sub H H1) → Sub H H0 → TR C.ds n f a → TreeW C P H0 H1 ef lf n ops.toList Q t f H →
    (depth t ≤ fuel → ok ops qf true listed t = true → W P ops C H0 H1 qf ef lf n Q fuel listed a H) ∧ (depth t ≤ fuel + 1 → ok ops qf false listed t = true → ∀ j ∈ Region.ready .any ops listed, j ∈ heads t → mOp P ops C (S0 H0) (S0 H1) qf ef lf j (W P ops C H0 H1 qf ef lf n Q fuel (listed.setIfInBounds j true)) a H) := by
  intro t
  induction t with
  | done =>
    intro fuel listed a f H hE hA hst ht h
    refine ⟨fun _ hok => ?_, fun _ _ j _ hj => by simp [heads] at hj⟩
    have h0 : Region.ready .any ops listed = [] := by simpa [ok] using hok
    cases fuel with
    | zero => exact ⟨h0, f, h, ht⟩
    | succ m => exact ⟨fun _ => ⟨f, h, ht⟩, fun i hi => by rw [h0] at hi; cases hi⟩
  | nil =>
    intro fuel listed a f H hE hA hst ht h
    exact ⟨fun _ hok => by simp [ok] at hok, fun _ _ j _ hj => by simp [heads] at hj⟩
  | q i t ih =>
    intro fuel listed a f H hE hA hst ht h
    refine ⟨fun hd hok => ?_, fun _ _ j _ hj => by simp [heads] at hj⟩
    simp only [ok, Bool.true_and, Bool.and_eq_true] at hok
    obtain ⟨⟨hq, hr⟩, hok⟩ := hok
    have hr' : i ∈ Region.ready .any ops listed := by simpa using hr
    obtain ⟨o, v, f', h0, hy, hk, ht'⟩ := stepQ.sound (qf := qf) hq hnc ht h
    simp only [depth] at hd
    obtain ⟨m, rfl⟩ : ∃ m, fuel = m + 1 := ⟨fuel - 1, by omega⟩
    refine wpAnyM_firstQ h0 hq (Region.noSelect_spec hsel) m listed a H (fun j oj hj hji hun hno => ?_) hr' hy ?_
    · have his : i < ops.size := (Array.getElem?_eq_some_iff.1 h0).1
      have hjs : j < ops.size := (Array.getElem?_eq_some_iff.1 hj).1
      have h1 := List.all_eq_true.1 hp i (by simpa using his)
      rw [hq, Bool.not_true, Bool.false_or] at h1
      have h2 := List.all_eq_true.1 h1 j (by simpa using hjs)
      rw [h0, hj] at h2
      simp only [Bool.or_eq_true] at h2
      rcases h2 with h2 | (h2 | h2) | h2
      · exact absurd (Nat.eq_of_beq_eq_true h2).symm hji
      · obtain ⟨e, he, hb⟩ := Array.any_eq_true'.1 h2
        simp only [Bool.and_eq_true] at hb
        exact absurd (Nat.eq_of_beq_eq_true hb.2) (hno e he hb.1)
      · exfalso
        obtain ⟨e, he, hb⟩ := Array.any_eq_true'.1 h2
        simp only [Bool.and_eq_true] at hb
        obtain ⟨_, oi, hoi, hall⟩ := mem_ready.1 hr'
        obtain rfl : oi = o := Option.some.inj (hoi.symm.trans h0)
        have h3 := hall e he hb.1
        rw [Nat.eq_of_beq_eq_true hb.2] at h3
        rcases Nat.lt_or_ge j listed.size with h' | h'
        · simp [h'] at hun h3; rw [hun] at h3; cases h3
        · simp [Array.getElem?_eq_none h'] at hun
      · exact h2
    · refine (ih m (listed.setIfInBounds i true) _ f' H (hE.step hW hr') (fun j hj hl => ?_) hst ht' hk).1 (by omega) hok
      refine hA j hj ?_
      by_cases hij : i = j
      · subst hij
        by_cases hks : i < listed.size
        · simp [Array.getD, hks] at hl
        · simp [Array.getD, hks] at hl
      · rw [getD_set_ne true hij] at hl; exact hl
  | b i t u iht ihu =>
    intro fuel listed a f H hE hA hst ht h
    have key : ∀ (m : Nat), depth t ≤ m → qf i = false → i ∈ Region.ready .any ops listed → ok ops qf true (listed.setIfInBounds i true) t = true → mOp P ops C (S0 H0) (S0 H1) qf ef lf i (W P ops C H0 H1 qf ef lf n Q m (listed.setIfInBounds i true)) a H := fun m hd hqi hr hok => by
      refine stepE.sound hn hqi ht hst (.inr trivial) h.1 fun f' H' o v h0 hse ht' hk => ?_
      have hgrow : ∀ j, (listed.setIfInBounds i true).getD j true = false → listed.getD j true = false := fun j hl => by
        by_cases hij : i = j
        · subst hij
          by_cases hks : i < listed.size
          · simp [Array.getD, hks] at hl
          · simp [Array.getD, hks] at hl
        · rw [getD_set_ne true hij] at hl; exact hl
      refine (iht m (listed.setIfInBounds i true) _ f' H' (hE.step hW hr) (fun j hj hl => ?_) (by rcases hse with h | rfl; exact h.1; exact hst) ht' hk).1 hd hok
      rcases hse with hse | rfl
      · cases hlf : lf i with
        | false => exact hse.2 hlf
        | true =>
          exfalso
          have h1 := hE.all hW hr hqi hlf (hef j hj) hj
          have h2 := hgrow j hl
          rcases Nat.lt_or_ge j listed.size with h' | h'
          · simp [Array.getD, h'] at h1 h2; rw [h1] at h2; cases h2
          · simp [Array.getD, Nat.not_lt.2 h'] at h1
      · exact hA j hj (hgrow j hl)
    refine ⟨fun hd hok => ?_, fun hd hok j hj hjh => ?_⟩
    · simp only [ok, Bool.not_true, Bool.false_or, Bool.and_eq_true, Bool.not_eq_true'] at hok
      obtain ⟨⟨⟨⟨hall, hri⟩, hqi⟩, hokt⟩, hoku⟩ := hok
      simp only [depth] at hd
      obtain ⟨m, rfl⟩ : ∃ m, fuel = m + 1 := ⟨fuel - 1, by omega⟩
      have hri' : i ∈ Region.ready .any ops listed := by simpa using hri
      refine ⟨fun h0 => (by rw [h0] at hri'; cases hri'), fun j hj => ?_⟩
      have hjm : j ∈ i :: heads u := by have := List.all_eq_true.1 hall j hj; simpa using this
      rcases List.mem_cons.1 hjm with rfl | hju
      · exact key m (by omega) hqi hj hokt
      · exact (ihu m listed a f H hE hA hst ht h.2).2 (by omega) hoku j hj hju
    · simp only [ok, Bool.not_false, Bool.true_or, Bool.true_and, Bool.and_eq_true, Bool.not_eq_true'] at hok
      obtain ⟨⟨hqi, hokt⟩, hoku⟩ := hok
      simp only [depth] at hd
      rcases List.mem_cons.1 hjh with rfl | hju
      · exact key fuel (by omega) hqi hj hokt
      · exact (ihu fuel listed a f H hE hA hst ht h.2).2 (by omega) hoku j hj hju
/-- A region that draws its order, by a tree of the orders of its effects (es; es1: early operations, which read what lies in H1; ls: late effects). -/
theorem drawT (T : Tr) (es es1 ls : List Nat) (H0 H1 : Heap) {id : Nat} {ops : Array Oper} {Q : Exit → Fr → Heap → Prop} {f : Fr} {H : Heap} (hn : Nat.blt 0 n = true) (hm : P.follows .mixedOrders = true) (hsel : Region.noSelect ops = true) (hok : ok ops (qfl es) true (Array.replicate ops.size false) T = true) (hdep : Nat.ble (depth T) ops.size = true)
    (hp : pairsB ops (qfl es) = true) (hnc : callFree ops (qfl es) = true) (hW : waitsE .any ops (qfl es) (efl es1) (efl ls) = true) (hlt : (es1.all fun i => Nat.blt i ops.size) = true) (h0 : Sub H H0) (h1 : Sub H H1)
    (h : TreeW C P H0 H1 (efl es1) (efl ls) n ops.toList (Q .normal) T f H) (hd : noDefer ops = true := by kernel_rfl) : DrawI C P n id ops Q f H :=
  ⟨hm, hd, fun a w ht hs' => by
    have hrep : ∀ k, (Array.replicate ops.size false).getD k false = false := fun k => by
      by_cases hk : k < ops.size <;> simp [Array.getD, hk]
    have hEI : EInv (qfl es) (efl es1) (efl ls) ops.size (Array.replicate ops.size false) := fun k _ _ hk => by rw [hrep] at hk; cases hk
    have hef : ∀ i, efl es1 i = true → i < ops.size := fun i hi => by
      have := List.all_eq_true.1 hlt i (by simpa [efl] using hi)
      simpa [Nat.blt_eq] using this
    exact wpAnyM_sound (St := S0 H0) (St1 := S0 H1) (qf := qfl es) (ef := efl es1) (lf := efl ls) hW hef (Q := fun a H => ∃ f, Q .normal f H ∧ TR C.ds n f a) (fun a' H' w' hs' ⟨f', hq, ht'⟩ => ⟨by simp, f', H', hq, ht', hs'⟩) _ _ _ H _ h0 hEI (fun _ _ _ => h1) hs'
      ((core (by simpa [Nat.blt_eq] using hn) hnc hW hef hp hsel T ops.size (Array.replicate ops.size false) a f H hEI (fun _ _ _ => h1) h0 ht h).1 (Nat.le_of_ble_eq_true hdep) hok)⟩
/-- As drawT, with a meeting place behind the region: what the frame holds (st) and the memory (hp). -/
theorem drawTC (T : Tr) (es es1 ls : List Nat) (H0 H1 : Heap) {σ : Type} (st : σ → List (Nat × Value)) (hp : σ → Heap) (inv : σ → Prop) {id : Nat} {ops : Array Oper} {Q : Exit → Fr → Heap → Prop} {f : Fr} {H : Heap} (hn : Nat.blt 0 n = true) (hm : P.follows .mixedOrders = true) (hsel : Region.noSelect ops = true) (hok : ok ops (qfl es) true (Array.replicate ops.size false) T = true) (hdep : Nat.ble (depth T) ops.size = true)
    (hpb : pairsB ops (qfl es) = true) (hnc : callFree ops (qfl es) = true) (hW : waitsE .any ops (qfl es) (efl es1) (efl ls) = true) (hlt : (es1.all fun i => Nat.blt i ops.size) = true) (h0 : Sub H H0) (h1 : Sub H H1)
    (h : TreeW C P H0 H1 (efl es1) (efl ls) n ops.toList (fun f H => ∃ s, inv s ∧ Has f (st s) ∧ Sub H (hp s)) T f H) (k : ∀ s f0, inv s → Q .normal (upds f0 (st s)) (hp s)) (hd : noDefer ops = true := by kernel_rfl) : DrawI C P n id ops Q f H :=
  ⟨hm, hd, fun a w ht hs' => by
    have hrep : ∀ k, (Array.replicate ops.size false).getD k false = false := fun k => by
      by_cases hk : k < ops.size <;> simp [Array.getD, hk]
    have hEI : EInv (qfl es) (efl es1) (efl ls) ops.size (Array.replicate ops.size false) := fun k _ _ hk => by rw [hrep] at hk; cases hk
    have hef : ∀ i, efl es1 i = true → i < ops.size := fun i hi => by
      have := List.all_eq_true.1 hlt i (by simpa [efl] using hi)
      simpa [Nat.blt_eq] using this
    exact wpAnyM_sound (St := S0 H0) (St1 := S0 H1) (qf := qfl es) (ef := efl es1) (lf := efl ls) hW hef (Q := fun a H => ∃ f, (∃ s, inv s ∧ Has f (st s) ∧ Sub H (hp s)) ∧ TR C.ds n f a) (fun a' H' w' hs' ⟨f', ⟨s, hi, hf, hsub⟩, ht'⟩ => ⟨by simp, f', hp s, by have := k s f' hi; rwa [upds_of_has hf] at this, ht', hsub.sat hs'⟩) _ _ _ H _ h0 hEI (fun _ _ _ => h1) hs'
      ((core (by simpa [Nat.blt_eq] using hn) hnc hW hef hpb hsel T ops.size (Array.replicate ops.size false) a f H hEI (fun _ _ _ => h1) h0 ht h).1 (Nat.le_of_ble_eq_true hdep) hok)⟩
end
end SL.Late.Tree
end Go.Proofs.Ytlbdnkkaacccoaa
