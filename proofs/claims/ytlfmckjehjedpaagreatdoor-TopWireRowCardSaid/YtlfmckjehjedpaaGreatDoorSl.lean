/- A logic of frames and owned memory over the weakest preconditions of a program's code; nothing of a statement stands here. -/
import Derived.WalkKit
import Derived.Deep.Quiet
import Derived.Great.BuildSlice
import Derived.Laws.Tables
import Derived.Laws.Concat
import Derived.Laws.BytesArg
import Derived.Laws.BitsAllLaws
import Derived.Laws.Bits64b
import Derived.TacticsIn
import Derived.OrdersIn
import Derived.RangeFuncSeq
import Derived.KernelRfl
import Derived.Laws.StructEq
import Derived.ChangeKeysEq
import Derived.StillTail
import Derived.Maps.AppendAt
import Derived.WideKeyArr2
import Derived.Maps.Keyed
import Derived.MapKept
import Derived.Maps.RangeRun
import Derived.Laws.Externs
import Derived.Deep.Slices
import Derived.Laws.MakeOwn
import Derived.Laws.Slices
import Derived.IntWalk
import Derived.Laws.Strings2
import Derived.Laws.Strings3
import Derived.Laws.OwnMore
import Derived.Lib.AppendStr
import Derived.WideShapes
namespace Go.Proofs.YtlfmckjehjedpaaGreatDoor
set_option linter.unusedVariables false
set_option linter.unusedSimpArgs false
/- A logic of frames and owned memory over the weakest preconditions of a program's code; its conditions run by unfolding. -/
namespace SL
open Go Go.RowKit

/-! ### Frames -/
abbrev Fr := Nat → Value
def upd (f : Fr) (d : Nat) (v : Value) : Fr := fun t => bif Nat.beq t d then v else f t
def putO (f : Fr) (d : Option Nat) (v : Value) : Fr := match d with | some d => upd f d v | none => f
/-- The operand's value in a frame of n temporaries. -/
def ev (n : Nat) (f : Fr) : Operand → Value
  | .tmp t => bif Nat.blt t n then f t else undef
  | .const v => v
  | .global g => .pointer (some ⟨g, 0, none⟩)
  | .func g => .func (.func g) #[] #[]

/-! ### Owned memory -/
inductive HObj where
  /-- a block of cells -/
  | cells (b : Nat) (l : List Value) (t : TypeId) (fr : Nat × Nat)
  /-- another block -/
  | obj (b : Nat) (o : Obj)
  /-- a slice value that owns its row: nil, or the head of a block of its own -/
  | own (sv : Value) (n : Nat) (t : TypeId) (sz : Nat) (l : List Value)
abbrev Heap := List HObj

def HObj.blks : HObj → List Nat
  | .cells b _ _ _ => [b]
  | .obj b _ => [b]
  | .own sv _ _ _ _ => match sv with | .slice (some a) _ _ => [a.block] | _ => []
def blks (H : Heap) : List Nat := H.flatMap HObj.blks
def HObj.sat (w : World) : HObj → Prop
  | .cells b l t fr => w.heap[b]? = some (.cells l.toArray t fr)
  | .obj b o => w.heap[b]? = some o
  | .own sv n t sz l => w.ownsRow 0 t sz sv n l

abbrev Mem := Nat → Option Obj
/-- What is fixed during a call: the world at its beginning, which old blocks it may write, what it may read besides. -/
structure Ctx where
  w0 : World
  may : Nat → Prop
  F : Mem
  hF : ∀ r o, F r = some o → ¬ may r ∧ w0.heap[r]? = some o
  /-- the activation's deferred calls -/
  ds : List Deferred

structure Sat (C : Ctx) (H : Heap) (w : World) : Prop where
  os : w.os = C.w0.os
  tape : w.tape = C.w0.tape
  output : w.output = C.w0.output
  size : C.w0.heap.size ≤ w.heap.size
  keep : ∀ r, r < C.w0.heap.size → ¬ C.may r → w.heap[r]? = C.w0.heap[r]?
  objs : ∀ h ∈ H, h.sat w
  nodup : (blks H).Nodup
  mine : ∀ r ∈ blks H, C.may r ∨ C.w0.heap.size ≤ r

theorem HObj.sat_lt {w : World} {h : HObj} (hs : h.sat w) : ∀ r ∈ h.blks, r < w.heap.size := by
  intro r hr
  cases h with
  | cells b l t fr => simp [HObj.blks] at hr; subst hr; exact (Array.getElem?_eq_some_iff.1 hs).1
  | obj b o => simp [HObj.blks] at hr; subst hr; exact (Array.getElem?_eq_some_iff.1 hs).1
  | own sv n t sz l =>
    simp only [HObj.blks] at hr
    split at hr
    · rename_i a _ _
      simp at hr; subst hr
      exact (World.ownsRow.lt hs _ rfl).2
    · cases hr

theorem HObj.sat_congr {w w' : World} {h : HObj} (hs : h.sat w) (he : ∀ r ∈ h.blks, w'.heap[r]? = w.heap[r]?) : h.sat w' := by
  cases h with
  | cells b l t fr => exact (he b (by simp [HObj.blks])).trans hs
  | obj b o => exact (he b (by simp [HObj.blks])).trans hs
  | own sv n t sz l =>
    refine ⟨hs.1, ?_⟩
    rcases hs.2 with hn | ⟨g, cap, cur, rfl, hb, hgg, rest⟩
    · exact .inl hn
    · exact .inr ⟨g, cap, cur, rfl, hb, (he g (by simp [HObj.blks])).trans hgg, rest⟩

theorem Sat.lt {C : Ctx} {H : Heap} {w : World} (h : Sat C H w) : ∀ r ∈ blks H, r < w.heap.size := by
  intro r hr
  obtain ⟨o, ho, hro⟩ := List.mem_flatMap.1 hr
  exact HObj.sat_lt (h.objs o ho) r hro

theorem Sat.foreign {C : Ctx} {H : Heap} {w : World} (h : Sat C H w) {r : Nat} {o : Obj} (hr : C.F r = some o) : w.heap[r]? = some o := by
  obtain ⟨hm, hw⟩ := C.hF r o hr
  have hlt := (Array.getElem?_eq_some_iff.1 hw).1
  exact (h.keep r hlt hm).trans hw

/-- A step that draws nothing but orders. -/
theorem Sat.drew {C : Ctx} {H : Heap} {w : World} (h : Sat C H w) (n : Nat) : Sat C H { w with drawn := n } :=
  ⟨h.os, h.tape, h.output, h.size, h.keep, fun o ho => by
    have := h.objs o ho
    cases o <;> exact this, h.nodup, h.mine⟩

/-- A new block. -/
theorem Sat.new {C : Ctx} {H : Heap} {w : World} (h : Sat C H w) (o : Obj) (x : HObj) (hx : x.blks = [w.heap.size]) (hs : x.sat { w with heap := w.heap.push o }) :
    Sat C (x :: H) { w with heap := w.heap.push o } := by
  have old : ∀ r, r < w.heap.size → (w.heap.push o)[r]? = w.heap[r]? := fun r hr => by rw [Array.getElem?_push, if_neg (by omega)]
  refine ⟨h.os, h.tape, h.output, Nat.le_trans h.size (by simp), fun r hr hm => (old r (Nat.lt_of_lt_of_le hr h.size)).trans (h.keep r hr hm), ?_, ?_, ?_⟩
  · intro y hy
    rcases List.mem_cons.1 hy with rfl | hy
    · exact hs
    · exact HObj.sat_congr (h.objs y hy) fun r hr => old r (HObj.sat_lt (h.objs y hy) r hr)
  · simp only [blks, List.flatMap_cons, hx, List.singleton_append, List.nodup_cons]
    exact ⟨fun hr => by have := h.lt _ hr; omega, h.nodup⟩
  · intro r hr
    simp only [blks, List.flatMap_cons, hx, List.singleton_append, List.mem_cons] at hr
    rcases hr with rfl | hr
    · exact .inr h.size
    · exact h.mine r hr

/-- One object's blocks are written; its new form has the same blocks, or new ones. -/
theorem Sat.write {C : Ctx} {A B : Heap} {x y : HObj} {w w' : World} (h : Sat C (A ++ x :: B) w) (hos : w'.os = w.os) (ht : w'.tape = w.tape) (ho : w'.output = w.output)
    (hz : w.heap.size ≤ w'.heap.size) (hk : ∀ r, r < w.heap.size → r ∉ x.blks → w'.heap[r]? = w.heap[r]?) (hy : y.sat w') (hyd : y.blks.Nodup) (hb : ∀ r ∈ y.blks, r ∈ x.blks ∨ w.heap.size ≤ r) : Sat C (A ++ y :: B) w' := by
  have hnd := h.nodup
  simp only [blks, List.flatMap_append, List.flatMap_cons] at hnd
  have hx : ∀ r ∈ x.blks, C.may r ∨ C.w0.heap.size ≤ r := fun r hr => h.mine r (by simp [blks, hr])
  have hA := (List.nodup_append.1 hnd)
  have hB := (List.nodup_append.1 hA.2.1)
  have lt : ∀ r ∈ blks (A ++ x :: B), r < w.heap.size := h.lt
  refine ⟨hos.trans h.os, ht.trans h.tape, ho.trans h.output, Nat.le_trans h.size hz, fun r hr hm => ?_, ?_, ?_, ?_⟩
  · refine (hk r (Nat.lt_of_lt_of_le hr h.size) fun hrx => ?_).trans (h.keep r hr hm)
    rcases hx r hrx with h1 | h1
    · exact hm h1
    · omega
  · intro z hz'
    rcases List.mem_append.1 hz' with hz' | hz'
    · refine HObj.sat_congr (h.objs z (by simp [hz'])) fun r hr => hk r (HObj.sat_lt (h.objs z (by simp [hz'])) r hr) fun hrx => ?_
      exact hA.2.2 r (List.mem_flatMap.2 ⟨z, hz', hr⟩) r (by simp [hrx]) rfl
    · rcases List.mem_cons.1 hz' with rfl | hz'
      · exact hy
      · refine HObj.sat_congr (h.objs z (by simp [hz'])) fun r hr => hk r (HObj.sat_lt (h.objs z (by simp [hz'])) r hr) fun hrx => ?_
        exact hB.2.2 r hrx r (List.mem_flatMap.2 ⟨z, hz', hr⟩) rfl
  · simp only [blks, List.flatMap_append, List.flatMap_cons]
    refine List.nodup_append.2 ⟨hA.1, List.nodup_append.2 ⟨hyd, hB.2.1, fun r hr s hs he => ?_⟩, fun r hr s hs he => ?_⟩
    · subst he
      rcases hb r hr with h1 | h1
      · exact hB.2.2 r h1 r hs rfl
      · have := lt r (by simp only [blks, List.flatMap_append, List.flatMap_cons]; simp [hs]); omega
    · subst he
      rcases List.mem_append.1 hs with hs | hs
      · rcases hb r hs with h1 | h1
        · exact hA.2.2 r hr r (by simp [h1]) rfl
        · have := lt r (by simp only [blks, List.flatMap_append, List.flatMap_cons]; simp [hr]); omega
      · exact hA.2.2 r hr r (by simp [hs]) rfl
  · intro r hr
    simp only [blks, List.flatMap_append, List.flatMap_cons, List.mem_append] at hr
    rcases hr with hr | hr | hr
    · exact h.mine r (by simp [blks, hr])
    · rcases hb r hr with h1 | h1
      · exact hx r h1
      · exact .inr (Nat.le_trans h.size h1)
    · exact h.mine r (by simp [blks, hr])

theorem Sat.perm {C : Ctx} {H H' : Heap} {w : World} (h : Sat C H w) (hp : H.Perm H') : Sat C H' w :=
  ⟨h.os, h.tape, h.output, h.size, h.keep, fun o ho => h.objs o (hp.mem_iff.2 ho), (hp.flatMap_right HObj.blks).nodup_iff.1 h.nodup, fun r hr => h.mine r ((hp.flatMap_right HObj.blks).mem_iff.2 hr)⟩
theorem Sat.drop {C : Ctx} {A H : Heap} {w : World} (h : Sat C (A ++ H) w) : Sat C H w :=
  ⟨h.os, h.tape, h.output, h.size, h.keep, fun o ho => h.objs o (by simp [ho]), by
    have := h.nodup; simp only [blks, List.flatMap_append] at this; exact (List.nodup_append.1 this).2.1, fun r hr => h.mine r (by simp [blks, List.flatMap_append]; exact .inr (by simpa [blks] using hr))⟩
/-- Some objects are let go; what holds of no memory is taken up. -/
def Sub (H H0 : Heap) : Prop := ∀ (C : Ctx) (w : World), Sat C H w → Sat C H0 w
theorem Sub.sat {C : Ctx} {H H0 : Heap} {w : World} (h : Sub H H0) (hs : Sat C H w) : Sat C H0 w := h C w hs
theorem Sub.refl (H : Heap) : Sub H H := fun _ _ h => h
theorem Sub.trans {A B D : Heap} (h : Sub A B) (k : Sub B D) : Sub A D := fun _ _ hs => k.sat (h.sat hs)
theorem Sub.of_perm {X H H0 : Heap} (h : H.Perm (X ++ H0)) : Sub H H0 := fun _ _ hs => (hs.perm h).drop
/-- A slice that is nil owns nothing. -/
theorem Sub.nil (T : TypeId) (sz : Nat) {H : Heap} : Sub H (.own (.slice none 0 0) 0 T sz [] :: H) := fun _ w hs =>
  ⟨hs.os, hs.tape, hs.output, hs.size, hs.keep, fun o ho => by
    rcases List.mem_cons.1 ho with rfl | ho
    · exact World.ownsRow_nil w 0 T sz
    · exact hs.objs o ho, by simpa [blks, HObj.blks] using hs.nodup, by simpa [blks, HObj.blks] using hs.mine⟩
/-- Take the object at a place. -/
def pull : Nat → List (Option HObj) → Option (HObj × List (Option HObj))
  | _, [] => none
  | 0, x :: l => match x with | some y => some (y, none :: l) | none => none
  | i + 1, x :: l => match pull i l with | some (y, l') => some (y, x :: l') | none => none
/-- The objects at these places, in this order, and what is left. -/
def pulls : List Nat → List (Option HObj) → Option (Heap × List (Option HObj))
  | [], l => some ([], l)
  | i :: is, l => match pull i l with
    | some (y, l') => match pulls is l' with
      | some (ys, l'') => some (y :: ys, l'')
      | none => none
    | none => none
theorem pull_perm : ∀ {i : Nat} {l l' : List (Option HObj)} {y : HObj}, pull i l = some (y, l') → (l.filterMap id).Perm (y :: l'.filterMap id)
  | _, [], l', y, h => by simp [pull] at h
  | 0, x :: l, l', y, h => by
    cases x with
    | none => simp [pull] at h
    | some z => simp [pull] at h; obtain ⟨rfl, rfl⟩ := h; simp
  | i + 1, x :: l, l', y, h => by
    unfold pull at h
    split at h
    · rename_i y' l1 h1
      simp only [Option.some.injEq, Prod.mk.injEq] at h
      obtain ⟨rfl, rfl⟩ := h
      have := pull_perm h1
      cases x with
      | none => simpa using this
      | some z => simp only [List.filterMap_cons, id]; exact (this.cons z).trans (List.Perm.swap _ _ _)
    · cases h
theorem pulls_perm : ∀ {is : List Nat} {l l' : List (Option HObj)} {ys : Heap}, pulls is l = some (ys, l') → (l.filterMap id).Perm (ys ++ l'.filterMap id)
  | [], l, l', ys, h => by simp [pulls] at h; obtain ⟨rfl, rfl⟩ := h; simp
  | i :: is, l, l', ys, h => by
    unfold pulls at h
    split at h
    · rename_i y l1 h1
      split at h
      · rename_i ys' l2 h2
        simp only [Option.some.injEq, Prod.mk.injEq] at h
        obtain ⟨rfl, rfl⟩ := h
        exact (pull_perm h1).trans ((pulls_perm h2).cons y)
      · cases h
    · cases h
/-- The objects at these places. -/
def sel (is : List Nat) (H : Heap) : Option Heap := (pulls is (H.map some)).map (·.1)
theorem Sub.sel {H H0 : Heap} (is : List Nat) (h : SL.sel is H = some H0) : Sub H H0 := by
  unfold SL.sel at h
  obtain ⟨⟨ys, l'⟩, h1, rfl⟩ := Option.map_eq_some_iff.1 h
  have := pulls_perm h1
  rw [List.filterMap_map] at this
  have h2 : List.filterMap (id ∘ some) H = H := by simp
  rw [h2] at this
  exact Sub.of_perm (X := l'.filterMap id) (this.trans List.perm_append_comm)
/-- The objects at these places, and then the others. -/
def split (is : List Nat) (H : Heap) : Option (Heap × Heap) := (pulls is (H.map some)).map fun p => (p.1, p.2.filterMap id)
theorem Sub.split {H A B : Heap} (is : List Nat) (h : SL.split is H = some (A, B)) : Sub H (A ++ B) := by
  unfold SL.split at h
  obtain ⟨⟨ys, l'⟩, h1, he⟩ := Option.map_eq_some_iff.1 h
  simp only [Prod.mk.injEq] at he
  obtain ⟨rfl, rfl⟩ := he
  have := pulls_perm h1
  rw [List.filterMap_map] at this
  have h2 : List.filterMap (id ∘ some) H = H := by simp
  rw [h2] at this
  exact Sub.of_perm (X := []) (by simpa using this)
end SL

/- The running of operations and code in a frame with owned memory; that it is sound. -/
namespace SL
open Go Go.RowKit

/-- The new form of a block that is made. -/
def mkObj (b : Nat) : Obj → HObj
  | .cells c t fr => .cells b c.toList t fr
  | o => .obj b o
theorem mkObj_blks (b : Nat) (o : Obj) : (mkObj b o).blks = [b] := by cases o <;> rfl
theorem mkObj_sat (w : World) (b : Nat) (o : Obj) : (mkObj b o).sat w ↔ w.heap[b]? = some o := by
  cases o <;> simp [mkObj, HObj.sat]

/-- The objects' outermost forms are looked at first. -/
def forceO (x : HObj) (K : HObj → Prop) : Prop :=
  match x with
  | .cells b l t fr => K (.cells b l t fr)
  | .obj b o => K (.obj b o)
  | .own sv n t sz l => K (.own sv n t sz l)
theorem forceO_eq (x : HObj) (K : HObj → Prop) : forceO x K = K x := by cases x <;> rfl

/-! ### What touches memory -/
section
variable (C : Ctx)
inductive LoadI (a : Addr) (H : Heap) (K : Value → Prop) : Prop
  | mk (v : Value) (h : ∀ w, Sat C H w → w.cell? a = some v) (k : K v)
inductive StoreI (a : Addr) (v : Value) (H : Heap) (K : Heap → Prop) : Prop
  | mk (H' : Heap) (h1 : v.oneCell' = true) (h : ∀ w, Sat C H w → (w.cell? a).isSome ∧ w.frozen? a = false ∧ Sat C H' (w.setCell a v)) (k : K H')
inductive ShapeI (r : Nat) (H : Heap) (K : Option (TypeId × Nat) → Prop) : Prop
  | mk (s : Option (TypeId × Nat)) (h : ∀ w, Sat C H w → w.shape? r = s) (k : K s)
inductive FreezeI (a : Addr) (n : Nat) (H : Heap) (K : Heap → Prop) : Prop
  | mk (H' : Heap) (h : ∀ w, Sat C H w → Sat C H' (w.freeze a n)) (k : K H')
inductive FrozenI (a : Addr) (H : Heap) (K : Bool → Prop) : Prop
  | mk (b : Bool) (h : ∀ w, Sat C H w → w.frozen? a = b) (k : K b)
inductive GetI (r : Nat) (H : Heap) (K : Obj → Prop) : Prop
  | mk (o : Obj) (hc : ∀ c t fr, o ≠ .cells c t fr) (h : ∀ w, Sat C H w → w.heap[r]? = some o) (k : K o)
inductive SetI (r : Nat) (o : Obj) (H : Heap) (K : Heap → Prop) : Prop
  | mk (H' : Heap) (h : ∀ w, Sat C H w → (∃ o', w.heap[r]? = some o' ∧ ∀ c t fr, o' ≠ .cells c t fr) ∧ Sat C H' { w with heap := w.heap.setIfInBounds r o }) (k : K H')

/-- A computation of the model, run. (By the recursor itself: what is left over then reads alike wherever it is unfolded.) -/
def SemW (P : Program) {α : Type} (s : Sem α) : (α → Heap → Prop) → (Value → Heap → Prop) → Heap → Prop :=
  @Sem.rec α (fun _ => (α → Heap → Prop) → (Value → Heap → Prop) → Heap → Prop)
    (fun a Q _ H => Q a H)
    (fun _ a _ ih Q E H => LoadI C a H fun v => ih v Q E H)
    (fun _ a v _ ih Q E H => StoreI C a v H fun H' => ih Q E H')
    (fun o _ ih Q E H => ∀ b, forceO (mkObj b o) fun x => ih b Q E (x :: H))
    (fun r _ ih Q E H => ShapeI C r H fun s => ih s Q E H)
    (fun a n _ ih Q E H => FreezeI C a n H fun H' => ih Q E H')
    (fun a _ ih Q E H => FrozenI C a H fun b => ih b Q E H)
    (fun r _ ih Q E H => GetI C r H fun o => ih o Q E H)
    (fun r o _ ih Q E H => SetI C r o H fun H' => ih Q E H')
    (fun q _ ih Q E H => cond q.forced (ih 0 Q E H) (∀ n, ih (q.cut n) Q E H))
    (fun _ _ _ _ _ _ => False)
    (fun _ ih Q E H => ih P Q E H)
    (fun _ _ ih Q E H => ih Q E H)
    (fun h _ E H => match h with | .panic v => E v H | _ => False)
    s

/-- What a computation comes to. -/
def Comes (H : Heap → World → Prop) {α : Type} (Q : α → Heap → Prop) (E : Value → Heap → Prop) : Result α → Prop
  | .ok a w => ∃ h, Q a h ∧ H h w
  | .halt (.panic v) w => ∃ h, E v h ∧ H h w
  | _ => False

theorem SemW.sound {P : Program} {α : Type} (s : Sem α) : ∀ {Q : α → Heap → Prop} {E : Value → Heap → Prop} {H : Heap} {w : World}, SemW C P s Q E H → Sat C H w →
    Comes (Sat C) Q E (s.run P w) := by
  induction s with
  | pure a => intro Q E H w h hs; exact ⟨H, h, hs⟩
  | load m a k ih =>
    intro Q E H w h hs
    cases h with
    | mk v hv hk => simp only [Sem.run, hv w hs]; exact ih v hk hs
  | store m a v k ih =>
    intro Q E H w h hs
    cases h with
    | mk H' h1 hst hk =>
      obtain ⟨hc, hf, hs'⟩ := hst w hs
      obtain ⟨u, hu⟩ := Option.isSome_iff_exists.1 hc
      cases v <;> simp [Value.oneCell'] at h1 <;> (simp only [Sem.run, hu, hf]; exact ih hk hs')
  | new o k ih =>
    intro Q E H w h hs
    simp only [Sem.run]
    exact ih _ (by have := h w.heap.size; rwa [forceO_eq] at this) (hs.new o _ (mkObj_blks _ _) ((mkObj_sat _ _ _).2 (by simp)))
  | shape r k ih =>
    intro Q E H w h hs
    cases h with
    | mk s hq hk => simp only [Sem.run, hq w hs]; exact ih s hk hs
  | freeze a n k ih =>
    intro Q E H w h hs
    cases h with
    | mk H' hq hk => simp only [Sem.run]; exact ih hk (hq w hs)
  | frozen a k ih =>
    intro Q E H w h hs
    cases h with
    | mk b hq hk => simp only [Sem.run, hq w hs]; exact ih b hk hs
  | getObj r k ih =>
    intro Q E H w h hs
    cases h with
    | mk o hc hq hk =>
      simp only [Sem.run, hq w hs]
      cases o with
      | cells c t fr => exact absurd rfl (hc c t fr)
      | _ => exact ih _ hk hs
  | setObj r o k ih =>
    intro Q E H w h hs
    cases h with
    | mk H' hq hk =>
      obtain ⟨⟨o', ho, hc⟩, hs'⟩ := hq w hs
      simp only [Sem.run, ho]
      cases o' with
      | cells c t fr => exact absurd rfl (hc c t fr)
      | _ => exact ih hk hs'
  | choose q k ih =>
    intro Q E H w h hs
    simp only [Sem.run]
    replace h : cond q.forced (SemW C P (k 0) Q E H) (∀ n, SemW C P (k (q.cut n)) Q E H) := h
    cases hq : q.forced with
    | true => rw [hq] at h; simp only [if_true]; exact ih 0 h hs
    | false => rw [hq] at h; simp only [Bool.false_eq_true, if_false]; exact ih _ (h _) (hs.drew _)
  | sys c k ih => intro Q E H w h hs; exact h.elim
  | program k ih => intro Q E H w h hs; simp only [Sem.run]; exact ih P h hs
  | mark m k ih => intro Q E H w h hs; simp only [Sem.run]; exact ih h hs
  | halt x =>
    intro Q E H w h hs
    cases x with
    | panic v => exact ⟨H, h, hs⟩
    | _ => exact h.elim

/-! ### Calls -/
/-- The contract of a call: from every world in which the owned objects stand and the foreign memory reads so. -/
def FT (P : Program) (f : FuncId) (args : Array Value) (F : Mem) (H : Heap) (R : Ending → Heap → Prop) : Prop :=
  ∀ (w : World) (hF : ∀ r o, F r = some o → ¬ r ∈ blks H ∧ w.heap[r]? = some o),
    Sat ⟨w, (· ∈ blks H), F, hF, []⟩ H w → Calls P f args w fun e w' => e ≠ .outgrown ∧ ∃ H', R e H' ∧ Sat ⟨w, (· ∈ blks H), F, hF, []⟩ H' w'

/-- The foreign memory of a callee: the caller's, and what of the caller's own is not handed over. -/
structure Ext (F : Mem) (H : Heap) (F' : Mem) : Prop where
  F : ∀ r o, F r = some o → F' r = some o
  H : ∀ x ∈ H, ∀ w : World, (∀ r o, F' r = some o → w.heap[r]? = some o) → x.sat w

def forceH (H : Heap) : (Heap → Prop) → Prop :=
  @List.rec HObj (fun _ => (Heap → Prop) → Prop) (fun K => K []) (fun x _ ih K => forceO x fun x' => ih fun t => K (x' :: t)) H
theorem forceH_eq : ∀ (H : Heap) (K : Heap → Prop), forceH H K = K H
  | [], _ => rfl
  | x :: t, K => by
    show (forceO x fun x' => forceH t fun t' => K (x' :: t')) = K (x :: t)
    cases x <;> exact forceH_eq t _

inductive CallI (P : Program) (f : FuncId) (args : Array Value) (H : Heap) (K : Ending → Heap → Prop) : Prop
  | mk (A B : Heap) (R : Ending → Heap → Prop) (hp : Sub H (A ++ B)) (h : ∀ F', Ext C.F B F' → FT P f args F' A R) (k : ∀ e A', R e A' → forceH (A' ++ B) (K e))

theorem CallI.sound {C : Ctx} {P : Program} {f : FuncId} {args : Array Value} {H : Heap} {K : Ending → Heap → Prop} (h : CallI C P f args H K) {w : World} (hs : Sat C H w) :
    Calls P f args w fun e w' => e ≠ .outgrown ∧ ∃ H', K e H' ∧ Sat C H' w' := by
  obtain ⟨A, B, R, hp, hft, hk⟩ := h
  have hs := hp.sat hs
  have hsB := hs.drop
  have hnd := hs.nodup
  simp only [blks, List.flatMap_append] at hnd
  obtain ⟨hndA, hndB, hdis⟩ := List.nodup_append.1 hnd
  let F' : Mem := fun r => if r ∈ blks A then none else if r ∈ blks B then w.heap[r]? else C.F r
  have hmay : ∀ r ∈ blks A, C.may r ∨ C.w0.heap.size ≤ r := fun r hr => hs.mine r (by simp only [blks, List.flatMap_append, List.mem_append]; exact .inl hr)
  have hF'w : ∀ r o, F' r = some o → ¬ r ∈ blks A ∧ w.heap[r]? = some o := by
    intro r o hr
    simp only [F'] at hr
    split at hr
    · cases hr
    · rename_i hA
      refine ⟨hA, ?_⟩
      split at hr
      · exact hr
      · exact hs.foreign hr
  have hext : Ext C.F B F' := by
    refine ⟨fun r o hr => ?_, fun x hx w' hw' => ?_⟩
    · have hfr := C.hF r o hr
      have hlt := (Array.getElem?_eq_some_iff.1 hfr.2).1
      have hno : ∀ L : Heap, (∀ r ∈ blks L, C.may r ∨ C.w0.heap.size ≤ r) → r ∉ blks L := fun L hL hrL => by
        rcases hL r hrL with h1 | h1
        · exact hfr.1 h1
        · omega
      have hA := hno A hmay
      have hB := hno B hsB.mine
      simp only [F', if_neg hA, if_neg hB]
      exact hr
    · have hxs := hsB.objs x hx
      refine HObj.sat_congr hxs fun r hr => ?_
      have hrB : r ∈ blks B := List.mem_flatMap.2 ⟨x, hx, hr⟩
      have hrA : r ∉ blks A := fun hA => hdis r hA r hrB rfl
      have hlt := HObj.sat_lt hxs r hr
      have : F' r = some w.heap[r] := by simp only [F', if_neg hrA, if_pos hrB]; simp
      rw [hw' r _ this]; simp
  have hsA : Sat ⟨w, (· ∈ blks A), F', hF'w, []⟩ A w :=
    ⟨rfl, rfl, rfl, Nat.le_refl _, fun _ _ _ => rfl, fun o ho => hs.objs o (by simp [ho]), hndA, fun r hr => .inl hr⟩
  refine (hft F' hext w hF'w hsA).mono fun e w' ⟨hne, A', hR, hs'⟩ => ⟨hne, _, by have := hk e A' hR; rwa [forceH_eq] at this, ?_⟩
  have keepB : ∀ r, r < w.heap.size → r ∉ blks A → w'.heap[r]? = w.heap[r]? := fun r hr hrA => hs'.keep r hr hrA
  refine ⟨hs'.os.trans hs.os, hs'.tape.trans hs.tape, hs'.output.trans hs.output, Nat.le_trans hs.size hs'.size, fun r hr hm => ?_, fun o ho => ?_, ?_, fun r hr => ?_⟩
  · refine (keepB r (Nat.lt_of_lt_of_le hr hs.size) fun hA => ?_).trans (hs.keep r hr hm)
    rcases hmay r hA with h1 | h1
    · exact hm h1
    · omega
  · rcases List.mem_append.1 ho with ho | ho
    · exact hs'.objs o ho
    · have hxs := hsB.objs o ho
      exact HObj.sat_congr hxs fun r hr => keepB r (HObj.sat_lt hxs r hr) fun hA => hdis r hA r (List.mem_flatMap.2 ⟨o, ho, hr⟩) rfl
  · simp only [blks, List.flatMap_append]
    refine List.nodup_append.2 ⟨hs'.nodup, hndB, fun r hr s hsB' he => ?_⟩
    subst he
    rcases hs'.mine r hr with h1 | h1
    · exact hdis r h1 r hsB' rfl
    · have := hsB.lt r hsB'; simp only at h1; omega
  · simp only [blks, List.flatMap_append, List.mem_append] at hr
    rcases hr with hr | hr
    · rcases hs'.mine r hr with h1 | h1
      · exact hmay r h1
      · exact .inr (Nat.le_trans hs.size h1)
    · exact hsB.mine r hr
end
end SL

/- Slice literals. -/
namespace SL
open Go Go.RowKit
theorem fold_put (off : Nat) : ∀ (l : List Value) (k : Nat) (arr : Array Value) (A R B : List Value), arr.toList = A ++ (R ++ B) → A.length = off + k → R.length = l.length →
    ((l.zipIdx k).foldl (fun cs (x : Value × Nat) => cs.setIfInBounds (off + x.2) x.1) arr).toList = A ++ (l ++ B)
  | [], k, arr, A, R, B, h, ha, hr => by
    have : R = [] := List.eq_nil_of_length_eq_zero hr
    subst this; simpa using h
  | c :: l, k, arr, A, [], B, h, ha, hr => by simp at hr
  | c :: l, k, arr, A, r :: R, B, h, ha, hr => by
    rw [List.zipIdx_cons, List.foldl_cons, fold_put off l (k + 1) _ (A ++ [c]) R B ?_ (by simp; omega) (by simpa using hr)]
    · simp
    · simp only [Array.toList_setIfInBounds, h]
      rw [List.set_append, if_neg (by omega), ← ha]; simp
/-- The cells of a literal whose parts are all there, in order. -/
def litCells (sz : Nat) : List (Nat × Value) → Nat → Option (List Value)
  | [], _ => some []
  | p :: ps, i => bif Nat.beq p.1 i then bif Nat.beq p.2.cells.size sz then (match litCells sz ps (i + 1) with | some cs => some (p.2.cells.toList ++ cs) | none => none) else none else none
theorem fill_lit (sz : Nat) : ∀ (ps : List (Nat × Value)) (i : Nat) (cs : List Value) (arr : Array Value) (A R : List Value), litCells sz ps i = some cs → arr.toList = A ++ R → A.length = i * sz → R.length = ps.length * sz →
    Instr.fill (fun i => some (i * sz, sz)) arr ps = some (A ++ cs).toArray
  | [], i, cs, arr, A, R, h, ha, hA, hR => by
    simp only [litCells, Option.some.injEq] at h; subst h
    have : R = [] := List.eq_nil_of_length_eq_zero (by simpa using hR)
    subst this
    unfold Instr.fill
    simp only [List.append_nil] at ha ⊢
    rw [← ha]
  | p :: ps, i, cs, arr, A, R, h, ha, hA, hR => by
    unfold litCells at h
    cases h1 : Nat.beq p.1 i with
    | false => rw [h1] at h; cases h
    | true =>
      cases h2 : Nat.beq p.2.cells.size sz with
      | false => rw [h1, h2] at h; cases h
      | true =>
        rw [h1, h2] at h
        simp only [cond_true] at h
        split at h
        · rename_i cs1 hc
          simp only [Option.some.injEq] at h; subst h
          have e1 := Nat.eq_of_beq_eq_true h1
          have e2 := Nat.eq_of_beq_eq_true h2
          have hlen : arr.size = i * sz + (ps.length + 1) * sz := by
            have := congrArg List.length ha
            simp only [Array.length_toList, List.length_append, hA, hR, List.length_cons] at this
            exact this
          have hsucc : (ps.length + 1) * sz = ps.length * sz + sz := Nat.succ_mul _ _
          unfold Instr.fill
          simp only [e1]
          rw [if_neg (by simp; omega)]
          have hsplit : arr.toList = A ++ (R.take sz ++ R.drop sz) := by rw [List.take_append_drop]; exact ha
          have hput := fold_put (i * sz) p.2.cells.toList 0 arr A (R.take sz) (R.drop sz) hsplit (by omega) (by simp [hR]; omega)
          refine (fill_lit sz ps (i + 1) cs1 _ (A ++ p.2.cells.toList) (R.drop sz) hc ?_ (by simp [hA, e2, Nat.succ_mul]) (by simp [hR]; omega)).trans (by simp)
          rw [← Array.foldl_toList, Array.toList_zipIdx, List.append_assoc]
          exact hput
        · cases h
theorem run_lit {P : Program} {w : World} {t e : TypeId} {len : Nat} {ps : List (Nat × Value)} {ie : TypeInfo} {z : Value} {cs : List Value} (hu : P.underlying t = some (.slice e)) (hie : P.info? e = some ie) (hz : ie.zero = some z) (hsmall : Nat.ble (len * ie.size) 16777216 = true)
    (hl : ps.length = len) (h : litCells ie.size ps 0 = some cs) : (Instr.buildSlice t len ps.toArray).run P w = .ok (.slice (some ⟨w.heap.size, 0, none⟩) len len) (w.alloc (.cells cs.toArray e)) := by
  subst hl
  have hs : ¬ ps.length * ie.size > 2 ^ 24 := by have := Nat.le_of_ble_eq_true hsmall; omega
  by_cases h0 : ps.length * ie.size = 0
  · have key := fill_lit ie.size ps 0 cs #[] [] [] h rfl (by simp) (by simp [h0])
    simp only [List.nil_append] at key
    simp [Instr.buildSlice, run_underlying hu, Go.sizeOf, typeInfo, hie, h0, newRow]
    rw [show (Array.range 0) = #[] from rfl, Array.map_empty, key]
    simp
  · have key := fill_lit ie.size ps 0 cs ((Array.range (ps.length * ie.size)).map (z.cells[· % z.cells.size]!)) [] ((Array.range (ps.length * ie.size)).map (z.cells[· % z.cells.size]!)).toList h (by simp) (by simp) (by simp)
    simp only [List.nil_append] at key
    exact run_buildSlice w t e _ _ _ ie z hu hie hz hs h0 (by simpa using key)
end SL

/- Regions, code, functions. -/
namespace SL
open Go Go.RowKit

/-- A value's outermost form is looked at first. -/
def forceV (v : Value) (K : Value → Prop) : Prop :=
  match v with
  | .bool b => K (.bool b) | .int k n => K (.int k n) | .float k b => K (.float k b) | .complex k r i => K (.complex k r i) | .string s => K (.string s)
  | .pointer a => K (.pointer a) | .slice a l c => K (.slice a l c) | .map r => K (.map r) | .chan r => K (.chan r) | .func f x y => K (.func f x y) | .nilFunc => K .nilFunc
  | .iface t v => K (.iface t v) | .nilIface => K .nilIface | .agg c => K (.agg c) | .tuple c => K (.tuple c)
theorem forceV_eq (v : Value) (K : Value → Prop) : forceV v K = K v := by cases v <;> rfl
def forceL (l : List Value) : (List Value → Prop) → Prop :=
  @List.rec Value (fun _ => (List Value → Prop) → Prop) (fun K => K []) (fun x _ ih K => forceV x fun x' => ih fun t => K (x' :: t)) l
theorem forceL_eq : ∀ (l : List Value) (K : List Value → Prop), forceL l K = K l
  | [], K => rfl
  | x :: t, K => by
    show (forceV x fun x' => forceL t fun t' => K (x' :: t')) = K (x :: t)
    rw [forceV_eq]; exact forceL_eq t _
theorem forceV_of {v : Value} {K : Value → Prop} (h : K v) : forceV v K := by rw [forceV_eq]; exact h

section
variable (C : Ctx) (P : Program)

inductive LoadV (t : TypeId) (a : Addr) (H : Heap) (K : Value → Prop) : Prop
  | mk (v : Value) (h : ∀ w, Sat C H w → (loadVar t a).run P w = .ok v w) (k : K v)
inductive StoreV (t : TypeId) (a : Addr) (v : Value) (H : Heap) (K : Heap → Prop) : Prop
  | mk (H' : Heap) (h : ∀ w, Sat C H w → ∃ w', (storeVar t a v).run P w = .ok () w' ∧ Sat C H' w') (k : K H')
/-- A call of the model's built-in functions that touch memory. -/
inductive BuiltV (b : Builtin) (ts : Array TypeId) (t : TypeId) (cs : Array Bool) (args : List Value) (H : Heap) (K : Value → Heap → Prop) : Prop
  | mk (R : Value → Heap → Prop) (h : ∀ w, Sat C H w → ∃ v w' H', (builtin b ts t cs args.toArray).run P w = .ok (.value v) w' ∧ R v H' ∧ Sat C H' w') (k : ∀ v H', R v H' → K v H')
/-- An operation of the model that is not looked into. -/
inductive DoV (s : Sem Value) (H : Heap) (K : Value → Heap → Prop) : Prop
  | mk (R : Value → Heap → Prop) (h : ∀ w, Sat C H w → ∃ v w' H', s.run P w = .ok v w' ∧ R v H' ∧ Sat C H' w') (k : ∀ v H', R v H' → K v H')
/-- A call of a function with a body, or of one of the model's own. -/
inductive CallS (g : FuncId) (args : List Value) (H : Heap) (K : Ending → Heap → Prop) : Prop
  | mk (hg : ∀ (x : Array Value) (w : World), (callFunc g x).run P w = .ok (.enter g x) w) (h : CallI C P g args.toArray H K)
  | ext (R : Value → Heap → Prop) (h : ∀ w, Sat C H w → ∃ v w' H', (callFunc g args.toArray).run P w = .ok (.value v) w' ∧ R v H' ∧ Sat C H' w') (k : ∀ v H', R v H' → forceH H' fun H' => K (.returned v) H')

def endW (K : Value → Heap → Prop) (E : List PanicEntry → Heap → Prop) : Ending → Heap → Prop
  | .returned v, H => forceV v fun v => K v H
  | .panicked c, H => E c H
  | .outgrown, _ => False
def nextW (K : Value → Heap → Prop) (E : List PanicEntry → Heap → Prop) : Next → Heap → Prop
  | .value v, H => forceV v fun v => K v H
  | .skip, H => K undef H
  | .enter f args, H => CallI C P f args H (endW K E)
  | _, _ => False

def byteAt (s : ByteArray) (i : Int) : Int := ((s.data.toList.getD i.toNat 0).toNat : Int)
/-- The place of an element. -/
def elemOff (o : Nat) (i : Int) (sz : Nat) : Nat := o + (bif Nat.beq sz 1 then i.toNat else i.toNat * sz)
def indexAddrW (P : Program) (t : TypeId) (x ix : Value) (K : Value → Prop) : Prop :=
  match ix with
  | .int _ i => match P.underlying t with
    | some (.array len e) => match P.info? e with
      | some inf => match x with
        | .pointer (some ⟨b, o, none⟩) => (0 ≤ i ∧ i < len) ∧ K (.pointer (some ⟨b, elemOff o i inf.size, none⟩))
        | _ => False
      | none => False
    | some (.slice e) => match P.info? e with
      | some inf => match x with
        | .slice (some ⟨b, o, none⟩) len _ => (0 ≤ i ∧ i < len) ∧ K (.pointer (some ⟨b, elemOff o i inf.size, none⟩))
        | _ => False
      | none => False
    | _ => False
  | _ => False
inductive IndexV (P : Program) (t : TypeId) (x ix : Value) (K : Value → Prop) : Prop
  | mk (v : Value) (h : ∀ w, (Instr.index t x ix).run P w = .ok v w) (k : K v)
def indexW (P : Program) (t : TypeId) (x ix : Value) (K : Value → Prop) : Prop :=
  match x with
  | .string s => match ix with
    | .int _ i => match P.underlying t with
      | some .string => (0 ≤ i ∧ i < s.size) ∧ K (.int .u8 (byteAt s i))
      | _ => False
    | _ => False
  | _ => IndexV P t x ix K
/-- A number brought into its kind: what it is, told by whoever goes on. -/
inductive ArI (k : IntKind) (x : Int) (K : Value → Prop) : Prop
  | mk (c : Int) (h : k.wrap x = c) (k' : K (.int k c))
/-- Shifts and divisions, their conditions told. -/
def arithW (op : BinOp) (x y : Value) (K : Value → Prop) : Prop :=
  match x, y with
  | .int k a, .int k' b => match op with
    | .shl => 0 ≤ b ∧ K (.int k (k.wrap (a * 2 ^ min b.toNat k.bits)))
    | .shr => 0 ≤ b ∧ K (.int k (a.fdiv (2 ^ min b.toNat k.bits)))
    | .quo => (k = k' ∧ b ≠ 0) ∧ ArI k (a.tdiv b) K
    | .add => cond (decide (k = k')) (ArI k (a + b) K) False
    | .sub => cond (decide (k = k')) (ArI k (a - b) K) False
    | .mul => cond (decide (k = k')) (ArI k (a * b) K) False
    | .rem => (k = k' ∧ b ≠ 0) ∧ K (.int k (a.tmod b))
    | .and => cond (decide (k = k')) (K (.int k (bits .and k a b))) False
    | .or => cond (decide (k = k')) (K (.int k (bits .or k a b))) False
    | .xor => cond (decide (k = k')) (K (.int k (bits .xor k a b))) False
    | .andNot => cond (decide (k = k')) (K (.int k (bits .andNot k a b))) False
    | _ => False
  | _, _ => False
def isArith (op : BinOp) (v : Value) : Bool :=
  match op with
  | .shl | .shr | .quo | .rem | .and | .or | .xor | .andNot => true
  | .add | .sub | .mul => match v with | .int _ _ => true | _ => false
  | _ => false
/-- A conversion between kinds of whole numbers. -/
def isIntConv (P : Program) (src dst : TypeId) (v : Value) : Bool :=
  match v with
  | .int _ _ => match P.underlying src with
    | some _ => match P.underlying dst with | some (.int _) => true | _ => false
    | none => false
  | _ => false
def intConvW (P : Program) (dst : TypeId) (v : Value) (K : Value → Prop) : Prop :=
  match v with
  | .int _ n => match P.underlying dst with | some (.int k) => ArI k n K | _ => False
  | _ => False
/-- The less, the greater of two numbers. -/
def isMinMax (b : Builtin) (args : List Value) : Bool :=
  match b with
  | .min | .max => match args with | [.int _ _, .int _ _] => true | _ => false
  | _ => false
def minMaxW (b : Builtin) (args : List Value) (K : Value → Prop) : Prop :=
  match args with
  | [.int k x, .int _ y] => match b with | .min => K (.int k (min x y)) | .max => K (.int k (max x y)) | _ => False
  | _ => False
/-- Texts joined. -/
def isStrAdd (op : BinOp) (v : Value) : Bool :=
  match op with
  | .add => match v with | .string _ => true | _ => false
  | _ => false
def strAddW (x y : Value) (K : Value → Prop) : Prop :=
  match x, y with
  | .string a, .string b => a.size + b.size ≤ 9223372036854775807 ∧ K (.string (a ++ b))
  | _, _ => False
/-- A conversion between bytes and text. -/
def isByteConv (P : Program) (dst : TypeId) (v : Value) : Bool :=
  match v with
  | .slice _ _ _ => true
  | .string _ => match P.underlying dst with | some (.slice _) => true | _ => false
  | _ => false
/-- '==' and '!=' of values made of several cells. -/
inductive EqV (P : Program) (op : BinOp) (t : TypeId) (x y : Operand) (vx vy : Value) (K : Value → Prop) : Prop
  | mk (v : Value) (h : ∀ w, (do eqGuard op t x y vx vy; binOp op t vx vy).run P w = .ok v w) (k : K v)
def isAggEq (op : BinOp) (v : Value) : Bool :=
  match op with
  | .eql | .neq => match v with | .agg _ => true | _ => false
  | _ => false
def buildW (P : Program) (t : TypeId) (parts : List (Nat × Value)) (K : Value → Prop) : Prop :=
  match P.built t parts with
  | some cells => forceL cells.toList fun l => K (.agg l.toArray)
  | none => False
def buildSliceW (P : Program) (t : TypeId) (len : Nat) (parts : List (Nat × Value)) (H : Heap) (K : Value → Heap → Prop) : Prop :=
  match P.underlying t with
  | some (.slice e) => match P.info? e with
    | some ie => match ie.zero with
      | some _ => bif Nat.ble (len * ie.size) 16777216 then bif Nat.beq parts.length len then (match litCells ie.size parts 0 with
        | some cs => forceL cs fun cs => ∀ b, K (.slice (some ⟨b, 0, none⟩) len len) (.cells b cs e (0, 0) :: H)
        | none => False) else False else False
      | none => False
    | none => False
  | _ => False
def isAppendCopy : Builtin → Bool
  | .append | .copy | .unsafeSliceData | .unsafeString => true
  | _ => false

/-- A call of yield: its round's contract. -/
inductive YieldS (l : Nat) (args : List Value) (H : Heap) (K : Ending → Heap → Prop) : Prop
  | mk (h : ∀ w, Sat C H w → YieldAt Fence.wide 0 P l args.toArray w fun e w' => e ≠ .outgrown ∧ ∃ H', K e H' ∧ Sat C H' w')
/-- One operation. -/
def OpW (y : Bool) (n : Nat) (f : Fr) (o : Oper) (K : Value → Heap → Prop) (E : List PanicEntry → Heap → Prop) (H : Heap) : Prop :=
  match o.op with
  | .load t x => match ev n f x with
    | .pointer (some a) => LoadV C P t a H fun v => forceV v fun v => K v H
    | _ => False
  | .store t x y => match ev n f x with
    | .pointer (some a) => forceV (ev n f y) fun y => StoreV C P t a y H fun H' => K undef H'
    | _ => False
  | .pick c x y => match ev n f c with
    | .bool b => cond b (forceV (ev n f x) fun v => K v H) (forceV (ev n f y) fun v => K v H)
    | _ => False
  | .binOp op t x y _ => cond (isArith op (ev n f x)) (arithW op (ev n f x) (ev n f y) fun v => K v H)
      (cond (isAggEq op (ev n f x)) (EqV P op t x y (ev n f x) (ev n f y) fun v => forceV v fun v => K v H)
      (cond (isStrAdd op (ev n f x)) (strAddW (ev n f x) (ev n f y) fun v => K v H)
      (SemW C P (execOp (ev n f) o) (nextW C P K E) (fun v H' => E [{ v, recovered := false }] H') H)))
  | .convert src dst x => cond (isByteConv P dst (ev n f x)) (DoV C P (convert src dst (ev n f x)) H fun v H' => forceV v fun v => K v H')
      (cond (isIntConv P src dst (ev n f x)) (intConvW P dst (ev n f x) fun v => K v H)
      (SemW C P (execOp (ev n f) o) (nextW C P K E) (fun v H' => E [{ v, recovered := false }] H') H))
  | .build t parts => buildW P t (parts.toList.map fun p => (p.1, ev n f p.2)) fun v => K v H
  | .buildSlice t len parts => buildSliceW P t len (parts.toList.map fun p => (p.1, ev n f p.2)) H K
  | .lookup t m k ok => DoV C P (Instr.lookup t (ev n f m) (ev n f k) ok) H fun v H' => forceV v fun v => K v H'
  | .mapUpdate t m k x => DoV C P (do Instr.mapUpdate t (ev n f m) (ev n f k) (ev n f x); pure undef) H fun _ H' => K undef H'
  | .range t x => DoV C P (Instr.range t (ev n f x)) H fun v H' => forceV v fun v => K v H'
  | .next it s => DoV C P (Instr.next (ev n f it) s o.type) H fun v H' => forceV v fun v => K v H'
  | .entry it => DoV C P (Instr.entry (ev n f it)) H fun v H' => forceV v fun v => K v H'
  | .makeSlice t l c => DoV C P (Instr.makeSlice t (ev n f l) (ev n f c)) H fun v H' => forceV v fun v => K v H'
  | .slice t x lo hi mx => DoV C P (Instr.sliceAt t (ev n f x) (lo.map (ev n f)) (hi.map (ev n f)) (mx.map (ev n f))) H fun v H' => forceV v fun v => K v H'
  | .indexAddr t x ix => indexAddrW P t (ev n f x) (ev n f ix) fun v => K v H
  | .index t x ix => indexW P t (ev n f x) (ev n f ix) fun v => forceV v fun v => K v H
  | .call c => match c.callee with
    | .value x => match ev n f x with
      | .func (.func g) first captured => CallS C P g (first.toList ++ c.args.toList.map (ev n f) ++ captured.toList) H (endW K E)
      | .func (.yield l) first captured => cond y (YieldS C P l (first.toList ++ c.args.toList.map (ev n f)) H (endW K E)) False
      | _ => False
    | .builtin b => cond (isAppendCopy b)
        (BuiltV C P b c.argTypes o.type (c.args.map fun | .const _ => true | _ => false) (c.args.toList.map (ev n f)) H fun v H' => forceV v fun v => K v H')
        (cond (isMinMax b (c.args.toList.map (ev n f))) (minMaxW b (c.args.toList.map (ev n f)) fun v => K v H)
        (SemW C P (builtin b c.argTypes o.type (c.args.map fun | .const _ => true | _ => false) (c.args.toList.map (ev n f)).toArray) (nextW C P K E) (fun v H' => E [{ v, recovered := false }] H') H))
    | .invoke _ _ => False
  | .defer _ => False
  | _ => SemW C P (execOp (ev n f) o) (nextW C P K E) (fun v H' => E [{ v, recovered := false }] H') H

def dstAt : List Oper → Nat → Option Nat
  | [], _ => none
  | o :: _, 0 => o.dst
  | _ :: l, n + 1 => dstAt l n
def guardW (n : Nat) (ops : List Oper) (f : Fr) (g : Option (Nat × Bool)) (X Y : Fr → Prop) : Prop :=
  match g with
  | none => X f
  | some (j, want) => match dstAt ops j with
    | some d => match (bif Nat.blt d n then f d else undef) with
      | .bool b => match want with | true => cond b (X (upd f d (.bool true))) (Y (upd f d (.bool false))) | false => cond b (Y (upd f d (.bool true))) (X (upd f d (.bool false)))
      | _ => Y f
    | none => Y f
/-- The frame with a value put, handed on. -/
def putK (f : Fr) (d : Option Nat) (v : Value) (K : Fr → Prop) : Prop := match d with | some d => K (upd f d v) | none => K f
theorem putK_eq (f : Fr) (d : Option Nat) (v : Value) (K : Fr → Prop) : putK f d v K = K (putO f d v) := by cases d <;> rfl
def ListW (y : Bool) (n : Nat) (ops : List Oper) (Q : Fr → Heap → Prop) (E : List PanicEntry → Fr → Heap → Prop) (l : List Oper) : Fr → Heap → Prop :=
  @List.rec Oper (fun _ => Fr → Heap → Prop) (fun f H => Q f H)
    (fun o _ ih f H => guardW n ops f o.guard (fun f => OpW C P y n f o (fun v H' => putK f o.dst v fun f' => ih f' H') (fun c H' => E c f H') H) (fun f => putK f o.dst undef fun f' => ih f' H)) l

/-- The temporaries of a frame. -/
structure TR (ds : List Deferred) (n : Nat) (f : Fr) (a : Act) : Prop where
  tmps : a.tmps = ((List.range n).map f).toArray
  defers : a.defers = ds
/-- A condition on frames and owned memory as one on states and worlds. -/
def lift (n : Nat) (Q : Exit → Fr → Heap → Prop) : Exit → Act → World → Prop :=
  fun e a w => e ≠ .outgrown ∧ ∃ f H, Q e f H ∧ TR C.ds n f a ∧ Sat C H w
def noDefer (ops : Array Oper) : Bool := ops.all fun o => match o.op with | .defer _ => false | _ => true
inductive DrawI (n : Nat) (id : Nat) (ops : Array Oper) (Q : Exit → Fr → Heap → Prop) (f : Fr) (H : Heap) : Prop
  | mk (hm : P.follows .mixedOrders = true) (hd : noDefer ops = true) (h : ∀ a w, TR C.ds n f a → Sat C H w → wpAny P .any ops (lift C n Q) ops.size (Array.replicate ops.size false) a w)
/-- A loop: what holds at each round's head in state s, and what goes down. -/
inductive LoopI (body : (Exit → Fr → Heap → Prop) → Fr → Heap → Prop) (Q : Exit → Fr → Heap → Prop) (f : Fr) (H : Heap) : Prop
  | mk {σ : Type} (st : σ → Fr → Heap → Prop) (μ : σ → Nat) (s0 : σ) (H0 : Heap) (hH : Sub H H0) (h0 : st s0 f H0)
      (step : ∀ s f H, st s f H → body (fun e f' H' => match e with | .normal => ∃ s' H0, μ s' < μ s ∧ Sub H' H0 ∧ st s' f' H0 | e => Q e f' H') f H)

/-- What is wanted behind the first of two: the second one's want, named once (a want that stood twice would double with each statement). -/
def seqW (ihb : (Exit → Fr → Heap → Prop) → Fr → Heap → Prop) (Q : Exit → Fr → Heap → Prop) : Exit → Fr → Heap → Prop := fun e f H => match e with | .normal => ihb Q f H | e => Q e f H
def blockW (id : Nat) (Q : Exit → Fr → Heap → Prop) : Exit → Fr → Heap → Prop := fun e f H => match e with | .exit i => cond (Nat.beq i id) (Q .normal f H) (Q (.exit i) f H) | e => Q e f H
def regionW (n : Nat) (id : Nat) (ops : Array Oper) (draw : Bool) (Q : Exit → Fr → Heap → Prop) (f : Fr) (H : Heap) : Prop :=
  match draw with
  | false => ListW C P true n ops.toList (Q .normal) (fun c => Q (.panic c)) ops.toList f H
  | true => DrawI C P n id ops Q f H
def condW (v : Value) (X Y : Prop) : Prop := match v with | .bool b => cond b X Y | _ => False
def CW (n : Nat) (c : Code) : (Exit → Fr → Heap → Prop) → Fr → Heap → Prop :=
  @Code.rec (fun _ => (Exit → Fr → Heap → Prop) → Fr → Heap → Prop)
    (fun Q f H => Q .normal f H)
    (fun id ops draw Q f H => regionW C P n id ops draw Q f H)
    (fun _ _ iha ihb Q f H => iha (seqW ihb Q) f H)
    (fun c _ _ ihx ihy Q f H => condW (ev n f c) (ihx Q f H) (ihy Q f H))
    (fun id _ ih Q f H => ih (blockW id Q) f H)
    (fun _ ih Q f H => LoopI ih Q f H)
    (fun _ _ _ _ _ _ _ _ _ => False)
    (fun i Q f H => Q (.exit i) f H)
    (fun _ _ _ _ _ => False)
    (fun _ Q f H => Q .normal f H)
    (fun _ _ _ _ => False)
    (fun Q f H => Q .ret f H)
    (fun _ _ _ _ => False)
    c
end

/-! ### It is sound -/
section
variable {C : Ctx} {P : Program} {n : Nat} {f : Fr} {a : Act} {w : World} {H : Heap}

theorem TR.get (h : TR C.ds n f a) (t : Nat) : a.tmps.getD t undef = bif Nat.blt t n then f t else undef := by
  rw [h.tmps]
  by_cases ht : t < n
  · have : Nat.blt t n = true := by simpa [Nat.blt_eq] using ht
    simp [this, ht]
  · have : Nat.blt t n = false := by
      cases hb : Nat.blt t n with
      | false => rfl
      | true => exact absurd (by simpa [Nat.blt_eq] using hb) ht
    simp [this, ht]
theorem TR.eval (h : TR C.ds n f a) : a.eval = ev n f := by
  funext x
  cases x with
  | tmp t => exact h.get t
  | const v => rfl
  | global g => rfl
  | func g => rfl
theorem TR.put (h : TR C.ds n f a) (d : Option Nat) (v : Value) : TR C.ds n (putO f d v) (a.put d v) := by
  cases d with
  | none => exact h
  | some d =>
    refine ⟨?_, h.defers⟩
    show a.tmps.setIfInBounds d v = _
    rw [h.tmps]
    apply Array.ext
    · simp
    · intro i h1 h2
      simp at h1 h2
      by_cases hi : d = i
      · subst hi; simp [putO, upd]
      · have : Nat.beq i d = false := by
          cases hb : Nat.beq i d with
          | false => rfl
          | true => exact absurd (Nat.eq_of_beq_eq_true hb).symm hi
        simp [hi, putO, upd, this]
theorem map_args (ρ : Operand → Value) (xs : Array Operand) : xs.map ρ = (xs.toList.map ρ).toArray := by
  rw [← Array.toArray_toList (xs := xs.map ρ), Array.toList_map]

theorem dstAt_eq : ∀ (l : List Oper) (j : Nat), dstAt l j = (l[j]?).bind (·.dst)
  | [], j => by simp [dstAt]
  | o :: l, 0 => by simp [dstAt]
  | o :: l, j + 1 => by simp [dstAt, dstAt_eq l j]

/-- What an operation's run comes to, taken up. -/
theorem upon_of_comes {o : Oper} {K : Value → Heap → Prop} {E : List PanicEntry → Heap → Prop} {next : Act → World → Prop} {Q : Exit → Act → World → Prop} {r : Result Next}
    (h : Comes (Sat C) (nextW C P K E) (fun v H' => E [{ v, recovered := false }] H') r)
    (hK : ∀ v H' w', K v H' → Sat C H' w' → next (a.put o.dst v) w') (hE : ∀ c H' w', E c H' → Sat C H' w' → Q (.panic c) a w') : o.upon P a next Q r := by
  cases r with
  | ok nx w' =>
    obtain ⟨H', hn, hs⟩ := h
    cases nx <;> simp only [nextW] at hn
    case value v => rw [forceV_eq] at hn; exact hK v H' w' hn hs
    case skip => exact hK undef H' w' hn hs
    case enter g args =>
      refine (CallI.sound hn hs).mono fun e w'' ⟨hne, H'', hk, hs''⟩ => ?_
      cases e with
      | returned v => simp only [endW, forceV_eq] at hk; exact hK v H'' w'' hk hs''
      | panicked c => exact hE c H'' w'' hk hs''
      | outgrown => exact absurd rfl hne
  | halt x w' =>
    cases x with
    | panic v => obtain ⟨H', hn, hs⟩ := h; exact hE _ H' w' hn hs
    | _ => exact h.elim

theorem elemOff_eq (b o sz : Nat) (i : Int) : (⟨b, o, none⟩ : Addr).add (i.toNat * sz) = ⟨b, elemOff o i sz, none⟩ := by
  have : elemOff o i sz = o + i.toNat * sz := by
    unfold elemOff
    cases h : Nat.beq sz 1 with
    | true => rw [Nat.eq_of_beq_eq_true h]; simp
    | false => rfl
  rw [this]; unfold Addr.add; split <;> simp_all
theorem run_sizeOf {t : TypeId} {i : TypeInfo} (h : P.info? t = some i) : (Go.sizeOf t).run P w = .ok i.size w := by
  simp [Go.sizeOf, typeInfo, h]
theorem arithW.sound {op : BinOp} {t t' : TypeId} {x y : Operand} {ρ : Operand → Value} {o : Oper} {K : Value → Prop} (ho : o.op = .binOp op t x y t') (hb : isArith op (ρ x) = true) (h : arithW op (ρ x) (ρ y) K) :
    ∃ v, (∀ w, (execOp ρ o).run P w = .ok (.value v) w) ∧ K v := by
  unfold arithW at h
  split at h
  · rename_i k a k' b hx hy
    cases op <;> simp [isArith, hx] at hb <;> dsimp only at h
    · by_cases hk : k = k'
      · subst hk
        rw [decide_eq_true rfl] at h
        obtain ⟨c, hc, hk⟩ := h
        refine ⟨_, fun w => ?_, hk⟩
        unfold execOp; simp only [ho]
        simp [eqGuard, binOp, hx, hy, Op.intArith, hc]
      · rw [decide_eq_false hk] at h; exact h.elim
    · by_cases hk : k = k'
      · subst hk
        rw [decide_eq_true rfl] at h
        obtain ⟨c, hc, hk⟩ := h
        refine ⟨_, fun w => ?_, hk⟩
        unfold execOp; simp only [ho]
        simp [eqGuard, binOp, hx, hy, Op.intArith, hc]
      · rw [decide_eq_false hk] at h; exact h.elim
    · by_cases hk : k = k'
      · subst hk
        rw [decide_eq_true rfl] at h
        obtain ⟨c, hc, hk⟩ := h
        refine ⟨_, fun w => ?_, hk⟩
        unfold execOp; simp only [ho]
        simp [eqGuard, binOp, hx, hy, Op.intArith, hc]
      · rw [decide_eq_false hk] at h; exact h.elim
    · obtain ⟨⟨rfl, h1⟩, c, hc, hk⟩ := h
      refine ⟨_, fun w => ?_, hk⟩
      unfold execOp; simp only [ho]
      simp [eqGuard, binOp, hx, hy, Op.intDiv, h1, hc]
    · obtain ⟨⟨rfl, h1⟩, hk⟩ := h
      refine ⟨_, fun w => ?_, hk⟩
      unfold execOp; simp only [ho]
      simp [eqGuard, binOp, hx, hy, Op.intDiv, h1]
    · by_cases hk : k = k'
      · subst hk
        rw [decide_eq_true rfl] at h
        refine ⟨_, fun w => ?_, h⟩
        unfold execOp; simp only [ho]
        simp [eqGuard, binOp, hx, hy]
        rfl
      · rw [decide_eq_false hk] at h; exact h.elim
    · by_cases hk : k = k'
      · subst hk
        rw [decide_eq_true rfl] at h
        refine ⟨_, fun w => ?_, h⟩
        unfold execOp; simp only [ho]
        simp [eqGuard, binOp, hx, hy]
        rfl
      · rw [decide_eq_false hk] at h; exact h.elim
    · by_cases hk : k = k'
      · subst hk
        rw [decide_eq_true rfl] at h
        refine ⟨_, fun w => ?_, h⟩
        unfold execOp; simp only [ho]
        simp [eqGuard, binOp, hx, hy]
        rfl
      · rw [decide_eq_false hk] at h; exact h.elim
    · obtain ⟨h1, hk⟩ := h
      refine ⟨_, fun w => ?_, hk⟩
      have h1' : ¬ b < 0 := by omega
      unfold execOp; simp only [ho]
      simp [eqGuard, binOp, hx, hy, Op.shift, h1']
    · obtain ⟨h1, hk⟩ := h
      refine ⟨_, fun w => ?_, hk⟩
      have h1' : ¬ b < 0 := by omega
      unfold execOp; simp only [ho]
      simp [eqGuard, binOp, hx, hy, Op.shift, h1']
    · by_cases hk : k = k'
      · subst hk
        rw [decide_eq_true rfl] at h
        refine ⟨_, fun w => ?_, h⟩
        unfold execOp; simp only [ho]
        simp [eqGuard, binOp, hx, hy]
        rfl
      · rw [decide_eq_false hk] at h; exact h.elim
  · exact h.elim
theorem strAddW.sound {op : BinOp} {t t' : TypeId} {x y : Operand} {ρ : Operand → Value} {o : Oper} {K : Value → Prop} (ho : o.op = .binOp op t x y t') (hb : isStrAdd op (ρ x) = true) (h : strAddW (ρ x) (ρ y) K) :
    ∃ v, (∀ w, (execOp ρ o).run P w = .ok (.value v) w) ∧ K v := by
  unfold strAddW at h
  split at h
  · rename_i a b hx hy
    have hop : op = .add := by cases op <;> first | rfl | (simp [isStrAdd] at hb)
    subst hop
    obtain ⟨h1, hk⟩ := h
    refine ⟨_, fun w => ?_, hk⟩
    unfold execOp; simp only [ho]
    simp [eqGuard, binOp, hx, hy, run_string_add_sum w a b h1]
  · exact h.elim
theorem intConvW.sound {src dst : TypeId} {v : Value} {K : Value → Prop} (hs : ∃ d, P.underlying src = some d) (h : intConvW P dst v K) : ∃ u, (∀ w, (convert src dst v).run P w = .ok u w) ∧ K u := by
  unfold intConvW at h
  split at h
  · rename_i q n
    split at h
    · rename_i k hd
      obtain ⟨c, hc, hk⟩ := h
      obtain ⟨d, hs⟩ := hs
      refine ⟨_, fun w => ?_, hk⟩
      unfold convert
      simp only [Sem.run_bind, run_underlying hs, run_underlying hd, Result.andThen_ok, Conv.intToInt]
      simp [hc]
    · exact h.elim
  · exact h.elim
theorem minMaxW.sound {b : Builtin} {ts : Array TypeId} {t : TypeId} {cs : Array Bool} {args : List Value} {K : Value → Prop} (h : minMaxW b args K) : ∃ u, (∀ w, (builtin b ts t cs args.toArray).run P w = .ok (.value u) w) ∧ K u := by
  unfold minMaxW at h
  split at h
  · rename_i k x k' y
    split at h
    · refine ⟨_, fun w => ?_, h⟩
      have : (if y < x then y else x) = min x y := by rw [Int.min_def]; split <;> split <;> omega
      simp [builtin, Builtin.min_, Builtin.min2, this]
    · refine ⟨_, fun w => ?_, h⟩
      have : (if x < y then y else x) = max x y := by rw [Int.max_def]; split <;> split <;> omega
      simp [builtin, Builtin.max_, Builtin.max2]
      omega
    · exact h.elim
  · exact h.elim
theorem indexAddrW.sound {t : TypeId} {x ix : Value} {K : Value → Prop} (h : indexAddrW P t x ix K) : ∃ v, (∀ w, (Instr.indexAt t x ix).run P w = .ok v w) ∧ K v := by
  unfold indexAddrW at h
  split at h
  · rename_i k i
    split at h
    · rename_i len e hu
      split at h
      · rename_i inf hi
        split at h
        · rename_i b o
          obtain ⟨hb, hk⟩ := h
          refine ⟨_, fun w => ?_, hk⟩
          simp [Instr.indexAt, asIntOf, run_underlying hu, Instr.sureAddr, hb, run_sizeOf hi, elemOff_eq]
        · exact h.elim
      · exact h.elim
    · rename_i e hu
      split at h
      · rename_i inf hi
        split at h
        · rename_i b o len cap
          obtain ⟨hb, hk⟩ := h
          refine ⟨_, fun w => ?_, hk⟩
          simp [Instr.indexAt, asIntOf, run_underlying hu, hb, run_sizeOf hi, elemOff_eq]
        · exact h.elim
      · exact h.elim
    · exact h.elim
  · exact h.elim
theorem indexW.sound {t : TypeId} {x ix : Value} {K : Value → Prop} (h : indexW P t x ix K) : ∃ v, (∀ w, (Instr.index t x ix).run P w = .ok v w) ∧ K v := by
  unfold indexW at h
  split at h
  · rename_i s
    split at h
    · rename_i k i
      split at h
      · rename_i hu
        obtain ⟨hb, hk⟩ := h
        refine ⟨_, fun w => ?_, hk⟩
        have hlt : i.toNat < s.size := by omega
        have : s[i.toNat]? = some s[i.toNat] := getElem?_pos s i.toNat hlt
        have hl : i.toNat < s.data.toList.length := by rw [show s.data.toList.length = s.size from Array.length_toList]; exact hlt
        have hv : s.data.toList.getD i.toNat 0 = s[i.toNat] := by rw [List.getD_eq_getElem?_getD, List.getElem?_eq_getElem hl]; rfl
        simp only [Instr.index, asIntOf, Sem.run_bind, Sem.run_pure, Result.andThen_ok, run_underlying hu, if_pos hb.1, this, byteAt, hv]
      · exact h.elim
    · exact h.elim
  · obtain ⟨v, hv, hk⟩ := h
    exact ⟨v, hv, hk⟩
theorem map_parts (ρ : Operand → Value) (xs : Array (Nat × Operand)) : xs.map (fun (i, x) => (i, ρ x)) = (xs.toList.map fun p => (p.1, ρ p.2)).toArray := by
  obtain ⟨l⟩ := xs; simp
theorem buildW.sound {t : TypeId} {parts : List (Nat × Value)} {K : Value → Prop} (h : buildW P t parts K) : ∃ v, (∀ w, (Instr.build t parts.toArray).run P w = .ok v w) ∧ K v := by
  unfold buildW at h
  split at h
  · rename_i cells hc
    rw [forceL_eq] at h
    exact ⟨_, fun w => run_build w t parts.toArray cells hc, h⟩
  · exact h.elim
theorem buildSliceW.sound {t : TypeId} {len : Nat} {parts : List (Nat × Value)} {K : Value → Heap → Prop} (h : buildSliceW P t len parts H K) : DoV C P (Instr.buildSlice t len parts.toArray) H K := by
  unfold buildSliceW at h
  split at h
  · rename_i e hu
    split at h
    · rename_i ie hie
      split at h
      · rename_i z hz
        cases h1 : Nat.ble (len * ie.size) 16777216 with
        | false => rw [h1] at h; exact h.elim
        | true =>
          cases h2 : Nat.beq parts.length len with
          | false => rw [h1, h2] at h; exact h.elim
          | true =>
            rw [h1, h2] at h
            simp only [cond_true] at h
            split at h
            · rename_i cs hc
              rw [forceL_eq] at h
              exact ⟨fun v H' => ∃ b, v = .slice (some ⟨b, 0, none⟩) len len ∧ H' = .cells b cs e (0, 0) :: H, fun w hs =>
                ⟨_, _, _, run_lit hu hie hz h1 (Nat.eq_of_beq_eq_true h2) hc, ⟨w.heap.size, rfl, rfl⟩, hs.new _ (.cells w.heap.size cs e (0, 0)) rfl (by simp [HObj.sat])⟩,
                fun v H' ⟨b, e1, e2⟩ => by subst e1; subst e2; exact h b⟩
            · exact h.elim
      · exact h.elim
    · exact h.elim
  · exact h.elim
theorem DoV.sound {s : Sem Value} {K : Value → Heap → Prop} {o : Oper} {next : Act → World → Prop} {Q : Exit → Act → World → Prop} (h : DoV C P s H K) (hs : Sat C H w)
    (hx : ∀ v w', s.run P w = .ok v w' → (execOp (ev n f) o).run P w = .ok (.value v) w') (hK : ∀ v H' w', K v H' → Sat C H' w' → next (a.put o.dst v) w') : o.upon P a next Q ((execOp (ev n f) o).run P w) := by
  obtain ⟨R, hR, hk⟩ := h
  obtain ⟨v, w', H', hr, hRv, hs'⟩ := hR w hs
  rw [hx v w' hr]
  exact hK v H' w' (hk v H' hRv) hs'
theorem OpW.sound {o : Oper} {K : Value → Heap → Prop} {E : List PanicEntry → Heap → Prop} {next : Act → World → Prop} {Q : Exit → Act → World → Prop}
    (h : OpW C P false n f o K E H) (ht : TR C.ds n f a) (hs : Sat C H w)
    (hK : ∀ v H' w', K v H' → Sat C H' w' → next (a.put o.dst v) w') (hE : ∀ c H' w', E c H' → Sat C H' w' → Q (.panic c) a w') : o.wp P a w next Q := by
  unfold OpW at h
  unfold Oper.wp
  rw [ht.eval]
  split at h
  · rename_i t x ho
    split at h
    · rename_i ad he
      obtain ⟨v, hv, hk⟩ := h
      rw [forceV_eq] at hk
      have : (execOp (ev n f) o).run P w = .ok (.value v) w := by
        unfold execOp; simp only [ho]; simp only [Instr.loadAt, he, Instr.sureAddr]
        simp [hv w hs]
      rw [this]; exact hK v H w hk hs
    · exact h.elim
  · rename_i t x y ho
    split at h
    · rename_i ad he
      rw [forceV_eq] at h
      obtain ⟨H', hst, hk⟩ := h
      obtain ⟨w', hr, hs'⟩ := hst w hs
      have : (execOp (ev n f) o).run P w = .ok .skip w' := by
        unfold execOp; simp only [ho]; simp only [Instr.storeAt, he, Instr.sureAddr]
        simp [hr]
      rw [this]; exact hK undef H' w' hk hs'
    · exact h.elim
  · rename_i c x y ho
    split at h
    · rename_i b hb
      have : (execOp (ev n f) o).run P w = .ok (.value (if b then ev n f x else ev n f y)) w := by
        unfold execOp; simp only [ho]; simp [hb, asBool]
      rw [this]
      cases b <;> simp only [cond_true, cond_false, forceV_eq] at h
      · exact hK _ H w h hs
      · exact hK _ H w h hs
    · exact h.elim
  · rename_i op t x y t' ho
    cases hb : isArith op (ev n f x) with
    | true =>
      rw [hb] at h
      simp only [cond_true] at h
      obtain ⟨v, hv, hk⟩ := arithW.sound (P := P) (ρ := ev n f) ho hb h
      rw [hv w]; exact hK v H w hk hs
    | false =>
      rw [hb] at h
      cases hc : isAggEq op (ev n f x) with
      | true =>
        rw [hc] at h
        obtain ⟨v, hv, hk⟩ := h
        rw [forceV_eq] at hk
        have : (execOp (ev n f) o).run P w = .ok (.value v) w := by
          have hv := hv w
          simp only [Sem.run_bind] at hv
          unfold execOp; simp only [ho]; simp only [Sem.run_bind, hv, Result.andThen_ok, Sem.run_pure]
        rw [this]; exact hK v H w hk hs
      | false =>
        rw [hc] at h
        simp only [cond_false] at h
        cases hd : isStrAdd op (ev n f x) with
        | true =>
          rw [hd] at h
          simp only [cond_true] at h
          obtain ⟨v, hv, hk⟩ := strAddW.sound (P := P) (ρ := ev n f) ho hd h
          rw [hv w]; exact hK v H w hk hs
        | false => rw [hd] at h; exact upon_of_comes (SemW.sound C _ h hs) hK hE
  · rename_i src dst x ho
    cases hb : isByteConv P dst (ev n f x) with
    | true =>
      rw [hb] at h
      exact DoV.sound h hs (fun v w' hr => by unfold execOp; simp only [ho]; simp only [Sem.run_bind, hr, Result.andThen_ok, Sem.run_pure]) fun v H' w' hk hs' => by rw [forceV_eq] at hk; exact hK v H' w' hk hs'
    | false =>
      rw [hb] at h
      simp only [cond_false] at h
      cases hd : isIntConv P src dst (ev n f x) with
      | true =>
        rw [hd] at h
        simp only [cond_true] at h
        have hsrc : ∃ d, P.underlying src = some d := by
          unfold isIntConv at hd
          split at hd
          · split at hd
            · rename_i d hd'; exact ⟨d, hd'⟩
            · cases hd
          · cases hd
        obtain ⟨v, hv, hk⟩ := intConvW.sound hsrc h
        have : (execOp (ev n f) o).run P w = .ok (.value v) w := by
          unfold execOp; simp only [ho]; simp only [Sem.run_bind, hv w, Result.andThen_ok, Sem.run_pure]
        rw [this]; exact hK v H w hk hs
      | false => rw [hd] at h; exact upon_of_comes (SemW.sound C _ h hs) hK hE
  · rename_i t parts ho
    obtain ⟨v, hv, hk⟩ := buildW.sound h
    have : (execOp (ev n f) o).run P w = .ok (.value v) w := by
      unfold execOp; simp only [ho]; simp only [Sem.run_bind, map_parts, hv, Result.andThen_ok, Sem.run_pure]
    rw [this]; exact hK v H w hk hs
  · rename_i t len parts ho
    obtain ⟨R, hR, hk⟩ := buildSliceW.sound (C := C) h
    obtain ⟨v, w', H', hr, hRv, hs'⟩ := hR w hs
    have : (execOp (ev n f) o).run P w = .ok (.value v) w' := by
      unfold execOp; simp only [ho]; simp only [Sem.run_bind, map_parts, hr, Result.andThen_ok, Sem.run_pure]
    rw [this]; exact hK v H' w' (hk v H' hRv) hs'
  · rename_i t m k ok ho
    exact DoV.sound h hs (fun v w' hr => by unfold execOp; simp only [ho]; simp only [Sem.run_bind, hr, Result.andThen_ok, Sem.run_pure]) fun v H' w' hk hs' => by rw [forceV_eq] at hk; exact hK v H' w' hk hs'
  · rename_i t m k x ho
    obtain ⟨R, hR, hk⟩ := h
    obtain ⟨v, w', H', hr, hRv, hs'⟩ := hR w hs
    have : (execOp (ev n f) o).run P w = .ok .skip w' := by
      unfold execOp; simp only [ho]
      simp only [Sem.run_bind] at hr ⊢
      cases hu : (Instr.mapUpdate t (ev n f m) (ev n f k) (ev n f x)).run P w with
      | ok a w1 => rw [hu] at hr; simp only [Result.andThen_ok, Sem.run_pure, Result.ok.injEq] at hr ⊢; exact ⟨trivial, hr.2⟩
      | halt a w1 => rw [hu] at hr; cases hr
    rw [this]; exact hK undef H' w' (hk v H' hRv) hs'
  · rename_i t x ho
    exact DoV.sound h hs (fun v w' hr => by unfold execOp; simp only [ho]; simp only [Sem.run_bind, hr, Result.andThen_ok, Sem.run_pure]) fun v H' w' hk hs' => by rw [forceV_eq] at hk; exact hK v H' w' hk hs'
  · rename_i it s ho
    exact DoV.sound h hs (fun v w' hr => by unfold execOp; simp only [ho]; simp only [Sem.run_bind, hr, Result.andThen_ok, Sem.run_pure]) fun v H' w' hk hs' => by rw [forceV_eq] at hk; exact hK v H' w' hk hs'
  · rename_i it ho
    exact DoV.sound h hs (fun v w' hr => by unfold execOp; simp only [ho]; simp only [Sem.run_bind, hr, Result.andThen_ok, Sem.run_pure]) fun v H' w' hk hs' => by rw [forceV_eq] at hk; exact hK v H' w' hk hs'
  · rename_i t l c ho
    exact DoV.sound h hs (fun v w' hr => by unfold execOp; simp only [ho]; simp only [Sem.run_bind, hr, Result.andThen_ok, Sem.run_pure]) fun v H' w' hk hs' => by rw [forceV_eq] at hk; exact hK v H' w' hk hs'
  · rename_i t x lo hi mx ho
    exact DoV.sound h hs (fun v w' hr => by unfold execOp; simp only [ho]; simp only [Sem.run_bind, hr, Result.andThen_ok, Sem.run_pure]) fun v H' w' hk hs' => by rw [forceV_eq] at hk; exact hK v H' w' hk hs'
  · rename_i t x ix ho
    obtain ⟨v, hv, hk⟩ := indexAddrW.sound h
    have : (execOp (ev n f) o).run P w = .ok (.value v) w := by
      unfold execOp; simp only [ho]; simp [hv w]
    rw [this]; exact hK v H w hk hs
  · rename_i t x ix ho
    obtain ⟨v, hv, hk⟩ := indexW.sound h
    rw [forceV_eq] at hk
    have : (execOp (ev n f) o).run P w = .ok (.value v) w := by
      unfold execOp; simp only [ho]; simp [hv w]
    rw [this]; exact hK v H w hk hs
  · rename_i c ho
    split at h
    · rename_i x hc
      split at h
      · rename_i g first captured he
        rcases h with ⟨hg, hcall⟩ | ⟨R, hR, hk⟩
        rotate_left
        · obtain ⟨v, w', H', hr, hRv, hs'⟩ := hR w hs
          have : (execOp (ev n f) o).run P w = .ok (.value v) w' := by
            have harr : (first.toList ++ c.args.toList.map (ev n f) ++ captured.toList).toArray = first ++ c.args.map (ev n f) ++ captured := by
              rw [map_args]; simp
            unfold execOp; simp only [ho]
            simp only [resolve, hc, Deferred.ofValue, he]
            rw [harr] at hr
            simp only [Sem.run_bind, Sem.run_pure, Result.andThen_ok, invoke]
            exact hr
          rw [this]
          have hk' := hk v H' hRv
          rw [forceH_eq] at hk'
          simp only [endW, forceV_eq] at hk'
          exact hK v H' w' hk' hs'
        have : (execOp (ev n f) o).run P w = .ok (.enter g (first.toList ++ c.args.toList.map (ev n f) ++ captured.toList).toArray) w := by
          have harr : (first.toList ++ c.args.toList.map (ev n f) ++ captured.toList).toArray = first ++ c.args.map (ev n f) ++ captured := by
            rw [map_args]; simp
          unfold execOp; simp only [ho]
          simp only [resolve, hc, Deferred.ofValue, he]
          rw [harr]
          simp [invoke, hg]
        rw [this]
        refine (CallI.sound hcall hs).mono fun e w'' ⟨hne, H'', hk, hs''⟩ => ?_
        cases e with
        | returned v => simp only [endW, forceV_eq] at hk; exact hK v H'' w'' hk hs''
        | panicked c => exact hE c H'' w'' hk hs''
        | outgrown => exact absurd rfl hne
      · exact h.elim
      · exact h.elim
    · rename_i b hc
      have hex : execOp (ev n f) o = builtin b c.argTypes o.type (c.args.map fun | .const _ => true | _ => false) (c.args.toList.map (ev n f)).toArray := by
        unfold execOp; simp only [ho]
        simp only [resolve, hc]
        rw [map_args]; rfl
      rw [hex]
      cases hb : isAppendCopy b with
      | true =>
        rw [hb] at h
        obtain ⟨R, hR, hk⟩ := h
        obtain ⟨v, w', H', hr, hRv, hs'⟩ := hR w hs
        rw [hr]
        have := hk v H' hRv
        rw [forceV_eq] at this
        exact hK v H' w' this hs'
      | false =>
        rw [hb] at h
        simp only [cond_false] at h
        cases hm : isMinMax b (c.args.toList.map (ev n f)) with
        | true =>
          rw [hm] at h
          simp only [cond_true] at h
          obtain ⟨v, hv, hk⟩ := minMaxW.sound h
          rw [hv w]; exact hK v H w hk hs
        | false => rw [hm] at h; exact upon_of_comes (SemW.sound C _ h hs) hK hE
    · exact h.elim
  · exact h.elim
  · exact upon_of_comes (SemW.sound C _ h hs) hK hE
/-- The fence that lets everything in, in a round or not. -/
abbrev FD (r : Option Nat) : Fence := { Fence.wide with round := r }
theorem Oper.wpIn_of_wp {r : Option Nat} {o : Oper} {next : Act → World → Prop} {Q : Exit → Act → World → Prop} (hd : ∀ c, o.op ≠ .defer c) (h : o.wp P a w next Q) : o.wpIn (FD r) 0 P a w next Q := by
  refine ⟨fun _ _ => trivial, ?_⟩
  unfold Oper.wp at h
  rw [Oper.semAt_eq _ _ _ hd]
  generalize (execOp a.eval o).run P w = x at h ⊢
  cases x with
  | ok nx w' =>
    cases nx <;> simp only [Oper.upon] at h <;> simp only [Oper.uponIn]
    case value v => exact h
    case skip => exact h
    case defer d => exact h
    case enter g args => exact ⟨fun h => by simp [Fence.wide] at h, callsIn_wide.2 h⟩
    case row rw args => exact ⟨fun h => by simp [Fence.wide] at h, fun c cs _ => let ⟨v, w'', h1, h2⟩ := h c cs; ⟨v, w'', h1, stepsIn_wide.2 h2⟩⟩
  | halt y w' => cases y <;> simp only [Oper.upon] at h <;> simp only [Oper.uponIn]; exact h
theorem OpW.off {o : Oper} {K : Value → Heap → Prop} {E : List PanicEntry → Heap → Prop} (h : OpW C P true n f o K E H) :
    OpW C P false n f o K E H ∨ ∃ c x l first captured, o.op = .call c ∧ c.callee = .value x ∧ ev n f x = .func (.yield l) first captured ∧ YieldS C P l (first.toList ++ c.args.toList.map (ev n f)) H (endW K E) := by
  cases ho : o.op with
  | call c =>
    cases hc : c.callee with
    | value x =>
      cases hv : ev n f x with
      | func g first captured =>
        cases g with
        | yield l => refine .inr ⟨c, x, l, first, captured, rfl, hc, hv, ?_⟩; unfold OpW at h; simp only [ho, hc, hv] at h; exact h
        | _ => left; unfold OpW at h ⊢; simp only [ho, hc, hv] at h ⊢; try exact h
      | _ => left; unfold OpW at h ⊢; simp only [ho, hc, hv] at h ⊢
    | _ => left; unfold OpW at h ⊢; simp only [ho, hc] at h ⊢; try exact h
  | _ => left; unfold OpW at h ⊢; simp only [ho] at h ⊢; try exact h
theorem OpW.noDefer {y : Bool} {o : Oper} {K : Value → Heap → Prop} {E : List PanicEntry → Heap → Prop} (h : OpW C P y n f o K E H) : ∀ c, o.op ≠ .defer c := fun c ho => by
  unfold OpW at h; simp only [ho] at h
theorem OpW.soundY {r : Option Nat} {o : Oper} {K : Value → Heap → Prop} {E : List PanicEntry → Heap → Prop} {next : Act → World → Prop} {Q : Exit → Act → World → Prop}
    (h : OpW C P true n f o K E H) (ht : TR C.ds n f a) (hs : Sat C H w)
    (hK : ∀ v H' w', K v H' → Sat C H' w' → next (a.put o.dst v) w') (hE : ∀ c H' w', E c H' → Sat C H' w' → Q (.panic c) a w') : o.wpIn (FD r) 0 P a w next Q := by
  rcases h.off with h1 | ⟨c, x, l, first, captured, ho, hc, hv, ⟨hY⟩⟩
  · exact Oper.wpIn_of_wp h1.noDefer (OpW.sound h1 ht hs hK hE)
  · refine ⟨fun _ _ => trivial, ?_⟩
    rw [Oper.semAt_eq _ _ _ h.noDefer, ht.eval]
    obtain ⟨fn, tmps, as, body, hrun, hR⟩ := hY w hs
    have harr : (first.toList ++ c.args.toList.map (ev n f)).toArray = first ++ c.args.map (ev n f) := by
      rw [map_args]; simp
    have : (execOp (ev n f) o).run P w = .ok (.round l fn tmps as body) w := by
      rw [harr] at hrun
      unfold execOp; simp only [ho]
      simp only [resolve, hc, Deferred.ofValue, hv]
      simpa [invoke] using hrun
    rw [this]
    refine ⟨fun h => by simp [Fence.wide] at h, RoundIn.mono hR fun e w' ⟨hne, H', hk, hs'⟩ => ?_⟩
    cases e with
    | returned v => simp only [endW, forceV_eq] at hk; exact hK v H' w' hk hs'
    | panicked c => exact hE c H' w' hk hs'
    | outgrown => exact absurd rfl hne

theorem upd_self (f : Fr) (d : Nat) : upd f d (f d) = f := by
  funext t
  unfold upd
  cases hb : Nat.beq t d with
  | true => rw [Nat.eq_of_beq_eq_true hb]; rfl
  | false => rfl
theorem guardW.sound {ops : Array Oper} {o : Oper} {X Y : Fr → Prop} (ht : TR C.ds n f a) (h : guardW n ops.toList f o.guard X Y) :
    (Region.wanted o (yielded ops a.tmps) = true ∧ X f) ∨ (Region.wanted o (yielded ops a.tmps) = false ∧ Y f) := by
  unfold guardW at h
  split at h
  · rename_i hg
    exact .inl ⟨by simp [Region.wanted, hg], h⟩
  · rename_i j want hg
    have hy : ∀ d, dstAt ops.toList j = some d → yielded ops a.tmps j = match (bif Nat.blt d n then f d else undef) with | .bool b => some b | _ => none := by
      intro d hd
      have h1 : (ops[j]?).bind (·.dst) = some d := by rw [dstAt_eq] at hd; simpa using hd
      have h2 := ht.get d
      unfold yielded
      rw [h1]
      simp only [Option.bind_some]
      rw [Array.getD_eq_getD_getElem?] at h2
      rw [← h2]
      cases a.tmps[d]? with
      | none => rfl
      | some u => cases u <;> rfl
    split at h
    · rename_i d hd
      have hyd := hy d hd
      split at h
      · rename_i b hb
        rw [hb] at hyd
        have hbl : ∀ b', b = b' → upd f d (.bool b') = f := by
          intro b' he
          subst he
          cases hlt : Nat.blt d n with
          | true => rw [hlt] at hb; simp only [cond_true] at hb; rw [← hb]; exact upd_self f d
          | false => rw [hlt] at hb; simp only [cond_false] at hb; cases hb
        cases want <;> cases b <;> simp only [cond_true, cond_false] at h <;> rw [hbl _ rfl] at h
        · exact .inl ⟨by simp [Region.wanted, hg, hyd], h⟩
        · exact .inr ⟨by simp [Region.wanted, hg, hyd], h⟩
        · exact .inr ⟨by simp [Region.wanted, hg, hyd], h⟩
        · exact .inl ⟨by simp [Region.wanted, hg, hyd], h⟩
      · rename_i hb
        have : yielded ops a.tmps j = none := by
          rw [hyd]; split
          · rename_i b hb'; exact absurd hb' (hb b)
          · rfl
        exact .inr ⟨by simp [Region.wanted, hg, this], h⟩
    · rename_i hd
      have : yielded ops a.tmps j = none := by
        have h1 : (ops[j]?).bind (·.dst) = none := by rw [dstAt_eq] at hd; simpa using hd
        unfold yielded; rw [h1]; rfl
      exact .inr ⟨by simp [Region.wanted, hg, this], h⟩

theorem ListW.sound {ops : Array Oper} {Q : Exit → Fr → Heap → Prop} : ∀ (l : List Oper) {f : Fr} {H : Heap} {a : Act} {w : World},
    ListW C P false n ops.toList (Q .normal) (fun c => Q (.panic c)) l f H → TR C.ds n f a → Sat C H w → wpList P ops (lift C n Q) l a w
  | [], f, H, a, w, h, ht, hs => ⟨by simp, f, H, h, ht, hs⟩
  | o :: l, f, H, a, w, h, ht, hs => by
    replace h : guardW n ops.toList f o.guard (fun f => OpW C P false n f o (fun v H' => putK f o.dst v fun f' => ListW C P false n ops.toList (Q .normal) (fun c => Q (.panic c)) l f' H') (fun c H' => Q (.panic c) f H') H) (fun f => putK f o.dst undef fun f' => ListW C P false n ops.toList (Q .normal) (fun c => Q (.panic c)) l f' H) := h
    simp only [putK_eq] at h
    unfold wpList
    rcases guardW.sound (ops := ops) ht h with ⟨hw, h⟩ | ⟨hw, h⟩
    · rw [if_pos hw]
      exact .inl (OpW.sound h ht hs (fun v H' w' hk hs' => ListW.sound l hk (ht.put o.dst v) hs') (fun c H' w' he hs' => ⟨by simp, f, H', he, ht, hs'⟩))
    · rw [if_neg (by simp [hw])]
      exact ListW.sound l h (ht.put o.dst undef) hs

theorem ListW.soundY {r : Option Nat} {ops : Array Oper} {Q : Exit → Fr → Heap → Prop} : ∀ (l : List Oper) {f : Fr} {H : Heap} {a : Act} {w : World},
    ListW C P true n ops.toList (Q .normal) (fun c => Q (.panic c)) l f H → TR C.ds n f a → Sat C H w → wpListIn (FD r) 0 P ops (lift C n Q) l a w
  | [], f, H, a, w, h, ht, hs => ⟨by simp, f, H, h, ht, hs⟩
  | o :: l, f, H, a, w, h, ht, hs => by
    replace h : guardW n ops.toList f o.guard (fun f => OpW C P true n f o (fun v H' => putK f o.dst v fun f' => ListW C P true n ops.toList (Q .normal) (fun c => Q (.panic c)) l f' H') (fun c H' => Q (.panic c) f H') H) (fun f => putK f o.dst undef fun f' => ListW C P true n ops.toList (Q .normal) (fun c => Q (.panic c)) l f' H) := h
    simp only [putK_eq] at h
    unfold wpListIn
    rcases guardW.sound (ops := ops) ht h with ⟨hw, h⟩ | ⟨hw, h⟩
    · rw [if_pos hw]
      exact (OpW.soundY h ht hs (fun v H' w' hk hs' => ListW.soundY l hk (ht.put o.dst v) hs') (fun c H' w' he hs' => ⟨by simp, f, H', he, ht, hs'⟩))
    · rw [if_neg (by simp [hw])]
      exact ⟨fun _ _ => trivial, ListW.soundY l h (ht.put o.dst undef) hs⟩

theorem wpOpsIn_of_wpOps {r : Option Nat} {ops : Array Oper} {Q : Exit → Act → World → Prop} (hd : noDefer ops = true) (hQ : ¬ LetsOut Q) : ∀ (l : List Nat) {a : Act} {w : World}, wpOps P ops Q l a w → wpOpsIn (FD r) 0 P ops Q l a w
  | [], a, w, h => h
  | i :: rest, a, w, h => by
    unfold wpOps at h
    unfold wpOpsIn
    cases ho : ops[i]? with
    | none => simp only [ho] at h ⊢; exact wpOpsIn_of_wpOps hd hQ rest h
    | some o =>
      simp only [ho] at h ⊢
      split
      · rename_i hw
        rw [if_pos hw] at h
        rcases h with h | h
        · have hno : ∀ c, o.op ≠ .defer c := fun c heq => by
            have := Array.all_eq_true_iff_forall_mem.1 hd o (Array.mem_of_getElem? ho)
            simp [heq] at this
          refine Oper.wpIn_mono (fun a w hh => wpOpsIn_of_wpOps hd hQ rest hh) (Oper.wpIn_of_wp hno h)
        · exact absurd h.2 hQ
      · rename_i hw
        rw [if_neg hw] at h
        exact ⟨fun _ _ => trivial, wpOpsIn_of_wpOps hd hQ rest h⟩
theorem wpIn_loop_rel {F : Fence} {n : Nat} {c : Code} {Q : Exit → Act → World → Prop} (S : Nat → Act → World → Prop) {k0 : Nat} {a : Act} {w : World} (h0 : S k0 a w)
    (round : ∀ k a w, S k a w → c.wpIn F n P (Exit.then (fun a' w' => ∃ k', k' < k ∧ S k' a' w') Q) a w) : (Code.loop c).wpIn F n P Q a w := by
  intro b k cs hro hb hr
  have key : ∀ m a w, S m a w → ∃ e a' w', Q e a' w' ∧ ArrivesIn (Machine.fenced P F) P (lone (b.atR a (.code c :: .inLoop c :: k)) cs w) b k cs e a' w' := by
    intro m
    induction m using Nat.strongRecOn with
    | _ m ih =>
      intro a w hS
      obtain ⟨e, a₁, w₁, hq, harr⟩ := round m a w hS b (.inLoop c :: k) cs hro hb hr
      cases e with
      | normal =>
        obtain ⟨k', hlt, hS'⟩ := hq
        obtain ⟨e₂, a₂, w₂, hq₂, harr₂⟩ := ih k' hlt a₁ w₁ hS'
        exact ⟨e₂, a₂, w₂, hq₂, .of_steps (StepsIn.trans harr (.one (fenced_calm hb hr rfl) stepR_inLoop)) harr₂⟩
      | exit id => exact ⟨_, a₁, w₁, hq, .pass (x := .inLoop c) rfl (fun _ _ => .inl (by simp)) harr⟩
      | goto l => exact ⟨_, a₁, w₁, hq, .pass (x := .inLoop c) rfl (fun _ _ => .inl (by simp)) harr⟩
      | ret => exact ⟨_, a₁, w₁, hq, .pass (x := .inLoop c) rfl (fun _ _ => .inl (by simp)) harr⟩
      | panic ch => exact ⟨_, a₁, w₁, hq, .pass (x := .inLoop c) rfl (fun _ _ => .inl (by simp)) harr⟩
      | outgrown => exact ⟨_, a₁, w₁, hq, .pass (x := .inLoop c) rfl (fun _ _ => .inl (by simp)) harr⟩
  obtain ⟨e, a', w', hq, harr⟩ := key _ a w h0
  exact ⟨e, a', w', hq, .of_steps (.one (fenced_calm hb hr rfl) stepR_loop) harr⟩

theorem wpIn_mono' {F : Fence} {n : Nat} {c : Code} {Q Q' : Exit → Act → World → Prop} (hq : ∀ e a w, Q e a w → Q' e a w) (h : c.wpIn F n P Q a w) : c.wpIn F n P Q' a w := wpIn_mono h hq
theorem CW.sound {r : Option Nat} : ∀ (c : Code) {Q : Exit → Fr → Heap → Prop} {f : Fr} {H : Heap} {a : Act} {w : World}, CW C P n c Q f H → TR C.ds n f a → Sat C H w → c.wpIn (FD r) 0 P (lift C n Q) a w := by
  intro c
  induction c with
  | skip => intro Q f H a w h ht hs; exact wpIn_skip ⟨by simp, f, H, h, ht, hs⟩
  | label l => intro Q f H a w h ht hs; exact wpIn_label ⟨by simp, f, H, h, ht, hs⟩
  | region id ops draw =>
    intro Q f H a w h ht hs
    cases draw with
    | false => exact wpIn_region_list (ListW.soundY _ h ht hs)
    | true =>
      obtain ⟨hm, hd, h⟩ := h
      refine wpIn_region_draw fun t => ?_
      simp only [Region.schedule, hm, Bool.true_or, if_true]
      exact wpOpsIn_of_wpOps hd (fun ⟨_, _, hq⟩ => hq.1 rfl) _ (wpAny_sound ops.size t _ a _ (h a _ ht (hs.drew _)))
  | seq x y ihx ihy =>
    intro Q f H a w h ht hs
    refine wpIn_seq (wpIn_mono' ?_ (ihx h ht hs))
    intro e a' w' ⟨hne, f', H', hq, ht', hs'⟩
    cases e with
    | normal => exact ihy hq ht' hs'
    | outgrown => exact absurd rfl hne
    | exit i => exact ⟨by simp, f', H', hq, ht', hs'⟩
    | goto i => exact ⟨by simp, f', H', hq, ht', hs'⟩
    | ret => exact ⟨by simp, f', H', hq, ht', hs'⟩
    | panic i => exact ⟨by simp, f', H', hq, ht', hs'⟩
  | cond c x y ihx ihy =>
    intro Q f H a w h ht hs
    replace h : condW (ev n f c) (CW C P n x Q f H) (CW C P n y Q f H) := h
    unfold condW at h
    split at h
    · rename_i b hb
      have hc : a.eval c = .bool b := by rw [ht.eval]; exact hb
      cases b with
      | true => exact wpIn_cond_true hc (ihx h ht hs)
      | false => exact wpIn_cond_false hc (ihy h ht hs)
    · exact h.elim
  | block id c ih =>
    intro Q f H a w h ht hs
    refine wpIn_block (wpIn_mono' ?_ (ih h ht hs))
    intro e a' w' ⟨hne, f', H', hq, ht', hs'⟩
    cases e with
    | exit i =>
      simp only [Exit.inBlock]
      cases hb : Nat.beq i id with
      | true =>
        replace hq : cond (Nat.beq i id) (Q .normal f' H') (Q (.exit i) f' H') := hq
        rw [hb] at hq
        rw [if_pos (Nat.eq_of_beq_eq_true hb)]
        exact ⟨by simp, f', H', hq, ht', hs'⟩
      | false =>
        replace hq : cond (Nat.beq i id) (Q .normal f' H') (Q (.exit i) f' H') := hq
        rw [hb] at hq
        rw [if_neg (Nat.ne_of_beq_eq_false hb)]
        exact ⟨by simp, f', H', hq, ht', hs'⟩
    | outgrown => exact absurd rfl hne
    | normal => exact ⟨by simp, f', H', hq, ht', hs'⟩
    | goto i => exact ⟨by simp, f', H', hq, ht', hs'⟩
    | ret => exact ⟨by simp, f', H', hq, ht', hs'⟩
    | panic i => exact ⟨by simp, f', H', hq, ht', hs'⟩
  | loop c ih =>
    intro Q f H a w h ht hs
    obtain ⟨st, μ, s0, H0, hH, h0, step⟩ := h
    refine wpIn_loop_rel (fun k a w => ∃ s f H, st s f H ∧ TR C.ds n f a ∧ Sat C H w ∧ μ s = k) ⟨s0, f, H0, h0, ht, hH.sat hs, rfl⟩ ?_
    intro k a w ⟨s, f, H, hI, ht, hs, hk⟩
    refine wpIn_mono' ?_ (ih (step s f H hI) ht hs)
    intro e a' w' ⟨hne, f', H', hq, ht', hs'⟩
    cases e with
    | normal =>
      obtain ⟨s', H1, hlt, hsub, hst⟩ := hq
      exact ⟨_, hk ▸ hlt, s', f', H1, hst, ht', hsub.sat hs', rfl⟩
    | outgrown => exact absurd rfl hne
    | exit i => exact ⟨by simp, f', H', hq, ht', hs'⟩
    | goto i => exact ⟨by simp, f', H', hq, ht', hs'⟩
    | ret => exact ⟨by simp, f', H', hq, ht', hs'⟩
    | panic i => exact ⟨by simp, f', H', hq, ht', hs'⟩
  | rangeFunc g ps as b ih => intro Q f H a w h; exact h.elim
  | exit i => intro Q f H a w h ht hs; exact wpIn_exit ⟨by simp, f, H, h, ht, hs⟩
  | scope c ih => intro Q f H a w h; exact h.elim
  | goto l => intro Q f H a w h; exact h.elim
  | ret => intro Q f H a w h ht hs; exact wpIn_ret ⟨by simp, f, H, h, ht, hs⟩
  | refuse why => intro Q f H a w h; exact h.elim
end
end SL

/- Values made of several cells: that two are equal cell by cell; building them. -/
namespace SL
open Go Go.RowKit

def vEq : Value → Value → Bool
  | .int _ a, .int _ b => a == b
  | .bool a, .bool b => a == b
  | .string a, .string b => a.toList == b.toList
  | _, _ => false
def cellsEq : List Value → List Value → Bool
  | x :: xs, y :: ys => vEq x y && cellsEq xs ys
  | _, _ => true
inductive LK where
  | i (k : IntKind) | b | s
def okCell : LK → Value → Bool
  | .i k, .int k' _ => decide (k = k')
  | .b, .bool _ => true
  | .s, .string _ => true
  | _, _ => false
def okCells : List LK → List Value → Bool
  | [], [] => true
  | k :: ks, x :: xs => okCell k x && okCells ks xs
  | _, _ => false
theorem okCells_length : ∀ {ks : List LK} {xs : List Value}, okCells ks xs = true → xs.length = ks.length
  | [], [], _ => rfl
  | k :: ks, x :: xs, h => by simp [okCells] at h; simp [okCells_length h.2]
  | [], _ :: _, h => by simp [okCells] at h
  | _ :: _, [], h => by simp [okCells] at h
theorem okCells_split : ∀ {ks ls : List LK} {xs : List Value}, okCells (ks ++ ls) xs = true → okCells ks (xs.take ks.length) = true ∧ okCells ls (xs.drop ks.length) = true
  | [], ls, xs, h => ⟨by simp [okCells], by simpa using h⟩
  | k :: ks, ls, [], h => by simp [okCells] at h
  | k :: ks, ls, x :: xs, h => by
    simp only [List.cons_append, okCells, Bool.and_eq_true] at h
    obtain ⟨h1, h2⟩ := okCells_split h.2
    exact ⟨by simp [okCells, h.1, h1], by simpa using h2⟩
theorem cellsEq_append : ∀ {xs ys xs' ys' : List Value}, xs.length = ys.length → cellsEq (xs ++ xs') (ys ++ ys') = (cellsEq xs ys && cellsEq xs' ys')
  | [], [], xs', ys', _ => by simp [cellsEq]
  | x :: xs, y :: ys, xs', ys', h => by
    simp only [List.cons_append, cellsEq]
    rw [cellsEq_append (by simpa using h), Bool.and_assoc]
theorem cellsEq_split (k : Nat) {xs ys : List Value} (h : xs.length = ys.length) : cellsEq xs ys = (cellsEq (xs.take k) (ys.take k) && cellsEq (xs.drop k) (ys.drop k)) := by
  have := cellsEq_append (xs := xs.take k) (ys := ys.take k) (xs' := xs.drop k) (ys' := ys.drop k) (by simp [h])
  simpa using this

/-- The cells of a type of whole numbers, bools, strings, and of arrays and structs of such. -/
def shapeFs (P : Program) (g : TypeId → Option (List LK)) : List Field → Nat → Option (List LK)
  | [], _ => some []
  | f :: fs, off => match g f.type with
    | some ks => if (f.name != "_" && f.offset == off && P.cellsOf f.type == ks.length && (P.info? f.type).isSome) = true then (shapeFs P g fs (off + ks.length)).map (ks ++ ·) else none
    | none => none
def repl (n : Nat) (ks : List LK) : List LK := match n with | 0 => [] | n + 1 => ks ++ repl n ks
def shapeOf (P : Program) : Nat → TypeId → Option (List LK)
  | 0, _ => none
  | d + 1, t => match P.underlying t with
    | some .bool => some [.b]
    | some (.int k) => some [.i k]
    | some .string => some [.s]
    | some (.struct fs) => if P.stoodInHeld t = true then none else shapeFs P (shapeOf P d) fs.toList 0
    | some (.array n e) => match shapeOf P d e with
      | some ks => if (P.cellsOf e == ks.length && (P.info? e).isSome) = true then some (repl n ks) else none
      | none => none
    | _ => none
def isAggT (P : Program) (t : TypeId) : Bool := match P.underlying t with | some (.struct _) | some (.array _ _) => true | _ => false
def mkV (P : Program) (t : TypeId) (cs : List Value) : Value := if isAggT P t then .agg cs.toArray else cs.getD 0 undef

section
variable {P : Program} {w : World}
theorem run_part {t : TypeId} {d : TypeDesc} (hu : P.underlying t = some d) {i : TypeInfo} (hi : P.info? t = some i) {cs : List Value} {off : Nat} (hle : off + i.size ≤ cs.length) (h1 : isAggT P t = false → i.size = 1) :
    (part t cs.toArray off).run P w = .ok (mkV P t ((cs.drop off).take i.size)) w := by
  have hz : (Go.sizeOf t).run P w = .ok i.size w := by simp [Go.sizeOf, typeInfo, hi]
  cases hb : isAggT P t with
  | true =>
    have ha : (isAgg t).run P w = .ok true w := by
      unfold isAgg; simp only [Sem.run_bind, run_underlying hu, Result.andThen_ok]
      unfold isAggT at hb; rw [hu] at hb
      cases d <;> simp_all
    simp only [part, Sem.run_bind, ha, Result.andThen_ok, if_true, hz, Sem.run_pure, mkV, hb, if_true]
    congr 2
    simp [List.extract_toArray, List.extract]
  | false =>
    have ha : (isAgg t).run P w = .ok false w := by
      unfold isAgg; simp only [Sem.run_bind, run_underlying hu, Result.andThen_ok]
      unfold isAggT at hb; rw [hu] at hb
      cases d <;> simp_all
    have hs := h1 hb
    have hlt : off < cs.length := by omega
    simp only [part, Sem.run_bind, ha, Result.andThen_ok, Bool.false_eq_true, if_false, mkV, hb, hs]
    simp [List.getElem?_eq_getElem hlt, List.take_one, List.head?_drop]

theorem shape_scalar {d : Nat} {t : TypeId} {ks : List LK} (h : shapeOf P d t = some ks) (ha : isAggT P t = false) : ks.length = 1 := by
  cases d with
  | zero => simp [shapeOf] at h
  | succ d =>
    unfold shapeOf at h
    unfold isAggT at ha
    split at h <;> first | (simp at h; subst h; rfl) | (rename_i hu; rw [hu] at ha; simp at ha) | (simp at h)

theorem shape_underlying {d : Nat} {t : TypeId} {ks : List LK} (h : shapeOf P d t = some ks) : ∃ dd, P.underlying t = some dd := by
  cases d with
  | zero => simp [shapeOf] at h
  | succ d =>
    unfold shapeOf at h
    cases hu : P.underlying t with
    | none => simp [hu] at h
    | some dd => exact ⟨dd, rfl⟩

theorem run_fields (d d' : Nat) (ih : ∀ (t : TypeId) (ks : List LK), shapeOf P d t = some ks → ∀ (xs ys : List Value) (w : World), okCells ks xs = true → okCells ks ys = true → (Op.equalIn d' t (mkV P t xs) (mkV P t ys)).run P w = .ok (cellsEq xs ys) w) :
    ∀ (fs : List Field) (off : Nat) (ks : List LK), shapeFs P (shapeOf P d) fs off = some ks → ∀ (xs ys : List Value), off + ks.length = xs.length → off + ks.length = ys.length → okCells ks (xs.drop off) = true → okCells ks (ys.drop off) = true →
      (Op.eqFields d' xs.toArray ys.toArray fs).run P w = .ok (cellsEq (xs.drop off) (ys.drop off)) w
  | [], off, ks, h, xs, ys, lx, ly, hx, hy => by
    simp [shapeFs] at h; subst h
    have h1 := okCells_length hx
    have h2 := okCells_length hy
    simp only [List.length_nil, List.length_eq_zero_iff] at h1 h2
    simp [Op.eqFields, h1, h2, cellsEq]
  | f :: fs, off, ks, h, xs, ys, lx, ly, hx, hy => by
    unfold shapeFs at h
    split at h
    · rename_i ks1 hk
      split at h
      · rename_i hc
        simp only [Bool.and_eq_true, bne_iff_ne, ne_eq, beq_iff_eq] at hc
        obtain ⟨⟨⟨hn, ho⟩, hz⟩, hi⟩ := hc
        obtain ⟨i, hi⟩ := Option.isSome_iff_exists.1 hi
        have hz' : i.size = ks1.length := by simpa [Program.cellsOf, hi] using hz
        obtain ⟨ks2, hr, rfl⟩ := Option.map_eq_some_iff.1 h
        obtain ⟨x1, x2⟩ := okCells_split hx
        obtain ⟨y1, y2⟩ := okCells_split hy
        obtain ⟨dd, hd⟩ := shape_underlying hk
        simp only [List.length_append] at lx ly
        have px := run_part (w := w) hd hi (cs := xs) (off := f.offset) (by omega) (fun ha => by rw [hz']; exact shape_scalar hk ha)
        have py := run_part (w := w) hd hi (cs := ys) (off := f.offset) (by omega) (fun ha => by rw [hz']; exact shape_scalar hk ha)
        rw [hz', ho] at px py
        have he := ih f.type ks1 hk _ _ w x1 y1
        rw [List.drop_drop] at x2 y2
        have hrest := run_fields d d' ih fs (off + ks1.length) ks2 hr xs ys (by omega) (by omega) x2 y2
        have hsp := cellsEq_split ks1.length (xs := xs.drop off) (ys := ys.drop off) (by simp only [List.length_drop]; omega)
        rw [List.drop_drop, List.drop_drop] at hsp
        simp only [Op.eqFields, ne_eq, if_pos hn, Sem.run_bind, ho, px, py, Result.andThen_ok, he]
        rw [hsp]
        cases hb : cellsEq ((xs.drop off).take ks1.length) ((ys.drop off).take ks1.length) with
        | true => simpa using hrest
        | false => simp
      · cases h
    · cases h

theorem repl_length (n : Nat) (ks : List LK) : (repl n ks).length = n * ks.length := by
  induction n with
  | zero => simp [repl]
  | succ n ih => simp [repl, ih, Nat.add_mul]; omega
theorem run_items (d' : Nat) (e : TypeId) (ks : List LK) {dd : TypeDesc} (hu : P.underlying e = some dd) {i : TypeInfo} (hi : P.info? e = some i) (hz : i.size = ks.length) (h1 : isAggT P e = false → ks.length = 1)
    (ih : ∀ (xs ys : List Value) (w : World), okCells ks xs = true → okCells ks ys = true → (Op.equalIn d' e (mkV P e xs) (mkV P e ys)).run P w = .ok (cellsEq xs ys) w) (xs ys : List Value) :
    ∀ (n k : Nat) (w : World), k * ks.length + n * ks.length = xs.length → k * ks.length + n * ks.length = ys.length → okCells (repl n ks) (xs.drop (k * ks.length)) = true → okCells (repl n ks) (ys.drop (k * ks.length)) = true →
      (Op.eqItems d' e i.size xs.toArray ys.toArray (List.range' k n)).run P w = .ok (cellsEq (xs.drop (k * ks.length)) (ys.drop (k * ks.length))) w
  | 0, k, w, lx, ly, hx, hy => by
    have h1 := okCells_length hx
    have h2 := okCells_length hy
    simp only [repl, List.length_nil, List.length_eq_zero_iff] at h1 h2
    simp [Op.eqItems, h1, h2, cellsEq]
  | n + 1, k, w, lx, ly, hx, hy => by
    simp only [repl] at hx hy
    obtain ⟨x1, x2⟩ := okCells_split hx
    obtain ⟨y1, y2⟩ := okCells_split hy
    have hm : (k + 1) * ks.length = k * ks.length + ks.length := by rw [Nat.add_mul]; omega
    have hn : (n + 1) * ks.length = ks.length + n * ks.length := by rw [Nat.add_mul]; omega
    have px := run_part (w := w) hu hi (cs := xs) (off := k * ks.length) (by omega) (fun ha => by rw [hz]; exact h1 ha)
    have py := run_part (w := w) hu hi (cs := ys) (off := k * ks.length) (by omega) (fun ha => by rw [hz]; exact h1 ha)
    rw [hz] at px py
    have he := ih _ _ w x1 y1
    rw [List.drop_drop] at x2 y2
    rw [← hm] at x2 y2
    have hrest := run_items d' e ks hu hi hz h1 ih xs ys n (k + 1) w (by omega) (by omega) x2 y2
    have hsp := cellsEq_split ks.length (xs := xs.drop (k * ks.length)) (ys := ys.drop (k * ks.length)) (by simp only [List.length_drop]; omega)
    rw [List.drop_drop, List.drop_drop, ← hm] at hsp
    rw [hz] at hrest ⊢
    simp only [List.range'_succ, Op.eqItems, Sem.run_bind, px, py, Result.andThen_ok, he]
    rw [hsp]
    cases hb : cellsEq ((xs.drop (k * ks.length)).take ks.length) ((ys.drop (k * ks.length)).take ks.length) with
    | true => simpa using hrest
    | false => simp

/-- Two values of such a type are equal cell by cell. -/
theorem run_equalIn_flat : ∀ (d d' : Nat), d ≤ d' → ∀ (t : TypeId) (ks : List LK), shapeOf P d t = some ks → ∀ (xs ys : List Value) (w : World), okCells ks xs = true → okCells ks ys = true →
    (Op.equalIn d' t (mkV P t xs) (mkV P t ys)).run P w = .ok (cellsEq xs ys) w
  | 0, d', _, t, ks, h, _, _, _, _, _ => by simp [shapeOf] at h
  | d + 1, 0, hd, _, _, _, _, _, _, _, _ => by omega
  | d + 1, d' + 1, hd, t, ks, h, xs, ys, w, hx, hy => by
    have ih : ∀ (t : TypeId) (ks : List LK), shapeOf P d t = some ks → ∀ (xs ys : List Value) (w : World), okCells ks xs = true → okCells ks ys = true → (Op.equalIn d' t (mkV P t xs) (mkV P t ys)).run P w = .ok (cellsEq xs ys) w :=
      fun t ks h xs ys w hx hy => run_equalIn_flat d d' (by omega) t ks h xs ys w hx hy
    have lx := okCells_length hx
    have ly := okCells_length hy
    unfold shapeOf at h
    split at h
    · rename_i hu
      simp at h; subst h
      match xs, ys, lx, ly with
      | [x], [y], _, _ =>
        cases x <;> simp [okCells, okCell] at hx
        cases y <;> simp [okCells, okCell] at hy
        simp [mkV, isAggT, hu, cellsEq, vEq, Op.equalIn, run_underlying hu]
    · rename_i k hu
      simp at h; subst h
      match xs, ys, lx, ly with
      | [x], [y], _, _ =>
        cases x <;> simp [okCells, okCell] at hx
        cases y <;> simp [okCells, okCell] at hy
        subst hx; subst hy
        simp [mkV, isAggT, hu, cellsEq, vEq, Op.equalIn, run_underlying hu]
    · rename_i hu
      simp at h; subst h
      match xs, ys, lx, ly with
      | [x], [y], _, _ =>
        cases x <;> simp [okCells, okCell] at hx
        cases y <;> simp [okCells, okCell] at hy
        simp [mkV, isAggT, hu, cellsEq, vEq, Op.equalIn, run_underlying hu, beq_toListBytes]
    · rename_i fs hu
      split at h
      · cases h
      · rename_i hp
        have ha : isAggT P t = true := by simp [isAggT, hu]
        have hf : P.fieldsOf t = fs := by simp [Program.fieldsOf, hu]
        have := run_fields (w := w) d d' ih fs.toList 0 ks h xs ys (by omega) (by omega) (by simpa using hx) (by simpa using hy)
        simp only [mkV, ha, if_true]
        rw [run_equalIn_struct (P := P) w d' t _ _ (by rw [hf]; exact hu) (by simpa using hp), hf]
        simpa using this
    · rename_i n e hu
      split at h
      · rename_i ks1 hk
        split at h
        · rename_i hc
          simp only [Bool.and_eq_true, beq_iff_eq] at hc
          obtain ⟨i, hi⟩ := Option.isSome_iff_exists.1 hc.2
          have hz : i.size = ks1.length := by simpa [Program.cellsOf, hi] using hc.1
          simp only [Option.some.injEq] at h
          subst h
          rw [repl_length] at lx ly
          have ha : isAggT P t = true := by simp [isAggT, hu]
          obtain ⟨dd, hdd⟩ := shape_underlying hk
          have := run_items d' e ks1 hdd hi hz (fun ha => shape_scalar hk ha) (fun xs ys w hx hy => ih e ks1 hk xs ys w hx hy) xs ys n 0 w (by omega) (by omega) (by simpa using hx) (by simpa using hy)
          simp only [mkV, ha, if_true]
          have hcz : P.cellsOf e = i.size := by simp [Program.cellsOf, hi]
          rw [run_equalIn_array (P := P) w d' _ _ hu hi, hcz, List.range_eq_range']
          simpa using this
        · cases h
      · cases h
    · cases h

theorem EqV.eql {t : TypeId} {d : Nat} {ks : List LK} {x y : Operand} {xs ys : List Value} {K : Value → Prop} (hs : shapeOf P d t = some ks) (hd : Nat.ble d 10000 = true) (hg : P.eqGuardType P.depth t = false) (ha : isAggT P t = true)
    (hx : okCells ks xs = true) (hy : okCells ks ys = true) (k : K (.bool (cellsEq xs ys))) : EqV P .eql t x y (.agg xs.toArray) (.agg ys.toArray) K :=
  ⟨_, fun w => by
    have := run_equalIn_flat (P := P) d 10000 (Nat.le_of_ble_eq_true hd) t ks hs xs ys w hx hy
    simp only [mkV, ha, if_true] at this
    simp only [Sem.run_bind, run_eqGuard_agg w _ t x y _ _ hg, Result.andThen_ok, run_eql_struct, this], k⟩
theorem EqV.neq {t : TypeId} {d : Nat} {ks : List LK} {x y : Operand} {xs ys : List Value} {K : Value → Prop} (hs : shapeOf P d t = some ks) (hd : Nat.ble d 10000 = true) (hg : P.eqGuardType P.depth t = false) (ha : isAggT P t = true)
    (hx : okCells ks xs = true) (hy : okCells ks ys = true) (k : K (.bool (!cellsEq xs ys))) : EqV P .neq t x y (.agg xs.toArray) (.agg ys.toArray) K :=
  ⟨_, fun w => by
    have := run_equalIn_flat (P := P) d 10000 (Nat.le_of_ble_eq_true hd) t ks hs xs ys w hx hy
    simp only [mkV, ha, if_true] at this
    simp only [Sem.run_bind, run_eqGuard_agg w _ t x y _ _ hg, Result.andThen_ok, run_neq_struct, this], k⟩
/-- A part of an array value. -/
theorem IndexV.agg {t e : TypeId} {cnt sz : Nat} {inf : TypeInfo} {cs : List Value} {k : IntKind} {i : Int} {K : Value → Prop} (hu : P.underlying t = some (.array cnt e)) (hi : P.info? e = some inf) (hz : inf.size = sz) (he : (P.underlying e).isSome = true)
    (h1 : isAggT P e = true ∨ sz = 1) (hb : 0 ≤ i ∧ i < cnt) (hle : i.toNat * sz + sz ≤ cs.length) (k' : K (mkV P e ((cs.drop (i.toNat * sz)).take sz))) : IndexV P t (.agg cs.toArray) (.int k i) K :=
  ⟨_, fun w => by
    subst hz
    obtain ⟨d, hd⟩ := Option.isSome_iff_exists.1 he
    have hp := run_part (P := P) (w := w) hd hi (cs := cs) (off := i.toNat * inf.size) hle (fun h => h1.resolve_left (by rw [h]; simp))
    have hs : (Go.sizeOf e).run P w = .ok inf.size w := by simp [Go.sizeOf, typeInfo, hi]
    simp only [Instr.index, asIntOf, Sem.run_bind, Sem.run_pure, Result.andThen_ok, run_underlying hu, if_pos hb, hs, hp], k'⟩
theorem IndexV.agg1 {t e : TypeId} {cnt : Nat} {inf : TypeInfo} {cs : List Value} {k : IntKind} {i : Int} {v : Value} {K : Value → Prop} (hu : P.underlying t = some (.array cnt e)) (hi : P.info? e = some inf) (hz : inf.size = 1) (he : (P.underlying e).isSome = true)
    (h1 : isAggT P e = false) (hb : 0 ≤ i ∧ i < cnt) (hv : cs[i.toNat]? = some v) (k' : K v) : IndexV P t (.agg cs.toArray) (.int k i) K :=
  IndexV.agg hu hi hz he (.inr rfl) hb (by have := (List.getElem?_eq_some_iff.1 hv).1; omega) (by
    have h2 := (List.getElem?_eq_some_iff.1 hv)
    have : mkV P e ((cs.drop (i.toNat * 1)).take 1) = v := by
      simp only [mkV, h1, Bool.false_eq_true, if_false, Nat.mul_one]
      simp [List.take_one, List.head?_drop, hv]
    rw [this]; exact k')
end
end SL

/- Functions: entering and leaving; the rules of loads, stores, calls and loops. -/
namespace SL
open Go Go.RowKit

/-! ### Entering and leaving -/
def argFr (args : List Value) : Fr := fun t => args.getD t undef
/-- What a function hands back. -/
inductive RetI (C : Ctx) (P : Program) (n : Nat) (fn : Func) (f : Fr) (H : Heap) (K : Value → Prop) : Prop
  | mk (v : Value) (h : ∀ a w, TR C.ds n f a → Sat C H w → (results fn a.tmps).run P w = .ok v w) (k : K v)
def bodyQ (C : Ctx) (P : Program) (n : Nat) (fn : Func) (R : Ending → Heap → Prop) : Exit → Fr → Heap → Prop
  | .normal, f, H | .ret, f, H => RetI C P n fn f H fun v => ∃ H0, Sub H H0 ∧ R (.returned v) H0
  | .panic c, _, H => ∃ H0, Sub H H0 ∧ R (.panicked c) H0
  | _, _, _ => False

theorem FT.of_body {P : Program} {g : FuncId} {fn : Func} {c : Code} {args : List Value} {F : Mem} {H : Heap} {R : Ending → Heap → Prop} {n : Nat}
    (hf : P.funcs[g]? = some fn) (hb : fn.body = some c) (hn : fn.ntmps = n) (hl : args.length ≤ n)
    (h : ∀ C : Ctx, C.F = F → CW C P n c (bodyQ C P n fn R) (argFr args) H) : FT P g args.toArray F H R := by
  intro w hF hs
  refine calls_of_wp hf hb (wpIn_wide.1 (wpIn_mono' ?_ (CW.sound (r := none) c (h _ rfl) ⟨?_, rfl⟩ hs)))
  · intro e a w' ⟨hne, f', H', hq, ht, hs'⟩
    cases e with
    | normal => obtain ⟨v, hv, H0, hsub, hk⟩ := hq; exact ⟨ht.defers, v, hv a w' ht hs', by simp, H0, hk, hsub.sat hs'⟩
    | ret => obtain ⟨v, hv, H0, hsub, hk⟩ := hq; exact ⟨ht.defers, v, hv a w' ht hs', by simp, H0, hk, hsub.sat hs'⟩
    | panic c => obtain ⟨H0, hsub, hk⟩ := hq; exact ⟨ht.defers, by simp, H0, hk, hsub.sat hs'⟩
    | outgrown => exact absurd rfl hne
    | exit i => exact hq.elim
    | goto i => exact hq.elim
  · apply Array.ext
    · simp [hn]; omega
    · intro i h1 h2
      simp at h1 h2
      simp only [Array.getElem_append, List.size_toArray]
      split
      · rename_i hi; simp [argFr, List.getElem?_eq_getElem hi]
      · rename_i hi; simp at hi; simp [argFr, List.getElem?_eq_none hi]

theorem FT.mono {P : Program} {g : FuncId} {args : Array Value} {F : Mem} {H : Heap} {R R' : Ending → Heap → Prop} (h : FT P g args F H R) (hr : ∀ e H', R e H' → R' e H') : FT P g args F H R' :=
  fun w hF hs => (h w hF hs).mono fun e w' ⟨hne, H', hR, hs'⟩ => ⟨hne, H', hr e H' hR, hs'⟩

/-! ### Results -/
section
variable {C : Ctx} {P : Program} {n : Nat} {fn : Func} {f : Fr} {H : Heap} {K : Value → Prop}
theorem RetI.none (hr : fn.results = #[]) (k : K (.tuple #[])) : RetI C P n fn f H K :=
  ⟨_, fun a w _ _ => by simp [results, hr], k⟩
theorem RetI.one {t : Nat} (hr : fn.results = #[.tmp t]) (ht : Nat.blt t n = true) (k : forceV (f t) K) : RetI C P n fn f H K :=
  ⟨f t, fun a w h _ => by have ht' : t < n := by simpa [Nat.blt_eq] using ht
                          simp [results, hr, h.tmps, ht'], by rwa [forceV_eq] at k⟩
theorem RetI.two {t u : Nat} (hr : fn.results = #[.tmp t, .tmp u]) (ht : Nat.blt t n = true) (hu : Nat.blt u n = true) (k : forceV (f t) fun x => forceV (f u) fun y => K (.tuple #[x, y])) : RetI C P n fn f H K :=
  ⟨.tuple #[f t, f u], fun a w h _ => by have ht' : t < n := by simpa [Nat.blt_eq] using ht
                                         have hu' : u < n := by simpa [Nat.blt_eq] using hu
                                         simp [results, hr, h.tmps, ht', hu'], by simpa only [forceV_eq] using k⟩
theorem RetI.three {t u v : Nat} (hr : fn.results = #[.tmp t, .tmp u, .tmp v]) (ht : Nat.blt t n = true) (hu : Nat.blt u n = true) (hv : Nat.blt v n = true) (k : forceV (f t) fun x => forceV (f u) fun y => forceV (f v) fun z => K (.tuple #[x, y, z])) : RetI C P n fn f H K :=
  ⟨.tuple #[f t, f u, f v], fun a w h _ => by have ht' : t < n := by simpa [Nat.blt_eq] using ht
                                              have hu' : u < n := by simpa [Nat.blt_eq] using hu
                                              have hv' : v < n := by simpa [Nat.blt_eq] using hv
                                              simp [results, hr, h.tmps, ht', hu', hv'], by simpa only [forceV_eq] using k⟩
/-- The first result lies in memory. -/
theorem RetI.cell {t : Nat} {T : TypeId} (hr : fn.results = #[.cell t T]) (ht : Nat.blt t n = true) (k : match f t with | .pointer (some a) => LoadV C P T a H K | _ => False) : RetI C P n fn f H K := by
  split at k
  · rename_i a ha
    obtain ⟨x, hx, hk⟩ := k
    have ht' : t < n := by simpa [Nat.blt_eq] using ht
    exact ⟨x, fun b w h hs => by simp [results, hr, h.tmps, ht', ha, asAddr, hx w hs], hk⟩
  · exact k.elim
theorem RetI.cell_tmp {t u : Nat} {T : TypeId} (hr : fn.results = #[.cell t T, .tmp u]) (ht : Nat.blt t n = true) (hu : Nat.blt u n = true)
    (k : match f t with | .pointer (some a) => LoadV C P T a H fun x => forceV (f u) fun y => K (.tuple #[x, y]) | _ => False) : RetI C P n fn f H K := by
  split at k
  · rename_i a ha
    obtain ⟨x, hx, hk⟩ := k
    rw [forceV_eq] at hk
    have ht' : t < n := by simpa [Nat.blt_eq] using ht
    have hu' : u < n := by simpa [Nat.blt_eq] using hu
    exact ⟨_, fun b w h hs => by simp [results, hr, h.tmps, ht', hu', ha, asAddr, hx w hs], hk⟩
  · exact k.elim
end

theorem cond_dec {p : Prop} [Decidable p] {X Y : Prop} (h1 : p → X) (h2 : ¬ p → Y) : cond (decide p) X Y := by
  by_cases h : p
  · rw [decide_eq_true h]; exact h1 h
  · rw [decide_eq_false h]; exact h2 h
theorem cond_t {p : Prop} [Decidable p] {X Y : Prop} (h : p) (k : X) : cond (decide p) X Y := by rw [decide_eq_true h]; exact k
theorem cond_f {p : Prop} [Decidable p] {X Y : Prop} (h : ¬ p) (k : Y) : cond (decide p) X Y := by rw [decide_eq_false h]; exact k
theorem cond_split {b : Bool} {X Y : Prop} (h1 : b = true → X) (h2 : b = false → Y) : cond b X Y := by
  cases b
  · exact h2 rfl
  · exact h1 rfl

/-! ### Loops: the slots that live at a round's head, the owned memory, and what is known of them, by a state s -/
def upds (f : Fr) : List (Nat × Value) → Fr
  | [] => f
  | (d, v) :: l => upd (upds f l) d v
def Has (f : Fr) : List (Nat × Value) → Prop
  | [] => True
  | (d, v) :: l => f d = v ∧ Has f l
theorem upds_of_has {f : Fr} : ∀ {l : List (Nat × Value)}, Has f l → upds f l = f
  | [], _ => rfl
  | (d, v) :: l, h => by
    obtain ⟨h1, h2⟩ := h
    simp only [upds, upds_of_has h2, ← h1, upd_self]

theorem LoopI.by_state {body : (Exit → Fr → Heap → Prop) → Fr → Heap → Prop} {Q : Exit → Fr → Heap → Prop} {f : Fr} {H : Heap} {σ : Type}
    (st : σ → List (Nat × Value)) (hp : σ → Heap) (inv : σ → Prop) (μ : σ → Nat) (s0 : σ) (h0 : inv s0) (hf : Has f (st s0)) (hH : Sub H (hp s0))
    (step : ∀ s f0, inv s → body (fun e f' H' => match e with | .normal => ∃ s' H0, μ s' < μ s ∧ Sub H' H0 ∧ inv s' ∧ Has f' (st s') ∧ H0 = hp s' | e => Q e f' H') (upds f0 (st s)) (hp s)) : LoopI body Q f H := by
  refine .mk (fun s f H => inv s ∧ Has f (st s) ∧ H = hp s) μ s0 (hp s0) hH ⟨h0, hf, rfl⟩ ?_
  intro s f H ⟨hi, hf, hH⟩
  subst hH
  have := step s f hi
  rwa [upds_of_has hf] at this
end SL

/- Rules of loads, stores and new memory. -/
namespace SL
open Go Go.RowKit

theorem Addr_add (b o n : Nat) : (⟨b, o, none⟩ : Addr).add n = ⟨b, o + n, none⟩ := by unfold Addr.add; split <;> simp_all

/-! ### A type's make: scalar, or so many cells -/
def kind (P : Program) (t : TypeId) : Option (Option Nat) :=
  match P.underlying t with
  | some (.struct _) | some (.array _ _) => some (some (P.cellsOf t))
  | some _ => some none
  | none => none

section
variable {P : Program} {t : TypeId} {w : World}
theorem run_underlying_some {d : TypeDesc} (h : P.underlying t = some d) (w : World) : (underlying t).run P w = .ok d w := run_underlying h w
theorem kind_none (h : kind P t = some none) : (isAgg t).run P w = .ok false w := by
  unfold kind at h
  split at h
  · cases h
  · cases h
  · rename_i d h1 h2 hd
    unfold isAgg
    simp only [Sem.run_bind, run_underlying hd, Result.andThen_ok]
    cases d <;> simp_all
  · cases h
theorem kind_some {m : Nat} (h : kind P t = some (some m)) : (isAgg t).run P w = .ok true w ∧ (Go.sizeOf t).run P w = .ok m w := by
  have key : ∀ d, P.underlying t = some d → P.cellsOf t = m → (match d with | .struct _ | .array _ _ => true | _ => false) = true → (isAgg t).run P w = .ok true w ∧ (Go.sizeOf t).run P w = .ok m w := by
    intro d hd hm hk
    refine ⟨?_, ?_⟩
    · unfold isAgg
      simp only [Sem.run_bind, run_underlying hd, Result.andThen_ok]
      cases d <;> simp_all
    · unfold Program.underlying at hd
      cases hi : P.info? t with
      | none => simp [hi] at hd
      | some i => simp [Go.sizeOf, typeInfo, hi]; simpa [Program.cellsOf, hi] using hm
  unfold kind at h
  split at h
  · rename_i d hd; exact key _ hd (by simpa using h) rfl
  · rename_i d e hd; exact key _ hd (by simpa using h) rfl
  · cases h
  · cases h
theorem run_loadVar_scalar {a : Addr} {v : Value} (hk : kind P t = some none) (hc : w.cell? a = some v) : (loadVar t a).run P w = .ok v w := by
  unfold loadVar
  simp only [Sem.run_bind, kind_none hk, Result.andThen_ok, Bool.false_eq_true, if_false]
  simp [load, Sem.run, hc]
theorem run_loadVar_agg {a : Addr} {cs : List Value} (hk : kind P t = some (some cs.length)) (hc : ∀ j v, cs[j]? = some v → w.cell? (a.add j) = some v) : (loadVar t a).run P w = .ok (.agg cs.toArray) w := by
  unfold loadVar
  simp only [Sem.run_bind, (kind_some hk).1, (kind_some hk).2, Result.andThen_ok, if_true, run_loadCells_list w a cs hc, Sem.run_pure]
end

/-! ### Finding an object -/
class Find (H : Heap) (b : Nat) (l : outParam (List Value)) (T : outParam TypeId) (fr : outParam (Nat × Nat)) : Prop where
  mem : HObj.cells b l T fr ∈ H
instance Find.there {x : HObj} {H : Heap} {b : Nat} {l : List Value} {T : TypeId} {fr : Nat × Nat} [h : Find H b l T fr] : Find (x :: H) b l T fr := ⟨.tail _ h.mem⟩
instance Find.here {H : Heap} {b : Nat} {l : List Value} {T : TypeId} {fr : Nat × Nat} : Find (.cells b l T fr :: H) b l T fr := ⟨.head _⟩
/-- Its cells put anew. -/
class Put (H : Heap) (b : Nat) (l' : List Value) (H' : outParam Heap) : Prop where
  out : ∃ A l T fr B, H = A ++ HObj.cells b l T fr :: B ∧ H' = A ++ HObj.cells b l' T fr :: B
instance Put.there {x : HObj} {H H' : Heap} {b : Nat} {l' : List Value} [h : Put H b l' H'] : Put (x :: H) b l' (x :: H') := ⟨by
  obtain ⟨A, l, T, fr, B, h1, h2⟩ := h.out
  exact ⟨x :: A, l, T, fr, B, by simp [h1], by simp [h2]⟩⟩
instance Put.here {H : Heap} {b : Nat} {l l' : List Value} {T : TypeId} {fr : Nat × Nat} : Put (.cells b l T fr :: H) b l' (.cells b l' T fr :: H) := ⟨[], l, T, fr, H, rfl, rfl⟩
/-- A slice that owns its row. -/
class FindOwn (H : Heap) (b : Nat) (n : outParam Nat) (c : outParam Nat) (T : outParam TypeId) (sz : outParam Nat) (l : outParam (List Value)) : Prop where
  mem : HObj.own (.slice (some ⟨b, 0, none⟩) n c) n T sz l ∈ H
instance FindOwn.there {x : HObj} {H : Heap} {b n c sz : Nat} {l : List Value} {T : TypeId} [h : FindOwn H b n c T sz l] : FindOwn (x :: H) b n c T sz l := ⟨.tail _ h.mem⟩
instance FindOwn.here {H : Heap} {b n c sz : Nat} {l : List Value} {T : TypeId} : FindOwn (.own (.slice (some ⟨b, 0, none⟩) n c) n T sz l :: H) b n c T sz l := ⟨.head _⟩

section
variable {C : Ctx} {P : Program} {H H' : Heap} {K : Value → Prop} {t : TypeId} {b off : Nat} {l : List Value} {T : TypeId} {v : Value}

theorem LoadV.s {fr : Nat × Nat} [hf : Find H b l T fr] (hk : kind P t = some none) (hv : l[off]? = some v) (k : K v) : LoadV C P t ⟨b, off, none⟩ H K :=
  ⟨v, fun w hs => run_loadVar_scalar hk (by have := hs.objs _ hf.mem; simp only [HObj.sat] at this; rw [cell_of_row w b off _ _ _ this]; simpa using hv), k⟩
theorem LoadV.a (m : Nat) {fr : Nat × Nat} [hf : Find H b l T fr] (hk : kind P t = some (some m)) (hm : off + m ≤ l.length) (k : forceL ((l.drop off).take m) fun l => K (.agg l.toArray)) : LoadV C P t ⟨b, off, none⟩ H K :=
  .mk (.agg ((l.drop off).take m).toArray) (fun w hs => by
    have hl : ((l.drop off).take m).length = m := by simp; omega
    refine run_loadVar_agg (by rw [hl]; exact hk) fun j v hj => ?_
    have := hs.objs _ hf.mem
    simp only [HObj.sat] at this
    rw [Addr_add, cell_of_row w b _ _ _ _ this]
    rw [List.getElem?_take] at hj
    split at hj
    · simpa [List.getElem?_drop] using hj
    · cases hj) (by rwa [forceL_eq] at k)
theorem own_cell {w' : World} {n c sz : Nat} {T : TypeId} {b : Nat} {l : List Value} (hs : (HObj.own (.slice (some ⟨b, 0, none⟩) n c) n T sz l).sat w') (j : Nat) (u : Value) (hj : l[j]? = some u) : w'.cell? ⟨b, j, none⟩ = some u := by
  have := World.ownsRow.cells hs (g := b) rfl j u hj
  rwa [Addr_add, Nat.zero_add] at this
theorem LoadV.os {n c sz : Nat} [hf : FindOwn H b n c T sz l] (hk : kind P t = some none) (hv : l[off]? = some v) (k : K v) : LoadV C P t ⟨b, off, none⟩ H K :=
  ⟨v, fun w hs => run_loadVar_scalar hk (own_cell (hs.objs _ hf.mem) off v hv), k⟩
theorem LoadV.oa (m : Nat) {n c sz : Nat} [hf : FindOwn H b n c T sz l] (hk : kind P t = some (some m)) (hm : off + m ≤ l.length) (k : K (.agg ((l.drop off).take m).toArray)) : LoadV C P t ⟨b, off, none⟩ H K :=
  .mk _ (fun w hs => by
    have hl : ((l.drop off).take m).length = m := by simp; omega
    refine run_loadVar_agg (by rw [hl]; exact hk) fun j v hj => ?_
    rw [Addr_add]
    refine own_cell (hs.objs _ hf.mem) _ v ?_
    rw [List.getElem?_take] at hj
    split at hj
    · simpa [List.getElem?_drop] using hj
    · cases hj) k

/-! ### Foreign memory -/
def RdC (F : Mem) (a : Addr) (v : Value) : Prop := ∀ w : World, (∀ r o, F r = some o → w.heap[r]? = some o) → w.cell? a = some v
theorem RdC.cell {a : Addr} {v : Value} (h : RdC C.F a v) {w : World} (hs : Sat C H w) : w.cell? a = some v := h w fun _ _ hF => hs.foreign hF
theorem RdC.ext {F F' : Mem} {a : Addr} {v : Value} (h : RdC F a v) (hF : ∀ r o, F r = some o → F' r = some o) : RdC F' a v := fun w hw => h w fun r o hr => hw r o (hF r o hr)
theorem LoadV.f {a : Addr} (h : RdC C.F a v) (hk : kind P t = some none) (k : K v) : LoadV C P t a H K :=
  ⟨v, fun _ hs => run_loadVar_scalar hk (h.cell hs), k⟩
theorem LoadV.fa {a : Addr} {cs : List Value} (h : ∀ j v, cs[j]? = some v → RdC C.F (a.add j) v) (hk : kind P t = some (some cs.length)) (k : K (.agg cs.toArray)) : LoadV C P t a H K :=
  ⟨_, fun _ hs => run_loadVar_agg hk fun j v hj => (h j v hj).cell hs, k⟩

/-! ### Stores -/
/-- Cells put at a place. -/
def putAt (l : List Value) (off : Nat) (vs : List Value) : List Value := l.take off ++ vs ++ l.drop (off + vs.length)
theorem run_storeVar {w : World} {cur : Array Value} (hg : w.heap[b]? = some (.cells cur T (0, 0))) (hz : P.cellsOf t = v.cells.size) (hi : (P.info? t).isSome) (hle : off + v.cells.size ≤ cur.size) (h1 : ∀ u ∈ v.cells.toList, u.oneCell' = true) :
    (storeVar t ⟨b, off, none⟩ v).run P w = .ok () (w.setRow b (putAt cur.toList off v.cells.toList).toArray) := by
  obtain ⟨i, hi⟩ := Option.isSome_iff_exists.1 hi
  have hz' : i.size = v.cells.size := by simpa [Program.cellsOf, hi] using hz
  have := run_storeCells_at P b off T v.cells.toList 0 cur w hg (by simpa using hle) h1
  simp only [Nat.add_zero] at this
  simp [storeVar, Go.sizeOf, typeInfo, hi, hz', this, putAt]
theorem Sat.setRow {w : World} {l' : List Value} {A B : Heap} (hs : Sat C (A ++ .cells b l T (0, 0) :: B) w) : Sat C (A ++ .cells b l' T (0, 0) :: B) (w.setRow b l'.toArray) := by
  have hg : w.heap[b]? = some (.cells l.toArray T (0, 0)) := hs.objs (.cells b l T (0, 0)) (by simp)
  refine hs.write (x := .cells b l T (0, 0)) (y := .cells b l' T (0, 0)) rfl rfl rfl (by simp [World.setRow]) (fun r _ hr => setRow_other w b r _ (by simpa [HObj.blks] using hr)) (setRow_heap w b _ _ _ _ hg) (by simp [HObj.blks]) (fun r hr => .inl hr)
theorem StoreV.c {KH : Heap → Prop} [hf : Find H b l T (0, 0)] (hz : P.cellsOf t = v.cells.size) (hi : (P.info? t).isSome) (hle : off + v.cells.size ≤ l.length) (h1 : v.cells.toList.all Value.oneCell' = true)
    [hp : Put H b (putAt l off v.cells.toList) H'] (k : KH H') : StoreV C P t ⟨b, off, none⟩ v H KH :=
  ⟨H', fun w hs => by
    obtain ⟨A, l2, T2, fr2, B, rfl, rfl⟩ := hp.out
    have g1 := hs.objs _ hf.mem
    have g2 : w.heap[b]? = some (.cells l2.toArray T2 fr2) := hs.objs (.cells b l2 T2 fr2) (by simp)
    simp only [HObj.sat] at g1
    rw [g1] at g2
    simp only [Option.some.injEq, Obj.cells.injEq] at g2
    obtain ⟨hl, rfl, rfl⟩ := g2
    obtain rfl : l = l2 := by simpa using congrArg Array.toList hl
    exact ⟨_, run_storeVar g1 hz hi (by simpa using hle) (List.all_eq_true.1 h1), hs.setRow⟩, k⟩
end
end SL

/- Regions that draw their order: quiet operations in any order; and behind them a tail in one order. -/
namespace SL
open Go Go.RowKit

section
variable (C : Ctx) (P : Program) (H : Heap)

/-- The worlds that a quiet operation may leave: the very world, or any in which the owned objects stand. -/
def cls (s : Bool) (w : World) : World → Prop := bif s then (fun x => x = w) else Sat C H
inductive CallQ (s : Bool) (g : FuncId) (args : List Value) (K : Value → Prop) : Prop
  | mk (v : Value) (hg : ∀ (x : Array Value) (w : World), (callFunc g x).run P w = .ok (.enter g x) w) (h : ∀ w, Sat C H w → Calls P g args.toArray w fun e w' => e = .returned v ∧ cls C H s w w') (k : K v)

/-- A computation that leaves the memory alone. -/
def SemQ {α : Type} (s : Sem α) : (α → Prop) → Prop :=
  @Sem.rec α (fun _ => (α → Prop) → Prop)
    (fun a Q => Q a)
    (fun _ a _ ih Q => LoadI C a H fun v => ih v Q)
    (fun _ _ _ _ _ _ => False)
    (fun _ _ _ _ => False)
    (fun r _ ih Q => ShapeI C r H fun s => ih s Q)
    (fun _ _ _ _ _ => False)
    (fun a _ ih Q => FrozenI C a H fun b => ih b Q)
    (fun r _ ih Q => GetI C r H fun o => ih o Q)
    (fun _ _ _ _ _ => False)
    (fun _ _ _ _ => False)
    (fun _ _ _ _ => False)
    (fun _ ih Q => ih P Q)
    (fun _ _ ih Q => ih Q)
    (fun _ _ => False)
    s

def nextQ (K : Value → Prop) : Next → Prop
  | .value v => forceV v K
  | .skip => K undef
  | _ => False

/-- An operation that leaves the memory alone and is not looked into. -/
inductive QuietV (s : Sem Value) (K : Value → Prop) : Prop
  | mk (v : Value) (h : ∀ w, Sat C H w → s.run P w = .ok v w) (k : K v)
def QOpW (s : Bool) (n : Nat) (f : Fr) (o : Oper) (K : Value → Prop) : Prop :=
  match o.op with
  | .load t x => match ev n f x with
    | .pointer (some a) => LoadV C P t a H fun v => forceV v K
    | _ => False
  | .pick c x y => match ev n f c with
    | .bool b => cond b (forceV (ev n f x) K) (forceV (ev n f y) K)
    | _ => False
  | .binOp op t x y _ => cond (isArith op (ev n f x)) (arithW op (ev n f x) (ev n f y) K) (cond (isAggEq op (ev n f x)) (EqV P op t x y (ev n f x) (ev n f y) fun v => forceV v K)
      (cond (isStrAdd op (ev n f x)) (strAddW (ev n f x) (ev n f y) K) (SemQ C P H (execOp (ev n f) o) (nextQ K))))
  | .convert src dst x => cond (isByteConv P dst (ev n f x)) (QuietV C P H (convert src dst (ev n f x)) fun v => forceV v K)
      (cond (isIntConv P src dst (ev n f x)) (intConvW P dst (ev n f x) K) (SemQ C P H (execOp (ev n f) o) (nextQ K)))
  | .build t parts => buildW P t (parts.toList.map fun p => (p.1, ev n f p.2)) K
  | .lookup t m k ok => QuietV C P H (Instr.lookup t (ev n f m) (ev n f k) ok) fun v => forceV v K
  | .slice t x lo hi mx => QuietV C P H (Instr.sliceAt t (ev n f x) (lo.map (ev n f)) (hi.map (ev n f)) (mx.map (ev n f))) fun v => forceV v K
  | .indexAddr t x ix => indexAddrW P t (ev n f x) (ev n f ix) K
  | .index t x ix => indexW P t (ev n f x) (ev n f ix) fun v => forceV v K
  | .call c => match c.callee with
    | .value x => match ev n f x with
      | .func (.func g) first captured => CallQ C P H s g (first.toList ++ c.args.toList.map (ev n f) ++ captured.toList) fun v => forceV v K
      | _ => False
    | .builtin b => cond (isAppendCopy b) False
        (cond (isMinMax b (c.args.toList.map (ev n f))) (minMaxW b (c.args.toList.map (ev n f)) K)
        (SemQ C P H (builtin b c.argTypes o.type (c.args.map fun | .const _ => true | _ => false) (c.args.toList.map (ev n f)).toArray) (nextQ K)))
    | .invoke _ _ => False
  | _ => SemQ C P H (execOp (ev n f) o) (nextQ K)

def QListW (s : Bool) (n : Nat) (ops : List Oper) (Q : Fr → Prop) (l : List Oper) : Fr → Prop :=
  @List.rec Oper (fun _ => Fr → Prop) (fun f => Q f)
    (fun o _ ih f => guardW n ops f o.guard (fun f => QOpW C P H s n f o (fun v => putK f o.dst v ih)) (fun f => putK f o.dst undef ih)) l
end

section
variable {C : Ctx} {P : Program} {H : Heap} {n : Nat} {b : Bool}

theorem SemQ.sound {α : Type} (s : Sem α) : ∀ {Q : α → Prop}, SemQ C P H s Q → ∃ a, (∀ w, Sat C H w → s.run P w = .ok a w) ∧ Q a := by
  induction s with
  | pure a => intro Q h; exact ⟨a, fun w _ => rfl, h⟩
  | load m a k ih =>
    intro Q h
    obtain ⟨v, hv, hk⟩ := h
    obtain ⟨x, hx, hq⟩ := ih v hk
    exact ⟨x, fun w hs => by simp only [Sem.run, hv w hs]; exact hx w hs, hq⟩
  | store m a v k ih => intro Q h; exact h.elim
  | new o k ih => intro Q h; exact h.elim
  | shape r k ih =>
    intro Q h
    obtain ⟨v, hv, hk⟩ := h
    obtain ⟨x, hx, hq⟩ := ih v hk
    exact ⟨x, fun w hs => by simp only [Sem.run, hv w hs]; exact hx w hs, hq⟩
  | freeze a n k ih => intro Q h; exact h.elim
  | frozen a k ih =>
    intro Q h
    obtain ⟨v, hv, hk⟩ := h
    obtain ⟨x, hx, hq⟩ := ih v hk
    exact ⟨x, fun w hs => by simp only [Sem.run, hv w hs]; exact hx w hs, hq⟩
  | getObj r k ih =>
    intro Q h
    obtain ⟨o, hc, hv, hk⟩ := h
    obtain ⟨x, hx, hq⟩ := ih o hk
    refine ⟨x, fun w hs => ?_, hq⟩
    simp only [Sem.run, hv w hs]
    cases o with
    | cells c t fr => exact absurd rfl (hc c t fr)
    | _ => exact hx w hs
  | setObj r o k ih => intro Q h; exact h.elim
  | choose q k ih => intro Q h; exact h.elim
  | sys c k ih => intro Q h; exact h.elim
  | program k ih =>
    intro Q h
    obtain ⟨x, hx, hq⟩ := ih P h
    exact ⟨x, fun w hs => by simp only [Sem.run]; exact hx w hs, hq⟩
  | mark m k ih =>
    intro Q h
    obtain ⟨x, hx, hq⟩ := ih h
    exact ⟨x, fun w hs => by simp only [Sem.run]; exact hx w hs, hq⟩
  | halt x => intro Q h; exact h.elim

theorem nextQ.sound {o : Oper} {a : Act} {f : Fr} {K : Value → Prop} (ht : TR C.ds n f a) {s : Sem Next} (hex : execOp (ev n f) o = s) (h : SemQ C P H s (nextQ K)) : ∃ v, (∀ w, Sat C H w → o.quietAt P a (cls C H b w) w v) ∧ K v := by
  obtain ⟨nx, hrun, hk⟩ := SemQ.sound _ h
  have hq : ∀ w, Sat C H w → (execOp a.eval o).run P w = .ok nx w := fun w hs => by rw [ht.eval, hex]; exact hrun w hs
  cases nx <;> simp only [nextQ] at hk
  case value v => rw [forceV_eq] at hk; exact ⟨v, fun w hs => by unfold Oper.quietAt; rw [hq w hs]; exact ⟨rfl, rfl⟩, hk⟩
  case skip => exact ⟨undef, fun w hs => by unfold Oper.quietAt; rw [hq w hs]; exact ⟨rfl, rfl⟩, hk⟩

theorem QOpW.sound {o : Oper} {a : Act} {f : Fr} {K : Value → Prop} (h : QOpW C P H b n f o K) (ht : TR C.ds n f a) : ∃ v, (∀ w, Sat C H w → o.quietAt P a (cls C H b w) w v) ∧ K v := by
  unfold QOpW at h
  split at h
  · rename_i t x ho
    split at h
    · rename_i ad he
      obtain ⟨v, hv, hk⟩ := h
      rw [forceV_eq] at hk
      refine ⟨v, fun w hs => ?_, hk⟩
      have : (execOp a.eval o).run P w = .ok (.value v) w := by
        rw [ht.eval]
        unfold execOp; simp only [ho]; simp only [Instr.loadAt, he, Instr.sureAddr]
        simp [hv w hs]
      unfold Oper.quietAt; rw [this]; exact ⟨rfl, rfl⟩
    · exact h.elim
  · rename_i c x y ho
    split at h
    · rename_i b' hb
      have : ∀ w, (execOp a.eval o).run P w = .ok (.value (if b' then ev n f x else ev n f y)) w := by
        intro w; rw [ht.eval]; unfold execOp; simp only [ho]; simp [hb, asBool]
      cases b' <;> simp only [cond_true, cond_false, forceV_eq] at h
      · exact ⟨_, fun w hs => by unfold Oper.quietAt; rw [this]; exact ⟨rfl, rfl⟩, h⟩
      · exact ⟨_, fun w hs => by unfold Oper.quietAt; rw [this]; exact ⟨rfl, rfl⟩, h⟩
    · exact h.elim
  · rename_i op t x y t' ho
    cases hb : isArith op (ev n f x) with
    | true =>
      rw [hb] at h
      simp only [cond_true] at h
      obtain ⟨v, hv, hk⟩ := arithW.sound (P := P) (ρ := ev n f) ho hb h
      exact ⟨v, fun w hs => by unfold Oper.quietAt; rw [ht.eval, hv w]; exact ⟨rfl, rfl⟩, hk⟩
    | false =>
      rw [hb] at h
      cases hc : isAggEq op (ev n f x) with
      | true =>
        rw [hc] at h
        obtain ⟨v, hv, hk⟩ := h
        rw [forceV_eq] at hk
        have : ∀ w, (execOp (ev n f) o).run P w = .ok (.value v) w := by
          intro w
          have hv := hv w
          simp only [Sem.run_bind] at hv
          unfold execOp; simp only [ho]; simp only [Sem.run_bind, hv, Result.andThen_ok, Sem.run_pure]
        exact ⟨v, fun w hs => by unfold Oper.quietAt; rw [ht.eval, this w]; exact ⟨rfl, rfl⟩, hk⟩
      | false =>
        rw [hc] at h
        simp only [cond_false] at h
        cases hd : isStrAdd op (ev n f x) with
        | true =>
          rw [hd] at h
          simp only [cond_true] at h
          obtain ⟨v, hv, hk⟩ := strAddW.sound (P := P) (ρ := ev n f) ho hd h
          exact ⟨v, fun w hs => by unfold Oper.quietAt; rw [ht.eval, hv w]; exact ⟨rfl, rfl⟩, hk⟩
        | false => rw [hd] at h; exact nextQ.sound ht rfl h
  · rename_i src dst x ho
    cases hb : isByteConv P dst (ev n f x) with
    | true =>
      rw [hb] at h
      obtain ⟨v, hv, hk⟩ := h
      rw [forceV_eq] at hk
      have : ∀ w, Sat C H w → (execOp (ev n f) o).run P w = .ok (.value v) w := by
        intro w hs; unfold execOp; simp only [ho]; simp only [Sem.run_bind, hv w hs, Result.andThen_ok, Sem.run_pure]
      exact ⟨v, fun w hs => by unfold Oper.quietAt; rw [ht.eval, this w hs]; exact ⟨rfl, rfl⟩, hk⟩
    | false =>
      rw [hb] at h
      simp only [cond_false] at h
      cases hd : isIntConv P src dst (ev n f x) with
      | true =>
        rw [hd] at h
        simp only [cond_true] at h
        have hsrc : ∃ d, P.underlying src = some d := by
          unfold isIntConv at hd
          split at hd
          · split at hd
            · rename_i d hd'; exact ⟨d, hd'⟩
            · cases hd
          · cases hd
        obtain ⟨v, hv, hk⟩ := intConvW.sound hsrc h
        have : ∀ w, (execOp (ev n f) o).run P w = .ok (.value v) w := by
          intro w; unfold execOp; simp only [ho]; simp only [Sem.run_bind, hv w, Result.andThen_ok, Sem.run_pure]
        exact ⟨v, fun w hs => by unfold Oper.quietAt; rw [ht.eval, this w]; exact ⟨rfl, rfl⟩, hk⟩
      | false => rw [hd] at h; exact nextQ.sound ht rfl h
  · rename_i t parts ho
    obtain ⟨v, hv, hk⟩ := buildW.sound h
    have : ∀ w, (execOp (ev n f) o).run P w = .ok (.value v) w := by
      intro w; unfold execOp; simp only [ho]; simp only [Sem.run_bind, map_parts, hv, Result.andThen_ok, Sem.run_pure]
    exact ⟨v, fun w hs => by unfold Oper.quietAt; rw [ht.eval, this w]; exact ⟨rfl, rfl⟩, hk⟩
  · rename_i t m k ok ho
    obtain ⟨v, hv, hk⟩ := h
    rw [forceV_eq] at hk
    have : ∀ w, Sat C H w → (execOp (ev n f) o).run P w = .ok (.value v) w := by
      intro w hs; unfold execOp; simp only [ho]; simp only [Sem.run_bind, hv w hs, Result.andThen_ok, Sem.run_pure]
    exact ⟨v, fun w hs => by unfold Oper.quietAt; rw [ht.eval, this w hs]; exact ⟨rfl, rfl⟩, hk⟩
  · rename_i t x lo hi mx ho
    obtain ⟨v, hv, hk⟩ := h
    rw [forceV_eq] at hk
    have : ∀ w, Sat C H w → (execOp (ev n f) o).run P w = .ok (.value v) w := by
      intro w hs; unfold execOp; simp only [ho]; simp only [Sem.run_bind, hv w hs, Result.andThen_ok, Sem.run_pure]
    exact ⟨v, fun w hs => by unfold Oper.quietAt; rw [ht.eval, this w hs]; exact ⟨rfl, rfl⟩, hk⟩
  · rename_i t x ix ho
    obtain ⟨v, hv, hk⟩ := indexAddrW.sound h
    have : ∀ w, (execOp a.eval o).run P w = .ok (.value v) w := by
      intro w; rw [ht.eval]; unfold execOp; simp only [ho]; simp [hv w]
    exact ⟨v, fun w hs => by unfold Oper.quietAt; rw [this]; exact ⟨rfl, rfl⟩, hk⟩
  · rename_i t x ix ho
    obtain ⟨v, hv, hk⟩ := indexW.sound h
    rw [forceV_eq] at hk
    have : ∀ w, (execOp a.eval o).run P w = .ok (.value v) w := by
      intro w; rw [ht.eval]; unfold execOp; simp only [ho]; simp [hv w]
    exact ⟨v, fun w hs => by unfold Oper.quietAt; rw [this]; exact ⟨rfl, rfl⟩, hk⟩
  · rename_i c ho
    split at h
    · rename_i x hc
      split at h
      · rename_i g first captured he
        obtain ⟨v, hg, hcall, hk⟩ := h
        rw [forceV_eq] at hk
        refine ⟨v, fun w hs => ?_, hk⟩
        have : (execOp a.eval o).run P w = .ok (.enter g (first.toList ++ c.args.toList.map (ev n f) ++ captured.toList).toArray) w := by
          have harr : (first.toList ++ c.args.toList.map (ev n f) ++ captured.toList).toArray = first ++ c.args.map (ev n f) ++ captured := by
            rw [map_args]; simp
          rw [ht.eval]
          unfold execOp; simp only [ho]
          simp only [resolve, hc, Deferred.ofValue, he]
          rw [harr]
          simp [invoke, hg]
        unfold Oper.quietAt; rw [this]
        exact ⟨rfl, hcall w hs⟩
      · exact h.elim
    · rename_i b' hc
      have hex : execOp (ev n f) o = builtin b' c.argTypes o.type (c.args.map fun | .const _ => true | _ => false) (c.args.toList.map (ev n f)).toArray := by
        unfold execOp; simp only [ho]
        simp only [resolve, hc]
        rw [map_args]; rfl
      cases hb : isAppendCopy b' with
      | true => rw [hb] at h; exact h.elim
      | false =>
        rw [hb] at h
        simp only [cond_false] at h
        cases hm : isMinMax b' (c.args.toList.map (ev n f)) with
        | true =>
          rw [hm] at h
          simp only [cond_true] at h
          obtain ⟨v, hv, hk⟩ := minMaxW.sound h
          exact ⟨v, fun w hs => by unfold Oper.quietAt; rw [ht.eval, hex, hv w]; exact ⟨rfl, rfl⟩, hk⟩
        | false => rw [hm] at h; exact nextQ.sound ht hex h
    · exact h.elim
  · exact nextQ.sound ht rfl h

/-- What a list of quiet operations does to a frame, told as a property of lists that one step builds up. -/
theorem QListW.walk {ops : Array Oper} {Q : Fr → Prop} (W : List Oper → Act → Prop)
    (h0 : ∀ f a, TR C.ds n f a → Q f → W [] a)
    (h1 : ∀ o l a v, Region.wanted o (yielded ops a.tmps) = true → (∀ w, Sat C H w → o.quietAt P a (cls C H b w) w v) → W l (a.put o.dst v) → W (o :: l) a)
    (h2 : ∀ o l a, Region.wanted o (yielded ops a.tmps) = false → W l (a.put o.dst undef) → W (o :: l) a) :
    ∀ (l : List Oper) {f : Fr} {a : Act}, QListW C P H b n ops.toList Q l f → TR C.ds n f a → W l a
  | [], f, a, h, ht => h0 f a ht h
  | o :: l, f, a, h, ht => by
    replace h : guardW n ops.toList f o.guard (fun f => QOpW C P H b n f o (fun v => putK f o.dst v (QListW C P H b n ops.toList Q l))) (fun f => putK f o.dst undef (QListW C P H b n ops.toList Q l)) := h
    simp only [putK_eq] at h
    have hX : Region.wanted o (yielded ops a.tmps) = true → QOpW C P H b n f o (fun v => QListW C P H b n ops.toList Q l (putO f o.dst v)) → W (o :: l) a := fun hw h => by
      obtain ⟨v, hv, hk⟩ := QOpW.sound h ht
      exact h1 o l a v hw hv (QListW.walk W h0 h1 h2 l hk (ht.put o.dst v))
    have hY : Region.wanted o (yielded ops a.tmps) = false → QListW C P H b n ops.toList Q l (putO f o.dst undef) → W (o :: l) a := fun hw h =>
      h2 o l a hw (QListW.walk W h0 h1 h2 l h (ht.put o.dst undef))
    rcases guardW.sound (ops := ops) ht h with ⟨hw, h⟩ | ⟨hw, h⟩
    · exact hX hw h
    · exact hY hw h

/-- A call of a function that has no owned objects: what is handed back is one value. -/
theorem CallQ.pure {g : FuncId} {args : List Value} {K : Value → Prop} {v : Value} (hg : ∀ (x : Array Value) (w : World), (callFunc g x).run P w = .ok (.enter g x) w)
    (h : ∀ F', Ext C.F H F' → FT P g args.toArray F' [] (fun e _ => e = .returned v)) (k : K v) : CallQ C P H false g args K :=
  ⟨v, hg, fun w hs => (CallI.sound (K := fun e H' => e = .returned v ∧ ∃ X, H' = X ++ H) (C := C) (H := H) ⟨[], H, _, Sub.refl H, h, fun e A' he => by rw [forceH_eq]; exact ⟨he, A', rfl⟩⟩ hs).mono
    fun e w' ⟨_, H', ⟨he, X, hX⟩, hs'⟩ => ⟨he, by subst hX; exact hs'.drop⟩, k⟩
theorem CallQ.same {g : FuncId} {args : List Value} {K : Value → Prop} {v : Value} (hg : ∀ (x : Array Value) (w : World), (callFunc g x).run P w = .ok (.enter g x) w)
    (h : ∀ w, Calls P g args.toArray w fun e w' => e = .returned v ∧ w' = w) (k : K v) : CallQ C P H true g args K := ⟨v, hg, fun w _ => h w, k⟩

theorem DrawI.quiet {id : Nat} {ops : Array Oper} {Q : Exit → Fr → Heap → Prop} {f : Fr} (hm : P.follows .mixedOrders = true) (hB : Region.lexB .any ops = true)
    (h : QListW C P H false n ops.toList (fun f' => Q .normal f' H) ops.toList f) (hd : noDefer ops = true := by kernel_rfl) : DrawI C P n id ops Q f H :=
  ⟨hm, hd, fun a w ht hs => by
    simp only [Region.lexB, Bool.and_eq_true] at hB
    refine wpAny_of_quiet (C := Sat C H) (Q := fun a' => ∀ w', Sat C H w' → lift C n Q .normal a' w') (fun _ w' hw' h => h w' hw') _ _ _ _ hs ?_
    have := wpAnyQ_lex (C := Sat C H) (md := .any) hB.1 ops.toList 0 (Array.replicate ops.size false) a (by simp) (by simpa using hB.2) (QListW.walk (fun l a => wpQuiet P ops (Sat C H) (fun a' => ∀ w', Sat C H w' → lift C n Q .normal a' w') l a)
      (fun f a ht hq w' hs' => ⟨by simp, f, H, hq, ht, hs'⟩)
      (fun o l a v hw hv hk => by unfold wpQuiet; rw [if_pos hw]; exact ⟨v, hv, hk⟩)
      (fun o l a hw hk => by unfold wpQuiet; rw [if_neg (by simp [hw])]; exact hk) _ h ht)
    simpa using this⟩

theorem wpAny_still_tail {Q : Exit → Act → World → Prop} {a : Act} {w : World} {l : List Oper} (n : Nat) (hB : Region.lexTailB .any l.toArray n = true)
    (h : wpStill P l.toArray w (fun a' => wpList P l.toArray Q (l.drop n) a' w) (l.take n) a) : wpAny P .any l.toArray Q l.toArray.size (Array.replicate l.toArray.size false) a w := by
  simp only [Region.lexTailB, Bool.and_eq_true, decide_eq_true_eq] at hB
  obtain ⟨⟨⟨⟨hsel, hn⟩, hs⟩, hc⟩, hlex⟩ := hB
  have hn' : n < l.length := by simpa using hn
  have htl : (l.take n).length = n := by simp; omega
  have hdl : (l.drop n).length = l.toArray.size - n := by simp
  have inv0 : HeadInv .any l.toArray n (Array.replicate l.toArray.size false) :=
    ⟨by simp, fun j oj _ hl => (by rw [getD_replicate_false] at hl; cases hl), fun t _ ht => getD_in (by simpa using ht) (getD_replicate_false _ _)⟩
  have H := wpAnyL_lex (md := .any) (g := l.toArray.size - n) hsel hs hc hn (l.take n) 0 _ a (fun j hj => by
    have hj' : j < n := by rw [htl] at hj; exact hj
    simp [hj']) (by simpa using htl) inv0 (by rw [htl]; exact hlex) h
  have := wpAny_of_head (Q' := Q) (g := l.toArray.size - n) (fun listed a' hL => by
    have := wpAny_of_seq (md := .any) (Q' := Q) (l.drop n) n listed a' w (fun j => by simp [List.getElem?_drop]) (by rw [hdl]; exact hL.1) hL.2
    rwa [hdl] at this) _ _ _ H
  rw [htl, show n + (l.toArray.size - n) = l.toArray.size by omega] at this
  exact this

/-- Quiet operations, and behind them a tail in one order. -/
theorem DrawI.tail (m : Nat) {id : Nat} {l : List Oper} {Q : Exit → Fr → Heap → Prop} {f : Fr} (hm : P.follows .mixedOrders = true) (hB : Region.lexTailB .any l.toArray m = true)
    (h : QListW C P H true n l (fun f' => ListW C P false n l (Q .normal) (fun c => Q (.panic c)) (l.drop m) f' H) (l.take m) f) (hd : noDefer l.toArray = true := by kernel_rfl) : DrawI C P n id l.toArray Q f H :=
  ⟨hm, hd, fun a w ht hs' => wpAny_still_tail m hB (by
    refine QListW.walk (ops := l.toArray) (fun l' a => wpStill P l.toArray w (fun a' => wpList P l.toArray (lift C n Q) (l.drop m) a' w) l' a)
      (fun f a ht hq => ListW.sound _ hq ht hs')
      (fun o l' a v hw hv hk => ?_)
      (fun o l' a hw hk => by unfold wpStill; rw [if_neg (by simp [hw])]; exact hk) _ h ht
    unfold wpStill
    rw [if_pos hw]
    have h1 := hv _ hs'
    unfold Oper.quietAt at h1
    unfold Oper.still
    generalize (execOp a.eval o).run P _ = r at h1 ⊢
    cases r with
    | ok nx w' =>
      cases nx <;> simp only [Oper.quietUpon] at h1 <;> simp only [Oper.stillUpon]
      case value u => obtain ⟨e1, rfl⟩ := h1; exact ⟨e1, hk⟩
      case skip => obtain ⟨e1, rfl⟩ := h1; exact ⟨e1, hk⟩
      case enter g args => exact ⟨h1.1, v, h1.2, hk⟩
    | halt x w' => simp only [Oper.quietUpon] at h1)⟩
end
end SL

/- append onto an owned row; strings and bytes. -/
namespace SL
open Go Go.RowKit

/-- An owned row, and the objects with another in its place. -/
class OwnHole (H : Heap) (sv : Value) (n : outParam Nat) (T : outParam TypeId) (sz : outParam Nat) (l : outParam (List Value)) (G : outParam (HObj → Heap)) : Prop where
  out : ∃ A B, H = A ++ HObj.own sv n T sz l :: B ∧ ∀ y, G y = A ++ y :: B
instance OwnHole.there {x : HObj} {H : Heap} {sv : Value} {n : Nat} {T : TypeId} {sz : Nat} {l : List Value} {G : HObj → Heap} [h : OwnHole H sv n T sz l G] : OwnHole (x :: H) sv n T sz l (fun y => x :: G y) := ⟨by
  obtain ⟨A, B, h1, h2⟩ := h.out
  exact ⟨x :: A, B, by simp [h1], fun y => by simp [h2]⟩⟩
instance OwnHole.here {H : Heap} {sv : Value} {n : Nat} {T : TypeId} {sz : Nat} {l : List Value} : OwnHole (.own sv n T sz l :: H) sv n T sz l (fun y => y :: H) := ⟨[], H, rfl, fun _ => rfl⟩

/-- What stands in a row of cells, as every world has it. -/
def Row (C : Ctx) (H : Heap) (a : Addr) (vs : List Value) : Prop := ∀ w, Sat C H w → ∀ j u, vs[j]? = some u → w.cell? (a.add j) = some u
section
variable {C : Ctx} {P : Program} {H : Heap} {b o : Nat} {l : List Value} {T : TypeId}
theorem Row.cells {fr : Nat × Nat} [hf : Find H b l T fr] (k : Nat) : Row C H ⟨b, o, none⟩ ((l.drop o).take k) := by
  intro w hs j u hu
  have := hs.objs _ hf.mem
  simp only [HObj.sat] at this
  rw [Addr_add, cell_of_row w b _ _ _ _ this]
  rw [List.getElem?_take] at hu
  split at hu
  · simpa [List.getElem?_drop] using hu
  · cases hu
theorem Row.own {n c sz : Nat} [hf : FindOwn H b n c T sz l] (k : Nat) : Row C H ⟨b, o, none⟩ ((l.drop o).take k) := by
  intro w hs j u hu
  rw [Addr_add]
  refine own_cell (hs.objs _ hf.mem) _ u ?_
  rw [List.getElem?_take] at hu
  split at hu
  · simpa [List.getElem?_drop] using hu
  · cases hu
theorem Row.foreign {a : Addr} {vs : List Value} (h : ∀ j v, vs[j]? = some v → RdC C.F (a.add j) v) : Row C H a vs := fun _ hs j u hu => (h j u hu).cell hs

theorem own_blks_nodup (sv : Value) (n : Nat) (T : TypeId) (sz : Nat) (l : List Value) : (HObj.own sv n T sz l).blks.Nodup := by
  simp only [HObj.blks]; split <;> simp
theorem own_blks (sv : Value) (n : Nat) (T : TypeId) (sz : Nat) (l : List Value) : (HObj.own sv n T sz l).blks = sv.ownBlock.toList := by
  simp only [HObj.blks, Value.ownBlock]
  split <;> simp_all

/-- append(s, x...) onto an owned row, of at least one element. -/
theorem BuiltV.append {sv : Value} {n sz m c : Nat} {G : HObj → Heap} {a : Addr} {news : List Value} {t ty : TypeId} {cs : Array Bool} {i : TypeInfo} {z : Value} {K : Value → Heap → Prop}
    [ho : OwnHole H sv n T sz l G] (ht : P.underlying t = some (.slice T)) (hi : P.info? T = some i) (hz : i.zero = some z) (hsz : i.size = sz) (hzs : z.cells.size = sz) (h0 : 0 < sz)
    (hrow : Row C H a news) (hm : news.length = m * sz) (hm0 : 0 < m) (h1 : news.all Value.oneCell' = true) (hlen : (n + m) * i.bytes ≤ 140737488355328) (hmax : n + m ≤ 140737488355328)
    (k : ∀ g cap, K (.slice (some ⟨g, 0, none⟩) (n + m) cap) (G (.own (.slice (some ⟨g, 0, none⟩) (n + m) cap) (n + m) T sz (l ++ news)))) :
    BuiltV C P .append #[t, t] ty cs [sv, .slice (some a) m c] H K := by
  obtain ⟨A, B, hH, hG⟩ := ho.out
  refine ⟨fun v H' => ∃ g cap, v = .slice (some ⟨g, 0, none⟩) (n + m) cap ∧ H' = G (.own v (n + m) T sz (l ++ news)), fun w hs => ?_, fun v H' ⟨g, cap, hv, hH'⟩ => by subst hv; subst hH'; exact k g cap⟩
  have hown : w.ownsRow 0 T sz sv n l := hs.objs (.own sv n T sz l) (by rw [hH]; simp)
  obtain ⟨v', w', hr, hown', hg, hnil, hat⟩ := run_append_own_at (P := P) w 0 t ty T i z sz i.bytes ht hi hz hsz rfl hzs h0 sv n l hown a m c news hm (hrow w hs) (List.all_eq_true.1 h1) (by simp only [maxLen]; omega) hlen (Nat.zero_le _)
  have hne : v' ≠ .slice none 0 0 := fun e => by have := (hnil.1 e).2; omega
  have hform : ∃ g cap, v' = .slice (some ⟨g, 0, none⟩) (n + m) cap := by
    rcases hown'.2 with ⟨e, _⟩ | ⟨g, cap, _, e, _⟩
    · exact absurd e hne
    · exact ⟨g, cap, e⟩
  obtain ⟨g, cap, hv⟩ := hform
  refine ⟨v', w', _, by simp [builtin, hr], ⟨g, cap, hv, rfl⟩, ?_⟩
  rw [hG]
  rw [hH] at hs
  refine hs.write hg.os hg.tape hg.output hg.size (fun r hr hrx => hg.block r hr fun e => hrx ?_) hown' (own_blks_nodup _ _ _ _ _) (fun r hr => ?_)
  · rw [own_blks, ← e]; simp
  · rw [own_blks] at hr ⊢
    rcases hat with h | h
    · rw [h] at hr; exact .inl hr
    · rw [h] at hr; simp at hr; exact .inr (by omega)
/-- append(nil, x...), of at least one element: a new owned row. -/
theorem BuiltV.append_nil {sz m c : Nat} {a : Addr} {news : List Value} {t ty : TypeId} {cs : Array Bool} {i : TypeInfo} {z : Value} {K : Value → Heap → Prop}
    (ht : P.underlying t = some (.slice T)) (hi : P.info? T = some i) (hz : i.zero = some z) (hsz : i.size = sz) (hzs : z.cells.size = sz) (h0 : 0 < sz)
    (hrow : Row C H a news) (hm : news.length = m * sz) (hm0 : 0 < m) (h1 : news.all Value.oneCell' = true) (hlen : m * i.bytes ≤ 140737488355328) (hmax : m ≤ 140737488355328)
    (k : ∀ g cap, K (.slice (some ⟨g, 0, none⟩) m cap) (.own (.slice (some ⟨g, 0, none⟩) m cap) m T sz news :: H)) :
    BuiltV C P .append #[t, t] ty cs [.slice none 0 0, .slice (some a) m c] H K := by
  have hs0 : ∀ w, Sat C H w → Sat C (.own (.slice none 0 0) 0 T sz [] :: H) w := fun w hs =>
    ⟨hs.os, hs.tape, hs.output, hs.size, hs.keep, fun o ho => by
      rcases List.mem_cons.1 ho with rfl | ho
      · exact World.ownsRow_nil w 0 T sz
      · exact hs.objs o ho, by simpa [blks, HObj.blks] using hs.nodup, by simpa [blks, HObj.blks] using hs.mine⟩
  have h := BuiltV.append (C := C) (P := P) (H := .own (.slice none 0 0) 0 T sz [] :: H) (sv := .slice none 0 0) (n := 0) (ty := ty) (cs := cs) (c := c) (K := K) ht hi hz hsz hzs h0
    (fun w hs j u hu => hrow w ((Sat.drop (A := [.own (.slice none 0 0) 0 T sz []]) hs)) j u hu) hm hm0 h1 (by simpa using hlen) (by simpa using hmax) (fun g cap => by simpa using k g cap)
  obtain ⟨R, hR, hk⟩ := h
  exact ⟨R, fun w hs => hR w (hs0 w hs), hk⟩
end
end SL
namespace SL
open Go Go.RowKit
/-- A contract without owned objects, from any world. -/
theorem FT.run {P : Program} {g : FuncId} {args : Array Value} {R : Ending → Heap → Prop} {w : World} (h : FT P g args (fun r => w.heap[r]?) [] R) :
    Calls P g args w fun e w' => (∃ H, R e H) ∧ Below w.heap.size w w' :=
  (h w (fun r o hr => ⟨by simp [blks], hr⟩) ⟨rfl, rfl, rfl, Nat.le_refl _, fun _ _ _ => rfl, by simp, by simp [blks], by simp [blks]⟩).mono
    fun e w' ⟨_, H', hR, hs⟩ => ⟨⟨H', hR⟩, hs.os, hs.tape, hs.output, hs.size, fun k hk => hs.keep k hk (by simp [blks])⟩
end SL

/- Reading arguments. -/
namespace SL
open Go Go.RowKit
section
variable {H : Type} {enc : TypeId × Value → H} {P : Program} {k e : TypeId} {n : Nat} {q : IntKind} {W : World} {base : Nat} {sp : Nat → Bool} {held : Bool}
theorem mapM_ints (he : P.underlying e = some (.int q)) {m : Nat} {cs : List Value} {c : Nat} : ∀ (L : List Nat) (xs : List (DataW H × List MemPlace)),
    L.mapM (fun i => DataW.trod enc P W base sp held m e ((cs.drop (i * c)).take c)) = some xs → ∀ i ∈ L, ∃ a : Int, (cs.drop (i * c)).take c = [.int q a] ∧ (Lit.int q a).wf = true
  | [], xs, h => by simp
  | j :: L, xs, h => by
    rw [List.mapM_cons] at h
    simp only [bind, Option.bind_eq_some_iff, pure, Option.some.injEq] at h
    obtain ⟨y, hy, ys, hys, rfl⟩ := h
    intro i hi
    rcases List.mem_cons.1 hi with rfl | hi
    · obtain ⟨a, ea, -, wa⟩ := DataW.trod_int he hy
      exact ⟨a, ea, wa⟩
    · exact mapM_ints he L ys hys i hi
/-- An array of whole numbers, of one cell each, as an argument. -/
theorem open_arr {r : Reach} {b0 : Nat} {v : Value} (hu : P.underlying k = some (.array n e)) (he : P.underlying e = some (.int q)) (hone : P.cellsOf e = 1) (hsize : P.cellsOf k = n)
    (hval : Value.okWide P W r b0 k v) {d : DataW H} {ps : List MemPlace} (hd : DataW.Trod enc P W base sp held k v d ps) : ∃ xs : List Value, v = .agg xs.toArray ∧ xs.length = n ∧ ∀ i, i < n → ∃ a : Int, xs[i]? = some (.int q a) ∧ (Lit.int q a).wf = true := by
  simp only [Value.okWide, hu] at hval
  obtain ⟨cs, rfl, h2, _⟩ := hval
  rw [hsize] at h2
  refine ⟨cs.toList, by simp, by simpa using h2, fun i hi => ?_⟩
  obtain ⟨fuel, hf⟩ := hd
  cases fuel with
  | zero => simp [DataW.trod] at hf
  | succ m =>
    rw [DataW.trod_step] at hf
    unfold DataW.trodStep at hf
    simp only [hu, Value.cells] at hf
    rw [if_pos (by rw [hsize]; simpa using h2)] at hf
    simp only [Option.map_eq_some_iff] at hf
    obtain ⟨ys, hy, e1⟩ := hf
    obtain ⟨a, ha, hw⟩ := mapM_ints he _ ys hy i (by simpa using hi)
    refine ⟨a, ?_, hw⟩
    rw [hone, Nat.mul_one] at ha
    have : (cs.toList.drop i)[0]? = some (.int q a) := by
      have h3 : ((cs.toList.drop i).take 1)[0]? = some (.int q a) := by rw [ha]; rfl
      simpa using h3
    simpa using this
theorem len3 : ∀ {xs : List Value}, xs.length = 3 → ∃ a b c, xs = [a, b, c]
  | [a, b, c], _ => ⟨a, b, c, rfl⟩
theorem len2 : ∀ {xs : List Value}, xs.length = 2 → ∃ a b, xs = [a, b]
  | [a, b], _ => ⟨a, b, rfl⟩
end
end SL

/- Maps: their blocks, lookup, update, going over them. -/
namespace SL
open Go Go.RowKit Go.Maps

/-- What a map's block holds: the keys and values, in the order of their first coming. -/
structure MapOk {α β : Type} (P : Program) (k : TypeId) (fk : α → Value) (fv : β → Value) (es : Array MapEntry) (clock : Nat) (m : List (α × β)) : Prop where
  ents : es.toList.map (fun e => (e.key, e.val)) = m.map fun p => (fk p.1, fv p.2)
  keys : ∀ p ∈ m, ∃ l, keyOf P k (fk p.1) = some l
  stamped : MapKept.Stamped es clock
def lookM {α β : Type} [DecidableEq α] : List (α × β) → α → Option β
  | [], _ => none
  | p :: m, a => if p.1 = a then some p.2 else lookM m a
def putM {α β : Type} [DecidableEq α] : List (α × β) → α → β → List (α × β)
  | [], a, v => [(a, v)]
  | p :: m, a, v => if p.1 = a then (a, v) :: m else p :: putM m a v
section
variable {α β : Type} [DecidableEq α]
theorem lookM_putM (m : List (α × β)) (a b : α) (v : β) : lookM (putM m a v) b = if a = b then some v else lookM m b := by
  induction m with
  | nil => simp [putM, lookM]
  | cons p m ih =>
    unfold putM
    by_cases h : p.1 = a
    · rw [if_pos h]; simp only [lookM]; subst h
      split <;> rfl
    · rw [if_neg h]; simp only [lookM, ih]
      by_cases h2 : p.1 = b
      · subst h2; simp [Ne.symm h]
      · simp [h2]
theorem lookM_none {m : List (α × β)} {a : α} : lookM m a = none ↔ ∀ p ∈ m, p.1 ≠ a := by
  induction m with
  | nil => simp [lookM]
  | cons p m ih =>
    simp only [lookM]
    by_cases h : p.1 = a
    · simp [h]
    · simp [h, ih]
theorem lookM_mem {m : List (α × β)} {a : α} {v : β} (h : lookM m a = some v) : (a, v) ∈ m := by
  induction m with
  | nil => simp [lookM] at h
  | cons p m ih =>
    simp only [lookM] at h
    split at h
    · rename_i h1; simp at h; subst h; subst h1; simp
    · exact .tail _ (ih h)
theorem lookM_of_mem {m : List (α × β)} (hn : (m.map Prod.fst).Nodup) {p : α × β} (h : p ∈ m) : lookM m p.1 = some p.2 := by
  induction m with
  | nil => simp at h
  | cons q m ih =>
    simp only [List.map_cons, List.nodup_cons] at hn
    rcases List.mem_cons.1 h with rfl | h
    · simp [lookM]
    · simp only [lookM]
      have : q.1 ≠ p.1 := fun e => hn.1 (List.mem_map.2 ⟨p, h, e.symm⟩)
      rw [if_neg this]; exact ih hn.2 h
theorem putM_new {m : List (α × β)} {a : α} {v : β} (h : ∀ p ∈ m, p.1 ≠ a) : putM m a v = m ++ [(a, v)] := by
  induction m with
  | nil => rfl
  | cons p m ih => simp [putM, h p (by simp), ih fun q hq => h q (by simp [hq])]
theorem putM_length (m : List (α × β)) (a : α) (v : β) : (putM m a v).length ≤ m.length + 1 := by
  induction m with
  | nil => simp [putM]
  | cons p m ih => unfold putM; split <;> simp <;> omega
end

section
variable {α β : Type} {P : Program} {k : TypeId} {fk : α → Value} {fv : β → Value} {es : Array MapEntry} {clock : Nat} {m : List (α × β)}
theorem MapOk.empty : MapOk P k fk fv #[] 0 [] := ⟨by simp, by simp, MapKept.stamped_empty 0⟩
theorem MapOk.size (h : MapOk P k fk fv es clock m) : es.size = m.length := by
  have := congrArg List.length h.ents; simpa using this
theorem MapOk.at (h : MapOk P k fk fv es clock m) (j : Nat) (e : MapEntry) : es.toList[j]? = some e → ∃ p, m[j]? = some p ∧ e.key = fk p.1 ∧ e.val = fv p.2 := by
  intro he
  have h1 : (es.toList.map (fun e => (e.key, e.val)))[j]? = some (e.key, e.val) := by rw [List.getElem?_map, he]; rfl
  rw [h.ents, List.getElem?_map] at h1
  cases hm : m[j]? with
  | none => rw [hm] at h1; simp at h1
  | some p => rw [hm] at h1; simp at h1; exact ⟨p, rfl, h1.1.symm, h1.2.symm⟩
theorem MapOk.mem (h : MapOk P k fk fv es clock m) {e : MapEntry} (he : e ∈ es.toList) : ∃ p ∈ m, e.key = fk p.1 ∧ e.val = fv p.2 := by
  obtain ⟨j, hj⟩ := List.mem_iff_getElem?.1 he
  obtain ⟨p, hp, h1⟩ := h.at j e hj
  exact ⟨p, List.mem_of_getElem? hp, h1⟩
theorem MapOk.of_mem (h : MapOk P k fk fv es clock m) {p : α × β} (hp : p ∈ m) : ∃ e ∈ es.toList, e.key = fk p.1 ∧ e.val = fv p.2 := by
  have : (fk p.1, fv p.2) ∈ es.toList.map (fun e => (e.key, e.val)) := by rw [h.ents]; exact List.mem_map.2 ⟨p, hp, rfl⟩
  obtain ⟨e, he, h1⟩ := List.mem_map.1 this
  simp only [Prod.mk.injEq] at h1
  exact ⟨e, he, h1.1, h1.2⟩
theorem MapOk.key (h : MapOk P k fk fv es clock m) : ∀ e ∈ es.toList, ∃ l, keyOf P k e.key = some l := fun e he => by
  obtain ⟨p, hp, h1, _⟩ := h.mem he
  rw [h1]; exact h.keys p hp
theorem MapOk.nodup (h : MapOk P k fk fv es clock m) : (m.map Prod.fst).Nodup := by
  have h1 := h.stamped.2.2
  have h2 : es.toList.map (·.key) = (m.map Prod.fst).map fk := by
    have := congrArg (List.map Prod.fst) h.ents
    simpa [Function.comp_def] using this
  rw [h2] at h1
  exact (List.pairwise_map.1 h1).imp fun h e => h (by rw [e])

theorem putM_ents [DecidableEq α] (hinj : ∀ a b, fk a = fk b → a = b) {e0 : MapEntry} {a : α} {v : β} : ∀ (l : List MapEntry) (m : List (α × β)) (j : Nat), l[j]? = some e0 → e0.key = fk a → (l.map (·.key)).Nodup → l.map (fun e => (e.key, e.val)) = m.map (fun p => (fk p.1, fv p.2)) →
    (l.modify j fun e => { key := fk a, val := fv v, born := e.born }).map (fun e => (e.key, e.val)) = (putM m a v).map fun p => (fk p.1, fv p.2)
  | [], m, j, h2, _, _, _ => by simp at h2
  | e :: l, [], j, _, _, _, h => by simp at h
  | e :: l, p :: m, 0, h2, h3, hn, h => by
    simp only [List.getElem?_cons_zero, Option.some.injEq] at h2
    subst h2
    simp only [List.map_cons, List.cons.injEq, Prod.mk.injEq] at h
    have hp : p.1 = a := hinj _ _ (by rw [← h.1.1, h3])
    simp [putM, hp, h.2]
  | e :: l, p :: m, j + 1, h2, h3, hn, h => by
    simp only [List.getElem?_cons_succ] at h2
    simp only [List.map_cons, List.cons.injEq, Prod.mk.injEq] at h
    simp only [List.map_cons, List.nodup_cons] at hn
    have hp : p.1 ≠ a := fun e1 => hn.1 (List.mem_map.2 ⟨e0, List.mem_of_getElem? h2, by rw [h3, h.1.1, e1]⟩)
    have ih := putM_ents (v := v) hinj l m j h2 h3 hn.2 h.2
    simp only [putM, if_neg hp, List.modify_succ_cons, List.map_cons, h.1.1, h.1.2, ih]

/-! ### The objects -/
class FindO (H : Heap) (r : Nat) (o : outParam Obj) : Prop where
  mem : HObj.obj r o ∈ H
instance FindO.there {x : HObj} {H : Heap} {r : Nat} {o : Obj} [h : FindO H r o] : FindO (x :: H) r o := ⟨.tail _ h.mem⟩
instance FindO.here {H : Heap} {r : Nat} {o : Obj} : FindO (.obj r o :: H) r o := ⟨.head _⟩
class PutO (H : Heap) (r : Nat) (G : outParam (Obj → Heap)) : Prop where
  out : ∃ A o B, H = A ++ HObj.obj r o :: B ∧ ∀ o', G o' = A ++ HObj.obj r o' :: B
instance PutO.there {x : HObj} {H : Heap} {r : Nat} {G : Obj → Heap} [h : PutO H r G] : PutO (x :: H) r (fun o => x :: G o) := ⟨by
  obtain ⟨A, o, B, h1, h2⟩ := h.out
  exact ⟨x :: A, o, B, by simp [h1], fun o' => by simp [h2]⟩⟩
instance PutO.here {H : Heap} {r : Nat} {o : Obj} : PutO (.obj r o :: H) r (fun o' => .obj r o' :: H) := ⟨[], o, H, rfl, fun _ => rfl⟩
theorem Sat.putO {C : Ctx} {H : Heap} {w : World} {r : Nat} {G : Obj → Heap} [h : PutO H r G] (hs : Sat C H w) (o' : Obj) : Sat C (G o') { w with heap := w.heap.setIfInBounds r o' } := by
  obtain ⟨A, o, B, rfl, h2⟩ := h.out
  rw [h2]
  have hg : w.heap[r]? = some o := hs.objs (.obj r o) (by simp)
  have hlt : r < w.heap.size := (Array.getElem?_eq_some_iff.1 hg).1
  refine hs.write (x := .obj r o) (y := .obj r o') rfl rfl rfl (by simp) (fun i hi hne => ?_) ?_ (by simp [HObj.blks]) (fun i hi => .inl hi)
  · simp [HObj.blks] at hne; simp [Ne.symm hne]
  · simp [HObj.sat, hlt]
end

section
variable {C : Ctx} {P : Program} {H : Heap} {KV : Value → Heap → Prop} {α β : Type} {k e t : TypeId} {fk : α → Value} {fv : β → Value} {es : Array MapEntry} {clock : Nat} {m : List (α × β)} {r : Nat} {a : α}
theorem DoV.lookup [DecidableEq α] [hf : FindO H r (.map es clock)] (M : MapOk P k fk fv es clock m) (K : Keyed P k) (hinj : ∀ a b, fk a = fk b → a = b) (ht : P.underlying t = some (.map k e)) {i : TypeInfo} {z : Value} (hi : P.info? e = some i) (hz : i.zero = some z) {l : Lit}
    (hl : keyOf P k (fk a) = some l) {u : Value} (hu : (lookM m a).elim z fv = u) (kk : KV u H) : DoV C P (Instr.lookup t (.map (some r)) (fk a) false) H KV :=
  ⟨fun v H' => v = (lookM m a).elim z fv ∧ H' = H, fun w hs => by
    have hb : w.heap[r]? = some (.map es clock) := hs.objs _ hf.mem
    have hzv : (zeroValue e).run P w = .ok z w := by simp [zeroValue, typeInfo, hi, hz]
    refine ⟨_, w, H, ?_, ⟨rfl, rfl⟩, hs⟩
    rcases K.find w hl es.toList M.key with ⟨h1, h2⟩ | ⟨j, e0, h1, h2, h3⟩
    · have : lookM m a = none := lookM_none.2 fun p hp e1 => by
        obtain ⟨x, hx, hx1, _⟩ := M.of_mem hp
        exact h2 x hx (by rw [hx1, e1])
      simp [Instr.lookup, run_underlying ht, MapKept.run_getObj_map hb, K.check w _ hl, h1, hzv, Result.andThen, this]
    · obtain ⟨p, hp, hp1, hp2⟩ := M.at j e0 h2
      have hpa : p.1 = a := hinj _ _ (by rw [← hp1, h3])
      have : lookM m a = some p.2 := by rw [← hpa]; exact lookM_of_mem M.nodup (List.mem_of_getElem? hp)
      simp [Instr.lookup, run_underlying ht, MapKept.run_getObj_map hb, K.check w _ hl, h1, Result.andThen, this, hp2],
   fun v H' ⟨h1, h2⟩ => by subst h1; subst h2; rw [hu]; exact kk⟩
theorem DoV.lookup_ok [DecidableEq α] [hf : FindO H r (.map es clock)] (M : MapOk P k fk fv es clock m) (K : Keyed P k) (hinj : ∀ a b, fk a = fk b → a = b) (ht : P.underlying t = some (.map k e)) {i : TypeInfo} {z : Value} (hi : P.info? e = some i) (hz : i.zero = some z) {l : Lit}
    (hl : keyOf P k (fk a) = some l) {u : Value} (hu : (lookM m a).elim z fv = u) (kk : KV (.tuple #[u, .bool (lookM m a).isSome]) H) : DoV C P (Instr.lookup t (.map (some r)) (fk a) true) H KV :=
  ⟨fun v H' => v = .tuple #[(lookM m a).elim z fv, .bool (lookM m a).isSome] ∧ H' = H, fun w hs => by
    have hb : w.heap[r]? = some (.map es clock) := hs.objs _ hf.mem
    have hzv : (zeroValue e).run P w = .ok z w := by simp [zeroValue, typeInfo, hi, hz]
    refine ⟨_, w, H, ?_, ⟨rfl, rfl⟩, hs⟩
    rcases K.find w hl es.toList M.key with ⟨h1, h2⟩ | ⟨j, e0, h1, h2, h3⟩
    · have : lookM m a = none := lookM_none.2 fun p hp e1 => by
        obtain ⟨x, hx, hx1, _⟩ := M.of_mem hp
        exact h2 x hx (by rw [hx1, e1])
      simp [Instr.lookup, run_underlying ht, MapKept.run_getObj_map hb, K.check w _ hl, h1, hzv, Result.andThen, this]
    · obtain ⟨p, hp, hp1, hp2⟩ := M.at j e0 h2
      have hpa : p.1 = a := hinj _ _ (by rw [← hp1, h3])
      have : lookM m a = some p.2 := by rw [← hpa]; exact lookM_of_mem M.nodup (List.mem_of_getElem? hp)
      simp [Instr.lookup, run_underlying ht, MapKept.run_getObj_map hb, K.check w _ hl, h1, Result.andThen, this, hp2],
   fun v H' ⟨h1, h2⟩ => by subst h1; subst h2; rw [hu]; exact kk⟩
theorem DoV.update [DecidableEq α] {G : Obj → Heap} {v : β} [hf : FindO H r (.map es clock)] [hp : PutO H r G] (M : MapOk P k fk fv es clock m) (K : Keyed P k) (hinj : ∀ a b, fk a = fk b → a = b) (ht : P.underlying t = some (.map k e)) {l : Lit}
    (hl : keyOf P k (fk a) = some l) (kk : ∀ es' clock', MapOk P k fk fv es' clock' (putM m a v) → KV undef (G (.map es' clock'))) :
    DoV C P (do Instr.mapUpdate t (.map (some r)) (fk a) (fv v); pure undef) H KV :=
  ⟨fun u H' => u = undef ∧ ∃ es' clock', MapOk P k fk fv es' clock' (putM m a v) ∧ H' = G (.map es' clock'), fun w hs => by
    have hb : w.heap[r]? = some (.map es clock) := hs.objs _ hf.mem
    rcases K.find w hl es.toList M.key with ⟨h1, h2⟩ | ⟨j, e0, h1, h2, h3⟩
    · refine ⟨undef, _, G (.map (es.push ⟨fk a, fv v, clock⟩) (clock + 1)), ?_, ⟨rfl, es.push ⟨fk a, fv v, clock⟩, clock + 1, ⟨?_, ?_, MapKept.stamped_push M.stamped h2⟩, rfl⟩, hs.putO (r := r) _⟩
      · simp [Instr.mapUpdate, run_underlying ht, MapKept.run_getObj_map hb, K.check w false hl, h1, MapKept.run_setObj_map _ hb, Result.andThen]
      · rw [putM_new fun p hp e1 => by
          obtain ⟨x, hx, hx1, _⟩ := M.of_mem hp
          exact h2 x hx (by rw [hx1, e1])]
        simp [M.ents]
      · intro p hp
        rw [putM_new fun p hp e1 => by
          obtain ⟨x, hx, hx1, _⟩ := M.of_mem hp
          exact h2 x hx (by rw [hx1, e1])] at hp
        rcases List.mem_append.1 hp with hp | hp
        · exact M.keys p hp
        · simp at hp; subst hp; exact ⟨l, hl⟩
    · have h4 : es[j]? = some e0 := by simpa using h2
      refine ⟨undef, _, G (.map (es.modify j (fun e => { key := fk a, val := fv v, born := e.born })) clock), ?_, ⟨rfl, es.modify j (fun e => { key := fk a, val := fv v, born := e.born }), clock, ⟨?_, ?_, ?_⟩, rfl⟩, hs.putO (r := r) _⟩
      · simp [Instr.mapUpdate, run_underlying ht, MapKept.run_getObj_map hb, K.check w false hl, h1, h4, h3, K.stays w hl, MapKept.run_setObj_map _ hb, Result.andThen]
      · rw [Array.toList_modify]
        exact putM_ents hinj es.toList m j h2 h3 M.stamped.2.2 M.ents
      · intro p hp
        have : ∀ (m : List (α × β)), (∀ p ∈ m, ∃ l, keyOf P k (fk p.1) = some l) → ∀ p ∈ putM m a v, ∃ l, keyOf P k (fk p.1) = some l := by
          intro m
          induction m with
          | nil => intro _ p hp; simp [putM] at hp; subst hp; exact ⟨l, hl⟩
          | cons q m ih =>
            intro hq p hp
            unfold putM at hp
            split at hp
            · rcases List.mem_cons.1 hp with rfl | hp
              · exact ⟨l, hl⟩
              · exact hq p (by simp [hp])
            · rcases List.mem_cons.1 hp with rfl | hp
              · exact hq p (by simp)
              · exact ih (fun p hp => hq p (by simp [hp])) p hp
        exact this m M.keys p hp
      · exact MapKept.stamped_modify M.stamped _ _ (fun _ _ => rfl) (fun e' _ he' => by rw [h4] at he'; cases he'; exact h3.symm),
   fun u H' ⟨h1, es', clock', h2, h3⟩ => by subst h1; subst h3; exact kk es' clock' h2⟩

/-! ### Going over a map -/
theorem DoV.range [hf : FindO H r (.map es clock)] (ht : P.underlying t = some (.map k e)) (kk : ∀ b, KV (.pointer (some ⟨b, 0, none⟩)) (.obj b (.mapIter (some r) clock #[] clock) :: H)) :
    DoV C P (Instr.range t (.map (some r))) H KV :=
  ⟨fun v H' => ∃ b, v = .pointer (some ⟨b, 0, none⟩) ∧ H' = .obj b (.mapIter (some r) clock #[] clock) :: H, fun w hs => by
    have hb : w.heap[r]? = some (.map es clock) := hs.objs _ hf.mem
    refine ⟨_, { w with heap := w.heap.push (.mapIter (some r) clock #[] clock) }, _, ?_, ⟨w.heap.size, rfl, rfl⟩, hs.new _ (.obj w.heap.size _) rfl (by simp [HObj.sat])⟩
    simp [Instr.range, run_underlying ht, MapKept.run_getObj_map hb, Result.andThen, newObj, Sem.run],
   fun v H' ⟨b, h1, h2⟩ => by subst h1; subst h2; exact kk b⟩
theorem DoV.next {G : Obj → Heap} {it : Nat} {seen : Array Nat} {T : TypeId} [hi : FindO H it (.mapIter (some r) clock seen clock)] [hf : FindO H r (.map es clock)] [hp : PutO H it G] (hst : MapKept.Stamped es clock)
    (over : (∀ x ∈ es.toList, x.born ∈ seen.toList) → KV (.tuple #[.bool false]) H) (one : ∀ x ∈ es.toList, x.born ∉ seen.toList → KV (.tuple #[.bool true, x.key, x.val]) (G (.mapIter (some r) clock (seen.push x.born) clock))) :
    DoV C P (Instr.next (.pointer (some ⟨it, 0, none⟩)) false T) H KV :=
  ⟨fun v H' => (v = .tuple #[.bool false] ∧ H' = H ∧ ∀ x ∈ es.toList, x.born ∈ seen.toList) ∨ ∃ x ∈ es.toList, x.born ∉ seen.toList ∧ v = .tuple #[.bool true, x.key, x.val] ∧ H' = G (.mapIter (some r) clock (seen.push x.born) clock), fun w hs => by
    have hr : w.heap[it]? = some (.mapIter (some r) clock seen clock) := hs.objs _ hi.mem
    have hb : w.heap[r]? = some (.map es clock) := hs.objs _ hf.mem
    rcases run_next_at (P := P) w T it r clock clock seen es clock hr hb hst.1 (Nat.le_refl _) with ⟨h1, h2⟩ | ⟨x, hx, w1, hal, h2⟩
    · refine ⟨_, w, H, h2, .inl ⟨rfl, rfl, fun x hx => ?_⟩, hs⟩
      by_cases h3 : x.born ∈ seen.toList
      · exact h3
      · have : x ∈ (leftOf es seen).toList := by simp [leftOf]; exact ⟨by simpa using hx, by simpa using h3⟩
        have h0 : leftOf es seen = #[] := Array.eq_empty_of_size_eq_zero h1
        rw [h0] at this; simp at this
    · have hx' : x ∈ es.toList ∧ x.born ∉ seen.toList := by simpa [leftOf] using hx
      have hs1 : Sat C H w1 := by
        rcases hal with rfl | rfl
        · exact hs
        · exact hs.drew _
      exact ⟨_, _, _, h2, .inr ⟨x, hx'.1, hx'.2, rfl, rfl⟩, hs1.putO (r := it) _⟩,
   fun v H' h => by
    rcases h with ⟨h1, h2, h3⟩ | ⟨x, hx, h3, h1, h2⟩
    · subst h1; subst h2; exact over h3
    · subst h1; subst h2; exact one x hx h3⟩
theorem DoV.entry {it : Nat} {seen : Array Nat} {x : MapEntry} [hi : FindO H it (.mapIter (some r) clock (seen.push x.born) clock)] [hf : FindO H r (.map es clock)] (hst : MapKept.Stamped es clock) (hx : x ∈ es.toList)
    (kk : KV (.tuple #[x.key, x.val]) H) : DoV C P (Instr.entry (.pointer (some ⟨it, 0, none⟩))) H KV :=
  ⟨fun v H' => v = .tuple #[x.key, x.val] ∧ H' = H, fun w hs => 
    ⟨_, w, H, run_entry_at (P := P) w it r clock seen es clock x (hs.objs _ hi.mem) (hs.objs _ hf.mem) hx hst.2.1, ⟨rfl, rfl⟩, hs⟩, fun v H' ⟨h1, h2⟩ => by subst h1; subst h2; exact kk⟩
/-- maps.clone: a new map with the old one's entries. -/
theorem CallS.mapsClone {g : FuncId} {fn : Func} {T : TypeId} {K : Ending → Heap → Prop} [hf : FindO H r (.map es clock)] (hg : P.funcs[g]? = some fn) (hname : (fn.name == "runtime.NumGoroutine") = false)
    (hb : fn.body.isNone = true) (hn : Extern.findNext fn = none) (he : Extern.find fn = some Extern.MapsClone.clone) (kk : ∀ b, K (.returned (.iface T (.map (some b)))) (.obj b (.map es clock) :: H)) :
    CallS C P g [.iface T (.map (some r))] H K :=
  .ext (fun v H' => ∃ b, v = .iface T (.map (some b)) ∧ H' = .obj b (.map es clock) :: H) (fun w hs => by
    have hb' : w.heap[r]? = some (.map es clock) := hs.objs _ hf.mem
    refine ⟨_, { w with heap := w.heap.push (.map es clock) }, _, ?_, ⟨w.heap.size, rfl, rfl⟩, hs.new _ (.obj w.heap.size _) rfl (by simp [HObj.sat])⟩
    rw [run_callFunc_extern hg hname hb hn he]
    have e : Extern.MapsClone.clone #[.iface T (.map (some r))] = (getObj r >>= fun o => match o with
      | .map entries clock => (newObj (.map entries clock) >>= fun n => pure (.iface T (.map (some n))))
      | _ => stuck "maps.clone: a map expected") := rfl
    show ((Extern.MapsClone.clone #[.iface T (.map (some r))]).run P w).andThen _ = _
    rw [e]
    simp [MapKept.run_getObj_map hb', Result.andThen, newObj, Sem.run]) (fun v H' ⟨b, h1, h2⟩ => by subst h1; subst h2; rw [forceH_eq]; exact kk b)
end
end SL

/- Arguments of flat types: whole numbers, bools, strings, arrays and structs of such, and slices of these. -/
namespace SL
open Go Go.RowKit

def wfCell : Value → Bool
  | .int k n => (Lit.int k n).wf
  | .string s => decide (s.size ≤ maxLen)
  | _ => true
theorem okCells_append {ks ls : List LK} {xs ys : List Value} (h1 : okCells ks xs = true) (h2 : okCells ls ys = true) : okCells (ks ++ ls) (xs ++ ys) = true := by
  induction ks generalizing xs with
  | nil => cases xs with
    | nil => simpa using h2
    | cons x xs => simp [okCells] at h1
  | cons k ks ih => cases xs with
    | nil => simp [okCells] at h1
    | cons x xs =>
      simp only [okCells, Bool.and_eq_true] at h1
      simp only [List.cons_append, okCells, Bool.and_eq_true]
      exact ⟨h1.1, ih h1.2⟩

section
variable {H : Type} {enc : TypeId × Value → H} {P : Program} {W : World} {base : Nat} {sp : Nat → Bool} {held : Bool}
theorem trod_fields {g : TypeId → Option (List LK)} {r : TypeId → List Value → Option (DataW H × List MemPlace)} (hr : ∀ t ks cs x, g t = some ks → P.cellsOf t = ks.length → r t cs = some x → okCells ks cs = true ∧ cs.all wfCell = true) {cs : List Value} :
    ∀ (fs : List Field) (off : Nat) (ks : List LK) (xs : List (DataW H × List MemPlace)), shapeFs P g fs off = some ks → fs.mapM (fun f => r f.type ((cs.drop f.offset).take (P.cellsOf f.type))) = some xs → cs.length = off + ks.length →
      okCells ks (cs.drop off) = true ∧ (cs.drop off).all wfCell = true
  | [], off, ks, xs, h, _, hl => by
    simp [shapeFs] at h; subst h
    have : cs.drop off = [] := List.drop_eq_nil_of_le (by simpa using Nat.le_of_eq hl)
    rw [this]; exact ⟨rfl, rfl⟩
  | f :: fs, off, ks, xs, h, hm, hl => by
    unfold shapeFs at h
    split at h
    · rename_i ks1 hk
      split at h
      · rename_i hc
        simp only [Bool.and_eq_true, beq_iff_eq, bne_iff_ne] at hc
        obtain ⟨ks2, h2, rfl⟩ := Option.map_eq_some_iff.1 h
        rw [List.mapM_cons] at hm
        simp only [bind, Option.bind_eq_some_iff, pure, Option.some.injEq] at hm
        obtain ⟨y, hy, ys, hys, rfl⟩ := hm
        obtain ⟨⟨⟨_, ho⟩, hz⟩, _⟩ := hc
        rw [ho, hz] at hy
        have ⟨a1, a2⟩ := hr _ _ _ _ hk hz hy
        rw [List.length_append] at hl
        have ⟨b1, b2⟩ := trod_fields hr fs (off + ks1.length) ks2 ys h2 hys (by omega)
        have hsplit : cs.drop off = (cs.drop off).take ks1.length ++ cs.drop (off + ks1.length) := by
          rw [← List.drop_drop]; exact (List.take_append_drop _ _).symm
        rw [hsplit]
        exact ⟨okCells_append a1 b1, by rw [List.all_append, a2, b2]; rfl⟩
      · cases h
    · cases h
theorem trod_items {r : List Value → Option (DataW H × List MemPlace)} {ks : List LK} (hr : ∀ cs x, r cs = some x → okCells ks cs = true ∧ cs.all wfCell = true) {cs : List Value} :
    ∀ (n k : Nat) (xs : List (DataW H × List MemPlace)), (List.range' k n).mapM (fun i => r ((cs.drop (i * ks.length)).take ks.length)) = some xs → cs.length = (k + n) * ks.length →
      okCells (repl n ks) (cs.drop (k * ks.length)) = true ∧ (cs.drop (k * ks.length)).all wfCell = true
  | 0, k, xs, _, hl => by
    have : cs.drop (k * ks.length) = [] := List.drop_eq_nil_of_le (by simpa using Nat.le_of_eq hl)
    rw [this]; exact ⟨rfl, rfl⟩
  | n + 1, k, xs, hm, hl => by
    rw [List.range'_succ, List.mapM_cons] at hm
    simp only [bind, Option.bind_eq_some_iff, pure, Option.some.injEq] at hm
    obtain ⟨y, hy, ys, hys, rfl⟩ := hm
    have ⟨a1, a2⟩ := hr _ _ hy
    have ⟨b1, b2⟩ := trod_items hr n (k + 1) ys hys (by rw [hl]; congr 1; omega)
    have hsplit : cs.drop (k * ks.length) = (cs.drop (k * ks.length)).take ks.length ++ cs.drop ((k + 1) * ks.length) := by
      rw [Nat.succ_mul, ← List.drop_drop]; exact (List.take_append_drop _ _).symm
    rw [hsplit]
    exact ⟨okCells_append a1 b1, by rw [List.all_append, a2, b2]; rfl⟩
/-- What is read at a flat type is of its shape. -/
theorem trod_flat : ∀ (d : Nat) (t : TypeId) (ks : List LK), shapeOf P d t = some ks → ∀ (fuel : Nat) (cs : List Value) (x : DataW H × List MemPlace), P.cellsOf t = ks.length → DataW.trod enc P W base sp held fuel t cs = some x → okCells ks cs = true ∧ cs.all wfCell = true
  | 0, t, ks, h, _, _, _, _, _ => by simp [shapeOf] at h
  | d + 1, t, ks, h, 0, cs, x, _, hx => by simp [DataW.trod] at hx
  | d + 1, t, ks, h, fuel + 1, cs, x, hz, hx => by
    rw [DataW.trod_step] at hx
    unfold DataW.trodStep at hx
    unfold shapeOf at h
    split at h
    · rename_i hu
      simp at h; subst h
      rw [hu] at hx
      split at hx <;> simp_all [okCells, okCell, wfCell]
    · rename_i k hu
      simp at h; subst h
      rw [hu] at hx
      split at hx <;> simp_all [okCells, okCell, wfCell]
    · rename_i hu
      simp at h; subst h
      rw [hu] at hx
      split at hx <;> simp_all [okCells, okCell, wfCell]
    · rename_i fs hu
      split at h
      · cases h
      · simp only [hu] at hx
        split at hx
        · rename_i hl
          obtain ⟨ys, hy, _⟩ := Option.map_eq_some_iff.1 hx
          have := trod_fields (P := P) (g := shapeOf P d) (r := DataW.trod enc P W base sp held fuel) (fun t ks cs x h h2 hx => trod_flat d t ks h fuel cs x h2 hx) (cs := cs) fs.toList 0 ks ys h hy (by rw [hl, hz]; omega)
          simpa using this
        · cases hx
    · rename_i n e hu
      split at h
      · rename_i ks1 hk
        split at h
        · rename_i hc
          simp only [Bool.and_eq_true, beq_iff_eq] at hc
          simp only [Option.some.injEq] at h
          subst h
          simp only [hu] at hx
          split at hx
          · rename_i hl
            obtain ⟨ys, hy, _⟩ := Option.map_eq_some_iff.1 hx
            rw [hc.1, List.range_eq_range'] at hy
            have := trod_items (ks := ks1) (fun cs x hx => trod_flat d e ks1 hk fuel cs x hc.1 hx) n 0 ys hy (by rw [hl, hz, repl_length]; simp)
            simpa using this
          · cases hx
        · cases h
      · cases h
    · cases h
/-- A list of rows, seen as a list of something. -/
theorem rows_view {τ : Type} {f : τ → List Value} {ks : List LK} (hf : ∀ row, okCells ks row = true → row.all wfCell = true → ∃ x, row = f x) : ∀ (n : Nat) (cs : List Value), okCells (repl n ks) cs = true → cs.all wfCell = true → ∃ xs : List τ, xs.length = n ∧ cs = xs.flatMap f
  | 0, cs, h, _ => by
    cases cs with
    | nil => exact ⟨[], rfl, rfl⟩
    | cons c cs => simp [repl, okCells] at h
  | n + 1, cs, h, hw => by
    obtain ⟨h1, h2⟩ := okCells_split (ks := ks) (ls := repl n ks) h
    have hw1 : (cs.take ks.length).all wfCell = true := List.all_eq_true.2 fun x hx => List.all_eq_true.1 hw x (List.mem_of_mem_take hx)
    have hw2 : (cs.drop ks.length).all wfCell = true := List.all_eq_true.2 fun x hx => List.all_eq_true.1 hw x (List.mem_of_mem_drop hx)
    obtain ⟨x, hx⟩ := hf _ h1 hw1
    obtain ⟨xs, hl, hxs⟩ := rows_view hf n _ h2 hw2
    exact ⟨x :: xs, by simp [hl], by rw [← List.take_append_drop ks.length cs, hx, hxs]; rfl⟩
theorem rd_of_cell {a : Addr} {v : Value} (h : W.cell? a = some v) : RdC (fun r => W.heap[r]?) a v := fun w hw => by
  have hs := World.cell?_spot h
  unfold World.cell? at h ⊢
  cases hb : W.heap[a.block]? with
  | none => simp [hb] at h
  | some o =>
    rw [hw _ _ hb]
    simpa [hb] using h
theorem flatten_view {m sz : Nat} {V : Nat → List Value} (hlen : ∀ i, i < m → (V i).length = sz) : ∀ (n : Nat), n ≤ m → ((List.range n).flatMap V).length = n * sz ∧ ∀ i j, i < n → j < sz → ((List.range n).flatMap V)[i * sz + j]? = (V i)[j]?
  | 0, _ => ⟨by simp, fun i j hi => by omega⟩
  | n + 1, hn => by
    obtain ⟨h1, h2⟩ := flatten_view hlen n (by omega)
    rw [List.range_succ, List.flatMap_append]
    simp only [List.flatMap_cons, List.flatMap_nil, List.append_nil]
    refine ⟨by rw [List.length_append, h1, hlen n (by omega), Nat.succ_mul], fun i j hi hj => ?_⟩
    by_cases he : i < n
    · have : i * sz + j < n * sz := by
        have : (i + 1) * sz ≤ n * sz := Nat.mul_le_mul_right _ (by omega)
        rw [Nat.succ_mul] at this; omega
      rw [List.getElem?_append_left (by rw [h1]; exact this)]
      exact h2 i j he hj
    · have : i = n := by omega
      subst this
      rw [List.getElem?_append_right (by rw [h1]; omega), h1]
      congr 1; omega
theorem flatten_ok {ks : List LK} {V : Nat → List Value} : ∀ (n : Nat), (∀ i, i < n → okCells ks (V i) = true ∧ (V i).all wfCell = true) → okCells (repl n ks) ((List.range n).flatMap V) = true ∧ ((List.range n).flatMap V).all wfCell = true
  | 0, _ => ⟨rfl, rfl⟩
  | n + 1, h => by
    have key : ∀ (n k : Nat), (∀ i, i < n → okCells ks (V (k + i)) = true ∧ (V (k + i)).all wfCell = true) → okCells (repl n ks) ((List.range' k n).flatMap V) = true ∧ ((List.range' k n).flatMap V).all wfCell = true := by
      intro n
      induction n with
      | zero => intro k _; exact ⟨rfl, rfl⟩
      | succ n ih =>
        intro k hk
        rw [List.range'_succ, List.flatMap_cons]
        have h0 := hk 0 (by omega)
        have h1 := ih (k + 1) (fun i hi => by have := hk (i + 1) (by omega); rwa [show k + (i + 1) = k + 1 + i by omega] at this)
        exact ⟨okCells_append (by simpa using h0.1) h1.1, by rw [List.all_append, h1.2]; simpa using h0.2⟩
    rw [List.range_eq_range']
    exact key (n + 1) 0 (fun i hi => by simpa using h i hi)
/-- A foreign row: n elements of sz cells. -/
structure SlF (F : Mem) (sz : Nat) (oa : Option Addr) (n : Nat) (vs : List Value) : Prop where
  len : vs.length = n * sz
  row : 0 < n → ∃ b o, oa = some ⟨b, o, none⟩ ∧ ∀ j v, vs[j]? = some v → RdC F ⟨b, o + j, none⟩ v
theorem SlF.ext {F F' : Mem} {sz : Nat} {oa : Option Addr} {n : Nat} {vs : List Value} (h : SlF F sz oa n vs) (hF : ∀ r o, F r = some o → F' r = some o) : SlF F' sz oa n vs :=
  ⟨h.len, fun hn => by
    obtain ⟨b, o, e, hv⟩ := h.row hn
    exact ⟨b, o, e, fun j v hj => (hv j v hj).ext hF⟩⟩
/-- A caller's own row, as its callee reads it. -/
theorem SlF.cells {F F' : Mem} {B : Heap} {b n sz : Nat} {l : List Value} {T : TypeId} {fr : Nat × Nat} [hf : Find B b l T fr] (he : Ext F B F') (hl : l.length = n * sz) : SlF F' sz (some ⟨b, 0, none⟩) n l :=
  ⟨hl, fun _ => ⟨b, 0, rfl, fun j v hj w hw => by
    have := he.H _ hf.mem w hw
    simp only [HObj.sat] at this
    rw [cell_of_row w b _ _ _ _ this]
    simpa using hj⟩⟩
theorem SlF.own {F F' : Mem} {B : Heap} {b n c sz : Nat} {l : List Value} {T : TypeId} [hf : FindOwn B b n c T sz l] (he : Ext F B F') (hl : l.length = n * sz) : SlF F' sz (some ⟨b, 0, none⟩) n l :=
  ⟨hl, fun _ => ⟨b, 0, rfl, fun j v hj w hw => by
    rw [Nat.zero_add]
    exact own_cell (he.H _ hf.mem w hw) j v hj⟩⟩
theorem SlF.nil {F : Mem} {sz : Nat} {oa : Option Addr} : SlF F sz oa 0 [] := ⟨by simp, fun h => by omega⟩
/-- Reading a foreign row. -/
theorem SlF.at {F : Mem} {sz n i : Nat} {oa : Option Addr} {vs : List Value} (h : SlF F sz oa n vs) (hi : i < n) : ∃ b o, oa = some ⟨b, o, none⟩ ∧ ∀ j v, vs[j]? = some v → RdC F ⟨b, o + j, none⟩ v := h.row (by omega)
/-- A slice of flat elements as an argument: its cells. -/
theorem open_rows {t e : TypeId} {d : Nat} {ks : List LK} (ht : P.underlying t = some (.slice e)) (hs : shapeOf P d e = some ks) (hz : P.cellsOf e = ks.length) (h0 : 0 < ks.length) {fuel : Nat} {cs : List Value} {x : DataW H × List MemPlace} (h : DataW.trod enc P W base sp held fuel t cs = some x) :
    ∃ oa len cap vs, cs = [.slice oa len cap] ∧ SlF (fun r => W.heap[r]?) ks.length oa len vs ∧ okCells (repl len ks) vs = true ∧ vs.all wfCell = true ∧ ((x.1 = .nil ∧ len = 0) ∨ ∃ els spare, x.1 = .slice els spare ∧ els.length = len) := by
  rcases Go.Deep.open_slice ht h with ⟨rfl, rfl⟩ | ⟨a, len, cap, m, n, D, Pl, rfl, hb, hl, hm, hmm, rfl, hx⟩
  · exact ⟨none, 0, 0, [], rfl, ⟨by simp, fun h => by omega⟩, rfl, rfl, .inl ⟨rfl, rfl⟩⟩
  · have hle : len ≤ m := by rw [hmm]; split <;> omega
    rw [hz] at hx
    obtain ⟨V, hV⟩ := Go.Deep.choose_lt (α := List Value) (p := fun i cs' => W.cells? base (a.add (i * ks.length)) ks.length = some cs' ∧ DataW.trod enc P W base sp held n e cs' = some (D i, Pl i)) hx
    have hok : ∀ i, i < len → okCells ks (V i) = true ∧ (V i).all wfCell = true := fun i hi => trod_flat d e ks hs n (V i) _ hz (hV i (by omega)).2
    have hln : ∀ i, i < len → (V i).length = ks.length := fun i hi => okCells_length (hok i hi).1
    obtain ⟨f1, f2⟩ := flatten_view hln len (Nat.le_refl _)
    obtain ⟨g1, g2⟩ := flatten_ok len hok
    refine ⟨some a, len, cap, (List.range len).flatMap V, rfl, ⟨f1, fun hn => ?_⟩, g1, g2, .inr ⟨_, _, rfl, by simp⟩⟩
    have hspot : a.spot = none := by
      obtain ⟨_, hl0, hc⟩ := World.cells?_some (hV 0 (by omega)).1
      have h1 := hc 0 h0
      rw [Nat.zero_mul] at h1
      have h2 : (V 0)[0]? = some ((V 0)[0]'(by rw [hl0]; exact h0)) := List.getElem?_eq_getElem _
      rw [h2] at h1
      exact World.cell?_spot (by simpa [Addr.add] using h1)
    obtain ⟨ab, ao, as⟩ := a
    simp only at hspot
    subst hspot
    have hcell : ∀ j v, ((List.range len).flatMap V)[j]? = some v → W.cell? ⟨ab, ao + j, none⟩ = some v := fun j v hj => by
      have hjl : j < len * ks.length := by rw [← f1]; exact (List.getElem?_eq_some_iff.1 hj).1
      have hdm : j / ks.length * ks.length + j % ks.length = j := Nat.div_add_mod' j ks.length
      have hi : j / ks.length < len := Nat.div_lt_of_lt_mul (by rw [Nat.mul_comm]; exact hjl)
      have hr : j % ks.length < ks.length := Nat.mod_lt _ h0
      have h1 := f2 (j / ks.length) (j % ks.length) hi hr
      rw [hdm, hj] at h1
      obtain ⟨_, _, hc⟩ := World.cells?_some (hV (j / ks.length) (by omega)).1
      have h2 := hc (j % ks.length) hr
      rw [Addr_add, Addr_add, ← h1, Nat.add_assoc, hdm] at h2
      exact h2
    exact ⟨ab, ao, rfl, fun j v hj => rd_of_cell (hcell j v hj)⟩
end
end SL

/- Rows of one's own: out of cells; made; slices of slices. -/
namespace SL
open Go Go.RowKit
/-- A block of cells is a row of its own. -/
theorem Sub.own {b n T sz : Nat} {l : List Value} {H : Heap} (hl : l.length = n * sz) (hn : n ≤ maxLen) : Sub (.cells b l T (0, 0) :: H) (.own (.slice (some ⟨b, 0, none⟩) n n) n T sz l :: H) := fun C w hs =>
  hs.write (A := []) (x := .cells b l T (0, 0)) (y := .own (.slice (some ⟨b, 0, none⟩) n n) n T sz l) rfl rfl rfl (Nat.le_refl _) (fun _ _ _ => rfl)
    ⟨hl, .inr ⟨b, n, l.toArray, rfl, Nat.zero_le _, hs.objs (.cells b l T (0, 0)) (by simp), Nat.le_refl _, hn, by simpa using hl, by simp [← hl]⟩⟩ (by simp [HObj.blks]) (fun r hr => .inl hr)
section
variable {C : Ctx} {P : Program} {H H0 : Heap} {K : Value → Heap → Prop}
theorem BuiltV.sub {b : Builtin} {ts : Array TypeId} {t : TypeId} {cs : Array Bool} {args : List Value} (h : Sub H H0) (k : BuiltV C P b ts t cs args H0 K) : BuiltV C P b ts t cs args H K := by
  obtain ⟨R, hR, hk⟩ := k
  exact ⟨R, fun w hs => hR w (h.sat hs), hk⟩
theorem DoV.sub {s : Sem Value} (h : Sub H H0) (k : DoV C P s H0 K) : DoV C P s H K := by
  obtain ⟨R, hR, hk⟩ := k
  exact ⟨R, fun w hs => hR w (h.sat hs), hk⟩
theorem DoV.of_quiet {s : Sem Value} {v : Value} (h : ∀ w, s.run P w = .ok v w) (k : K v H) : DoV C P s H K :=
  ⟨fun u H' => u = v ∧ H' = H, fun w hs => ⟨v, w, H, h w, ⟨rfl, rfl⟩, hs⟩, fun u H' ⟨h1, h2⟩ => by subst h1; subst h2; exact k⟩
/-- make([]T, n), T of one cell. -/
theorem DoV.makeSlice {t e : TypeId} {i : TypeInfo} {z : Value} {kl kc : IntKind} {n : Int} (ht : P.underlying t = some (.slice e)) (hi : P.info? e = some i) (hz : i.zero = some z) (hsz : i.size = 1) (hz1 : z.cells = #[z]) (h0 : 0 ≤ n)
    (hb : (i.bytes : Int) * n ≤ 281474976710656) (hn : n ≤ 16777216) (k : ∀ b, K (.slice (some ⟨b, 0, none⟩) n.toNat n.toNat) (.cells b (List.replicate n.toNat z) e (0, 0) :: H)) :
    DoV C P (Instr.makeSlice t (.int kl n) (.int kc n)) H K :=
  ⟨fun v H' => ∃ b, v = .slice (some ⟨b, 0, none⟩) n.toNat n.toNat ∧ H' = .cells b (List.replicate n.toNat z) e (0, 0) :: H, fun w hs => by
    have := run_makeSlice (P := P) w t e i z ht hi hz kl kc n n h0 (Int.le_refl _) (by rw [hsz]; omega) hb (by omega)
    refine ⟨_, _, _, this, ⟨w.heap.size, rfl, rfl⟩, hs.new _ (.cells w.heap.size _ e (0, 0)) rfl ?_⟩
    simp only [HObj.sat]
    have e1 : madeCells z.cells (n.toNat * i.size) = (List.replicate n.toNat z).toArray := by
      rw [hsz, Nat.mul_one, hz1]
      apply Array.ext
      · simp [madeCells]
      · intro j h1 h2; simp [madeCells, Nat.mod_one]
    rw [e1]; simp,
   fun v H' ⟨b, h1, h2⟩ => by subst h1; subst h2; exact k b⟩
theorem run_slice_to {w : World} {t e : TypeId} {oa : Option Addr} {len cap : Nat} {kh : IntKind} {h : Int} (ht : P.underlying t = some (.slice e)) (hi : (P.info? e).isSome = true) (h0 : 0 ≤ h) (h2 : h ≤ cap) :
    (Instr.sliceAt t (.slice oa len cap) none (some (.int kh h)) none).run P w = .ok (.slice oa h.toNat cap) w := by
  obtain ⟨i, hi⟩ := Option.isSome_iff_exists.1 hi
  have he : P.elem t = e := by simp [Program.elem, ht]
  have ht' : P.underlying t = some (.slice (P.elem t)) := by rw [he]; exact ht
  rw [run_sliceAt_slice (P := P) w t _ _ _ _ ht', run_slice_h (P := P) w t oa len cap ht' kh h h0 h2, he]
  simp [Go.sizeOf, typeInfo, hi, sliced]
  cases oa with
  | none => simp
  | some a => simp [Addr.add]
theorem DoV.slice_to {t e : TypeId} {oa : Option Addr} {len cap : Nat} {kh : IntKind} {h : Int} (ht : P.underlying t = some (.slice e)) (hi : (P.info? e).isSome = true) (h0 : 0 ≤ h) (h2 : h ≤ cap) (k : K (.slice oa h.toNat cap) H) :
    DoV C P (Instr.sliceAt t (.slice oa len cap) none (some (.int kh h)) none) H K := DoV.of_quiet (fun _ => run_slice_to ht hi h0 h2) k
theorem QuietV.slice_to {KV : Value → Prop} {t e : TypeId} {oa : Option Addr} {len cap : Nat} {kh : IntKind} {h : Int} (ht : P.underlying t = some (.slice e)) (hi : (P.info? e).isSome = true) (h0 : 0 ≤ h) (h2 : h ≤ cap) (k : KV (.slice oa h.toNat cap)) :
    QuietV C P H (Instr.sliceAt t (.slice oa len cap) none (some (.int kh h)) none) KV := ⟨_, fun _ _ => run_slice_to ht hi h0 h2, k⟩
theorem own_cap {w : World} {b n c T sz : Nat} {l : List Value} (hs : (HObj.own (.slice (some ⟨b, 0, none⟩) n c) n T sz l).sat w) : n ≤ c := by
  rcases hs.2 with ⟨h, _⟩ | ⟨g, cap, cur, h, _, _, h4, _⟩
  · cases h
  · cases h; exact h4
theorem QuietV.slice_own {KV : Value → Prop} {t e : TypeId} {b n c T sz : Nat} {l : List Value} {kh : IntKind} {h : Int} [hf : FindOwn H b n c T sz l] (ht : P.underlying t = some (.slice e)) (hi : (P.info? e).isSome = true) (h0 : 0 ≤ h) (h2 : h ≤ n) (k : KV (.slice (some ⟨b, 0, none⟩) h.toNat c)) :
    QuietV C P H (Instr.sliceAt t (.slice (some ⟨b, 0, none⟩) n c) none (some (.int kh h)) none) KV :=
  ⟨_, fun w hs => run_slice_to ht hi h0 (by have := own_cap (hs.objs _ hf.mem); omega), k⟩
theorem DoV.slice_own {t e : TypeId} {b n c T sz : Nat} {l : List Value} {kh : IntKind} {h : Int} [hf : FindOwn H b n c T sz l] (ht : P.underlying t = some (.slice e)) (hi : (P.info? e).isSome = true) (h0 : 0 ≤ h) (h2 : h ≤ n) (k : K (.slice (some ⟨b, 0, none⟩) h.toNat c) H) :
    DoV C P (Instr.sliceAt t (.slice (some ⟨b, 0, none⟩) n c) none (some (.int kh h)) none) H K :=
  ⟨fun v H' => v = .slice (some ⟨b, 0, none⟩) h.toNat c ∧ H' = H, fun w hs => ⟨_, w, H, run_slice_to ht hi h0 (by have := own_cap (hs.objs _ hf.mem); omega), ⟨rfl, rfl⟩, hs⟩, fun v H' ⟨h1, h2⟩ => by subst h1; subst h2; exact k⟩
end
end SL

/- Numbers brought into their kinds; bytes and texts; stores into rows of one's own. -/
namespace SL
open Go Go.RowKit

theorem cond_of_true {b : Bool} {X Y : Prop} (h : b = true) (k : X) : cond b X Y := by rw [h]; exact k
theorem cond_of_false {b : Bool} {X Y : Prop} (h : b = false) (k : Y) : cond b X Y := by rw [h]; exact k
section
variable {K : Value → Prop} {x : Int}
theorem ArI.in64 (h : -9223372036854775808 ≤ x ∧ x ≤ 9223372036854775807) (k : K (.int .i64 x)) : ArI .i64 x K := ⟨x, IntWalk.i64_in _ h, k⟩
theorem ArI.inU64 (h : 0 ≤ x ∧ x ≤ 18446744073709551615) (k : K (.int .u64 x)) : ArI .u64 x K := ⟨x, IntWalk.u64_in _ h, k⟩
theorem ArI.inU32 (h : 0 ≤ x ∧ x ≤ 4294967295) (k : K (.int .u32 x)) : ArI .u32 x K := ⟨x, IntWalk.u32_in _ h, k⟩
theorem ArI.inU8 (h : 0 ≤ x ∧ x ≤ 255) (k : K (.int .u8 x)) : ArI .u8 x K := ⟨x, IntWalk.u8_in _ h, k⟩
theorem ArI.to64 (c : Int) (e : x = c) (h : -9223372036854775808 ≤ c ∧ c ≤ 9223372036854775807) (k : K (.int .i64 c)) : ArI .i64 x K := ⟨c, by rw [e]; exact IntWalk.i64_in _ h, k⟩
theorem ArI.toU64 (c : Int) (e : x = c) (h : 0 ≤ c ∧ c ≤ 18446744073709551615) (k : K (.int .u64 c)) : ArI .u64 x K := ⟨c, by rw [e]; exact IntWalk.u64_in _ h, k⟩
theorem ArI.toU8 (c : Int) (e : x = c) (h : 0 ≤ c ∧ c ≤ 255) (k : K (.int .u8 c)) : ArI .u8 x K := ⟨c, by rw [e]; exact IntWalk.u8_in _ h, k⟩
theorem ArI.keep {q : IntKind} (k : K (.int q (q.wrap x))) : ArI q x K := ⟨_, rfl, k⟩
end

/-! ### Slices that own their rows: nil, or a block's head -/
abbrev oaOf : Option (Nat × Nat) → Option Addr
  | none => none
  | some p => some ⟨p.1, 0, none⟩
abbrev capOf : Option (Nat × Nat) → Nat
  | none => 0
  | some p => p.2
abbrev svOf (g : Option (Nat × Nat)) (n : Nat) : Value := .slice (oaOf g) n (capOf g)

/-! ### Bytes and texts -/
/-- The numbers of a text's bytes. -/
def txt (s : ByteArray) : List Nat := s.data.toList.map UInt8.toNat
/-- The text of such bytes. -/
def strB (l : List Nat) : ByteArray := ⟨(l.map UInt8.ofNat).toArray⟩
abbrev bytesV (l : List Nat) : List Value := l.map fun (x : Nat) => Value.int .u8 (x : Int)
theorem txt_lt (s : ByteArray) : ∀ x ∈ txt s, x < 256 := by
  intro x hx
  obtain ⟨b, _, rfl⟩ := List.mem_map.1 hx
  exact b.toNat_lt
theorem txt_length (s : ByteArray) : (txt s).length = s.size := by rw [txt, List.length_map, Array.length_toList]; rfl
theorem strB_size (l : List Nat) : (strB l).size = l.length := by simp [strB, ByteArray.size]
theorem txt_strB {l : List Nat} (h : ∀ x ∈ l, x < 256) : txt (strB l) = l := by
  simp only [txt, strB, List.map_map]
  conv => rhs; rw [← List.map_id l]
  refine List.map_congr_left fun x hx => ?_
  have := h x hx
  simp only [Function.comp, id, UInt8.toNat_ofNat']
  omega
theorem strB_txt (s : ByteArray) : strB (txt s) = s := by
  obtain ⟨⟨l⟩⟩ := s
  simp [txt, strB, Function.comp_def]
theorem txt_inj {s t : ByteArray} (h : txt s = txt t) : s = t := by rw [← strB_txt s, ← strB_txt t, h]
theorem strB_inj {l m : List Nat} (hl : ∀ x ∈ l, x < 256) (hm : ∀ x ∈ m, x < 256) (h : strB l = strB m) : l = m := by rw [← txt_strB hl, ← txt_strB hm, h]
theorem strB_append (l m : List Nat) : strB l ++ strB m = strB (l ++ m) := by
  apply ByteArray.ext
  simp [strB, ByteArray.data_append]
theorem txt_append (s t : ByteArray) : txt (s ++ t) = txt s ++ txt t := by
  simp [txt, ByteArray.data_append]
theorem byteAt_txt (s : ByteArray) (i : Nat) (h : i < (txt s).length) : byteAt s (i : Int) = (((txt s)[i] : Nat) : Int) := by
  have hl : i < s.data.toList.length := by simpa [txt] using h
  unfold byteAt
  simp only [txt, List.getElem_map, Int.toNat_natCast]
  rw [List.getD_eq_getElem?_getD, List.getElem?_eq_getElem hl]; rfl
theorem strOfNums_strB (l : List Nat) : strOfNums (l.map fun (x : Nat) => (x : Int)) = strB l := by
  simp [strOfNums, strB, Function.comp_def]
theorem toList_inj {x y : ByteArray} (h : x.toList = y.toList) : x = y := by
  rw [ByteArray.toList_eq, ByteArray.toList_eq] at h
  obtain ⟨⟨x⟩⟩ := x
  obtain ⟨⟨y⟩⟩ := y
  simp at h
  rw [h]
theorem toList_beq (x y : ByteArray) : (x.toList == y.toList) = decide (x = y) := by
  by_cases h : x = y
  · subst h; simp
  · rw [decide_eq_false h, beq_eq_false_iff_ne]; exact fun e => h (toList_inj e)
theorem strB_extract (l : List Nat) (a b : Nat) : (strB l).extract a b = strB ((l.drop a).take (b - a)) := by
  apply ByteArray.ext
  apply Array.ext'
  simp [strB, List.extract, List.map_take, List.map_drop]
theorem txt_extract (s : ByteArray) (a b : Nat) : txt (s.extract a b) = ((txt s).drop a).take (b - a) := by
  simp [txt, List.extract, List.map_take, List.map_drop]

section
variable {C : Ctx} {P : Program} {H H' : Heap} {K : Value → Heap → Prop}
theorem Row.get {a : Addr} {vs : List Value} (h : Row C H a vs) {w : World} (hs : Sat C H w) {j : Nat} {u : Value} (hj : vs[j]? = some u) : w.cell? (a.add j) = some u := h w hs j u hj
/-- string(bytes). -/
theorem run_bytes_string {w : World} {src dst e : TypeId} {b o len cap : Nat} {l : List Nat} (hs : P.underlying src = some (.slice e)) (he : P.underlying e = some (.int .u8)) (hd : P.underlying dst = some .string) (hl : l.length = len)
    (hrow : ∀ j u, (bytesV l)[j]? = some u → w.cell? ((⟨b, o, none⟩ : Addr).add j) = some u) : (convert src dst (.slice (some ⟨b, o, none⟩) len cap)).run P w = .ok (.string (strB l)) w := by
  rw [← strOfNums_strB]
  refine run_convert_bytes_arg (P := P) w src e hs he b o len cap (l.map fun (x : Nat) => (x : Int)) (by simpa using hl) (fun i hi => ?_) dst hd
  have := hrow i (.int .u8 ((l[i]'(by omega) : Nat) : Int)) (by rw [List.getElem?_map, List.getElem?_eq_getElem (show i < l.length by omega)]; rfl)
  rw [Addr_add] at this
  rw [this]
  simp [List.getElem?_eq_getElem (show i < l.length by omega)]
theorem DoV.bytes_string {src dst e : TypeId} {b o len cap : Nat} {l : List Nat} (hs : P.underlying src = some (.slice e)) (he : P.underlying e = some (.int .u8)) (hd : P.underlying dst = some .string) (hl : l.length = len)
    (hrow : Row C H ⟨b, o, none⟩ (bytesV l)) (k : K (.string (strB l)) H) : DoV C P (convert src dst (.slice (some ⟨b, o, none⟩) len cap)) H K :=
  ⟨fun v H' => v = .string (strB l) ∧ H' = H, fun w hw => ⟨_, w, H, run_bytes_string hs he hd hl (hrow w hw), ⟨rfl, rfl⟩, hw⟩, fun v H' ⟨h1, h2⟩ => by subst h1; subst h2; exact k⟩
theorem DoV.nil_string {src dst e : TypeId} {len cap : Nat} (hs : P.underlying src = some (.slice e)) (he : P.underlying e = some (.int .u8)) (hd : P.underlying dst = some .string) (k : K (.string ByteArray.empty) H) : DoV C P (convert src dst (.slice none len cap)) H K :=
  DoV.of_quiet (fun w => run_convert_bytes_nil w src e hs he len cap dst hd) k
/-- Parts of a text. -/
theorem DoV.str_lh {t : TypeId} {s : ByteArray} {kl kh : IntKind} {l h : Int} (ht : P.underlying t = some .string) (h0 : 0 ≤ l) (h1 : l ≤ h) (h2 : h ≤ s.size) (k : K (.string (s.extract l.toNat h.toNat)) H) :
    DoV C P (Instr.sliceAt t (.string s) (some (.int kl l)) (some (.int kh h)) none) H K := DoV.of_quiet (fun w => by
      rw [run_sliceAt_string (P := P) w t _ _ _ _ ht]; exact run_slice_string (P := P) w t s kl kh l h ht h0 h1 (by omega)) k
theorem DoV.str_h {t : TypeId} {s : ByteArray} {kh : IntKind} {h : Int} (ht : P.underlying t = some .string) (h0 : 0 ≤ h) (h2 : h ≤ s.size) (k : K (.string (s.extract 0 h.toNat)) H) :
    DoV C P (Instr.sliceAt t (.string s) none (some (.int kh h)) none) H K := DoV.of_quiet (fun w => by
      rw [run_sliceAt_string (P := P) w t _ _ _ _ ht]; exact run_slice_string_h (P := P) w t s ht kh h h0 h2) k
theorem DoV.str_l {t : TypeId} {s : ByteArray} {kl : IntKind} {l : Int} (ht : P.underlying t = some .string) (h0 : 0 ≤ l) (h1 : l ≤ s.size) (k : K (.string (s.extract l.toNat s.size)) H) :
    DoV C P (Instr.sliceAt t (.string s) (some (.int kl l)) none none) H K := DoV.of_quiet (fun w => by
      rw [run_sliceAt_string (P := P) w t _ _ _ _ ht]; exact run_slice_string_l (P := P) w t s ht kl l h0 h1) k

theorem own_snoc {τ : Type} (f : τ → Value) (l : List τ) (x : τ) (gb gc T sz : Nat) :
    HObj.own (svOf (some (gb, gc)) (l ++ [x]).length) (l ++ [x]).length T sz ((l ++ [x]).map f) = .own (.slice (some ⟨gb, 0, none⟩) (l.length + 1) gc) (l.length + 1) T sz (l.map f ++ [f x]) := by simp
theorem own_snocF {τ : Type} (f : τ → List Value) (l : List τ) (x : τ) (gb gc T sz : Nat) :
    HObj.own (svOf (some (gb, gc)) (l ++ [x]).length) (l ++ [x]).length T sz ((l ++ [x]).flatMap f) = .own (.slice (some ⟨gb, 0, none⟩) (l.length + 1) gc) (l.length + 1) T sz (l.flatMap f ++ f x) := by simp

/-! ### Rows of several cells -/
theorem flat_length {τ : Type} {f : τ → List Value} {sz : Nat} (hf : ∀ x, (f x).length = sz) (xs : List τ) : (xs.flatMap f).length = xs.length * sz := by
  induction xs with
  | nil => simp
  | cons x xs ih => rw [List.flatMap_cons, List.length_append, hf, ih, List.length_cons, Nat.succ_mul]; omega
theorem flat_at {τ : Type} {f : τ → List Value} {sz : Nat} (hf : ∀ x, (f x).length = sz) : ∀ (xs : List τ) (i j : Nat) (hi : i < xs.length), j < sz → (xs.flatMap f)[i * sz + j]? = (f (xs[i]'hi))[j]?
  | [], i, j, hi, _ => by simp at hi
  | x :: xs, 0, j, _, hj => by
    rw [List.flatMap_cons, Nat.zero_mul, Nat.zero_add, List.getElem?_append_left (by rw [hf]; exact hj)]; rfl
  | x :: xs, i + 1, j, hi, hj => by
    rw [List.flatMap_cons, List.getElem?_append_right (by rw [hf, Nat.succ_mul]; omega), hf, show (i + 1) * sz + j - sz = i * sz + j by rw [Nat.succ_mul]; omega]
    exact flat_at hf xs i j (by simpa using hi) hj
theorem flat_row {τ : Type} {f : τ → List Value} {sz : Nat} (hf : ∀ x, (f x).length = sz) {F : Mem} {b o : Nat} {xs : List τ} (h : ∀ j v, (xs.flatMap f)[j]? = some v → RdC F ⟨b, o + j, none⟩ v) {i : Nat} (hi : i < xs.length) (hsz : Nat.beq sz 1 = false) :
    ∀ j v, (f (xs[i]'hi))[j]? = some v → RdC F ((⟨b, elemOff o (i : Int) sz, none⟩ : Addr).add j) v := by
  intro j v hj
  have hjs : j < sz := by have := (List.getElem?_eq_some_iff.1 hj).1; rwa [hf] at this
  rw [Addr_add]
  unfold elemOff
  rw [hsz]
  show RdC F ⟨b, o + i * sz + j, none⟩ v
  rw [Nat.add_assoc]
  exact h _ _ (by rw [flat_at hf xs i j hi hjs]; exact hj)
theorem flat_drop {τ : Type} {f : τ → List Value} {sz : Nat} (hf : ∀ x, (f x).length = sz) (xs : List τ) (i : Nat) (hi : i < xs.length) : ((xs.flatMap f).drop (i * sz)).take sz = f (xs[i]'hi) := by
  apply List.ext_getElem?
  intro j
  rw [List.getElem?_take]
  split
  · rename_i hj
    rw [List.getElem?_drop, flat_at hf xs i j hi hj]
  · rename_i hj
    rw [List.getElem?_eq_none (by rw [hf]; omega)]
theorem take_snoc {α : Type} {l : List α} {i : Nat} (h : i < l.length) : l.take (i + 1) = l.take i ++ [l[i]] := (List.take_append_getElem h).symm

/-- The whole of an array, as a slice. -/
theorem DoV.slice_arr {t e : TypeId} {n b o : Nat} (ht : P.underlying t = some (.array n e)) (hi : (P.info? e).isSome = true) (k : K (.slice (some ⟨b, o, none⟩) n n) H) :
    DoV C P (Instr.sliceAt t (.pointer (some ⟨b, o, none⟩)) none none none) H K := DoV.of_quiet (fun w => by
      obtain ⟨i, hi⟩ := Option.isSome_iff_exists.1 hi
      have e1 : P.elem t = e := by simp [Program.elem, ht]
      have e2 : P.arrayLen t = n := by simp [Program.arrayLen, ht]
      rw [run_sliceAt_array_all (P := P) w t ⟨b, o, none⟩ (by rw [e1, e2]; exact ht), e1, e2]
      simp [Go.sizeOf, typeInfo, hi, slicedAt, Addr_add]) k

/-- A caller's own row, as its callee reads it. -/
theorem SlF.sv {F F' : Mem} {B : Heap} {g : Option (Nat × Nat)} {n sz : Nat} {l : List Value} {T : TypeId} {G : HObj → Heap} (he : Ext F B F') [ho : OwnHole B (svOf g n) n T sz l G] (hl : l.length = n * sz) (h : g = none → n = 0) : SlF F' sz (oaOf g) n l :=
  ⟨hl, fun hn => by
    cases g with
    | none => exact absurd (h rfl) (by omega)
    | some p =>
      refine ⟨p.1, 0, rfl, fun j v hj w hw => ?_⟩
      obtain ⟨A, B', hB, _⟩ := ho.out
      rw [Nat.zero_add]
      have hm : HObj.own (svOf (some p) n) n T sz l ∈ B := by rw [hB]; simp
      exact own_cell (he.H _ hm w hw) j v hj⟩

theorem SlF.own_pre {F F' : Mem} {B : Heap} {b n n' c sz : Nat} {l : List Value} {T : TypeId} [hf : FindOwn B b n' c T sz l] (he : Ext F B F') (hl : n * sz ≤ l.length) : SlF F' sz (some ⟨b, 0, none⟩) n (l.take (n * sz)) :=
  ⟨by rw [List.length_take]; omega, fun _ => ⟨b, 0, rfl, fun j v hj w hw => by
    rw [Nat.zero_add]
    rw [List.getElem?_take] at hj
    split at hj
    · exact own_cell (he.H _ hf.mem w hw) j v hj
    · cases hj⟩⟩
/-- What an appended slice reads: nil, or a row. -/
def Src (C : Ctx) (H : Heap) (oa : Option Addr) (m c : Nat) (news : List Value) : Prop := (oa = none ∧ m = 0 ∧ c = 0) ∨ ∃ a, oa = some a ∧ Row C H a news
theorem Src.foreign {oa : Option Addr} {sz n c : Nat} {vs : List Value} (h : SlF C.F sz oa n vs) (hc : oa = none → c = 0) : Src C H oa n c vs := by
  cases oa with
  | none =>
    by_cases hn : 0 < n
    · obtain ⟨b, o, e, _⟩ := h.row hn; cases e
    · exact .inl ⟨rfl, by omega, hc rfl⟩
  | some a =>
    refine .inr ⟨a, rfl, ?_⟩
    by_cases hn : 0 < n
    · obtain ⟨b, o, e, hv⟩ := h.row hn
      cases e
      exact Row.foreign fun j v hj => by rw [Addr_add]; exact hv j v hj
    · have : vs = [] := List.eq_nil_of_length_eq_zero (by rw [h.len, show n = 0 by omega, Nat.zero_mul])
      subst this
      intro w _ j u hj; simp at hj
theorem Row.sv {g : Option (Nat × Nat)} {n sz : Nat} {l : List Value} {T : TypeId} {G : HObj → Heap} [ho : OwnHole H (svOf g n) n T sz l G] {b c : Nat} (hg : g = some (b, c)) : Row C H ⟨b, 0, none⟩ l := by
  subst hg
  obtain ⟨A, B, hH, _⟩ := ho.out
  have hm : HObj.own (svOf (some (b, c)) n) n T sz l ∈ H := by rw [hH]; simp
  intro w hs j u hu
  rw [Addr_add, Nat.zero_add]
  exact own_cell (hs.objs _ hm) j u hu
theorem Src.sv {g : Option (Nat × Nat)} {n sz : Nat} {l : List Value} {T : TypeId} {G : HObj → Heap} [ho : OwnHole H (svOf g n) n T sz l G] (h : g = none → n = 0) : Src C H (oaOf g) n (capOf g) l := by
  cases hg : g with
  | none => exact .inl ⟨rfl, h hg, rfl⟩
  | some p => exact .inr ⟨_, rfl, Row.sv (C := C) (g := g) (n := n) (T := T) (sz := sz) (G := G) (ho := ho) (by rw [hg])⟩
section
variable {n sz m c : Nat} {G : HObj → Heap} {T : TypeId} {l : List Value} {t ty : TypeId} {cs : Array Bool} {i : TypeInfo} {z : Value} {g : Option (Nat × Nat)}
theorem append_take {A B : Heap} {w w' : World} {v' : Value} (hs : Sat C (A ++ .own (svOf g n) n T sz l :: B) w) {l' : List Value} (hown' : w'.ownsRow 0 T sz v' (n + m) l') (hg : w.grownBy w' (svOf g n).ownBlock)
    (hnil : v' = .slice none 0 0 ↔ svOf g n = .slice none 0 0 ∧ m = 0) (hat : v'.ownBlock = (svOf g n).ownBlock ∨ v'.ownBlock = some w.heap.size) : ∃ g', (g' = none ↔ g = none ∧ m = 0) ∧ v' = svOf g' (n + m) ∧ Sat C (A ++ .own (svOf g' (n + m)) (n + m) T sz l' :: B) w' := by
  have hown : w.ownsRow 0 T sz (svOf g n) n l := hs.objs (.own (svOf g n) n T sz l) (by simp)
  have hg0 : g = none → n = 0 := fun e => by
    subst e
    rcases hown.2 with ⟨h, h2⟩ | ⟨_, _, _, h, _⟩
    · exact h2
    · cases h
  have hsat : ∀ v', v' = v' → w'.ownsRow 0 T sz v' (n + m) l' → (v'.ownBlock = (svOf g n).ownBlock ∨ v'.ownBlock = some w.heap.size) → Sat C (A ++ .own v' (n + m) T sz l' :: B) w' := fun v' _ h1 h2 => by
    refine hs.write hg.os hg.tape hg.output hg.size (fun r hr hrx => hg.block r hr fun e => hrx ?_) h1 (own_blks_nodup _ _ _ _ _) (fun r hr => ?_)
    · rw [own_blks, ← e]; simp
    · rw [own_blks] at hr ⊢
      rcases h2 with h | h
      · rw [h] at hr; exact .inl hr
      · rw [h] at hr; simp at hr; exact .inr (by omega)
  have hform : (v' = .slice none 0 0 ∧ n + m = 0) ∨ ∃ b cap, v' = .slice (some ⟨b, 0, none⟩) (n + m) cap := by
    rcases hown'.2 with ⟨e, h⟩ | ⟨b, cap, _, e, _⟩
    · exact .inl ⟨e, h⟩
    · exact .inr ⟨b, cap, e⟩
  rcases hform with ⟨e, h0⟩ | ⟨b, cap, e⟩
  · have hh := hnil.1 e
    have hgn : g = none := by
      cases g with
      | none => rfl
      | some p => exact absurd hh.1 (by simp)
    have e2 : v' = svOf none (n + m) := by rw [e, h0]
    refine ⟨none, by simp [hgn, hh.2], e2, ?_⟩
    rw [← e2]; exact hsat v' rfl hown' hat
  · refine ⟨some (b, cap), ?_, e, ?_⟩
    · constructor
      · intro h; cases h
      · rintro ⟨h1, h2⟩
        have : v' = .slice none 0 0 := hnil.2 ⟨by rw [h1, hg0 h1], h2⟩
        rw [e] at this; cases this
    · show Sat C (A ++ .own (.slice (some ⟨b, 0, none⟩) (n + m) cap) (n + m) T sz l' :: B) w'
      rw [← e]; exact hsat v' rfl hown' hat
/-- append(s, x...), of any elements, onto an owned row or nil. -/
theorem BuiltV.append_sv {oa : Option Addr} {news : List Value} [ho : OwnHole H (svOf g n) n T sz l G] (ht : P.underlying t = some (.slice T)) (hi : P.info? T = some i) (hz : i.zero = some z) (hsz : i.size = sz) (hzs : z.cells.size = sz) (h0 : 0 < sz)
    (hrow : Src C H oa m c news) (hm : news.length = m * sz) (h1 : news.all Value.oneCell' = true) (hlen : (n + m) * i.bytes ≤ 140737488355328) (hmax : n + m ≤ 140737488355328)
    (k : ∀ g', (g' = none ↔ g = none ∧ m = 0) → K (svOf g' (n + m)) (G (.own (svOf g' (n + m)) (n + m) T sz (l ++ news)))) :
    BuiltV C P .append #[t, t] ty cs [svOf g n, .slice oa m c] H K := by
  obtain ⟨A, B, hH, hG⟩ := ho.out
  refine ⟨fun v H' => ∃ g', (g' = none ↔ g = none ∧ m = 0) ∧ v = svOf g' (n + m) ∧ H' = G (.own (svOf g' (n + m)) (n + m) T sz (l ++ news)), fun w hs => ?_, fun v H' ⟨g', h1, hv, hH'⟩ => by subst hv; subst hH'; exact k g' h1⟩
  have hown : w.ownsRow 0 T sz (svOf g n) n l := hs.objs (.own (svOf g n) n T sz l) (by rw [hH]; simp)
  rcases hrow with ⟨rfl, rfl, rfl⟩ | ⟨a, rfl, hrow⟩
  · have hnews : news = [] := List.eq_nil_of_length_eq_zero (by simpa using hm)
    subst hnews
    have hrun := run_append_owned_none (P := P) (w := w) 0 t ty T i sz ht hi (svOf g n) n l hown
    refine ⟨svOf g n, w, H, ?_, ⟨g, by simp, rfl, by rw [hG, List.append_nil, Nat.add_zero, ← hH]⟩, hs⟩
    show (builtin .append #[t, t] ty cs #[svOf g n, .slice none 0 0]).run P w = _
    simp only [builtin, Sem.run_bind]
    rw [hrun]; rfl
  · obtain ⟨v', w', hr, hown', hg, hnil, hat⟩ := run_append_own_at (P := P) w 0 t ty T i z sz i.bytes ht hi hz hsz rfl hzs h0 (svOf g n) n l hown a m c news hm (hrow w hs) (List.all_eq_true.1 h1) (by simp only [maxLen]; omega) hlen (Nat.zero_le _)
    rw [hH] at hs
    obtain ⟨g', hg', hv', hs'⟩ := append_take hs hown' hg hnil hat
    subst hv'
    refine ⟨svOf g' (n + m), w', _, ?_, ⟨g', hg', rfl, rfl⟩, by rw [hG]; exact hs'⟩
    show (builtin .append #[t, t] ty cs #[svOf g n, .slice (some a) m c]).run P w = _
    simp only [builtin, Sem.run_bind]
    rw [hr]; rfl
end

/-! ### Stores into an owned row -/
theorem Sat.own_set {A B : Heap} {b n c T sz : Nat} {l l' : List Value} {w : World} (hs : Sat C (A ++ .own (.slice (some ⟨b, 0, none⟩) n c) n T sz l :: B) w) (hl : l'.length = l.length) :
    ∃ cur : Array Value, w.heap[b]? = some (.cells cur T (0, 0)) ∧ cur.toList.take (n * sz) = l ∧ n * sz ≤ cur.size ∧ Sat C (A ++ .own (.slice (some ⟨b, 0, none⟩) n c) n T sz l' :: B) (w.setRow b (l' ++ cur.toList.drop (n * sz)).toArray) := by
  have hx := hs.objs (.own (.slice (some ⟨b, 0, none⟩) n c) n T sz l) (by simp)
  obtain ⟨h1, h2⟩ := hx
  rcases h2 with ⟨h, _⟩ | ⟨g, cap, cur, he, _, hg, hnc, hcm, hsz, htk⟩
  · cases h
  · cases he
    have hle : n * sz ≤ c * sz := Nat.mul_le_mul_right _ hnc
    refine ⟨cur, hg, htk, by omega, ?_⟩
    refine hs.write (x := .own (.slice (some ⟨b, 0, none⟩) n c) n T sz l) (y := .own (.slice (some ⟨b, 0, none⟩) n c) n T sz l') rfl rfl rfl (by simp [World.setRow]) (fun r _ hr => setRow_other w b r _ (by simpa [HObj.blks] using hr)) ⟨hl.trans h1, .inr ⟨b, c, _, rfl, Nat.zero_le _, setRow_heap w b _ _ _ _ hg, hnc, hcm, ?_, ?_⟩⟩ (by simp [HObj.blks]) (fun r hr => .inl hr)
    · simp [hl, h1, hsz]; omega
    · simp [hl, h1]
/-- An owned row, found by its block. -/
class OwnAt (H : Heap) (b : Nat) (n c : outParam Nat) (T : outParam TypeId) (sz : outParam Nat) (l : outParam (List Value)) (G : outParam (List Value → Heap)) : Prop where
  out : ∃ A B, H = A ++ HObj.own (.slice (some ⟨b, 0, none⟩) n c) n T sz l :: B ∧ ∀ l', G l' = A ++ HObj.own (.slice (some ⟨b, 0, none⟩) n c) n T sz l' :: B
instance OwnAt.there {x : HObj} {H : Heap} {b n c : Nat} {T : TypeId} {sz : Nat} {l : List Value} {G : List Value → Heap} [h : OwnAt H b n c T sz l G] : OwnAt (x :: H) b n c T sz l (fun y => x :: G y) := ⟨by
  obtain ⟨A, B, h1, h2⟩ := h.out
  exact ⟨x :: A, B, by simp [h1], fun y => by simp [h2]⟩⟩
instance OwnAt.here {H : Heap} {b n c : Nat} {T : TypeId} {sz : Nat} {l : List Value} : OwnAt (.own (.slice (some ⟨b, 0, none⟩) n c) n T sz l :: H) b n c T sz l (fun y => .own (.slice (some ⟨b, 0, none⟩) n c) n T sz y :: H) := ⟨[], H, rfl, fun _ => rfl⟩
theorem StoreV.os {t : TypeId} {b n c off sz : Nat} {T : TypeId} {l : List Value} {v : Value} {G : List Value → Heap} {KH : Heap → Prop} [ho : OwnAt H b n c T sz l G] (hz : P.cellsOf t = v.cells.size) (hi : (P.info? t).isSome) (hle : off + v.cells.size ≤ l.length) (h1 : v.cells.toList.all Value.oneCell' = true)
    (k : KH (G (putAt l off v.cells.toList))) : StoreV C P t ⟨b, off, none⟩ v H KH :=
  ⟨_, fun w hs => by
    obtain ⟨A, B, hH, hG⟩ := ho.out
    rw [hH] at hs
    rw [hG]
    have hlen : (putAt l off v.cells.toList).length = l.length := by simp [putAt]; omega
    obtain ⟨cur, hg, htk, hn, hs'⟩ := hs.own_set (l' := putAt l off v.cells.toList) hlen
    have hll : l.length = n * sz := (hs.objs (.own (.slice (some ⟨b, 0, none⟩) n c) n T sz l) (by simp)).1
    refine ⟨_, run_storeVar hg hz hi (by omega) (List.all_eq_true.1 h1), ?_⟩
    have e : putAt cur.toList off v.cells.toList = putAt l off v.cells.toList ++ cur.toList.drop (n * sz) := by
      have hcur : cur.toList = l ++ cur.toList.drop (n * sz) := by rw [← htk, List.take_append_drop]
      have hoff : off + v.cells.toList.length ≤ l.length := by simpa using hle
      unfold putAt
      conv => lhs; rw [hcur]
      rw [List.take_append_of_le_length (by omega), List.drop_append_of_le_length (by omega)]
      simp
    rw [e]; exact hs', k⟩
end
end SL

/- Opening a law's arguments. -/
namespace SL
open Go Go.RowKit
section
variable {H : Type} {enc : TypeId × Value → H} {P : Program} {W : World} {base b0 : Nat} {sp : Nat → Bool} {held : Bool} {r : Reach} {t : TypeId} {v : Value} {d : DataW H} {ps : List MemPlace}
theorem rows_viewQ {τ : Type} {f : τ → List Value} {Q : τ → Prop} {ks : List LK} (hf : ∀ row, okCells ks row = true → row.all wfCell = true → ∃ x, Q x ∧ row = f x) : ∀ (n : Nat) (cs : List Value), okCells (repl n ks) cs = true → cs.all wfCell = true → ∃ xs : List τ, xs.length = n ∧ cs = xs.flatMap f ∧ ∀ x ∈ xs, Q x
  | 0, cs, h, _ => by
    cases cs with
    | nil => exact ⟨[], rfl, rfl, by simp⟩
    | cons c cs => simp [repl, okCells] at h
  | n + 1, cs, h, hw => by
    obtain ⟨h1, h2⟩ := okCells_split (ks := ks) (ls := repl n ks) h
    have hw1 : (cs.take ks.length).all wfCell = true := List.all_eq_true.2 fun x hx => List.all_eq_true.1 hw x (List.mem_of_mem_take hx)
    have hw2 : (cs.drop ks.length).all wfCell = true := List.all_eq_true.2 fun x hx => List.all_eq_true.1 hw x (List.mem_of_mem_drop hx)
    obtain ⟨x, hq, hx⟩ := hf _ h1 hw1
    obtain ⟨xs, hl, hxs, hqs⟩ := rows_viewQ hf n _ h2 hw2
    exact ⟨x :: xs, by simp [hl], by rw [← List.take_append_drop ks.length cs, hx, hxs]; rfl, by simp [hq]; exact hqs⟩
/-- A slice of flat elements. -/
theorem open_rowsQ {τ : Type} {f : τ → List Value} {Q : τ → Prop} {e : TypeId} {k : Nat} {ks : List LK} (ht : P.underlying t = some (.slice e)) (hs : shapeOf P k e = some ks) (hz : P.cellsOf e = ks.length) (h0 : 0 < ks.length)
    (hf : ∀ row, okCells ks row = true → row.all wfCell = true → ∃ x, Q x ∧ row = f x) (hval : Value.okWide P W r b0 t v) (hd : DataW.Trod enc P W base sp held t v d ps) :
    ∃ (oa : Option Addr) (xs : List τ) (cap : Nat), v = .slice oa xs.length cap ∧ SlF (fun r => W.heap[r]?) ks.length oa xs.length (xs.flatMap f) ∧ (∀ x ∈ xs, Q x) ∧ (oa = none → cap = 0) ∧
      ((d = .nil ∧ xs.length = 0) ∨ ∃ els spare, d = .slice els spare ∧ els.length = xs.length) := by
  obtain ⟨a, len, cap, rfl⟩ := Go.WideShapes.okWide_slice ht hval
  obtain ⟨fuel, hf'⟩ := hd
  obtain ⟨oa, len', cap', vs, hv, hS, hok, hwf, hD⟩ := open_rows ht hs hz h0 hf'
  have hcap : oa = none → cap' = 0 := by
    intro e
    subst e
    rcases Go.Deep.open_slice ht hf' with ⟨h, _⟩ | ⟨a', len2, cap2, _, _, _, _, h, _⟩
    · rw [hv] at h; simp at h; exact h.2
    · rw [hv] at h; simp at h
  obtain ⟨rfl, rfl, rfl⟩ : a = oa ∧ len = len' ∧ cap = cap' := by simpa [Value.cells] using hv
  obtain ⟨xs, hl, rfl, hq⟩ := rows_viewQ hf len vs hok hwf
  subst hl
  exact ⟨a, xs, cap, rfl, hS, hq, hcap, hD⟩
theorem open_str (ht : P.underlying t = some .string) (hval : Value.okWide P W r b0 t v) (hd : DataW.Trod enc P W base sp held t v d ps) : ∃ s : ByteArray, v = .string s ∧ d = .lit (.string s.data.toList) ∧ s.size ≤ maxLen := by
  obtain ⟨s, rfl⟩ := Go.WideShapes.okWide_string ht hval
  obtain ⟨fuel, hf⟩ := hd
  cases fuel with
  | zero => simp [DataW.trod] at hf
  | succ m =>
    rw [DataW.trod_step] at hf
    unfold DataW.trodStep at hf
    simp only [ht, Value.cells] at hf
    split at hf <;> simp_all
/-- A struct or an array of flat parts. -/
theorem open_agg {τ : Type} {f : τ → List Value} {Q : τ → Prop} {k : Nat} {ks : List LK} (hs : shapeOf P k t = some ks) (hz : P.cellsOf t = ks.length) (ha : isAggT P t = true)
    (hf : ∀ row, okCells ks row = true → row.all wfCell = true → ∃ x, Q x ∧ row = f x) (hval : Value.okWide P W r b0 t v) (hd : DataW.Trod enc P W base sp held t v d ps) :
    ∃ x : τ, v = .agg (f x).toArray ∧ Q x := by
  have hform : ∃ cs : Array Value, v = .agg cs := by
    unfold Value.okWide at hval
    unfold isAggT at ha
    split at hval
    · obtain ⟨cs, h, _⟩ := hval; exact ⟨cs, h⟩
    · obtain ⟨cs, h, _⟩ := hval; exact ⟨cs, h⟩
    · rename_i h1 h2
      split at ha
      · rename_i fs hu; exact absurd hu (h1 fs)
      · rename_i n e hu; exact absurd hu (h2 n e)
      · cases ha
  obtain ⟨cs, rfl⟩ := hform
  obtain ⟨fuel, hf'⟩ := hd
  obtain ⟨h1, h2⟩ := trod_flat k t ks hs fuel _ _ hz hf'
  obtain ⟨x, hq, hx⟩ := hf _ h1 h2
  refine ⟨x, ?_, hq⟩
  rw [← hx]; simp [Value.cells]
theorem view_int {k : IntKind} : ∀ row, okCells [.i k] row = true → row.all wfCell = true → ∃ x : Int, (Lit.int k x).wf = true ∧ row = [.int k x] := by
  intro row h hw
  match row, okCells_length h with
  | [a], _ =>
    cases a <;> simp [okCells, okCell] at h
    subst h
    simp [wfCell] at hw
    exact ⟨_, hw, rfl⟩
theorem flatMap_one {α β : Type} (f : α → β) (l : List α) : l.flatMap (fun x => [f x]) = l.map f := by induction l <;> simp_all
end
end SL

end Go.Proofs.YtlfmckjehjedpaaGreatDoor
