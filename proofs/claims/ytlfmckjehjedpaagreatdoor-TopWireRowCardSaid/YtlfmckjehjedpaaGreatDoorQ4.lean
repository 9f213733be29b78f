/- What the laws' proofs stand on, in one row: laws in numbers and lists, contracts of functions. No condition. -/
import Derived.Test.YtlfmckjehjedpaaGreatDoorQ3
import Derived.Test.YtlfmckjehjedpaaGreatDoorQ1
import Derived.RecoverIn
/- Who is opened; what follows. -/
namespace Go.Proofs.YtlfmckjehjedpaaGreatDoor
set_option linter.unusedVariables false
set_option linter.unusedSimpArgs false
set_option maxRecDepth 100000
open SL Go.RowKit Go.Maps
end Go.Proofs.YtlfmckjehjedpaaGreatDoor

/- What follows; what is kept. -/
namespace Go.Proofs.YtlfmckjehjedpaaGreatDoor
set_option linter.unusedVariables false
set_option linter.unusedSimpArgs false
set_option maxRecDepth 100000
open SL Go.RowKit Go.Maps
/-- The foreign memory reads so: an object whole. -/
def RdO (F : Mem) (r : Nat) (o : Obj) : Prop := ∀ w : World, (∀ r o, F r = some o → w.heap[r]? = some o) → w.heap[r]? = some o
theorem RdO.at {C : Ctx} {H : Heap} {w : World} {r : Nat} {o : Obj} (h : RdO C.F r o) (hs : Sat C H w) : w.heap[r]? = some o := h w fun _ _ hF => hs.foreign hF
theorem RdO.ext {F F' : Mem} {r : Nat} {o : Obj} (h : RdO F r o) (hF : ∀ r o, F r = some o → F' r = some o) : RdO F' r o := fun w hw => h w fun r o hr => hw r o (hF r o hr)
theorem RdO.obj {F F' : Mem} {B : Heap} {r : Nat} {o : Obj} (he : Ext F B F') (hm : HObj.obj r o ∈ B) : RdO F' r o := fun w hw => he.H _ hm w hw
section
variable {C : Ctx} {P : Program} {H : Heap} {KV : Value → Heap → Prop} {α β : Type} {k e t : TypeId} {fk : α → Value} {fv : β → Value} {es : Array MapEntry} {clock : Nat} {m : List (α × β)} {r : Nat} {a : α}
end
end Go.Proofs.YtlfmckjehjedpaaGreatDoor

/- The row is kept. -/
namespace Go.Proofs.YtlfmckjehjedpaaGreatDoor
set_option linter.unusedVariables false
set_option linter.unusedSimpArgs false
set_option maxRecDepth 100000
open SL Go.RowKit Go.Maps
end Go.Proofs.YtlfmckjehjedpaaGreatDoor

/- A script's row of trees and its messages: plain. -/
namespace Go.Proofs.YtlfmckjehjedpaaGreatDoor
set_option linter.unusedVariables false
set_option linter.unusedSimpArgs false
set_option maxRecDepth 100000
open SL Go.RowKit Go.Maps
/-- A batch that was taken: the tree ahead of it, who left, who joined. -/
abbrev MsgT := TreeI × List Int × List Int
def stepF (s : List TreeI × List MsgT) (x : List Int × List Int) : List TreeI × List MsgT := match s.1.getLast? with
  | none => s
  | some t => if stepE t x.1 x.2 = 0 then (s.1 ++ [nextT t x.1 x.2], s.2 ++ [(t, x.1, x.2)]) else s
def runF (sc : List (List Int × List Int)) : List TreeI × List MsgT := sc.foldl stepF ([startT], [])
theorem runF_snoc {sc : List (List Int × List Int)} {i : Nat} (h : i < sc.length) : runF (sc.take (i + 1)) = stepF (runF (sc.take i)) sc[i] := by
  unfold runF; rw [take_snoc h, List.foldl_append]; rfl
/-- Each message stands between two trees. -/
structure RunOk (s : List TreeI × List MsgT) : Prop where
  len : s.1.length = s.2.length + 1
  first : s.1[0]? = some startT
  msg : ∀ (i : Nat) (m : MsgT), s.2[i]? = some m → s.1[i]? = some m.1 ∧ stepE m.1 m.2.1 m.2.2 = 0 ∧ s.1[i + 1]? = some (nextT m.1 m.2.1 m.2.2)
theorem RunOk.step {s : List TreeI × List MsgT} (h : RunOk s) (x : List Int × List Int) : RunOk (stepF s x) := by
  unfold stepF
  split
  · exact h
  · rename_i t ht
    by_cases hz : stepE t x.1 x.2 = 0
    · rw [if_pos hz]
      have h1 := h.len
      have hlast : s.1[s.2.length]? = some t := by rw [List.getLast?_eq_getElem?, h1, Nat.add_sub_cancel] at ht; exact ht
      refine ⟨by simp [h1], ?_, fun i m hm => ?_⟩
      · rw [List.getElem?_append_left (by omega)]; exact h.first
      · by_cases hi : i < s.2.length
        · rw [List.getElem?_append_left hi] at hm
          obtain ⟨h2, h3, h4⟩ := h.msg i m hm
          exact ⟨by rw [List.getElem?_append_left (by omega)]; exact h2, h3, by rw [List.getElem?_append_left (by omega)]; exact h4⟩
        · have hlt := (List.getElem?_eq_some_iff.1 hm).1
          simp only [List.length_append, List.length_cons, List.length_nil] at hlt
          obtain rfl : i = s.2.length := by omega
          rw [List.getElem?_append_right (Nat.le_refl _), Nat.sub_self] at hm
          simp only [List.getElem?_cons_zero, Option.some.injEq] at hm
          subst hm
          exact ⟨by rw [List.getElem?_append_left (by omega)]; exact hlast, hz, by rw [List.getElem?_append_right (by omega), show s.2.length + 1 - s.1.length = 0 by omega]; rfl⟩
    · rw [if_neg hz]; exact h
theorem runF_ok (sc : List (List Int × List Int)) : RunOk (runF sc) := by
  have key : ∀ (l : List (List Int × List Int)) (s : List TreeI × List MsgT), RunOk s → RunOk (l.foldl stepF s) := by
    intro l
    induction l with
    | nil => intro s h; exact h
    | cons x l ih => intro s h; exact ih _ (h.step x)
  exact key sc _ ⟨rfl, rfl, fun i m hm => by simp at hm⟩
/-- The row of a run's trees. -/
theorem RowOk.of_run {row : List TreeS} {s : List TreeI × List MsgT} (h : RunOk s) (e : row.map (·.1) = s.1) : RowOk row := by
  have hl : row.length = s.1.length := by rw [← e, List.length_map]
  have hat : ∀ (i : Nat) (t : TreeS), row[i]? = some t → s.1[i]? = some t.1 := fun i t ht => by rw [← e, List.getElem?_map, ht]; rfl
  have h1 := h.len
  refine ⟨?_, fun i t u ht hu => ?_⟩
  · have h0 : 0 < row.length := by omega
    refine ⟨row[0], List.getElem?_eq_getElem h0, ?_⟩
    have := hat 0 _ (List.getElem?_eq_getElem h0)
    rw [h.first] at this; exact (Option.some.inj this).symm
  · have hlt := (List.getElem?_eq_some_iff.1 hu).1
    have hi : i < s.2.length := by omega
    obtain ⟨h2, h3, h4⟩ := h.msg i _ (List.getElem?_eq_getElem hi)
    rw [hat i t ht] at h2
    rw [hat (i + 1) u hu] at h4
    have e1 := Option.some.inj h2
    have e2 := Option.some.inj h4
    obtain ⟨h5, h6⟩ := stepE_zero.1 h3
    rw [← e1] at e2 h5 h6
    exact ⟨_, _, h5, h6, e2⟩
abbrev Gs := Option (Nat × Nat) × Option (Nat × Nat) × Option (Nat × Nat)
abbrev MsgG := MsgT × Gs
def mgL (m : MsgG) : List Value := rekL (m.1.1.ep + 1) m.2.1 m.2.2.1 m.2.2.2 (leftL m.1.1.rs m.1.2.1).length (joinedL m.1.1.rs m.1.2.1 m.1.2.2).length (itemsN m.1.1 m.1.2.1 m.1.2.2).length
def mgH (m : MsgG) : Heap := [ownT m.2.1 (leftL m.1.1.rs m.1.2.1), ownT m.2.2.1 (joinedL m.1.1.rs m.1.2.1 m.1.2.2), ownIt m.2.2.2 (itemsN m.1.1 m.1.2.1 m.1.2.2)]
theorem mgL_length (m : MsgG) : (mgL m).length = 4 := rfl
/-- What a message's lists own, the newest first. -/
def tailH (ms : List MsgG) : Heap := ms.reverse.flatMap mgH
theorem tailH_snoc (ms : List MsgG) (m : MsgG) : tailH (ms ++ [m]) = mgH m ++ tailH ms := by unfold tailH; simp
structure GsOk (m : MsgG) : Prop where
  left : m.2.1 = none ↔ leftL m.1.1.rs m.1.2.1 = []
  joined : m.2.2.1 = none ↔ joinedL m.1.1.rs m.1.2.1 m.1.2.2 = []
  items : m.2.2.2 = none ↔ itemsN m.1.1 m.1.2.1 m.1.2.2 = []
abbrev BatI := List Int × List Int × BatS
def batI (x : BatI) : List Int × List Int := (x.1, x.2.1)
def batF (x : BatI) : List Value := batL x.1 x.2.1 x.2.2
theorem batF_length (x : BatI) : (batF x).length = 2 := rfl
structure ScrF (F : Mem) (oa : Option Addr) (sc : List BatI) : Prop where
  sl : SlF F 2 oa sc.length (sc.flatMap batF)
  bat : ∀ x ∈ sc, BatF F x.1 x.2.1 x.2.2
  n : sc.length ≤ 140737488355328
theorem ScrF.ext {F F' : Mem} {B : Heap} {oa : Option Addr} {sc : List BatI} (h : ScrF F oa sc) (he : Ext F B F') : ScrF F' oa sc := ⟨h.sl.ext he.F, fun x hx => (h.bat x hx).ext he, h.n⟩
/-- The row of trees, owned; the messages, owned. -/
abbrev ownR (g : Nat × Nat) (row : List TreeS) : HObj := .own (svOf (some g) row.length) row.length 62 236 (row.flatMap treeF)
abbrev ownM (g : Option (Nat × Nat)) (ms : List MsgG) : HObj := .own (svOf g ms.length) ms.length 31 4 (ms.flatMap mgL)
structure StepsI (sc : List BatI) (row : List TreeS) (ms : List MsgG) (gm : Option (Nat × Nat)) : Prop where
  hrow : row.map (·.1) = (runF (sc.map batI)).1
  hms : ms.map Prod.fst = (runF (sc.map batI)).2
  gs : ∀ m ∈ ms, GsOk m
  gm : gm = none ↔ ms = []
theorem StepsI.ok {sc : List BatI} {row : List TreeS} {ms : List MsgG} {gm : Option (Nat × Nat)} (h : StepsI sc row ms gm) : RowOk row := .of_run (runF_ok _) h.hrow
theorem StepsI.len {sc : List BatI} {row : List TreeS} {ms : List MsgG} {gm : Option (Nat × Nat)} (h : StepsI sc row ms gm) : row.length = ms.length + 1 ∧ row.length ≤ 201 := by
  have h1 := (runF_ok (sc.map batI)).len
  rw [← h.hrow, ← h.hms, List.length_map, List.length_map] at h1
  exact ⟨h1, h.ok.len.2⟩
theorem StepsI.nil {s : TreeS} (h : s.1 = startT) : StepsI [] [s] [] none := ⟨by simp [runF, h], rfl, by simp, by simp⟩
theorem StepsI.step {sc : List BatI} {i : Nat} {row : List TreeS} {ms : List MsgG} {gm : Option (Nat × Nat)} (hi : i < sc.length) (h : StepsI (sc.take i) row ms gm) (ts : TreeS) (hts : row[row.length - 1]? = some ts) :
    (stepE ts.1 sc[i].1 sc[i].2.1 = 0 → ∀ (u : TreeS) (gs : Gs) (g : Nat × Nat), u.1 = nextT ts.1 sc[i].1 sc[i].2.1 → GsOk ((ts.1, sc[i].1, sc[i].2.1), gs) → StepsI (sc.take (i + 1)) (row ++ [u]) (ms ++ [((ts.1, sc[i].1, sc[i].2.1), gs)]) (some g)) ∧
    (stepE ts.1 sc[i].1 sc[i].2.1 ≠ 0 → StepsI (sc.take (i + 1)) row ms gm) := by
  have hl : (runF ((sc.take i).map batI)).1.getLast? = some ts.1 := by
    rw [← h.hrow, List.getLast?_eq_getElem?, List.getElem?_map, List.length_map, hts]; rfl
  have hi2 : i < (sc.map batI).length := by rw [List.length_map]; exact hi
  have hr : runF ((sc.take (i + 1)).map batI) = stepF (runF ((sc.take i).map batI)) (sc[i].1, sc[i].2.1) := by
    have := runF_snoc hi2
    rw [← List.map_take, ← List.map_take, List.getElem_map] at this; exact this
  unfold stepF at hr
  rw [hl] at hr
  dsimp only at hr
  refine ⟨fun hz u gs g hu hg => ?_, fun hz => ?_⟩
  · rw [if_pos hz] at hr
    refine ⟨by rw [hr, List.map_append, h.hrow]; simp [hu], by rw [hr, List.map_append, h.hms]; rfl, fun m hm => ?_, by simp⟩
    rcases List.mem_append.1 hm with hm | hm
    · exact h.gs m hm
    · simp only [List.mem_singleton] at hm; subst hm; exact hg
  · rw [if_neg hz] at hr
    exact ⟨by rw [hr]; exact h.hrow, by rw [hr]; exact h.hms, h.gs, h.gm⟩
def StepsR (sc : List BatI) (e : Ending) (H : Heap) : Prop := ∃ row ms gr gm, StepsI sc row ms gm ∧ e = .returned (.tuple #[svOf (some gr) row.length, svOf gm ms.length, .bool true]) ∧ H = ownR gr row :: ownM gm ms :: tailH ms
theorem lives_row : (runF [([], [1, 2])]).1.length = 2 := by decide +kernel
theorem lives_items : (runF [([], [1, 2])]).2.map (fun m => (itemsN m.1 m.2.1 m.2.2).length) = [6] := by decide +kernel
end Go.Proofs.YtlfmckjehjedpaaGreatDoor

/- A script is played. -/
namespace Go.Proofs.YtlfmckjehjedpaaGreatDoor
set_option linter.unusedVariables false
set_option linter.unusedSimpArgs false
set_option maxRecDepth 100000
open SL Go.RowKit Go.Maps
theorem Sub.selX {A B X : Heap} (is : List Nat) (h : SL.sel is A = some B) : SL.Sub (A ++ X) (B ++ X) := by
  unfold SL.sel at h
  obtain ⟨⟨ys, l'⟩, h1, rfl⟩ := Option.map_eq_some_iff.1 h
  have := pulls_perm h1
  rw [List.filterMap_map] at this
  have h2 : List.filterMap (id ∘ some) A = A := by simp
  rw [h2] at this
  refine SL.Sub.of_perm (X := l'.filterMap id) ((this.append_right X).trans ?_)
  rw [← List.append_assoc]
  exact List.perm_append_comm.append_right X
theorem lit_one {sz : Nat} {cs : List Value} (h : cs.length = sz) : litCells sz [(0, .agg cs.toArray)] 0 = some cs := by
  subst h; simp [litCells, Value.cells]
theorem row_own {C : Ctx} {H : Heap} {b : Nat} {l : List Value} {T : TypeId} {fr : Nat × Nat} [hf : Find H b l T fr] : Row C H ⟨b, 0, none⟩ l := by
  have h := Row.cells (C := C) (H := H) (b := b) (o := 0) (l := l) l.length
  rwa [List.drop_zero, List.take_of_length_le (Nat.le_refl _)] at h
abbrev stT : SL.Late.Tree.Tr := (.q 0 (.q 1 (.q 2 (.q 3 (.q 4 (.q 5 (.q 6 (.b 7 (.q 8 (.q 9 (.q 10 (.q 11 (.b 12 (.b 13 (.b 14 (.b 15 (.q 16 .done) .nil) .nil) .nil) (.b 13 (.b 12 (.b 14 (.b 15 (.q 16 .done) .nil) .nil) .nil) .nil)))))) (.b 12 (.b 7 (.q 8 (.q 9 (.q 10 (.q 11 (.b 13 (.b 14 (.b 15 (.q 16 .done) .nil) .nil) .nil))))) (.b 13 (.b 7 (.q 8 (.q 9 (.q 10 (.q 11 (.b 14 (.b 15 (.q 16 .done) .nil) .nil))))) .nil) .nil)) (.b 13 (.b 7 (.q 8 (.q 9 (.q 10 (.q 11 (.b 12 (.b 14 (.b 15 (.q 16 .done) .nil) .nil) .nil))))) (.b 12 (.b 7 (.q 8 (.q 9 (.q 10 (.q 11 (.b 14 (.b 15 (.q 16 .done) .nil) .nil))))) .nil) .nil)) .nil))))))))))
theorem own_row (row : List TreeS) (u : TreeS) {NT : List Value} (h : treeF u = NT) (gb gc : Nat) :
    svOf (some (gb, gc)) (row ++ [u]).length = .slice (some ⟨gb, 0, none⟩) (row.length + 1) gc ∧ ownR (gb, gc) (row ++ [u]) = .own (.slice (some ⟨gb, 0, none⟩) (row.length + 1) gc) (row.length + 1) 62 236 (row.flatMap treeF ++ NT) := by
  have e : (row ++ [u]).length = row.length + 1 := by simp
  have e2 : (row ++ [u]).flatMap treeF = row.flatMap treeF ++ NT := by rw [List.flatMap_append, ← h]; simp
  constructor
  · rw [e]
  · unfold ownR; rw [e, e2]
theorem own_msg (ms : List MsgG) (m : MsgG) {c : List Value} (h : mgL m = c) (gb gc : Nat) :
    svOf (some (gb, gc)) (ms ++ [m]).length = .slice (some ⟨gb, 0, none⟩) (ms.length + 1) gc ∧ ownM (some (gb, gc)) (ms ++ [m]) = .own (.slice (some ⟨gb, 0, none⟩) (ms.length + 1) gc) (ms.length + 1) 31 4 (ms.flatMap mgL ++ c) := by
  have e : (ms ++ [m]).length = ms.length + 1 := by simp
  have e2 : (ms ++ [m]).flatMap mgL = ms.flatMap mgL ++ c := by rw [List.flatMap_append, ← h]; simp
  constructor
  · rw [e]
  · unfold ownM; rw [e, e2]
/-- A step that is taken, what it gives made opaque. -/
theorem next_yes (t : TreeI) (T : TreeOk t) (L J : List Int) (s0 : BatS) (hz : stepE t L J = 0) : ∃ (u : TreeS) (NT : List Value) (ep : Int) (l1 l2 : List (Int × Int)) (l3 : List Item), u.1 = nextT t L J ∧ treeF u = NT ∧ NT.length = 236 ∧ NT.all Value.oneCell' = true ∧
    (∀ g1 g2 g3, mgL ((t, L, J), (g1, g2, g3)) = [.int .i64 ep, svOf g1 l1.length, svOf g2 l2.length, svOf g3 l3.length] ∧ mgH ((t, L, J), (g1, g2, g3)) = [ownT g1 l1, ownT g2 l2, ownIt g3 l3]) ∧
    ∀ F', TabA F' → BatF F' L J s0 → FT Tryz.prog 10 [.agg (treeL t).toArray, .agg (batL L J s0).toArray].toArray F' [] (fun e H => ∃ g1 g2 g3, GsOk ((t, L, J), (g1, g2, g3)) ∧
      e = .returned (.tuple #[.agg NT.toArray, .agg #[.int .i64 ep, svOf g1 l1.length, svOf g2 l2.length, svOf g3 l3.length], .int .i64 0]) ∧ H = [ownT g1 l1, ownT g2 l2, ownIt g3 l3]) := by
  obtain ⟨h1, h2⟩ := stepE_zero.1 hz
  have T2 := nextT_ok T h1 h2
  refine ⟨⟨nextT t L J, T2.shaped⟩, treeL (nextT t L J), t.ep + 1, leftL t.rs L, joinedL t.rs L J, itemsN t L J, rfl, rfl, treeL_length T2.shaped, treeL_all _, fun _ _ _ => ⟨rfl, rfl⟩, fun F' ht hb => ?_⟩
  refine (next_ok12 F' ht t T L J s0 hb).mono fun e H h => ?_
  rcases h with ⟨_, g1, g2, g3, k1, k2, k3, rfl, rfl⟩ | ⟨hx, _⟩
  · exact ⟨g1, g2, g3, ⟨k1, k2, k3⟩, rfl, rfl⟩
  · exact absurd hz hx
theorem next_no (t : TreeI) (T : TreeOk t) (L J : List Int) (s0 : BatS) (hz : stepE t L J ≠ 0) : ∃ (ZT : List Value) (er : Int), er ≠ 0 ∧ ZT.length = 236 ∧ ZT.all Value.oneCell' = true ∧
    ∀ F', TabA F' → BatF F' L J s0 → FT Tryz.prog 10 [.agg (treeL t).toArray, .agg (batL L J s0).toArray].toArray F' [] (fun e H => e = .returned (.tuple #[.agg ZT.toArray, .agg rk0.toArray, .int .i64 er]) ∧ H = []) := by
  refine ⟨treeL zeroT, stepE t L J, hz, treeL_length ⟨by decide, by decide⟩, treeL_all _, fun F' ht hb => ?_⟩
  refine (next_ok12 F' ht t T L J s0 hb).mono fun e H h => ?_
  rcases h with ⟨hx, _⟩ | ⟨_, rfl, rfl⟩
  · exact absurd hx hz
  · exact ⟨rfl, rfl⟩
set_option maxHeartbeats 8000000 in
theorem steps_ok (F : Mem) (htab : TabA F) (oa : Option Addr) (ca : Nat) (sc : List BatI) (hS : ScrF F oa sc) :
    FT Tryz.prog 5 [.slice oa sc.length ca].toArray F [] (StepsR sc) := by
  have hex : ∃ (ts0 : TreeS) (TF : List Value), StepsI [] [ts0] [] none ∧ treeF ts0 = TF ∧ TF.length = 236 ∧ ∀ F', FT Tryz.prog 9 [].toArray F' [] (Ret (.agg TF.toArray)) :=
    ⟨⟨startT, startT_ok.shaped⟩, treeL startT, .nil rfl, rfl, treeL_length startT_ok.shaped, rstart_ok⟩
  obtain ⟨ts0, TF, hnil, hTF, hsl, hst⟩ := hex
  have hone : [ts0].flatMap treeF = TF := by simp [hTF]
  have hsn := hS.n
  refine FT.of_body Tryz.func5 rfl Tryz.ntmps5 (by simp) fun C hC => ?_
  subst hC
  conv => whnf
  refine CallS.mk Tryz.call9 ⟨[], _, _, Sub.refl _, fun F' hF' => hst F', ?_⟩
  rintro e A' ⟨rfl, rfl⟩
  conv => whnf
  generalize hD : litCells _ _ _ = D
  obtain rfl : D = some TF := hD.symm.trans (lit_one hsl)
  conv => whnf
  show forceL TF _
  rw [forceL_eq]
  intro bl
  conv => whnf
  have hsub : Sub [.cells bl TF 62 (0, 0)] (ownR (bl, 1) [ts0] :: ownM none [] :: tailH []) := by
    unfold ownR
    rw [hone]
    exact (Sub.own (n := 1) hsl (by decide)).trans (Sub.trans (Sub.nil 31 4) (Sub.sel [1, 0] rfl))
  refine LoopI.by_state (σ := Nat × List TreeS × List MsgG × (Nat × Nat) × Option (Nat × Nat)) (fun s => [(5, svOf (some s.2.2.2.1) s.2.1.length), (6, svOf s.2.2.2.2 s.2.2.1.length), (14, .slice oa sc.length ca), (15, .int .i64 (sc.length : Int)), (16, .int .i64 (s.1 : Int))])
    (fun s => ownR s.2.2.2.1 s.2.1 :: ownM s.2.2.2.2 s.2.2.1 :: tailH s.2.2.1) (fun s => s.1 ≤ sc.length ∧ StepsI (sc.take s.1) s.2.1 s.2.2.1 s.2.2.2.2) (fun s => sc.length - s.1)
    (0, [ts0], [], (bl, 1), none) ⟨Nat.zero_le _, hnil⟩ ⟨rfl, rfl, rfl, rfl, rfl, trivial⟩ hsub ?_
  rintro ⟨i, row, ms, ⟨gb0, gc0⟩, gm⟩ f0 ⟨hi, hI⟩
  dsimp only at hi hI ⊢
  have hR := hI.ok
  obtain ⟨hl1, hl2⟩ := hI.len
  generalize htl : tailH ms = X
  conv => whnf
  refine cond_dec (fun h => ?_) (fun h => ?_)
  · have hil : i < sc.length := by omega
    have hy := hS.sl.at hil
    obtain ⟨yb, yo, rfl, hrow2⟩ := hy
    have hrd := flat_row batF_length hrow2 hil rfl
    have hb := hS.bat _ (List.getElem_mem hil)
    have hlast : row[row.length - 1]? = some (row[row.length - 1]'(by omega)) := List.getElem?_eq_getElem (by omega)
    obtain ⟨hyes, hno⟩ := hI.step hil _ hlast
    have hT := (hR.tree _ _ hlast).1
    have hpart := flat_drop treeF_length row (row.length - 1) (by omega)
    generalize row[row.length - 1]'(by omega) = ts at hlast hyes hno hT hpart
    generalize sc[i] = x at hrd hb hyes hno
    obtain ⟨L, J, s0⟩ := x
    dsimp only at hb hyes hno
    rw [show batF (L, J, s0) = batL L J s0 from rfl] at hrd
    conv => whnf
    refine ⟨by omega, ?_⟩
    conv => whnf
    refine LoadV.fa hrd rfl ?_
    conv => whnf
    intro b8
    conv => whnf
    refine StoreV.c rfl rfl (Nat.le_of_ble_eq_true rfl) rfl ?_
    rcases Decidable.em (stepE ts.1 L J = 0) with hz | hz
    · obtain ⟨u, NT, ep, l1, l2, l3, hu, hNT, hNl, hNa, hmg, hN⟩ := next_yes ts.1 hT L J s0 hz
      refine SL.Late.Tree.drawTC stT [7, 12, 13, 14, 15] [] [] [_, _] [] (fun y : Nat × Nat × Gs => [(5, svOf (some (gb0, gc0)) row.length), (6, svOf gm ms.length), (9, .pointer (some ⟨y.1, 0, none⟩)), (10, .pointer (some ⟨y.2.1, 0, none⟩)), (11, .int .i64 0), (14, .slice (some ⟨yb, yo, none⟩) sc.length ca), (15, .int .i64 (sc.length : Int)), (16, .int .i64 (i : Int))])
        (fun y => ownT y.2.2.1 l1 :: ownT y.2.2.2.1 l2 :: ownIt y.2.2.2.2 l3 :: .cells y.2.1 [.int .i64 ep, svOf y.2.2.1 l1.length, svOf y.2.2.2.1 l2.length, svOf y.2.2.2.2 l3.length] 31 (0, 0) :: .cells y.1 NT 62 (0, 0) :: ownR (gb0, gc0) row :: ownM gm ms :: X) (fun y => GsOk ((ts.1, L, J), y.2.2))
        (by kernel_rfl) (by kernel_rfl) (by kernel_rfl) (by kernel_rfl) (by kernel_rfl) (by kernel_rfl) (by kernel_rfl) (by kernel_rfl) (by kernel_rfl) (Sub.sel [1, 0] rfl) (Sub.sel [] rfl) ?_ ?_
      · conv => whnf
        refine ArI.to64 ((row.length - 1 : Nat) : Int) (by omega) (by omega) ?_
        conv => whnf
        refine ⟨by omega, ?_⟩
        conv => whnf
        refine LoadV.eq (b := gb0) (o := 0 + (row.length - 1) * 236) (by exact congrArg (fun o => (⟨gb0, o, none⟩ : Addr)) (elem_off2 (o := 0) (n := 236) (by kernel_rfl) rfl)) ?_
        refine LoadV.op 236 (treeF ts) rfl (treeF_length ts) (by rw [Nat.zero_add]; exact hpart) ?_
        conv => whnf
        refine LoadV.p 2 (batL L J s0) rfl rfl (Nat.le_of_ble_eq_true rfl) rfl ?_
        conv => whnf
        refine ⟨?_, ?_, ?_, trivial⟩
        · refine CallS.mk Tryz.call10 ⟨[], _, _, Sub.refl _, fun F' hF' => hN F' (htab.ext hF') (hb.ext hF'), ?_⟩
          rintro e A' ⟨g1, g2, g3, hgs, rfl, rfl⟩
          conv => whnf
          try (show forceH X _; rw [forceH_eq]; conv => whnf)
          refine ⟨⟨Sub.sel [4, 3] rfl, fun _ => Sub.sel [] rfl⟩, ?_⟩
          conv => whnf
          refine ⟨?_, ?_, trivial⟩
          · intro b9
            conv => whnf
            try (show forceH X _; rw [forceH_eq]; conv => whnf)
            refine ⟨⟨Sub.sel [5, 4] rfl, fun _ => Sub.sel [] rfl⟩, ?_⟩
            conv => whnf
            refine ⟨?_, trivial⟩
            intro b10
            conv => whnf
            try (show forceH X _; rw [forceH_eq]; conv => whnf)
            refine ⟨⟨Sub.sel [6, 5] rfl, fun _ => Sub.sel [] rfl⟩, ?_⟩
            conv => whnf
            refine ⟨?_, trivial⟩
            refine StoreV.p 236 NT NT rfl hNl rfl (Nat.le_of_ble_eq_true rfl) hNa (by exact putAt_all (by rw [hNl]; rfl)) ?_
            conv => whnf
            try (show forceH X _; rw [forceH_eq]; conv => whnf)
            refine ⟨⟨Sub.sel [6, 5] rfl, fun _ => Sub.sel [] rfl⟩, ?_⟩
            conv => whnf
            refine ⟨?_, trivial⟩
            refine StoreV.c rfl rfl (Nat.le_of_ble_eq_true rfl) rfl ?_
            conv => whnf
            try (show forceH X _; rw [forceH_eq]; conv => whnf)
            refine ⟨⟨Sub.sel [6, 5] rfl, fun _ => Sub.sel [] rfl⟩, ?_⟩
            conv => whnf
            exact ⟨(b9, b10, (g1, g2, g3)), hgs, ⟨rfl, rfl, rfl, rfl, rfl, rfl, rfl, rfl, trivial⟩, Sub.selX (A := [_, _, _, _, _, _, _, _]) [2, 3, 4, 0, 1, 6, 7] rfl⟩
          · intro b10
            conv => whnf
            try (show forceH X _; rw [forceH_eq]; conv => whnf)
            refine ⟨⟨Sub.sel [5, 4] rfl, fun _ => Sub.sel [] rfl⟩, ?_⟩
            conv => whnf
            refine ⟨?_, trivial⟩
            intro b9
            conv => whnf
            try (show forceH X _; rw [forceH_eq]; conv => whnf)
            refine ⟨⟨Sub.sel [6, 5] rfl, fun _ => Sub.sel [] rfl⟩, ?_⟩
            conv => whnf
            refine ⟨?_, trivial⟩
            refine StoreV.p 236 NT NT rfl hNl rfl (Nat.le_of_ble_eq_true rfl) hNa (by exact putAt_all (by rw [hNl]; rfl)) ?_
            conv => whnf
            try (show forceH X _; rw [forceH_eq]; conv => whnf)
            refine ⟨⟨Sub.sel [6, 5] rfl, fun _ => Sub.sel [] rfl⟩, ?_⟩
            conv => whnf
            refine ⟨?_, trivial⟩
            refine StoreV.c rfl rfl (Nat.le_of_ble_eq_true rfl) rfl ?_
            conv => whnf
            try (show forceH X _; rw [forceH_eq]; conv => whnf)
            refine ⟨⟨Sub.sel [6, 5] rfl, fun _ => Sub.sel [] rfl⟩, ?_⟩
            conv => whnf
            exact ⟨(b9, b10, (g1, g2, g3)), hgs, ⟨rfl, rfl, rfl, rfl, rfl, rfl, rfl, rfl, trivial⟩, Sub.selX (A := [_, _, _, _, _, _, _, _]) [2, 3, 4, 1, 0, 6, 7] rfl⟩
        · intro b9
          conv => whnf
          try (show forceH X _; rw [forceH_eq]; conv => whnf)
          refine ⟨⟨Sub.sel [2, 1] rfl, fun _ => Sub.sel [] rfl⟩, ?_⟩
          conv => whnf
          refine ⟨?_, ?_, trivial⟩
          · refine CallS.mk Tryz.call10 ⟨[], _, _, Sub.refl _, fun F' hF' => hN F' (htab.ext hF') (hb.ext hF'), ?_⟩
            rintro e A' ⟨g1, g2, g3, hgs, rfl, rfl⟩
            conv => whnf
            try (show forceH X _; rw [forceH_eq]; conv => whnf)
            refine ⟨⟨Sub.sel [5, 4] rfl, fun _ => Sub.sel [] rfl⟩, ?_⟩
            conv => whnf
            refine ⟨?_, trivial⟩
            intro b10
            conv => whnf
            try (show forceH X _; rw [forceH_eq]; conv => whnf)
            refine ⟨⟨Sub.sel [6, 5] rfl, fun _ => Sub.sel [] rfl⟩, ?_⟩
            conv => whnf
            refine ⟨?_, trivial⟩
            refine StoreV.p 236 NT NT rfl hNl rfl (Nat.le_of_ble_eq_true rfl) hNa (by exact putAt_all (by rw [hNl]; rfl)) ?_
            conv => whnf
            try (show forceH X _; rw [forceH_eq]; conv => whnf)
            refine ⟨⟨Sub.sel [6, 5] rfl, fun _ => Sub.sel [] rfl⟩, ?_⟩
            conv => whnf
            refine ⟨?_, trivial⟩
            refine StoreV.c rfl rfl (Nat.le_of_ble_eq_true rfl) rfl ?_
            conv => whnf
            try (show forceH X _; rw [forceH_eq]; conv => whnf)
            refine ⟨⟨Sub.sel [6, 5] rfl, fun _ => Sub.sel [] rfl⟩, ?_⟩
            conv => whnf
            exact ⟨(b9, b10, (g1, g2, g3)), hgs, ⟨rfl, rfl, rfl, rfl, rfl, rfl, rfl, rfl, trivial⟩, Sub.selX (A := [_, _, _, _, _, _, _, _]) [1, 2, 3, 0, 4, 6, 7] rfl⟩
          · intro b10
            conv => whnf
            try (show forceH X _; rw [forceH_eq]; conv => whnf)
            refine ⟨⟨Sub.sel [3, 2] rfl, fun _ => Sub.sel [] rfl⟩, ?_⟩
            conv => whnf
            refine ⟨?_, trivial⟩
            refine CallS.mk Tryz.call10 ⟨[], _, _, Sub.refl _, fun F' hF' => hN F' (htab.ext hF') (hb.ext hF'), ?_⟩
            rintro e A' ⟨g1, g2, g3, hgs, rfl, rfl⟩
            conv => whnf
            try (show forceH X _; rw [forceH_eq]; conv => whnf)
            refine ⟨⟨Sub.sel [6, 5] rfl, fun _ => Sub.sel [] rfl⟩, ?_⟩
            conv => whnf
            refine ⟨?_, trivial⟩
            refine StoreV.p 236 NT NT rfl hNl rfl (Nat.le_of_ble_eq_true rfl) hNa (by exact putAt_all (by rw [hNl]; rfl)) ?_
            conv => whnf
            try (show forceH X _; rw [forceH_eq]; conv => whnf)
            refine ⟨⟨Sub.sel [6, 5] rfl, fun _ => Sub.sel [] rfl⟩, ?_⟩
            conv => whnf
            refine ⟨?_, trivial⟩
            refine StoreV.c rfl rfl (Nat.le_of_ble_eq_true rfl) rfl ?_
            conv => whnf
            try (show forceH X _; rw [forceH_eq]; conv => whnf)
            refine ⟨⟨Sub.sel [6, 5] rfl, fun _ => Sub.sel [] rfl⟩, ?_⟩
            conv => whnf
            exact ⟨(b9, b10, (g1, g2, g3)), hgs, ⟨rfl, rfl, rfl, rfl, rfl, rfl, rfl, rfl, trivial⟩, Sub.selX (A := [_, _, _, _, _, _, _, _]) [0, 1, 2, 3, 4, 6, 7] rfl⟩
        · intro b10
          conv => whnf
          try (show forceH X _; rw [forceH_eq]; conv => whnf)
          refine ⟨⟨Sub.sel [2, 1] rfl, fun _ => Sub.sel [] rfl⟩, ?_⟩
          conv => whnf
          refine ⟨?_, ?_, trivial⟩
          · refine CallS.mk Tryz.call10 ⟨[], _, _, Sub.refl _, fun F' hF' => hN F' (htab.ext hF') (hb.ext hF'), ?_⟩
            rintro e A' ⟨g1, g2, g3, hgs, rfl, rfl⟩
            conv => whnf
            try (show forceH X _; rw [forceH_eq]; conv => whnf)
            refine ⟨⟨Sub.sel [5, 4] rfl, fun _ => Sub.sel [] rfl⟩, ?_⟩
            conv => whnf
            refine ⟨?_, trivial⟩
            intro b9
            conv => whnf
            try (show forceH X _; rw [forceH_eq]; conv => whnf)
            refine ⟨⟨Sub.sel [6, 5] rfl, fun _ => Sub.sel [] rfl⟩, ?_⟩
            conv => whnf
            refine ⟨?_, trivial⟩
            refine StoreV.p 236 NT NT rfl hNl rfl (Nat.le_of_ble_eq_true rfl) hNa (by exact putAt_all (by rw [hNl]; rfl)) ?_
            conv => whnf
            try (show forceH X _; rw [forceH_eq]; conv => whnf)
            refine ⟨⟨Sub.sel [6, 5] rfl, fun _ => Sub.sel [] rfl⟩, ?_⟩
            conv => whnf
            refine ⟨?_, trivial⟩
            refine StoreV.c rfl rfl (Nat.le_of_ble_eq_true rfl) rfl ?_
            conv => whnf
            try (show forceH X _; rw [forceH_eq]; conv => whnf)
            refine ⟨⟨Sub.sel [6, 5] rfl, fun _ => Sub.sel [] rfl⟩, ?_⟩
            conv => whnf
            exact ⟨(b9, b10, (g1, g2, g3)), hgs, ⟨rfl, rfl, rfl, rfl, rfl, rfl, rfl, rfl, trivial⟩, Sub.selX (A := [_, _, _, _, _, _, _, _]) [1, 2, 3, 4, 0, 6, 7] rfl⟩
          · intro b9
            conv => whnf
            try (show forceH X _; rw [forceH_eq]; conv => whnf)
            refine ⟨⟨Sub.sel [3, 2] rfl, fun _ => Sub.sel [] rfl⟩, ?_⟩
            conv => whnf
            refine ⟨?_, trivial⟩
            refine CallS.mk Tryz.call10 ⟨[], _, _, Sub.refl _, fun F' hF' => hN F' (htab.ext hF') (hb.ext hF'), ?_⟩
            rintro e A' ⟨g1, g2, g3, hgs, rfl, rfl⟩
            conv => whnf
            try (show forceH X _; rw [forceH_eq]; conv => whnf)
            refine ⟨⟨Sub.sel [6, 5] rfl, fun _ => Sub.sel [] rfl⟩, ?_⟩
            conv => whnf
            refine ⟨?_, trivial⟩
            refine StoreV.p 236 NT NT rfl hNl rfl (Nat.le_of_ble_eq_true rfl) hNa (by exact putAt_all (by rw [hNl]; rfl)) ?_
            conv => whnf
            try (show forceH X _; rw [forceH_eq]; conv => whnf)
            refine ⟨⟨Sub.sel [6, 5] rfl, fun _ => Sub.sel [] rfl⟩, ?_⟩
            conv => whnf
            refine ⟨?_, trivial⟩
            refine StoreV.c rfl rfl (Nat.le_of_ble_eq_true rfl) rfl ?_
            conv => whnf
            try (show forceH X _; rw [forceH_eq]; conv => whnf)
            refine ⟨⟨Sub.sel [6, 5] rfl, fun _ => Sub.sel [] rfl⟩, ?_⟩
            conv => whnf
            exact ⟨(b9, b10, (g1, g2, g3)), hgs, ⟨rfl, rfl, rfl, rfl, rfl, rfl, rfl, rfl, trivial⟩, Sub.selX (A := [_, _, _, _, _, _, _, _]) [0, 1, 2, 4, 3, 6, 7] rfl⟩
      · rintro ⟨b9, b10, g1, g2, g3⟩ f1 hgs
        dsimp only at hgs ⊢
        have hst2 := hyes hz u (g1, g2, g3)
        obtain ⟨hmg1, hmg2⟩ := hmg g1 g2 g3
        conv => whnf
        refine LoadV.p 236 NT rfl hNl (by show 0 + 236 ≤ NT.length; omega) (take_all0 hNl) ?_
        conv => whnf
        generalize hD : litCells _ _ _ = D
        obtain rfl : D = some NT := hD.symm.trans (lit_one hNl)
        clear hD
        conv => whnf
        show forceL NT _
        rw [forceL_eq]
        intro bl2
        conv => whnf
        try (show forceH X _; rw [forceH_eq]; conv => whnf)
        refine BuiltV.append (sv := svOf (some (gb0, gc0)) row.length) (m := 1) Tryz.underlying24 rfl rfl rfl rfl (by decide) row_own hNl (by decide) hNa (by show (row.length + 1) * 1888 ≤ _; omega) (by omega) fun gb gc => ?_
        conv => whnf
        try (show forceH X _; rw [forceH_eq]; conv => whnf)
        refine LoadV.p 4 [.int .i64 ep, svOf g1 l1.length, svOf g2 l2.length, svOf g3 l3.length] rfl rfl (Nat.le_of_ble_eq_true rfl) rfl ?_
        conv => whnf
        intro bl3
        conv => whnf
        try (show forceH X _; rw [forceH_eq]; conv => whnf)
        refine BuiltV.append (sv := svOf gm ms.length) (m := 1) Tryz.underlying25 rfl rfl rfl rfl (by decide) (Row.cells 4) rfl (by decide) rfl (by show (ms.length + 1) * 80 ≤ _; omega) (by omega) fun gb2 gc2 => ?_
        conv => whnf
        try (show forceH X _; rw [forceH_eq]; conv => whnf)
        refine ArI.to64 ((i + 1 : Nat) : Int) (by omega) (by omega) ?_
        conv => whnf
        refine ⟨(i + 1, row ++ [u], ms ++ [((ts.1, L, J), (g1, g2, g3))], (gb, gc), some (gb2, gc2)), _, by dsimp only; omega, Sub.selX (A := [_, _, _, _, _, _, _, _, _]) [7, 8, 2, 3, 4] rfl, ⟨by dsimp only; omega, hst2 (gb2, gc2) hu hgs⟩, ⟨?_, ?_, rfl, rfl, rfl, trivial⟩, ?_⟩
        · dsimp only; rw [(own_row row u hNT gb gc).1]; rfl
        · dsimp only; rw [(own_msg ms _ hmg1 gb2 gc2).1]; rfl
        · dsimp only; rw [(own_row row u hNT gb gc).2, (own_msg ms _ hmg1 gb2 gc2).2, tailH_snoc, hmg2, htl]; rfl
    · obtain ⟨NT, er, her, hNl, hNa, hN⟩ := next_no ts.1 hT L J s0 hz
      have hst2 := hno hz
      rw [show rk0 = [.int .i64 0, .slice none 0 0, .slice none 0 0, .slice none 0 0] from rfl] at hN
      refine SL.Late.Tree.drawTC stT [7, 12, 13, 14, 15] [] [] [_, _] [] (fun y : Nat × Nat => [(5, svOf (some (gb0, gc0)) row.length), (6, svOf gm ms.length), (9, .pointer (some ⟨y.1, 0, none⟩)), (10, .pointer (some ⟨y.2, 0, none⟩)), (11, .int .i64 er), (14, .slice (some ⟨yb, yo, none⟩) sc.length ca), (15, .int .i64 (sc.length : Int)), (16, .int .i64 (i : Int))])
        (fun _ => ownR (gb0, gc0) row :: ownM gm ms :: X) (fun _ => True)
        (by kernel_rfl) (by kernel_rfl) (by kernel_rfl) (by kernel_rfl) (by kernel_rfl) (by kernel_rfl) (by kernel_rfl) (by kernel_rfl) (by kernel_rfl) (Sub.sel [1, 0] rfl) (Sub.sel [] rfl) ?_ ?_
      · conv => whnf
        refine ArI.to64 ((row.length - 1 : Nat) : Int) (by omega) (by omega) ?_
        conv => whnf
        refine ⟨by omega, ?_⟩
        conv => whnf
        refine LoadV.eq (b := gb0) (o := 0 + (row.length - 1) * 236) (by exact congrArg (fun o => (⟨gb0, o, none⟩ : Addr)) (elem_off2 (o := 0) (n := 236) (by kernel_rfl) rfl)) ?_
        refine LoadV.op 236 (treeF ts) rfl (treeF_length ts) (by rw [Nat.zero_add]; exact hpart) ?_
        conv => whnf
        refine LoadV.p 2 (batL L J s0) rfl rfl (Nat.le_of_ble_eq_true rfl) rfl ?_
        conv => whnf
        refine ⟨?_, ?_, ?_, trivial⟩
        · refine CallS.mk Tryz.call10 ⟨[], _, _, Sub.refl _, fun F' hF' => hN F' (htab.ext hF') (hb.ext hF'), ?_⟩
          rintro e A' ⟨rfl, rfl⟩
          conv => whnf
          try (show forceH X _; rw [forceH_eq]; conv => whnf)
          refine ⟨⟨Sub.sel [1, 0] rfl, fun _ => Sub.sel [] rfl⟩, ?_⟩
          conv => whnf
          refine ⟨?_, ?_, trivial⟩
          · intro b9
            conv => whnf
            try (show forceH X _; rw [forceH_eq]; conv => whnf)
            refine ⟨⟨Sub.sel [2, 1] rfl, fun _ => Sub.sel [] rfl⟩, ?_⟩
            conv => whnf
            refine ⟨?_, trivial⟩
            intro b10
            conv => whnf
            try (show forceH X _; rw [forceH_eq]; conv => whnf)
            refine ⟨⟨Sub.sel [3, 2] rfl, fun _ => Sub.sel [] rfl⟩, ?_⟩
            conv => whnf
            refine ⟨?_, trivial⟩
            refine StoreV.p 236 NT NT rfl hNl rfl (Nat.le_of_ble_eq_true rfl) hNa (by exact putAt_all (by rw [hNl]; rfl)) ?_
            conv => whnf
            try (show forceH X _; rw [forceH_eq]; conv => whnf)
            refine ⟨⟨Sub.sel [3, 2] rfl, fun _ => Sub.sel [] rfl⟩, ?_⟩
            conv => whnf
            refine ⟨?_, trivial⟩
            refine StoreV.c rfl rfl (Nat.le_of_ble_eq_true rfl) rfl ?_
            conv => whnf
            try (show forceH X _; rw [forceH_eq]; conv => whnf)
            refine ⟨⟨Sub.sel [3, 2] rfl, fun _ => Sub.sel [] rfl⟩, ?_⟩
            conv => whnf
            exact ⟨(b9, b10), trivial, ⟨rfl, rfl, rfl, rfl, rfl, rfl, rfl, rfl, trivial⟩, Sub.selX (A := [_, _, _, _, _]) [3, 4] rfl⟩
          · intro b10
            conv => whnf
            try (show forceH X _; rw [forceH_eq]; conv => whnf)
            refine ⟨⟨Sub.sel [2, 1] rfl, fun _ => Sub.sel [] rfl⟩, ?_⟩
            conv => whnf
            refine ⟨?_, trivial⟩
            intro b9
            conv => whnf
            try (show forceH X _; rw [forceH_eq]; conv => whnf)
            refine ⟨⟨Sub.sel [3, 2] rfl, fun _ => Sub.sel [] rfl⟩, ?_⟩
            conv => whnf
            refine ⟨?_, trivial⟩
            refine StoreV.p 236 NT NT rfl hNl rfl (Nat.le_of_ble_eq_true rfl) hNa (by exact putAt_all (by rw [hNl]; rfl)) ?_
            conv => whnf
            try (show forceH X _; rw [forceH_eq]; conv => whnf)
            refine ⟨⟨Sub.sel [3, 2] rfl, fun _ => Sub.sel [] rfl⟩, ?_⟩
            conv => whnf
            refine ⟨?_, trivial⟩
            refine StoreV.c rfl rfl (Nat.le_of_ble_eq_true rfl) rfl ?_
            conv => whnf
            try (show forceH X _; rw [forceH_eq]; conv => whnf)
            refine ⟨⟨Sub.sel [3, 2] rfl, fun _ => Sub.sel [] rfl⟩, ?_⟩
            conv => whnf
            exact ⟨(b9, b10), trivial, ⟨rfl, rfl, rfl, rfl, rfl, rfl, rfl, rfl, trivial⟩, Sub.selX (A := [_, _, _, _, _]) [3, 4] rfl⟩
        · intro b9
          conv => whnf
          try (show forceH X _; rw [forceH_eq]; conv => whnf)
          refine ⟨⟨Sub.sel [2, 1] rfl, fun _ => Sub.sel [] rfl⟩, ?_⟩
          conv => whnf
          refine ⟨?_, ?_, trivial⟩
          · refine CallS.mk Tryz.call10 ⟨[], _, _, Sub.refl _, fun F' hF' => hN F' (htab.ext hF') (hb.ext hF'), ?_⟩
            rintro e A' ⟨rfl, rfl⟩
            conv => whnf
            try (show forceH X _; rw [forceH_eq]; conv => whnf)
            refine ⟨⟨Sub.sel [2, 1] rfl, fun _ => Sub.sel [] rfl⟩, ?_⟩
            conv => whnf
            refine ⟨?_, trivial⟩
            intro b10
            conv => whnf
            try (show forceH X _; rw [forceH_eq]; conv => whnf)
            refine ⟨⟨Sub.sel [3, 2] rfl, fun _ => Sub.sel [] rfl⟩, ?_⟩
            conv => whnf
            refine ⟨?_, trivial⟩
            refine StoreV.p 236 NT NT rfl hNl rfl (Nat.le_of_ble_eq_true rfl) hNa (by exact putAt_all (by rw [hNl]; rfl)) ?_
            conv => whnf
            try (show forceH X _; rw [forceH_eq]; conv => whnf)
            refine ⟨⟨Sub.sel [3, 2] rfl, fun _ => Sub.sel [] rfl⟩, ?_⟩
            conv => whnf
            refine ⟨?_, trivial⟩
            refine StoreV.c rfl rfl (Nat.le_of_ble_eq_true rfl) rfl ?_
            conv => whnf
            try (show forceH X _; rw [forceH_eq]; conv => whnf)
            refine ⟨⟨Sub.sel [3, 2] rfl, fun _ => Sub.sel [] rfl⟩, ?_⟩
            conv => whnf
            exact ⟨(b9, b10), trivial, ⟨rfl, rfl, rfl, rfl, rfl, rfl, rfl, rfl, trivial⟩, Sub.selX (A := [_, _, _, _, _]) [3, 4] rfl⟩
          · intro b10
            conv => whnf
            try (show forceH X _; rw [forceH_eq]; conv => whnf)
            refine ⟨⟨Sub.sel [3, 2] rfl, fun _ => Sub.sel [] rfl⟩, ?_⟩
            conv => whnf
            refine ⟨?_, trivial⟩
            refine CallS.mk Tryz.call10 ⟨[], _, _, Sub.refl _, fun F' hF' => hN F' (htab.ext hF') (hb.ext hF'), ?_⟩
            rintro e A' ⟨rfl, rfl⟩
            conv => whnf
            try (show forceH X _; rw [forceH_eq]; conv => whnf)
            refine ⟨⟨Sub.sel [3, 2] rfl, fun _ => Sub.sel [] rfl⟩, ?_⟩
            conv => whnf
            refine ⟨?_, trivial⟩
            refine StoreV.p 236 NT NT rfl hNl rfl (Nat.le_of_ble_eq_true rfl) hNa (by exact putAt_all (by rw [hNl]; rfl)) ?_
            conv => whnf
            try (show forceH X _; rw [forceH_eq]; conv => whnf)
            refine ⟨⟨Sub.sel [3, 2] rfl, fun _ => Sub.sel [] rfl⟩, ?_⟩
            conv => whnf
            refine ⟨?_, trivial⟩
            refine StoreV.c rfl rfl (Nat.le_of_ble_eq_true rfl) rfl ?_
            conv => whnf
            try (show forceH X _; rw [forceH_eq]; conv => whnf)
            refine ⟨⟨Sub.sel [3, 2] rfl, fun _ => Sub.sel [] rfl⟩, ?_⟩
            conv => whnf
            exact ⟨(b9, b10), trivial, ⟨rfl, rfl, rfl, rfl, rfl, rfl, rfl, rfl, trivial⟩, Sub.selX (A := [_, _, _, _, _]) [3, 4] rfl⟩
        · intro b10
          conv => whnf
          try (show forceH X _; rw [forceH_eq]; conv => whnf)
          refine ⟨⟨Sub.sel [2, 1] rfl, fun _ => Sub.sel [] rfl⟩, ?_⟩
          conv => whnf
          refine ⟨?_, ?_, trivial⟩
          · refine CallS.mk Tryz.call10 ⟨[], _, _, Sub.refl _, fun F' hF' => hN F' (htab.ext hF') (hb.ext hF'), ?_⟩
            rintro e A' ⟨rfl, rfl⟩
            conv => whnf
            try (show forceH X _; rw [forceH_eq]; conv => whnf)
            refine ⟨⟨Sub.sel [2, 1] rfl, fun _ => Sub.sel [] rfl⟩, ?_⟩
            conv => whnf
            refine ⟨?_, trivial⟩
            intro b9
            conv => whnf
            try (show forceH X _; rw [forceH_eq]; conv => whnf)
            refine ⟨⟨Sub.sel [3, 2] rfl, fun _ => Sub.sel [] rfl⟩, ?_⟩
            conv => whnf
            refine ⟨?_, trivial⟩
            refine StoreV.p 236 NT NT rfl hNl rfl (Nat.le_of_ble_eq_true rfl) hNa (by exact putAt_all (by rw [hNl]; rfl)) ?_
            conv => whnf
            try (show forceH X _; rw [forceH_eq]; conv => whnf)
            refine ⟨⟨Sub.sel [3, 2] rfl, fun _ => Sub.sel [] rfl⟩, ?_⟩
            conv => whnf
            refine ⟨?_, trivial⟩
            refine StoreV.c rfl rfl (Nat.le_of_ble_eq_true rfl) rfl ?_
            conv => whnf
            try (show forceH X _; rw [forceH_eq]; conv => whnf)
            refine ⟨⟨Sub.sel [3, 2] rfl, fun _ => Sub.sel [] rfl⟩, ?_⟩
            conv => whnf
            exact ⟨(b9, b10), trivial, ⟨rfl, rfl, rfl, rfl, rfl, rfl, rfl, rfl, trivial⟩, Sub.selX (A := [_, _, _, _, _]) [3, 4] rfl⟩
          · intro b9
            conv => whnf
            try (show forceH X _; rw [forceH_eq]; conv => whnf)
            refine ⟨⟨Sub.sel [3, 2] rfl, fun _ => Sub.sel [] rfl⟩, ?_⟩
            conv => whnf
            refine ⟨?_, trivial⟩
            refine CallS.mk Tryz.call10 ⟨[], _, _, Sub.refl _, fun F' hF' => hN F' (htab.ext hF') (hb.ext hF'), ?_⟩
            rintro e A' ⟨rfl, rfl⟩
            conv => whnf
            try (show forceH X _; rw [forceH_eq]; conv => whnf)
            refine ⟨⟨Sub.sel [3, 2] rfl, fun _ => Sub.sel [] rfl⟩, ?_⟩
            conv => whnf
            refine ⟨?_, trivial⟩
            refine StoreV.p 236 NT NT rfl hNl rfl (Nat.le_of_ble_eq_true rfl) hNa (by exact putAt_all (by rw [hNl]; rfl)) ?_
            conv => whnf
            try (show forceH X _; rw [forceH_eq]; conv => whnf)
            refine ⟨⟨Sub.sel [3, 2] rfl, fun _ => Sub.sel [] rfl⟩, ?_⟩
            conv => whnf
            refine ⟨?_, trivial⟩
            refine StoreV.c rfl rfl (Nat.le_of_ble_eq_true rfl) rfl ?_
            conv => whnf
            try (show forceH X _; rw [forceH_eq]; conv => whnf)
            refine ⟨⟨Sub.sel [3, 2] rfl, fun _ => Sub.sel [] rfl⟩, ?_⟩
            conv => whnf
            exact ⟨(b9, b10), trivial, ⟨rfl, rfl, rfl, rfl, rfl, rfl, rfl, rfl, trivial⟩, Sub.selX (A := [_, _, _, _, _]) [3, 4] rfl⟩
      · rintro ⟨b9, b10⟩ f1 -
        dsimp only
        have hne : (er != 0) = true := bne_iff_ne.2 her
        conv => whnf
        rw [hne]
        conv => whnf
        refine ArI.to64 ((i + 1 : Nat) : Int) (by omega) (by omega) ?_
        conv => whnf
        exact ⟨(i + 1, row, ms, (gb0, gc0), gm), _, by dsimp only; omega, Sub.refl _, ⟨by dsimp only; omega, hst2⟩, ⟨rfl, rfl, rfl, rfl, rfl, trivial⟩, by dsimp only; rw [htl]⟩
  · obtain rfl : i = sc.length := by omega
    rw [List.take_length] at hI
    conv => whnf
    have hrr := fun F' (h : SlF F' 236 (oaOf (some (gb0, gc0))) row.length (row.flatMap treeF)) => rowRight_ok F' _ gc0 row h hR
    have hrl : (row.flatMap treeF).length = row.length * 236 := flat_length treeF_length row
    refine CallS.mk Tryz.call11 ⟨[], _, _, Sub.refl _, fun F' hF' => hrr F' (SlF.sv hF' hrl (by intro h; cases h)), ?_⟩
    rintro e A' ⟨rfl, rfl⟩
    conv => whnf
    try (show forceH X _; rw [forceH_eq]; conv => whnf)
    refine RetI.three Tryz.results5 rfl rfl rfl ?_
    conv => whnf
    exact ⟨_, Sub.refl _, row, ms, (gb0, gc0), gm, hI, rfl, by rw [htl]⟩
end Go.Proofs.YtlfmckjehjedpaaGreatDoor

/- The script that lives. -/
namespace Go.Proofs.YtlfmckjehjedpaaGreatDoor
set_option linter.unusedVariables false
set_option linter.unusedSimpArgs false
set_option maxRecDepth 100000
open SL Go.RowKit Go.Maps
theorem lives_run {x : BatI} (hx : batI x = ([], [1, 2])) {row : List TreeS} {ms : List MsgG} {gm : Option (Nat × Nat)} (h : StepsI [x] row ms gm) : row.length = 2 ∧ ∃ m g, ms = [m] ∧ gm = some g ∧ (itemsN m.1.1 m.1.2.1 m.1.2.2).length = 6 := by
  have h1 := h.hrow
  have h2 := h.hms
  rw [show [x].map batI = [([], [1, 2])] by rw [← hx]; rfl] at h1 h2
  have e1 := congrArg List.length h1
  rw [List.length_map, lives_row] at e1
  have e2 := h.len.1
  match ms, e2, h2, h.gm with
  | [m], _, h2, hg =>
    have e3 := lives_items
    rw [← h2] at e3
    simp only [List.map_cons, List.map_nil, List.cons.injEq, and_true] at e3
    refine ⟨e1, m, ?_⟩
    cases gm with
    | none => exact absurd (hg.1 rfl) (by simp)
    | some g => exact ⟨g, rfl, rfl, e3⟩
  | [], e2, _, _ => simp at e2; omega
  | _ :: _ :: _, e2, _, _ => simp at e2; omega
set_option maxHeartbeats 2000000 in
theorem lives12_ok (F : Mem) (htab : TabA F) : FT Tryz.prog 4 [].toArray F [] (Ret (.bool true)) := by
  refine FT.of_body Tryz.func4 rfl Tryz.ntmps4 (by simp) fun C hC => ?_
  subst hC
  conv => whnf
  intro bj
  conv => whnf
  intro bs
  conv => whnf
  refine CallS.mk Tryz.call5 ⟨[], _, _, Sub.refl _, fun F' hF' => steps_ok F' (htab.ext hF') (some ⟨bs, 0, none⟩) 1 [([], [1, 2], ⟨none, 0, some ⟨bj, 0, none⟩, 2⟩)] ?_, ?_⟩
  · refine ⟨SlF.cells hF' rfl, fun x hx => ?_, by show 1 ≤ 140737488355328; decide⟩
    simp only [List.mem_singleton] at hx
    subst hx
    exact ⟨SlF.nil, SlF.cells hF' rfl, by simp, by intro w hw; simp at hw; unfold I64; omega, by show 0 ≤ 140737488355328; decide, by show 2 ≤ 140737488355328; decide⟩
  rintro e A' ⟨row, ms, gr, gm, hI, rfl, rfl⟩
  obtain ⟨hl, m, ⟨gb, gc⟩, rfl, rfl, h6⟩ := lives_run rfl hI
  unfold ownR
  rw [hl]
  generalize row.flatMap treeF = RL
  conv => whnf
  refine ⟨⟨by decide, by show (0 : Int) < 1; decide⟩, ?_⟩
  conv => whnf
  refine LoadV.os rfl rfl ?_
  conv => whnf
  rw [show svOf m.2.2.2 (itemsN m.1.1 m.1.2.1 m.1.2.2).length = svOf m.2.2.2 6 by rw [h6]]
  conv => whnf
  repeat (first | (refine LoadV.s rfl rfl (forceV_of ?_); conv => whnf) | (refine LoadV.s rfl rfl ?_; conv => whnf) | (refine StoreV.c rfl rfl (Nat.le_of_ble_eq_true rfl) rfl ?_; conv => whnf) | (refine LoadV.a _ rfl (Nat.le_of_ble_eq_true rfl) ?_; conv => whnf) | (refine DrawI.quiet (by kernel_rfl) (by kernel_rfl) ?_; conv => whnf) | (refine ArI.in64 (by omega) ?_; conv => whnf) | (refine ArI.inU8 (by omega) ?_; conv => whnf) | (refine ArI.inU64 (by omega) ?_; conv => whnf) | (refine ArI.inU32 (by omega) ?_; conv => whnf) | (refine RetI.one Tryz.results4 rfl ?_; conv => whnf) | (refine RetI.two Tryz.results4 rfl rfl ?_; conv => whnf) | (refine RetI.three Tryz.results4 rfl rfl rfl ?_; conv => whnf) | (refine RetI.none Tryz.results4 ?_; conv => whnf) | (refine ⟨by first | decide | omega, ?_⟩; conv => whnf))
  exact ⟨_, Sub.sel [] rfl, ret_bool (by rw [h6]; rfl), rfl⟩
end Go.Proofs.YtlfmckjehjedpaaGreatDoor

/- Keys along a row: plain laws. -/
namespace Go.Proofs.YtlfmckjehjedpaaGreatDoor
set_option linter.unusedVariables false
set_option linter.unusedSimpArgs false
set_option maxRecDepth 100000
open SL Go.RowKit Go.Maps
/-- The person sits there. -/
def Sits (t : TreeI) (w : Int) (q : Nat) : Prop := ∃ h : q < t.rs.length, tk t.rs[q] ∧ t.rs[q].1 = w
theorem Sits.find {t : TreeI} (T : TreeOk t) {w : Int} {q : Nat} (h : Sits t w q) : findI t.rs w 0 = (q : Int) := by
  obtain ⟨hq, ht, rfl⟩ := h
  exact find_at T.R.who hq ht
theorem Sits.of {t : TreeI} {w : Int} (h : 0 ≤ findI t.rs w 0) : ∃ q : Nat, findI t.rs w 0 = (q : Int) ∧ Sits t w q := by
  obtain ⟨i, hi, h1, h2, h3⟩ := find_on h
  exact ⟨i, h1, hi, h2, h3⟩
theorem Sits.lt {t : TreeI} (T : TreeOk t) {w : Int} {q : Nat} (h : Sits t w q) : q < 64 := by
  obtain ⟨hq, _⟩ := h
  have := T.R.len
  omega
/-- Who is not among those who leave stays. -/
theorem Sits.stay {t : TreeI} (T : TreeOk t) {L J : List Int} (hep : t.ep ≠ 200) (hf : Fit t.rs L J) {w : Int} {q : Nat} (h : Sits t w q) (hw : w ∉ L) : Sits (nextT t L J) w q ∧ (nextT t L J).rs[q]? = t.rs[q]? := by
  have hq64 := h.lt T
  obtain ⟨hq, ht, he⟩ := h
  have hq2 : q < (leaveR t.rs L).length := by rw [leaveR_length]; exact hq
  have hat : (leaveR t.rs L)[q] = t.rs[q] := by
    rw [leaveR_at _ _ q hq, if_neg fun hh => hw (by rw [← he]; exact hh.2)]
  have hml : (nextT t L J).rs.length = 64 := (nextT_ok T hep hf).R.len
  rcases moveR_at T.R hf (t.ep + 1) (t.fr + (cntN (repT t L) 21 : Nat)) q hq64 with ⟨h1, _⟩ | ⟨j, hj, h1, _⟩
  · have h2 : (nextT t L J).rs[q]? = t.rs[q]? := by
      show (moveR t.rs L J _ _)[q]? = _
      rw [h1, List.getElem?_eq_getElem hq2, hat, List.getElem?_eq_getElem hq]
    refine ⟨⟨by omega, ?_⟩, h2⟩
    rw [List.getElem?_eq_getElem (by omega), List.getElem?_eq_getElem hq] at h2
    have h3 := Option.some.inj h2
    rw [h3]; exact ⟨ht, he⟩
  · have hm := List.mem_of_getElem? h1
    obtain ⟨_, hnt⟩ := (mem_free (by rw [leaveR_length]; exact T.R.len)).1 hm
    exact absurd (by rw [hat]; exact ht) hnt
theorem HasK.base {t : TreeI} (T : TreeOk t) {n : Nat} (h : HasK t n) : (nodeK t n).1 < t.fr ∧ n < 85 := by
  rcases h with h | ⟨s, hs, rfl, ht⟩
  · have hl : n < t.ks.length := by rw [T.K.len]; exact h
    rw [nodeK_inner hl h]
    exact ⟨(T.K.rng _ (List.getElem_mem hl)).2.1, by omega⟩
  · rw [nodeK_leaf hs]
    have := T.R.len
    exact ⟨(T.R.tk_rng (List.getElem_mem hs) ht).2.1.2, by omega⟩
theorem HasK.same {t : TreeI} (T : TreeOk t) {n m : Nat} (h : HasK t n) (k : HasK t m) (e : (nodeK t n).1 = (nodeK t m).1) : n = m := by
  rcases h with h | ⟨s, hs, rfl, ht⟩ <;> rcases k with k | ⟨r, hr, rfl, hu⟩
  · have hl : n < t.ks.length := by rw [T.K.len]; exact h
    have hl2 : m < t.ks.length := by rw [T.K.len]; exact k
    rw [nodeK_inner hl h, nodeK_inner hl2 k] at e
    exact T.K.dist n m hl hl2 trivial trivial e
  · have hl : n < t.ks.length := by rw [T.K.len]; exact h
    rw [nodeK_inner hl h, nodeK_leaf hr] at e
    exact absurd e (T.kr _ (List.getElem_mem hl) _ (List.getElem_mem hr))
  · have hl : m < t.ks.length := by rw [T.K.len]; exact k
    rw [nodeK_inner hl k, nodeK_leaf hs] at e
    exact absurd e.symm (T.kr _ (List.getElem_mem hl) _ (List.getElem_mem hs))
  · rw [nodeK_leaf hs, nodeK_leaf hr] at e
    rw [T.R.base s r hs hr ht hu e]
/-- An old base: the node was not replaced, and who sits below it stays. -/
theorem base_old {t : TreeI} (T : TreeOk t) {L J : List Int} (he : t.ep ≠ 200) (hf : Fit t.rs L J) {n : Nat} (h : HasK (nextT t L J) n) (hb : (nodeK (nextT t L J) n).1 < t.fr) :
    HasK t n ∧ (nodeK t n).1 = (nodeK (nextT t L J) n).1 ∧ (nodeK (nextT t L J) n).2 = (nodeK t n).2 + 1 ∧ ∀ w q, under n q = true → Sits t w q → Sits (nextT t L J) w q := by
  have T2 := nextT_ok T he hf
  rcases h with h | ⟨s, hs, rfl, ht⟩
  · have hl : n < t.ks.length := by rw [T.K.len]; exact h
    have hl2 : n < (nextT t L J).ks.length := by rw [T2.K.len]; exact h
    rw [nodeK_inner hl2 h] at hb ⊢
    rw [nodeK_inner hl h]
    have e : (nextT t L J).ks[n] = newKey (repT t L) t.fr n t.ks[n] := turnK_at _ _ _ n hl
    rw [e] at hb ⊢
    unfold newKey at hb ⊢
    by_cases hp : repT t L n = true
    · rw [if_pos hp] at hb; dsimp only at hb; omega
    · rw [if_neg hp]
      refine ⟨.inl h, rfl, rfl, fun w q hu hs => (hs.stay T he hf fun hw => hp ?_).1⟩
      have hfi := hs.find T
      unfold repT repP
      rw [List.any_eq_true]
      refine ⟨(w, findI t.rs w 0), List.mem_map.2 ⟨w, hw, rfl⟩, ?_⟩
      dsimp only
      rw [hfi, Int.toNat_natCast]; exact hu
  · have hs64 : s < 64 := by have := T2.R.len; omega
    have hst : s < t.rs.length := by have := T.R.len; omega
    rw [nodeK_leaf hs] at hb ⊢
    have hq2 : s < (leaveR t.rs L).length := by rw [leaveR_length]; exact hst
    rcases moveR_at T.R hf (t.ep + 1) (t.fr + (cntN (repT t L) 21 : Nat)) s hs64 with ⟨h1, _⟩ | ⟨j, hj, _, h1⟩
    · have h2 : (nextT t L J).rs[s]? = (leaveR t.rs L)[s]? := h1
      rw [List.getElem?_eq_getElem hs, List.getElem?_eq_getElem hq2] at h2
      have h3 := Option.some.inj h2
      rw [leaveR_at _ _ s hst] at h3
      by_cases hc : tkB t.rs[s] = true ∧ t.rs[s].1 ∈ L
      · rw [if_pos hc] at h3; rw [h3] at ht; exact absurd rfl ht
      · rw [if_neg hc] at h3
        have ht' : tk t.rs[s] := by rw [← h3]; exact ht
        rw [nodeK_leaf hst, h3]
        refine ⟨.inr ⟨s, hst, rfl, ht'⟩, rfl, ?_, fun w q hu hsit => ?_⟩
        · show t.ep + 1 - t.rs[s].2.2 = t.ep - t.rs[s].2.2 + 1
          omega
        · have hq64 := hsit.lt T
          rw [under_leaf hs64 hq64] at hu
          obtain rfl : s = q := of_decide_eq_true hu
          obtain ⟨_, _, hw⟩ := hsit
          exact ⟨hs, by rw [h3]; exact ⟨ht', hw⟩⟩
    · have h2 : (nextT t L J).rs[s]? = some (J[j], t.fr + (cntN (repT t L) 21 : Nat) + (j : Nat), t.ep + 1) := h1
      rw [List.getElem?_eq_getElem hs] at h2
      have h3 := Option.some.inj h2
      rw [h3] at hb
      have : t.fr + (cntN (repT t L) 21 : Nat) + (j : Nat) < t.fr := hb
      omega
theorem fr_mono {row : List TreeS} (R : RowOk row) {i : Nat} {t : TreeS} (h : row[i]? = some t) : ∀ (d : Nat) (u : TreeS), row[i + d]? = some u → t.1.fr ≤ u.1.fr
  | 0, u, hu => by rw [Nat.add_zero, h] at hu; cases hu; exact Int.le_refl _
  | d + 1, u, hu => by
    have hlt := (List.getElem?_eq_some_iff.1 hu).1
    have hm : row[i + d]? = some row[i + d] := List.getElem?_eq_getElem (by omega)
    have h1 := fr_mono R h d _ hm
    obtain ⟨L, J, _, _, h4⟩ := R.step (i + d) _ u hm hu
    rw [h4]
    show t.1.fr ≤ row[i + d].1.fr + (cntN _ 21 : Nat) + (J.length : Nat)
    omega
theorem keep_key {row : List TreeS} (R : RowOk row) {i : Nat} {t : TreeS} (h : row[i]? = some t) : ∀ (d : Nat) (u : TreeS), row[i + d]? = some u → ∀ n, HasK u.1 n → (nodeK u.1 n).1 < t.1.fr →
    HasK t.1 n ∧ (nodeK t.1 n).1 = (nodeK u.1 n).1 ∧ (nodeK u.1 n).2 = (nodeK t.1 n).2 + (d : Int) ∧ ∀ w q, under n q = true → Sits t.1 w q → ∀ (l : Nat) (tl : TreeS), i ≤ l → l ≤ i + d → row[l]? = some tl → Sits tl.1 w q
  | 0, u, hu, n, hk, hb => by
    rw [Nat.add_zero, h] at hu; cases hu
    refine ⟨hk, rfl, by omega, fun w q _ hs l tl h1 h2 h3 => ?_⟩
    obtain rfl : l = i := by omega
    rw [h] at h3; cases h3; exact hs
  | d + 1, u, hu, n, hk, hb => by
    have hlt := (List.getElem?_eq_some_iff.1 hu).1
    have hm : row[i + d]? = some row[i + d] := List.getElem?_eq_getElem (by omega)
    have hfr := fr_mono R h d _ hm
    have Tm := (R.tree _ _ hm).1
    obtain ⟨L, J, h2, h3, h4⟩ := R.step (i + d) _ u hm hu
    rw [h4] at hk hb
    obtain ⟨k1, k2, k3, k4⟩ := base_old Tm h2 h3 hk (by omega)
    obtain ⟨j1, j2, j3, j4⟩ := keep_key R h d _ hm n k1 (by omega)
    rw [h4]
    refine ⟨j1, j2.trans k2, by rw [k3, j3]; omega, fun w q hu2 hs l tl h5 h6 h7 => ?_⟩
    by_cases e : l = i + (d + 1)
    · subst e
      rw [hu] at h7; cases h7
      rw [h4]
      exact k4 w q hu2 (j4 w q hu2 hs (i + d) _ (by omega) (by omega) hm)
    · exact j4 w q hu2 hs l tl h5 (by omega) h7
/-- The same base, no earlier step: the same node, no earlier epoch, and who sat below it stayed. -/
theorem same_key {row : List TreeS} (R : RowOk row) {i j n m : Nat} {t u : TreeS} (hi : row[i]? = some t) (hj : row[j]? = some u) (hn : HasK t.1 n) (hm : HasK u.1 m) (hb : (nodeK u.1 m).1 = (nodeK t.1 n).1) (hs : (nodeK t.1 n).2 ≤ (nodeK u.1 m).2) :
    n = m ∧ i ≤ j ∧ ∀ w q, under n q = true → Sits t.1 w q → ∀ (l : Nat) (tl : TreeS), i ≤ l → l ≤ j → row[l]? = some tl → Sits tl.1 w q := by
  have T := (R.tree _ _ hi).1
  have U := (R.tree _ _ hj).1
  by_cases hij : i ≤ j
  · obtain ⟨d, rfl⟩ : ∃ d, j = i + d := ⟨j - i, by omega⟩
    obtain ⟨k1, k2, k3, k4⟩ := keep_key R hi d u hj m hm (by rw [hb]; exact (hn.base T).1)
    obtain rfl : n = m := hn.same T k1 (by rw [k2, hb])
    exact ⟨rfl, hij, k4⟩
  · obtain ⟨d, rfl⟩ : ∃ d, i = j + d := ⟨i - j, by omega⟩
    obtain ⟨k1, k2, k3, _⟩ := keep_key R hj d t hi n hn (by rw [← hb]; exact (hm.base U).1)
    obtain rfl : n = m := k1.same U hm (by rw [k2, hb])
    omega
end Go.Proofs.YtlfmckjehjedpaaGreatDoor

/- What was sealed leads only to what is excused. -/
namespace Go.Proofs.YtlfmckjehjedpaaGreatDoor
set_option linter.unusedVariables false
set_option linter.unusedSimpArgs false
set_option maxRecDepth 100000
open SL Go.RowKit Go.Maps
/-- Somebody who was opened has been on since, and sits below the node. -/
def Held (row : List TreeS) (met : List (Int × Int)) (i n : Nat) : Prop := ∃ x ∈ met, On row x.1 x.2 (i : Int) ∧ ∃ t q, row[i]? = some t ∧ Sits t.1 x.1 q ∧ under n q = true
/-- As the node's key goes on, so does who holds it. -/
theorem Held.on {row : List TreeS} (R : RowOk row) {met : List (Int × Int)} {i n : Nat} (h : Held row met i n) {t : TreeS} (hi : row[i]? = some t) (hn : HasK t.1 n) {j m : Nat} {u : TreeS} (hj : row[j]? = some u) (hm : HasK u.1 m)
    (hb : (nodeK u.1 m).1 = (nodeK t.1 n).1) (hs : (nodeK t.1 n).2 ≤ (nodeK u.1 m).2) : Held row met j m := by
  obtain ⟨rfl, hij, hk⟩ := same_key R hi hj hn hm hb hs
  obtain ⟨x, hx, hon, t', q, ht', hsit, hu⟩ := h
  rw [hi] at ht'; cases ht'
  have hlt := (List.getElem?_eq_some_iff.1 hj).1
  refine ⟨x, hx, ⟨hon.1, by omega, by have := hon.2.2.1; omega, fun l tl h1 h2 h3 => ?_⟩, u, q, hj, hk x.1 q hu hsit j u hij (Nat.le_refl _) hj, hu⟩
  by_cases e : l ≤ i
  · exact hon.2.2.2 l tl h1 (by omega) h3
  · have := (hk x.1 q hu hsit l tl (by omega) (by omega) h3).find (R.tree _ _ h3).1
    omega
/-- A base from a step on is only at nodes that are held. -/
def HeldBy (row : List TreeS) (met : List (Int × Int)) (a s : Int) : Prop := ∀ (j m : Nat) (u : TreeS), row[j]? = some u → HasK u.1 m → (nodeK u.1 m).1 = a → s ≤ (nodeK u.1 m).2 → Held row met j m
theorem Held.by {row : List TreeS} (R : RowOk row) {met : List (Int × Int)} {i n : Nat} (h : Held row met i n) {t : TreeS} (hi : row[i]? = some t) (hn : HasK t.1 n) : HeldBy row met (nodeK t.1 n).1 (nodeK t.1 n).2 := fun _ _ _ hj hm hb hs => h.on R hi hn hj hm hb hs
/-- A box that a tree's keys make: a node's key under that of one below it. -/
def BoxOf (row : List TreeS) (b : Bx) : Prop := ∃ (i : Nat) (t : TreeS) (n c : Nat), row[i]? = some t ∧ HasK t.1 n ∧ HasK t.1 c ∧ (∀ q, q < 64 → under c q = true → under n q = true) ∧ b = ((nodeK t.1 c).1, (nodeK t.1 c).2, (nodeK t.1 n).1, (nodeK t.1 n).2)
theorem BoxOf.held {row : List TreeS} (R : RowOk row) {met : List (Int × Int)} {b : Bx} (h : BoxOf row b) {s : Int} (hs : s ≤ b.2.1) (hp : HeldBy row met b.1 s) : HeldBy row met b.2.2.1 b.2.2.2 := by
  obtain ⟨i, t, n, c, hi, hn, hc, hu, rfl⟩ := h
  dsimp only at hs hp ⊢
  obtain ⟨x, hx, hon, t', q, ht', hsit, hq⟩ := hp i c t hi hc rfl hs
  have hq64 := hsit.lt (R.tree _ _ ht').1
  exact Held.by R ⟨x, hx, hon, t', q, ht', hsit, hu q hq64 hq⟩ hi hn
/-- The nodes above a seat. -/
theorem path_under {s : Nat} (h : s < 64) : under (s / 4 + 5) s = true ∧ under (s / 16 + 1) s = true ∧ under 0 s = true := by
  have : ∀ s : Fin 64, under (s.1 / 4 + 5) s.1 = true ∧ under (s.1 / 16 + 1) s.1 = true ∧ under 0 s.1 = true := by decide +kernel
  exact this ⟨s, h⟩
end Go.Proofs.YtlfmckjehjedpaaGreatDoor

/- The boxes of a row's messages: plain laws. -/
namespace Go.Proofs.YtlfmckjehjedpaaGreatDoor
set_option linter.unusedVariables false
set_option linter.unusedSimpArgs false
set_option maxRecDepth 100000
open SL Go.RowKit Go.Maps
def itemsM (m : MsgG) : List Item := itemsN m.1.1 m.1.2.1 m.1.2.2
def boxL (ms : List MsgG) : List Bx := ms.flatMap fun m => (itemsM m).map (·.2.2)
theorem child_under {v j q : Nat} (hv : v < 21) (hj : j < 4) (hq : q < 64) (h : under (4 * v + 1 + j) q = true) : under v q = true := by
  have : ∀ v : Fin 21, ∀ j : Fin 4, ∀ q : Fin 64, under (4 * v.1 + 1 + j.1) q.1 = true → under v.1 q.1 = true := by decide +kernel
  exact this ⟨v, hv⟩ ⟨j, hj⟩ ⟨q, hq⟩ h
theorem itA_mem {t : TreeI} {p : Nat → Bool} {it : Item} : ∀ n, n ≤ 21 → (it ∈ itA t p n ↔ ∃ v j, 21 - n ≤ v ∧ v < 21 ∧ j < 4 ∧ p v = true ∧ heldB t (4 * v + 1 + j) = true ∧ it = itemT t v (4 * v + 1 + j))
  | 0, _ => by
    constructor
    · intro h; simp [itA] at h
    · rintro ⟨v, j, h1, h2, _⟩; omega
  | n + 1, hn => by
    have ih := itA_mem (t := t) (p := p) (it := it) n (by omega)
    unfold itA
    rw [List.mem_append, ih]
    constructor
    · rintro (⟨v, j, h1, h2⟩ | h)
      · exact ⟨v, j, by omega, h2⟩
      · by_cases hp : p (20 - n) = true
        · rw [if_pos hp] at h
          unfold itV at h
          obtain ⟨j, hj, rfl⟩ := List.mem_map.1 h
          obtain ⟨h1, h2⟩ := List.mem_filter.1 hj
          exact ⟨20 - n, j, by omega, by omega, List.mem_range.1 h1, hp, h2, rfl⟩
        · rw [if_neg hp] at h; simp at h
    · rintro ⟨v, j, h1, h2, h3, h4, h5, rfl⟩
      by_cases e : v = 20 - n
      · subst e
        rw [if_pos h4]
        exact .inr (List.mem_map.2 ⟨j, List.mem_filter.2 ⟨List.mem_range.2 h3, h5⟩, rfl⟩)
      · exact .inl ⟨v, j, by omega, h2, h3, h4, h5, rfl⟩
theorem itB_mem {t : TreeI} {p : Nat → Bool} {J : List Seat} {it : Item} (h : it ∈ itB t p J) : ∃ x ∈ J, ∃ v ∈ pathL x.2.toNat, it = itemT t v (21 + x.2.toNat) := by
  obtain ⟨x, hx, h2⟩ := List.mem_flatMap.1 h
  obtain ⟨v, hv, rfl⟩ := List.mem_map.1 h2
  exact ⟨x, hx, v, (List.mem_filter.1 hv).1, rfl⟩
theorem itemsN_len {t : TreeI} (T : TreeOk t) {L J : List Int} (hf : Fit t.rs L J) : (itemsN t L J).length ≤ 300 := by
  have h1 := itA_len (nextT t L J) (repT t L) 21
  have h2 := itB_len (nextT t L J) (repT t L) (joinedL t.rs L J)
  have h3 := joinedL_length T.R hf
  have h4 := hf.lenJ T.R
  unfold itemsN itemsT
  rw [List.length_append]; omega
theorem item_box {row : List TreeS} (R : RowOk row) {i : Nat} {t u : TreeS} {L J : List Int} (hi : row[i]? = some t) (hu : row[i + 1]? = some u) (hz : stepE t.1 L J = 0) (e : u.1 = nextT t.1 L J) {it : Item} (h : it ∈ itemsN t.1 L J) : BoxOf row it.2.2 := by
  have T := (R.tree _ _ hi).1
  have U := (R.tree _ _ hu).1
  obtain ⟨h200, hf⟩ := stepE_zero.1 hz
  unfold itemsN itemsT at h
  rw [← e] at h
  rcases List.mem_append.1 h with h | h
  · obtain ⟨v, j, _, hv, hj, _, hh, rfl⟩ := (itA_mem 21 (Nat.le_refl _)).1 h
    exact ⟨i + 1, u, v, 4 * v + 1 + j, hu, .inl hv, held_has U (by omega) hh, fun q hq hq2 => child_under hv hj hq hq2, rfl⟩
  · obtain ⟨x, hx, v, hv, rfl⟩ := itB_mem h
    have hse := joined_seated T hf x hx
    rw [← e] at hse
    obtain ⟨_, hl, ht⟩ := hse
    have h64 : x.2.toNat < 64 := by have := U.R.len; omega
    obtain ⟨u1, u2, u3⟩ := path_under h64
    simp only [pathL, List.mem_cons, List.not_mem_nil, or_false] at hv
    refine ⟨i + 1, u, v, 21 + x.2.toNat, hu, .inl (by omega), .inr ⟨_, hl, rfl, ht⟩, fun q hq hq2 => ?_, rfl⟩
    rw [under_leaf h64 hq] at hq2
    rw [← of_decide_eq_true hq2]
    rcases hv with rfl | rfl | rfl
    · exact u1
    · exact u2
    · exact u3
/-- Each message stands between two trees of the row. -/
theorem StepsI.msg {sc : List BatI} {row : List TreeS} {ms : List MsgG} {gm : Option (Nat × Nat)} (h : StepsI sc row ms gm) {i : Nat} {m : MsgG} (hm : ms[i]? = some m) : ∃ t u : TreeS, row[i]? = some t ∧ row[i + 1]? = some u ∧ t.1 = m.1.1 ∧ stepE t.1 m.1.2.1 m.1.2.2 = 0 ∧ u.1 = nextT t.1 m.1.2.1 m.1.2.2 := by
  have h1 := (runF_ok (sc.map batI)).msg i m.1 (by rw [← h.hms, List.getElem?_map, hm]; rfl)
  rw [← h.hrow, List.getElem?_map, List.getElem?_map] at h1
  obtain ⟨h2, h3, h4⟩ := h1
  obtain ⟨t, ht, e1⟩ := Option.map_eq_some_iff.1 h2
  obtain ⟨u, hu, e2⟩ := Option.map_eq_some_iff.1 h4
  refine ⟨t, u, ht, hu, e1, ?_, ?_⟩
  · rw [e1]; exact h3
  · rw [e2, e1]
theorem StepsI.boxes {sc : List BatI} {row : List TreeS} {ms : List MsgG} {gm : Option (Nat × Nat)} (h : StepsI sc row ms gm) : ∀ b ∈ boxL ms, BoxOf row b := fun b hb => by
  obtain ⟨m, hm, h2⟩ := List.mem_flatMap.1 hb
  obtain ⟨it, hit, rfl⟩ := List.mem_map.1 h2
  obtain ⟨i, hi, rfl⟩ := List.getElem_of_mem hm
  obtain ⟨t, u, h3, h4, h5, h6, h7⟩ := h.msg (List.getElem?_eq_getElem hi)
  unfold itemsM at hit
  rw [← h5] at hit
  exact item_box h.ok h3 h4 h6 h7 hit
theorem StepsI.items {sc : List BatI} {row : List TreeS} {ms : List MsgG} {gm : Option (Nat × Nat)} (h : StepsI sc row ms gm) {m : MsgG} (hm : m ∈ ms) : (itemsM m).length ≤ 300 := by
  obtain ⟨i, hi, rfl⟩ := List.getElem_of_mem hm
  obtain ⟨t, u, h3, _, h5, h6, _⟩ := h.msg (List.getElem?_eq_getElem hi)
  have := itemsN_len (h.ok.tree _ _ h3).1 (stepE_zero.1 h6).2
  rw [h5] at this; exact this
/-- Steps and names of a row's keys are small. -/
theorem BoxOf.small {row : List TreeS} (R : RowOk row) {b : Bx} (h : BoxOf row b) : I64 b.1 ∧ I64 b.2.2.1 ∧ 0 ≤ b.2.2.2 ∧ b.2.2.2 ≤ 255 := by
  obtain ⟨i, t, n, c, hi, hn, hc, _, rfl⟩ := h
  have T := (R.tree _ _ hi).1
  have h1 := hn.key T
  have h2 := hc.key T
  simp only [keyB, Bool.and_eq_true, decide_eq_true_eq] at h1 h2
  unfold I64
  dsimp only
  omega
end Go.Proofs.YtlfmckjehjedpaaGreatDoor

/- Bits, bytes and numbers: the plain law; no program stands here. -/
namespace Go.Proofs.YtlfmckjehjedpaaGreatDoor
set_option linter.unusedVariables false
set_option linter.unusedSimpArgs false
set_option maxRecDepth 100000

/-- The w low bits of a number, the highest first. -/
def bitsOf (w v : Nat) : List Bool := (List.range w).map fun i => v.testBit (w - 1 - i)
/-- The number of a row of bits. -/
def num (l : List Bool) : Nat := l.foldl (fun a b => 2 * a + b.toNat) 0
theorem bitsOf_length (w v : Nat) : (bitsOf w v).length = w := by simp [bitsOf]
theorem bitsOf_zero (v : Nat) : bitsOf 0 v = [] := rfl
theorem bitsOf_add (a b v : Nat) : bitsOf (a + b) v = bitsOf a (v / 2 ^ b) ++ bitsOf b v := by
  apply List.ext_getElem
  · simp [bitsOf_length]
  · intro i h1 h2
    simp only [bitsOf_length] at h1
    by_cases hi : i < a
    · rw [List.getElem_append_left (by simpa [bitsOf_length] using hi)]
      simp only [bitsOf, List.getElem_map, List.getElem_range]
      rw [← Nat.shiftRight_eq_div_pow, Nat.testBit_shiftRight]
      congr 1; omega
    · rw [List.getElem_append_right (by simp [bitsOf_length]; omega)]
      simp only [bitsOf, List.getElem_map, List.getElem_range, List.length_map, List.length_range]
      congr 1; omega
theorem bitsOf_succ (w v : Nat) : bitsOf (w + 1) v = bitsOf w (v / 2) ++ [v.testBit 0] := by
  rw [bitsOf_add]; rfl
theorem num_snoc (l : List Bool) (b : Bool) : num (l ++ [b]) = 2 * num l + b.toNat := by simp [num]
theorem num_nil : num [] = 0 := rfl
theorem num_append (l : List Bool) : ∀ m : List Bool, num (l ++ m) = num l * 2 ^ m.length + num m := by
  have key : ∀ (n : Nat) (m : List Bool), m.length = n → num (l ++ m) = num l * 2 ^ m.length + num m := by
    intro n
    induction n with
    | zero => intro m h; have := List.eq_nil_of_length_eq_zero h; subst this; simp [num_nil]
    | succ n ih =>
      intro m h
      obtain ⟨m', b, rfl⟩ : ∃ m' b, m = m' ++ [b] := ⟨m.dropLast, m.getLast (by intro e; subst e; simp at h), (List.dropLast_concat_getLast _).symm⟩
      have h' : m'.length = n := by simpa using h
      rw [← List.append_assoc, num_snoc, ih m' h', num_snoc, List.length_append, List.length_singleton, Nat.pow_succ, Nat.mul_add, Nat.add_assoc, Nat.mul_left_comm, Nat.mul_comm 2 (2 ^ m'.length), ← Nat.mul_assoc]
  exact fun m => key _ m rfl
theorem num_lt (l : List Bool) : num l < 2 ^ l.length := by
  have key : ∀ (n : Nat) (m : List Bool), m.length = n → num m < 2 ^ n := by
    intro n
    induction n with
    | zero => intro m h; have := List.eq_nil_of_length_eq_zero h; subst this; simp [num_nil]
    | succ n ih =>
      intro m h
      obtain ⟨m', b, rfl⟩ : ∃ m' b, m = m' ++ [b] := ⟨m.dropLast, m.getLast (by intro e; subst e; simp at h), (List.dropLast_concat_getLast _).symm⟩
      have := ih m' (by simpa using h)
      rw [num_snoc, Nat.pow_succ]
      have hb : b.toNat ≤ 1 := by cases b <;> simp
      omega
  exact key _ l rfl
theorem testBit_zero_toNat (v : Nat) : (v.testBit 0).toNat = v % 2 := by
  rw [Nat.testBit_zero]
  rcases Nat.mod_two_eq_zero_or_one v with h | h <;> simp [h]
theorem num_bitsOf (w v : Nat) : num (bitsOf w v) = v % 2 ^ w := by
  induction w generalizing v with
  | zero => simp [bitsOf_zero, num_nil, Nat.mod_one]
  | succ w ih =>
    rw [bitsOf_succ, num_snoc, ih, testBit_zero_toNat]
    have h1 : v % 2 ^ (w + 1) = 2 * (v / 2 % 2 ^ w) + v % 2 := by
      rw [Nat.pow_succ, Nat.mul_comm, Nat.mod_mul, Nat.add_comm]
    omega
theorem bitsOf_num (l : List Bool) : bitsOf l.length (num l) = l := by
  have key : ∀ (n : Nat) (m : List Bool), m.length = n → bitsOf n (num m) = m := by
    intro n
    induction n with
    | zero => intro m h; have := List.eq_nil_of_length_eq_zero h; subst this; rfl
    | succ n ih =>
      intro m h
      obtain ⟨m', b, rfl⟩ : ∃ m' b, m = m' ++ [b] := ⟨m.dropLast, m.getLast (by intro e; subst e; simp at h), (List.dropLast_concat_getLast _).symm⟩
      rw [bitsOf_succ, num_snoc]
      have hb : b.toNat ≤ 1 := by cases b <;> simp
      rw [show (2 * num m' + b.toNat) / 2 = num m' by omega, ih m' (by simpa using h)]
      congr 2
      rw [Nat.testBit_zero]
      cases b <;> simp [Nat.add_mod]
  exact key _ l rfl
theorem bitsOf_mod {w k v : Nat} (h : w ≤ k) : bitsOf w (v % 2 ^ k) = bitsOf w v := by
  apply List.ext_getElem
  · simp [bitsOf_length]
  · intro i h1 h2
    simp only [bitsOf_length] at h1
    simp only [bitsOf, List.getElem_map, List.getElem_range, Nat.testBit_mod_two_pow]
    rw [decide_eq_true (by omega), Bool.true_and]
theorem num_zero {l : List Bool} : num l = 0 ↔ ∀ b ∈ l, b = false := by
  have key : ∀ (n : Nat) (m : List Bool), m.length = n → (num m = 0 ↔ ∀ b ∈ m, b = false) := by
    intro n
    induction n with
    | zero => intro m h; have := List.eq_nil_of_length_eq_zero h; subst this; simp [num_nil]
    | succ n ih =>
      intro m h
      obtain ⟨m', b, rfl⟩ : ∃ m' b, m = m' ++ [b] := ⟨m.dropLast, m.getLast (by intro e; subst e; simp at h), (List.dropLast_concat_getLast _).symm⟩
      have := ih m' (by simpa using h)
      rw [num_snoc]
      cases b
      · simp only [Bool.toNat_false, Nat.add_zero, Nat.mul_eq_zero, List.mem_append, List.mem_singleton]
        constructor
        · intro hz c hc
          rcases hc with hc | hc
          · exact this.1 (by omega) c hc
          · exact hc
        · intro hz; right; exact this.2 fun c hc => hz c (.inl hc)
      · simp
  exact key _ l rfl

/-! ### Bytes -/
/-- A byte of a row of bits; noughts fill the last. -/
def byteOf (B : List Bool) (j : Nat) : Nat := num ((B.drop (8 * j)).take 8) * 2 ^ (8 - ((B.drop (8 * j)).take 8).length)
def packB (B : List Bool) : List Nat := (List.range ((B.length + 7) / 8)).map (byteOf B)
theorem packB_length (B : List Bool) : (packB B).length = (B.length + 7) / 8 := by simp [packB]
theorem byteOf_lt (B : List Bool) (j : Nat) : byteOf B j < 256 := by
  unfold byteOf
  have h := num_lt ((B.drop (8 * j)).take 8)
  have hl : ((B.drop (8 * j)).take 8).length ≤ 8 := by rw [List.length_take]; omega
  calc num ((B.drop (8 * j)).take 8) * 2 ^ (8 - ((B.drop (8 * j)).take 8).length)
      < 2 ^ ((B.drop (8 * j)).take 8).length * 2 ^ (8 - ((B.drop (8 * j)).take 8).length) := Nat.mul_lt_mul_of_pos_right h (Nat.two_pow_pos _)
    _ = 256 := by rw [← Nat.pow_add, Nat.add_sub_cancel' hl]
theorem packB_lt (B : List Bool) : ∀ x ∈ packB B, x < 256 := by
  intro x hx
  obtain ⟨j, _, rfl⟩ := List.mem_map.1 hx
  exact byteOf_lt B j
theorem byteOf_append {B c : List Bool} {j : Nat} (h : 8 * (j + 1) ≤ B.length) : byteOf (B ++ c) j = byteOf B j := by
  unfold byteOf
  have : ((B ++ c).drop (8 * j)).take 8 = (B.drop (8 * j)).take 8 := by
    rw [List.drop_append_of_le_length (by omega), List.take_append_of_le_length (by simp; omega)]
  rw [this]
/-- Bits behind whole bytes: a byte more. -/
theorem packB_new {B c : List Bool} (hr : B.length % 8 = 0) (h0 : 0 < c.length) (h8 : c.length ≤ 8) : packB (B ++ c) = packB B ++ [num c * 2 ^ (8 - c.length)] := by
  unfold packB
  rw [show ((B ++ c).length + 7) / 8 = (B.length + 7) / 8 + 1 by rw [List.length_append]; omega, List.range_succ, List.map_append]
  congr 1
  · refine List.map_congr_left fun j hj => byteOf_append ?_
    simp only [List.mem_range] at hj
    omega
  · simp only [List.map_cons, List.map_nil, List.cons.injEq, and_true]
    unfold byteOf
    have h1 : 8 * ((B.length + 7) / 8) = B.length := by omega
    rw [h1, List.drop_left, List.take_of_length_le h8]
theorem packB_last {B : List Bool} (hr : B.length % 8 ≠ 0) : packB B = (packB B).dropLast ++ [byteOf B (B.length / 8)] := by
  have e : (B.length + 7) / 8 = B.length / 8 + 1 := by omega
  unfold packB
  rw [e, List.range_succ, List.map_append, List.map_cons, List.map_nil, List.dropLast_concat]
theorem packB_dropLast {B : List Bool} (hr : B.length % 8 ≠ 0) : (packB B).dropLast = (List.range (B.length / 8)).map (byteOf B) := by
  have e : (B.length + 7) / 8 = B.length / 8 + 1 := by omega
  unfold packB
  rw [e, List.range_succ, List.map_append, List.map_cons, List.map_nil, List.dropLast_concat]
/-- Bits that the last byte has room for. -/
theorem packB_more {B c : List Bool} (hr : B.length % 8 ≠ 0) (h8 : B.length % 8 + c.length ≤ 8) :
    packB (B ++ c) = (packB B).dropLast ++ [byteOf B (B.length / 8) ||| num c * 2 ^ (8 - B.length % 8 - c.length)] := by
  have hq : ((B ++ c).length + 7) / 8 = B.length / 8 + 1 := by rw [List.length_append]; omega
  rw [packB_dropLast hr]
  unfold packB
  rw [hq, List.range_succ, List.map_append]
  congr 1
  · refine List.map_congr_left fun j hj => byteOf_append ?_
    simp only [List.mem_range] at hj
    omega
  · simp only [List.map_cons, List.map_nil, List.cons.injEq, and_true]
    have hd : ((B.drop (8 * (B.length / 8))).take 8) = B.drop (8 * (B.length / 8)) := List.take_of_length_le (by rw [List.length_drop]; omega)
    have hl : (B.drop (8 * (B.length / 8))).length = B.length % 8 := by rw [List.length_drop]; omega
    have hd2 : (((B ++ c).drop (8 * (B.length / 8))).take 8) = B.drop (8 * (B.length / 8)) ++ c := by
      rw [List.drop_append_of_le_length (by omega), List.take_of_length_le (by rw [List.length_append, hl]; omega)]
    unfold byteOf
    rw [hd2, hd, num_append, List.length_append, hl]
    generalize hN : num (B.drop (8 * (B.length / 8))) = N
    have hc := num_lt c
    generalize num c = M at hc
    have hr' : B.length % 8 < 8 := Nat.mod_lt _ (by decide)
    generalize B.length % 8 = r at *
    generalize c.length = k at *
    have e1 : 8 - r = k + (8 - r - k) := by omega
    have e2 : 8 - (r + k) = 8 - r - k := by omega
    rw [e2, Nat.add_mul, Nat.mul_assoc, ← Nat.pow_add, ← e1]
    have h2 : M * 2 ^ (8 - r - k) < 2 ^ (8 - r) := by
      calc M * 2 ^ (8 - r - k) < 2 ^ k * 2 ^ (8 - r - k) := Nat.mul_lt_mul_of_pos_right hc (Nat.two_pow_pos _)
        _ = 2 ^ (8 - r) := by rw [← Nat.pow_add, ← e1]
    rw [Nat.mul_comm N, Nat.two_pow_add_eq_or_of_lt h2]

/-- How a byte row grows. -/
theorem pack_prep (B : List Bool) : ∃ A last, A.length ≤ B.length ∧ last < 256 ∧ (B.length % 8 = 0 → A = packB B ∧ last = 0) ∧ (B.length % 8 ≠ 0 → packB B = A ++ [last]) ∧
    ∀ c : List Bool, 0 < c.length → c.length ≤ 8 - B.length % 8 → packB (B ++ c) = A ++ [last ||| num c * 2 ^ (8 - B.length % 8 - c.length)] := by
  by_cases hr : B.length % 8 = 0
  · refine ⟨packB B, 0, by rw [packB_length]; omega, by decide, fun _ => ⟨rfl, rfl⟩, fun h => absurd hr h, fun c h0 h8 => ?_⟩
    rw [packB_new hr h0 (by omega), hr, Nat.zero_or]
  · refine ⟨(packB B).dropLast, byteOf B (B.length / 8), by rw [List.length_dropLast, packB_length]; omega, byteOf_lt _ _, fun h => absurd h hr, fun _ => packB_last hr, fun c h0 h8 => ?_⟩
    exact packB_more hr (by omega)

/-! ### Texts as bits -/
def textBits (t : List Nat) : List Bool := t.flatMap (bitsOf 8)
theorem textBits_length (t : List Nat) : (textBits t).length = 8 * t.length := by
  induction t with
  | nil => rfl
  | cons x t ih => simp only [textBits, List.flatMap_cons, List.length_append, bitsOf_length, List.length_cons] at ih ⊢; omega
theorem textBits_append (s t : List Nat) : textBits (s ++ t) = textBits s ++ textBits t := by simp [textBits]
/-- Some bits within one byte of a text. -/
theorem textBits_part (t : List Nat) (n m : Nat) (h : n / 8 < t.length) (hm : n % 8 + m ≤ 8) : ((textBits t).drop n).take m = bitsOf m (t[n / 8] / 2 ^ (8 - n % 8 - m)) := by
  have hs : t = t.take (n / 8) ++ t[n / 8] :: t.drop (n / 8 + 1) := by rw [List.getElem_cons_drop, List.take_append_drop]
  have hl : (textBits (t.take (n / 8))).length = 8 * (n / 8) := by rw [textBits_length, List.length_take]; omega
  have e1 : (textBits t).drop n = ((bitsOf 8 t[n / 8]).drop (n % 8)) ++ textBits (t.drop (n / 8 + 1)) := by
    conv => lhs; rw [hs]
    rw [textBits_append, List.drop_append, List.drop_of_length_le (by rw [hl]; omega), List.nil_append, hl]
    rw [show n - 8 * (n / 8) = n % 8 by omega]
    simp only [textBits, List.flatMap_cons]
    rw [List.drop_append_of_le_length (by rw [bitsOf_length]; omega)]
  have hr : n % 8 < 8 := Nat.mod_lt _ (by decide)
  have e2 : bitsOf 8 t[n / 8] = bitsOf (n % 8) (t[n / 8] / 2 ^ (8 - n % 8)) ++ bitsOf (8 - n % 8) t[n / 8] := by
    rw [← bitsOf_add]; congr 1; omega
  have e3 : bitsOf (8 - n % 8) t[n / 8] = bitsOf m (t[n / 8] / 2 ^ (8 - n % 8 - m)) ++ bitsOf (8 - n % 8 - m) t[n / 8] := by
    rw [← bitsOf_add]; congr 1; omega
  rw [e1, e2, List.drop_append, List.drop_of_length_le (by rw [bitsOf_length]; omega), List.nil_append, bitsOf_length, Nat.sub_self, List.drop_zero, e3, List.append_assoc, List.take_append_of_le_length (by rw [bitsOf_length]; omega), List.take_of_length_le (by rw [bitsOf_length]; omega)]
/-- The bits of bytes: the bits, and noughts behind. -/
theorem bitsOf_mul (w k x : Nat) : bitsOf (w + k) (x * 2 ^ k) = bitsOf w x ++ List.replicate k false := by
  rw [bitsOf_add, Nat.mul_div_cancel _ (Nat.two_pow_pos _)]
  congr 1
  apply List.ext_getElem
  · simp [bitsOf_length]
  · intro i h1 h2
    simp only [bitsOf_length] at h1
    simp only [bitsOf, List.getElem_map, List.getElem_range, List.getElem_replicate]
    rw [Nat.testBit_mul_two_pow]
    rw [decide_eq_false (by omega)]; rfl
theorem textBits_pack (B : List Bool) : textBits (packB B) = B ++ List.replicate (8 * ((B.length + 7) / 8) - B.length) false := by
  have key : ∀ (n : Nat) (B : List Bool), B.length ≤ n → textBits (packB B) = B ++ List.replicate (8 * ((B.length + 7) / 8) - B.length) false := by
    intro n
    induction n using Nat.strongRecOn with
    | _ n ih =>
      intro B hB
      by_cases h0 : B.length = 0
      · have := List.eq_nil_of_length_eq_zero h0; subst this; rfl
      · have hsplit : packB B = byteOf B 0 :: packB (B.drop 8) := by
          unfold packB
          have e : (B.length + 7) / 8 = ((B.drop 8).length + 7) / 8 + 1 := by rw [List.length_drop]; omega
          rw [e, List.range_succ_eq_map, List.map_cons, List.map_map]
          congr 1
          refine List.map_congr_left fun j _ => ?_
          simp only [Function.comp, byteOf, List.drop_drop]
          rw [show 8 + 8 * j = 8 * (j + 1) by omega]
        rw [hsplit]
        simp only [textBits, List.flatMap_cons]
        have ih' := ih (n - 1) (by omega) (B.drop 8) (by rw [List.length_drop]; omega)
        simp only [textBits] at ih'
        rw [ih']
        have hb : bitsOf 8 (byteOf B 0) = B.take 8 ++ List.replicate (8 - (B.take 8).length) false := by
          unfold byteOf
          rw [Nat.mul_zero, List.drop_zero]
          have hl : (B.take 8).length ≤ 8 := by rw [List.length_take]; omega
          have := bitsOf_mul (B.take 8).length (8 - (B.take 8).length) (num (B.take 8))
          rw [Nat.add_sub_cancel' hl, bitsOf_num] at this
          exact this
        rw [hb]
        by_cases h8 : 8 ≤ B.length
        · have hl : (B.take 8).length = 8 := by rw [List.length_take]; omega
          rw [hl, Nat.sub_self, List.replicate_zero, List.append_nil, ← List.append_assoc, List.take_append_drop, List.length_drop]
          congr 2
          omega
        · have hl : (B.take 8).length = B.length := by rw [List.length_take]; omega
          have hd : B.drop 8 = [] := List.drop_of_length_le (by omega)
          rw [hl, hd, List.take_of_length_le (by omega)]
          simp only [List.length_nil, List.nil_append]
          rw [show 8 * ((0 + 7) / 8) - 0 = 0 by omega, List.replicate_zero, List.append_nil]
          congr 2
          omega
  exact key _ B (Nat.le_refl _)
end Go.Proofs.YtlfmckjehjedpaaGreatDoor

/- The bits: writer and reader. -/
namespace Go.Proofs.YtlfmckjehjedpaaGreatDoor
set_option linter.unusedVariables false
set_option linter.unusedSimpArgs false
set_option maxRecDepth 100000
open SL Go.RowKit Go.Maps

/-- A writer's memory. -/
abbrev wrH (w : Nat) (n : Int) (g : Option (Nat × Nat)) (o : List Nat) : Heap := [.cells w [.int .i64 n, svOf g o.length] 108 (0, 0), .own (svOf g o.length) o.length 5 1 (bytesV o)]
theorem bNew_ok (F : Mem) : FT Tryz.prog 13 [].toArray F [] (fun e H => ∃ w, e = .returned (.pointer (some ⟨w, 0, none⟩)) ∧ H = wrH w 0 none []) := by
  refine FT.of_body Tryz.func13 rfl Tryz.ntmps13 (by simp) fun C hC => ?_
  subst hC
  conv => whnf
  intro w
  conv => whnf
  repeat (first | (refine LoadV.s rfl rfl (forceV_of ?_); conv => whnf) | (refine LoadV.s rfl rfl ?_; conv => whnf) | (refine StoreV.c rfl rfl (Nat.le_of_ble_eq_true rfl) rfl ?_; conv => whnf) | (refine LoadV.a _ rfl (Nat.le_of_ble_eq_true rfl) ?_; conv => whnf) | (refine DrawI.quiet (by kernel_rfl) (by kernel_rfl) ?_; conv => whnf) | (refine ArI.in64 (by omega) ?_; conv => whnf) | (refine ArI.inU8 (by omega) ?_; conv => whnf) | (refine ArI.inU64 (by omega) ?_; conv => whnf) | (refine ArI.inU32 (by omega) ?_; conv => whnf) | (refine RetI.one Tryz.results13 rfl ?_; conv => whnf) | (refine RetI.two Tryz.results13 rfl rfl ?_; conv => whnf) | (refine RetI.three Tryz.results13 rfl rfl rfl ?_; conv => whnf) | (refine RetI.none Tryz.results13 ?_; conv => whnf) | (refine ⟨by first | decide | omega, ?_⟩; conv => whnf))
  exact ⟨_, Sub.trans (Sub.nil 5 1) (Sub.sel [1, 0] rfl), w, rfl, rfl⟩
theorem bLen_ok (F : Mem) (w : Nat) (n : Int) (x : Value) (T : TypeId) : FT Tryz.prog 69 [.pointer (some ⟨w, 0, none⟩)].toArray F [.cells w [.int .i64 n, x] T (0, 0)] (fun e H => e = .returned (.int .i64 n) ∧ H = [.cells w [.int .i64 n, x] T (0, 0)]) := by
  refine FT.of_body Tryz.func69 rfl Tryz.ntmps69 (by simp) fun C hC => ?_
  subst hC
  conv => whnf
  repeat (first | (refine LoadV.s rfl rfl (forceV_of ?_); conv => whnf) | (refine LoadV.s rfl rfl ?_; conv => whnf) | (refine StoreV.c rfl rfl (Nat.le_of_ble_eq_true rfl) rfl ?_; conv => whnf) | (refine LoadV.a _ rfl (Nat.le_of_ble_eq_true rfl) ?_; conv => whnf) | (refine DrawI.quiet (by kernel_rfl) (by kernel_rfl) ?_; conv => whnf) | (refine ArI.in64 (by omega) ?_; conv => whnf) | (refine ArI.inU8 (by omega) ?_; conv => whnf) | (refine ArI.inU64 (by omega) ?_; conv => whnf) | (refine ArI.inU32 (by omega) ?_; conv => whnf) | (refine RetI.one Tryz.results69 rfl ?_; conv => whnf) | (refine RetI.two Tryz.results69 rfl rfl ?_; conv => whnf) | (refine RetI.three Tryz.results69 rfl rfl rfl ?_; conv => whnf) | (refine RetI.none Tryz.results69 ?_; conv => whnf) | (refine ⟨by first | decide | omega, ?_⟩; conv => whnf))
  exact ⟨_, Sub.refl _, rfl, rfl⟩
theorem bAdd_ok (F : Mem) (w : Nat) (n m : Int) (x : Value) (T : TypeId) (h : -9223372036854775808 ≤ n + m ∧ n + m ≤ 9223372036854775807) :
    FT Tryz.prog 70 [.pointer (some ⟨w, 0, none⟩), .int .i64 m].toArray F [.cells w [.int .i64 n, x] T (0, 0)] (fun e H => e = .returned (.tuple #[]) ∧ H = [.cells w [.int .i64 (n + m), x] T (0, 0)]) := by
  refine FT.of_body Tryz.func70 rfl Tryz.ntmps70 (by simp) fun C hC => ?_
  subst hC
  conv => whnf
  repeat (first | (refine LoadV.s rfl rfl (forceV_of ?_); conv => whnf) | (refine LoadV.s rfl rfl ?_; conv => whnf) | (refine StoreV.c rfl rfl (Nat.le_of_ble_eq_true rfl) rfl ?_; conv => whnf) | (refine LoadV.a _ rfl (Nat.le_of_ble_eq_true rfl) ?_; conv => whnf) | (refine DrawI.quiet (by kernel_rfl) (by kernel_rfl) ?_; conv => whnf) | (refine ArI.in64 (by omega) ?_; conv => whnf) | (refine ArI.inU8 (by omega) ?_; conv => whnf) | (refine ArI.inU64 (by omega) ?_; conv => whnf) | (refine ArI.inU32 (by omega) ?_; conv => whnf) | (refine RetI.one Tryz.results70 rfl ?_; conv => whnf) | (refine RetI.two Tryz.results70 rfl rfl ?_; conv => whnf) | (refine RetI.three Tryz.results70 rfl rfl rfl ?_; conv => whnf) | (refine RetI.none Tryz.results70 ?_; conv => whnf) | (refine ⟨by first | decide | omega, ?_⟩; conv => whnf))
  exact ⟨_, Sub.refl _, rfl, rfl⟩
def fitsB (V : Nat) (width : Int) : Bool := decide (1 ≤ width ∧ width ≤ 64 ∧ V < 2 ^ width.toNat)
theorem bFits_ok (F : Mem) (V : Nat) (width : Int) (hv : V < 18446744073709551616) : FT Tryz.prog 68 [.int .u64 (V : Int), .int .i64 width].toArray F [] (Ret (.bool (fitsB V width))) := by
  refine FT.of_body Tryz.func68 rfl Tryz.ntmps68 (by simp) fun C hC => ?_
  subst hC
  conv => whnf
  repeat' (first | (refine LoadV.s rfl rfl (forceV_of ?_); conv => whnf) | (refine LoadV.s rfl rfl ?_; conv => whnf) | (refine StoreV.c rfl rfl (Nat.le_of_ble_eq_true rfl) rfl ?_; conv => whnf) | (refine LoadV.a _ rfl (Nat.le_of_ble_eq_true rfl) ?_; conv => whnf) | (refine DrawI.quiet (by kernel_rfl) (by kernel_rfl) ?_; conv => whnf) | (refine ArI.in64 (by omega) ?_; conv => whnf) | (refine ArI.inU8 (by omega) ?_; conv => whnf) | (refine ArI.inU64 (by omega) ?_; conv => whnf) | (refine ArI.inU32 (by omega) ?_; conv => whnf) | (refine RetI.one Tryz.results68 rfl ?_; conv => whnf) | (refine RetI.two Tryz.results68 rfl rfl ?_; conv => whnf) | (refine RetI.three Tryz.results68 rfl rfl rfl ?_; conv => whnf) | (refine RetI.none Tryz.results68 ?_; conv => whnf) | (refine ⟨by first | decide | omega, ?_⟩; conv => whnf) | (refine cond_dec ?_ ?_ <;> intro <;> conv => whnf))
  · rename_i h1 h2 h3
    subst h3
    exact ⟨_, Sub.refl _, ret_bool (by unfold fitsB; rw [decide_eq_true ⟨h1, h2, by simpa using hv⟩]), rfl⟩
  · rename_i h1 h2 h3
    obtain ⟨W, rfl⟩ := Int.eq_ofNat_of_zero_le (show 0 ≤ width by omega)
    refine ⟨_, Sub.refl _, ret_bool ?_, rfl⟩
    have hs : Int.fdiv (V : Int) (2 ^ min (Int.toNat (W : Int)) 64) = ((V / 2 ^ W : Nat) : Int) := shr_le (by omega)
    have e : fitsB V (W : Int) = decide (V < 2 ^ W) := by unfold fitsB; rw [Int.toNat_natCast]; exact decide_eq_decide.2 ⟨fun h => h.2.2, fun h => ⟨by omega, by omega, h⟩⟩
    rw [e]
    show (Int.fdiv (V : Int) (2 ^ min (Int.toNat (W : Int)) 64) == 0) = _
    rw [hs]
    by_cases h : V < 2 ^ W
    · rw [Nat.div_eq_of_lt h, decide_eq_true h]; rfl
    · have : V / 2 ^ W ≠ 0 := fun e => h ((Nat.div_eq_zero_iff.1 e).resolve_left (by have := Nat.two_pow_pos W; omega))
      rw [decide_eq_false h, beq_eq_false_iff_ne]
      exact fun e => this (by exact_mod_cast e)
  · rename_i h1 h2
    exact ⟨_, Sub.refl _, ret_bool (by unfold fitsB; rw [decide_eq_false (by omega)]), rfl⟩
  · rename_i h1
    exact ⟨_, Sub.refl _, ret_bool (by unfold fitsB; rw [decide_eq_false (by omega)]), rfl⟩
theorem bytesV_put (A : List Nat) (x y : Nat) : putAt (bytesV (A ++ [x])) (0 + A.length) [.int .u8 (y : Int)] = bytesV (A ++ [y]) := by
  unfold putAt
  rw [Nat.zero_add]
  simp
theorem bytesV_at (A : List Nat) (x : Nat) : (bytesV (A ++ [x]))[0 + A.length]? = some (.int .u8 (x : Int)) := by
  rw [Nat.zero_add]; simp
theorem wrH_mk {w : Nat} {n : Int} {gb gc nn : Nat} {o : List Nat} (h : o.length = nn) :
    [HObj.cells w [.int .i64 n, .slice (some ⟨gb, 0, none⟩) nn gc] 108 (0, 0), .own (.slice (some ⟨gb, 0, none⟩) nn gc) nn 5 1 (bytesV o)] = wrH w n (some (gb, gc)) o := by subst h; rfl
/-- The bits behind a putting. -/
theorem bPut_ok (F : Mem) (w : Nat) (B : List Bool) (g : Option (Nat × Nat)) (hg : g = none ↔ B = []) (V : Nat) (width : Int) (hv : V < 18446744073709551616) (hB : B.length ≤ 35184372088832) :
    FT Tryz.prog 36 [.pointer (some ⟨w, 0, none⟩), .int .u64 (V : Int), .int .i64 width].toArray F (wrH w B.length g (packB B))
    (fun e H => (fitsB V width = false ∧ e = .returned (.int .i64 6) ∧ H = wrH w B.length g (packB B)) ∨
      (fitsB V width = true ∧ e = .returned (.int .i64 0) ∧ ∃ g', (g' = none ↔ B ++ bitsOf width.toNat V = []) ∧ H = wrH w ((B ++ bitsOf width.toNat V).length : Nat) g' (packB (B ++ bitsOf width.toNat V)))) := by
  refine FT.of_body Tryz.func36 rfl Tryz.ntmps36 (by simp) fun C hC => ?_
  subst hC
  conv => whnf
  repeat (first | (refine LoadV.s rfl rfl (forceV_of ?_); conv => whnf) | (refine LoadV.s rfl rfl ?_; conv => whnf) | (refine StoreV.c rfl rfl (Nat.le_of_ble_eq_true rfl) rfl ?_; conv => whnf) | (refine LoadV.a _ rfl (Nat.le_of_ble_eq_true rfl) ?_; conv => whnf) | (refine DrawI.quiet (by kernel_rfl) (by kernel_rfl) ?_; conv => whnf) | (refine ArI.in64 (by omega) ?_; conv => whnf) | (refine ArI.inU8 (by omega) ?_; conv => whnf) | (refine ArI.inU64 (by omega) ?_; conv => whnf) | (refine ArI.inU32 (by omega) ?_; conv => whnf) | (refine RetI.one Tryz.results36 rfl ?_; conv => whnf) | (refine RetI.two Tryz.results36 rfl rfl ?_; conv => whnf) | (refine RetI.three Tryz.results36 rfl rfl rfl ?_; conv => whnf) | (refine RetI.none Tryz.results36 ?_; conv => whnf) | (refine ⟨by first | decide | omega, ?_⟩; conv => whnf))
  refine CallS.mk Tryz.call68 ⟨[], _, _, Sub.refl _, fun F' hF' => bFits_ok F' V width hv, ?_⟩
  rintro e A' ⟨rfl, rfl⟩
  cases hf : fitsB V width with
  | false =>
    conv => whnf
    repeat (first | (refine LoadV.s rfl rfl (forceV_of ?_); conv => whnf) | (refine LoadV.s rfl rfl ?_; conv => whnf) | (refine StoreV.c rfl rfl (Nat.le_of_ble_eq_true rfl) rfl ?_; conv => whnf) | (refine LoadV.a _ rfl (Nat.le_of_ble_eq_true rfl) ?_; conv => whnf) | (refine DrawI.quiet (by kernel_rfl) (by kernel_rfl) ?_; conv => whnf) | (refine ArI.in64 (by omega) ?_; conv => whnf) | (refine ArI.inU8 (by omega) ?_; conv => whnf) | (refine ArI.inU64 (by omega) ?_; conv => whnf) | (refine ArI.inU32 (by omega) ?_; conv => whnf) | (refine RetI.one Tryz.results36 rfl ?_; conv => whnf) | (refine RetI.two Tryz.results36 rfl rfl ?_; conv => whnf) | (refine RetI.three Tryz.results36 rfl rfl rfl ?_; conv => whnf) | (refine RetI.none Tryz.results36 ?_; conv => whnf) | (refine ⟨by first | decide | omega, ?_⟩; conv => whnf))
    exact ⟨_, Sub.refl _, .inl ⟨rfl, rfl, rfl⟩⟩
  | true =>
    conv => whnf
    repeat (first | (refine LoadV.s rfl rfl (forceV_of ?_); conv => whnf) | (refine LoadV.s rfl rfl ?_; conv => whnf) | (refine StoreV.c rfl rfl (Nat.le_of_ble_eq_true rfl) rfl ?_; conv => whnf) | (refine LoadV.a _ rfl (Nat.le_of_ble_eq_true rfl) ?_; conv => whnf) | (refine DrawI.quiet (by kernel_rfl) (by kernel_rfl) ?_; conv => whnf) | (refine ArI.in64 (by omega) ?_; conv => whnf) | (refine ArI.inU8 (by omega) ?_; conv => whnf) | (refine ArI.inU64 (by omega) ?_; conv => whnf) | (refine ArI.inU32 (by omega) ?_; conv => whnf) | (refine RetI.one Tryz.results36 rfl ?_; conv => whnf) | (refine RetI.two Tryz.results36 rfl rfl ?_; conv => whnf) | (refine RetI.three Tryz.results36 rfl rfl rfl ?_; conv => whnf) | (refine RetI.none Tryz.results36 ?_; conv => whnf) | (refine ⟨by first | decide | omega, ?_⟩; conv => whnf))
    have hf' : 1 ≤ width ∧ width ≤ 64 ∧ V < 2 ^ width.toNat := of_decide_eq_true hf
    obtain ⟨W, rfl⟩ := Int.eq_ofNat_of_zero_le (show 0 ≤ width by omega)
    simp only [Int.toNat_natCast] at hf'
    refine LoopI.by_state (σ := Nat × List Bool × Option (Nat × Nat)) (fun x => [(0, .pointer (some ⟨w, 0, none⟩)), (1, .int .u64 (V : Int)), (7, .int .i64 (x.1 : Int))]) (fun x => wrH w (x.2.1.length : Nat) x.2.2 (packB x.2.1))
      (fun x => x.1 ≤ W ∧ x.2.1 = B ++ bitsOf (W - x.1) (V / 2 ^ x.1) ∧ (x.2.2 = none ↔ x.2.1 = [])) (fun x => x.1) (W, B, g) ⟨Nat.le_refl _, by simp [bitsOf_zero], hg⟩ ⟨rfl, rfl, rfl, trivial⟩ (Sub.refl _) ?_
    rintro ⟨left, B', g'⟩ f0 ⟨hl, hB', hg'⟩
    dsimp only at hl hB' hg' ⊢
    have hBl : B'.length ≤ B.length + 64 := by rw [hB', List.length_append, bitsOf_length]; omega
    obtain ⟨A, last, hAl, hlast, hA0, hA1, hpack⟩ := pack_prep B'
    conv => whnf
    refine cond_dec (fun h => ?_) (fun h => ?_)
    · conv => whnf
      repeat (first | (refine LoadV.s rfl rfl (forceV_of ?_); conv => whnf) | (refine LoadV.s rfl rfl ?_; conv => whnf) | (refine StoreV.c rfl rfl (Nat.le_of_ble_eq_true rfl) rfl ?_; conv => whnf) | (refine LoadV.a _ rfl (Nat.le_of_ble_eq_true rfl) ?_; conv => whnf) | (refine DrawI.quiet (by kernel_rfl) (by kernel_rfl) ?_; conv => whnf) | (refine ArI.in64 (by omega) ?_; conv => whnf) | (refine ArI.inU8 (by omega) ?_; conv => whnf) | (refine ArI.inU64 (by omega) ?_; conv => whnf) | (refine ArI.inU32 (by omega) ?_; conv => whnf) | (refine RetI.one Tryz.results36 rfl ?_; conv => whnf) | (refine RetI.two Tryz.results36 rfl rfl ?_; conv => whnf) | (refine RetI.three Tryz.results36 rfl rfl rfl ?_; conv => whnf) | (refine RetI.none Tryz.results36 ?_; conv => whnf) | (refine ⟨by first | decide | omega, ?_⟩; conv => whnf))
      refine CallS.mk Tryz.call69 ⟨[_], _, _, Sub.split [0] rfl, fun F' hF' => bLen_ok F' w _ _ _, ?_⟩
      rintro e A' ⟨rfl, rfl⟩
      conv => whnf
      rw [i64_and7]
      repeat (first | (refine LoadV.s rfl rfl (forceV_of ?_); conv => whnf) | (refine LoadV.s rfl rfl ?_; conv => whnf) | (refine StoreV.c rfl rfl (Nat.le_of_ble_eq_true rfl) rfl ?_; conv => whnf) | (refine LoadV.a _ rfl (Nat.le_of_ble_eq_true rfl) ?_; conv => whnf) | (refine DrawI.quiet (by kernel_rfl) (by kernel_rfl) ?_; conv => whnf) | (refine ArI.in64 (by omega) ?_; conv => whnf) | (refine ArI.inU8 (by omega) ?_; conv => whnf) | (refine ArI.inU64 (by omega) ?_; conv => whnf) | (refine ArI.inU32 (by omega) ?_; conv => whnf) | (refine RetI.one Tryz.results36 rfl ?_; conv => whnf) | (refine RetI.two Tryz.results36 rfl rfl ?_; conv => whnf) | (refine RetI.three Tryz.results36 rfl rfl rfl ?_; conv => whnf) | (refine RetI.none Tryz.results36 ?_; conv => whnf) | (refine ⟨by first | decide | omega, ?_⟩; conv => whnf))
      refine cond_split (fun h2 => ?_) (fun h2 => ?_)
      · have h2 : B'.length % 8 = 0 := by have := of_decide_eq_true h2; omega
        obtain ⟨hA, hlast0⟩ := hA0 h2
        conv => whnf
        repeat (first | (refine LoadV.s rfl rfl (forceV_of ?_); conv => whnf) | (refine LoadV.s rfl rfl ?_; conv => whnf) | (refine StoreV.c rfl rfl (Nat.le_of_ble_eq_true rfl) rfl ?_; conv => whnf) | (refine LoadV.a _ rfl (Nat.le_of_ble_eq_true rfl) ?_; conv => whnf) | (refine DrawI.quiet (by kernel_rfl) (by kernel_rfl) ?_; conv => whnf) | (refine ArI.in64 (by omega) ?_; conv => whnf) | (refine ArI.inU8 (by omega) ?_; conv => whnf) | (refine ArI.inU64 (by omega) ?_; conv => whnf) | (refine ArI.inU32 (by omega) ?_; conv => whnf) | (refine RetI.one Tryz.results36 rfl ?_; conv => whnf) | (refine RetI.two Tryz.results36 rfl rfl ?_; conv => whnf) | (refine RetI.three Tryz.results36 rfl rfl rfl ?_; conv => whnf) | (refine RetI.none Tryz.results36 ?_; conv => whnf) | (refine ⟨by first | decide | omega, ?_⟩; conv => whnf))
        intro b
        conv => whnf
        refine BuiltV.append (sv := svOf g' (packB B').length) (m := 1) Tryz.underlying78 rfl rfl rfl rfl (by decide) (Row.cells 1) rfl (by decide) rfl (by show ((packB B').length + 1) * 1 ≤ _; rw [packB_length]; omega) (by rw [packB_length]; omega) fun gb gc => ?_
        have hrow : bytesV (packB B') ++ ((([Value.int .u8 0] : List Value).drop 0).take 1) = bytesV (A ++ [last]) := by subst hA; subst hlast0; simp
        rw [hrow]
        have hnn : (packB B').length + 1 = A.length + 1 := by rw [hA]
        generalize (packB B').length + 1 = nn at hnn ⊢
        conv => whnf
        repeat (first | (refine LoadV.s rfl rfl (forceV_of ?_); conv => whnf) | (refine LoadV.s rfl rfl ?_; conv => whnf) | (refine StoreV.c rfl rfl (Nat.le_of_ble_eq_true rfl) rfl ?_; conv => whnf) | (refine LoadV.a _ rfl (Nat.le_of_ble_eq_true rfl) ?_; conv => whnf) | (refine DrawI.quiet (by kernel_rfl) (by kernel_rfl) ?_; conv => whnf) | (refine RetI.one Tryz.results36 rfl ?_; conv => whnf) | (refine RetI.two Tryz.results36 rfl rfl ?_; conv => whnf) | (refine RetI.three Tryz.results36 rfl rfl rfl ?_; conv => whnf) | (refine RetI.none Tryz.results36 ?_; conv => whnf) | (refine ⟨by first | decide | omega, ?_⟩; conv => whnf))
        obtain ⟨m, k, hm, hlk, hm0, hm8⟩ : ∃ m k : Nat, min (8 - (B'.length : Int) % 8) (left : Int) = (m : Int) ∧ left = m + k ∧ 0 < m ∧ m ≤ 8 - B'.length % 8 :=
          ⟨min (8 - B'.length % 8) left, left - min (8 - B'.length % 8) left, by omega, by omega, by omega, by omega⟩
        rw [hm]
        refine ArI.to64 (k : Int) (by omega) (by omega) ?_
        conv => whnf
        repeat (first | (refine LoadV.s rfl rfl (forceV_of ?_); conv => whnf) | (refine LoadV.s rfl rfl ?_; conv => whnf) | (refine StoreV.c rfl rfl (Nat.le_of_ble_eq_true rfl) rfl ?_; conv => whnf) | (refine LoadV.a _ rfl (Nat.le_of_ble_eq_true rfl) ?_; conv => whnf) | (refine DrawI.quiet (by kernel_rfl) (by kernel_rfl) ?_; conv => whnf) | (refine ArI.in64 (by omega) ?_; conv => whnf) | (refine ArI.inU8 (by omega) ?_; conv => whnf) | (refine ArI.inU64 (by omega) ?_; conv => whnf) | (refine ArI.inU32 (by omega) ?_; conv => whnf) | (refine RetI.one Tryz.results36 rfl ?_; conv => whnf) | (refine RetI.two Tryz.results36 rfl rfl ?_; conv => whnf) | (refine RetI.three Tryz.results36 rfl rfl rfl ?_; conv => whnf) | (refine RetI.none Tryz.results36 ?_; conv => whnf) | (refine ⟨by first | decide | omega, ?_⟩; conv => whnf))
        have hs : Int.fdiv (V : Int) (2 ^ min (Int.toNat (k : Int)) IntKind.u64.bits) = ((V / 2 ^ k : Nat) : Int) := shr_le (show k ≤ 64 by omega)
        rw [hs]
        refine ArI.mk _ (wrap_u8_nat _) ?_
        conv => whnf
        repeat (first | (refine LoadV.s rfl rfl (forceV_of ?_); conv => whnf) | (refine LoadV.s rfl rfl ?_; conv => whnf) | (refine StoreV.c rfl rfl (Nat.le_of_ble_eq_true rfl) rfl ?_; conv => whnf) | (refine LoadV.a _ rfl (Nat.le_of_ble_eq_true rfl) ?_; conv => whnf) | (refine DrawI.quiet (by kernel_rfl) (by kernel_rfl) ?_; conv => whnf) | (refine ArI.in64 (by omega) ?_; conv => whnf) | (refine ArI.inU8 (by omega) ?_; conv => whnf) | (refine ArI.inU64 (by omega) ?_; conv => whnf) | (refine ArI.inU32 (by omega) ?_; conv => whnf) | (refine RetI.one Tryz.results36 rfl ?_; conv => whnf) | (refine RetI.two Tryz.results36 rfl rfl ?_; conv => whnf) | (refine RetI.three Tryz.results36 rfl rfl rfl ?_; conv => whnf) | (refine RetI.none Tryz.results36 ?_; conv => whnf) | (refine ⟨by first | decide | omega, ?_⟩; conv => whnf))
        refine ArI.mk _ (u8_ones m (by omega)) ?_
        conv => whnf
        have hmod : V / 2 ^ k % 256 % 2 ^ m = num (bitsOf m (V / 2 ^ k)) := by
          rw [num_bitsOf, show 256 = 2 ^ 8 from rfl, Nat.mod_mod_of_dvd _ (Nat.pow_dvd_pow 2 (by omega))]
        rw [u8_mask _ m (Nat.mod_lt _ (by decide)) (by omega), hmod]
        have hc := bitsOf_length m (V / 2 ^ k)
        have hN := num_lt (bitsOf m (V / 2 ^ k))
        have hpk := hpack (bitsOf m (V / 2 ^ k)) (by omega) (by omega)
        have hbits : B' ++ bitsOf m (V / 2 ^ k) = B ++ bitsOf (W - k) (V / 2 ^ k) := by
          rw [hB', List.append_assoc, hlk, show V / 2 ^ (m + k) = V / 2 ^ k / 2 ^ m by rw [Nat.div_div_eq_div_mul, ← Nat.pow_add, Nat.add_comm], ← bitsOf_add, show W - (m + k) + m = W - k by omega]
        generalize bitsOf m (V / 2 ^ k) = c at hc hN hpk hbits ⊢
        obtain ⟨j, hj⟩ : ∃ j : Nat, 8 - B'.length % 8 = m + j := ⟨8 - B'.length % 8 - m, by omega⟩
        have hNj : num c * 2 ^ j < 256 := by
          have h8 : 2 ^ (m + j) ≤ 2 ^ 8 := Nat.pow_le_pow_right (by decide) (by omega)
          have : num c * 2 ^ j < 2 ^ m * 2 ^ j := Nat.mul_lt_mul_of_pos_right (by rw [hc] at hN; exact hN) (Nat.two_pow_pos _)
          rw [← Nat.pow_add] at this; omega
        refine DrawI.tail 20 (by kernel_rfl) (by kernel_rfl) ?_
        conv => whnf
        repeat (first | (refine LoadV.s rfl rfl (forceV_of ?_); conv => whnf) | (refine LoadV.s rfl rfl ?_; conv => whnf) | (refine StoreV.c rfl rfl (Nat.le_of_ble_eq_true rfl) rfl ?_; conv => whnf) | (refine LoadV.a _ rfl (Nat.le_of_ble_eq_true rfl) ?_; conv => whnf) | (refine DrawI.quiet (by kernel_rfl) (by kernel_rfl) ?_; conv => whnf) | (refine RetI.one Tryz.results36 rfl ?_; conv => whnf) | (refine RetI.two Tryz.results36 rfl rfl ?_; conv => whnf) | (refine RetI.three Tryz.results36 rfl rfl rfl ?_; conv => whnf) | (refine RetI.none Tryz.results36 ?_; conv => whnf) | (refine ⟨by first | decide | omega, ?_⟩; conv => whnf))
        refine ArI.to64 (A.length : Int) (by omega) (by omega) ?_
        conv => whnf
        refine ⟨by omega, ?_⟩
        conv => whnf
        refine LoadV.os rfl (bytesV_at A last) ?_
        conv => whnf
        refine ArI.to64 (j : Int) (by omega) (by omega) ?_
        conv => whnf
        repeat (first | (refine LoadV.s rfl rfl (forceV_of ?_); conv => whnf) | (refine LoadV.s rfl rfl ?_; conv => whnf) | (refine StoreV.c rfl rfl (Nat.le_of_ble_eq_true rfl) rfl ?_; conv => whnf) | (refine LoadV.a _ rfl (Nat.le_of_ble_eq_true rfl) ?_; conv => whnf) | (refine DrawI.quiet (by kernel_rfl) (by kernel_rfl) ?_; conv => whnf) | (refine ArI.in64 (by omega) ?_; conv => whnf) | (refine ArI.inU8 (by omega) ?_; conv => whnf) | (refine ArI.inU64 (by omega) ?_; conv => whnf) | (refine ArI.inU32 (by omega) ?_; conv => whnf) | (refine RetI.one Tryz.results36 rfl ?_; conv => whnf) | (refine RetI.two Tryz.results36 rfl rfl ?_; conv => whnf) | (refine RetI.three Tryz.results36 rfl rfl rfl ?_; conv => whnf) | (refine RetI.none Tryz.results36 ?_; conv => whnf) | (refine ⟨by first | decide | omega, ?_⟩; conv => whnf))
        have hsl : IntKind.u8.wrap ((num c : Int) * 2 ^ min (Int.toNat (j : Int)) IntKind.u8.bits) = ((num c * 2 ^ j : Nat) : Int) := by
          rw [mul_pow_nat, wrap_u8_nat]
          have : min j IntKind.u8.bits = j := Nat.min_eq_left (show j ≤ 8 by omega)
          rw [this, Nat.mod_eq_of_lt hNj]
        rw [hsl, u8_or_nat _ _ hlast hNj]
        refine StoreV.os (l := bytesV (A ++ [last])) rfl rfl (by show 0 + A.length + 1 ≤ _; simp) rfl ?_
        have hput := bytesV_put A last (last ||| num c * 2 ^ j)
        rw [show (Value.int IntKind.u8 ((last ||| num c * 2 ^ j : Nat) : Int)).cells.toList = [.int .u8 ((last ||| num c * 2 ^ j : Nat) : Int)] from rfl]
        rw [show elemOff 0 (A.length : Int) (Tryz.prog.types[5]'(by decide)).size = 0 + A.length from rfl, hput]
        conv => whnf
        refine CallS.mk Tryz.call70 ⟨[_], _, _, Sub.split [1] rfl, fun F' hF' => bAdd_ok F' w _ _ _ _ (by omega), ?_⟩
        rintro e A' ⟨rfl, rfl⟩
        conv => whnf
        refine ArI.to64 (k : Int) (by omega) (by omega) ?_
        conv => whnf
        have hpk' : packB (B' ++ c) = A ++ [last ||| num c * 2 ^ j] := by rw [hpk]; congr 5; omega
        refine ⟨(k, B' ++ c, some (gb, gc)), _, by dsimp only; omega, Sub.sel [0, 2] rfl, ⟨by dsimp only; omega, by dsimp only; exact hbits, by simp; intro _ e; subst e; simp at hc; omega⟩, ⟨rfl, rfl, rfl, trivial⟩, ?_⟩
        dsimp only
        rw [hpk', show (((B' ++ c).length : Nat) : Int) = (B'.length : Int) + (m : Int) by rw [List.length_append, hc]; omega]
        exact wrH_mk (by rw [hnn]; simp)
      · have h2 : B'.length % 8 ≠ 0 := by have := of_decide_eq_false h2; omega
        have hA := hA1 h2
        have hnn : (packB B').length = A.length + 1 := by rw [hA]; simp
        cases g' with
        | none => exact absurd (hg'.1 rfl) (by intro e; subst e; simp at h2)
        | some gg =>
          obtain ⟨gb, gc⟩ := gg
          rw [show svOf (some (gb, gc)) (packB B').length = .slice (some ⟨gb, 0, none⟩) (packB B').length gc from rfl]
          generalize (packB B').length = nn at hnn ⊢
          rw [hA]
          conv => whnf
          repeat (first | (refine LoadV.s rfl rfl (forceV_of ?_); conv => whnf) | (refine LoadV.s rfl rfl ?_; conv => whnf) | (refine StoreV.c rfl rfl (Nat.le_of_ble_eq_true rfl) rfl ?_; conv => whnf) | (refine LoadV.a _ rfl (Nat.le_of_ble_eq_true rfl) ?_; conv => whnf) | (refine DrawI.quiet (by kernel_rfl) (by kernel_rfl) ?_; conv => whnf) | (refine RetI.one Tryz.results36 rfl ?_; conv => whnf) | (refine RetI.two Tryz.results36 rfl rfl ?_; conv => whnf) | (refine RetI.three Tryz.results36 rfl rfl rfl ?_; conv => whnf) | (refine RetI.none Tryz.results36 ?_; conv => whnf) | (refine ⟨by first | decide | omega, ?_⟩; conv => whnf))
          obtain ⟨m, k, hm, hlk, hm0, hm8⟩ : ∃ m k : Nat, min (8 - (B'.length : Int) % 8) (left : Int) = (m : Int) ∧ left = m + k ∧ 0 < m ∧ m ≤ 8 - B'.length % 8 :=
            ⟨min (8 - B'.length % 8) left, left - min (8 - B'.length % 8) left, by omega, by omega, by omega, by omega⟩
          rw [hm]
          refine ArI.to64 (k : Int) (by omega) (by omega) ?_
          conv => whnf
          repeat (first | (refine LoadV.s rfl rfl (forceV_of ?_); conv => whnf) | (refine LoadV.s rfl rfl ?_; conv => whnf) | (refine StoreV.c rfl rfl (Nat.le_of_ble_eq_true rfl) rfl ?_; conv => whnf) | (refine LoadV.a _ rfl (Nat.le_of_ble_eq_true rfl) ?_; conv => whnf) | (refine DrawI.quiet (by kernel_rfl) (by kernel_rfl) ?_; conv => whnf) | (refine ArI.in64 (by omega) ?_; conv => whnf) | (refine ArI.inU8 (by omega) ?_; conv => whnf) | (refine ArI.inU64 (by omega) ?_; conv => whnf) | (refine ArI.inU32 (by omega) ?_; conv => whnf) | (refine RetI.one Tryz.results36 rfl ?_; conv => whnf) | (refine RetI.two Tryz.results36 rfl rfl ?_; conv => whnf) | (refine RetI.three Tryz.results36 rfl rfl rfl ?_; conv => whnf) | (refine RetI.none Tryz.results36 ?_; conv => whnf) | (refine ⟨by first | decide | omega, ?_⟩; conv => whnf))
          have hs : Int.fdiv (V : Int) (2 ^ min (Int.toNat (k : Int)) IntKind.u64.bits) = ((V / 2 ^ k : Nat) : Int) := shr_le (show k ≤ 64 by omega)
          rw [hs]
          refine ArI.mk _ (wrap_u8_nat _) ?_
          conv => whnf
          repeat (first | (refine LoadV.s rfl rfl (forceV_of ?_); conv => whnf) | (refine LoadV.s rfl rfl ?_; conv => whnf) | (refine StoreV.c rfl rfl (Nat.le_of_ble_eq_true rfl) rfl ?_; conv => whnf) | (refine LoadV.a _ rfl (Nat.le_of_ble_eq_true rfl) ?_; conv => whnf) | (refine DrawI.quiet (by kernel_rfl) (by kernel_rfl) ?_; conv => whnf) | (refine ArI.in64 (by omega) ?_; conv => whnf) | (refine ArI.inU8 (by omega) ?_; conv => whnf) | (refine ArI.inU64 (by omega) ?_; conv => whnf) | (refine ArI.inU32 (by omega) ?_; conv => whnf) | (refine RetI.one Tryz.results36 rfl ?_; conv => whnf) | (refine RetI.two Tryz.results36 rfl rfl ?_; conv => whnf) | (refine RetI.three Tryz.results36 rfl rfl rfl ?_; conv => whnf) | (refine RetI.none Tryz.results36 ?_; conv => whnf) | (refine ⟨by first | decide | omega, ?_⟩; conv => whnf))
          refine ArI.mk _ (u8_ones m (by omega)) ?_
          conv => whnf
          have hmod : V / 2 ^ k % 256 % 2 ^ m = num (bitsOf m (V / 2 ^ k)) := by
            rw [num_bitsOf, show 256 = 2 ^ 8 from rfl, Nat.mod_mod_of_dvd _ (Nat.pow_dvd_pow 2 (by omega))]
          rw [u8_mask _ m (Nat.mod_lt _ (by decide)) (by omega), hmod]
          have hc := bitsOf_length m (V / 2 ^ k)
          have hN := num_lt (bitsOf m (V / 2 ^ k))
          have hpk := hpack (bitsOf m (V / 2 ^ k)) (by omega) (by omega)
          have hbits : B' ++ bitsOf m (V / 2 ^ k) = B ++ bitsOf (W - k) (V / 2 ^ k) := by
            rw [hB', List.append_assoc, hlk, show V / 2 ^ (m + k) = V / 2 ^ k / 2 ^ m by rw [Nat.div_div_eq_div_mul, ← Nat.pow_add, Nat.add_comm], ← bitsOf_add, show W - (m + k) + m = W - k by omega]
          generalize bitsOf m (V / 2 ^ k) = c at hc hN hpk hbits ⊢
          obtain ⟨j, hj⟩ : ∃ j : Nat, 8 - B'.length % 8 = m + j := ⟨8 - B'.length % 8 - m, by omega⟩
          have hNj : num c * 2 ^ j < 256 := by
            have h8 : 2 ^ (m + j) ≤ 2 ^ 8 := Nat.pow_le_pow_right (by decide) (by omega)
            have : num c * 2 ^ j < 2 ^ m * 2 ^ j := Nat.mul_lt_mul_of_pos_right (by rw [hc] at hN; exact hN) (Nat.two_pow_pos _)
            rw [← Nat.pow_add] at this; omega
          refine DrawI.tail 20 (by kernel_rfl) (by kernel_rfl) ?_
          conv => whnf
          repeat (first | (refine LoadV.s rfl rfl (forceV_of ?_); conv => whnf) | (refine LoadV.s rfl rfl ?_; conv => whnf) | (refine StoreV.c rfl rfl (Nat.le_of_ble_eq_true rfl) rfl ?_; conv => whnf) | (refine LoadV.a _ rfl (Nat.le_of_ble_eq_true rfl) ?_; conv => whnf) | (refine DrawI.quiet (by kernel_rfl) (by kernel_rfl) ?_; conv => whnf) | (refine RetI.one Tryz.results36 rfl ?_; conv => whnf) | (refine RetI.two Tryz.results36 rfl rfl ?_; conv => whnf) | (refine RetI.three Tryz.results36 rfl rfl rfl ?_; conv => whnf) | (refine RetI.none Tryz.results36 ?_; conv => whnf) | (refine ⟨by first | decide | omega, ?_⟩; conv => whnf))
          refine ArI.to64 (A.length : Int) (by omega) (by omega) ?_
          conv => whnf
          refine ⟨by omega, ?_⟩
          conv => whnf
          refine LoadV.os rfl (bytesV_at A last) ?_
          conv => whnf
          refine ArI.to64 (j : Int) (by omega) (by omega) ?_
          conv => whnf
          repeat (first | (refine LoadV.s rfl rfl (forceV_of ?_); conv => whnf) | (refine LoadV.s rfl rfl ?_; conv => whnf) | (refine StoreV.c rfl rfl (Nat.le_of_ble_eq_true rfl) rfl ?_; conv => whnf) | (refine LoadV.a _ rfl (Nat.le_of_ble_eq_true rfl) ?_; conv => whnf) | (refine DrawI.quiet (by kernel_rfl) (by kernel_rfl) ?_; conv => whnf) | (refine ArI.in64 (by omega) ?_; conv => whnf) | (refine ArI.inU8 (by omega) ?_; conv => whnf) | (refine ArI.inU64 (by omega) ?_; conv => whnf) | (refine ArI.inU32 (by omega) ?_; conv => whnf) | (refine RetI.one Tryz.results36 rfl ?_; conv => whnf) | (refine RetI.two Tryz.results36 rfl rfl ?_; conv => whnf) | (refine RetI.three Tryz.results36 rfl rfl rfl ?_; conv => whnf) | (refine RetI.none Tryz.results36 ?_; conv => whnf) | (refine ⟨by first | decide | omega, ?_⟩; conv => whnf))
          have hsl : IntKind.u8.wrap ((num c : Int) * 2 ^ min (Int.toNat (j : Int)) IntKind.u8.bits) = ((num c * 2 ^ j : Nat) : Int) := by
            rw [mul_pow_nat, wrap_u8_nat]
            have : min j IntKind.u8.bits = j := Nat.min_eq_left (show j ≤ 8 by omega)
            rw [this, Nat.mod_eq_of_lt hNj]
          rw [hsl, u8_or_nat _ _ hlast hNj]
          refine StoreV.os (l := bytesV (A ++ [last])) rfl rfl (by show 0 + A.length + 1 ≤ _; simp) rfl ?_
          have hput := bytesV_put A last (last ||| num c * 2 ^ j)
          rw [show (Value.int IntKind.u8 ((last ||| num c * 2 ^ j : Nat) : Int)).cells.toList = [.int .u8 ((last ||| num c * 2 ^ j : Nat) : Int)] from rfl]
          rw [show elemOff 0 (A.length : Int) (Tryz.prog.types[5]'(by decide)).size = 0 + A.length from rfl, hput]
          conv => whnf
          refine CallS.mk Tryz.call70 ⟨[_], _, _, Sub.split [0] rfl, fun F' hF' => bAdd_ok F' w _ _ _ _ (by omega), ?_⟩
          rintro e A' ⟨rfl, rfl⟩
          conv => whnf
          refine ArI.to64 (k : Int) (by omega) (by omega) ?_
          conv => whnf
          have hpk' : packB (B' ++ c) = A ++ [last ||| num c * 2 ^ j] := by rw [hpk]; congr 5; omega
          refine ⟨(k, B' ++ c, some (gb, gc)), _, by dsimp only; omega, Sub.sel [0, 1] rfl, ⟨by dsimp only; omega, by dsimp only; exact hbits, by simp; intro _ e; subst e; simp at hc; omega⟩, ⟨rfl, rfl, rfl, trivial⟩, ?_⟩
          dsimp only
          rw [hpk', show (((B' ++ c).length : Nat) : Int) = (B'.length : Int) + (m : Int) by rw [List.length_append, hc]; omega]
          exact wrH_mk (by rw [hnn]; simp)
    · conv => whnf
      repeat (first | (refine LoadV.s rfl rfl (forceV_of ?_); conv => whnf) | (refine LoadV.s rfl rfl ?_; conv => whnf) | (refine StoreV.c rfl rfl (Nat.le_of_ble_eq_true rfl) rfl ?_; conv => whnf) | (refine LoadV.a _ rfl (Nat.le_of_ble_eq_true rfl) ?_; conv => whnf) | (refine DrawI.quiet (by kernel_rfl) (by kernel_rfl) ?_; conv => whnf) | (refine ArI.in64 (by omega) ?_; conv => whnf) | (refine ArI.inU8 (by omega) ?_; conv => whnf) | (refine ArI.inU64 (by omega) ?_; conv => whnf) | (refine ArI.inU32 (by omega) ?_; conv => whnf) | (refine RetI.one Tryz.results36 rfl ?_; conv => whnf) | (refine RetI.two Tryz.results36 rfl rfl ?_; conv => whnf) | (refine RetI.three Tryz.results36 rfl rfl rfl ?_; conv => whnf) | (refine RetI.none Tryz.results36 ?_; conv => whnf) | (refine ⟨by first | decide | omega, ?_⟩; conv => whnf))
      have hl0 : left = 0 := by omega
      subst hl0
      simp only [Nat.sub_zero, Nat.pow_zero, Nat.div_one] at hB'
      subst hB'
      exact ⟨_, Sub.refl _, .inr ⟨rfl, rfl, g', hg', rfl⟩⟩
end Go.Proofs.YtlfmckjehjedpaaGreatDoor

/- The bits: the reader, packing and unpacking. -/
namespace Go.Proofs.YtlfmckjehjedpaaGreatDoor
set_option linter.unusedVariables false
set_option linter.unusedSimpArgs false
set_option maxRecDepth 100000
open SL Go.RowKit Go.Maps

theorem bBytes_ok (F : Mem) (w : Nat) (n : Int) (g : Option (Nat × Nat)) (o : List Nat) (hg : g = none → o = []) :
    FT Tryz.prog 18 [.pointer (some ⟨w, 0, none⟩)].toArray F (wrH w n g o) (fun e H => e = .returned (.string (strB o)) ∧ H = wrH w n g o) := by
  cases g with
  | none =>
    obtain rfl := hg rfl
    refine FT.of_body Tryz.func18 rfl Tryz.ntmps18 (by simp) fun C hC => ?_
    subst hC
    conv => whnf
    repeat (first | (refine LoadV.s rfl rfl (forceV_of ?_); conv => whnf) | (refine LoadV.s rfl rfl ?_; conv => whnf) | (refine StoreV.c rfl rfl (Nat.le_of_ble_eq_true rfl) rfl ?_; conv => whnf) | (refine LoadV.a _ rfl (Nat.le_of_ble_eq_true rfl) ?_; conv => whnf) | (refine DrawI.quiet (by kernel_rfl) (by kernel_rfl) ?_; conv => whnf) | (refine ArI.in64 (by omega) ?_; conv => whnf) | (refine ArI.inU8 (by omega) ?_; conv => whnf) | (refine ArI.inU64 (by omega) ?_; conv => whnf) | (refine ArI.inU32 (by omega) ?_; conv => whnf) | (refine RetI.one Tryz.results18 rfl ?_; conv => whnf) | (refine RetI.two Tryz.results18 rfl rfl ?_; conv => whnf) | (refine RetI.three Tryz.results18 rfl rfl rfl ?_; conv => whnf) | (refine RetI.none Tryz.results18 ?_; conv => whnf) | (refine ⟨by first | decide | omega, ?_⟩; conv => whnf))
    refine DoV.nil_string Tryz.underlying78 Tryz.underlying5 Tryz.underlying9 ?_
    conv => whnf
    repeat (first | (refine LoadV.s rfl rfl (forceV_of ?_); conv => whnf) | (refine LoadV.s rfl rfl ?_; conv => whnf) | (refine StoreV.c rfl rfl (Nat.le_of_ble_eq_true rfl) rfl ?_; conv => whnf) | (refine LoadV.a _ rfl (Nat.le_of_ble_eq_true rfl) ?_; conv => whnf) | (refine DrawI.quiet (by kernel_rfl) (by kernel_rfl) ?_; conv => whnf) | (refine ArI.in64 (by omega) ?_; conv => whnf) | (refine ArI.inU8 (by omega) ?_; conv => whnf) | (refine ArI.inU64 (by omega) ?_; conv => whnf) | (refine ArI.inU32 (by omega) ?_; conv => whnf) | (refine RetI.one Tryz.results18 rfl ?_; conv => whnf) | (refine RetI.two Tryz.results18 rfl rfl ?_; conv => whnf) | (refine RetI.three Tryz.results18 rfl rfl rfl ?_; conv => whnf) | (refine RetI.none Tryz.results18 ?_; conv => whnf) | (refine ⟨by first | decide | omega, ?_⟩; conv => whnf))
    exact ⟨_, Sub.refl _, rfl, rfl⟩
  | some p =>
    obtain ⟨b, cap⟩ := p
    have e0 : wrH w n (some (b, cap)) o = [.cells w [.int .i64 n, .slice (some ⟨b, 0, none⟩) o.length cap] 108 (0, 0), .own (.slice (some ⟨b, 0, none⟩) o.length cap) o.length 5 1 (bytesV o)] := rfl
    rw [e0]
    refine FT.of_body Tryz.func18 rfl Tryz.ntmps18 (by simp) fun C hC => ?_
    subst hC
    conv => whnf
    repeat (first | (refine LoadV.s rfl rfl (forceV_of ?_); conv => whnf) | (refine LoadV.s rfl rfl ?_; conv => whnf) | (refine StoreV.c rfl rfl (Nat.le_of_ble_eq_true rfl) rfl ?_; conv => whnf) | (refine LoadV.a _ rfl (Nat.le_of_ble_eq_true rfl) ?_; conv => whnf) | (refine DrawI.quiet (by kernel_rfl) (by kernel_rfl) ?_; conv => whnf) | (refine ArI.in64 (by omega) ?_; conv => whnf) | (refine ArI.inU8 (by omega) ?_; conv => whnf) | (refine ArI.inU64 (by omega) ?_; conv => whnf) | (refine ArI.inU32 (by omega) ?_; conv => whnf) | (refine RetI.one Tryz.results18 rfl ?_; conv => whnf) | (refine RetI.two Tryz.results18 rfl rfl ?_; conv => whnf) | (refine RetI.three Tryz.results18 rfl rfl rfl ?_; conv => whnf) | (refine RetI.none Tryz.results18 ?_; conv => whnf) | (refine ⟨by first | decide | omega, ?_⟩; conv => whnf))
    refine DoV.bytes_string (l := o) Tryz.underlying78 Tryz.underlying5 Tryz.underlying9 rfl (by
      have := Row.own (C := C) (H := [.cells w [.int .i64 n, .slice (some ⟨b, 0, none⟩) o.length cap] 108 (0, 0), .own (.slice (some ⟨b, 0, none⟩) o.length cap) o.length 5 1 (bytesV o)]) (b := b) (o := 0) o.length
      rwa [List.drop_zero, List.take_of_length_le (by simp)] at this) ?_
    conv => whnf
    repeat (first | (refine LoadV.s rfl rfl (forceV_of ?_); conv => whnf) | (refine LoadV.s rfl rfl ?_; conv => whnf) | (refine StoreV.c rfl rfl (Nat.le_of_ble_eq_true rfl) rfl ?_; conv => whnf) | (refine LoadV.a _ rfl (Nat.le_of_ble_eq_true rfl) ?_; conv => whnf) | (refine DrawI.quiet (by kernel_rfl) (by kernel_rfl) ?_; conv => whnf) | (refine ArI.in64 (by omega) ?_; conv => whnf) | (refine ArI.inU8 (by omega) ?_; conv => whnf) | (refine ArI.inU64 (by omega) ?_; conv => whnf) | (refine ArI.inU32 (by omega) ?_; conv => whnf) | (refine RetI.one Tryz.results18 rfl ?_; conv => whnf) | (refine RetI.two Tryz.results18 rfl rfl ?_; conv => whnf) | (refine RetI.three Tryz.results18 rfl rfl rfl ?_; conv => whnf) | (refine RetI.none Tryz.results18 ?_; conv => whnf) | (refine ⟨by first | decide | omega, ?_⟩; conv => whnf))
    exact ⟨_, Sub.refl _, rfl, rfl⟩
/-- A reader's memory. -/
abbrev rdH (r : Nat) (n : Int) (s : ByteArray) : Heap := [.cells r [.int .i64 n, .string s] 115 (0, 0)]
theorem bRead_ok (F : Mem) (s : ByteArray) : FT Tryz.prog 19 [.string s].toArray F [] (fun e H => ∃ r, e = .returned (.pointer (some ⟨r, 0, none⟩)) ∧ H = rdH r 0 s) := by
  refine FT.of_body Tryz.func19 rfl Tryz.ntmps19 (by simp) fun C hC => ?_
  subst hC
  conv => whnf
  intro r
  conv => whnf
  repeat (first | (refine LoadV.s rfl rfl (forceV_of ?_); conv => whnf) | (refine LoadV.s rfl rfl ?_; conv => whnf) | (refine StoreV.c rfl rfl (Nat.le_of_ble_eq_true rfl) rfl ?_; conv => whnf) | (refine LoadV.a _ rfl (Nat.le_of_ble_eq_true rfl) ?_; conv => whnf) | (refine DrawI.quiet (by kernel_rfl) (by kernel_rfl) ?_; conv => whnf) | (refine ArI.in64 (by omega) ?_; conv => whnf) | (refine ArI.inU8 (by omega) ?_; conv => whnf) | (refine ArI.inU64 (by omega) ?_; conv => whnf) | (refine ArI.inU32 (by omega) ?_; conv => whnf) | (refine RetI.one Tryz.results19 rfl ?_; conv => whnf) | (refine RetI.two Tryz.results19 rfl rfl ?_; conv => whnf) | (refine RetI.three Tryz.results19 rfl rfl rfl ?_; conv => whnf) | (refine RetI.none Tryz.results19 ?_; conv => whnf) | (refine ⟨by first | decide | omega, ?_⟩; conv => whnf))
  exact ⟨_, Sub.refl _, r, rfl, rfl⟩
theorem bLeft_ok (F : Mem) (r n : Nat) (s : ByteArray) (hs : s.size ≤ 140737488355328) (hn : n ≤ 8 * s.size) :
    FT Tryz.prog 75 [.pointer (some ⟨r, 0, none⟩)].toArray F (rdH r n s) (fun e H => e = .returned (.int .i64 (8 * (s.size : Int) - n)) ∧ H = rdH r n s) := by
  refine FT.of_body Tryz.func75 rfl Tryz.ntmps75 (by simp) fun C hC => ?_
  subst hC
  conv => whnf
  repeat (first | (refine LoadV.s rfl rfl (forceV_of ?_); conv => whnf) | (refine LoadV.s rfl rfl ?_; conv => whnf) | (refine StoreV.c rfl rfl (Nat.le_of_ble_eq_true rfl) rfl ?_; conv => whnf) | (refine LoadV.a _ rfl (Nat.le_of_ble_eq_true rfl) ?_; conv => whnf) | (refine DrawI.quiet (by kernel_rfl) (by kernel_rfl) ?_; conv => whnf) | (refine ArI.in64 (by omega) ?_; conv => whnf) | (refine ArI.inU8 (by omega) ?_; conv => whnf) | (refine ArI.inU64 (by omega) ?_; conv => whnf) | (refine ArI.inU32 (by omega) ?_; conv => whnf) | (refine RetI.one Tryz.results75 rfl ?_; conv => whnf) | (refine RetI.two Tryz.results75 rfl rfl ?_; conv => whnf) | (refine RetI.three Tryz.results75 rfl rfl rfl ?_; conv => whnf) | (refine RetI.none Tryz.results75 ?_; conv => whnf) | (refine ⟨by first | decide | omega, ?_⟩; conv => whnf))
  exact ⟨_, Sub.refl _, rfl, rfl⟩
/-- What a taking answers: the number, the error, where the reader stands behind. -/
def takeB (T : List Bool) (n : Nat) (width : Int) : Nat × Int × Nat :=
  if 1 ≤ width ∧ width ≤ 64 ∧ width.toNat ≤ T.length - n then (num ((T.drop n).take width.toNat), 0, n + width.toNat) else (0, 6, n)
theorem bTake_ok (F : Mem) (r n : Nat) (s : ByteArray) (width : Int) (hs : s.size ≤ 140737488355328) (hn : n ≤ 8 * s.size) :
    FT Tryz.prog 71 [.pointer (some ⟨r, 0, none⟩), .int .i64 width].toArray F (rdH r n s)
    (fun e H => e = .returned (.tuple #[.int .u64 ((takeB (textBits (txt s)) n width).1 : Nat), .int .i64 (takeB (textBits (txt s)) n width).2.1]) ∧ H = rdH r ((takeB (textBits (txt s)) n width).2.2 : Nat) s) := by
  refine FT.of_body Tryz.func71 rfl Tryz.ntmps71 (by simp) fun C hC => ?_
  subst hC
  conv => whnf
  have hT : (textBits (txt s)).length = 8 * s.size := by rw [textBits_length, txt_length]
  have bad : ¬ (1 ≤ width ∧ width ≤ 64 ∧ width.toNat ≤ 8 * s.size - n) → takeB (textBits (txt s)) n width = (0, 6, n) := fun h => by unfold takeB; rw [hT, if_neg h]
  repeat (first | (refine LoadV.s rfl rfl (forceV_of ?_); conv => whnf) | (refine LoadV.s rfl rfl ?_; conv => whnf) | (refine StoreV.c rfl rfl (Nat.le_of_ble_eq_true rfl) rfl ?_; conv => whnf) | (refine LoadV.a _ rfl (Nat.le_of_ble_eq_true rfl) ?_; conv => whnf) | (refine DrawI.quiet (by kernel_rfl) (by kernel_rfl) ?_; conv => whnf) | (refine ArI.in64 (by omega) ?_; conv => whnf) | (refine ArI.inU8 (by omega) ?_; conv => whnf) | (refine ArI.inU64 (by omega) ?_; conv => whnf) | (refine ArI.inU32 (by omega) ?_; conv => whnf) | (refine RetI.one Tryz.results71 rfl ?_; conv => whnf) | (refine RetI.two Tryz.results71 rfl rfl ?_; conv => whnf) | (refine RetI.three Tryz.results71 rfl rfl rfl ?_; conv => whnf) | (refine RetI.none Tryz.results71 ?_; conv => whnf) | (refine ⟨by first | decide | omega, ?_⟩; conv => whnf))
  refine cond_dec (fun h1 => ?_) (fun h1 => ?_)
  · rw [bad (by omega)]
    conv => whnf
    repeat (first | (refine LoadV.s rfl rfl (forceV_of ?_); conv => whnf) | (refine LoadV.s rfl rfl ?_; conv => whnf) | (refine StoreV.c rfl rfl (Nat.le_of_ble_eq_true rfl) rfl ?_; conv => whnf) | (refine LoadV.a _ rfl (Nat.le_of_ble_eq_true rfl) ?_; conv => whnf) | (refine DrawI.quiet (by kernel_rfl) (by kernel_rfl) ?_; conv => whnf) | (refine ArI.in64 (by omega) ?_; conv => whnf) | (refine ArI.inU8 (by omega) ?_; conv => whnf) | (refine ArI.inU64 (by omega) ?_; conv => whnf) | (refine ArI.inU32 (by omega) ?_; conv => whnf) | (refine RetI.one Tryz.results71 rfl ?_; conv => whnf) | (refine RetI.two Tryz.results71 rfl rfl ?_; conv => whnf) | (refine RetI.three Tryz.results71 rfl rfl rfl ?_; conv => whnf) | (refine RetI.none Tryz.results71 ?_; conv => whnf) | (refine ⟨by first | decide | omega, ?_⟩; conv => whnf))
    exact ⟨_, Sub.refl _, rfl, rfl⟩
  conv => whnf
  refine cond_dec (fun h2 => ?_) (fun h2 => ?_)
  · rw [bad (by omega)]
    conv => whnf
    repeat (first | (refine LoadV.s rfl rfl (forceV_of ?_); conv => whnf) | (refine LoadV.s rfl rfl ?_; conv => whnf) | (refine StoreV.c rfl rfl (Nat.le_of_ble_eq_true rfl) rfl ?_; conv => whnf) | (refine LoadV.a _ rfl (Nat.le_of_ble_eq_true rfl) ?_; conv => whnf) | (refine DrawI.quiet (by kernel_rfl) (by kernel_rfl) ?_; conv => whnf) | (refine ArI.in64 (by omega) ?_; conv => whnf) | (refine ArI.inU8 (by omega) ?_; conv => whnf) | (refine ArI.inU64 (by omega) ?_; conv => whnf) | (refine ArI.inU32 (by omega) ?_; conv => whnf) | (refine RetI.one Tryz.results71 rfl ?_; conv => whnf) | (refine RetI.two Tryz.results71 rfl rfl ?_; conv => whnf) | (refine RetI.three Tryz.results71 rfl rfl rfl ?_; conv => whnf) | (refine RetI.none Tryz.results71 ?_; conv => whnf) | (refine ⟨by first | decide | omega, ?_⟩; conv => whnf))
    exact ⟨_, Sub.refl _, rfl, rfl⟩
  conv => whnf
  refine CallS.mk Tryz.call75 ⟨[_], _, _, Sub.split [0] rfl, fun F' hF' => bLeft_ok F' r n s hs hn, ?_⟩
  rintro e A' ⟨rfl, rfl⟩
  conv => whnf
  refine cond_dec (fun h3 => ?_) (fun h3 => ?_)
  · rw [bad (by omega)]
    conv => whnf
    repeat (first | (refine LoadV.s rfl rfl (forceV_of ?_); conv => whnf) | (refine LoadV.s rfl rfl ?_; conv => whnf) | (refine StoreV.c rfl rfl (Nat.le_of_ble_eq_true rfl) rfl ?_; conv => whnf) | (refine LoadV.a _ rfl (Nat.le_of_ble_eq_true rfl) ?_; conv => whnf) | (refine DrawI.quiet (by kernel_rfl) (by kernel_rfl) ?_; conv => whnf) | (refine ArI.in64 (by omega) ?_; conv => whnf) | (refine ArI.inU8 (by omega) ?_; conv => whnf) | (refine ArI.inU64 (by omega) ?_; conv => whnf) | (refine ArI.inU32 (by omega) ?_; conv => whnf) | (refine RetI.one Tryz.results71 rfl ?_; conv => whnf) | (refine RetI.two Tryz.results71 rfl rfl ?_; conv => whnf) | (refine RetI.three Tryz.results71 rfl rfl rfl ?_; conv => whnf) | (refine RetI.none Tryz.results71 ?_; conv => whnf) | (refine ⟨by first | decide | omega, ?_⟩; conv => whnf))
    exact ⟨_, Sub.refl _, rfl, rfl⟩
  conv => whnf
  repeat (first | (refine LoadV.s rfl rfl (forceV_of ?_); conv => whnf) | (refine LoadV.s rfl rfl ?_; conv => whnf) | (refine StoreV.c rfl rfl (Nat.le_of_ble_eq_true rfl) rfl ?_; conv => whnf) | (refine LoadV.a _ rfl (Nat.le_of_ble_eq_true rfl) ?_; conv => whnf) | (refine DrawI.quiet (by kernel_rfl) (by kernel_rfl) ?_; conv => whnf) | (refine ArI.in64 (by omega) ?_; conv => whnf) | (refine ArI.inU8 (by omega) ?_; conv => whnf) | (refine ArI.inU64 (by omega) ?_; conv => whnf) | (refine ArI.inU32 (by omega) ?_; conv => whnf) | (refine RetI.one Tryz.results71 rfl ?_; conv => whnf) | (refine RetI.two Tryz.results71 rfl rfl ?_; conv => whnf) | (refine RetI.three Tryz.results71 rfl rfl rfl ?_; conv => whnf) | (refine RetI.none Tryz.results71 ?_; conv => whnf) | (refine ⟨by first | decide | omega, ?_⟩; conv => whnf))
  obtain ⟨W, rfl⟩ := Int.eq_ofNat_of_zero_le (show 0 ≤ width by omega)
  have good : takeB (textBits (txt s)) n (W : Int) = (num (((textBits (txt s)).drop n).take W), 0, n + W) := by unfold takeB; rw [hT, if_pos ⟨by omega, by omega, by simp; omega⟩]; rfl
  rw [good]
  generalize hTT : textBits (txt s) = T at hT ⊢
  refine LoopI.by_state (σ := Nat) (fun x => [(0, .pointer (some ⟨r, 0, none⟩)), (6, .int .u64 (num ((T.drop n).take (W - x)) : Nat)), (7, .int .i64 (x : Int))]) (fun x => rdH r ((n + (W - x) : Nat) : Int) s)
    (fun x => x ≤ W) (fun x => x) W (Nat.le_refl _) ⟨rfl, ?_, rfl, trivial⟩ ?_ ?_
  · show Value.int .u64 0 = _
    rw [Nat.sub_self, List.take_zero]; rfl
  · rw [Nat.sub_self]; exact Sub.refl _
  rintro left f0 hl
  conv => whnf
  refine cond_dec (fun h => ?_) (fun h => ?_)
  · obtain ⟨N, hN⟩ : ∃ N, n + (W - left) = N := ⟨_, rfl⟩
    rw [hN]
    obtain ⟨m, k, hm, hlk, hm0, hm8⟩ : ∃ m k : Nat, min (8 - (N : Int) % 8) (left : Int) = (m : Int) ∧ left = m + k ∧ 0 < m ∧ m ≤ 8 - N % 8 :=
      ⟨min (8 - N % 8) left, left - min (8 - N % 8) left, by omega, by omega, by omega, by omega⟩
    obtain ⟨j, hj⟩ : ∃ j : Nat, 8 - N % 8 = m + j := ⟨8 - N % 8 - m, by omega⟩
    have hi : N / 8 < (txt s).length := by rw [txt_length]; omega
    conv => whnf
    repeat (first | (refine LoadV.s rfl rfl (forceV_of ?_); conv => whnf) | (refine LoadV.s rfl rfl ?_; conv => whnf) | (refine StoreV.c rfl rfl (Nat.le_of_ble_eq_true rfl) rfl ?_; conv => whnf) | (refine LoadV.a _ rfl (Nat.le_of_ble_eq_true rfl) ?_; conv => whnf) | (refine DrawI.quiet (by kernel_rfl) (by kernel_rfl) ?_; conv => whnf) | (refine RetI.one Tryz.results71 rfl ?_; conv => whnf) | (refine RetI.two Tryz.results71 rfl rfl ?_; conv => whnf) | (refine RetI.three Tryz.results71 rfl rfl rfl ?_; conv => whnf) | (refine RetI.none Tryz.results71 ?_; conv => whnf) | (refine ⟨by first | decide | omega, ?_⟩; conv => whnf))
    rw [i64_and7]
    (first | (refine LoadV.s rfl rfl (forceV_of ?_); conv => whnf) | (refine LoadV.s rfl rfl ?_; conv => whnf) | (refine StoreV.c rfl rfl (Nat.le_of_ble_eq_true rfl) rfl ?_; conv => whnf) | (refine LoadV.a _ rfl (Nat.le_of_ble_eq_true rfl) ?_; conv => whnf) | (refine DrawI.quiet (by kernel_rfl) (by kernel_rfl) ?_; conv => whnf) | (refine ArI.in64 (by omega) ?_; conv => whnf) | (refine ArI.inU8 (by omega) ?_; conv => whnf) | (refine ArI.inU64 (by omega) ?_; conv => whnf) | (refine ArI.inU32 (by omega) ?_; conv => whnf) | (refine RetI.one Tryz.results71 rfl ?_; conv => whnf) | (refine RetI.two Tryz.results71 rfl rfl ?_; conv => whnf) | (refine RetI.three Tryz.results71 rfl rfl rfl ?_; conv => whnf) | (refine RetI.none Tryz.results71 ?_; conv => whnf) | (refine ⟨by first | decide | omega, ?_⟩; conv => whnf))
    repeat (first | (refine LoadV.s rfl rfl (forceV_of ?_); conv => whnf) | (refine LoadV.s rfl rfl ?_; conv => whnf) | (refine StoreV.c rfl rfl (Nat.le_of_ble_eq_true rfl) rfl ?_; conv => whnf) | (refine LoadV.a _ rfl (Nat.le_of_ble_eq_true rfl) ?_; conv => whnf) | (refine DrawI.quiet (by kernel_rfl) (by kernel_rfl) ?_; conv => whnf) | (refine RetI.one Tryz.results71 rfl ?_; conv => whnf) | (refine RetI.two Tryz.results71 rfl rfl ?_; conv => whnf) | (refine RetI.three Tryz.results71 rfl rfl rfl ?_; conv => whnf) | (refine RetI.none Tryz.results71 ?_; conv => whnf) | (refine ⟨by first | decide | omega, ?_⟩; conv => whnf))
    rw [hm]
    have hs1 : Int.fdiv (N : Int) (2 ^ min (Int.toNat 3) IntKind.i64.bits) = ((N / 8 : Nat) : Int) := shr_le (V := N) (W := 3) (k := 64) (by decide)
    rw [hs1]
    refine ⟨by omega, ?_⟩
    conv => whnf
    repeat (first | (refine LoadV.s rfl rfl (forceV_of ?_); conv => whnf) | (refine LoadV.s rfl rfl ?_; conv => whnf) | (refine StoreV.c rfl rfl (Nat.le_of_ble_eq_true rfl) rfl ?_; conv => whnf) | (refine LoadV.a _ rfl (Nat.le_of_ble_eq_true rfl) ?_; conv => whnf) | (refine DrawI.quiet (by kernel_rfl) (by kernel_rfl) ?_; conv => whnf) | (refine RetI.one Tryz.results71 rfl ?_; conv => whnf) | (refine RetI.two Tryz.results71 rfl rfl ?_; conv => whnf) | (refine RetI.three Tryz.results71 rfl rfl rfl ?_; conv => whnf) | (refine RetI.none Tryz.results71 ?_; conv => whnf) | (refine ⟨by first | decide | omega, ?_⟩; conv => whnf))
    rw [byteAt_txt s (N / 8) hi]
    refine ArI.to64 (j : Int) (by omega) (by omega) ?_
    conv => whnf
    refine ArI.inU64 (by omega) ?_
    conv => whnf
    repeat (first | (refine LoadV.s rfl rfl (forceV_of ?_); conv => whnf) | (refine LoadV.s rfl rfl ?_; conv => whnf) | (refine StoreV.c rfl rfl (Nat.le_of_ble_eq_true rfl) rfl ?_; conv => whnf) | (refine LoadV.a _ rfl (Nat.le_of_ble_eq_true rfl) ?_; conv => whnf) | (refine DrawI.quiet (by kernel_rfl) (by kernel_rfl) ?_; conv => whnf) | (refine ArI.in64 (by omega) ?_; conv => whnf) | (refine ArI.inU8 (by omega) ?_; conv => whnf) | (refine ArI.inU64 (by omega) ?_; conv => whnf) | (refine ArI.inU32 (by omega) ?_; conv => whnf) | (refine RetI.one Tryz.results71 rfl ?_; conv => whnf) | (refine RetI.two Tryz.results71 rfl rfl ?_; conv => whnf) | (refine RetI.three Tryz.results71 rfl rfl rfl ?_; conv => whnf) | (refine RetI.none Tryz.results71 ?_; conv => whnf) | (refine ⟨by first | decide | omega, ?_⟩; conv => whnf))
    refine ArI.mk _ (u8_ones m (by omega)) ?_
    conv => whnf
    have hx : (txt s)[N / 8] < 256 := txt_lt s _ (List.getElem_mem hi)
    have hpart := textBits_part (txt s) N m hi (by omega)
    rw [hTT, show 8 - N % 8 - m = j by omega] at hpart
    generalize (txt s)[N / 8] = x at hx hpart ⊢
    have hs2 : Int.fdiv (x : Int) (2 ^ min (Int.toNat (j : Int)) IntKind.u8.bits) = ((x / 2 ^ j : Nat) : Int) := shr_le (show j ≤ 8 by omega)
    have hx2 : x / 2 ^ j < 256 := Nat.lt_of_le_of_lt (Nat.div_le_self _ _) hx
    have hmod : x / 2 ^ j % 2 ^ m = num ((T.drop N).take m) := by rw [hpart, num_bitsOf]
    rw [hs2, u8_mask _ m hx2 (by omega), hmod]
    have hc : ((T.drop N).take m).length = m := by rw [List.length_take, List.length_drop]; omega
    have hcat : (T.drop n).take (W - k) = (T.drop n).take (W - left) ++ (T.drop N).take m := by
      rw [show W - k = (W - left) + m by omega, List.take_add, List.drop_drop, hN]
    have hvl : ((T.drop n).take (W - left)).length = W - left := by rw [List.length_take, List.length_drop]; omega
    have hN1 := num_lt ((T.drop N).take m)
    have hN2 := num_lt ((T.drop n).take (W - left))
    rw [hc] at hN1
    rw [hvl] at hN2
    have hnum : num ((T.drop n).take (W - k)) = num ((T.drop n).take (W - left)) * 2 ^ m + num ((T.drop N).take m) := by rw [hcat, num_append, hc]
    generalize num ((T.drop n).take (W - left)) = v at hN2 hnum ⊢
    generalize num ((T.drop N).take m) = p at hN1 hnum ⊢
    have hp8 : p < 256 := by
      have : 2 ^ m ≤ 2 ^ 8 := Nat.pow_le_pow_right (by decide) (by omega)
      omega
    have hvm : v * 2 ^ m + p < 18446744073709551616 := by
      have h1 : (v + 1) * 2 ^ m ≤ 2 ^ (W - left) * 2 ^ m := Nat.mul_le_mul_right _ hN2
      rw [← Nat.pow_add] at h1
      have h2 : 2 ^ (W - left + m) ≤ 2 ^ 64 := Nat.pow_le_pow_right (by decide) (by omega)
      rw [Nat.succ_mul] at h1
      omega
    have hs3 : IntKind.u64.wrap ((v : Int) * 2 ^ min (Int.toNat (m : Int)) IntKind.u64.bits) = ((v * 2 ^ m : Nat) : Int) := by
      rw [mul_pow_nat, wrap_u64_nat]
      have : min m IntKind.u64.bits = m := Nat.min_eq_left (show m ≤ 64 by omega)
      rw [this, Nat.mod_eq_of_lt (by omega)]
    repeat (first | (refine LoadV.s rfl rfl (forceV_of ?_); conv => whnf) | (refine LoadV.s rfl rfl ?_; conv => whnf) | (refine StoreV.c rfl rfl (Nat.le_of_ble_eq_true rfl) rfl ?_; conv => whnf) | (refine LoadV.a _ rfl (Nat.le_of_ble_eq_true rfl) ?_; conv => whnf) | (refine DrawI.quiet (by kernel_rfl) (by kernel_rfl) ?_; conv => whnf) | (refine ArI.in64 (by omega) ?_; conv => whnf) | (refine ArI.inU8 (by omega) ?_; conv => whnf) | (refine ArI.inU64 (by omega) ?_; conv => whnf) | (refine ArI.inU32 (by omega) ?_; conv => whnf) | (refine RetI.one Tryz.results71 rfl ?_; conv => whnf) | (refine RetI.two Tryz.results71 rfl rfl ?_; conv => whnf) | (refine RetI.three Tryz.results71 rfl rfl rfl ?_; conv => whnf) | (refine RetI.none Tryz.results71 ?_; conv => whnf) | (refine ⟨by first | decide | omega, ?_⟩; conv => whnf))
    rw [hs3, bits_or_u64_nat _ _ (by omega) (by omega), show v * 2 ^ m ||| p = v * 2 ^ m + p by rw [Nat.mul_comm, Nat.two_pow_add_eq_or_of_lt hN1]]
    refine CallS.mk Tryz.call70 ⟨[_], _, _, Sub.split [0] rfl, fun F' hF' => bAdd_ok F' r _ _ _ _ (by omega), ?_⟩
    rintro e A' ⟨rfl, rfl⟩
    conv => whnf
    refine ArI.to64 (k : Int) (by omega) (by omega) ?_
    conv => whnf
    refine ⟨k, _, by omega, Sub.refl _, by omega, ⟨rfl, ?_, rfl, trivial⟩, ?_⟩
    · rw [hnum]; rfl
    · rw [show ((n + (W - k) : Nat) : Int) = (N : Int) + (m : Int) by omega]
  · conv => whnf
    repeat (first | (refine LoadV.s rfl rfl (forceV_of ?_); conv => whnf) | (refine LoadV.s rfl rfl ?_; conv => whnf) | (refine StoreV.c rfl rfl (Nat.le_of_ble_eq_true rfl) rfl ?_; conv => whnf) | (refine LoadV.a _ rfl (Nat.le_of_ble_eq_true rfl) ?_; conv => whnf) | (refine DrawI.quiet (by kernel_rfl) (by kernel_rfl) ?_; conv => whnf) | (refine ArI.in64 (by omega) ?_; conv => whnf) | (refine ArI.inU8 (by omega) ?_; conv => whnf) | (refine ArI.inU64 (by omega) ?_; conv => whnf) | (refine ArI.inU32 (by omega) ?_; conv => whnf) | (refine RetI.one Tryz.results71 rfl ?_; conv => whnf) | (refine RetI.two Tryz.results71 rfl rfl ?_; conv => whnf) | (refine RetI.three Tryz.results71 rfl rfl rfl ?_; conv => whnf) | (refine RetI.none Tryz.results71 ?_; conv => whnf) | (refine ⟨by first | decide | omega, ?_⟩; conv => whnf))
    obtain rfl : left = 0 := by omega
    exact ⟨_, Sub.refl _, rfl, rfl⟩
/-- Is nothing left but noughts that fill a byte? -/
def doneB (T : List Bool) (n : Nat) : Bool := decide (T.length - n < 8 ∧ num (T.drop n) = 0)
theorem bDone_ok (F : Mem) (r n : Nat) (s : ByteArray) (hs : s.size ≤ 140737488355328) (hn : n ≤ 8 * s.size) :
    FT Tryz.prog 43 [.pointer (some ⟨r, 0, none⟩)].toArray F (rdH r n s) (fun e H => e = .returned (.bool (doneB (textBits (txt s)) n)) ∧ H = rdH r n s) := by
  refine FT.of_body Tryz.func43 rfl Tryz.ntmps43 (by simp) fun C hC => ?_
  subst hC
  conv => whnf
  have hT : (textBits (txt s)).length = 8 * s.size := by rw [textBits_length, txt_length]
  refine CallS.mk Tryz.call75 ⟨[_], _, _, Sub.split [0] rfl, fun F' hF' => bLeft_ok F' r n s hs hn, ?_⟩
  rintro e A' ⟨rfl, rfl⟩
  conv => whnf
  refine cond_dec (fun h1 => ?_) (fun h1 => ?_)
  · conv => whnf
    repeat (first | (refine LoadV.s rfl rfl (forceV_of ?_); conv => whnf) | (refine LoadV.s rfl rfl ?_; conv => whnf) | (refine StoreV.c rfl rfl (Nat.le_of_ble_eq_true rfl) rfl ?_; conv => whnf) | (refine LoadV.a _ rfl (Nat.le_of_ble_eq_true rfl) ?_; conv => whnf) | (refine DrawI.quiet (by kernel_rfl) (by kernel_rfl) ?_; conv => whnf) | (refine ArI.in64 (by omega) ?_; conv => whnf) | (refine ArI.inU8 (by omega) ?_; conv => whnf) | (refine ArI.inU64 (by omega) ?_; conv => whnf) | (refine ArI.inU32 (by omega) ?_; conv => whnf) | (refine RetI.one Tryz.results43 rfl ?_; conv => whnf) | (refine RetI.two Tryz.results43 rfl rfl ?_; conv => whnf) | (refine RetI.three Tryz.results43 rfl rfl rfl ?_; conv => whnf) | (refine RetI.none Tryz.results43 ?_; conv => whnf) | (refine ⟨by first | decide | omega, ?_⟩; conv => whnf))
    exact ⟨_, Sub.refl _, ret_bool (by unfold doneB; rw [decide_eq_false (by omega)]), rfl⟩
  conv => whnf
  repeat (first | (refine LoadV.s rfl rfl (forceV_of ?_); conv => whnf) | (refine LoadV.s rfl rfl ?_; conv => whnf) | (refine StoreV.c rfl rfl (Nat.le_of_ble_eq_true rfl) rfl ?_; conv => whnf) | (refine LoadV.a _ rfl (Nat.le_of_ble_eq_true rfl) ?_; conv => whnf) | (refine DrawI.quiet (by kernel_rfl) (by kernel_rfl) ?_; conv => whnf) | (refine ArI.in64 (by omega) ?_; conv => whnf) | (refine ArI.inU8 (by omega) ?_; conv => whnf) | (refine ArI.inU64 (by omega) ?_; conv => whnf) | (refine ArI.inU32 (by omega) ?_; conv => whnf) | (refine RetI.one Tryz.results43 rfl ?_; conv => whnf) | (refine RetI.two Tryz.results43 rfl rfl ?_; conv => whnf) | (refine RetI.three Tryz.results43 rfl rfl rfl ?_; conv => whnf) | (refine RetI.none Tryz.results43 ?_; conv => whnf) | (refine ⟨by first | decide | omega, ?_⟩; conv => whnf))
  refine cond_split (fun h2 => ?_) (fun h2 => ?_)
  · have h2 : 8 * (s.size : Int) - n = 0 := of_decide_eq_true h2
    conv => whnf
    repeat (first | (refine LoadV.s rfl rfl (forceV_of ?_); conv => whnf) | (refine LoadV.s rfl rfl ?_; conv => whnf) | (refine StoreV.c rfl rfl (Nat.le_of_ble_eq_true rfl) rfl ?_; conv => whnf) | (refine LoadV.a _ rfl (Nat.le_of_ble_eq_true rfl) ?_; conv => whnf) | (refine DrawI.quiet (by kernel_rfl) (by kernel_rfl) ?_; conv => whnf) | (refine ArI.in64 (by omega) ?_; conv => whnf) | (refine ArI.inU8 (by omega) ?_; conv => whnf) | (refine ArI.inU64 (by omega) ?_; conv => whnf) | (refine ArI.inU32 (by omega) ?_; conv => whnf) | (refine RetI.one Tryz.results43 rfl ?_; conv => whnf) | (refine RetI.two Tryz.results43 rfl rfl ?_; conv => whnf) | (refine RetI.three Tryz.results43 rfl rfl rfl ?_; conv => whnf) | (refine RetI.none Tryz.results43 ?_; conv => whnf) | (refine ⟨by first | decide | omega, ?_⟩; conv => whnf))
    have hd : (textBits (txt s)).drop n = [] := List.drop_of_length_le (by omega)
    exact ⟨_, Sub.refl _, ret_bool (by unfold doneB; rw [hd, decide_eq_true ⟨by omega, rfl⟩]), rfl⟩
  · have h2 : ¬ 8 * (s.size : Int) - n = 0 := of_decide_eq_false h2
    obtain ⟨L, hL⟩ : ∃ L, 8 * s.size - n = L := ⟨_, rfl⟩
    have hLi : 8 * (s.size : Int) - n = (L : Int) := by omega
    have hi : s.size - 1 < (txt s).length := by rw [txt_length]; omega
    conv => whnf
    rw [hLi]
    repeat (first | (refine LoadV.s rfl rfl (forceV_of ?_); conv => whnf) | (refine LoadV.s rfl rfl ?_; conv => whnf) | (refine StoreV.c rfl rfl (Nat.le_of_ble_eq_true rfl) rfl ?_; conv => whnf) | (refine LoadV.a _ rfl (Nat.le_of_ble_eq_true rfl) ?_; conv => whnf) | (refine DrawI.quiet (by kernel_rfl) (by kernel_rfl) ?_; conv => whnf) | (refine RetI.one Tryz.results43 rfl ?_; conv => whnf) | (refine RetI.two Tryz.results43 rfl rfl ?_; conv => whnf) | (refine RetI.three Tryz.results43 rfl rfl rfl ?_; conv => whnf) | (refine RetI.none Tryz.results43 ?_; conv => whnf) | (refine ⟨by first | decide | omega, ?_⟩; conv => whnf))
    refine ArI.to64 ((s.size - 1 : Nat) : Int) (by omega) (by omega) ?_
    conv => whnf
    repeat (first | (refine LoadV.s rfl rfl (forceV_of ?_); conv => whnf) | (refine LoadV.s rfl rfl ?_; conv => whnf) | (refine StoreV.c rfl rfl (Nat.le_of_ble_eq_true rfl) rfl ?_; conv => whnf) | (refine LoadV.a _ rfl (Nat.le_of_ble_eq_true rfl) ?_; conv => whnf) | (refine DrawI.quiet (by kernel_rfl) (by kernel_rfl) ?_; conv => whnf) | (refine ArI.in64 (by omega) ?_; conv => whnf) | (refine ArI.inU8 (by omega) ?_; conv => whnf) | (refine ArI.inU64 (by omega) ?_; conv => whnf) | (refine ArI.inU32 (by omega) ?_; conv => whnf) | (refine RetI.one Tryz.results43 rfl ?_; conv => whnf) | (refine RetI.two Tryz.results43 rfl rfl ?_; conv => whnf) | (refine RetI.three Tryz.results43 rfl rfl rfl ?_; conv => whnf) | (refine RetI.none Tryz.results43 ?_; conv => whnf) | (refine ⟨by first | decide | omega, ?_⟩; conv => whnf))
    rw [byteAt_txt s (s.size - 1) hi]
    refine ArI.mk _ (u8_ones L (by omega)) ?_
    conv => whnf
    have hx := txt_lt s _ (List.getElem_mem hi)
    rw [u8_mask _ L hx (by omega)]
    repeat (first | (refine LoadV.s rfl rfl (forceV_of ?_); conv => whnf) | (refine LoadV.s rfl rfl ?_; conv => whnf) | (refine StoreV.c rfl rfl (Nat.le_of_ble_eq_true rfl) rfl ?_; conv => whnf) | (refine LoadV.a _ rfl (Nat.le_of_ble_eq_true rfl) ?_; conv => whnf) | (refine DrawI.quiet (by kernel_rfl) (by kernel_rfl) ?_; conv => whnf) | (refine ArI.in64 (by omega) ?_; conv => whnf) | (refine ArI.inU8 (by omega) ?_; conv => whnf) | (refine ArI.inU64 (by omega) ?_; conv => whnf) | (refine ArI.inU32 (by omega) ?_; conv => whnf) | (refine RetI.one Tryz.results43 rfl ?_; conv => whnf) | (refine RetI.two Tryz.results43 rfl rfl ?_; conv => whnf) | (refine RetI.three Tryz.results43 rfl rfl rfl ?_; conv => whnf) | (refine RetI.none Tryz.results43 ?_; conv => whnf) | (refine ⟨by first | decide | omega, ?_⟩; conv => whnf))
    have hpart := textBits_part (txt s) n L (by rw [txt_length]; omega) (by omega)
    have hdrop : ((textBits (txt s)).drop n).take L = (textBits (txt s)).drop n := List.take_of_length_le (by rw [List.length_drop]; omega)
    rw [hdrop, show 8 - n % 8 - L = 0 by omega] at hpart
    have hidx : (txt s)[n / 8]'(by rw [txt_length]; omega) = (txt s)[s.size - 1] := by congr 1; omega
    rw [hidx, Nat.pow_zero, Nat.div_one] at hpart
    refine ⟨_, Sub.refl _, ret_bool ?_, rfl⟩
    unfold doneB
    rw [hpart, num_bitsOf, hT, hL]
    show ((((txt s)[s.size - 1] % 2 ^ L : Nat) : Int) == 0) = _
    by_cases h0 : (txt s)[s.size - 1] % 2 ^ L = 0
    · rw [decide_eq_true ⟨by omega, h0⟩, h0]; rfl
    · rw [decide_eq_false (fun h => h0 h.2), beq_eq_false_iff_ne]
      exact fun e => h0 (by exact_mod_cast e)
end Go.Proofs.YtlfmckjehjedpaaGreatDoor

/- The bits: packing and unpacking. -/
namespace Go.Proofs.YtlfmckjehjedpaaGreatDoor
set_option linter.unusedVariables false
set_option linter.unusedSimpArgs false
set_option maxRecDepth 100000
open SL Go.RowKit Go.Maps

/-- Taking by taking: the numbers, and where the reader stands behind. -/
def takeOk (T : List Bool) (n : Nat) (w : Int) : Prop := 1 ≤ w ∧ w ≤ 64 ∧ w.toNat ≤ T.length - n
instance (T : List Bool) (n : Nat) (w : Int) : Decidable (takeOk T n w) := by unfold takeOk; infer_instance
end Go.Proofs.YtlfmckjehjedpaaGreatDoor

/- Packing and unpacking undo one another: the plain law. -/
namespace Go.Proofs.YtlfmckjehjedpaaGreatDoor
set_option linter.unusedVariables false
set_option linter.unusedSimpArgs false
set_option maxRecDepth 100000
open SL Go.RowKit Go.Maps

theorem strB_lt {B : List Bool} : txt (strB (packB B)) = packB B := txt_strB (packB_lt B)
end Go.Proofs.YtlfmckjehjedpaaGreatDoor

/- Drawn regions in which an effect may panic, and a new block may be laid at any time between the calls. -/
namespace Go.Proofs.YtlfmckjehjedpaaGreatDoor
set_option linter.unusedVariables false
set_option linter.unusedSimpArgs false
set_option maxRecDepth 100000
namespace SL.Fail
open Go Go.RowKit SL
/-- Owned memory, and whether the walk is alive (false: behind a panic, a ghost). -/
abbrev GH := Bool × Heap
def SatG (C : Ctx) (G : GH) (w : World) : Prop := Sat C G.2 w
section
variable (P : Program) (md : Region.Mode) (ops : Array Oper) (C : Ctx) (St St1 : GH → Prop) (qf ef : Nat → Bool) (EP : List PanicEntry → Heap → Prop) (al : Nat) (z : List Value) (T : TypeId)
def cst (w : World) : Prop := ∃ H, St H ∧ SatG C H w
def Sq (i : Nat) (H : GH) : Prop := St H ∧ (ef i = true → St1 H)
def QY (o : Oper) (a : Act) (v : Value) : Prop := ∀ w, cst C St w → ((execOp a.eval o).run P w = .ok (.value v) w ∨ ((execOp a.eval o).run P w = .ok .skip w ∧ v = undef))
def eff (R : Value → GH → Prop) : Result Next → Prop
  | .ok (.value v) w' => ∃ H', R v H' ∧ St H' ∧ SatG C H' w'
  | .ok .skip w' => ∃ H', R undef H' ∧ St H' ∧ SatG C H' w'
  | .ok (.enter g args) w' => Calls P g args w' fun e w'' => ∃ v H', e = .returned v ∧ R v H' ∧ St H' ∧ SatG C H' w''
  | .ok (.row row args) w' => Rows P row args w' fun v w'' => ∃ H', R v H' ∧ St H' ∧ SatG C H' w''
  | _ => False
def effP : Result Next → Prop
  | .ok (.enter g args) w' => Calls P g args w' fun e w'' => ∃ c H', e = .panicked c ∧ EP c H' ∧ Sat C H' w''
  | .halt (.panic v) w' => ∃ H', EP [{ v, recovered := false }] H' ∧ Sat C H' w'
  | _ => False
def ER (o : Oper) (a : Act) (H : GH) (R : Value → GH → Prop) : Prop :=
  (∀ w, SatG C H w → eff P C (fun H' => St H' ∧ H'.1 = H.1) R ((execOp a.eval o).run P w)) ∨
  ((∀ w, SatG C H w → effP P C EP ((execOp a.eval o).run P w)) ∧ ∃ v, R v (false, H.2) ∧ St (false, H.2)) ∨
  (H.1 = false ∧ ∃ v, R v H ∧ St H)
/-- An effect that leaves any further object alone. -/
def ERF (o : Oper) (a : Act) (H : GH) (R : Value → GH → Prop) : Prop := ∀ X : Heap, ER P C St EP o a (H.1, X ++ H.2) (fun v G => ∃ H1 : GH, G = (H1.1, X ++ H1.2) ∧ R v H1 ∧ St H1)
/-- An operation that lays a new block. -/
structure ALc (o : Oper) : Prop where
  guard : o.guard = none
  run : ∀ (a : Act) (w : World), (execOp a.eval o).run P w = .ok (.value (.pointer (some ⟨w.heap.size, 0, none⟩))) { w with heap := w.heap.push (.cells z.toArray T (0, 0)) }
/-- What stands behind a new block. -/
abbrev lay (b : Nat) (H : GH) : GH := (H.1, .cells b z T (0, 0) :: H.2)
def mOp (i : Nat) (K : Act → GH → Prop) (a : Act) (H : GH) : Prop :=
  match ops[i]? with
  | none => K a H
  | some o => if Region.wanted o (yielded ops a.tmps) = true then
      (if qf i = true then ∃ v, QY P C (Sq St St1 ef i) o a v ∧ K (a.put o.dst v) H else if i = al then ALc P z T o ∧ (∀ b, (∃ w, SatG C (lay z T b H) w) → K (a.put o.dst (.pointer (some ⟨b, 0, none⟩))) (lay z T b H)) else ∃ R, ER P C St EP o a H R ∧ (i < al → al < ops.size → ERF P C St EP o a H R) ∧ ∀ v H', R v H' → St H' → (∃ w, SatG C H' w) → K (a.put o.dst v) H')
    else K (a.put o.dst undef) H
def wpAnyM (Q : Act → GH → Prop) : Nat → Array Bool → Act → GH → Prop
  | 0, listed, a, H => Region.ready md ops listed = [] ∧ Q a H
  | fuel + 1, listed, a, H => (Region.ready md ops listed = [] → Q a H) ∧ ∀ i ∈ Region.ready md ops listed, mOp P ops C St St1 qf ef EP al z T i (wpAnyM Q fuel (listed.setIfInBounds i true)) a H
def wpMix (Q : Act → GH → Prop) : List Oper → Nat → Act → GH → Prop
  | [], _, a, H => Q a H
  | o :: rest, k, a, H => if Region.wanted o (yielded ops a.tmps) = true then
      (if qf k = true then ∃ v, QY P C (Sq St St1 ef k) o a v ∧ wpMix Q rest (k + 1) (a.put o.dst v) H else if k = al then ALc P z T o ∧ (∀ b, (∃ w, SatG C (lay z T b H) w) → wpMix Q rest (k + 1) (a.put o.dst (.pointer (some ⟨b, 0, none⟩))) (lay z T b H)) else ∃ R, ER P C St EP o a H R ∧ (k < al → al < ops.size → ERF P C St EP o a H R) ∧ ∀ v H', R v H' → St H' → (∃ w, SatG C H' w) → wpMix Q rest (k + 1) (a.put o.dst v) H')
    else wpMix Q rest (k + 1) (a.put o.dst undef) H
end
section
variable {P : Program} {md : Region.Mode} {ops : Array Oper} {C : Ctx} {St St1 : GH → Prop} {qf ef : Nat → Bool} {EP : List PanicEntry → Heap → Prop} {al : Nat} {z : List Value} {T : TypeId}
theorem sound_ret {o : Oper} {a : Act} {R : Value → GH → Prop} {St : GH → Prop} {next : Act → World → Prop} {Q : Exit → Act → World → Prop} {r : Result Next} (h3 : eff P C St R r) (k : ∀ v H' w', R v H' → St H' → SatG C H' w' → next (a.put o.dst v) w') : o.upon P a next Q r := by
  cases r with
  | ok n w' =>
    cases n <;> simp only [eff] at h3 <;> simp only [Oper.upon]
    case value v => obtain ⟨H', hr, hst', hs'⟩ := h3; exact k v H' w' hr hst' hs'
    case skip => obtain ⟨H', hr, hst', hs'⟩ := h3; exact k undef H' w' hr hst' hs'
    case enter g args =>
      refine h3.mono fun e w'' ⟨v, H', he, hr, hst', hs'⟩ => ?_
      subst he
      exact k v H' w'' hr hst' hs'
    case row rw args => exact h3.mono fun v w'' ⟨H', hr, hst', hs'⟩ => k v H' w'' hr hst' hs'
  | halt y w' => simp only [eff] at h3
theorem sound_pan {o : Oper} {a : Act} {next : Act → World → Prop} {Q : Exit → Act → World → Prop} {r : Result Next} (h3 : effP P C EP r) (k : ∀ c H' w', EP c H' → Sat C H' w' → Q (.panic c) a w') : o.upon P a next Q r := by
  cases r with
  | ok n w' =>
    cases n <;> simp only [effP] at h3 <;> simp only [Oper.upon]
    case enter g args =>
      refine h3.mono fun e w'' ⟨c, H', he, hr, hs'⟩ => ?_
      subst he
      exact k c H' w'' hr hs'
  | halt y w' =>
    cases y <;> simp only [effP] at h3
    simp only [Oper.upon]
    obtain ⟨H', he, hs'⟩ := h3
    exact k _ H' w' he hs'
theorem wpAnyM_sound (hSt : ∀ x G, St G → St (G.1, x :: G.2)) (hW : waitsE md ops qf ef = true) (hef : ∀ i, ef i = true → i < ops.size) {Q : Act → GH → Prop} {Q' : Exit → Act → World → Prop} {J : Act → Prop} (hJ : ∀ (a : Act) (i : Nat) (o : Oper) (v : Value), ops[i]? = some o → J a → J (a.put o.dst v)) (hQ : ∀ a H w, SatG C H w → H.1 = true → J a → Q a H → Q' .normal a w) (hP : ∀ a c H w, J a → EP c H → Sat C H w → Q' (.panic c) a w) : ∀ (fuel : Nat) (listed : Array Bool) (a : Act) (H : GH) (w : World), H.1 = true → J a → St H → EInv qf ef ops.size listed → (∀ i, ef i = true → listed.getD i true = false → St1 H) → SatG C H w →
    wpAnyM P md ops C St St1 qf ef EP al z T Q fuel listed a H → wpAny P md ops Q' fuel listed a w
  | 0, _, _, _, _, hal, hj, _, _, _, hs, h => ⟨h.1, hQ _ _ _ hs hal hj h.2⟩
  | fuel + 1, listed, a, H, w, hal, hj, hst, hB, hA, hs, h => by
    refine ⟨fun h0 => hQ _ _ _ hs hal hj (h.1 h0), fun i hi => ?_⟩
    have hh := h.2 i hi
    have hB' := hB.step hW hi
    have hun := (mem_ready.1 hi).1
    have hA' : ∀ j, ef j = true → (listed.setIfInBounds i true).getD j true = false → St1 H := fun j hj hl => by
      by_cases hij : i = j
      · subst hij; exact hA i hj hun
      · rw [getD_set_ne true hij] at hl; exact hA j hj hl
    have hE' : qf i = false → ∀ H', ∀ j, ef j = true → (listed.setIfInBounds i true).getD j true = false → St1 H' := fun hqi H' j hj hl => by
      exfalso
      by_cases hij : i = j
      · subst hij
        have hls : i < listed.size ∨ ¬ i < listed.size := Nat.lt_or_ge i listed.size |>.imp id (by omega)
        rcases hls with h' | h'
        · simp [Array.getD, h'] at hl
        · simp [Array.getD, h'] at hl
      · rw [getD_set_ne true hij] at hl
        rcases Nat.lt_or_ge j ops.size with h' | h'
        · have := hB.all hW hi hqi h' hj
          rcases Nat.lt_or_ge j listed.size with h2 | h2
          · simp [Array.getD, h2] at this hl; rw [this] at hl; cases hl
          · simp [Array.getD, Nat.not_lt.2 h2] at hl
        · exact absurd h' (by have := hef j hj; omega)
    unfold mOp at hh
    unfold wpOp
    split
    · rename_i ho; simp only [ho] at hh; exact wpAnyM_sound hSt hW hef hJ hQ hP fuel _ _ _ _ hal hj hst hB' hA' hs hh
    · rename_i o ho
      simp only [ho] at hh
      split
      · rename_i hw
        rw [if_pos hw] at hh
        refine .inl ?_
        split at hh
        · obtain ⟨v, h1, h2⟩ := hh
          unfold Oper.wp
          rcases h1 w ⟨H, ⟨hst, fun he => hA i he hun⟩, hs⟩ with h3 | ⟨h3, rfl⟩
          · rw [h3]; exact wpAnyM_sound hSt hW hef hJ hQ hP fuel _ _ _ _ hal (hJ _ _ _ _ ho hj) hst hB' hA' hs h2
          · rw [h3]; exact wpAnyM_sound hSt hW hef hJ hQ hP fuel _ _ _ _ hal (hJ _ _ _ _ ho hj) hst hB' hA' hs h2
        · rename_i hqn
          have hE := hE' (by simpa using hqn)
          split at hh
          · obtain ⟨hA, hk⟩ := hh
            have hs1 : SatG C (lay z T w.heap.size H) { w with heap := w.heap.push (.cells z.toArray T (0, 0)) } := Sat.new hs (.cells z.toArray T (0, 0)) (.cells w.heap.size z T (0, 0)) rfl (by simp [HObj.sat])
            unfold Oper.wp
            rw [hA.run]
            exact wpAnyM_sound hSt hW hef hJ hQ hP fuel _ _ (lay z T w.heap.size H) _ hal (hJ _ _ _ _ ho hj) (hSt _ _ hst) hB' (hE _) hs1 (hk _ ⟨_, hs1⟩)
          obtain ⟨R, h1, _, h2⟩ := hh
          unfold Oper.wp
          rcases h1 with h1 | ⟨h1, _⟩ | ⟨h1, _⟩
          · have h3 := h1 w hs
            generalize (execOp a.eval o).run P w = r at *
            exact sound_ret h3 fun v H' w' hr hst' hs' => wpAnyM_sound hSt hW hef hJ hQ hP fuel _ _ _ _ (hst'.2.trans hal) (hJ _ _ _ _ ho hj) hst'.1 hB' (hE _) hs' (h2 v H' hr hst'.1 ⟨w', hs'⟩)
          · have h3 := h1 w hs
            generalize (execOp a.eval o).run P w = r at *
            exact sound_pan h3 fun c H' w' he hs' => hP a c H' w' hj he hs'
          · rw [hal] at h1; cases h1
      · rename_i hw
        rw [if_neg hw] at hh
        exact wpAnyM_sound hSt hW hef hJ hQ hP fuel _ _ _ _ hal (hJ _ _ _ _ ho hj) hst hB' hA' hs hh
theorem QY.unique {o : Oper} {a : Act} {v u : Value} (h : QY P C St o a v) (h' : QY P C St o a u) {H : GH} {w : World} (hst : St H) (hs : SatG C H w) : v = u := by
  rcases h w ⟨H, hst, hs⟩ with h1 | ⟨h1, rfl⟩ <;> rcases h' w ⟨H, hst, hs⟩ with h2 | ⟨h2, rfl⟩ <;> rw [h1] at h2 <;> simp at h2
  exact h2
theorem QY.same {o : Oper} {a a' : Act} {v : Value} (h : QY P C St o a v) (he : execOp a'.eval o = execOp a.eval o) : QY P C St o a' v := by
  unfold QY at *; rw [he]; exact h
theorem ER.same {o : Oper} {a a' : Act} {H : GH} {R : Value → GH → Prop} (h : ER P C St EP o a H R) (he : execOp a'.eval o = execOp a.eval o) : ER P C St EP o a' H R := by
  unfold ER at *; rw [he]; exact h
theorem mOp_put {j : Nat} {oi oj : Oper} {x : Value} {a : Act} {H : GH} (hj : ops[j]? = some oj) (hap : oi.apart ops oj = true) (hsj : ∀ cs b, oj.op ≠ .select cs b) {K K' : Act → GH → Prop}
    (hK : ∀ u H', K ((a.put oi.dst x).put oj.dst u) H' → K' (a.put oj.dst u) H') (h : mOp P ops C St St1 qf ef EP al z T j K (a.put oi.dst x) H) : mOp P ops C St St1 qf ef EP al z T j K' a H := by
  obtain ⟨h1, h2, h3⟩ := Oper.apart_spec hap
  have he : execOp (a.put oi.dst x).eval oj = execOp a.eval oj := execOp_put oj hsj a oi.dst x h1
  unfold mOp at *
  simp only [hj] at *
  rw [wanted_put oj a oi.dst x h1] at h
  split
  · rename_i hw
    rw [if_pos hw] at h
    split
    · rename_i hq
      rw [if_pos hq] at h
      obtain ⟨v, hv, hk⟩ := h
      exact ⟨v, hv.same he.symm, hK v H hk⟩
    · rename_i hq
      rw [if_neg hq] at h
      split
      · rename_i hal
        rw [if_pos hal] at h
        exact ⟨h.1, fun b hb => hK _ _ (h.2 b hb)⟩
      · rename_i hal
        rw [if_neg hal] at h
        obtain ⟨R, hR, hf, hk⟩ := h
        exact ⟨R, hR.same he.symm, fun h1 h2 x => (hf h1 h2 x).same he.symm, fun v H' hr hst hw => hK v H' (hk v H' hr hst hw)⟩
  · rename_i hw
    rw [if_neg hw] at h
    exact hK undef H h
def QV (P : Program) (ops : Array Oper) (C : Ctx) (St : GH → Prop) (o : Oper) (v : Value) (a : Act) : Prop :=
  (Region.wanted o (yielded ops a.tmps) = true ∧ QY P C St o a v) ∨ (Region.wanted o (yielded ops a.tmps) = false ∧ v = undef)
theorem qv_mOp {i : Nat} {o : Oper} {v : Value} {a : Act} {H : GH} (hi : ops[i]? = some o) (hq : qf i = true) (hy : QV P ops C (Sq St St1 ef i) o v a) {K : Act → GH → Prop} (h : K (a.put o.dst v) H) : mOp P ops C St St1 qf ef EP al z T i K a H := by
  unfold mOp
  simp only [hi]
  rcases hy with ⟨hw, hv⟩ | ⟨hw, rfl⟩
  · rw [if_pos hw, if_pos hq]; exact ⟨v, hv, h⟩
  · rw [if_neg (by simp [hw])]; exact h
theorem QV.put {oi oj : Oper} {v u : Value} {a : Act} (hy : QV P ops C St oi v a) (hap : oi.apart ops oj = true) (hsi : ∀ cs b, oi.op ≠ .select cs b) : QV P ops C St oi v (a.put oj.dst u) := by
  obtain ⟨_, _, h3⟩ := Oper.apart_spec hap
  unfold QV at *
  rw [wanted_put oi a oj.dst u h3]
  rcases hy with ⟨hw, hv⟩ | h
  · exact .inl ⟨hw, hv.same (execOp_put oi hsi a oj.dst u h3)⟩
  · exact .inr h
theorem wpAnyM_firstQ {Q : Act → GH → Prop} {i : Nat} {oi : Oper} {v : Value} (hi : ops[i]? = some oi) (hq : qf i = true) (hsel : ∀ (j : Nat) (o : Oper) cs b, ops[j]? = some o → o.op ≠ .select cs b) :
    ∀ (fuel : Nat) (listed : Array Bool) (a : Act) (H : GH),
      (∀ j oj, ops[j]? = some oj → j ≠ i → listed.getD j true = false → (∀ e ∈ oj.after, Region.binds md e = true → e.on ≠ i) → oi.apart ops oj = true) →
      i ∈ Region.ready md ops listed → QV P ops C (Sq St St1 ef i) oi v a →
      wpAnyM P md ops C St St1 qf ef EP al z T Q fuel (listed.setIfInBounds i true) (a.put oi.dst v) H → wpAnyM P md ops C St St1 qf ef EP al z T Q (fuel + 1) listed a H := by
  intro fuel
  induction fuel with
  | zero =>
    intro listed a H _ hr hy hh
    refine ⟨fun h => (by rw [h] at hr; cases hr), fun j hj => ?_⟩
    by_cases hji : j = i
    · subst hji; exact qv_mOp hi hq hy hh
    · have := ready_mono hj hji
      rw [hh.1] at this
      cases this
  | succ fuel ih =>
    intro listed a H hfree hr hy hh
    refine ⟨fun h => (by rw [h] at hr; cases hr), fun j hj => ?_⟩
    by_cases hji : j = i
    · subst hji; exact qv_mOp hi hq hy hh
    · have h1 := hh.2 j (ready_mono hj hji)
      obtain ⟨hjun, oj, hoj, hall⟩ := mem_ready.1 hj
      have hnot : ∀ e ∈ oj.after, Region.binds md e = true → e.on ≠ i := fun e he hb heq => by
        have h1 := hall e he hb
        have h0 := (mem_ready.1 hr).1
        rw [heq] at h1
        rcases Nat.lt_or_ge i listed.size with h' | h'
        · simp [h'] at h0 h1; rw [h0] at h1; cases h1
        · simp [Array.getElem?_eq_none h'] at h1
      have hap := hfree j oj hoj hji hjun hnot
      have hfree' : ∀ k ok, ops[k]? = some ok → k ≠ i → (listed.setIfInBounds j true).getD k true = false →
          (∀ e ∈ ok.after, Region.binds md e = true → e.on ≠ i) → oi.apart ops ok = true := fun k ok hk hki hun hno => by
        refine hfree k ok hk hki ?_ hno
        by_cases hjk : j = k
        · subst hjk; exact hjun
        · rw [getD_set_ne true hjk] at hun; exact hun
      refine mOp_put hoj hap (fun cs b => hsel j oj cs b hoj) (fun u H' hk => ?_) h1
      refine ih (listed.setIfInBounds j true) _ _ hfree' (ready_mono hr (Ne.symm hji)) (hy.put hap (fun cs b => hsel i oi cs b hi)) ?_
      rw [Array.setIfInBounds_comm _ _ hji, Act.put_comm (a := a) (y := oi.dst) u v (fun d hd hd2 => (Oper.apart_spec hap).2.1 d hd2 hd)]
      exact hk
theorem ER.ends {o : Oper} {a : Act} {H : GH} {R : Value → GH → Prop} (h : ER P C St EP o a H R) {w : World} (hs : SatG C H w) : ∃ v H', R v H' ∧ St H' ∧ ∃ w', SatG C H' w' := by
  rcases h with h | ⟨_, v, hr, hst⟩ | ⟨_, v, hr, hst⟩
  · have h3 := h w hs
    generalize (execOp a.eval o).run P w = r at h3
    cases r with
    | ok n w' =>
      cases n <;> simp only [eff] at h3
      case value v => obtain ⟨H', hr, hst', hs'⟩ := h3; exact ⟨v, H', hr, hst'.1, w', hs'⟩
      case skip => obtain ⟨H', hr, hst', hs'⟩ := h3; exact ⟨undef, H', hr, hst'.1, w', hs'⟩
      case enter g args =>
        obtain ⟨e, w'', fr, ⟨v, H', _, hr, hst', hs'⟩, _⟩ := h3 []
        exact ⟨v, H', hr, hst'.1, w'', hs'⟩
      case row rw args =>
        obtain ⟨v, w'', ⟨H', hr, hst', hs'⟩, _⟩ := h3 default []
        exact ⟨v, H', hr, hst'.1, w'', hs'⟩
    | halt y w' => simp only [eff] at h3
  · exact ⟨v, _, hr, hst, w, hs⟩
  · exact ⟨v, H, hr, hst, w, hs⟩
theorem mOp_push {k : Nat} {ok oj : Oper} {x : Value} {a : Act} {H : GH} (hk : ops[k]? = some ok) (hap : ok.apart ops oj = true) (hsk : ∀ cs b, ok.op ≠ .select cs b) {K K' : Act → GH → Prop} (hSt : ∀ x G, St G → St (G.1, x :: G.2)) (hst : St H) (hw0 : ∃ w, SatG C H w)
    (hK : ∀ u H', St H' → (∃ w, SatG C H' w) → K (a.put ok.dst u) H' → K' ((a.put oj.dst x).put ok.dst u) H') (h : mOp P ops C St St1 qf ef EP al z T k K a H) : mOp P ops C St St1 qf ef EP al z T k K' (a.put oj.dst x) H := by
  obtain ⟨h1, h2, h3⟩ := Oper.apart_spec hap
  have he : execOp (a.put oj.dst x).eval ok = execOp a.eval ok := execOp_put ok hsk a oj.dst x h3
  unfold mOp at *
  simp only [hk] at *
  rw [wanted_put ok a oj.dst x h3]
  split
  · rename_i hw
    rw [if_pos hw] at h
    split
    · rename_i hq
      rw [if_pos hq] at h
      obtain ⟨v, hv, hk⟩ := h
      exact ⟨v, hv.same he, hK v H hst hw0 hk⟩
    · rename_i hq
      rw [if_neg hq] at h
      split
      · rename_i hal
        rw [if_pos hal] at h
        exact ⟨h.1, fun b hb => hK _ _ (hSt _ _ hst) hb (h.2 b hb)⟩
      · rename_i hal
        rw [if_neg hal] at h
        obtain ⟨R, hR, hf, hk⟩ := h
        exact ⟨R, hR.same he, fun h1 h2 x => (hf h1 h2 x).same he, fun v H' hr hst hw => hK v H' hst hw (hk v H' hr hst hw)⟩
  · rename_i hw
    rw [if_neg hw] at h
    exact hK undef H hst hw0 h
theorem mOp_some {k : Nat} {ok : Oper} {a : Act} {H : GH} (hk : ops[k]? = some ok) {K : Act → GH → Prop} (hSt : ∀ x G, St G → St (G.1, x :: G.2)) (hst : St H) (hw0 : ∃ w, SatG C H w) (h : mOp P ops C St St1 qf ef EP al z T k K a H) : ∃ v H', St H' ∧ (∃ w, SatG C H' w) ∧ K (a.put ok.dst v) H' := by
  unfold mOp at h
  simp only [hk] at h
  obtain ⟨w, hw⟩ := hw0
  split at h
  · split at h
    · obtain ⟨v, _, hk⟩ := h; exact ⟨v, H, hst, ⟨w, hw⟩, hk⟩
    · split at h
      · have hs1 : SatG C (lay z T w.heap.size H) { w with heap := w.heap.push (.cells z.toArray T (0, 0)) } := Sat.new hw (.cells z.toArray T (0, 0)) (.cells w.heap.size z T (0, 0)) rfl (by simp [HObj.sat])
        exact ⟨_, _, hSt _ _ hst, ⟨_, hs1⟩, h.2 _ ⟨_, hs1⟩⟩
      obtain ⟨R, hR, _, hk⟩ := h
      obtain ⟨v, H', hr, hst', hw'⟩ := hR.ends hw
      exact ⟨v, H', hst', hw', hk v H' hr hst' hw'⟩
  · exact ⟨undef, H, hst, ⟨w, hw⟩, h⟩
theorem mOp_quiet {j : Nat} {oj : Oper} {a : Act} {H : GH} (hj : ops[j]? = some oj) (hq : qf j = true) {K : Act → GH → Prop} (h : mOp P ops C St St1 qf ef EP al z T j K a H) : ∃ v, QV P ops C (Sq St St1 ef j) oj v a ∧ K (a.put oj.dst v) H := by
  unfold mOp at h
  simp only [hj] at h
  split at h
  · rename_i hw
    try rw [if_pos hq] at h
    obtain ⟨v, hv, hk⟩ := h
    exact ⟨v, .inl ⟨hw, hv⟩, hk⟩
  · rename_i hw
    exact ⟨undef, .inr ⟨by simpa using hw, rfl⟩, h⟩
theorem QV.unique {o : Oper} {v u : Value} {a : Act} (h : QV P ops C St o v a) (h' : QV P ops C St o u a) {H : GH} (hst : St H) (hw0 : ∃ w, SatG C H w) : v = u := by
  obtain ⟨w, hw⟩ := hw0
  rcases h with ⟨h1, h2⟩ | ⟨h1, rfl⟩ <;> rcases h' with ⟨h3, h4⟩ | ⟨h3, rfl⟩
  · exact h2.unique h4 hst hw
  · rw [h1] at h3; cases h3
  · rw [h1] at h3; cases h3
  · rfl
theorem QV.back {oi oj : Oper} {v u : Value} {a : Act} (hy : QV P ops C St oi v (a.put oj.dst u)) (hap : oj.apart ops oi = true) (hsi : ∀ cs b, oi.op ≠ .select cs b) : QV P ops C St oi v a := by
  obtain ⟨h1, _, _⟩ := Oper.apart_spec hap
  unfold QV at *
  rw [wanted_put oi a oj.dst u h1] at hy
  rcases hy with ⟨hw, hv⟩ | h
  · exact .inl ⟨hw, hv.same (execOp_put oi hsi a oj.dst u h1).symm⟩
  · exact .inr h
theorem SatG.tail {x : HObj} {H : GH} {w : World} (h : SatG C (H.1, x :: H.2) w) : SatG C H w := Sat.drop (A := [x]) h
theorem eff_mono {St : GH → Prop} {R R' : Value → GH → Prop} {r : Result Next} (h : ∀ v G, R v G → St G → R' v G) (hh : eff P C St R r) : eff P C St R' r := by
  cases r with
  | ok n w' =>
    cases n <;> simp only [eff] at hh <;> simp only [eff]
    case value v => obtain ⟨H', h1, h2, h3⟩ := hh; exact ⟨H', h _ _ h1 h2, h2, h3⟩
    case skip => obtain ⟨H', h1, h2, h3⟩ := hh; exact ⟨H', h _ _ h1 h2, h2, h3⟩
    case enter g args => exact hh.mono fun e w'' ⟨v, H', he, h1, h2, h3⟩ => ⟨v, H', he, h _ _ h1 h2, h2, h3⟩
    case row rw args => exact hh.mono fun v w'' ⟨H', h1, h2, h3⟩ => ⟨H', h _ _ h1 h2, h2, h3⟩
  | halt y w' => simp only [eff] at hh
theorem ER.mono {o : Oper} {a : Act} {H : GH} {R R' : Value → GH → Prop} (h : ∀ v G, R v G → St G → R' v G) (hh : ER P C St EP o a H R) : ER P C St EP o a H R' := by
  rcases hh with hh | ⟨h1, v, h2, h3⟩ | ⟨h1, v, h2, h3⟩
  · exact .inl fun w hw => eff_mono (fun v G hr hs => h v G hr hs.1) (hh w hw)
  · exact .inr (.inl ⟨h1, v, h _ _ h2 h3, h3⟩)
  · exact .inr (.inr ⟨h1, v, h _ _ h2 h3, h3⟩)
/-- A new block is laid ahead of a call. -/
theorem mOp_lay {k : Nat} {ok oj : Oper} {x : Value} {b : Nat} {a : Act} {H : GH} (hSt : ∀ x G, St G → St (G.1, x :: G.2)) (hk : ops[k]? = some ok) (hqk : qf k = false) (hlt : k < al) (hin : al < ops.size) (hap : ok.apart ops oj = true) (hsk : ∀ cs b, ok.op ≠ .select cs b) {K K' : Act → GH → Prop} (hst : St H) (hw0 : ∃ w, SatG C (lay z T b H) w)
    (hK : ∀ u H', St H' → (∃ w, SatG C (lay z T b H') w) → K (a.put ok.dst u) H' → K' ((a.put oj.dst x).put ok.dst u) (lay z T b H')) (h : mOp P ops C St St1 qf ef EP al z T k K a H) : mOp P ops C St St1 qf ef EP al z T k K' (a.put oj.dst x) (lay z T b H) := by
  obtain ⟨h1, h2, h3⟩ := Oper.apart_spec hap
  have he : execOp (a.put oj.dst x).eval ok = execOp a.eval ok := execOp_put ok hsk a oj.dst x h3
  unfold mOp at *
  simp only [hk] at *
  rw [wanted_put ok a oj.dst x h3]
  split
  · rename_i hw
    rw [if_pos hw, if_neg (by simp [hqk]), if_neg (by omega)] at h
    rw [if_neg (by simp [hqk]), if_neg (by omega)]
    obtain ⟨R, hR, hf, hk⟩ := h
    have hf := hf hlt hin
    refine ⟨fun v G => ∃ H1 : GH, G = lay z T b H1 ∧ R v H1 ∧ St H1, (ER.mono (fun v G ⟨H1, e, hr, hs⟩ _ => ⟨H1, e, hr, hs⟩) (hf [.cells b z T (0, 0)])).same he, fun _ _ Y => ?_, ?_⟩
    · have := hf (Y ++ [.cells b z T (0, 0)])
      rw [List.append_assoc] at this
      refine ER.mono (fun v G ⟨H1, e, hr, hs⟩ _ => ⟨lay z T b H1, ?_, ⟨H1, rfl, hr, hs⟩, hSt _ _ hs⟩) (this.same he)
      rw [e, List.append_assoc]; rfl
    · rintro v G ⟨H1, rfl, hr, hst1⟩ hst' hw'
      exact hK v H1 hst1 hw' (hk v H1 hr hst1 (by obtain ⟨w, hw⟩ := hw'; exact ⟨w, SatG.tail (H := H1) hw⟩))
  · rename_i hw
    rw [if_neg hw] at h
    exact hK undef H hst hw0 h
theorem mOp_al {o : Oper} {a : Act} {H : GH} (ho : ops[al]? = some o) (hq : qf al = false) {K : Act → GH → Prop} : mOp P ops C St St1 qf ef EP al z T al K a H ↔ (if Region.wanted o (yielded ops a.tmps) = true then ALc P z T o ∧ (∀ b, (∃ w, SatG C (lay z T b H) w) → K (a.put o.dst (.pointer (some ⟨b, 0, none⟩))) (lay z T b H)) else K (a.put o.dst undef) H) := by
  unfold mOp
  simp only [ho, hq]
  simp
/-- An effect for which every other effect waits (but for the laying of the block) may be taken first. -/
theorem wpAnyM_firstE (hSt : ∀ x G, St G → St (G.1, x :: G.2)) (hW : waitsE md ops qf ef = true) (hqa : al < ops.size → qf al = false) (hga : ∀ o, ops[al]? = some o → o.guard = none) (hlate : ∀ j oj, ops[j]? = some oj → qf j = false → al < j → ∃ e ∈ oj.after, Region.binds md e = true ∧ e.on = al) {Q : Act → GH → Prop} {k : Nat} {ok : Oper} (hk : ops[k]? = some ok) (hqk : qf k = false) (hsel : ∀ (j : Nat) (o : Oper) cs b, ops[j]? = some o → o.op ≠ .select cs b) :
    ∀ (fuel : Nat) (listed : Array Bool) (a : Act) (H : GH), St H → (∃ w, SatG C H w) → EInv qf ef ops.size listed →
      (∀ j oj, ops[j]? = some oj → j ≠ k → listed.getD j true = false → (∀ e ∈ oj.after, Region.binds md e = true → e.on ≠ k) → ok.apart ops oj = true) →
      (∀ j oj, ops[j]? = some oj → qf j = false → j ≠ k → j ≠ al → listed.getD j true = false → ∃ e ∈ oj.after, Region.binds md e = true ∧ (if k = al then e.on = al else qf e.on = false ∧ e.on ≠ al) ∧ listed.getD e.on false = false) →
      k ∈ Region.ready md ops listed → mOp P ops C St St1 qf ef EP al z T k (wpAnyM P md ops C St St1 qf ef EP al z T Q fuel (listed.setIfInBounds k true)) a H → wpAnyM P md ops C St St1 qf ef EP al z T Q (fuel + 1) listed a H := by
  intro fuel
  induction fuel with
  | zero =>
    intro listed a H hst hw0 _ _ _ hr hh
    refine ⟨fun h => (by rw [h] at hr; cases hr), fun j hj => ?_⟩
    by_cases hjk : j = k
    · subst hjk; exact hh
    · have := ready_mono hj hjk
      obtain ⟨v, H', _, _, h2⟩ := mOp_some hk hSt hst hw0 hh
      rw [h2.1] at this
      cases this
  | succ fuel ih =>
    intro listed a H hst hw0 hB hfree hwait hr hh
    refine ⟨fun h => (by rw [h] at hr; cases hr), fun j hj => ?_⟩
    by_cases hjk : j = k
    · subst hjk; exact hh
    · obtain ⟨hjun, oj, hoj, hall⟩ := mem_ready.1 hj
      cases hqj : qf j with
      | false =>
        by_cases hja : j = al
        · subst hja
          have hjs : j < ops.size := (Array.getElem?_eq_some_iff.1 hoj).1
          have hlt : k < j := by
            rcases Nat.lt_trichotomy k j with h1 | h1 | h1
            · exact h1
            · exact absurd h1.symm hjk
            · obtain ⟨e, he, hb, hon⟩ := hlate k ok hk hqk h1
              obtain ⟨_, ok', hok', hall'⟩ := mem_ready.1 hr
              rw [hk] at hok'
              cases hok'
              have h2 := hall' e he hb
              rw [hon] at h2
              rcases Nat.lt_or_ge j listed.size with h' | h'
              · simp [h'] at h2 hjun; rw [hjun] at h2; cases h2
              · simp [Array.getElem?_eq_none h'] at h2
          have hnot : ∀ e ∈ oj.after, Region.binds md e = true → e.on ≠ k := fun e he hb heq => by
            have h1 := hall e he hb
            have h0 := (mem_ready.1 hr).1
            rw [heq] at h1
            rcases Nat.lt_or_ge k listed.size with h' | h'
            · simp [h'] at h0 h1; rw [h0] at h1; cases h1
            · simp [Array.getElem?_eq_none h'] at h1
          have hap := hfree j oj hoj hjk hjun hnot
          have hwj : ∀ (y : Nat → Option Bool), Region.wanted oj y = true := fun y => by unfold Region.wanted; rw [hga oj hoj]
          obtain ⟨v0, H0, hst0, hw00, h0⟩ := mOp_some hk hSt hst hw0 hh
          have hA : ALc P z T oj := by
            have h5 := (mOp_al hoj hqj).1 (h0.2 j (ready_mono hj hjk))
            rw [if_pos (hwj _)] at h5
            exact h5.1
          refine (mOp_al hoj hqj).2 ?_
          rw [if_pos (hwj _)]
          refine ⟨hA, fun b hb => ?_⟩
          refine ih (listed.setIfInBounds j true) _ (lay z T b H) (hSt _ _ hst) hb (hB.step hW hj) (fun i oi hi hik hun hno => by
            refine hfree i oi hi hik ?_ hno
            by_cases hij : j = i
            · subst hij; exact hjun
            · rw [getD_set_ne true hij] at hun; exact hun) (fun i oi hi hqi hik hia hun => by
            rw [getD_set_ne true (Ne.symm hia)] at hun
            obtain ⟨e, he, hb, hc, hu⟩ := hwait i oi hi hqi hik hia hun
            rw [if_neg (Ne.symm hjk)] at hc
            exact ⟨e, he, hb, by rw [if_neg (Ne.symm hjk)]; exact hc, by rw [getD_set_ne false (Ne.symm hc.2)]; exact hu⟩) (ready_mono hr (Ne.symm hjk)) ?_
          refine mOp_lay hSt hk hqk hlt hjs hap (fun cs b => hsel k ok cs b hk) hst hb (fun u H' hst' hw' hK => ?_) hh
          have h5 := (mOp_al hoj hqj).1 (hK.2 j (ready_mono hj hjk))
          rw [if_pos (hwj _)] at h5
          have h6 := h5.2 b hw'
          rw [Array.setIfInBounds_comm _ _ (Ne.symm hjk)] at h6
          rw [Act.put_comm (a := a) (x := oj.dst) (y := ok.dst) _ u (fun d hd hd2 => (Oper.apart_spec hap).2.1 d hd2 hd)]
          exact h6
        · obtain ⟨e, he, hb, _, hu⟩ := hwait j oj hoj hqj hjk hja hjun
          rw [hall e he hb] at hu; cases hu
      | true =>
      have hej : ef j = false := by
        cases he : ef j with
        | false => rfl
        | true =>
          have h1 := hB.all hW hr hqk (Array.getElem?_eq_some_iff.1 hoj).1 he
          rcases Nat.lt_or_ge j listed.size with h' | h'
          · simp [h'] at hjun h1; rw [hjun] at h1; cases h1
          · simp [Array.getElem?_eq_none h'] at hjun
      have hnot : ∀ e ∈ oj.after, Region.binds md e = true → e.on ≠ k := fun e he hb heq => by
        have h1 := hall e he hb
        have h0 := (mem_ready.1 hr).1
        rw [heq] at h1
        rcases Nat.lt_or_ge k listed.size with h' | h'
        · simp [h'] at h0 h1; rw [h0] at h1; cases h1
        · simp [Array.getElem?_eq_none h'] at h1
      have hap := hfree j oj hoj hjk hjun hnot
      have hsj := fun cs b => hsel j oj cs b hoj
      obtain ⟨v0, H0, hst0, hw00, h0⟩ := mOp_some hk hSt hst hw0 hh
      obtain ⟨vj, hvj, _⟩ := mOp_quiet hoj hqj (h0.2 j (ready_mono hj hjk))
      have hva := hvj.back hap hsj
      refine qv_mOp hoj hqj hva ?_
      have hfree' : ∀ i oi, ops[i]? = some oi → i ≠ k → (listed.setIfInBounds j true).getD i true = false →
          (∀ e ∈ oi.after, Region.binds md e = true → e.on ≠ k) → ok.apart ops oi = true := fun i oi hi hik hun hno => by
        refine hfree i oi hi hik ?_ hno
        by_cases hij : j = i
        · subst hij; exact hjun
        · rw [getD_set_ne true hij] at hun; exact hun
      have hwait' : ∀ i oi, ops[i]? = some oi → qf i = false → i ≠ k → i ≠ al → (listed.setIfInBounds j true).getD i true = false → ∃ e ∈ oi.after, Region.binds md e = true ∧ (if k = al then e.on = al else qf e.on = false ∧ e.on ≠ al) ∧ (listed.setIfInBounds j true).getD e.on false = false := fun i oi hi hqi hik hia hun => by
        have hij : j ≠ i := fun e => by subst e; rw [hqj] at hqi; cases hqi
        rw [getD_set_ne true hij] at hun
        obtain ⟨e, he, hb, hqe, hu⟩ := hwait i oi hi hqi hik hia hun
        have hje : j ≠ e.on := fun h => by
          by_cases hka : k = al
          · rw [if_pos hka] at hqe; exact hjk (h.trans (hqe.trans hka.symm))
          · rw [if_neg hka] at hqe; rw [← h, hqj] at hqe; cases hqe.1
        exact ⟨e, he, hb, hqe, by rw [getD_set_ne false hje]; exact hu⟩
      refine ih (listed.setIfInBounds j true) _ H hst hw0 (hB.step hW hj) hfree' hwait' (ready_mono hr (Ne.symm hjk)) ?_
      refine mOp_push hk hap (fun cs b => hsel k ok cs b hk) hSt hst hw0 (fun u H' hst' hw' hK => ?_) hh
      obtain ⟨v', hv', hK'⟩ := mOp_quiet hoj hqj (hK.2 j (ready_mono hj hjk))
      have hvv : v' = vj := (hv'.back hap hsj).unique hva ⟨hst', fun h => by rw [hej] at h; cases h⟩ hw'
      subst hvv
      rw [Array.setIfInBounds_comm _ _ (Ne.symm hjk)] at hK'
      rw [Act.put_comm (a := a) (x := oj.dst) (y := ok.dst) v' u (fun d hd hd2 => (Oper.apart_spec hap).2.1 d hd2 hd)]
      exact hK'
theorem wpAnyM_lex (hSt : ∀ x G, St G → St (G.1, x :: G.2)) (hW : waitsE md ops qf ef = true) (hqa : al < ops.size → qf al = false) (hga : ∀ o, ops[al]? = some o → o.guard = none) (hlate : ∀ j oj, ops[j]? = some oj → qf j = false → al < j → ∃ e ∈ oj.after, Region.binds md e = true ∧ e.on = al) {Q : Act → GH → Prop} (hs : Region.noSelect ops = true) (hch : chainE md ops (fun i => qf i || Nat.beq i al) = true) : ∀ (l : List Oper) (k : Nat) (listed : Array Bool) (a : Act) (H : GH), (∀ j, l[j]? = ops[k + j]?) → (∀ i, i < k → listed.getD i true = true) → (∀ i, k ≤ i → listed.getD i false = false) →
    Region.lexFrom md ops l.length k listed = true → EInv qf ef ops.size listed → St H → (∃ w, SatG C H w) → wpMix P ops C St St1 qf ef EP al z T Q l k a H → wpAnyM P md ops C St St1 qf ef EP al z T Q l.length listed a H
  | [], _, _, _, _, _, _, _, hB, _, _, _, h => ⟨by simpa [Region.lexFrom] using hB, h⟩
  | o :: l, k, listed, a, H, hl, hi1, hi2, hB, hEI, hst, hw0, h => by
    have h0 : ops[k]? = some o := by simpa using (hl 0).symm
    simp only [List.length_cons, Region.lexFrom, Bool.and_eq_true] at hB
    obtain ⟨⟨hr, hf⟩, hB'⟩ := hB
    have hr' : k ∈ Region.ready md ops listed := by simpa using hr
    have hl' : ∀ j, l[j]? = ops[k + 1 + j]? := fun j => by have := hl (j + 1); simpa [Nat.add_assoc, Nat.add_comm 1 j] using this
    have hi1' : ∀ i, i < k + 1 → (listed.setIfInBounds k true).getD i true = true := fun i hi => by
      by_cases hik : k = i
      · subst hik
        by_cases hks : k < listed.size
        · simp [Array.getD, hks]
        · simp [Array.getD, hks]
      · rw [getD_set_ne true hik]; exact hi1 i (by omega)
    have hi2' : ∀ i, k + 1 ≤ i → (listed.setIfInBounds k true).getD i false = false := fun i hi => by
      rw [getD_set_ne false (by omega)]; exact hi2 i (by omega)
    have ih := fun a' H' (hst' : St H') (hw' : ∃ w, SatG C H' w) (hm : wpMix P ops C St St1 qf ef EP al z T Q l (k + 1) a' H') => wpAnyM_lex hSt hW hqa hga hlate hs hch l (k + 1) (listed.setIfInBounds k true) a' H' hl' hi1' hi2' hB' (hEI.step hW hr') hst' hw' hm
    unfold wpMix at h
    cases hq : qf k with
    | true =>
      rw [hq] at h
      have hv : ∃ v, QV P ops C (Sq St St1 ef k) o v a ∧ wpMix P ops C St St1 qf ef EP al z T Q l (k + 1) (a.put o.dst v) H := by
        split at h
        · rename_i hw; obtain ⟨v, h1, h2⟩ : ∃ v, QY P C (Sq St St1 ef k) o a v ∧ _ := by simpa using h
          exact ⟨v, .inl ⟨hw, h1⟩, h2⟩
        · rename_i hw; exact ⟨undef, .inr ⟨by simpa using hw, rfl⟩, h⟩
      obtain ⟨v, hv, hm⟩ := hv
      exact wpAnyM_firstQ h0 hq (Region.noSelect_spec hs) l.length listed a H (Region.free_spec h0 hf) hr' hv (ih _ _ hst hw0 hm)
    | false =>
      rw [hq] at h
      refine wpAnyM_firstE hSt hW hqa hga hlate h0 hq (Region.noSelect_spec hs) l.length listed a H hst hw0 hEI (Region.free_spec h0 hf) ?_ hr' ?_
      · intro j oj hj hqj hjk hja hun
        have hkj : k < j := by
          rcases Nat.lt_trichotomy j k with h1 | h1 | h1
          · rw [hi1 j h1] at hun; cases hun
          · exact absurd h1 hjk
          · exact h1
        have hjs : j < ops.size := (Array.getElem?_eq_some_iff.1 hj).1
        by_cases hka : k = al
        · obtain ⟨e, he, hb, hon⟩ := hlate j oj hj hqj (hka ▸ hkj)
          exact ⟨e, he, hb, by rw [if_pos hka]; exact hon, hi2 e.on (by rw [hon, hka]; exact Nat.le_refl _)⟩
        unfold chainE at hch
        have h1 := List.all_eq_true.1 hch j (by simpa using hjs)
        have bj : Nat.beq j al = false := by
          cases hb : Nat.beq j al with
          | false => rfl
          | true => exact absurd (Nat.eq_of_beq_eq_true hb) hja
        have bk : Nat.beq k al = false := by
          cases hb : Nat.beq k al with
          | false => rfl
          | true => exact absurd (Nat.eq_of_beq_eq_true hb) hka
        simp only [hqj, bj, Bool.false_or] at h1
        have h2 := List.all_eq_true.1 h1 k (by simpa using hkj)
        simp only [hq, bk, Bool.false_or, hj] at h2
        obtain ⟨e, he, hb⟩ := Array.any_eq_true'.1 h2
        simp only [Bool.and_eq_true, Bool.not_eq_true', Bool.or_eq_false_iff] at hb
        exact ⟨e, he, hb.1.1, by rw [if_neg hka]; exact ⟨hb.1.2.1, fun h => by rw [h] at hb; simp at hb⟩, hi2 e.on (Nat.le_of_ble_eq_true hb.2)⟩
      · unfold mOp
        simp only [h0]
        split
        · rename_i hw
          rw [if_pos hw] at h
          rw [if_neg (by simp)] at h
          rw [if_neg (by simp [hq])]
          split
          · rename_i hka
            rw [if_pos hka] at h
            exact ⟨h.1, fun b hb => ih _ _ (hSt _ _ hst) hb (h.2 b hb)⟩
          · rename_i hka
            rw [if_neg hka] at h
            obtain ⟨R, hR, hfr, hk⟩ := h
            exact ⟨R, hR, hfr, fun v H' hr hst' hw' => ih _ _ hst' hw' (hk v H' hr hst' hw')⟩
        · rename_i hw
          rw [if_neg hw] at h
          exact ih _ _ hst hw0 h
end
section
variable (C : Ctx) (P : Program) (H0 H1 : Heap) (qf ef : Nat → Bool) (EP : List PanicEntry → Heap → Prop) (al : Nat) (z : List Value) (T : TypeId) (n : Nat)
/-- An effect in the walk: it returns; it panics, and the walk goes on as a ghost with some value; or the walk is a ghost already. (fr: a block is laid later on: then it must be a call.) -/
inductive EffG (fr : Bool) (f : Fr) (o : Oper) (H : Heap) (b : Bool) (K : Bool → Value → Heap → Prop) : Prop
  | ret (hfr : fr = false) (hb : b = true) (h : OpW C P false n f o (fun v H' => Sub H' H0 ∧ K true v H') (fun _ _ => False) H)
  | pan (hfr : fr = false) (hb : b = true) (v : Value) (hs : Sub H H0) (h : OpW C P false n f o (fun _ _ => False) EP H) (k : K false v H)
  | call (hb : b = true) {c : Call} {x : Operand} {g : FuncId} {first captured : Array Value} (ho : o.op = .call c) (hc : c.callee = .value x) (hv : ev n f x = .func (.func g) first captured) (hg : ∀ (x : Array Value) (w : World), (callFunc g x).run P w = .ok (.enter g x) w)
      (h : CallI C P g (first.toList ++ c.args.toList.map (ev n f) ++ captured.toList).toArray H (endW (fun v H' => Sub H' H0 ∧ K true v H') (fun _ _ => False)))
  | callp (hb : b = true) {c : Call} {x : Operand} {g : FuncId} {first captured : Array Value} (v : Value) (hs : Sub H H0) (ho : o.op = .call c) (hc : c.callee = .value x) (hv : ev n f x = .func (.func g) first captured) (hg : ∀ (x : Array Value) (w : World), (callFunc g x).run P w = .ok (.enter g x) w)
      (h : CallI C P g (first.toList ++ c.args.toList.map (ev n f) ++ captured.toList).toArray H (endW (fun _ _ => False) EP)) (k : K false v H)
  | ghost (hb : b = false) (v : Value) (hs : Sub H H0) (k : K false v H)
def MListW (ops : List Oper) (Q : Bool → Fr → Heap → Prop) (l : List Oper) : Nat → Bool → Fr → Heap → Prop := @List.rec Oper (fun _ => Nat → Bool → Fr → Heap → Prop) (fun _ b f H => Q b f H)
    (fun o _ ih k b f H => guardW n ops f o.guard (fun f => cond (qf k) (cond (ef k) (QOpW C P H1 true n f o fun v => putK f o.dst v fun f' => ih (k + 1) b f' H) (QOpW C P H0 true n f o fun v => putK f o.dst v fun f' => ih (k + 1) b f' H))
        (cond (Nat.beq k al) (∀ x, putK f o.dst (.pointer (some ⟨x, 0, none⟩)) fun f' => ih (k + 1) b f' (.cells x z T (0, 0) :: H)) (EffG C P H0 EP n (Nat.blt k al && Nat.blt al ops.length) f o H b (fun b' v H' => putK f o.dst v fun f' => ih (k + 1) b' f' H'))))
      (fun f => putK f o.dst undef fun f' => ih (k + 1) b f' H)) l
end
section
variable {C : Ctx} {P : Program} {H0 H1 : Heap} {qf ef : Nat → Bool} {EP : List PanicEntry → Heap → Prop} {al : Nat} {z : List Value} {T : TypeId} {n : Nat}
theorem eff_up {St : Heap → Prop} {K : Bool → Value → Heap → Prop} {r : Result Next} (h : SL.eff P C St (fun v H => K true v H) r) : eff P C (fun H' => St H'.2 ∧ H'.1 = true) (fun v G => K G.1 v G.2) r := by
  cases r with
  | ok nx w' =>
    cases nx <;> simp only [SL.eff] at h <;> simp only [eff]
    case value v => obtain ⟨H', h1, h2, h3⟩ := h; exact ⟨(true, H'), h1, ⟨h2, rfl⟩, h3⟩
    case skip => obtain ⟨H', h1, h2, h3⟩ := h; exact ⟨(true, H'), h1, ⟨h2, rfl⟩, h3⟩
    case enter g args => exact h.mono fun e w'' ⟨v, H', he, h1, h2, h3⟩ => ⟨v, (true, H'), he, h1, ⟨h2, rfl⟩, h3⟩
    case row rw args => exact h.mono fun v w'' ⟨H', h1, h2, h3⟩ => ⟨(true, H'), h1, ⟨h2, rfl⟩, h3⟩
  | halt y w' => simp only [SL.eff] at h
theorem effP_of {f : Fr} {o : Oper} {a : Act} {H : Heap} (h : OpW C P false n f o (fun _ _ => False) EP H) (ht : TR C.ds n f a) : ∀ w, Sat C H w → effP P C EP ((execOp a.eval o).run P w) := by
  intro w hs
  have key := OpW.sound (next := fun _ _ => False) (Q := fun e _ w' => ∃ c H', e = .panic c ∧ EP c H' ∧ Sat C H' w') h ht hs (fun _ _ _ hk _ => hk) (fun c H' w' he hs' => ⟨c, H', rfl, he, hs'⟩)
  unfold Oper.wp at key
  generalize (execOp a.eval o).run P w = r at key ⊢
  cases r with
  | ok nx w' =>
    cases nx <;> simp only [Oper.upon] at key <;> simp only [effP]
    case enter g args =>
      refine key.mono fun e w'' hh => ?_
      cases e with
      | returned v => exact hh.elim
      | panicked c => obtain ⟨c', H', he, h1, h2⟩ := hh; cases he; exact ⟨c, H', rfl, h1, h2⟩
      | outgrown => obtain ⟨_, _, c', H', he, _⟩ := hh; cases he
    case row rw args =>
      obtain ⟨v, w'', hh, _⟩ := key default []
      exact hh
  | halt y w' =>
    cases y <;> simp only [Oper.upon] at key <;> simp only [effP]
    obtain ⟨c', H', he, h1, h2⟩ := key
    cases he
    exact ⟨H', h1, h2⟩
/-- A frame for the letting go of objects. -/
theorem Sub.frame {H H' : Heap} (X : Heap) (h : Sub H H') : Sub (X ++ H) (X ++ H') := fun C w hs => by
  have hH := hs.drop
  have h1 := h ⟨w, (· ∈ blks H), fun _ => none, fun _ _ h => (by cases h), []⟩ w ⟨rfl, rfl, rfl, Nat.le_refl _, fun _ _ _ => rfl, hH.objs, hH.nodup, fun r hr => .inl hr⟩
  have hsub : ∀ r ∈ blks H', r ∈ blks H := fun r hr => by
    rcases h1.mine r hr with h2 | h2
    · exact h2
    · have h3 := h1.lt r hr; simp only at h2; omega
  have hnd := hs.nodup
  simp only [blks, List.flatMap_append] at hnd
  obtain ⟨n1, n2, n3⟩ := List.nodup_append.1 hnd
  refine ⟨hs.os, hs.tape, hs.output, hs.size, hs.keep, fun o ho => ?_, ?_, fun r hr => ?_⟩
  · rcases List.mem_append.1 ho with ho | ho
    · exact hs.objs o (by simp [ho])
    · have := h1.objs o ho
      cases o <;> exact this
  · simp only [blks, List.flatMap_append]
    exact List.nodup_append.2 ⟨n1, h1.nodup, fun a ha b hb => n3 a ha b (hsub b hb)⟩
  · simp only [blks, List.flatMap_append, List.mem_append] at hr
    refine hs.mine r ?_
    simp only [blks, List.flatMap_append, List.mem_append]
    exact hr.imp id (hsub r)
theorem CallI.frame {g : FuncId} {args : Array Value} {H : Heap} {K : Ending → Heap → Prop} (X : Heap) (h : CallI C P g args H K) : CallI C P g args (X ++ H) (fun e G => ∃ H1, K e H1 ∧ Sub G (X ++ H1)) := by
  obtain ⟨A, B, R, hp, hft, hk⟩ := h
  refine ⟨A, B ++ X, R, Sub.trans (Sub.frame X hp) (Sub.of_perm (X := []) ?_), fun F' he => hft F' ⟨he.F, fun x hx => he.H x (by simp [hx])⟩, fun e A' hR => ?_⟩
  · rw [List.nil_append, ← List.append_assoc A]
    exact List.perm_append_comm
  · rw [forceH_eq]
    refine ⟨_, by have := hk e A' hR; rwa [forceH_eq] at this, Sub.of_perm (X := []) ?_⟩
    rw [List.nil_append, ← List.append_assoc A']
    exact List.perm_append_comm
theorem call_run {f : Fr} {o : Oper} {a : Act} {c : Call} {x : Operand} {g : FuncId} {first captured : Array Value} (ho : o.op = .call c) (hc : c.callee = .value x) (hv : ev n f x = .func (.func g) first captured) (hg : ∀ (x : Array Value) (w : World), (callFunc g x).run P w = .ok (.enter g x) w) (ht : TR C.ds n f a) (w : World) :
    (execOp a.eval o).run P w = .ok (.enter g (first.toList ++ c.args.toList.map (ev n f) ++ captured.toList).toArray) w := by
  rw [ht.eval]
  unfold execOp; simp only [ho]
  simp only [resolve, hc, Deferred.ofValue, hv]
  have : (first.toList ++ c.args.toList.map (ev n f) ++ captured.toList).toArray = first ++ c.args.map (ev n f) ++ captured := by
    rw [map_args]; simp
  rw [this]
  simpa [invoke] using hg (first ++ c.args.map (ev n f) ++ captured) w
theorem EffG.erf {f : Fr} {o : Oper} {a : Act} {H : Heap} {b : Bool} {K : Bool → Value → Heap → Prop} (h : EffG C P H0 EP n true f o H b K) (ht : TR C.ds n f a) : ERF P C (fun G => Sub G.2 H0) EP o a (b, H) (fun v G => K G.1 v G.2) := by
  intro X
  have hX : ∀ {G : Heap}, Sub G H0 → Sub (X ++ G) H0 := fun h _ _ hs => h.sat hs.drop
  cases h with
  | ret hfr => cases hfr
  | pan hfr => cases hfr
  | call hb ho hc hv hg h =>
    subst hb
    refine .inl fun w hs => ?_
    rw [call_run ho hc hv hg ht]
    refine (CallI.sound (CallI.frame X h) hs).mono fun e w'' ⟨hne, H', ⟨H1, hk, hsub⟩, hs'⟩ => ?_
    cases e with
    | returned v =>
      simp only [endW, forceV_eq] at hk
      exact ⟨v, (true, X ++ H1), rfl, ⟨(true, H1), rfl, hk.2, hk.1⟩, ⟨hX hk.1, rfl⟩, hsub.sat hs'⟩
    | panicked c => exact hk.elim
    | outgrown => exact absurd rfl hne
  | callp hb v hs0 ho hc hv hg h k =>
    subst hb
    refine .inr (.inl ⟨fun w hs => ?_, v, ⟨(false, H), rfl, k, hs0⟩, hX hs0⟩)
    rw [call_run ho hc hv hg ht]
    refine (CallI.sound h (Sat.drop (A := X) hs)).mono fun e w'' ⟨hne, H', hk, hs'⟩ => ?_
    cases e with
    | returned v => simp only [endW, forceV_eq] at hk
    | panicked c => exact ⟨c, H', rfl, hk, hs'⟩
    | outgrown => exact absurd rfl hne
  | ghost hb v hs0 k => subst hb; exact .inr (.inr ⟨rfl, v, ⟨(false, H), rfl, k, hs0⟩, hX hs0⟩)
theorem EffG.er {fr : Bool} {f : Fr} {o : Oper} {a : Act} {H : Heap} {b : Bool} {K : Bool → Value → Heap → Prop} (hn : 0 < n) (h : EffG C P H0 EP n fr f o H b K) (ht : TR C.ds n f a) : ER P C (fun G => Sub G.2 H0) EP o a (b, H) (fun v G => K G.1 v G.2) := by
  cases h with
  | ret _ hb h => subst hb; exact .inl fun w hs => eff_up (SL.ER.of_op hn h ht w hs)
  | pan _ hb v hs h k => exact .inr (.inl ⟨effP_of h ht, v, k, hs⟩)
  | call hb ho hc hv hg h =>
    subst hb
    refine .inl fun w hs => ?_
    rw [call_run ho hc hv hg ht]
    refine (CallI.sound h hs).mono fun e w'' ⟨hne, H', hk, hs'⟩ => ?_
    cases e with
    | returned v =>
      simp only [endW, forceV_eq] at hk
      exact ⟨v, (true, H'), rfl, hk.2, ⟨hk.1, rfl⟩, hs'⟩
    | panicked c => exact hk.elim
    | outgrown => exact absurd rfl hne
  | callp hb v hs0 ho hc hv hg h k =>
    refine .inr (.inl ⟨fun w hs => ?_, v, k, hs0⟩)
    rw [call_run ho hc hv hg ht]
    refine (CallI.sound h hs).mono fun e w'' ⟨hne, H', hk, hs'⟩ => ?_
    cases e with
    | returned v => simp only [endW, forceV_eq] at hk
    | panicked c => exact ⟨c, H', rfl, hk, hs'⟩
    | outgrown => exact absurd rfl hne
  | ghost hb v hs k => subst hb; exact .inr (.inr ⟨rfl, v, k, hs⟩)
theorem MListW.sound {ops : Array Oper} {Q : Bool → Fr → Heap → Prop} (hA : ∀ o, ops[al]? = some o → ALc P z T o) (hn : 0 < n) (hnc : callFree ops qf = true) : ∀ (l : List Oper) (k : Nat) (b : Bool) {f : Fr} {H : Heap} {a : Act}, (∀ j, l[j]? = ops[k + j]?) → MListW C P H0 H1 qf ef EP al z T n ops.toList Q l k b f H → TR C.ds n f a →
    wpMix P ops C (fun G => Sub G.2 H0) (fun G => Sub G.2 H1) qf ef EP al z T (fun a G => ∃ f, Q G.1 f G.2 ∧ TR C.ds n f a) l k a (b, H)
  | [], _, b, f, H, a, _, h, ht => ⟨f, h, ht⟩
  | o :: l, k, b, f, H, a, hl, h, ht => by
    have h0 : ops[k]? = some o := by simpa using (hl 0).symm
    have hl' : ∀ j, l[j]? = ops[k + 1 + j]? := fun j => by have := hl (j + 1); simpa [Nat.add_assoc, Nat.add_comm 1 j] using this
    replace h : guardW n ops.toList f o.guard (fun f => cond (qf k) (cond (ef k) (QOpW C P H1 true n f o fun v => putK f o.dst v fun f' => MListW C P H0 H1 qf ef EP al z T n ops.toList Q l (k + 1) b f' H) (QOpW C P H0 true n f o fun v => putK f o.dst v fun f' => MListW C P H0 H1 qf ef EP al z T n ops.toList Q l (k + 1) b f' H)) (cond (Nat.beq k al) (∀ x, putK f o.dst (.pointer (some ⟨x, 0, none⟩)) fun f' => MListW C P H0 H1 qf ef EP al z T n ops.toList Q l (k + 1) b f' (.cells x z T (0, 0) :: H)) (EffG C P H0 EP n (Nat.blt k al && Nat.blt al ops.toList.length) f o H b (fun b' v H' => putK f o.dst v fun f' => MListW C P H0 H1 qf ef EP al z T n ops.toList Q l (k + 1) b' f' H'))))
      (fun f => putK f o.dst undef fun f' => MListW C P H0 H1 qf ef EP al z T n ops.toList Q l (k + 1) b f' H) := h
    simp only [putK_eq] at h
    unfold wpMix
    rcases guardW.sound (ops := ops) ht h with ⟨hw, h⟩ | ⟨hw, h⟩
    · rw [if_pos hw]
      cases hq : qf k with
      | true =>
        rw [hq] at h
        simp only [cond_true] at h
        have hcf : ∀ c x, o.op = .call c → c.callee = .value x → False := fun c x ho hc => by
          have hks : k < ops.size := (Array.getElem?_eq_some_iff.1 h0).1
          have h1 := List.all_eq_true.1 hnc k (by simpa using hks)
          simp only [hq, h0, ho, hc] at h1
          simp at h1
        simp only [if_true]
        cases he : ef k with
        | true =>
          rw [he] at h
          simp only [cond_true] at h
          obtain ⟨v, hv, hk⟩ := QOpW.plain h ht hcf
          exact ⟨v, fun w ⟨H2, ⟨_, hs3⟩, hs2⟩ => hv w ((hs3 he).sat hs2), MListW.sound hA hn hnc l (k + 1) b hl' hk (ht.put o.dst v)⟩
        | false =>
          rw [he] at h
          simp only [cond_false] at h
          obtain ⟨v, hv, hk⟩ := QOpW.plain h ht hcf
          exact ⟨v, fun w ⟨H2, ⟨hs1, _⟩, hs2⟩ => hv w (hs1.sat hs2), MListW.sound hA hn hnc l (k + 1) b hl' hk (ht.put o.dst v)⟩
      | false =>
        rw [hq] at h
        simp only [cond_false] at h
        rw [if_neg (by simp)]
        cases hka : Nat.beq k al with
        | true =>
          rw [hka] at h
          simp only [cond_true] at h
          have hka := Nat.eq_of_beq_eq_true hka
          rw [if_pos hka]
          exact ⟨hA o (hka ▸ h0), fun x _ => MListW.sound hA hn hnc l (k + 1) b hl' (h x) (ht.put o.dst _)⟩
        | false =>
          rw [hka] at h
          simp only [cond_false] at h
          rw [if_neg (fun e => by rw [e] at hka; simp at hka)]
          refine ⟨_, EffG.er hn h ht, fun h1 h2 => ?_, fun v H' hk hst hw => MListW.sound hA hn hnc l (k + 1) H'.1 hl' hk (ht.put o.dst v)⟩
          have hfr : (Nat.blt k al && Nat.blt al ops.toList.length) = true := by simp [Nat.blt_eq, h1, h2]
          rw [hfr] at h
          exact EffG.erf h ht
    · rw [if_neg (by simp [hw])]
      exact MListW.sound hA hn hnc l (k + 1) b hl' h (ht.put o.dst undef)
/-- The temporaries that a region writes. -/
def dsts (ops : Array Oper) : List Nat := ops.toList.filterMap (·.dst)
theorem core (es : List Nat) (H0 : Heap) (EP : List PanicEntry → Heap → Prop) (al : Nat) (z : List Value) (T : TypeId) {id : Nat} {ops : Array Oper} {Q : Exit → Fr → Heap → Prop} {f : Fr} {H : Heap} (hn : Nat.blt 0 n = true) (hm : P.follows .mixedOrders = true) (hB : Region.lexB .any ops = true)
    (hch : chainE .any ops (fun i => qfl es i || Nat.beq i al) = true) (hnc : callFree ops (qfl es) = true) (hqa : al < ops.size → qfl es al = false) (hA : ∀ o, ops[al]? = some o → ALc P z T o) (hlate : ∀ j oj, ops[j]? = some oj → qfl es j = false → al < j → ∃ e ∈ oj.after, Region.binds .any e = true ∧ e.on = al)
    (h0 : Sub H H0) (hP : ∀ c f' H', (∀ t, t ∉ dsts ops → f' t = f t) → EP c H' → Q (.panic c) f' H')
    (h : MListW C P H0 H0 (qfl es) (efl []) EP al z T n ops.toList (fun b f H => b = true → Q .normal f H) ops.toList 0 true f H) (hd : noDefer ops = true := by kernel_rfl) : DrawI C P n id ops Q f H :=
  ⟨hm, hd, fun a w ht hs' => by
    simp only [Region.lexB, Bool.and_eq_true] at hB
    have hrep : ∀ k, (Array.replicate ops.size false).getD k false = false := fun k => by
      by_cases hk : k < ops.size <;> simp [Array.getD, hk]
    have hEI : EInv (qfl es) (efl []) ops.size (Array.replicate ops.size false) := fun k _ hk => by rw [hrep] at hk; cases hk
    have hW : waitsE .any ops (qfl es) (efl []) = true := waitsE_nil
    have hSt : ∀ (x : HObj) (G : GH), Sub G.2 H0 → Sub (x :: G.2) H0 := fun x G h _ _ hs => h.sat (Sat.drop (A := [x]) hs)
    refine wpAnyM_sound (St := fun G => Sub G.2 H0) (St1 := fun G => Sub G.2 H0) (qf := qfl es) (ef := efl []) (EP := EP) (al := al) (z := z) (T := T) hSt hW (fun i hi => by simp [efl] at hi) (Q := fun a G => ∃ f, (G.1 = true → Q .normal f G.2) ∧ TR C.ds n f a) (J := fun a => ∃ f', TR C.ds n f' a ∧ ∀ t, t ∉ dsts ops → f' t = f t)
      (fun a i o v ho ⟨f', ht', hf'⟩ => ⟨_, ht'.put o.dst v, fun t hnt => ?_⟩) (fun a' G w' hs' hal _ ⟨f', hq, ht'⟩ => ⟨by simp, f', G.2, hq hal, ht', hs'⟩) (fun a' c H' w' ⟨f', ht', hf'⟩ he hs' => ⟨by simp, f', H', hP c f' H' hf' he, ht', hs'⟩) _ _ _ (true, H) _ rfl ⟨f, ht, fun _ _ => rfl⟩ h0 hEI (fun _ _ _ => h0) hs' ?_
    · rw [← hf' t hnt]
      cases hdst : o.dst with
      | none => rfl
      | some d =>
        have hm : d ∈ dsts ops := List.mem_filterMap.2 ⟨o, by have := Array.mem_of_getElem? ho; simpa using this, hdst⟩
        have hne : t ≠ d := fun e => hnt (e ▸ hm)
        show upd f' d v t = f' t
        unfold upd
        cases hb : Nat.beq t d with
        | true => exact absurd (Nat.eq_of_beq_eq_true hb) hne
        | false => rfl
    have := wpAnyM_lex (P := P) (md := .any) (C := C) (St := fun G => Sub G.2 H0) (St1 := fun G => Sub G.2 H0) (EP := EP) (al := al) (z := z) (T := T) hSt hW hqa (fun o ho => (hA o ho).guard) hlate hB.1 hch ops.toList 0 (Array.replicate ops.size false) a (true, H) (by simp) (fun i hi => absurd hi (by omega)) (fun i _ => hrep i) (by simpa using hB.2) hEI h0 ⟨_, hs'⟩
      (MListW.sound hA (by simpa [Nat.blt_eq] using hn) hnc ops.toList 0 true (by simp) h ht)
    simpa using this⟩
/-- A region that draws its order, in which effects (their places: es) may panic. EP: what holds behind a panic; hP: that this is enough, whatever temporaries of the region have been written. The walk begins alive (true); behind a panic it goes on as a ghost, whose end asks for nothing. -/
theorem draw (es : List Nat) (H0 : Heap) (EP : List PanicEntry → Heap → Prop) {id : Nat} {ops : Array Oper} {Q : Exit → Fr → Heap → Prop} {f : Fr} {H : Heap} (hn : Nat.blt 0 n = true) (hm : P.follows .mixedOrders = true) (hB : Region.lexB .any ops = true)
    (hch : chainE .any ops (fun i => qfl es i || Nat.beq i ops.size) = true) (hnc : callFree ops (qfl es) = true) (h0 : Sub H H0) (hP : ∀ c f' H', (∀ t, t ∉ dsts ops → f' t = f t) → EP c H' → Q (.panic c) f' H')
    (h : MListW C P H0 H0 (qfl es) (efl []) EP ops.size [] 0 n ops.toList (fun b f H => b = true → Q .normal f H) ops.toList 0 true f H) (hd : noDefer ops = true := by kernel_rfl) : DrawI C P n id ops Q f H :=
  core es H0 EP ops.size [] 0 hn hm hB hch hnc (fun h => absurd h (by omega)) (fun o ho => by simp at ho) (fun j oj hj _ hlt => by have := (Array.getElem?_eq_some_iff.1 hj).1; omega) h0 hP h hd
def lateB (ops : Array Oper) (es : List Nat) (al : Nat) : Bool := (List.range ops.size).all fun j => qfl es j || Nat.ble j al || match ops[j]? with
  | some o => o.after.any fun e => Region.binds .any e && Nat.beq e.on al
  | none => true
def noGuard (ops : Array Oper) (al : Nat) : Bool := match ops[al]? with | some o => o.guard.isNone | none => true
/-- As draw; the operation al lays a new block (z: its cells, T: their type) and waits for none; the effects ahead of it are calls. -/
theorem drawA (es : List Nat) (H0 : Heap) (EP : List PanicEntry → Heap → Prop) (al : Nat) (z : List Value) (T : TypeId) {id : Nat} {ops : Array Oper} {Q : Exit → Fr → Heap → Prop} {f : Fr} {H : Heap} (hn : Nat.blt 0 n = true) (hm : P.follows .mixedOrders = true) (hB : Region.lexB .any ops = true)
    (hch : chainE .any ops (fun i => qfl es i || Nat.beq i al) = true) (hnc : callFree ops (qfl es) = true) (hqa : qfl es al = false) (hl : lateB ops es al = true) (hg : noGuard ops al = true) (hA : ∀ o, ops[al]? = some o → ∀ (a : Act) (w : World), (execOp a.eval o).run P w = .ok (.value (.pointer (some ⟨w.heap.size, 0, none⟩))) { w with heap := w.heap.push (.cells z.toArray T (0, 0)) })
    (h0 : Sub H H0) (hP : ∀ c f' H', (∀ t, t ∉ dsts ops → f' t = f t) → EP c H' → Q (.panic c) f' H')
    (h : MListW C P H0 H0 (qfl es) (efl []) EP al z T n ops.toList (fun b f H => b = true → Q .normal f H) ops.toList 0 true f H) (hd : noDefer ops = true := by kernel_rfl) : DrawI C P n id ops Q f H :=
  core es H0 EP al z T hn hm hB hch hnc (fun _ => hqa) (fun o ho => ⟨by unfold noGuard at hg; rw [ho] at hg; simpa using hg, hA o ho⟩) (fun j oj hj hq hlt => by
    have hjs : j < ops.size := (Array.getElem?_eq_some_iff.1 hj).1
    unfold lateB at hl
    have h1 := List.all_eq_true.1 hl j (by simpa using hjs)
    have h2 : Nat.ble j al = false := by
      cases hb : Nat.ble j al with
      | false => rfl
      | true => have := Nat.le_of_ble_eq_true hb; omega
    rw [hq, h2, hj] at h1
    simp only [Bool.false_or] at h1
    obtain ⟨e, he, hb⟩ := Array.any_eq_true'.1 h1
    simp only [Bool.and_eq_true] at hb
    exact ⟨e, he, hb.1, Nat.eq_of_beq_eq_true hb.2⟩) h0 hP h hd
end
end SL.Fail
end Go.Proofs.YtlfmckjehjedpaaGreatDoor

/- A function that defers one call at its beginning; two results in memory. -/
namespace Go.Proofs.YtlfmckjehjedpaaGreatDoor
set_option linter.unusedVariables false
set_option linter.unusedSimpArgs false
set_option maxRecDepth 100000
open SL Go.RowKit Go.Maps
namespace SL
open Go Go.RowKit
section
variable {C : Ctx} {P : Program} {n : Nat} {fn : Func} {f : Fr} {H : Heap} {K : Value → Prop}
theorem RetI.cell_cell {t u : Nat} {T U : TypeId} (hr : fn.results = #[.cell t T, .cell u U]) (ht : Nat.blt t n = true) (hu : Nat.blt u n = true)
    (k : match f t with | .pointer (some a) => LoadV C P T a H fun x => (match f u with | .pointer (some b) => LoadV C P U b H fun y => K (.tuple #[x, y]) | _ => False) | _ => False) : RetI C P n fn f H K := by
  split at k
  · rename_i a ha
    obtain ⟨x, hx, hk⟩ := k
    split at hk
    · rename_i b hb
      obtain ⟨y, hy, hk⟩ := hk
      have ht' : t < n := by simpa [Nat.blt_eq] using ht
      have hu' : u < n := by simpa [Nat.blt_eq] using hu
      exact ⟨_, fun c w h hs => by simp [results, hr, h.tmps, ht', hu', ha, hb, asAddr, hx w hs, hy w hs], hk⟩
    · exact hk.elim
  · exact k.elim
end
theorem wpIn_deferRegion {P : Program} {n : Nat} {f : Fr} {a : Act} {w : World} {Q : Exit → Act → World → Prop} {id d : Nat} {mk df : Oper} {v : Value} {D : Deferred} (ht : TR [] n f a) (hmk : mk.guard = none) (hdf : df.guard = none) (hmd : mk.dst = some d) (hdd : df.dst = none)
    (hnd : ∀ c, mk.op ≠ .defer c) (h1 : ∀ (a : Act) (w : World), TR [] n f a → (execOp a.eval mk).run P w = .ok (.value v) w) (h2 : ∀ (a : Act) (w : World), TR [] n (upd f d v) a → (execOp a.eval df).run P w = .ok (.defer D) w)
    (hk : ∀ a', TR [D] n (upd f d v) a' → Q .normal a' w) : (Code.region id #[mk, df] false).wpIn Fence.wide 0 P Q a w := by
  refine wpIn_region_list ?_
  show wpListIn Fence.wide 0 P #[mk, df] Q [mk, df] a w
  unfold wpListIn
  rw [if_pos (by simp [Region.wanted, hmk])]
  refine ⟨fun _ _ => trivial, ?_⟩
  rw [Oper.semAt_eq _ _ _ hnd, h1 a w ht]
  have ht1 : TR [] n (upd f d v) (a.put mk.dst v) := by
    have := TR.put (C := ⟨w, fun _ => False, fun _ => none, fun _ _ h => (by cases h), []⟩) ht (some d) v
    rw [hmd]; exact this
  show wpListIn Fence.wide 0 P #[mk, df] Q [df] (a.put mk.dst v) w
  unfold wpListIn
  rw [if_pos (by simp [Region.wanted, hdf])]
  refine ⟨fun _ _ => trivial, ?_⟩
  rw [show (Fence.wide).round = none from rfl, Oper.semAt_none, h2 _ w ht1]
  show wpListIn Fence.wide 0 P #[mk, df] Q [] (({ (a.put mk.dst v) with defers := D :: (a.put mk.dst v).defers } : Act).put df.dst undef) w
  unfold wpListIn
  refine hk _ ⟨?_, ?_⟩
  · rw [hdd]; exact ht1.tmps
  · rw [hdd]; show D :: (a.put mk.dst v).defers = _; rw [ht1.defers]
/-- How a function is left that has deferred D. -/
structure leaveQ (C : Ctx) (P : Program) (n : Nat) (fn : Func) (R : Ending → Heap → Prop) (D : Deferred) (e : Exit) (f : Fr) (H' : Heap) : Prop where
  go : ∀ (a : Act) (w : World), TR [D] n f a → Sat C H' w → match e with
    | .normal | .ret => LeavesIn Fence.wide 0 P fn a.tmps (fun e w' => e ≠ .outgrown ∧ ∃ H', R e H' ∧ Sat C H' w') [D] .returning w
    | .panic c => LeavesIn Fence.wide 0 P fn a.tmps (fun e w' => e ≠ .outgrown ∧ ∃ H', R e H' ∧ Sat C H' w') [D] (.panicking c) w
    | _ => False
/-- The place at which D is deferred. -/
structure DeferAt (P : Program) (n : Nat) (mk df : Oper) (f : Fr) (d : Nat) (v : Value) (D : Deferred) : Prop where
  hm : ∀ (a : Act) (w : World), TR [] n f a → (execOp a.eval mk).run P w = .ok (.value v) w
  hd : ∀ (a : Act) (w : World), TR [] n (upd f d v) a → (execOp a.eval df).run P w = .ok (.defer D) w
theorem FT.of_defer {P : Program} {g : FuncId} {fn : Func} {r0 rest : Code} {id1 d : Nat} {mk df : Oper} {args : List Value} {F : Mem} {H : Heap} {R : Ending → Heap → Prop} {n : Nat}
    (hf : P.funcs[g]? = some fn) (hb : fn.body = some (.seq r0 (.seq (.region id1 #[mk, df] false) rest))) (hn : fn.ntmps = n) (hl : args.length ≤ n) (hmk : mk.guard = none) (hdf : df.guard = none) (hmd : mk.dst = some d) (hdd : df.dst = none) (hnd : ∀ c, mk.op ≠ .defer c)
    (h : ∀ C : Ctx, C.F = F → C.ds = [] → CW C P n r0 (fun e f H' => e = .normal ∧ ∃ v D, DeferAt P n mk df f d v D ∧ CW { C with ds := [D] } P n rest (leaveQ C P n fn R D) (upd f d v) H') (argFr args) H) : FT P g args.toArray F H R := by
  intro w hF hs
  refine callsIn_wide.1 (callsIn_of_wp_defers (n := 0) hf hb trivial (wpIn_seq (wpIn_mono' ?_ (CW.sound (r := none) r0 (h _ rfl rfl) ⟨?_, rfl⟩ hs))))
  · intro e a w1 ⟨hne, f1, H1, ⟨he, v, D, hD, hrest⟩, ht, hs1⟩
    subst he
    refine wpIn_seq (wpIn_deferRegion ht hmk hdf hmd hdd hnd hD.hm hD.hd fun a2 ht2 => ?_)
    refine wpIn_mono' ?_ (CW.sound (C := { (⟨w, (· ∈ blks H), F, hF, []⟩ : Ctx) with ds := [D] }) (r := none) rest hrest ht2 (Sat.to_ds hs1))
    intro e a3 w3 ⟨hne3, f3, H3, hq, ht3, hs3⟩
    have hq := hq.go a3 w3 ht3 (Sat.of_ds hs3)
    have hd3 : a3.defers = [D] := ht3.defers
    cases e with
    | normal => show LeavesIn _ _ _ _ _ _ a3.defers _ _; rw [hd3]; exact hq
    | ret => show LeavesIn _ _ _ _ _ _ a3.defers _ _; rw [hd3]; exact hq
    | panic c => show LeavesIn _ _ _ _ _ _ a3.defers _ _; rw [hd3]; exact hq
    | outgrown => exact absurd rfl hne3
    | exit i => exact hq.elim
    | goto i => exact hq.elim
  · apply Array.ext
    · simp [hn]; omega
    · intro i h1 h2
      simp at h1 h2
      simp only [Array.getElem_append, List.size_toArray]
      split
      · rename_i hi; simp [argFr, List.getElem?_eq_getElem hi]
      · rename_i hi; simp at hi; simp [argFr, List.getElem?_eq_none hi]
end SL
end Go.Proofs.YtlfmckjehjedpaaGreatDoor
