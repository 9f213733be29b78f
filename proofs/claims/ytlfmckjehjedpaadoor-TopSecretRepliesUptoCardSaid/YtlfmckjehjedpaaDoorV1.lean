/- What the laws' proofs stand on, in one row: laws in numbers and lists, contracts of functions. No condition. -/
import Derived.Test.YtlfmckjehjedpaaDoorQ4
import Derived.Test.YtlfmckjehjedpaaDoorRows
import Derived.ProofKit
import Derived.OpenShut
import Derived.LaidMore
import Derived.Lay
import Derived.Stop.Joined
/- A member's card, a path's keys, a device that stands: keytree's. -/
namespace Go.Proofs.YtlfmckjehjedpaaDoor
set_option linter.unusedVariables false
set_option linter.unusedSimpArgs false
set_option maxRecDepth 100000
open SL Go.RowKit Go.Maps
/-- A card. -/
def cardL (w s ep : Int) (k : KeyI) : List Value := [.int .i64 w, .int .i64 s, .int .i64 ep, .int .i64 k.1, .int .i64 k.2]
def CardR (t : TreeI) (w : Int) (e : Ending) (H : Heap) : Prop := H = [] ∧
  ((∃ s, ∃ hs : s < t.rs.length, tk t.rs[s] ∧ t.rs[s].1 = w ∧ findI t.rs w 0 = (s : Int) ∧ e = .returned (.tuple #[.agg (cardL w s t.ep (leafK t.rs[s] t.ep)).toArray, .int .i64 0])) ∨
   (findI t.rs w 0 < 0 ∧ e = .returned (.tuple #[.agg (cardL 0 0 0 (0, 0)).toArray, .int .i64 16])))
set_option maxHeartbeats 2000000 in
theorem card_ok (F : Mem) (t : TreeI) (T : TreeOk t) (w : Int) : FT Tryd.prog 38 [.agg (treeL t).toArray, .int .i64 w].toArray F [] (CardR t w) := by
  have hS := T.shaped
  have hl := treeL_length hS
  have hlr := rsV_len hS.r
  refine FT.of_body Tryd.func38 rfl Tryd.ntmps38 (by simp) fun C hC => ?_
  subst hC
  conv => whnf
  intro b2
  conv => whnf
  intro b4
  conv => whnf
  refine LoadV.p 236 (treeL t) rfl hl (by show 0 + 236 ≤ (treeL t).length; omega) (take_all0 hl) ?_
  conv => whnf
  refine CallS.mk Tryd.call24 ⟨[], _, _, Sub.refl _, fun F' hF' => tcheck_ok F' t T, ?_⟩
  rintro e A' ⟨rfl, rfl⟩
  conv => whnf
  refine LoadV.p 192 (rsV t.rs) rfl hlr (by show 44 + 192 ≤ (treeL t).length; omega) (treeL_rs hS) ?_
  conv => whnf
  refine CallS.mk Tryd.call63 ⟨[], _, _, Sub.refl _, fun F' hF' => find_ok F' t.rs T.R.len w, ?_⟩
  rintro e A' ⟨rfl, rfl⟩
  by_cases hf : findI t.rs w 0 < 0
  · have hf0 := hf
    generalize findI t.rs w 0 = f at hf ⊢
    conv => whnf
    refine cond_t hf ?_
    conv => whnf
    refine StoreV.c rfl rfl (Nat.le_of_ble_eq_true rfl) rfl ?_
    conv => whnf
    refine RetI.cell2 Tryd.results38 rfl rfl ?_
    conv => whnf
    refine LoadV.p 5 (cardL 0 0 0 (0, 0)) rfl rfl (Nat.le_of_ble_eq_true rfl) (by kernel_rfl) ?_
    exact ⟨_, Sub.sel [] rfl, rfl, .inr ⟨hf0, rfl⟩⟩
  · obtain ⟨s, hs, hfs, htk, hw⟩ := find_on (show 0 ≤ findI t.rs w 0 by omega)
    have hs64 : s < 64 := by rw [← T.R.len]; exact hs
    have hpart := treeL_ent hS hs
    have hlo := T.leafOk (List.getElem_mem hs) htk
    have hla := fun F' => leafAt_ok F' t.rs[s] t.ep hlo
    have hfin : CardR t w (.returned (.tuple #[.agg (cardL w s t.ep (leafK t.rs[s] t.ep)).toArray, .int .i64 0])) [] := ⟨rfl, .inl ⟨s, hs, htk, hw, hfs, rfl⟩⟩
    rw [hfs]
    generalize t.rs[s] = e at hpart hla hfin
    generalize leafK e t.ep = k at hla hfin
    rw [show keyF k = [.int .i64 k.1, .int .i64 k.2] from rfl] at hla
    conv => whnf
    refine SL.Late.Tree.drawTC nkT [6, 10, 11] [] [] [_] [] (fun b : Nat => [(1, .int .i64 w), (2, .pointer (some ⟨b2, 0, none⟩)), (4, .pointer (some ⟨b4, 0, none⟩)), (7, .int .i64 (s : Int)), (8, .pointer (some ⟨b, 0, none⟩)), (9, .int .i64 0)]) (fun b => [.cells b [.int .i64 k.1, .int .i64 k.2] 35 (0, 0), .cells b4 (cardL 0 0 0 (0, 0)) 100 (0, 0), .cells b2 (treeL t) 54 (0, 0)]) (fun _ => True)
      (by kernel_rfl) (by kernel_rfl) (by kernel_rfl) (by kernel_rfl) (by kernel_rfl) (by kernel_rfl) (by kernel_rfl) (by kernel_rfl) (by kernel_rfl) (Sub.sel [1] rfl) (Sub.sel [] rfl) ?_ ?_
    · conv => whnf
      refine ⟨by omega, ?_⟩
      conv => whnf
      refine LoadV.eq (b := b2) (o := 44 + s * 3) (by exact congrArg (fun o => (⟨b2, o, none⟩ : Addr)) (elem_off2 (o := 44) (n := 3) (by kernel_rfl) rfl)) ?_
      refine LoadV.p 3 _ rfl rfl (by show 44 + s * 3 + 3 ≤ (treeL t).length; omega) hpart ?_
      conv => whnf
      refine LoadV.s rfl rfl ?_
      conv => whnf
      refine ⟨?_, ?_, trivial⟩
      · refine CallS.mk Tryd.call64 ⟨[], [_, _], _, Sub.sel [0, 1] rfl, fun F' hF' => hla F', ?_⟩
        rintro ed A' ⟨rfl, rfl⟩
        conv => whnf
        refine ⟨⟨Sub.sel [1] rfl, fun _ => Sub.sel [] rfl⟩, ?_⟩
        conv => whnf
        refine ⟨?_, trivial⟩
        intro b7
        conv => whnf
        refine ⟨⟨Sub.sel [2] rfl, fun _ => Sub.sel [] rfl⟩, ?_⟩
        conv => whnf
        refine ⟨?_, trivial⟩
        refine StoreV.c rfl rfl (Nat.le_of_ble_eq_true rfl) rfl ?_
        conv => whnf
        refine ⟨⟨Sub.sel [2] rfl, fun _ => Sub.sel [] rfl⟩, ?_⟩
        conv => whnf
        exact ⟨b7, trivial, ⟨rfl, rfl, rfl, rfl, rfl, rfl, trivial⟩, Sub.sel [0, 1, 2] rfl⟩
      · intro b7
        conv => whnf
        refine ⟨⟨Sub.sel [2] rfl, fun _ => Sub.sel [] rfl⟩, ?_⟩
        conv => whnf
        refine ⟨?_, trivial⟩
        refine CallS.mk Tryd.call64 ⟨[], [_, _, _], _, Sub.sel [0, 1, 2] rfl, fun F' hF' => hla F', ?_⟩
        rintro ed A' ⟨rfl, rfl⟩
        conv => whnf
        refine ⟨⟨Sub.sel [2] rfl, fun _ => Sub.sel [] rfl⟩, ?_⟩
        conv => whnf
        refine ⟨?_, trivial⟩
        refine StoreV.c rfl rfl (Nat.le_of_ble_eq_true rfl) rfl ?_
        conv => whnf
        refine ⟨⟨Sub.sel [2] rfl, fun _ => Sub.sel [] rfl⟩, ?_⟩
        conv => whnf
        exact ⟨b7, trivial, ⟨rfl, rfl, rfl, rfl, rfl, rfl, trivial⟩, Sub.sel [0, 1, 2] rfl⟩
    rintro b7 f1 -
    conv => whnf
    refine LoadV.s rfl rfl ?_
    conv => whnf
    refine LoadV.a 2 rfl (Nat.le_of_ble_eq_true rfl) ?_
    conv => whnf
    refine StoreV.c rfl rfl (Nat.le_of_ble_eq_true rfl) rfl ?_
    conv => whnf
    refine RetI.cell2 Tryd.results38 rfl rfl ?_
    conv => whnf
    refine LoadV.p 5 (cardL w s t.ep k) rfl rfl (Nat.le_of_ble_eq_true rfl) (by kernel_rfl) ?_
    exact ⟨_, Sub.sel [] rfl, hfin⟩
set_option maxHeartbeats 2000000 in
theorem kpathOf_ok (F : Mem) (t : TreeI) (T : TreeOk t) (s : Nat) (hs : s < 64) : FT Tryd.prog 39 [.agg (treeL t).toArray, .int .i64 (s : Int)].toArray F [] (Ret (.tuple #[.agg (pathV (pathK t s)).toArray, .int .i64 0])) := by
  have hl := treeL_length T.shaped
  have h1 := nodeK_at T (show s / 4 + 5 < 21 by omega)
  have h2 := nodeK_at T (show s / 16 + 1 < 21 by omega)
  have h3 := nodeK_at T (show 0 < 21 by omega)
  have hpo := fun F' => spath_ok F' s hs
  rw [show pathV (pathK t s) = pathV ⟨nodeK t (s / 4 + 5), nodeK t (s / 16 + 1), nodeK t 0⟩ from rfl]
  have hn1 : s / 4 + 5 < 21 := by omega
  have hn2 : s / 16 + 1 < 21 := by omega
  generalize nodeK t (s / 4 + 5) = k1 at h1 ⊢
  generalize nodeK t (s / 16 + 1) = k2 at h2 ⊢
  generalize nodeK t 0 = k3 at h3 ⊢
  generalize s / 4 + 5 = n1 at h1 hpo hn1
  generalize s / 16 + 1 = n2 at h2 hpo hn2
  refine FT.of_body Tryd.func39 rfl Tryd.ntmps39 (by simp) fun C hC => ?_
  subst hC
  conv => whnf
  intro b2
  conv => whnf
  intro b4
  conv => whnf
  refine LoadV.p 236 (treeL t) rfl hl (by show 0 + 236 ≤ (treeL t).length; omega) (take_all0 hl) ?_
  conv => whnf
  refine CallS.mk Tryd.call24 ⟨[], _, _, Sub.refl _, fun F' hF' => tcheck_ok F' t T, ?_⟩
  rintro e A' ⟨rfl, rfl⟩
  conv => whnf
  refine CallS.mk Tryd.call58 ⟨[], _, _, Sub.refl _, fun F' hF' => hpo F', ?_⟩
  rintro e A' ⟨rfl, rfl⟩
  conv => whnf
  intro b7
  conv => whnf
  refine StoreV.c rfl rfl (Nat.le_of_ble_eq_true rfl) rfl ?_
  conv => whnf
  intro b9
  conv => whnf
  refine LoadV.a 3 rfl (Nat.le_of_ble_eq_true rfl) ?_
  conv => whnf
  refine LoopI.by_state (σ := Nat) (fun i => [(2, .pointer (some ⟨b2, 0, none⟩)), (4, .pointer (some ⟨b4, 0, none⟩)), (9, .pointer (some ⟨b9, 0, none⟩)), (26, .agg #[.int .i64 (n1 : Int), .int .i64 (n2 : Int), .int .i64 0]), (27, .int .i64 (i : Int))])
    (fun i => [.cells b9 (if i = 0 then pathV ⟨(0, 0), (0, 0), (0, 0)⟩ else if i = 1 then pathV ⟨k1, (0, 0), (0, 0)⟩ else if i = 2 then pathV ⟨k1, k2, (0, 0)⟩ else pathV ⟨k1, k2, k3⟩) 75 (0, 0), .cells b4 (pathV ⟨(0, 0), (0, 0), (0, 0)⟩) 75 (0, 0), .cells b2 (treeL t) 54 (0, 0)])
    (fun i => i ≤ 3) (fun i => 3 - i) 0 (by omega) ⟨rfl, rfl, rfl, rfl, rfl, trivial⟩ (Sub.sel [0, 2, 3] rfl) ?_
  rintro i f0 hi
  have : i = 0 ∨ i = 1 ∨ i = 2 ∨ i = 3 := by omega
  rcases this with rfl | rfl | rfl | rfl
  · conv => whnf
    refine IndexV.agg1 Tryd.underlying122 rfl rfl rfl rfl (by decide) rfl ?_
    generalize hz : ((n1 : Int) : Int) = z
    conv => whnf
    refine ⟨by omega, ?_⟩
    subst hz
    conv => whnf
    refine LoadV.eq (b := b2) (o := 2 + (n1) * 2) (by exact congrArg (fun o => (⟨b2, o, none⟩ : Addr)) (elem_off2 (o := 2) (i := n1) (n := 2) (by kernel_rfl) rfl)) ?_
    refine LoadV.p 2 [.int .i64 k1.1, .int .i64 k1.2] rfl rfl (by show 2 + (n1) * 2 + 2 ≤ (treeL t).length; omega) h1 ?_
    conv => whnf
    refine ⟨by decide, ?_⟩
    conv => whnf
    refine StoreV.c rfl rfl (Nat.le_of_ble_eq_true rfl) rfl ?_
    conv => whnf
    refine ArI.to64 1 rfl (by decide) ?_
    conv => whnf
    exact ⟨1, _, by decide, Sub.refl _, by decide, ⟨rfl, rfl, rfl, rfl, rfl, trivial⟩, rfl⟩
  · conv => whnf
    refine IndexV.agg1 Tryd.underlying122 rfl rfl rfl rfl (by decide) rfl ?_
    generalize hz : ((n2 : Int) : Int) = z
    conv => whnf
    refine ⟨by omega, ?_⟩
    subst hz
    conv => whnf
    refine LoadV.eq (b := b2) (o := 2 + (n2) * 2) (by exact congrArg (fun o => (⟨b2, o, none⟩ : Addr)) (elem_off2 (o := 2) (i := n2) (n := 2) (by kernel_rfl) rfl)) ?_
    refine LoadV.p 2 [.int .i64 k2.1, .int .i64 k2.2] rfl rfl (by show 2 + (n2) * 2 + 2 ≤ (treeL t).length; omega) h2 ?_
    conv => whnf
    refine ⟨by decide, ?_⟩
    conv => whnf
    refine StoreV.c rfl rfl (Nat.le_of_ble_eq_true rfl) rfl ?_
    conv => whnf
    refine ArI.to64 2 rfl (by decide) ?_
    conv => whnf
    exact ⟨2, _, by decide, Sub.refl _, by decide, ⟨rfl, rfl, rfl, rfl, rfl, trivial⟩, rfl⟩
  · conv => whnf
    refine IndexV.agg1 Tryd.underlying122 rfl rfl rfl rfl (by decide) rfl ?_
    conv => whnf
    refine ⟨by decide, ?_⟩
    conv => whnf
    refine LoadV.p 2 [.int .i64 k3.1, .int .i64 k3.2] rfl rfl (by show 2 + 2 ≤ (treeL t).length; omega) h3 ?_
    conv => whnf
    refine ⟨by decide, ?_⟩
    conv => whnf
    refine StoreV.c rfl rfl (Nat.le_of_ble_eq_true rfl) rfl ?_
    conv => whnf
    refine ArI.to64 3 rfl (by decide) ?_
    conv => whnf
    exact ⟨3, _, by decide, Sub.refl _, by decide, ⟨rfl, rfl, rfl, rfl, rfl, trivial⟩, rfl⟩
  · conv => whnf
    refine LoadV.p 6 (pathV ⟨k1, k2, k3⟩) rfl rfl (Nat.le_of_ble_eq_true rfl) rfl ?_
    conv => whnf
    refine StoreV.p 6 (pathV ⟨k1, k2, k3⟩) (pathV ⟨k1, k2, k3⟩) rfl rfl rfl (Nat.le_of_ble_eq_true rfl) rfl (by exact putAt_all rfl) ?_
    conv => whnf
    refine RetI.cell2 Tryd.results39 rfl rfl ?_
    conv => whnf
    refine LoadV.p 6 (pathV ⟨k1, k2, k3⟩) rfl rfl (Nat.le_of_ble_eq_true rfl) rfl ?_
    exact ⟨_, Sub.sel [] rfl, rfl, rfl⟩
end Go.Proofs.YtlfmckjehjedpaaDoor

/- A device that stands: keytree's. -/
namespace Go.Proofs.YtlfmckjehjedpaaDoor
set_option linter.unusedVariables false
set_option linter.unusedSimpArgs false
set_option maxRecDepth 100000
open SL Go.RowKit Go.Maps
/-- A struct is built. -/
theorem built_go {o : Option (Array Value)} {c : Array Value} {A : Array Value → Prop} (e : o = some c) (hk : A c) : SL.buildW.match_1 (fun _ => Prop) o A (fun _ => False) := by
  subst e; exact hk
set_option maxHeartbeats 2000000 in
theorem kstand_ok (F : Mem) (t : TreeI) (T : TreeOk t) (w : Int) : FT Tryd.prog 25 [.agg (treeL t).toArray, .int .i64 w].toArray F [] (StandR t w) := by
  have hl := treeL_length T.shaped
  refine FT.of_body Tryd.func25 rfl Tryd.ntmps25 (by simp) fun C hC => ?_
  subst hC
  conv => whnf
  intro b2
  conv => whnf
  intro b4
  conv => whnf
  refine LoadV.p 236 (treeL t) rfl hl (by show 0 + 236 ≤ (treeL t).length; omega) (take_all0 hl) ?_
  conv => whnf
  refine CallS.mk Tryd.call38 ⟨[], _, _, Sub.refl _, fun F' hF' => card_ok F' t T w, ?_⟩
  rintro e A' ⟨rfl, h⟩
  rcases h with ⟨s, hs, htk, hw, hfs, rfl⟩ | ⟨hf, rfl⟩
  · have hs64 : s < 64 := by rw [← T.R.len]; exact hs
    have hpo := fun F' => kpathOf_ok F' t T s hs64
    have hfin : StandR t w (.returned (.tuple #[.agg (memL (standM t w s t.rs[s])).toArray, .int .i64 0])) [] := ⟨rfl, .inl ⟨s, hs, htk, hw, hfs, rfl⟩⟩
    unfold standM at hfin
    generalize t.rs[s] = e at hfin ⊢
    generalize leafK e t.ep = k at hfin ⊢
    generalize pathK t s = pk at hpo hfin
    rw [show cardL w (s : Int) t.ep k = [.int .i64 w, .int .i64 (s : Int), .int .i64 t.ep, .int .i64 k.1, .int .i64 k.2] from rfl]
    conv => whnf
    intro b6
    conv => whnf
    refine StoreV.c rfl rfl (Nat.le_of_ble_eq_true rfl) rfl ?_
    conv => whnf
    refine LoadV.p 236 (treeL t) rfl hl (by show 0 + 236 ≤ (treeL t).length; omega) (take_all0 hl) ?_
    conv => whnf
    refine LoadV.s rfl rfl ?_
    conv => whnf
    refine CallS.mk Tryd.call39 ⟨[], _, _, Sub.refl _, fun F' hF' => hpo F', ?_⟩
    rintro ed A' ⟨rfl, rfl⟩
    have hpv : (pathV pk).length = 6 := rfl
    have hpa : (pathV pk).all Value.oneCell' = true := rfl
    have hbm := built_mem w (s : Int) t.ep k pk
    generalize pathV pk = PV at hpv hpa hbm ⊢
    conv => whnf
    intro b9
    conv => whnf
    refine StoreV.p 6 PV PV rfl hpv rfl (Nat.le_of_ble_eq_true rfl) hpa (by exact putAt_all (by rw [hpv]; rfl)) ?_
    obtain ⟨V, hV⟩ : ∃ V, V = Value.int .i64 (s : Int) := ⟨_, rfl⟩
    conv => whnf
    refine LoadV.s rfl rfl ?_
    rw [← hV] at hbm ⊢
    refine forceV_of ?_
    conv => whnf
    refine LoadV.s rfl rfl ?_
    conv => whnf
    refine LoadV.p 2 [.int .i64 k.1, .int .i64 k.2] rfl rfl (Nat.le_of_ble_eq_true rfl) rfl ?_
    conv => whnf
    refine LoadV.p 6 PV rfl hpv (by omega) (take_all0 hpv) ?_
    conv => whnf
    refine built_go (c := (memL ⟨w, (s : Int), t.ep, k, pk, true, false, 0⟩).toArray) (Eq.trans (by kernel_rfl) hbm) ?_
    clear hbm
    subst hV
    conv => whnf
    refine StoreV.c rfl rfl (Nat.le_of_ble_eq_true rfl) rfl ?_
    conv => whnf
    refine RetI.cell2 Tryd.results25 rfl rfl ?_
    conv => whnf
    refine LoadV.p 14 (memL ⟨w, (s : Int), t.ep, k, pk, true, false, 0⟩) rfl rfl (Nat.le_of_ble_eq_true rfl) rfl ?_
    exact ⟨_, Sub.sel [] rfl, hfin⟩
  · conv => whnf
    intro b6
    conv => whnf
    refine StoreV.c rfl rfl (Nat.le_of_ble_eq_true rfl) rfl ?_
    conv => whnf
    refine StoreV.c rfl rfl (Nat.le_of_ble_eq_true rfl) rfl ?_
    conv => whnf
    refine RetI.cell2 Tryd.results25 rfl rfl ?_
    conv => whnf
    refine LoadV.p 14 (memL zeroM) rfl rfl (Nat.le_of_ble_eq_true rfl) (by kernel_rfl) ?_
    exact ⟨_, Sub.sel [] rfl, rfl, .inr ⟨hf, rfl⟩⟩
end Go.Proofs.YtlfmckjehjedpaaDoor

/- A reply. -/
namespace Go.Proofs.YtlfmckjehjedpaaDoor
set_option linter.unusedVariables false
set_option linter.unusedSimpArgs false
set_option maxRecDepth 100000
open SL Go.RowKit Go.Maps
def bxL (k l : KeyI) : List Value := [.int .i64 k.1, .int .i64 k.2, .int .i64 l.1, .int .i64 l.2]
def zeroB : List Value := [.int .i64 0, .int .i64 0, .int .i64 0, .int .i64 0]
def repH (w s ep : Int) : List Value := [.int .i64 w, .int .i64 s, .int .i64 ep]
def repL (w s ep : Int) (k : KeyI) (p : PathK) : List Value := [.int .i64 w, .int .i64 s, .int .i64 ep, .int .i64 k.1, .int .i64 k.2, .int .i64 p.a.1, .int .i64 p.a.2, .int .i64 k.1, .int .i64 k.2, .int .i64 p.b.1, .int .i64 p.b.2, .int .i64 k.1, .int .i64 k.2, .int .i64 p.c.1, .int .i64 p.c.2]
def zeroP : List Value := [.int .i64 0, .int .i64 0, .int .i64 0, .int .i64 0, .int .i64 0, .int .i64 0, .int .i64 0, .int .i64 0, .int .i64 0, .int .i64 0, .int .i64 0, .int .i64 0, .int .i64 0, .int .i64 0, .int .i64 0]
def ansL (t : TreeI) (w : Int) : List Value × Int :=
  if w < 0 then (zeroP, 14) else if 256 ≤ w then (zeroP, 14) else if findI t.rs w 0 < 0 then (zeroP, 16) else if t.ep < 1 then (zeroP, 32) else
    (repL w (findI t.rs w 0) t.ep (leafK (t.rs.getD (findI t.rs w 0).toNat (0, 0, 0)) t.ep) (pathK t (findI t.rs w 0).toNat), 0)
theorem ansL_yes {t : TreeI} {w : Int} (h0 : 0 ≤ w) (h1 : w < 256) {s : Nat} (hs : s < t.rs.length) (hf : findI t.rs w 0 = (s : Int)) (he : 1 ≤ t.ep) : ansL t w = (repL w (s : Int) t.ep (leafK t.rs[s] t.ep) (pathK t s), 0) := by
  unfold ansL
  rw [if_neg (by omega), if_neg (by omega), if_neg (by omega), if_neg (by omega), hf, Int.toNat_natCast, List.getD_eq_getElem?_getD, List.getElem?_eq_getElem hs]; rfl
theorem path_index {cs ys : List Value} (i : Nat) (hl : i * 2 + 2 ≤ cs.length) (hi : i < 3) {K : Value → Prop} (hp : (cs.drop (i * 2)).take 2 = ys) (k : K (.agg ys.toArray)) : IndexV Tryd.prog 75 (.agg cs.toArray) (.int .i64 (i : Int)) K := by
  refine IndexV.agg (sz := 2) Tryd.underlying75 rfl rfl rfl (.inl rfl) (by omega) (by rw [Int.toNat_natCast]; exact hl) ?_
  rw [Int.toNat_natCast, hp]
  exact k
set_option maxHeartbeats 4000000 in
theorem answer_ok (F : Mem) (t : TreeI) (T : TreeOk t) (w : Int) : FT Tryd.prog 13 [.agg (treeL t).toArray, .agg #[.int .i64 w, .int .i64 1]].toArray F [] (Ret (.tuple #[.agg (ansL t w).1.toArray, .int .i64 (ansL t w).2])) := by
  have hl := treeL_length T.shaped
  refine FT.of_body Tryd.func13 rfl Tryd.ntmps13 (by simp) fun C hC => ?_
  subst hC
  conv => whnf
  intro b2
  conv => whnf
  intro b3
  conv => whnf
  intro b4
  conv => whnf
  refine LoadV.p 236 (treeL t) rfl hl (by show 0 + 236 ≤ (treeL t).length; omega) (take_all0 hl) ?_
  conv => whnf
  refine CallS.mk Tryd.call24 ⟨[], _, _, Sub.refl _, fun F' hF' => tcheck_ok F' t T, ?_⟩
  rintro e A' ⟨rfl, rfl⟩
  conv => whnf
  refine LoadV.s rfl rfl ?_
  conv => whnf
  refine cond_dec (fun h0 => ?_) (fun h0 => ?_)
  · rw [show ansL t w = (zeroP, 14) from by unfold ansL; rw [if_pos h0]]
    conv => whnf
    refine StoreV.c rfl rfl (Nat.le_of_ble_eq_true rfl) rfl ?_
    conv => whnf
    refine RetI.cell2 Tryd.results13 rfl rfl ?_
    conv => whnf
    refine LoadV.p 15 zeroP rfl rfl (Nat.le_of_ble_eq_true rfl) (by kernel_rfl) ?_
    exact ⟨_, Sub.sel [] rfl, rfl, rfl⟩
  conv => whnf
  refine LoadV.s rfl rfl ?_
  conv => whnf
  refine cond_dec (fun h1 => ?_) (fun h1 => ?_)
  · rw [show ansL t w = (zeroP, 14) from by unfold ansL; rw [if_neg h0, if_pos h1]]
    conv => whnf
    refine StoreV.c rfl rfl (Nat.le_of_ble_eq_true rfl) rfl ?_
    conv => whnf
    refine RetI.cell2 Tryd.results13 rfl rfl ?_
    conv => whnf
    refine LoadV.p 15 zeroP rfl rfl (Nat.le_of_ble_eq_true rfl) (by kernel_rfl) ?_
    exact ⟨_, Sub.sel [] rfl, rfl, rfl⟩
  conv => whnf
  refine LoadV.p 236 (treeL t) rfl hl (by show 0 + 236 ≤ (treeL t).length; omega) (take_all0 hl) ?_
  conv => whnf
  refine LoadV.s rfl rfl ?_
  conv => whnf
  refine CallS.mk Tryd.call25 ⟨[], _, _, Sub.refl _, fun F' hF' => kstand_ok F' t T w, ?_⟩
  rintro e A' ⟨rfl, h⟩
  rcases h with ⟨s, hs, htk, hw, hfs, rfl⟩ | ⟨hf, rfl⟩
  · have hfs0 := hfs
    have hs64 : s < 64 := by rw [← T.R.len]; exact hs
    have hlk : keyB (leafK t.rs[s] t.ep).1 (leafK t.rs[s] t.ep).2 = true := T.leaf (List.getElem_mem hs) htk
    have hk1 : keyB (nodeK t (s / 4 + 5)).1 (nodeK t (s / 4 + 5)).2 = true := HasK.key T (.inl (by omega))
    have hk2 : keyB (nodeK t (s / 16 + 1)).1 (nodeK t (s / 16 + 1)).2 = true := HasK.key T (.inl (by omega))
    have hk3 : keyB (nodeK t 0).1 (nodeK t 0).2 = true := HasK.key T (.inl (by omega))
    have hyes := ansL_yes (t := t) (w := w) (by omega) (by omega) hs hfs
    unfold standM
    unfold pathK at hyes ⊢
    generalize t.rs[s] = e at hlk hyes ⊢
    generalize leafK e t.ep = k at hlk hyes ⊢
    generalize nodeK t (s / 4 + 5) = k1 at hk1 hyes ⊢
    generalize nodeK t (s / 16 + 1) = k2 at hk2 hyes ⊢
    generalize nodeK t 0 = k3 at hk3 hyes ⊢
    rw [show memL ⟨w, (s : Int), t.ep, k, ⟨k1, k2, k3⟩, true, false, 0⟩ = [.int .i64 w, .int .i64 (s : Int), .int .i64 t.ep, .int .i64 k.1, .int .i64 k.2, .int .i64 k1.1, .int .i64 k1.2, .int .i64 k2.1, .int .i64 k2.2, .int .i64 k3.1, .int .i64 k3.2, .bool true, .bool false, .int .i64 0] from rfl]
    conv => whnf
    intro b7
    conv => whnf
    refine StoreV.c rfl rfl (Nat.le_of_ble_eq_true rfl) rfl ?_
    conv => whnf
    refine LoadV.s rfl rfl ?_
    conv => whnf
    refine LoadV.s rfl rfl ?_
    conv => whnf
    refine LoadV.s rfl rfl ?_
    conv => whnf
    refine cond_dec (fun h2 => ?_) (fun h2 => ?_)
    · rw [show ansL t w = (zeroP, 32) from by unfold ansL; rw [if_neg h0, if_neg h1, if_neg (by omega), if_pos (by omega)]]
      conv => whnf
      refine StoreV.c rfl rfl (Nat.le_of_ble_eq_true rfl) rfl ?_
      conv => whnf
      refine RetI.cell2 Tryd.results13 rfl rfl ?_
      conv => whnf
      refine LoadV.p 15 zeroP rfl rfl (Nat.le_of_ble_eq_true rfl) (by kernel_rfl) ?_
      exact ⟨_, Sub.sel [] rfl, rfl, rfl⟩
    rw [hyes (by omega)]
    conv => whnf
    refine LoadV.s rfl rfl ?_
    conv => whnf
    refine LoadV.s rfl rfl ?_
    conv => whnf
    refine LoadV.s rfl rfl ?_
    conv => whnf
    intro b9
    conv => whnf
    refine StoreV.c rfl rfl (Nat.le_of_ble_eq_true rfl) rfl ?_
    conv => whnf
    refine LoadV.p 6 [.int .i64 k1.1, .int .i64 k1.2, .int .i64 k2.1, .int .i64 k2.2, .int .i64 k3.1, .int .i64 k3.2] rfl rfl (Nat.le_of_ble_eq_true rfl) rfl ?_
    conv => whnf
    refine LoopI.by_state (σ := Nat) (fun i => [(4, .pointer (some ⟨b4, 0, none⟩)), (7, .pointer (some ⟨b7, 0, none⟩)), (9, .pointer (some ⟨b9, 0, none⟩)), (57, .agg #[.int .i64 k1.1, .int .i64 k1.2, .int .i64 k2.1, .int .i64 k2.2, .int .i64 k3.1, .int .i64 k3.2]), (58, .int .i64 (i : Int))])
      (fun i => [.cells b9 (repH w (s : Int) t.ep ++ (if i = 0 then zeroB ++ zeroB ++ zeroB else if i = 1 then bxL k k1 ++ zeroB ++ zeroB else if i = 2 then bxL k k1 ++ bxL k k2 ++ zeroB else bxL k k1 ++ bxL k k2 ++ bxL k k3)) 60 (0, 0), .cells b7 [.int .i64 w, .int .i64 (s : Int), .int .i64 t.ep, .int .i64 k.1, .int .i64 k.2, .int .i64 k1.1, .int .i64 k1.2, .int .i64 k2.1, .int .i64 k2.2, .int .i64 k3.1, .int .i64 k3.2, .bool true, .bool false, .int .i64 0] 77 (0, 0), .cells b4 zeroP 60 (0, 0)])
      (fun i => i ≤ 3) (fun i => 3 - i) 0 (by omega) ⟨rfl, rfl, rfl, rfl, rfl, trivial⟩ (Sub.sel [0, 1, 2] rfl) ?_
    rintro i f0 hi
    have : i = 0 ∨ i = 1 ∨ i = 2 ∨ i = 3 := by omega
    rcases this with rfl | rfl | rfl | rfl
    · conv => whnf
      refine path_index (ys := [.int .i64 k1.1, .int .i64 k1.2]) 0 (Nat.le_of_ble_eq_true rfl) (by decide) rfl ?_
      conv => whnf
      intro b11
      conv => whnf
      refine StoreV.c rfl rfl (Nat.le_of_ble_eq_true rfl) rfl ?_
      conv => whnf
      refine LoadV.p 2 [.int .i64 k.1, .int .i64 k.2] rfl rfl (Nat.le_of_ble_eq_true rfl) rfl ?_
      conv => whnf
      refine LoadV.p 2 [.int .i64 k1.1, .int .i64 k1.2] rfl rfl (Nat.le_of_ble_eq_true rfl) rfl ?_
      conv => whnf
      refine CallS.mk Tryd.call26 ⟨[], _, _, Sub.refl _, fun F' hF' => seal_ok F' k.1 k.2 k1.1 k1.2 hlk hk1, ?_⟩
      rintro ed A' ⟨rfl, rfl⟩
      conv => whnf
      refine ⟨by decide, ?_⟩
      conv => whnf
      refine StoreV.c rfl rfl (Nat.le_of_ble_eq_true rfl) rfl ?_
      conv => whnf
      refine ArI.to64 1 rfl (by decide) ?_
      conv => whnf
      exact ⟨1, _, by decide, Sub.sel [1, 2, 3] rfl, by decide, ⟨rfl, rfl, rfl, rfl, rfl, trivial⟩, rfl⟩
    · conv => whnf
      refine path_index (ys := [.int .i64 k2.1, .int .i64 k2.2]) 1 (Nat.le_of_ble_eq_true rfl) (by decide) rfl ?_
      conv => whnf
      intro b11
      conv => whnf
      refine StoreV.c rfl rfl (Nat.le_of_ble_eq_true rfl) rfl ?_
      conv => whnf
      refine LoadV.p 2 [.int .i64 k.1, .int .i64 k.2] rfl rfl (Nat.le_of_ble_eq_true rfl) rfl ?_
      conv => whnf
      refine LoadV.p 2 [.int .i64 k2.1, .int .i64 k2.2] rfl rfl (Nat.le_of_ble_eq_true rfl) rfl ?_
      conv => whnf
      refine CallS.mk Tryd.call26 ⟨[], _, _, Sub.refl _, fun F' hF' => seal_ok F' k.1 k.2 k2.1 k2.2 hlk hk2, ?_⟩
      rintro ed A' ⟨rfl, rfl⟩
      conv => whnf
      refine ⟨by decide, ?_⟩
      conv => whnf
      refine StoreV.c rfl rfl (Nat.le_of_ble_eq_true rfl) rfl ?_
      conv => whnf
      refine ArI.to64 2 rfl (by decide) ?_
      conv => whnf
      exact ⟨2, _, by decide, Sub.sel [1, 2, 3] rfl, by decide, ⟨rfl, rfl, rfl, rfl, rfl, trivial⟩, rfl⟩
    · conv => whnf
      refine path_index (ys := [.int .i64 k3.1, .int .i64 k3.2]) 2 (Nat.le_of_ble_eq_true rfl) (by decide) rfl ?_
      conv => whnf
      intro b11
      conv => whnf
      refine StoreV.c rfl rfl (Nat.le_of_ble_eq_true rfl) rfl ?_
      conv => whnf
      refine LoadV.p 2 [.int .i64 k.1, .int .i64 k.2] rfl rfl (Nat.le_of_ble_eq_true rfl) rfl ?_
      conv => whnf
      refine LoadV.p 2 [.int .i64 k3.1, .int .i64 k3.2] rfl rfl (Nat.le_of_ble_eq_true rfl) rfl ?_
      conv => whnf
      refine CallS.mk Tryd.call26 ⟨[], _, _, Sub.refl _, fun F' hF' => seal_ok F' k.1 k.2 k3.1 k3.2 hlk hk3, ?_⟩
      rintro ed A' ⟨rfl, rfl⟩
      conv => whnf
      refine ⟨by decide, ?_⟩
      conv => whnf
      refine StoreV.c rfl rfl (Nat.le_of_ble_eq_true rfl) rfl ?_
      conv => whnf
      refine ArI.to64 3 rfl (by decide) ?_
      conv => whnf
      exact ⟨3, _, by decide, Sub.sel [1, 2, 3] rfl, by decide, ⟨rfl, rfl, rfl, rfl, rfl, trivial⟩, rfl⟩
    · conv => whnf
      refine LoadV.p 15 (repL w (s : Int) t.ep k ⟨k1, k2, k3⟩) rfl rfl (Nat.le_of_ble_eq_true rfl) rfl ?_
      conv => whnf
      refine StoreV.c rfl rfl (Nat.le_of_ble_eq_true rfl) rfl ?_
      conv => whnf
      refine RetI.cell2 Tryd.results13 rfl rfl ?_
      conv => whnf
      refine LoadV.p 15 (repL w (s : Int) t.ep k ⟨k1, k2, k3⟩) rfl rfl (Nat.le_of_ble_eq_true rfl) rfl ?_
      exact ⟨_, Sub.sel [] rfl, rfl, rfl⟩
  · rw [show ansL t w = (zeroP, 16) from by unfold ansL; rw [if_neg h0, if_neg h1, if_pos hf]]
    conv => whnf
    intro b7
    conv => whnf
    refine StoreV.c rfl rfl (Nat.le_of_ble_eq_true rfl) rfl ?_
    conv => whnf
    refine StoreV.c rfl rfl (Nat.le_of_ble_eq_true rfl) rfl ?_
    conv => whnf
    refine RetI.cell2 Tryd.results13 rfl rfl ?_
    conv => whnf
    refine LoadV.p 15 zeroP rfl rfl (Nat.le_of_ble_eq_true rfl) (by kernel_rfl) ?_
    exact ⟨_, Sub.sel [] rfl, rfl, rfl⟩
end Go.Proofs.YtlfmckjehjedpaaDoor

/- A reply: the reference's. -/
namespace Go.Proofs.YtlfmckjehjedpaaDoor
set_option linter.unusedVariables false
set_option linter.unusedSimpArgs false
set_option maxRecDepth 100000
open SL Go.RowKit Go.Maps
set_option maxHeartbeats 4000000 in
theorem ranswer_ok (F : Mem) (t : TreeI) (T : TreeOk t) (w : Int) : FT Tryd.prog 15 [.agg (treeL t).toArray, .agg #[.int .i64 w, .int .i64 1]].toArray F [] (Ret (.tuple #[.agg (ansL t w).1.toArray, .int .i64 (ansL t w).2])) := by
  have hl := treeL_length T.shaped
  refine FT.of_body Tryd.func15 rfl Tryd.ntmps15 (by simp) fun C hC => ?_
  subst hC
  conv => whnf
  intro b2
  conv => whnf
  intro b3
  conv => whnf
  intro b4
  conv => whnf
  refine LoadV.p 236 (treeL t) rfl hl (by show 0 + 236 ≤ (treeL t).length; omega) (take_all0 hl) ?_
  conv => whnf
  refine CallS.mk Tryd.call28 ⟨[], _, _, Sub.refl _, fun F' hF' => rtcheck_ok F' t T, ?_⟩
  rintro e A' ⟨rfl, rfl⟩
  conv => whnf
  refine LoadV.s rfl rfl ?_
  conv => whnf
  refine cond_dec (fun h0 => ?_) (fun h0 => ?_)
  · rw [show ansL t w = (zeroP, 14) from by unfold ansL; rw [if_pos h0]]
    conv => whnf
    refine StoreV.c rfl rfl (Nat.le_of_ble_eq_true rfl) rfl ?_
    conv => whnf
    refine RetI.cell2 Tryd.results15 rfl rfl ?_
    conv => whnf
    refine LoadV.p 15 zeroP rfl rfl (Nat.le_of_ble_eq_true rfl) (by kernel_rfl) ?_
    exact ⟨_, Sub.sel [] rfl, rfl, rfl⟩
  conv => whnf
  refine LoadV.s rfl rfl ?_
  conv => whnf
  refine cond_dec (fun h1 => ?_) (fun h1 => ?_)
  · rw [show ansL t w = (zeroP, 14) from by unfold ansL; rw [if_neg h0, if_pos h1]]
    conv => whnf
    refine StoreV.c rfl rfl (Nat.le_of_ble_eq_true rfl) rfl ?_
    conv => whnf
    refine RetI.cell2 Tryd.results15 rfl rfl ?_
    conv => whnf
    refine LoadV.p 15 zeroP rfl rfl (Nat.le_of_ble_eq_true rfl) (by kernel_rfl) ?_
    exact ⟨_, Sub.sel [] rfl, rfl, rfl⟩
  conv => whnf
  refine LoadV.p 236 (treeL t) rfl hl (by show 0 + 236 ≤ (treeL t).length; omega) (take_all0 hl) ?_
  conv => whnf
  refine LoadV.s rfl rfl ?_
  conv => whnf
  refine CallS.mk Tryd.call19 ⟨[], _, _, Sub.refl _, fun F' hF' => rstand_ok F' t T w, ?_⟩
  rintro e A' ⟨rfl, h⟩
  rcases h with ⟨s, hs, htk, hw, hfs, rfl⟩ | ⟨hf, rfl⟩
  · have hfs0 := hfs
    have hs64 : s < 64 := by rw [← T.R.len]; exact hs
    have hlk : keyB (leafK t.rs[s] t.ep).1 (leafK t.rs[s] t.ep).2 = true := T.leaf (List.getElem_mem hs) htk
    have hk1 : keyB (nodeK t (s / 4 + 5)).1 (nodeK t (s / 4 + 5)).2 = true := HasK.key T (.inl (by omega))
    have hk2 : keyB (nodeK t (s / 16 + 1)).1 (nodeK t (s / 16 + 1)).2 = true := HasK.key T (.inl (by omega))
    have hk3 : keyB (nodeK t 0).1 (nodeK t 0).2 = true := HasK.key T (.inl (by omega))
    have hyes := ansL_yes (t := t) (w := w) (by omega) (by omega) hs hfs
    unfold standM
    unfold pathK at hyes ⊢
    generalize t.rs[s] = e at hlk hyes ⊢
    generalize leafK e t.ep = k at hlk hyes ⊢
    generalize nodeK t (s / 4 + 5) = k1 at hk1 hyes ⊢
    generalize nodeK t (s / 16 + 1) = k2 at hk2 hyes ⊢
    generalize nodeK t 0 = k3 at hk3 hyes ⊢
    rw [show memL ⟨w, (s : Int), t.ep, k, ⟨k1, k2, k3⟩, true, false, 0⟩ = [.int .i64 w, .int .i64 (s : Int), .int .i64 t.ep, .int .i64 k.1, .int .i64 k.2, .int .i64 k1.1, .int .i64 k1.2, .int .i64 k2.1, .int .i64 k2.2, .int .i64 k3.1, .int .i64 k3.2, .bool true, .bool false, .int .i64 0] from rfl]
    conv => whnf
    intro b7
    conv => whnf
    refine StoreV.c rfl rfl (Nat.le_of_ble_eq_true rfl) rfl ?_
    conv => whnf
    refine LoadV.s rfl rfl ?_
    conv => whnf
    refine LoadV.s rfl rfl ?_
    conv => whnf
    refine LoadV.s rfl rfl ?_
    conv => whnf
    refine cond_dec (fun h2 => ?_) (fun h2 => ?_)
    · rw [show ansL t w = (zeroP, 32) from by unfold ansL; rw [if_neg h0, if_neg h1, if_neg (by omega), if_pos (by omega)]]
      conv => whnf
      refine StoreV.c rfl rfl (Nat.le_of_ble_eq_true rfl) rfl ?_
      conv => whnf
      refine RetI.cell2 Tryd.results15 rfl rfl ?_
      conv => whnf
      refine LoadV.p 15 zeroP rfl rfl (Nat.le_of_ble_eq_true rfl) (by kernel_rfl) ?_
      exact ⟨_, Sub.sel [] rfl, rfl, rfl⟩
    rw [hyes (by omega)]
    conv => whnf
    refine LoadV.s rfl rfl ?_
    conv => whnf
    refine LoadV.s rfl rfl ?_
    conv => whnf
    refine LoadV.s rfl rfl ?_
    conv => whnf
    intro b9
    conv => whnf
    refine StoreV.c rfl rfl (Nat.le_of_ble_eq_true rfl) rfl ?_
    conv => whnf
    refine LoopI.by_state (σ := Nat) (fun i => [(4, .pointer (some ⟨b4, 0, none⟩)), (6, .pointer (some ⟨b7, 0, none⟩)), (8, .pointer (some ⟨b9, 0, none⟩)), (9, .int .i64 (i : Int))])
      (fun i => [.cells b9 (repH w (s : Int) t.ep ++ (if i = 0 then zeroB ++ zeroB ++ zeroB else if i = 1 then bxL k k1 ++ zeroB ++ zeroB else if i = 2 then bxL k k1 ++ bxL k k2 ++ zeroB else bxL k k1 ++ bxL k k2 ++ bxL k k3)) 60 (0, 0), .cells b7 [.int .i64 w, .int .i64 (s : Int), .int .i64 t.ep, .int .i64 k.1, .int .i64 k.2, .int .i64 k1.1, .int .i64 k1.2, .int .i64 k2.1, .int .i64 k2.2, .int .i64 k3.1, .int .i64 k3.2, .bool true, .bool false, .int .i64 0] 77 (0, 0), .cells b4 zeroP 60 (0, 0)])
      (fun i => i ≤ 3) (fun i => 3 - i) 0 (by omega) ⟨rfl, rfl, rfl, rfl, trivial⟩ (Sub.sel [0, 1, 2] rfl) ?_
    rintro i f0 hi
    have : i = 0 ∨ i = 1 ∨ i = 2 ∨ i = 3 := by omega
    rcases this with rfl | rfl | rfl | rfl
    · conv => whnf
      refine DrawI.tail 10 (by kernel_rfl) (by kernel_rfl) ?_
      conv => whnf
      refine LoadV.p 2 [.int .i64 k.1, .int .i64 k.2] rfl rfl (Nat.le_of_ble_eq_true rfl) rfl ?_
      conv => whnf
      refine ⟨by decide, ?_⟩
      conv => whnf
      refine LoadV.p 2 [.int .i64 k1.1, .int .i64 k1.2] rfl rfl (Nat.le_of_ble_eq_true rfl) rfl ?_
      conv => whnf
      refine ⟨by decide, ?_⟩
      conv => whnf
      refine StoreV.c rfl rfl (Nat.le_of_ble_eq_true rfl) rfl ?_
      conv => whnf
      refine ArI.to64 1 rfl (by decide) ?_
      conv => whnf
      exact ⟨1, _, by decide, Sub.refl _, by decide, ⟨rfl, rfl, rfl, rfl, trivial⟩, rfl⟩
    · conv => whnf
      refine DrawI.tail 10 (by kernel_rfl) (by kernel_rfl) ?_
      conv => whnf
      refine LoadV.p 2 [.int .i64 k.1, .int .i64 k.2] rfl rfl (Nat.le_of_ble_eq_true rfl) rfl ?_
      conv => whnf
      refine ⟨by decide, ?_⟩
      conv => whnf
      refine LoadV.p 2 [.int .i64 k2.1, .int .i64 k2.2] rfl rfl (Nat.le_of_ble_eq_true rfl) rfl ?_
      conv => whnf
      refine ⟨by decide, ?_⟩
      conv => whnf
      refine StoreV.c rfl rfl (Nat.le_of_ble_eq_true rfl) rfl ?_
      conv => whnf
      refine ArI.to64 2 rfl (by decide) ?_
      conv => whnf
      exact ⟨2, _, by decide, Sub.refl _, by decide, ⟨rfl, rfl, rfl, rfl, trivial⟩, rfl⟩
    · conv => whnf
      refine DrawI.tail 10 (by kernel_rfl) (by kernel_rfl) ?_
      conv => whnf
      refine LoadV.p 2 [.int .i64 k.1, .int .i64 k.2] rfl rfl (Nat.le_of_ble_eq_true rfl) rfl ?_
      conv => whnf
      refine ⟨by decide, ?_⟩
      conv => whnf
      refine LoadV.p 2 [.int .i64 k3.1, .int .i64 k3.2] rfl rfl (Nat.le_of_ble_eq_true rfl) rfl ?_
      conv => whnf
      refine ⟨by decide, ?_⟩
      conv => whnf
      refine StoreV.c rfl rfl (Nat.le_of_ble_eq_true rfl) rfl ?_
      conv => whnf
      refine ArI.to64 3 rfl (by decide) ?_
      conv => whnf
      exact ⟨3, _, by decide, Sub.refl _, by decide, ⟨rfl, rfl, rfl, rfl, trivial⟩, rfl⟩
    · conv => whnf
      refine LoadV.p 15 (repL w (s : Int) t.ep k ⟨k1, k2, k3⟩) rfl rfl (Nat.le_of_ble_eq_true rfl) rfl ?_
      conv => whnf
      refine StoreV.c rfl rfl (Nat.le_of_ble_eq_true rfl) rfl ?_
      conv => whnf
      refine RetI.cell2 Tryd.results15 rfl rfl ?_
      conv => whnf
      refine LoadV.p 15 (repL w (s : Int) t.ep k ⟨k1, k2, k3⟩) rfl rfl (Nat.le_of_ble_eq_true rfl) rfl ?_
      exact ⟨_, Sub.sel [] rfl, rfl, rfl⟩
  · rw [show ansL t w = (zeroP, 16) from by unfold ansL; rw [if_neg h0, if_neg h1, if_pos hf]]
    conv => whnf
    intro b7
    conv => whnf
    refine StoreV.c rfl rfl (Nat.le_of_ble_eq_true rfl) rfl ?_
    conv => whnf
    refine StoreV.c rfl rfl (Nat.le_of_ble_eq_true rfl) rfl ?_
    conv => whnf
    refine RetI.cell2 Tryd.results15 rfl rfl ?_
    conv => whnf
    refine LoadV.p 15 zeroP rfl rfl (Nat.le_of_ble_eq_true rfl) (by kernel_rfl) ?_
    exact ⟨_, Sub.sel [] rfl, rfl, rfl⟩
end Go.Proofs.YtlfmckjehjedpaaDoor

/- A tree on which 1 is on. -/
namespace Go.Proofs.YtlfmckjehjedpaaDoor
set_option linter.unusedVariables false
set_option linter.unusedSimpArgs false
set_option maxRecDepth 100000
open SL Go.RowKit Go.Maps
theorem one_step : stepE startT [] [1] = 0 := by decide +kernel
theorem one_find : findI (nextT startT [] [1]).rs 1 0 = ((0 : Nat) : Int) := by decide +kernel
theorem one_len : 0 < (nextT startT [] [1]).rs.length := by decide +kernel
theorem one_ep : (nextT startT [] [1]).ep = 1 := by decide +kernel
theorem one_tree : TreeOk (nextT startT [] [1]) := nextT_ok startT_ok (stepE_zero.1 one_step).1 (stepE_zero.1 one_step).2
/-- The tree on which 1 is on: what is asked of it. -/
theorem one_made : ∃ (u : TreeI) (k : KeyI) (p : PathK), TreeOk u ∧ ansL u 1 = (repL 1 0 1 k p, 0) ∧ ∀ F', ∀ s0, BatF F' [] [1] s0 →
    FT Tryd.prog 27 [.agg (treeL startT).toArray, .agg (batL [] [1] s0).toArray].toArray F' [] (fun e H => ∃ g1 g2, ∃ l1 l2 : List (Int × Int), e = .returned (.tuple #[.agg (treeL u).toArray, svOf g1 l1.length, svOf g2 l2.length, .int .i64 0]) ∧ H = [ownT g1 l1, ownT g2 l2]) := by
  refine ⟨_, _, _, one_tree, by have h := ansL_yes (t := nextT startT [] [1]) (w := 1) (by decide) (by decide) one_len one_find (by rw [one_ep]; decide); rw [one_ep] at h; exact h, fun F' s0 hb => ?_⟩
  refine (next11_ok F' startT startT_ok [] [1] s0 hb).mono fun e H h => ?_
  rcases h with ⟨_, g1, g2, _, _, rfl, rfl⟩ | ⟨hx, _⟩
  · exact ⟨_, _, _, _, rfl, rfl⟩
  · exact absurd one_step hx
end Go.Proofs.YtlfmckjehjedpaaDoor

/- What a reply seals stands under the member's leaf key: plain laws. -/
namespace Go.Proofs.YtlfmckjehjedpaaDoor
set_option linter.unusedVariables false
set_option linter.unusedSimpArgs false
set_option maxRecDepth 100000
open SL Go.RowKit Go.Maps
theorem okCells_ints : ∀ (l : List Value), (∀ v ∈ l, okCell (.i .i64) v = true) → okCells (repl l.length [.i .i64]) l = true := by
  intro l
  induction l with
  | nil => intro _; rfl
  | cons x l ih =>
    intro h
    show (okCell (.i .i64) x && okCells (repl l.length [.i .i64]) l) = true
    rw [h x (by simp), ih fun v hv => h v (by simp [hv])]; rfl
/-- What is answered, made opaque. -/
theorem ans_facts {row : List TreeS} (R : RowOk row) {i : Nat} {t : TreeS} (hi : row[i]? = some t) (w : Int) :
    ∃ (PL : List Value) (er : Int), ansL t.1 w = (PL, er) ∧ PL.length = 15 ∧ okCells (repl 15 [.i .i64]) PL = true ∧ cellsEq PL PL = true ∧ PL.all Value.oneCell' = true ∧ I64 er ∧
      (er = 0 → ∃ (s ep : Int) (k k1 k2 k3 : KeyI), PL = repL w s ep k ⟨k1, k2, k3⟩ ∧ ∀ b ∈ [(k.1, k.2, k1.1, k1.2), (k.1, k.2, k2.1, k2.2), (k.1, k.2, k3.1, k3.2)], BoxOf row b) := by
  have T := (R.tree _ _ hi).1
  unfold ansL
  by_cases h0 : w < 0
  · rw [if_pos h0]; exact ⟨zeroP, 14, rfl, rfl, rfl, rfl, rfl, by unfold I64; omega, fun e => by cases e⟩
  rw [if_neg h0]
  by_cases h1 : 256 ≤ w
  · rw [if_pos h1]; exact ⟨zeroP, 14, rfl, rfl, rfl, rfl, rfl, by unfold I64; omega, fun e => by cases e⟩
  rw [if_neg h1]
  by_cases h2 : findI t.1.rs w 0 < 0
  · rw [if_pos h2]; exact ⟨zeroP, 16, rfl, rfl, rfl, rfl, rfl, by unfold I64; omega, fun e => by cases e⟩
  rw [if_neg h2]
  by_cases h3 : t.1.ep < 1
  · rw [if_pos h3]; exact ⟨zeroP, 32, rfl, rfl, rfl, rfl, rfl, by unfold I64; omega, fun e => by cases e⟩
  rw [if_neg h3]
  obtain ⟨q, hq, hs⟩ := Sits.of (t := t.1) (w := w) (by omega)
  have hq64 := hs.lt T
  obtain ⟨hql, htk, _⟩ := hs
  obtain ⟨u1, u2, u3⟩ := path_under hq64
  rw [hq, Int.toNat_natCast]
  have hle : leafK (t.1.rs.getD q (0, 0, 0)) t.1.ep = nodeK t.1 (21 + q) := by
    rw [nodeK_leaf hql, List.getD_eq_getElem?_getD, List.getElem?_eq_getElem hql]; rfl
  rw [hle]
  have hc : HasK t.1 (21 + q) := .inr ⟨q, hql, rfl, htk⟩
  have hb : ∀ n, n < 21 → under n q = true → BoxOf row ((nodeK t.1 (21 + q)).1, (nodeK t.1 (21 + q)).2, (nodeK t.1 n).1, (nodeK t.1 n).2) := fun n hn hu => ⟨i, t, n, 21 + q, hi, .inl hn, hc, fun r hr hr2 => by
    rw [under_leaf hq64 hr] at hr2
    rw [← of_decide_eq_true hr2]; exact hu, rfl⟩
  unfold pathK
  have b1 := hb (q / 4 + 5) (by omega) u1
  have b2 := hb (q / 16 + 1) (by omega) u2
  have b3 := hb 0 (by omega) u3
  generalize nodeK t.1 (21 + q) = k at b1 b2 b3 ⊢
  generalize nodeK t.1 (q / 4 + 5) = k1 at b1 ⊢
  generalize nodeK t.1 (q / 16 + 1) = k2 at b2 ⊢
  generalize nodeK t.1 0 = k3 at b3 ⊢
  refine ⟨_, 0, rfl, rfl, ?_, ?_, rfl, by unfold I64; omega, fun _ => ⟨_, _, _, _, _, _, rfl, fun b hb => ?_⟩⟩
  · exact okCells_ints (repL w (q : Int) t.1.ep k ⟨k1, k2, k3⟩) fun v hv => by
      simp only [repL, List.mem_cons, List.not_mem_nil, or_false] at hv
      rcases hv with rfl | rfl | rfl | rfl | rfl | rfl | rfl | rfl | rfl | rfl | rfl | rfl | rfl | rfl | rfl <;> rfl
  · refine cellsEq_self _ fun v hv => ?_
    simp only [repL, List.mem_cons, List.not_mem_nil, or_false] at hv
    rcases hv with rfl | rfl | rfl | rfl | rfl | rfl | rfl | rfl | rfl | rfl | rfl | rfl | rfl | rfl | rfl <;> exact ⟨_, _, rfl⟩
  · simp only [List.mem_cons, List.not_mem_nil, or_false] at hb
    rcases hb with rfl | rfl | rfl
    · exact b1
    · exact b2
    · exact b3
end Go.Proofs.YtlfmckjehjedpaaDoor

/- TopSecretReplies walked. -/
namespace Go.Proofs.YtlfmckjehjedpaaDoor
set_option linter.unusedVariables false
set_option linter.unusedSimpArgs false
set_option maxRecDepth 100000
open SL Go.RowKit Go.Maps
theorem shape_rep : shapeOf Tryd.prog 5 60 = some (repl 15 [.i .i64]) := by kernel_rfl
set_option maxHeartbeats 4000000 in
theorem oneOn_ok : ∃ (u : TreeI) (k : KeyI) (p : PathK), TreeOk u ∧ ansL u 1 = (repL 1 0 1 k p, 0) ∧ ∀ F, FT Tryd.prog 14 [].toArray F [] (Ret (.agg (treeL u).toArray)) := by
  obtain ⟨u, k, p, h1, h2, h3⟩ := one_made
  refine ⟨u, k, p, h1, h2, fun F => ?_⟩
  have hsl : (treeL startT).length = 236 := treeL_length startT_ok.shaped
  have hul : (treeL u).length = 236 := treeL_length h1.shaped
  have hua : (treeL u).all Value.oneCell' = true := treeL_all u
  generalize treeL u = TF at h3 hul hua ⊢
  generalize hSF : treeL startT = SF at h3 hsl
  have hst : ∀ F', FT Tryd.prog 16 [].toArray F' [] (Ret (.agg SF.toArray)) := fun F' => by rw [← hSF]; exact rstart_ok F'
  refine FT.of_body Tryd.func14 rfl Tryd.ntmps14 (by simp) fun C hC => ?_
  subst hC
  conv => whnf
  intro b0
  conv => whnf
  refine CallS.mk Tryd.call16 ⟨[], _, _, Sub.refl _, fun F' hF' => hst F', ?_⟩
  rintro e A' ⟨rfl, rfl⟩
  conv => whnf
  intro bl
  conv => whnf
  refine CallS.mk Tryd.call27 ⟨[], _, _, Sub.refl _, fun F' hF' => h3 F' ⟨none, 0, some ⟨bl, 0, none⟩, 1⟩ ⟨SlF.nil, SlF.cells hF' rfl, by simp, by simp [I64], by simp, by simp⟩, ?_⟩
  rintro e A' ⟨g1, g2, l1, l2, rfl, rfl⟩
  conv => whnf
  intro b1
  conv => whnf
  refine StoreV.p 236 TF TF rfl hul rfl (Nat.le_of_ble_eq_true rfl) hua (by exact putAt_all (by rw [hul]; rfl)) ?_
  conv => whnf
  refine LoadV.p 236 TF rfl hul (by omega) (take_all0 hul) ?_
  conv => whnf
  refine StoreV.p 236 TF TF rfl hul rfl (Nat.le_of_ble_eq_true rfl) hua (by exact putAt_all (by rw [hul]; rfl)) ?_
  conv => whnf
  refine RetI.cell1 Tryd.results14 rfl ?_
  conv => whnf
  refine LoadV.p 236 TF rfl hul (by omega) (take_all0 hul) ?_
  exact ⟨_, Sub.sel [] rfl, rfl, rfl⟩
set_option maxHeartbeats 8000000 in
theorem replies_ok (F : Mem) (htab : TabA F) (oa ob : Option Addr) (ca cb : Nat) (sc : List BatI) (hS : ScrF F oa sc) (seen : List (Int × Int)) (hs : SlF F 2 ob seen.length (seen.flatMap seatF)) (hns : seen.length ≤ 10000000) (oc : Option Addr) (cc : Nat) (asked : List Int) (hq : SlF F 1 oc asked.length (intsV asked)) (hqn : asked.length ≤ 10000000) :
    FT Tryd.prog 5 [.slice oa sc.length ca, .slice ob seen.length cb, .slice oc asked.length cc].toArray F [] (Ret (.bool true)) := by
  refine FT.of_body Tryd.func5 rfl Tryd.ntmps5 (by simp) fun C hC => ?_
  subst hC
  conv => whnf
  refine CallS.mk Tryd.call6 ⟨[], _, _, Sub.refl _, fun F' hF' => lives12_ok F' (htab.ext hF'), ?_⟩
  rintro e A' ⟨rfl, rfl⟩
  conv => whnf
  refine CallS.mk Tryd.call7 ⟨[], _, _, Sub.refl _, fun F' hF' => steps_ok F' (htab.ext hF') oa ca sc (hS.ext hF'), ?_⟩
  rintro e A' ⟨row, ms, ⟨gb, gc⟩, gm, hI, rfl, rfl⟩
  have hR := hI.ok
  obtain ⟨hl1, hl2⟩ := hI.len
  have htp : ∀ m ∈ ms, ∃ Y, (tailH ms).Perm (ownIt m.2.2.2 (itemsM m) :: Y) := fun m hm => tail_item hm
  have hbl := boxL_len fun m hm => hI.items hm
  have hrl : (row.flatMap treeF).length = row.length * 236 := flat_length treeF_length row
  rw [List.append_nil]
  generalize tailH ms = X at htp ⊢
  obtain ⟨u, k1, p1, hu, ha1, hone⟩ := oneOn_ok
  have ha : ∀ F', FT Tryd.prog 13 [.agg (treeL u).toArray, .agg #[.int .i64 1, .int .i64 1]].toArray F' [] (Ret (.tuple #[.agg (repL 1 0 1 k1 p1).toArray, .int .i64 0])) := fun F' => by
    have h := answer_ok F' u hu 1
    rw [ha1] at h; exact h
  generalize treeL u = TF at hone ha
  conv => whnf
  try (show forceH X _; rw [forceH_eq]; conv => whnf)
  refine CallS.mk Tryd.call14 ⟨[], _, _, Sub.refl _, fun F' hF' => hone F', ?_⟩
  rintro e A' ⟨rfl, rfl⟩
  conv => whnf
  try (show forceH X _; rw [forceH_eq]; conv => whnf)
  refine CallS.mk Tryd.call13 ⟨[], _, _, Sub.refl _, fun F' hF' => ha F', ?_⟩
  rintro e A' ⟨rfl, rfl⟩
  rw [show repL 1 0 1 k1 p1 = [.int .i64 1, .int .i64 0, .int .i64 1, .int .i64 k1.1, .int .i64 k1.2, .int .i64 p1.a.1, .int .i64 p1.a.2, .int .i64 k1.1, .int .i64 k1.2, .int .i64 p1.b.1, .int .i64 p1.b.2, .int .i64 k1.1, .int .i64 k1.2, .int .i64 p1.c.1, .int .i64 p1.c.2] from rfl]
  conv => whnf
  try (show forceH X _; rw [forceH_eq]; conv => whnf)
  intro b10
  conv => whnf
  try (show forceH X _; rw [forceH_eq]; conv => whnf)
  refine StoreV.c rfl rfl (Nat.le_of_ble_eq_true rfl) rfl ?_
  conv => whnf
  try (show forceH X _; rw [forceH_eq]; conv => whnf)
  refine LoadV.s rfl rfl ?_
  conv => whnf
  try (show forceH X _; rw [forceH_eq]; conv => whnf)
  refine LoopI.by_state (σ := Nat × Option (Nat × Nat)) (fun s => [(1, .slice ob seen.length cb), (2, .slice oc asked.length cc), (7, svOf (some (gb, gc)) row.length), (12, svOf s.2 (boxL (ms.take s.1)).length), (51, svOf gm ms.length), (52, .int .i64 (ms.length : Int)), (53, .int .i64 (s.1 : Int))])
    (fun s => ownR (gb, gc) row :: ownM gm ms :: ownX s.2 (boxL (ms.take s.1)) :: X) (fun s => s.1 ≤ ms.length ∧ (s.2 = none ↔ boxL (ms.take s.1) = [])) (fun s => ms.length - s.1)
    (0, none) ⟨Nat.zero_le _, by simp [boxL]⟩ ⟨rfl, rfl, rfl, rfl, rfl, rfl, rfl, trivial⟩ ?_ ?_
  · exact Sub.trans (Sub.nil 37 4) (Sub.selX (A := [_, _, _, _]) [2, 3, 0] rfl)
  rintro ⟨i, gx⟩ f0 ⟨hi, hgx⟩
  dsimp only at hi hgx ⊢
  conv => whnf
  try (show forceH X _; rw [forceH_eq]; conv => whnf)
  refine cond_dec (fun h => ?_) (fun h => ?_)
  · have hil : i < ms.length := by omega
    obtain ⟨its, g3, Y, ep, g1, n1, g2, n2, hY, hni, hgi, hsn, hpart, hbi, mb, mc, rfl⟩ := msg_at hI htp hil
    generalize boxL (ms.take i) = bx at hgx hsn hbi ⊢
    conv => whnf
    try (show forceH X _; rw [forceH_eq]; conv => whnf)
    refine ⟨by omega, ?_⟩
    conv => whnf
    try (show forceH X _; rw [forceH_eq]; conv => whnf)
    refine LoadV.eq (b := mb) (o := 0 + i * 4) (by exact congrArg (fun o => (⟨mb, o, none⟩ : Addr)) (elem_off2 (o := 0) (n := 4) (by kernel_rfl) rfl)) ?_
    refine LoadV.op 4 [.int .i64 ep, svOf g1 n1, svOf g2 n2, svOf g3 its.length] rfl rfl (by rw [Nat.zero_add]; exact hpart) ?_
    conv => whnf
    try (show forceH X _; rw [forceH_eq]; conv => whnf)
    intro b10
    conv => whnf
    try (show forceH X _; rw [forceH_eq]; conv => whnf)
    refine StoreV.c rfl rfl (Nat.le_of_ble_eq_true rfl) rfl ?_
    conv => whnf
    try (show forceH X _; rw [forceH_eq]; conv => whnf)
    refine LoadV.s rfl rfl ?_
    conv => whnf
    try (show forceH X _; rw [forceH_eq]; conv => whnf)
    refine LoopI.by_state (σ := Nat × Option (Nat × Nat)) (fun s => [(1, .slice ob seen.length cb), (2, .slice oc asked.length cc), (7, svOf (some (gb, gc)) row.length), (12, svOf s.2 (bx ++ (its.take s.1).map (·.2.2)).length), (51, svOf (some (mb, mc)) ms.length), (52, .int .i64 (ms.length : Int)), (53, .int .i64 (i : Int)), (58, svOf g3 its.length), (59, .int .i64 (its.length : Int)), (60, .int .i64 (s.1 : Int))])
      (fun s => ownIt g3 its :: ownR (gb, gc) row :: ownM (some (mb, mc)) ms :: ownX s.2 (bx ++ (its.take s.1).map (·.2.2)) :: Y) (fun s => s.1 ≤ its.length ∧ (s.2 = none ↔ bx ++ (its.take s.1).map (·.2.2) = [])) (fun s => its.length - s.1)
      (0, gx) ⟨Nat.zero_le _, by simpa using hgx⟩ ⟨rfl, rfl, rfl, by simp; rfl, rfl, rfl, rfl, rfl, rfl, rfl, trivial⟩ (by simpa using tail_in hY) ?_
    rintro ⟨j, g8⟩ f1 ⟨hj, hg8⟩
    dsimp only at hj hg8 ⊢
    conv => whnf
    try (show forceH Y _; rw [forceH_eq]; conv => whnf)
    refine cond_dec (fun h1 => ?_) (fun h1 => ?_)
    · have hjl : j < its.length := by omega
      have hpt := flat_drop itemF_length its j hjl
      have hsj : (its.take (j + 1)).map (·.2.2) = (its.take j).map (·.2.2) ++ [its[j].2.2] := by rw [take_snoc hjl, List.map_append]; rfl
      have hlj : ((its.take j).map (·.2.2)).length = j := by simp; omega
      obtain ⟨ib, ic, rfl⟩ : ∃ ib ic, g3 = some (ib, ic) := by
        cases g3 with
        | none => have := hgi.1 rfl; subst this; simp at hjl
        | some g => exact ⟨g.1, g.2, rfl⟩
      obtain ⟨it, hit⟩ : ∃ it, it = its[j] := ⟨_, rfl⟩
      rw [← hit] at hpt hsj
      generalize (its.take j).map (·.2.2) = bj at hg8 hsj hlj ⊢
      have hbj : (bx ++ bj).length ≤ 100000 := by rw [List.length_append]; omega
      have hsb : bx ++ (its.take (j + 1)).map (·.2.2) = (bx ++ bj) ++ [it.2.2] := by rw [hsj, List.append_assoc]
      generalize bx ++ bj = bb at hg8 hbj hsb ⊢
      rw [show itemF it = [.int .i64 it.1, .int .i64 it.2.1, .int .i64 it.2.2.1, .int .i64 it.2.2.2.1, .int .i64 it.2.2.2.2.1, .int .i64 it.2.2.2.2.2] from rfl] at hpt
      conv => whnf
      try (show forceH Y _; rw [forceH_eq]; conv => whnf)
      refine ⟨by omega, ?_⟩
      conv => whnf
      try (show forceH Y _; rw [forceH_eq]; conv => whnf)
      refine LoadV.eq (b := ib) (o := 0 + j * 6) (by exact congrArg (fun o => (⟨ib, o, none⟩ : Addr)) (elem_off2 (o := 0) (n := 6) (by kernel_rfl) rfl)) ?_
      refine LoadV.op 6 [.int .i64 it.1, .int .i64 it.2.1, .int .i64 it.2.2.1, .int .i64 it.2.2.2.1, .int .i64 it.2.2.2.2.1, .int .i64 it.2.2.2.2.2] rfl rfl (by rw [Nat.zero_add]; exact hpt) ?_
      conv => whnf
      try (show forceH Y _; rw [forceH_eq]; conv => whnf)
      intro b12
      conv => whnf
      try (show forceH Y _; rw [forceH_eq]; conv => whnf)
      refine StoreV.c rfl rfl (Nat.le_of_ble_eq_true rfl) rfl ?_
      conv => whnf
      try (show forceH Y _; rw [forceH_eq]; conv => whnf)
      refine LoadV.a 4 rfl (Nat.le_of_ble_eq_true rfl) ?_
      conv => whnf
      try (show forceH Y _; rw [forceH_eq]; conv => whnf)
      intro bl
      conv => whnf
      try (show forceH Y _; rw [forceH_eq]; conv => whnf)
      refine BuiltV.append (sv := svOf g8 bb.length) (m := 1) Tryd.underlying29 rfl rfl rfl rfl (by decide) (Row.cells 4) rfl (by decide) rfl (by show (bb.length + 1) * 32 ≤ _; omega) (by omega) fun hb hc => ?_
      conv => whnf
      try (show forceH Y _; rw [forceH_eq]; conv => whnf)
      refine ArI.to64 ((j + 1 : Nat) : Int) (by omega) (by omega) ?_
      conv => whnf
      try (show forceH Y _; rw [forceH_eq]; conv => whnf)
      refine ⟨(j + 1, some (hb, hc)), _, by dsimp only; omega, Sub.selX (A := [_, _, _, _, _, _]) [2, 3, 4, 5] rfl, ⟨by dsimp only; omega, by dsimp only; rw [hsb]; simp⟩, ⟨rfl, rfl, rfl, ?_, rfl, rfl, rfl, rfl, rfl, rfl, trivial⟩, ?_⟩
      · dsimp only; rw [hsb, (own_box bb it hb hc).1]; rfl
      · dsimp only; rw [hsb, (own_box bb it hb hc).2]; rfl
    · obtain rfl : j = its.length := by omega
      rw [List.take_length] at hg8 ⊢
      rw [← hsn] at hg8 ⊢
      conv => whnf
      try (show forceH Y _; rw [forceH_eq]; conv => whnf)
      refine ArI.to64 ((i + 1 : Nat) : Int) (by omega) (by omega) ?_
      conv => whnf
      try (show forceH Y _; rw [forceH_eq]; conv => whnf)
      exact ⟨(i + 1, g8), _, by dsimp only; omega, tail_out hY, ⟨by dsimp only; omega, hg8⟩, ⟨rfl, rfl, rfl, rfl, rfl, rfl, rfl, trivial⟩, rfl⟩
  · obtain rfl : i = ms.length := by omega
    rw [List.take_length] at hgx ⊢
    have hbox := hI.boxes
    generalize boxL ms = bs at hgx hbl hbox ⊢
    conv => whnf
    try (show forceH X _; rw [forceH_eq]; conv => whnf)
    refine LoopI.by_state (σ := Nat × Option (Nat × Nat) × List Bx) (fun s => [(1, .slice ob seen.length cb), (7, svOf (some (gb, gc)) row.length), (12, svOf s.2.1 s.2.2.length), (71, .slice oc asked.length cc), (72, .int .i64 (asked.length : Int)), (73, .int .i64 (s.1 : Int))])
      (fun s => [ownX s.2.1 s.2.2, ownR (gb, gc) row]) (fun s => s.1 ≤ asked.length ∧ (s.2.1 = none ↔ s.2.2 = []) ∧ (∀ b ∈ s.2.2, BoxOf row b) ∧ s.2.2.length ≤ 60300 + 3 * s.1) (fun s => asked.length - s.1)
      (0, gx, bs) ⟨Nat.zero_le _, hgx, hbox, by dsimp only; omega⟩ ⟨rfl, rfl, rfl, rfl, rfl, rfl, trivial⟩ (Sub.sel [2, 0] rfl) ?_
    rintro ⟨i, g, bl⟩ f0 ⟨hi, hg, hbl2, hbn⟩
    dsimp only at hi hg hbl2 hbn ⊢
    conv => whnf
    refine cond_dec (fun h => ?_) (fun h => ?_)
    · have hil : i < asked.length := by omega
      have hx := hq.at hil
      obtain ⟨xb, xo, rfl, hrow⟩ := hx
      have hrd := hrow i (.int .i64 asked[i]) (by rw [List.getElem?_map, List.getElem?_eq_getElem hil]; rfl)
      generalize asked[i] = w at hrd ⊢
      conv => whnf
      refine ⟨by omega, ?_⟩
      conv => whnf
      rw [elemOff_nat]
      rotate_left
      · kernel_rfl
      refine LoadV.f hrd rfl ?_
      conv => whnf
      refine ⟨⟨rfl, by omega⟩, ?_⟩
      conv => whnf
      obtain ⟨n, hn, hnl⟩ : ∃ n : Nat, (i : Int).tmod (row.length : Int) = (n : Int) ∧ n < row.length := ⟨i % row.length, (Int.ofNat_tmod i row.length).symm, Nat.mod_lt _ (by omega)⟩
      rw [hn]
      have hget : row[n]? = some row[n] := List.getElem?_eq_getElem hnl
      have hT := (hR.tree n _ hget).1
      obtain ⟨PL, er, hans, hPl, hPk, hPe, hPa, her, hPb⟩ := ans_facts hR hget w
      have hA : ∀ F', FT Tryd.prog 13 [.agg (treeF row[n]).toArray, .agg #[.int .i64 w, .int .i64 1]].toArray F' [] (Ret (.tuple #[.agg PL.toArray, .int .i64 er])) := fun F' => by
        have h := answer_ok F' row[n].1 hT w
        rw [hans] at h; exact h
      have hB : ∀ F', FT Tryd.prog 15 [.agg (treeF row[n]).toArray, .agg #[.int .i64 w, .int .i64 1]].toArray F' [] (Ret (.tuple #[.agg PL.toArray, .int .i64 er])) := fun F' => by
        have h := ranswer_ok F' row[n].1 hT w
        rw [hans] at h; exact h
      have hpart := flat_drop treeF_length row n hnl
      have hfl := treeF_length row[n]
      have hla : (treeF row[n]).all Value.oneCell' = true := treeF_all row[n]
      generalize treeF row[n] = TF at hpart hfl hla hA hB
      refine ⟨by omega, ?_⟩
      conv => whnf
      refine LoadV.eq (b := gb) (o := 0 + n * 236) (by exact congrArg (fun o => (⟨gb, o, none⟩ : Addr)) (elem_off2 (o := 0) (n := 236) (by kernel_rfl) rfl)) ?_
      refine LoadV.op 236 TF rfl hfl (by rw [Nat.zero_add]; exact hpart) ?_
      conv => whnf
      intro b19
      conv => whnf
      refine StoreV.p 236 TF TF rfl hfl rfl (Nat.le_of_ble_eq_true rfl) hla (by exact putAt_all (by rw [hfl]; rfl)) ?_
      conv => whnf
      refine LoadV.p 236 TF rfl hfl (by omega) (take_all0 hfl) ?_
      conv => whnf
      refine CallS.mk Tryd.call13 ⟨[], _, _, Sub.refl _, fun F' hF' => hA F', ?_⟩
      rintro e A' ⟨rfl, rfl⟩
      conv => whnf
      intro b20
      conv => whnf
      refine StoreV.p 15 PL PL rfl hPl rfl (Nat.le_of_ble_eq_true rfl) hPa (by exact putAt_all (by rw [hPl]; rfl)) ?_
      conv => whnf
      refine LoadV.p 236 TF rfl hfl (by omega) (take_all0 hfl) ?_
      conv => whnf
      refine CallS.mk Tryd.call15 ⟨[], _, _, Sub.refl _, fun F' hF' => hB F', ?_⟩
      rintro e A' ⟨rfl, rfl⟩
      conv => whnf
      intro b22
      conv => whnf
      refine StoreV.p 15 PL PL rfl hPl rfl (Nat.le_of_ble_eq_true rfl) hPa (by exact putAt_all (by rw [hPl]; rfl)) ?_
      conv => whnf
      refine LoadV.p 15 PL rfl hPl (by omega) (take_all0 hPl) ?_
      conv => whnf
      refine LoadV.p 15 PL rfl hPl (by omega) (take_all0 hPl) ?_
      conv => whnf
      refine EqV.neq (d := 5) shape_rep rfl (by kernel_rfl) rfl hPk hPk ?_
      rw [hPe]
      conv => whnf
      rw [show (er != er) = false from bne_self_eq_false _]
      by_cases h0 : er = 0
      · subst h0
        obtain ⟨s0, ep0, k, k1, k2, k3, rfl, hbx⟩ := hPb rfl
        rw [show repL w s0 ep0 k ⟨k1, k2, k3⟩ = [.int .i64 w, .int .i64 s0, .int .i64 ep0, .int .i64 k.1, .int .i64 k.2, .int .i64 k1.1, .int .i64 k1.2, .int .i64 k.1, .int .i64 k.2, .int .i64 k2.1, .int .i64 k2.2, .int .i64 k.1, .int .i64 k.2, .int .i64 k3.1, .int .i64 k3.2] from rfl]
        conv => whnf
        refine DoV.slice_arr Tryd.underlying58 rfl ?_
        conv => whnf
        refine BuiltV.append (sv := svOf g bl.length) (m := 3) Tryd.underlying29 rfl rfl rfl rfl (by decide) (Row.cells 12) rfl (by decide) rfl (by show (bl.length + 3) * 32 ≤ _; omega) (by omega) fun gb2 gc2 => ?_
        conv => whnf
        refine ArI.to64 ((i + 1 : Nat) : Int) (by omega) (by omega) ?_
        conv => whnf
        have hcat := own_cat bxF bl [(k.1, k.2, k1.1, k1.2), (k.1, k.2, k2.1, k2.2), (k.1, k.2, k3.1, k3.2)] gb2 gc2 37 4
        refine ⟨(i + 1, some (gb2, gc2), bl ++ [(k.1, k.2, k1.1, k1.2), (k.1, k.2, k2.1, k2.2), (k.1, k.2, k3.1, k3.2)]), _, by dsimp only; omega, Sub.sel [3, 4] rfl, ⟨by dsimp only; omega, by simp, fun b hb => ?_, by dsimp only; rw [List.length_append]; show bl.length + 3 ≤ _; omega⟩, ⟨rfl, rfl, by dsimp only; rw [List.length_append]; rfl, rfl, rfl, rfl, trivial⟩, ?_⟩
        · rcases List.mem_append.1 hb with hb | hb
          · exact hbl2 b hb
          · exact hbx b hb
        · dsimp only; unfold ownX; rw [hcat]; rfl
      · conv => whnf
        rw [show (er == 0) = false from beq_eq_false_iff_ne.2 h0]
        conv => whnf
        refine ArI.to64 ((i + 1 : Nat) : Int) (by omega) (by omega) ?_
        conv => whnf
        exact ⟨(i + 1, g, bl), _, by dsimp only; omega, Sub.sel [3, 4] rfl, ⟨by dsimp only; omega, hg, hbl2, by dsimp only; omega⟩, ⟨rfl, rfl, rfl, rfl, rfl, rfl, trivial⟩, rfl⟩
    · obtain rfl : i = asked.length := by omega
      have hks := opened_small hR (seen := seen)
      have hol := opK_len row seen
      have hml := metL_len row seen
      have hlaw := fun m hm => kept_law hR (seen := seen) (bs := bl) (m := m) hbl2 hm
      have hbs : BoxesIn bl := fun b hb => (hbl2 b hb).small hR
      have hbsl : (bl.flatMap bxF).length = bl.length * 4 := flat_length bxF_length bl
      conv => whnf
      refine CallS.mk Tryd.call8 ⟨[], _, _, Sub.refl _, fun F' hF' => opened_ok F' (some ⟨gb, 0, none⟩) ob gc cb row (SlF.sv (g := some (gb, gc)) hF' hrl (by intro h; cases h)) hR seen (hs.ext hF'.F) hns, ?_⟩
      rintro e A' ⟨g1, g2, hg1, hg2, rfl, rfl⟩
      generalize opK row seen = ks at hg1 hol hks hlaw ⊢
      generalize metL row seen = mt at hg2 hml hlaw ⊢
      have hksl : (ks.flatMap keyF).length = ks.length * 2 := flat_length keyF_length ks
      have hmtl : (mt.flatMap seatF).length = mt.length * 2 := flat_length seatF_length mt
      conv => whnf
      refine CallS.mk Tryd.call10 ⟨[], _, _, Sub.refl _, fun F' hF' => closed_ok F' (oaOf g1) (oaOf g) (capOf g1) (capOf g) ks bl (SlF.sv hF' hksl (fun e => by rw [hg1.1 e]; rfl)) (SlF.sv hF' hbsl (fun e => by rw [hg.1 e]; rfl)) (by omega) (by omega) hks hbs, ?_⟩
      rintro e A' ⟨r, es, cl, m, rfl, rfl, M, hC⟩
      have hK := keptB_iff.2 (hlaw m hC.snd)
      conv => whnf
      refine CallS.mk Tryd.call9 ⟨[], _, _, Sub.refl _, fun F' hF' => kept_ok F' (some ⟨gb, 0, none⟩) (oaOf g2) gc (capOf g2) row (SlF.sv (g := some (gb, gc)) hF' hrl (by intro h; cases h)) hR r es cl m (RdO.obj hF' (by simp)) M mt (SlF.sv hF' hmtl (fun e => by rw [hg2.1 e]; rfl)) (by omega), ?_⟩
      rintro e A' ⟨rfl, rfl⟩
      rw [hK]
      conv => whnf
      refine RetI.one Tryd.results5 rfl ?_
      conv => whnf
      exact ⟨_, Sub.sel [] rfl, rfl, rfl⟩
end Go.Proofs.YtlfmckjehjedpaaDoor

/- What the listed variables give: the table of trailing noughts. -/
namespace Go.Proofs.YtlfmckjehjedpaaDoor
set_option linter.unusedVariables false
set_option linter.unusedSimpArgs false
set_option maxRecDepth 100000
open SL Go.RowKit Go.ChangeShapes Go.WideShapes Go.ChangeAt Go.Lib

theorem tabR_cell {W : World} (h : laidMetH Tryd.prog Rows.topSecretRepliesUptoRow.laid W) (j : Nat) (hj : j < 64) : W.cell? ⟨0, j, none⟩ = some (.int .u8 (deBruijn64tab.getD j 0)) := by
  rw [MakeChecks.laidMetH_plain _ _ _ (by kernel_rfl)] at h
  obtain ⟨ps, ⟨g1, t1, cs1, f1, p1, q1, hg1, ht1, hv1, hd1, _, _⟩, _, _⟩ := h
  obtain rfl : g1 = 0 := Option.some.inj (hg1.symm.trans (by kernel_rfl))
  obtain rfl : t1 = 149 := Option.some.inj (ht1.symm.trans (by kernel_rfl))
  obtain ⟨xs, m, _, ex, _, hl, hel⟩ := DataW.trod_array Tryd.underlying149 hd1
  have c5 : Tryd.prog.cellsOf 5 = 1 := by kernel_rfl
  have hE := hel j hj
  rw [c5, Nat.mul_one, List.getElem?_eq_getElem (by omega)] at hE
  obtain ⟨z, e1, e2, _⟩ := DataW.trod_int Tryd.underlying5 hE
  have e3 := (DataW.agg.inj (Prod.mk.inj ex).1).symm
  have e4 : (xs.map (·.1))[j]? = some (.lit (.int .u8 (deBruijn64tab.getD j 0))) := by
    rw [e3]
    show (deBruijn64tab.map fun (n : Nat) => DataW.lit (Lit.int .u8 (n : Int)))[j]? = _
    rw [List.getElem?_map, List.getD_eq_getElem?_getD, List.getElem?_eq_getElem (show j < deBruijn64tab.length from hj)]; rfl
  rw [List.getElem?_map, List.getElem?_eq_getElem (by omega : j < xs.length), e2] at e4
  have hz : z = (deBruijn64tab.getD j 0 : Nat) := by simpa using e4
  rw [World.var?_cell hg1 hv1 j, ← hz]
  have : cs1.toList[j]? = some (.int .u8 z) := by
    have h0 : ((cs1.toList.drop j).take 1)[0]? = some (.int .u8 z) := by rw [e1]; rfl
    simpa using h0
  simpa using this
theorem tabR_of {W : World} (h : laidMetH Tryd.prog Rows.topSecretRepliesUptoRow.laid W) : TabA (fun r => W.heap[r]?) := fun j hj => rd_of_cell (tabR_cell h j hj)
end Go.Proofs.YtlfmckjehjedpaaDoor
