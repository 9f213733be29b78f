/- A function that defers one call at its beginning; two results in memory. -/
import Derived.Test.YtlbdnkkaacccoaaCom
import Derived.RecoverIn
namespace Go.Proofs.Ytlbdnkkaacccoaa
set_option linter.unusedVariables false
set_option linter.unusedSimpArgs false
set_option maxRecDepth 100000
open SL Go.RowKit Go.Maps
namespace SL
open Go Go.RowKit
section
variable {C : Ctx} {P : Program} {n : Nat} {fn : Func} {f : Fr} {H : Heap} {K : Value → Prop}
theorem RetI.cell_cell {t u : Nat} {T U : TypeId} (hr : fn.results = #[.cell t T, .cell u U]) (ht : Nat.blt t n = true) (hu : Nat.blt u n = true)
    (k : match f t with | .pointer (some a) => LoadV C P T a H fun x => (match f u with | .pointer (some b) => LoadV C P U b H fun y => K (.tuple #[x, y]) | _ => False) | _ => False) : RetI C P n fn f H K := by
  split at k
  · rename_i a ha
    obtain ⟨x, hx, hk⟩ := k
    split at hk
    · rename_i b hb
      obtain ⟨y, hy, hk⟩ := hk
      have ht' : t < n := by simpa [Nat.blt_eq] using ht
      have hu' : u < n := by simpa [Nat.blt_eq] using hu
      exact ⟨_, fun c w h hs => by simp [results, hr, h.tmps, ht', hu', ha, hb, asAddr, hx w hs, hy w hs], hk⟩
    · exact hk.elim
  · exact k.elim
end
theorem wpIn_deferRegion {P : Program} {n : Nat} {f : Fr} {a : Act} {w : World} {Q : Exit → Act → World → Prop} {id d : Nat} {mk df : Oper} {v : Value} {D : Deferred} (ht : TR [] n f a) (hmk : mk.guard = none) (hdf : df.guard = none) (hmd : mk.dst = some d) (hdd : df.dst = none)
    (hnd : ∀ c, mk.op ≠ .defer c) (h1 : ∀ (a : Act) (w : World), TR [] n f a → (execOp a.eval mk).run P w = .ok (.value v) w) (h2 : ∀ (a : Act) (w : World), TR [] n (upd f d v) a → (execOp a.eval df).run P w = .ok (.defer D) w)
    (hk : ∀ a', TR [D] n (upd f d v) a' → Q .normal a' w) : (Code.region id #[mk, df] false).wpIn Fence.wide 0 P Q a w := by
  refine wpIn_region_list ?_
  show wpListIn Fence.wide 0 P #[mk, df] Q [mk, df] a w
  unfold wpListIn
  rw [if_pos (by simp [Region.wanted, hmk])]
  refine ⟨fun _ _ => trivial, ?_⟩
  rw [Oper.semAt_eq _ _ _ hnd, h1 a w ht]
  have ht1 : TR [] n (upd f d v) (a.put mk.dst v) := by
    have := TR.put (C := ⟨w, fun _ => False, fun _ => none, fun _ _ h => (by cases h), []⟩) ht (some d) v
    rw [hmd]; exact this
  show wpListIn Fence.wide 0 P #[mk, df] Q [df] (a.put mk.dst v) w
  unfold wpListIn
  rw [if_pos (by simp [Region.wanted, hdf])]
  refine ⟨fun _ _ => trivial, ?_⟩
  rw [show (Fence.wide).round = none from rfl, Oper.semAt_none, h2 _ w ht1]
  show wpListIn Fence.wide 0 P #[mk, df] Q [] (({ (a.put mk.dst v) with defers := D :: (a.put mk.dst v).defers } : Act).put df.dst undef) w
  unfold wpListIn
  refine hk _ ⟨?_, ?_⟩
  · rw [hdd]; exact ht1.tmps
  · rw [hdd]; show D :: (a.put mk.dst v).defers = _; rw [ht1.defers]
/-- How a function is left that has deferred D. -/
structure leaveQ (C : Ctx) (P : Program) (n : Nat) (fn : Func) (R : Ending → Heap → Prop) (D : Deferred) (e : Exit) (f : Fr) (H' : Heap) : Prop where
  go : ∀ (a : Act) (w : World), TR [D] n f a → Sat C H' w → match e with
    | .normal | .ret => LeavesIn Fence.wide 0 P fn a.tmps (fun e w' => e ≠ .outgrown ∧ ∃ H', R e H' ∧ Sat C H' w') [D] .returning w
    | .panic c => LeavesIn Fence.wide 0 P fn a.tmps (fun e w' => e ≠ .outgrown ∧ ∃ H', R e H' ∧ Sat C H' w') [D] (.panicking c) w
    | _ => False
/-- The place at which D is deferred. -/
structure DeferAt (P : Program) (n : Nat) (mk df : Oper) (f : Fr) (d : Nat) (v : Value) (D : Deferred) : Prop where
  hm : ∀ (a : Act) (w : World), TR [] n f a → (execOp a.eval mk).run P w = .ok (.value v) w
  hd : ∀ (a : Act) (w : World), TR [] n (upd f d v) a → (execOp a.eval df).run P w = .ok (.defer D) w
theorem FT.of_defer {P : Program} {g : FuncId} {fn : Func} {r0 rest : Code} {id1 d : Nat} {mk df : Oper} {args : List Value} {F : Mem} {H : Heap} {R : Ending → Heap → Prop} {n : Nat}
    (hf : P.funcs[g]? = some fn) (hb : fn.body = some (.seq r0 (.seq (.region id1 #[mk, df] false) rest))) (hn : fn.ntmps = n) (hl : args.length ≤ n) (hmk : mk.guard = none) (hdf : df.guard = none) (hmd : mk.dst = some d) (hdd : df.dst = none) (hnd : ∀ c, mk.op ≠ .defer c)
    (h : ∀ C : Ctx, C.F = F → C.ds = [] → CW C P n r0 (fun e f H' => e = .normal ∧ ∃ v D, DeferAt P n mk df f d v D ∧ CW { C with ds := [D] } P n rest (leaveQ C P n fn R D) (upd f d v) H') (argFr args) H) : FT P g args.toArray F H R := by
  intro w hF hs
  refine callsIn_wide.1 (callsIn_of_wp_defers (n := 0) hf hb trivial (wpIn_seq (wpIn_mono' ?_ (CW.sound (r := none) r0 (h _ rfl rfl) ⟨?_, rfl⟩ hs))))
  · intro e a w1 ⟨hne, f1, H1, ⟨he, v, D, hD, hrest⟩, ht, hs1⟩
    subst he
    refine wpIn_seq (wpIn_deferRegion ht hmk hdf hmd hdd hnd hD.hm hD.hd fun a2 ht2 => ?_)
    refine wpIn_mono' ?_ (CW.sound (C := { (⟨w, (· ∈ blks H), F, hF, []⟩ : Ctx) with ds := [D] }) (r := none) rest hrest ht2 (Sat.to_ds hs1))
    intro e a3 w3 ⟨hne3, f3, H3, hq, ht3, hs3⟩
    have hq := hq.go a3 w3 ht3 (Sat.of_ds hs3)
    have hd3 : a3.defers = [D] := ht3.defers
    cases e with
    | normal => show LeavesIn _ _ _ _ _ _ a3.defers _ _; rw [hd3]; exact hq
    | ret => show LeavesIn _ _ _ _ _ _ a3.defers _ _; rw [hd3]; exact hq
    | panic c => show LeavesIn _ _ _ _ _ _ a3.defers _ _; rw [hd3]; exact hq
    | outgrown => exact absurd rfl hne3
    | exit i => exact hq.elim
    | goto i => exact hq.elim
  · apply Array.ext
    · simp [hn]; omega
    · intro i h1 h2
      simp at h1 h2
      simp only [Array.getElem_append, List.size_toArray]
      split
      · rename_i hi; simp [argFr, List.getElem?_eq_getElem hi]
      · rename_i hi; simp at hi; simp [argFr, List.getElem?_eq_none hi]
end SL
end Go.Proofs.Ytlbdnkkaacccoaa
