/- More laws of the tree's shape, as contracts. -/
import Derived.Test.YtebhhfojiiohpaaF
namespace Go.Proofs.Ytebhhfojiiohpaa
open SL Go.RowKit

theorem bnn (b : Bool) : (!(b == b)) = false := by cases b <;> rfl
theorem modIn (v : Int) (n : Int) (h0 : 0 < n) (h1 : n ≤ 1000) : 0 ≤ IntKind.i64.wrap ((IntKind.u64.wrap v).tmod n) ∧ IntKind.i64.wrap ((IntKind.u64.wrap v).tmod n) < n := by
  have h : 0 ≤ IntKind.u64.wrap v := by simp [IntKind.wrap, IntKind.signed]; omega
  have h2 := Int.tmod_nonneg n h
  have h3 := Int.tmod_lt_of_pos (IntKind.u64.wrap v) h0
  rw [IntWalk.i64_in _ (by omega)]
  exact ⟨h2, h3⟩
theorem nodes_ok (F : Mem) (v i : Int) : FT Try.prog 6 [.int .i64 v, .int .i64 i].toArray F [] (Ret (.bool true)) := by
  refine FT.of_body Try.func6 rfl Try.ntmps6 (by simp) fun C hC => ?_
  conv => whnf
  refine CallS.mk Try.call10 ⟨[], _, _, Sub.split [] rfl, fun F' _ => lives_ok F', ?_⟩
  rintro e A' ⟨rfl, rfl⟩
  conv => whnf
  refine CallS.mk Try.call20 ⟨[], _, _, Sub.split [] rfl, fun F' _ => level_ok F' v, ?_⟩
  rintro e A' ⟨rfl, rfl⟩
  conv => whnf
  refine CallS.mk Try.call21 ⟨[], _, _, Sub.split [] rfl, fun F' _ => rlevel_ok F' v, ?_⟩
  rintro e A' ⟨rfl, rfl⟩
  conv => whnf
  rw [show ((levelI v : Int) == levelI v) = true from beq_self_eq_true _]
  conv => whnf
  refine CallS.mk Try.call22 ⟨[], _, _, Sub.split [] rfl, fun F' _ => parent_ok F' v, ?_⟩
  rintro e A' ⟨rfl, rfl⟩
  conv => whnf
  refine CallS.mk Try.call23 ⟨[], _, _, Sub.split [] rfl, fun F' _ => rparent_ok F' v, ?_⟩
  rintro e A' ⟨rfl, rfl⟩
  conv => whnf
  rw [show ((parentI v : Int) == parentI v) = true from beq_self_eq_true _]
  conv => whnf
  refine CallS.mk Try.call19 ⟨[], _, _, Sub.split [] rfl, fun F' _ => child_ok F' v i, ?_⟩
  rintro e A' ⟨rfl, rfl⟩
  conv => whnf
  refine CallS.mk Try.call24 ⟨[], _, _, Sub.split [] rfl, fun F' _ => rchild_ok F' v i, ?_⟩
  rintro e A' ⟨rfl, rfl⟩
  conv => whnf
  rw [show ((childI v i : Int) == childI v i) = true from beq_self_eq_true _]
  conv => whnf
  refine CallS.mk Try.call25 ⟨[], _, _, Sub.split [] rfl, fun F' _ => which_ok F' v, ?_⟩
  rintro e A' ⟨rfl, rfl⟩
  conv => whnf
  refine CallS.mk Try.call26 ⟨[], _, _, Sub.split [] rfl, fun F' _ => rwhich_ok F' v, ?_⟩
  rintro e A' ⟨rfl, rfl⟩
  conv => whnf
  rw [show ((whichI v : Int) == whichI v) = true from beq_self_eq_true _]
  conv => whnf
  refine CallS.mk Try.call27 ⟨[], _, _, Sub.split [] rfl, fun F' _ => slot_ok F' v, ?_⟩
  rintro e A' ⟨rfl, rfl⟩
  conv => whnf
  refine CallS.mk Try.call28 ⟨[], _, _, Sub.split [] rfl, fun F' _ => rslot_ok F' v, ?_⟩
  rintro e A' ⟨rfl, rfl⟩
  conv => whnf
  rw [show ((slotI v : Int) == slotI v) = true from beq_self_eq_true _]
  conv => whnf
  refine CallS.mk Try.call29 ⟨[], _, _, Sub.split [] rfl, fun F' _ => leaf_ok F' v, ?_⟩
  rintro e A' ⟨rfl, rfl⟩
  conv => whnf
  refine CallS.mk Try.call30 ⟨[], _, _, Sub.split [] rfl, fun F' _ => rleaf_ok F' v, ?_⟩
  rintro e A' ⟨rfl, rfl⟩
  conv => whnf
  rw [show ((leafI v : Int) == leafI v) = true from beq_self_eq_true _]
  refine RetI.one Try.results6 rfl ?_
  conv => whnf
  exact ⟨_, Sub.refl _, rfl, rfl⟩
theorem meet_fact (v w : Int) (v0 : 0 ≤ v) (v1 : v < 85) (w0 : 0 ≤ w) (w1 : w < 85) : 0 ≤ meetI v w ∧ meetI v w < 85 ∧ meetI w v = meetI v w ∧ isBelow (meetI v w) v = true ∧ isBelow (meetI v w) w = true ∧ isBelow v w = (meetI v w == v) ∧
    ∀ i : Fin 4, ¬ (0 ≤ childI (meetI v w) (i.val : Int) ∧ isBelow (childI (meetI v w) (i.val : Int)) v = true ∧ isBelow (childI (meetI v w) (i.val : Int)) w = true) :=
  each2 85 85 (fun v w => 0 ≤ meetI v w ∧ meetI v w < 85 ∧ meetI w v = meetI v w ∧ isBelow (meetI v w) v = true ∧ isBelow (meetI v w) w = true ∧ isBelow v w = (meetI v w == v) ∧
    ∀ i : Fin 4, ¬ (0 ≤ childI (meetI v w) (i.val : Int) ∧ isBelow (childI (meetI v w) (i.val : Int)) v = true ∧ isBelow (childI (meetI v w) (i.val : Int)) w = true)) (by decide +kernel) v w v0 v1 w0 w1
theorem meets_ok (F : Mem) (v w : Int) : FT Try.prog 4 [.int .i64 v, .int .i64 w].toArray F [] (Ret (.bool true)) := by
  refine FT.of_body Try.func4 rfl Try.ntmps4 (by simp) fun C hC => ?_
  conv => whnf
  refine CallS.mk Try.call10 ⟨[], _, _, Sub.split [] rfl, fun F' _ => lives_ok F', ?_⟩
  rintro e A' ⟨rfl, rfl⟩
  conv => whnf
  refine CallS.mk Try.call15 ⟨[], _, _, Sub.split [] rfl, fun F' _ => below_ok F' v w, ?_⟩
  rintro e A' ⟨rfl, rfl⟩
  conv => whnf
  refine CallS.mk Try.call16 ⟨[], _, _, Sub.split [] rfl, fun F' _ => rbelow_ok F' v w, ?_⟩
  rintro e A' ⟨rfl, rfl⟩
  conv => whnf
  rw [bnn (isBelow v w)]
  conv => whnf
  refine CallS.mk Try.call17 ⟨[], _, _, Sub.split [] rfl, fun F' _ => meet_ok F' v w, ?_⟩
  rintro e A' ⟨rfl, rfl⟩
  conv => whnf
  refine CallS.mk Try.call18 ⟨[], _, _, Sub.split [] rfl, fun F' _ => rmeet_ok F' v w, ?_⟩
  rintro e A' ⟨rfl, rfl⟩
  conv => whnf
  rw [show (meetI v w != meetI v w) = false from bne_self_eq_false _]
  conv => whnf
  refine ⟨by decide, ?_⟩
  conv => whnf
  refine ⟨by decide, ?_⟩
  conv => whnf
  have hx := modIn v 85 (by omega) (by omega)
  have hy := modIn w 85 (by omega) (by omega)
  generalize IntKind.i64.wrap ((IntKind.u64.wrap v).tmod 85) = x at hx ⊢
  generalize IntKind.i64.wrap ((IntKind.u64.wrap w).tmod 85) = y at hy ⊢
  obtain ⟨m0, m1, f1, f2, f3, f4, f5⟩ := meet_fact x y hx.1 hx.2 hy.1 hy.2
  refine CallS.mk Try.call17 ⟨[], _, _, Sub.split [] rfl, fun F' _ => meet_ok F' x y, ?_⟩
  rintro e A' ⟨rfl, rfl⟩
  conv => whnf
  refine CallS.mk Try.call17 ⟨[], _, _, Sub.split [] rfl, fun F' _ => meet_ok F' y x, ?_⟩
  rintro e A' ⟨rfl, rfl⟩
  conv => whnf
  rw [f1, show (meetI x y != meetI x y) = false from bne_self_eq_false _]
  conv => whnf
  refine CallS.mk Try.call15 ⟨[], _, _, Sub.split [] rfl, fun F' _ => below_ok F' (meetI x y) x, ?_⟩
  rintro e A' ⟨rfl, rfl⟩
  conv => whnf
  rw [f2]
  conv => whnf
  refine CallS.mk Try.call15 ⟨[], _, _, Sub.split [] rfl, fun F' _ => below_ok F' (meetI x y) y, ?_⟩
  rintro e A' ⟨rfl, rfl⟩
  conv => whnf
  rw [f3]
  conv => whnf
  refine CallS.mk Try.call15 ⟨[], _, _, Sub.split [] rfl, fun F' _ => below_ok F' x y, ?_⟩
  rintro e A' ⟨rfl, rfl⟩
  conv => whnf
  rw [f4, bnn (meetI x y == x)]
  conv => whnf
  refine LoopI.by_state (σ := Nat) (fun i => [(5, .int .i64 x), (6, .int .i64 y), (7, .int .i64 (meetI x y)), (8, .int .i64 (i : Int))]) (fun _ => []) (fun i => i ≤ 4) (fun i => 4 - i) 0 (by omega) ⟨rfl, rfl, rfl, rfl, trivial⟩ (Sub.refl _) ?_
  rintro i f0 hi
  conv => whnf
  refine cond_dec (fun h => ?_) (fun h => ?_)
  · conv => whnf
    have hf := f5 ⟨i, by omega⟩
    dsimp only at hf
    have next : IntKind.i64.wrap ((i : Int) + 1) = ((i + 1 : Nat) : Int) := i64_up i 4 (by omega) (by omega)
    refine CallS.mk Try.call19 ⟨[], _, _, Sub.split [] rfl, fun F' _ => child_ok F' (meetI x y) i, ?_⟩
    rintro e A' ⟨rfl, rfl⟩
    conv => whnf
    refine cond_dec (fun h2 => ?_) (fun h2 => ?_)
    · conv => whnf
      refine CallS.mk Try.call15 ⟨[], _, _, Sub.split [] rfl, fun F' _ => below_ok F' (childI (meetI x y) i) x, ?_⟩
      rintro e A' ⟨rfl, rfl⟩
      conv => whnf
      refine cond_split ?_ ?_
      · intro hb
        conv => whnf
        refine CallS.mk Try.call15 ⟨[], _, _, Sub.split [] rfl, fun F' _ => below_ok F' (childI (meetI x y) i) y, ?_⟩
        rintro e A' ⟨rfl, rfl⟩
        conv => whnf
        refine cond_split ?_ ?_
        · intro hb2
          exact absurd ⟨h2, hb, hb2⟩ hf
        · intro hb2
          conv => whnf
          exact ⟨i + 1, [], by omega, Sub.refl _, by omega, ⟨rfl, rfl, rfl, congrArg (Value.int .i64) next, trivial⟩, rfl⟩
      · intro hb
        conv => whnf
        exact ⟨i + 1, [], by omega, Sub.refl _, by omega, ⟨rfl, rfl, rfl, congrArg (Value.int .i64) next, trivial⟩, rfl⟩
    · conv => whnf
      exact ⟨i + 1, [], by omega, Sub.refl _, by omega, ⟨rfl, rfl, rfl, congrArg (Value.int .i64) next, trivial⟩, rfl⟩
  · conv => whnf
    refine RetI.one Try.results4 rfl ?_
    conv => whnf
    exact ⟨_, Sub.refl _, rfl, rfl⟩
theorem fam_up (v : Int) (v0 : 0 ≤ v) (v1 : v < 85) : v > 0 → childI (parentI v) (whichI v) = v ∧ levelI (parentI v) = levelI v - 1 :=
  each 85 (fun v => v > 0 → childI (parentI v) (whichI v) = v ∧ levelI (parentI v) = levelI v - 1) (by decide +kernel) v v0 v1
theorem fam_leaf (v i : Int) (v0 : 0 ≤ v) (v1 : v < 85) (i0 : 0 ≤ i) (i1 : i < 4) : v ≥ 21 → childI v i = -1 ∧ leafI (slotI v) = v ∧ levelI v = 3 :=
  each2 85 4 (fun v i => v ≥ 21 → childI v i = -1 ∧ leafI (slotI v) = v ∧ levelI v = 3) (by decide +kernel) v i v0 v1 i0 i1
theorem fam_down (v i : Int) (v0 : 0 ≤ v) (v1 : v < 85) (i0 : 0 ≤ i) (i1 : i < 4) : ¬ v ≥ 21 → parentI (childI v i) = v ∧ whichI (childI v i) = i ∧ slotI v = -1 :=
  each2 85 4 (fun v i => ¬ v ≥ 21 → parentI (childI v i) = v ∧ whichI (childI v i) = i ∧ slotI v = -1) (by decide +kernel) v i v0 v1 i0 i1
theorem family_ok (F : Mem) (v i : Int) : FT Try.prog 7 [.int .i64 v, .int .i64 i].toArray F [] (Ret (.bool true)) := by
  refine FT.of_body Try.func7 rfl Try.ntmps7 (by simp) fun C hC => ?_
  conv => whnf
  refine CallS.mk Try.call10 ⟨[], _, _, Sub.split [] rfl, fun F' _ => lives_ok F', ?_⟩
  rintro e A' ⟨rfl, rfl⟩
  conv => whnf
  refine ⟨by decide, ?_⟩
  conv => whnf
  have hx := modIn v 85 (by omega) (by omega)
  generalize IntKind.i64.wrap ((IntKind.u64.wrap v).tmod 85) = x at hx ⊢
  have hy := modIn i 4 (by omega) (by omega)
  have h1 := fam_up x hx.1 hx.2
  have h2 := fam_leaf x _ hx.1 hx.2 hy.1 hy.2
  have h3 := fam_down x _ hx.1 hx.2 hy.1 hy.2
  have hl := level_rng x
  refine cond_dec (fun hp => ?_) (fun hp => ?_)
  · obtain ⟨h4, h5⟩ := h1 hp
    conv => whnf
    refine CallS.mk Try.call22 ⟨[], _, _, Sub.split [] rfl, fun F' _ => parent_ok F' x, ?_⟩
    rintro e A' ⟨rfl, rfl⟩
    conv => whnf
    refine CallS.mk Try.call25 ⟨[], _, _, Sub.split [] rfl, fun F' _ => which_ok F' x, ?_⟩
    rintro e A' ⟨rfl, rfl⟩
    conv => whnf
    refine CallS.mk Try.call19 ⟨[], _, _, Sub.split [] rfl, fun F' _ => child_ok F' (parentI x) (whichI x), ?_⟩
    rintro e A' ⟨rfl, rfl⟩
    conv => whnf
    rw [h4, show (x != x) = false from bne_self_eq_false _]
    conv => whnf
    refine CallS.mk Try.call22 ⟨[], _, _, Sub.split [] rfl, fun F' _ => parent_ok F' x, ?_⟩
    rintro e A' ⟨rfl, rfl⟩
    conv => whnf
    refine CallS.mk Try.call20 ⟨[], _, _, Sub.split [] rfl, fun F' _ => level_ok F' (parentI x), ?_⟩
    rintro e A' ⟨rfl, rfl⟩
    conv => whnf
    refine CallS.mk Try.call20 ⟨[], _, _, Sub.split [] rfl, fun F' _ => level_ok F' x, ?_⟩
    rintro e A' ⟨rfl, rfl⟩
    conv => whnf
    rw [h5, show IntKind.i64.wrap (levelI x - 1) = levelI x - 1 from IntWalk.i64_in _ (by omega), show (levelI x - 1 != levelI x - 1) = false from bne_self_eq_false _]
    conv => whnf
    refine ⟨by decide, ?_⟩
    conv => whnf
    generalize IntKind.i64.wrap ((IntKind.u64.wrap i).tmod 4) = y at *
    refine CallS.mk Try.call19 ⟨[], _, _, Sub.split [] rfl, fun F' _ => child_ok F' x y, ?_⟩
    rintro e A' ⟨rfl, rfl⟩
    conv => whnf
    refine cond_dec (fun h6 => ?_) (fun h6 => ?_)
    · obtain ⟨h7, h8, h9⟩ := h2 h6
      conv => whnf
      rw [h7]
      conv => whnf
      refine CallS.mk Try.call27 ⟨[], _, _, Sub.split [] rfl, fun F' _ => slot_ok F' x, ?_⟩
      rintro e A' ⟨rfl, rfl⟩
      conv => whnf
      refine CallS.mk Try.call29 ⟨[], _, _, Sub.split [] rfl, fun F' _ => leaf_ok F' (slotI x), ?_⟩
      rintro e A' ⟨rfl, rfl⟩
      conv => whnf
      rw [h8, show (x == x) = true from beq_self_eq_true _]
      conv => whnf
      refine CallS.mk Try.call20 ⟨[], _, _, Sub.split [] rfl, fun F' _ => level_ok F' x, ?_⟩
      rintro e A' ⟨rfl, rfl⟩
      conv => whnf
      rw [h9]
      refine RetI.one Try.results7 rfl ?_
      conv => whnf
      exact ⟨_, Sub.refl _, rfl, rfl⟩
    · obtain ⟨h7, h8, h9⟩ := h3 h6
      conv => whnf
      refine CallS.mk Try.call22 ⟨[], _, _, Sub.split [] rfl, fun F' _ => parent_ok F' (childI x y), ?_⟩
      rintro e A' ⟨rfl, rfl⟩
      conv => whnf
      rw [h7, show (x == x) = true from beq_self_eq_true _]
      conv => whnf
      refine CallS.mk Try.call25 ⟨[], _, _, Sub.split [] rfl, fun F' _ => which_ok F' (childI x y), ?_⟩
      rintro e A' ⟨rfl, rfl⟩
      conv => whnf
      rw [h8, show (y == y) = true from beq_self_eq_true _]
      conv => whnf
      refine CallS.mk Try.call27 ⟨[], _, _, Sub.split [] rfl, fun F' _ => slot_ok F' x, ?_⟩
      rintro e A' ⟨rfl, rfl⟩
      conv => whnf
      rw [h9]
      refine RetI.one Try.results7 rfl ?_
      conv => whnf
      exact ⟨_, Sub.refl _, rfl, rfl⟩
  · conv => whnf
    refine ⟨by decide, ?_⟩
    conv => whnf
    generalize IntKind.i64.wrap ((IntKind.u64.wrap i).tmod 4) = y at *
    refine CallS.mk Try.call19 ⟨[], _, _, Sub.split [] rfl, fun F' _ => child_ok F' x y, ?_⟩
    rintro e A' ⟨rfl, rfl⟩
    conv => whnf
    refine cond_dec (fun h6 => ?_) (fun h6 => ?_)
    · obtain ⟨h7, h8, h9⟩ := h2 h6
      conv => whnf
      rw [h7]
      conv => whnf
      refine CallS.mk Try.call27 ⟨[], _, _, Sub.split [] rfl, fun F' _ => slot_ok F' x, ?_⟩
      rintro e A' ⟨rfl, rfl⟩
      conv => whnf
      refine CallS.mk Try.call29 ⟨[], _, _, Sub.split [] rfl, fun F' _ => leaf_ok F' (slotI x), ?_⟩
      rintro e A' ⟨rfl, rfl⟩
      conv => whnf
      rw [h8, show (x == x) = true from beq_self_eq_true _]
      conv => whnf
      refine CallS.mk Try.call20 ⟨[], _, _, Sub.split [] rfl, fun F' _ => level_ok F' x, ?_⟩
      rintro e A' ⟨rfl, rfl⟩
      conv => whnf
      rw [h9]
      refine RetI.one Try.results7 rfl ?_
      conv => whnf
      exact ⟨_, Sub.refl _, rfl, rfl⟩
    · obtain ⟨h7, h8, h9⟩ := h3 h6
      conv => whnf
      refine CallS.mk Try.call22 ⟨[], _, _, Sub.split [] rfl, fun F' _ => parent_ok F' (childI x y), ?_⟩
      rintro e A' ⟨rfl, rfl⟩
      conv => whnf
      rw [h7, show (x == x) = true from beq_self_eq_true _]
      conv => whnf
      refine CallS.mk Try.call25 ⟨[], _, _, Sub.split [] rfl, fun F' _ => which_ok F' (childI x y), ?_⟩
      rintro e A' ⟨rfl, rfl⟩
      conv => whnf
      rw [h8, show (y == y) = true from beq_self_eq_true _]
      conv => whnf
      refine CallS.mk Try.call27 ⟨[], _, _, Sub.split [] rfl, fun F' _ => slot_ok F' x, ?_⟩
      rintro e A' ⟨rfl, rfl⟩
      conv => whnf
      rw [h9]
      refine RetI.one Try.results7 rfl ?_
      conv => whnf
      exact ⟨_, Sub.refl _, rfl, rfl⟩
end Go.Proofs.Ytebhhfojiiohpaa
