/- The contracts of the plain functions of the tree's shape. -/
import Derived.Test.YtebhhfojiiohpaaSl
import Derived.Test.YtebhhfojiiohpaaProg
namespace Go.Proofs.Ytebhhfojiiohpaa
open SL Go.RowKit

abbrev Ret (v : Value) : Ending → Heap → Prop := fun e H => e = .returned v ∧ H = []
theorem ret_int {k : IntKind} {a b : Int} (h : a = b) : Ending.returned (.int k a) = .returned (.int k b) := by rw [h]
theorem ret_bool {a b : Bool} (h : a = b) : Ending.returned (.bool a) = .returned (.bool b) := by rw [h]
/-- A fact on whole numbers in a range, asked one by one. -/
theorem each (n : Nat) (p : Int → Prop) (h : ∀ i : Fin n, p (i.val : Int)) (v : Int) (h0 : 0 ≤ v) (h1 : v < n) : p v := by
  obtain ⟨k, rfl⟩ := Int.eq_ofNat_of_zero_le h0
  exact h ⟨k, by omega⟩

/-! ### What they compute -/
def firstI (l : Int) : Int := if l = 0 then 0 else if l = 1 then 1 else if l = 2 then 5 else 21
def levelI (v : Int) : Int := if v < 0 then -1 else if v ≥ 85 then -1 else if v ≥ 21 then 3 else if v ≥ 5 then 2 else if v ≥ 1 then 1 else 0
def parentI (v : Int) : Int := if v < 1 then -1 else if v ≥ 85 then -1 else (v - 1) / 4
def childI (v i : Int) : Int := if v < 0 then -1 else if v ≥ 21 then -1 else if i < 0 then -1 else if i ≥ 4 then -1 else 4 * v + 1 + i
def whichI (v : Int) : Int := if v < 1 then -1 else if v ≥ 85 then -1 else (v - 1) % 4
def leafI (s : Int) : Int := if s < 0 then -1 else if s ≥ 64 then -1 else 21 + s
def slotI (v : Int) : Int := if v < 21 then -1 else if v ≥ 85 then -1 else v - 21

theorem first_ok (F : Mem) (l : Int) (h0 : 0 ≤ l) (h1 : l ≤ 3) : FT Try.prog 40 [.int .i64 l].toArray F [] (Ret (.int .i64 (firstI l))) := by
  refine FT.of_body Try.func40 rfl Try.ntmps40 (by simp) fun C hC => ?_
  have : l = 0 ∨ l = 1 ∨ l = 2 ∨ l = 3 := by omega
  rcases this with rfl | rfl | rfl | rfl
  all_goals
    conv => whnf
    refine ⟨by decide, ?_⟩
    conv => whnf
    refine ⟨by decide, ?_⟩
    conv => whnf
    refine RetI.one Try.results40 rfl ?_
    conv => whnf
    exact ⟨_, Sub.refl _, rfl, rfl⟩
theorem parent_ok (F : Mem) (v : Int) : FT Try.prog 22 [.int .i64 v].toArray F [] (Ret (.int .i64 (parentI v))) := by
  refine FT.of_body Try.func22 rfl Try.ntmps22 (by simp) fun C hC => ?_
  conv => whnf
  repeat' (first | (refine cond_dec (fun h => ?_) (fun h => ?_)) | (refine ⟨by omega, ?_⟩) | (conv => whnf); (first | (refine RetI.one Try.results22 rfl ?_) | (refine ⟨by omega, ?_⟩) | (refine cond_dec (fun h => ?_) (fun h => ?_))))
  all_goals (conv => whnf)
  all_goals refine ⟨_, Sub.refl _, ret_int ?_, rfl⟩
  · simp [parentI, h]
  · rename_i h1; simp only [parentI, if_neg h1, if_pos h]
  · rename_i h1; exact (each 85 (fun v => v < 1 ∨ (IntKind.i64.wrap (v - 1)).fdiv 4 = parentI v) (by decide) v (by omega) (by omega)).resolve_left h1
theorem child_ok (F : Mem) (v i : Int) : FT Try.prog 19 [.int .i64 v, .int .i64 i].toArray F [] (Ret (.int .i64 (childI v i))) := by
  refine FT.of_body Try.func19 rfl Try.ntmps19 (by simp) fun C hC => ?_
  conv => whnf
  repeat' (first | (refine cond_dec (fun h => ?_) (fun h => ?_)) | (refine ⟨by omega, ?_⟩) | (conv => whnf); (first | (refine RetI.one Try.results19 rfl ?_) | (refine ⟨by omega, ?_⟩) | (refine cond_dec (fun h => ?_) (fun h => ?_))))
  all_goals (conv => whnf)
  all_goals refine ⟨_, Sub.refl _, ret_int ?_, rfl⟩
  · simp only [childI, if_pos h]
  · rename_i h1; simp only [childI, if_neg h1, if_pos h]
  · rename_i h2 h1; simp only [childI, if_neg h1, if_neg h2, if_pos h]
  · rename_i h3 h2 h1; simp only [childI, if_neg h1, if_neg h2, if_neg h3, if_pos h]
  · rename_i h3 h2 h1
    have key := each 21 (fun v => ∀ i : Fin 4, IntKind.i64.wrap (IntKind.i64.wrap (IntKind.i64.wrap (v * 4) + 1) + (i.val : Int)) = childI v i) (by decide) v (by omega) (by omega)
    obtain ⟨k, rfl⟩ := Int.eq_ofNat_of_zero_le (show 0 ≤ i by omega)
    exact key ⟨k, by omega⟩
theorem which_ok (F : Mem) (v : Int) : FT Try.prog 25 [.int .i64 v].toArray F [] (Ret (.int .i64 (whichI v))) := by
  refine FT.of_body Try.func25 rfl Try.ntmps25 (by simp) fun C hC => ?_
  conv => whnf
  repeat' (first | (refine cond_dec (fun h => ?_) (fun h => ?_)) | (refine ⟨by omega, ?_⟩) | (conv => whnf); (first | (refine RetI.one Try.results25 rfl ?_) | (refine ⟨by omega, ?_⟩) | (refine cond_dec (fun h => ?_) (fun h => ?_))))
  all_goals (conv => whnf)
  all_goals refine ⟨_, Sub.refl _, ret_int ?_, rfl⟩
  · simp [whichI, h]
  · rename_i h1; simp only [whichI, if_neg h1, if_pos h]
  · rename_i h1; exact (each 85 (fun v => v < 1 ∨ IntKind.i64.wrap ((BitVec.ofInt 64 (IntKind.i64.wrap (v - 1)) &&& BitVec.ofInt 64 3).toNat) = whichI v) (by decide) v (by omega) (by omega)).resolve_left h1
theorem leaf_ok (F : Mem) (v : Int) : FT Try.prog 29 [.int .i64 v].toArray F [] (Ret (.int .i64 (leafI v))) := by
  refine FT.of_body Try.func29 rfl Try.ntmps29 (by simp) fun C hC => ?_
  conv => whnf
  repeat' (first | (refine cond_dec (fun h => ?_) (fun h => ?_)) | (refine ⟨by omega, ?_⟩) | (conv => whnf); (first | (refine RetI.one Try.results29 rfl ?_) | (refine ⟨by omega, ?_⟩) | (refine cond_dec (fun h => ?_) (fun h => ?_))))
  all_goals (conv => whnf)
  all_goals refine ⟨_, Sub.refl _, ret_int ?_, rfl⟩
  · simp [leafI, h]
  · rename_i h1; simp only [leafI, if_neg h1, if_pos h]
  · exact each 64 (fun v => IntKind.i64.wrap (21 + v) = leafI v) (by decide) v (by omega) (by omega)
theorem slot_ok (F : Mem) (v : Int) : FT Try.prog 27 [.int .i64 v].toArray F [] (Ret (.int .i64 (slotI v))) := by
  refine FT.of_body Try.func27 rfl Try.ntmps27 (by simp) fun C hC => ?_
  conv => whnf
  repeat' (first | (refine cond_dec (fun h => ?_) (fun h => ?_)) | (refine ⟨by omega, ?_⟩) | (conv => whnf); (first | (refine RetI.one Try.results27 rfl ?_) | (refine ⟨by omega, ?_⟩) | (refine cond_dec (fun h => ?_) (fun h => ?_))))
  all_goals (conv => whnf)
  all_goals refine ⟨_, Sub.refl _, ret_int ?_, rfl⟩
  · simp [slotI, h]
  · rename_i h1; simp only [slotI, if_neg h1, if_pos h]
  · rename_i h1; exact (each 85 (fun v => v < 21 ∨ IntKind.i64.wrap (v - 21) = slotI v) (by decide) v (by omega) (by omega)).resolve_left h1
theorem rchild_ok (F : Mem) (v i : Int) : FT Try.prog 24 [.int .i64 v, .int .i64 i].toArray F [] (Ret (.int .i64 (childI v i))) := by
  refine FT.of_body Try.func24 rfl Try.ntmps24 (by simp) fun C hC => ?_
  conv => whnf
  repeat' (first | (refine cond_dec (fun h => ?_) (fun h => ?_)) | (refine ⟨by omega, ?_⟩) | (conv => whnf); (first | (refine RetI.one Try.results24 rfl ?_) | (refine ⟨by omega, ?_⟩) | (refine cond_dec (fun h => ?_) (fun h => ?_))))
  all_goals (conv => whnf)
  all_goals refine ⟨_, Sub.refl _, ret_int ?_, rfl⟩
  · simp only [childI, if_pos h]
  · rename_i h1; simp only [childI, if_neg h1, if_pos h]
  · rename_i h2 h1; simp only [childI, if_neg h1, if_neg h2, if_pos h]
  · rename_i h3 h2 h1; simp only [childI, if_neg h1, if_neg h2, if_neg h3, if_pos h]
  · rename_i h3 h2 h1
    have key := each 21 (fun v => ∀ i : Fin 4, IntKind.i64.wrap (IntKind.i64.wrap (IntKind.i64.wrap (4 * v) + 1) + (i.val : Int)) = childI v i) (by decide) v (by omega) (by omega)
    obtain ⟨k, rfl⟩ := Int.eq_ofNat_of_zero_le (show 0 ≤ i by omega)
    exact key ⟨k, by omega⟩
theorem rleaf_ok (F : Mem) (v : Int) : FT Try.prog 30 [.int .i64 v].toArray F [] (Ret (.int .i64 (leafI v))) := by
  refine FT.of_body Try.func30 rfl Try.ntmps30 (by simp) fun C hC => ?_
  conv => whnf
  repeat' (first | (refine cond_dec (fun h => ?_) (fun h => ?_)) | (refine ⟨by omega, ?_⟩) | (conv => whnf); (first | (refine RetI.one Try.results30 rfl ?_) | (refine ⟨by omega, ?_⟩) | (refine cond_dec (fun h => ?_) (fun h => ?_))))
  all_goals (conv => whnf)
  all_goals refine ⟨_, Sub.refl _, ret_int ?_, rfl⟩
  · simp [leafI, h]
  · rename_i h1; simp only [leafI, if_neg h1, if_pos h]
  · exact each 64 (fun v => IntKind.i64.wrap (21 + v) = leafI v) (by decide) v (by omega) (by omega)
theorem rslot_ok (F : Mem) (v : Int) : FT Try.prog 28 [.int .i64 v].toArray F [] (Ret (.int .i64 (slotI v))) := by
  refine FT.of_body Try.func28 rfl Try.ntmps28 (by simp) fun C hC => ?_
  conv => whnf
  repeat' (first | (refine cond_dec (fun h => ?_) (fun h => ?_)) | (refine ⟨by omega, ?_⟩) | (conv => whnf); (first | (refine RetI.one Try.results28 rfl ?_) | (refine ⟨by omega, ?_⟩) | (refine cond_dec (fun h => ?_) (fun h => ?_))))
  all_goals (conv => whnf)
  all_goals refine ⟨_, Sub.refl _, ret_int ?_, rfl⟩
  · simp [slotI, h]
  · rename_i h1; simp only [slotI, if_neg h1, if_pos h]
  · rename_i h1; exact (each 85 (fun v => v < 21 ∨ IntKind.i64.wrap (v - 21) = slotI v) (by decide) v (by omega) (by omega)).resolve_left h1
def nodeB (v : Int) : Bool := decide (0 ≤ v ∧ v < 85)
theorem rnode_ok (F : Mem) (v : Int) : FT Try.prog 39 [.int .i64 v].toArray F [] (Ret (.bool (nodeB v))) := by
  refine FT.of_body Try.func39 rfl Try.ntmps39 (by simp) fun C hC => ?_
  conv => whnf
  repeat' (first | (refine cond_dec (fun h => ?_) (fun h => ?_)) | (refine ⟨by omega, ?_⟩) | (conv => whnf); (first | (refine RetI.one Try.results39 rfl ?_) | (refine ⟨by omega, ?_⟩) | (refine cond_dec (fun h => ?_) (fun h => ?_))))
  all_goals (conv => whnf)
  all_goals refine ⟨_, Sub.refl _, ret_bool ?_, rfl⟩
  all_goals (simp [nodeB]; omega)

theorem level_ok (F : Mem) (v : Int) : FT Try.prog 20 [.int .i64 v].toArray F [] (Ret (.int .i64 (levelI v))) := by
  refine FT.of_body Try.func20 rfl Try.ntmps20 (by simp) fun C hC => ?_
  conv => whnf
  repeat' (first | (refine cond_dec (fun h => ?_) (fun h => ?_)) | (refine ⟨by omega, ?_⟩) | (conv => whnf); (first | (refine RetI.one Try.results20 rfl ?_) | (refine ⟨by omega, ?_⟩) | (refine cond_dec (fun h => ?_) (fun h => ?_))))
  · conv => whnf
    exact ⟨_, Sub.refl _, ret_int (by simp [levelI, h]), rfl⟩
  · conv => whnf
    rename_i h1
    exact ⟨_, Sub.refl _, ret_int (by simp only [levelI, if_neg h1, if_pos h]), rfl⟩
  · rename_i h1
    refine LoopI.by_state (σ := Nat) (fun s => [(0, .int .i64 v), (3, .int .i64 (s : Int))]) (fun _ => []) (fun s => s ≤ 3 ∧ (s < 3 → v < 21) ∧ (s < 2 → v < 5) ∧ (s < 1 → v < 1)) (fun s => s) 3 (by omega) ⟨rfl, rfl, trivial⟩ (Sub.refl _) ?_
    rintro s f0 ⟨hs, i1, i2, i3⟩
    conv => whnf
    refine CallS.mk Try.call40 ⟨[], _, _, Sub.split [] rfl, fun F' _ => first_ok F' s (by omega) (by omega), ?_⟩
    rintro e A' ⟨rfl, rfl⟩
    conv => whnf
    refine cond_dec (fun h2 => ?_) (fun h2 => ?_)
    · conv => whnf
      refine RetI.one Try.results20 rfl ?_
      conv => whnf
      refine ⟨_, Sub.refl _, ret_int ?_, rfl⟩
      have : s = 0 ∨ s = 1 ∨ s = 2 ∨ s = 3 := by omega
      rcases this with rfl | rfl | rfl | rfl <;> simp [firstI] at h2 <;> simp [levelI] <;> omega
    · conv => whnf
      have : s = 0 ∨ s = 1 ∨ s = 2 ∨ s = 3 := by omega
      rcases this with rfl | rfl | rfl | rfl
      · simp [firstI] at h2; omega
      · exact ⟨0, [], by omega, Sub.refl _, by simp [firstI] at h2; omega, ⟨rfl, rfl, trivial⟩, rfl⟩
      · exact ⟨1, [], by omega, Sub.refl _, by simp [firstI] at h2; omega, ⟨rfl, rfl, trivial⟩, rfl⟩
      · exact ⟨2, [], by omega, Sub.refl _, by simp [firstI] at h2; omega, ⟨rfl, rfl, trivial⟩, rfl⟩
end Go.Proofs.Ytebhhfojiiohpaa
