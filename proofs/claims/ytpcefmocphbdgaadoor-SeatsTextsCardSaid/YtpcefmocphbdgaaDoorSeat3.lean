/- The slots collected; the free ones taken. -/
import Derived.Test.YtpcefmocphbdgaaDoorSeat2
import Derived.TacticsIn
namespace Go.Proofs.YtpcefmocphbdgaaDoor
set_option linter.unusedVariables false
set_option linter.unusedSimpArgs false
set_option maxRecDepth 100000
open SL Go.RowKit Go.Maps Go.Lib

theorem collect_ok (F : Mem) (ht : TabA F) (b s : Nat) (hs : s < 18446744073709551616) :
    FT Tryd.prog 35 [.func (.func 43) #[] #[.pointer (some ⟨b, 0, none⟩)]].toArray F [.cells b [.int .u64 (s : Int)] 22 (0, 0)]
      (fun e H => ∃ g, (g = none ↔ slots s = []) ∧ e = .returned (svOf g (slots s).length) ∧ H = [ownL g (slots s)]) := by
  refine FT.of_body Tryd.func35 rfl Tryd.ntmps35 (by simp) fun C hC => ?_
  subst hC
  conv => whnf
  refine CallS.mk Tryd.call44 ⟨[_], _, _, Sub.split [0] rfl, fun F' hF' => appendSeq_ok F' (ht.ext hF') b s hs, ?_⟩
  rintro e A' ⟨g, hg, rfl, rfl⟩
  conv => whnf
  repeat (first | (refine LoadV.s rfl rfl (forceV_of ?_); conv => whnf) | (refine LoadV.s rfl rfl ?_; conv => whnf) | (refine StoreV.c rfl rfl (Nat.le_of_ble_eq_true rfl) rfl ?_; conv => whnf) | (refine LoadV.a _ rfl (Nat.le_of_ble_eq_true rfl) ?_; conv => whnf) | (refine DrawI.quiet (by kernel_rfl) (by kernel_rfl) ?_; conv => whnf) | (refine ArI.in64 (by omega) ?_; conv => whnf) | (refine ArI.inU8 (by omega) ?_; conv => whnf) | (refine ArI.inU64 (by omega) ?_; conv => whnf) | (refine ArI.inU32 (by omega) ?_; conv => whnf) | (refine RetI.one Tryd.results35 rfl ?_; conv => whnf) | (refine RetI.two Tryd.results35 rfl rfl ?_; conv => whnf) | (refine RetI.three Tryd.results35 rfl rfl rfl ?_; conv => whnf) | (refine RetI.none Tryd.results35 ?_; conv => whnf) | (refine ⟨by first | decide | omega, ?_⟩; conv => whnf))
  exact ⟨_, Sub.refl _, g, hg, rfl, rfl⟩
theorem list_ok (F : Mem) (ht : TabA F) (s : Nat) (hs : s < 18446744073709551616) :
    FT Tryd.prog 20 [.int .u64 (s : Int)].toArray F [] (fun e H => ∃ g, (g = none ↔ slots s = []) ∧ e = .returned (svOf g (slots s).length) ∧ H = [ownL g (slots s)]) := by
  refine FT.of_body Tryd.func20 rfl Tryd.ntmps20 (by simp) fun C hC => ?_
  subst hC
  conv => whnf
  refine CallS.mk Tryd.call34 ⟨[], _, _, Sub.refl _, fun F' hF' => each_ok F' s, ?_⟩
  rintro e A' ⟨b, rfl, rfl⟩
  conv => whnf
  refine CallS.mk Tryd.call35 ⟨[_], _, _, Sub.split [0] rfl, fun F' hF' => collect_ok F' (ht.ext hF') b s hs, ?_⟩
  rintro e A' ⟨g, hg, rfl, rfl⟩
  conv => whnf
  repeat (first | (refine LoadV.s rfl rfl (forceV_of ?_); conv => whnf) | (refine LoadV.s rfl rfl ?_; conv => whnf) | (refine StoreV.c rfl rfl (Nat.le_of_ble_eq_true rfl) rfl ?_; conv => whnf) | (refine LoadV.a _ rfl (Nat.le_of_ble_eq_true rfl) ?_; conv => whnf) | (refine DrawI.quiet (by kernel_rfl) (by kernel_rfl) ?_; conv => whnf) | (refine ArI.in64 (by omega) ?_; conv => whnf) | (refine ArI.inU8 (by omega) ?_; conv => whnf) | (refine ArI.inU64 (by omega) ?_; conv => whnf) | (refine ArI.inU32 (by omega) ?_; conv => whnf) | (refine RetI.one Tryd.results20 rfl ?_; conv => whnf) | (refine RetI.two Tryd.results20 rfl rfl ?_; conv => whnf) | (refine RetI.three Tryd.results20 rfl rfl rfl ?_; conv => whnf) | (refine RetI.none Tryd.results20 ?_; conv => whnf) | (refine ⟨by first | decide | omega, ?_⟩; conv => whnf))
  exact ⟨_, Sub.refl _, g, hg, rfl, rfl⟩
theorem bit_same (n : Nat) (h : n < 64) (w : World) : Calls Tryd.prog 32 #[.int .i64 (n : Int)] w fun e w' => e = .returned (.int .u64 ((2 ^ n : Nat) : Int)) ∧ w' = w := by
  have hf1 : decide ((n : Int) < 0) = false := decide_eq_false (by omega)
  have hf2 : decide ((n : Int) ≥ 64) = false := decide_eq_false (by omega)
  have e : IntKind.u64.wrap ((2 : Int) ^ n) = ((2 ^ n : Nat) : Int) := by
    have := pow_lt h
    rw [show ((2 : Int) ^ n) = ((2 ^ n : Nat) : Int) by rw [Int.natCast_pow]; rfl, wrap_u64_nat, Nat.mod_eq_of_lt this]
  go_enter Tryd.func32, Tryd.ntmps32
  go_wp2
  go_ret
  exact ⟨by rw [Int.natCast_pow]; rfl, rfl⟩
/-- What a taking answers: the slots, the set with them, the error. -/
def takeL (s : Nat) (n : Int) : List Nat := if n < 0 ∨ n > 64 - (slots s).length then [] else (slots (cmp s)).take n.toNat
def takeS (s : Nat) (n : Int) : Nat := if n < 0 ∨ n > 64 - (slots s).length then 0 else putL s ((slots (cmp s)).take n.toNat)
def takeE (s : Nat) (n : Int) : Int := if n < 0 then 1 else if n > 64 - (slots s).length then 18 else 0
def TakeR (s : Nat) (n : Int) (e : Ending) (H : Heap) : Prop := ∃ g, (g = none ↔ takeL s n = []) ∧ e = .returned (.tuple #[svOf g (takeL s n).length, .int .u64 (takeS s n : Int), .int .i64 (takeE s n)]) ∧ H = [ownL g (takeL s n)]
theorem putL_take_lt {s : Nat} (hs : s < 18446744073709551616) (L r : List Nat) (h : L ++ r = slots (cmp s)) : putL s L < 18446744073709551616 :=
  putL_lt hs fun i hi => (mem_slots.1 (show i ∈ slots (cmp s) by rw [← h]; simp [hi])).1
theorem take_ok (F : Mem) (ht : TabA F) (s : Nat) (hs : s < 18446744073709551616) (n : Int) (hn : n ≤ 9223372036854775807) : FT Tryd.prog 14 [.int .u64 (s : Int), .int .i64 n].toArray F [] (TakeR s n) := by
  refine FT.of_bodyD Tryd.func14 rfl Tryd.ntmps14 (by simp) fun C hC hds => ?_
  subst hC
  conv => whnf
  intro bs
  conv => whnf
  intro bn
  conv => whnf
  refine LoadV.s rfl rfl ?_
  conv => whnf
  refine cond_dec (fun h => ?_) (fun h => ?_)
  · have e1 : takeL s n = [] := if_pos (.inl h)
    have e2 : takeS s n = 0 := if_pos (.inl h)
    have e3 : takeE s n = 1 := if_pos h
    conv => whnf
    rw [hds]
    conv => whnf
    refine RetI.three Tryd.results14 rfl rfl rfl ?_
    conv => whnf
    exact ⟨_, (Sub.nil 3 1).trans (Sub.sel [0] rfl), none, by simp [e1], by rw [e1, e2, e3]; rfl, by rw [e1]; rfl⟩
  · conv => whnf
    refine DrawI.quiet (by kernel_rfl) (by kernel_rfl) ?_
    conv => whnf
    refine LoadV.s rfl rfl ?_
    conv => whnf
    refine LoadV.s rfl rfl ?_
    conv => whnf
    refine CallQ.pure Tryd.call13 (fun F' hF' => (count_ok F' s hs).mono fun e H h => h.1) ?_
    have hle := slots_length_le s
    conv => whnf
    refine ArI.in64 (by omega) ?_
    conv => whnf
    refine cond_dec (fun h2 => ?_) (fun h2 => ?_)
    · have e1 : takeL s n = [] := if_pos (.inr h2)
      have e2 : takeS s n = 0 := if_pos (.inr h2)
      have e3 : takeE s n = 18 := by unfold takeE; rw [if_neg h, if_pos h2]
      conv => whnf
      rw [hds]
      conv => whnf
      refine RetI.three Tryd.results14 rfl rfl rfl ?_
      conv => whnf
      exact ⟨_, (Sub.nil 3 1).trans (Sub.sel [0] rfl), none, by simp [e1], by rw [e1, e2, e3]; rfl, by rw [e1]; rfl⟩
    · have hno : ¬ (n < 0 ∨ n > 64 - (slots s).length) := by omega
      have e1 : takeL s n = (slots (cmp s)).take n.toNat := if_neg hno
      have e2 : takeS s n = putL s ((slots (cmp s)).take n.toNat) := if_neg hno
      have e3 : takeE s n = 0 := by unfold takeE; rw [if_neg h, if_neg h2]
      have hcc := count_cmp hs
      unfold TakeR
      rw [e1, e2, e3]
      obtain ⟨m, rfl⟩ := Int.eq_ofNat_of_zero_le (show 0 ≤ n by omega)
      rw [Int.toNat_natCast]
      conv => whnf
      intro bo
      conv => whnf
      refine LoadV.s rfl rfl ?_
      conv => whnf
      rw [not_u64 s hs]
      refine CallS.mk Tryd.call34 ⟨[], _, _, Sub.refl _, fun F' hF' => each_ok F' (cmp s), ?_⟩
      rintro e A' ⟨b, rfl, rfl⟩
      conv => whnf
      refine RangeD.mk 43 [.pointer (some ⟨b, 0, none⟩)] rfl Tryd.call43 fun fn D l => ?_
      refine ⟨[_, _, _, _, _, _, _], [], _, (Sub.nil 3 1).trans (Sub.split [3, 1, 2, 4, 5, 6, 0] rfl), fun F' hF' => each1_ok (σ := List Nat × Option (Nat × Nat)) F' (ht.ext hF') l b (mkLoop fn _ _ #[21] _ _ D)
        (fun y => [.obj D (.deferred (some [])), .cells bo [svOf y.2 y.1.length] 30 (0, 0), .cells bn [.int .i64 (m : Int)] 3 (0, 0), .cells bs [.int .u64 (putL s y.1 : Int)] 22 (0, 0), ownL y.2 y.1])
        (fun y r => (y.2 = none ↔ y.1 = []) ∧ y.1 ++ r = slots (cmp s) ∧ y.1.length ≤ m) (fun y p => (p = none ∨ p = some (.exit 1)) ∧ (y.2 = none ↔ y.1 = []) ∧ y.1 = (slots (cmp s)).take m) ?_
        (fun y h => ⟨.inl rfl, h.1, by have h2 := h.2; rw [List.append_nil] at h2; rw [← h2.1, List.take_of_length_le h2.2]⟩) ([], none) (cmp s) ⟨by simp, rfl, by simp⟩ (cmp_lt s), ?_⟩
      · intro C2 X y i r K hinv hi hcont hstop
        obtain ⟨L, g⟩ := y
        dsimp only at hinv ⊢
        obtain ⟨hgL, hLr, hLm⟩ := hinv
        have hlen : L.length + (r.length + 1) ≤ 64 := by
          have := slots_le (cmp s)
          rw [← hLr] at this
          simpa using this
        have hpl := putL_take_lt hs L _ hLr
        refine YieldS.one (X :: _) (Sub.of_perm (X := []) (List.Perm.swap _ _ _)) ?_
        conv => whnf
        refine ⟨rfl, ?_⟩
        conv => whnf
        refine LoadV.s rfl rfl ?_
        conv => whnf
        refine LoadV.s rfl rfl ?_
        conv => whnf
        refine cond_split (fun he => ?_) (fun he => ?_)
        · have he : L.length = m := by have := eq_of_beq he; omega
          conv => whnf
          exact ⟨_, Sub.refl _, hstop (L, g) (.exit 1) ⟨.inr rfl, hgL, by rw [← hLr, ← he]; simp⟩⟩
        · have he : L.length ≠ m := fun e => by rw [e] at he; simp at he
          conv => whnf
          refine LoadV.s rfl rfl ?_
          conv => whnf
          intro bl
          conv => whnf
          refine BuiltV.append (sv := svOf g L.length) (m := 1) Tryd.underlying30 rfl rfl rfl rfl (by decide) (Row.cells 1) rfl (by decide) rfl (by show (L.length + 1) * 8 ≤ _; omega) (by omega) fun gb gc => ?_
          conv => whnf
          refine StoreV.c rfl rfl (Nat.le_of_ble_eq_true rfl) rfl ?_
          conv => whnf
          refine DrawI.tail 4 (by kernel_rfl) (by kernel_rfl) ?_
          conv => whnf
          refine LoadV.s rfl rfl ?_
          conv => whnf
          refine CallQ.same Tryd.call32 (fun w => bit_same i hi w) ?_
          conv => whnf
          rw [u64_or_nat _ _ hpl (pow_lt hi)]
          refine StoreV.c rfl rfl (Nat.le_of_ble_eq_true rfl) rfl ?_
          conv => whnf
          have h2 := hcont (L ++ [i], some (gb, gc)) ⟨by simp, by rw [List.append_assoc]; exact hLr, by simp; omega⟩
          dsimp only [ownL] at h2
          rw [show (L ++ [i]).length = L.length + 1 by simp, show natsV (L ++ [i]) = natsV L ++ [.int .i64 (i : Int)] by simp, show putL s (L ++ [i]) = putL s L ||| 2 ^ i by rw [putL_append]; rfl] at h2
          exact ⟨_, Sub.sel [1, 2, 3, 4, 5, 6, 7] rfl, h2⟩
      · rintro e A' ⟨rfl, y, p, x, q, ⟨hp, hg, hy⟩, hq, rfl⟩
        obtain ⟨L, g⟩ := y
        dsimp only at hg hy ⊢
        subst hy
        conv => whnf
        rcases hp with rfl | rfl
        · refine ⟨q, none, _, Sub.sel [1, 0, 2, 3, 4, 5, 6] rfl, hq, ?_⟩
          conv => whnf
          refine DrawI.quiet (by kernel_rfl) (by kernel_rfl) ?_
          conv => whnf
          refine LoadV.s rfl rfl ?_
          conv => whnf
          refine LoadV.s rfl rfl ?_
          conv => whnf
          refine ⟨D, _, rfl, Sub.sel [1, 5] rfl, ?_⟩
          rw [hds]
          conv => whnf
          refine RetI.three Tryd.results14 rfl rfl rfl ?_
          conv => whnf
          exact ⟨_, Sub.refl _, g, hg, rfl, rfl⟩
        · refine ⟨q, some (.exit 1), _, Sub.sel [1, 0, 2, 3, 4, 5, 6] rfl, hq, ?_⟩
          conv => whnf
          refine DrawI.quiet (by kernel_rfl) (by kernel_rfl) ?_
          conv => whnf
          refine LoadV.s rfl rfl ?_
          conv => whnf
          refine LoadV.s rfl rfl ?_
          conv => whnf
          refine ⟨D, _, rfl, Sub.sel [1, 5] rfl, ?_⟩
          rw [hds]
          conv => whnf
          refine RetI.three Tryd.results14 rfl rfl rfl ?_
          conv => whnf
          exact ⟨_, Sub.refl _, g, hg, rfl, rfl⟩
end Go.Proofs.YtpcefmocphbdgaaDoor
