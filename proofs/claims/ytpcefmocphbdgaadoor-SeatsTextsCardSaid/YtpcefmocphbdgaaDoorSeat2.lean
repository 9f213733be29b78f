/- The iterator: its function runs the body at each slot, rising. -/
import Derived.Test.YtpcefmocphbdgaaDoorSeat1
namespace Go.Proofs.YtpcefmocphbdgaaDoor
set_option linter.unusedVariables false
set_option linter.unusedSimpArgs false
set_option maxRecDepth 100000
open SL Go.RowKit Go.Maps Go.Lib

/-- A body's round, by states: inv, with the slots that are to come; post, where it was left. -/
def Body (P : Program) {σ : Type} (l : Nat) (rec : LoopState → Option Code → Loop) (Hb : σ → Heap) (inv : σ → List Nat → Prop) (post : σ → Option Code → Prop) : Prop :=
  ∀ (C : Ctx) (X : HObj) (s : σ) (i : Nat) (r : List Nat) (K : Ending → Heap → Prop), inv s (i :: r) → i < 64 → (∀ s', inv s' r → forceH (.obj l (.loop (rec .ready none)) :: X :: Hb s') (K (.returned (.bool true)))) →
    (∀ s' p, post s' (some p) → forceH (.obj l (.loop (rec .done (some p))) :: X :: Hb s') (K (.returned (.bool false)))) → YieldS C P l [.int .i64 (i : Int)] (X :: .obj l (.loop (rec .ready none)) :: Hb s) K
theorem each1_ok {σ : Type} (F : Mem) (ht : TabA F) (l b : Nat) (rec : LoopState → Option Code → Loop) (Hb : σ → Heap) (inv : σ → List Nat → Prop) (post : σ → Option Code → Prop) (hB : Body Tryd.prog l rec Hb inv post) (hp : ∀ s, inv s [] → post s none)
    (s0 : σ) (x0 : Nat) (h0 : inv s0 (slots x0)) (hx0 : x0 < 18446744073709551616) :
    FT Tryd.prog 43 [.func (.yield l) #[] #[], .pointer (some ⟨b, 0, none⟩)].toArray F (.cells b [.int .u64 (x0 : Int)] 22 (0, 0) :: .obj l (.loop (rec .ready none)) :: Hb s0)
      (fun e H => e = .returned (.tuple #[]) ∧ ∃ s' p x q, post s' p ∧ q ≠ .busy ∧ H = .cells b [.int .u64 (x : Int)] 22 (0, 0) :: .obj l (.loop (rec q p)) :: Hb s') := by
  refine FT.of_body Tryd.func43 rfl Tryd.ntmps43 (by simp) fun C hC => ?_
  subst hC
  conv => whnf
  refine LoopI.by_state (σ := Nat × σ) (fun _ => [(0, .func (.yield l) #[] #[]), (1, .pointer (some ⟨b, 0, none⟩))]) (fun y => .cells b [.int .u64 (y.1 : Int)] 22 (0, 0) :: .obj l (.loop (rec .ready none)) :: Hb y.2)
    (fun y => y.1 < 18446744073709551616 ∧ inv y.2 (slots y.1)) (fun y => y.1) (x0, s0) ⟨hx0, h0⟩ ⟨rfl, rfl, trivial⟩ (Sub.refl _) ?_
  rintro ⟨x, s⟩ f0 ⟨hx, hi⟩
  dsimp only at hx hi ⊢
  conv => whnf
  repeat (first | (refine LoadV.s rfl rfl (forceV_of ?_); conv => whnf) | (refine LoadV.s rfl rfl ?_; conv => whnf) | (refine StoreV.c rfl rfl (Nat.le_of_ble_eq_true rfl) rfl ?_; conv => whnf) | (refine LoadV.a _ rfl (Nat.le_of_ble_eq_true rfl) ?_; conv => whnf) | (refine DrawI.quiet (by kernel_rfl) (by kernel_rfl) ?_; conv => whnf) | (refine ArI.in64 (by omega) ?_; conv => whnf) | (refine ArI.inU8 (by omega) ?_; conv => whnf) | (refine ArI.inU64 (by omega) ?_; conv => whnf) | (refine ArI.inU32 (by omega) ?_; conv => whnf) | (refine RetI.one Tryd.results43 rfl ?_; conv => whnf) | (refine RetI.two Tryd.results43 rfl rfl ?_; conv => whnf) | (refine RetI.three Tryd.results43 rfl rfl rfl ?_; conv => whnf) | (refine RetI.none Tryd.results43 ?_; conv => whnf) | (refine ⟨by first | decide | omega, ?_⟩; conv => whnf))
  by_cases hx1 : x = 0
  · subst hx1
    conv => whnf
    repeat (first | (refine LoadV.s rfl rfl (forceV_of ?_); conv => whnf) | (refine LoadV.s rfl rfl ?_; conv => whnf) | (refine StoreV.c rfl rfl (Nat.le_of_ble_eq_true rfl) rfl ?_; conv => whnf) | (refine LoadV.a _ rfl (Nat.le_of_ble_eq_true rfl) ?_; conv => whnf) | (refine DrawI.quiet (by kernel_rfl) (by kernel_rfl) ?_; conv => whnf) | (refine ArI.in64 (by omega) ?_; conv => whnf) | (refine ArI.inU8 (by omega) ?_; conv => whnf) | (refine ArI.inU64 (by omega) ?_; conv => whnf) | (refine ArI.inU32 (by omega) ?_; conv => whnf) | (refine RetI.one Tryd.results43 rfl ?_; conv => whnf) | (refine RetI.two Tryd.results43 rfl rfl ?_; conv => whnf) | (refine RetI.three Tryd.results43 rfl rfl rfl ?_; conv => whnf) | (refine RetI.none Tryd.results43 ?_; conv => whnf) | (refine ⟨by first | decide | omega, ?_⟩; conv => whnf))
    refine ⟨_, Sub.refl _, rfl, s, none, 0, _, hp s (by rwa [slots_zero] at hi), ?_, rfl⟩
    decide
  · rw [show ((x : Int) != 0) = true by simp; omega]
    conv => whnf
    repeat (first | (refine LoadV.s rfl rfl (forceV_of ?_); conv => whnf) | (refine LoadV.s rfl rfl ?_; conv => whnf) | (refine StoreV.c rfl rfl (Nat.le_of_ble_eq_true rfl) rfl ?_; conv => whnf) | (refine LoadV.a _ rfl (Nat.le_of_ble_eq_true rfl) ?_; conv => whnf) | (refine DrawI.quiet (by kernel_rfl) (by kernel_rfl) ?_; conv => whnf) | (refine ArI.in64 (by omega) ?_; conv => whnf) | (refine ArI.inU8 (by omega) ?_; conv => whnf) | (refine ArI.inU64 (by omega) ?_; conv => whnf) | (refine ArI.inU32 (by omega) ?_; conv => whnf) | (refine RetI.one Tryd.results43 rfl ?_; conv => whnf) | (refine RetI.two Tryd.results43 rfl rfl ?_; conv => whnf) | (refine RetI.three Tryd.results43 rfl rfl rfl ?_; conv => whnf) | (refine RetI.none Tryd.results43 ?_; conv => whnf) | (refine ⟨by first | decide | omega, ?_⟩; conv => whnf))
    have hk64 := (ctz_least hx1 hx).2
    refine CallS.mk Tryd.call37 ⟨[], _, _, Sub.refl _, fun F' hF' => ctz_ok F' (ht.ext hF') x hx, ?_⟩
    rintro e A' ⟨rfl, rfl⟩
    rw [forceH_eq]
    conv => whnf
    rw [slots_cons hx1 hx] at hi
    refine hB C _ s (ctz 64 x) _ _ hi hk64 (fun s' hi' => ?_) (fun s' p hst => ?_)
    · rw [forceH_eq]
      conv => whnf
      repeat (first | (refine LoadV.s rfl rfl (forceV_of ?_); conv => whnf) | (refine LoadV.s rfl rfl ?_; conv => whnf) | (refine StoreV.c rfl rfl (Nat.le_of_ble_eq_true rfl) rfl ?_; conv => whnf) | (refine LoadV.a _ rfl (Nat.le_of_ble_eq_true rfl) ?_; conv => whnf) | (refine DrawI.quiet (by kernel_rfl) (by kernel_rfl) ?_; conv => whnf) | (refine ArI.in64 (by omega) ?_; conv => whnf) | (refine ArI.inU8 (by omega) ?_; conv => whnf) | (refine ArI.inU64 (by omega) ?_; conv => whnf) | (refine ArI.inU32 (by omega) ?_; conv => whnf) | (refine RetI.one Tryd.results43 rfl ?_; conv => whnf) | (refine RetI.two Tryd.results43 rfl rfl ?_; conv => whnf) | (refine RetI.three Tryd.results43 rfl rfl rfl ?_; conv => whnf) | (refine RetI.none Tryd.results43 ?_; conv => whnf) | (refine ⟨by first | decide | omega, ?_⟩; conv => whnf))
      rw [show ((x : Int) - 1) = ((x - 1 : Nat) : Int) by omega, u64_and_nat x (x - 1) hx (by omega)]
      refine ⟨(x &&& (x - 1), s'), _, ?_, Sub.of_perm (X := []) (List.Perm.swap _ _ _), ⟨drop_lt hx, hi'⟩, ⟨rfl, rfl, trivial⟩, rfl⟩
      have : x &&& (x - 1) ≤ x - 1 := Nat.and_le_right
      show x &&& (x - 1) < x
      omega
    · rw [forceH_eq]
      conv => whnf
      repeat (first | (refine LoadV.s rfl rfl (forceV_of ?_); conv => whnf) | (refine LoadV.s rfl rfl ?_; conv => whnf) | (refine StoreV.c rfl rfl (Nat.le_of_ble_eq_true rfl) rfl ?_; conv => whnf) | (refine LoadV.a _ rfl (Nat.le_of_ble_eq_true rfl) ?_; conv => whnf) | (refine DrawI.quiet (by kernel_rfl) (by kernel_rfl) ?_; conv => whnf) | (refine ArI.in64 (by omega) ?_; conv => whnf) | (refine ArI.inU8 (by omega) ?_; conv => whnf) | (refine ArI.inU64 (by omega) ?_; conv => whnf) | (refine ArI.inU32 (by omega) ?_; conv => whnf) | (refine RetI.one Tryd.results43 rfl ?_; conv => whnf) | (refine RetI.two Tryd.results43 rfl rfl ?_; conv => whnf) | (refine RetI.three Tryd.results43 rfl rfl rfl ?_; conv => whnf) | (refine RetI.none Tryd.results43 ?_; conv => whnf) | (refine ⟨by first | decide | omega, ?_⟩; conv => whnf))
      refine ⟨_, Sub.of_perm (X := []) (List.Perm.swap _ _ _), rfl, s', some p, x, .done, hst, ?_, rfl⟩
      decide
theorem each_ok (F : Mem) (s : Nat) : FT Tryd.prog 34 [.int .u64 (s : Int)].toArray F [] (fun e H => ∃ b, e = .returned (.func (.func 43) #[] #[.pointer (some ⟨b, 0, none⟩)]) ∧ H = [.cells b [.int .u64 (s : Int)] 22 (0, 0)]) := by
  refine FT.of_body Tryd.func34 rfl Tryd.ntmps34 (by simp) fun C hC => ?_
  subst hC
  conv => whnf
  intro b
  conv => whnf
  repeat (first | (refine LoadV.s rfl rfl (forceV_of ?_); conv => whnf) | (refine LoadV.s rfl rfl ?_; conv => whnf) | (refine StoreV.c rfl rfl (Nat.le_of_ble_eq_true rfl) rfl ?_; conv => whnf) | (refine LoadV.a _ rfl (Nat.le_of_ble_eq_true rfl) ?_; conv => whnf) | (refine DrawI.quiet (by kernel_rfl) (by kernel_rfl) ?_; conv => whnf) | (refine ArI.in64 (by omega) ?_; conv => whnf) | (refine ArI.inU8 (by omega) ?_; conv => whnf) | (refine ArI.inU64 (by omega) ?_; conv => whnf) | (refine ArI.inU32 (by omega) ?_; conv => whnf) | (refine RetI.one Tryd.results34 rfl ?_; conv => whnf) | (refine RetI.two Tryd.results34 rfl rfl ?_; conv => whnf) | (refine RetI.three Tryd.results34 rfl rfl rfl ?_; conv => whnf) | (refine RetI.none Tryd.results34 ?_; conv => whnf) | (refine ⟨by first | decide | omega, ?_⟩; conv => whnf))
  exact ⟨_, Sub.refl _, b, by simp [ev, upd, argFr]; rfl, rfl⟩
abbrev natsV (l : List Nat) : List Value := l.map fun (x : Nat) => Value.int .i64 (x : Int)
/-- A list that owns its row. -/
abbrev ownL (g : Option (Nat × Nat)) (L : List Nat) : HObj := .own (svOf g L.length) L.length 3 1 (natsV L)
theorem own_snocN (l : List Nat) (x : Nat) (g : Option (Nat × Nat)) : HObj.own (svOf g (l.length + 1)) (l.length + 1) 3 1 (natsV l ++ [.int .i64 (x : Int)]) = ownL g (l ++ [x]) := by
  unfold ownL; simp
theorem slots_le (s : Nat) : (slots s).length ≤ 64 := slots_length_le s
theorem appendSeq_ok (F : Mem) (ht : TabA F) (b s : Nat) (hs : s < 18446744073709551616) :
    FT Tryd.prog 44 [.slice none 0 0, .func (.func 43) #[] #[.pointer (some ⟨b, 0, none⟩)]].toArray F [.cells b [.int .u64 (s : Int)] 22 (0, 0)]
      (fun e H => ∃ g, (g = none ↔ slots s = []) ∧ e = .returned (svOf g (slots s).length) ∧ H = [ownL g (slots s)]) := by
  refine FT.of_bodyD Tryd.func44 rfl Tryd.ntmps44 (by simp) fun C hC hds => ?_
  subst hC
  conv => whnf
  intro b2
  conv => whnf
  refine RangeD.mk 43 [.pointer (some ⟨b, 0, none⟩)] rfl Tryd.call43 fun fn D l => ?_
  refine ⟨[_, _, _, _, _], [], _, (Sub.nil 3 1).trans (Sub.split [4, 1, 2, 3, 0] rfl), fun F' hF' => each1_ok (σ := List Nat × Option (Nat × Nat)) F' (ht.ext hF') l b (mkLoop fn _ _ #[7] _ _ D)
    (fun y => [.obj D (.deferred (some [])), .cells b2 [svOf y.2 y.1.length] 30 (0, 0), ownL y.2 y.1]) (fun y r => (y.2 = none ↔ y.1 = []) ∧ y.1 ++ r = slots s) (fun y p => p = none ∧ (y.2 = none ↔ y.1 = []) ∧ y.1 = slots s) ?_ (fun y h => ⟨rfl, h.1, by rw [← h.2, List.append_nil]⟩)
    ([], none) s ⟨by simp, rfl⟩ hs, ?_⟩
  · intro C2 X y i r K hinv hi hcont hstop
    obtain ⟨L, g⟩ := y
    dsimp only at hinv ⊢
    have hlen : L.length + (r.length + 1) ≤ 64 := by
      have := slots_le s
      rw [← hinv.2] at this
      simpa using this
    refine YieldS.one (X :: _) (Sub.of_perm (X := []) (List.Perm.swap _ _ _)) ?_
    conv => whnf
    refine ⟨rfl, ?_⟩
    conv => whnf
    repeat (first | (refine LoadV.s rfl rfl (forceV_of ?_); conv => whnf) | (refine LoadV.s rfl rfl ?_; conv => whnf) | (refine StoreV.c rfl rfl (Nat.le_of_ble_eq_true rfl) rfl ?_; conv => whnf) | (refine LoadV.a _ rfl (Nat.le_of_ble_eq_true rfl) ?_; conv => whnf) | (refine DrawI.quiet (by kernel_rfl) (by kernel_rfl) ?_; conv => whnf) | (refine ArI.in64 (by omega) ?_; conv => whnf) | (refine ArI.inU8 (by omega) ?_; conv => whnf) | (refine ArI.inU64 (by omega) ?_; conv => whnf) | (refine ArI.inU32 (by omega) ?_; conv => whnf) | (refine RetI.one Tryd.results34 rfl ?_; conv => whnf) | (refine RetI.two Tryd.results34 rfl rfl ?_; conv => whnf) | (refine RetI.three Tryd.results34 rfl rfl rfl ?_; conv => whnf) | (refine RetI.none Tryd.results34 ?_; conv => whnf) | (refine ⟨by first | decide | omega, ?_⟩; conv => whnf))
    intro bl
    conv => whnf
    refine BuiltV.append (sv := svOf g L.length) (m := 1) Tryd.underlying30 rfl rfl rfl rfl (by decide) (Row.cells 1) rfl (by decide) rfl (by show (L.length + 1) * 8 ≤ _; omega) (by omega) fun gb gc => ?_
    conv => whnf
    repeat (first | (refine LoadV.s rfl rfl (forceV_of ?_); conv => whnf) | (refine LoadV.s rfl rfl ?_; conv => whnf) | (refine StoreV.c rfl rfl (Nat.le_of_ble_eq_true rfl) rfl ?_; conv => whnf) | (refine LoadV.a _ rfl (Nat.le_of_ble_eq_true rfl) ?_; conv => whnf) | (refine DrawI.quiet (by kernel_rfl) (by kernel_rfl) ?_; conv => whnf) | (refine ArI.in64 (by omega) ?_; conv => whnf) | (refine ArI.inU8 (by omega) ?_; conv => whnf) | (refine ArI.inU64 (by omega) ?_; conv => whnf) | (refine ArI.inU32 (by omega) ?_; conv => whnf) | (refine RetI.one Tryd.results34 rfl ?_; conv => whnf) | (refine RetI.two Tryd.results34 rfl rfl ?_; conv => whnf) | (refine RetI.three Tryd.results34 rfl rfl rfl ?_; conv => whnf) | (refine RetI.none Tryd.results34 ?_; conv => whnf) | (refine ⟨by first | decide | omega, ?_⟩; conv => whnf))
    have h2 := hcont (L ++ [i], some (gb, gc)) ⟨by simp, by rw [List.append_assoc]; exact hinv.2⟩
    dsimp only [ownL] at h2
    rw [show (L ++ [i]).length = L.length + 1 by simp, show natsV (L ++ [i]) = natsV L ++ [.int .i64 (i : Int)] by simp] at h2
    exact ⟨_, Sub.sel [1, 2, 3, 4, 5] rfl, h2⟩
  · rintro e A' ⟨rfl, y, p, x, q, ⟨rfl, hg, hy⟩, hq, rfl⟩
    obtain ⟨L, g⟩ := y
    dsimp only at hg hy ⊢
    subst hy
    conv => whnf
    refine ⟨q, none, _, Sub.sel [1, 0, 2, 3, 4] rfl, hq, ?_⟩
    conv => whnf
    refine LoadV.s rfl rfl ?_
    conv => whnf
    refine ⟨D, _, rfl, Sub.sel [1, 3] rfl, ?_⟩
    rw [hds]
    conv => whnf
    refine RetI.one Tryd.results44 rfl ?_
    conv => whnf
    exact ⟨_, Sub.refl _, g, hg, rfl, rfl⟩
end Go.Proofs.YtpcefmocphbdgaaDoor
