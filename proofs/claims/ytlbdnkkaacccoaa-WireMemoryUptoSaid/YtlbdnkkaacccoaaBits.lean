/- The bits: writer and reader. -/
import Derived.Test.YtlbdnkkaacccoaaCom
import Derived.Test.YtlbdnkkaacccoaaBitsLaw
import Derived.Test.YtlbdnkkaacccoaaBitsInt
namespace Go.Proofs.Ytlbdnkkaacccoaa
set_option linter.unusedVariables false
set_option linter.unusedSimpArgs false
set_option maxRecDepth 100000
open SL Go.RowKit Go.Maps

/-- A writer's memory. -/
abbrev wrH (w : Nat) (n : Int) (g : Option (Nat × Nat)) (o : List Nat) : Heap := [.cells w [.int .i64 n, svOf g o.length] 107 (0, 0), .own (svOf g o.length) o.length 5 1 (bytesV o)]
theorem bNew_ok (F : Mem) : FT Try.prog 36 [].toArray F [] (fun e H => ∃ w, e = .returned (.pointer (some ⟨w, 0, none⟩)) ∧ H = wrH w 0 none []) := by
  refine FT.of_body Try.func36 rfl Try.ntmps36 (by simp) fun C hC => ?_
  subst hC
  conv => whnf
  intro w
  conv => whnf
  repeat (first | (refine LoadV.s rfl rfl (forceV_of ?_); conv => whnf) | (refine LoadV.s rfl rfl ?_; conv => whnf) | (refine StoreV.c rfl rfl (Nat.le_of_ble_eq_true rfl) rfl ?_; conv => whnf) | (refine LoadV.a _ rfl (Nat.le_of_ble_eq_true rfl) ?_; conv => whnf) | (refine DrawI.quiet (by kernel_rfl) (by kernel_rfl) ?_; conv => whnf) | (refine ArI.in64 (by omega) ?_; conv => whnf) | (refine ArI.inU8 (by omega) ?_; conv => whnf) | (refine ArI.inU64 (by omega) ?_; conv => whnf) | (refine ArI.inU32 (by omega) ?_; conv => whnf) | (refine RetI.one Try.results36 rfl ?_; conv => whnf) | (refine RetI.two Try.results36 rfl rfl ?_; conv => whnf) | (refine RetI.three Try.results36 rfl rfl rfl ?_; conv => whnf) | (refine RetI.none Try.results36 ?_; conv => whnf) | (refine ⟨by first | decide | omega, ?_⟩; conv => whnf))
  exact ⟨_, Sub.trans (Sub.nil 5 1) (Sub.sel [1, 0] rfl), w, rfl, rfl⟩
theorem bLen_ok (F : Mem) (w : Nat) (n : Int) (x : Value) (T : TypeId) : FT Try.prog 82 [.pointer (some ⟨w, 0, none⟩)].toArray F [.cells w [.int .i64 n, x] T (0, 0)] (fun e H => e = .returned (.int .i64 n) ∧ H = [.cells w [.int .i64 n, x] T (0, 0)]) := by
  refine FT.of_body Try.func82 rfl Try.ntmps82 (by simp) fun C hC => ?_
  subst hC
  conv => whnf
  repeat (first | (refine LoadV.s rfl rfl (forceV_of ?_); conv => whnf) | (refine LoadV.s rfl rfl ?_; conv => whnf) | (refine StoreV.c rfl rfl (Nat.le_of_ble_eq_true rfl) rfl ?_; conv => whnf) | (refine LoadV.a _ rfl (Nat.le_of_ble_eq_true rfl) ?_; conv => whnf) | (refine DrawI.quiet (by kernel_rfl) (by kernel_rfl) ?_; conv => whnf) | (refine ArI.in64 (by omega) ?_; conv => whnf) | (refine ArI.inU8 (by omega) ?_; conv => whnf) | (refine ArI.inU64 (by omega) ?_; conv => whnf) | (refine ArI.inU32 (by omega) ?_; conv => whnf) | (refine RetI.one Try.results82 rfl ?_; conv => whnf) | (refine RetI.two Try.results82 rfl rfl ?_; conv => whnf) | (refine RetI.three Try.results82 rfl rfl rfl ?_; conv => whnf) | (refine RetI.none Try.results82 ?_; conv => whnf) | (refine ⟨by first | decide | omega, ?_⟩; conv => whnf))
  exact ⟨_, Sub.refl _, rfl, rfl⟩
theorem bAdd_ok (F : Mem) (w : Nat) (n m : Int) (x : Value) (T : TypeId) (h : -9223372036854775808 ≤ n + m ∧ n + m ≤ 9223372036854775807) :
    FT Try.prog 83 [.pointer (some ⟨w, 0, none⟩), .int .i64 m].toArray F [.cells w [.int .i64 n, x] T (0, 0)] (fun e H => e = .returned (.tuple #[]) ∧ H = [.cells w [.int .i64 (n + m), x] T (0, 0)]) := by
  refine FT.of_body Try.func83 rfl Try.ntmps83 (by simp) fun C hC => ?_
  subst hC
  conv => whnf
  repeat (first | (refine LoadV.s rfl rfl (forceV_of ?_); conv => whnf) | (refine LoadV.s rfl rfl ?_; conv => whnf) | (refine StoreV.c rfl rfl (Nat.le_of_ble_eq_true rfl) rfl ?_; conv => whnf) | (refine LoadV.a _ rfl (Nat.le_of_ble_eq_true rfl) ?_; conv => whnf) | (refine DrawI.quiet (by kernel_rfl) (by kernel_rfl) ?_; conv => whnf) | (refine ArI.in64 (by omega) ?_; conv => whnf) | (refine ArI.inU8 (by omega) ?_; conv => whnf) | (refine ArI.inU64 (by omega) ?_; conv => whnf) | (refine ArI.inU32 (by omega) ?_; conv => whnf) | (refine RetI.one Try.results83 rfl ?_; conv => whnf) | (refine RetI.two Try.results83 rfl rfl ?_; conv => whnf) | (refine RetI.three Try.results83 rfl rfl rfl ?_; conv => whnf) | (refine RetI.none Try.results83 ?_; conv => whnf) | (refine ⟨by first | decide | omega, ?_⟩; conv => whnf))
  exact ⟨_, Sub.refl _, rfl, rfl⟩
def fitsB (V : Nat) (width : Int) : Bool := decide (1 ≤ width ∧ width ≤ 64 ∧ V < 2 ^ width.toNat)
theorem bFits_ok (F : Mem) (V : Nat) (width : Int) (hv : V < 18446744073709551616) : FT Try.prog 81 [.int .u64 (V : Int), .int .i64 width].toArray F [] (Ret (.bool (fitsB V width))) := by
  refine FT.of_body Try.func81 rfl Try.ntmps81 (by simp) fun C hC => ?_
  subst hC
  conv => whnf
  repeat' (first | (refine LoadV.s rfl rfl (forceV_of ?_); conv => whnf) | (refine LoadV.s rfl rfl ?_; conv => whnf) | (refine StoreV.c rfl rfl (Nat.le_of_ble_eq_true rfl) rfl ?_; conv => whnf) | (refine LoadV.a _ rfl (Nat.le_of_ble_eq_true rfl) ?_; conv => whnf) | (refine DrawI.quiet (by kernel_rfl) (by kernel_rfl) ?_; conv => whnf) | (refine ArI.in64 (by omega) ?_; conv => whnf) | (refine ArI.inU8 (by omega) ?_; conv => whnf) | (refine ArI.inU64 (by omega) ?_; conv => whnf) | (refine ArI.inU32 (by omega) ?_; conv => whnf) | (refine RetI.one Try.results81 rfl ?_; conv => whnf) | (refine RetI.two Try.results81 rfl rfl ?_; conv => whnf) | (refine RetI.three Try.results81 rfl rfl rfl ?_; conv => whnf) | (refine RetI.none Try.results81 ?_; conv => whnf) | (refine ⟨by first | decide | omega, ?_⟩; conv => whnf) | (refine cond_dec ?_ ?_ <;> intro <;> conv => whnf))
  · rename_i h1 h2 h3
    subst h3
    exact ⟨_, Sub.refl _, ret_bool (by unfold fitsB; rw [decide_eq_true ⟨h1, h2, by simpa using hv⟩]), rfl⟩
  · rename_i h1 h2 h3
    obtain ⟨W, rfl⟩ := Int.eq_ofNat_of_zero_le (show 0 ≤ width by omega)
    refine ⟨_, Sub.refl _, ret_bool ?_, rfl⟩
    have hs : Int.fdiv (V : Int) (2 ^ min (Int.toNat (W : Int)) 64) = ((V / 2 ^ W : Nat) : Int) := shr_le (by omega)
    have e : fitsB V (W : Int) = decide (V < 2 ^ W) := by unfold fitsB; rw [Int.toNat_natCast]; exact decide_eq_decide.2 ⟨fun h => h.2.2, fun h => ⟨by omega, by omega, h⟩⟩
    rw [e]
    show (Int.fdiv (V : Int) (2 ^ min (Int.toNat (W : Int)) 64) == 0) = _
    rw [hs]
    by_cases h : V < 2 ^ W
    · rw [Nat.div_eq_of_lt h, decide_eq_true h]; rfl
    · have : V / 2 ^ W ≠ 0 := fun e => h ((Nat.div_eq_zero_iff.1 e).resolve_left (by have := Nat.two_pow_pos W; omega))
      rw [decide_eq_false h, beq_eq_false_iff_ne]
      exact fun e => this (by exact_mod_cast e)
  · rename_i h1 h2
    exact ⟨_, Sub.refl _, ret_bool (by unfold fitsB; rw [decide_eq_false (by omega)]), rfl⟩
  · rename_i h1
    exact ⟨_, Sub.refl _, ret_bool (by unfold fitsB; rw [decide_eq_false (by omega)]), rfl⟩
theorem bytesV_put (A : List Nat) (x y : Nat) : putAt (bytesV (A ++ [x])) (0 + A.length) [.int .u8 (y : Int)] = bytesV (A ++ [y]) := by
  unfold putAt
  rw [Nat.zero_add]
  simp
theorem bytesV_at (A : List Nat) (x : Nat) : (bytesV (A ++ [x]))[0 + A.length]? = some (.int .u8 (x : Int)) := by
  rw [Nat.zero_add]; simp
theorem packB_nil {B : List Bool} : packB B = [] ↔ B = [] := by
  constructor
  · intro h
    have := congrArg List.length h
    rw [packB_length] at this
    simp at this
    exact List.eq_nil_of_length_eq_zero (by omega)
  · intro h; subst h; rfl
theorem wrH_mk {w : Nat} {n : Int} {gb gc nn : Nat} {o : List Nat} (h : o.length = nn) :
    [HObj.cells w [.int .i64 n, .slice (some ⟨gb, 0, none⟩) nn gc] 107 (0, 0), .own (.slice (some ⟨gb, 0, none⟩) nn gc) nn 5 1 (bytesV o)] = wrH w n (some (gb, gc)) o := by subst h; rfl
/-- The bits behind a putting. -/
theorem bPut_ok (F : Mem) (w : Nat) (B : List Bool) (g : Option (Nat × Nat)) (hg : g = none ↔ B = []) (V : Nat) (width : Int) (hv : V < 18446744073709551616) (hB : B.length ≤ 35184372088832) :
    FT Try.prog 61 [.pointer (some ⟨w, 0, none⟩), .int .u64 (V : Int), .int .i64 width].toArray F (wrH w B.length g (packB B))
    (fun e H => (fitsB V width = false ∧ e = .returned (.int .i64 6) ∧ H = wrH w B.length g (packB B)) ∨
      (fitsB V width = true ∧ e = .returned (.int .i64 0) ∧ ∃ g', (g' = none ↔ B ++ bitsOf width.toNat V = []) ∧ H = wrH w ((B ++ bitsOf width.toNat V).length : Nat) g' (packB (B ++ bitsOf width.toNat V)))) := by
  refine FT.of_body Try.func61 rfl Try.ntmps61 (by simp) fun C hC => ?_
  subst hC
  conv => whnf
  repeat (first | (refine LoadV.s rfl rfl (forceV_of ?_); conv => whnf) | (refine LoadV.s rfl rfl ?_; conv => whnf) | (refine StoreV.c rfl rfl (Nat.le_of_ble_eq_true rfl) rfl ?_; conv => whnf) | (refine LoadV.a _ rfl (Nat.le_of_ble_eq_true rfl) ?_; conv => whnf) | (refine DrawI.quiet (by kernel_rfl) (by kernel_rfl) ?_; conv => whnf) | (refine ArI.in64 (by omega) ?_; conv => whnf) | (refine ArI.inU8 (by omega) ?_; conv => whnf) | (refine ArI.inU64 (by omega) ?_; conv => whnf) | (refine ArI.inU32 (by omega) ?_; conv => whnf) | (refine RetI.one Try.results61 rfl ?_; conv => whnf) | (refine RetI.two Try.results61 rfl rfl ?_; conv => whnf) | (refine RetI.three Try.results61 rfl rfl rfl ?_; conv => whnf) | (refine RetI.none Try.results61 ?_; conv => whnf) | (refine ⟨by first | decide | omega, ?_⟩; conv => whnf))
  refine CallS.mk Try.call81 ⟨[], _, _, Sub.refl _, fun F' hF' => bFits_ok F' V width hv, ?_⟩
  rintro e A' ⟨rfl, rfl⟩
  cases hf : fitsB V width with
  | false =>
    conv => whnf
    repeat (first | (refine LoadV.s rfl rfl (forceV_of ?_); conv => whnf) | (refine LoadV.s rfl rfl ?_; conv => whnf) | (refine StoreV.c rfl rfl (Nat.le_of_ble_eq_true rfl) rfl ?_; conv => whnf) | (refine LoadV.a _ rfl (Nat.le_of_ble_eq_true rfl) ?_; conv => whnf) | (refine DrawI.quiet (by kernel_rfl) (by kernel_rfl) ?_; conv => whnf) | (refine ArI.in64 (by omega) ?_; conv => whnf) | (refine ArI.inU8 (by omega) ?_; conv => whnf) | (refine ArI.inU64 (by omega) ?_; conv => whnf) | (refine ArI.inU32 (by omega) ?_; conv => whnf) | (refine RetI.one Try.results61 rfl ?_; conv => whnf) | (refine RetI.two Try.results61 rfl rfl ?_; conv => whnf) | (refine RetI.three Try.results61 rfl rfl rfl ?_; conv => whnf) | (refine RetI.none Try.results61 ?_; conv => whnf) | (refine ⟨by first | decide | omega, ?_⟩; conv => whnf))
    exact ⟨_, Sub.refl _, .inl ⟨rfl, rfl, rfl⟩⟩
  | true =>
    conv => whnf
    repeat (first | (refine LoadV.s rfl rfl (forceV_of ?_); conv => whnf) | (refine LoadV.s rfl rfl ?_; conv => whnf) | (refine StoreV.c rfl rfl (Nat.le_of_ble_eq_true rfl) rfl ?_; conv => whnf) | (refine LoadV.a _ rfl (Nat.le_of_ble_eq_true rfl) ?_; conv => whnf) | (refine DrawI.quiet (by kernel_rfl) (by kernel_rfl) ?_; conv => whnf) | (refine ArI.in64 (by omega) ?_; conv => whnf) | (refine ArI.inU8 (by omega) ?_; conv => whnf) | (refine ArI.inU64 (by omega) ?_; conv => whnf) | (refine ArI.inU32 (by omega) ?_; conv => whnf) | (refine RetI.one Try.results61 rfl ?_; conv => whnf) | (refine RetI.two Try.results61 rfl rfl ?_; conv => whnf) | (refine RetI.three Try.results61 rfl rfl rfl ?_; conv => whnf) | (refine RetI.none Try.results61 ?_; conv => whnf) | (refine ⟨by first | decide | omega, ?_⟩; conv => whnf))
    have hf' : 1 ≤ width ∧ width ≤ 64 ∧ V < 2 ^ width.toNat := of_decide_eq_true hf
    obtain ⟨W, rfl⟩ := Int.eq_ofNat_of_zero_le (show 0 ≤ width by omega)
    simp only [Int.toNat_natCast] at hf'
    refine LoopI.by_state (σ := Nat × List Bool × Option (Nat × Nat)) (fun x => [(0, .pointer (some ⟨w, 0, none⟩)), (1, .int .u64 (V : Int)), (7, .int .i64 (x.1 : Int))]) (fun x => wrH w (x.2.1.length : Nat) x.2.2 (packB x.2.1))
      (fun x => x.1 ≤ W ∧ x.2.1 = B ++ bitsOf (W - x.1) (V / 2 ^ x.1) ∧ (x.2.2 = none ↔ x.2.1 = [])) (fun x => x.1) (W, B, g) ⟨Nat.le_refl _, by simp [bitsOf_zero], hg⟩ ⟨rfl, rfl, rfl, trivial⟩ (Sub.refl _) ?_
    rintro ⟨left, B', g'⟩ f0 ⟨hl, hB', hg'⟩
    dsimp only at hl hB' hg' ⊢
    have hBl : B'.length ≤ B.length + 64 := by rw [hB', List.length_append, bitsOf_length]; omega
    obtain ⟨A, last, hAl, hlast, hA0, hA1, hpack⟩ := pack_prep B'
    conv => whnf
    refine cond_dec (fun h => ?_) (fun h => ?_)
    · conv => whnf
      repeat (first | (refine LoadV.s rfl rfl (forceV_of ?_); conv => whnf) | (refine LoadV.s rfl rfl ?_; conv => whnf) | (refine StoreV.c rfl rfl (Nat.le_of_ble_eq_true rfl) rfl ?_; conv => whnf) | (refine LoadV.a _ rfl (Nat.le_of_ble_eq_true rfl) ?_; conv => whnf) | (refine DrawI.quiet (by kernel_rfl) (by kernel_rfl) ?_; conv => whnf) | (refine ArI.in64 (by omega) ?_; conv => whnf) | (refine ArI.inU8 (by omega) ?_; conv => whnf) | (refine ArI.inU64 (by omega) ?_; conv => whnf) | (refine ArI.inU32 (by omega) ?_; conv => whnf) | (refine RetI.one Try.results61 rfl ?_; conv => whnf) | (refine RetI.two Try.results61 rfl rfl ?_; conv => whnf) | (refine RetI.three Try.results61 rfl rfl rfl ?_; conv => whnf) | (refine RetI.none Try.results61 ?_; conv => whnf) | (refine ⟨by first | decide | omega, ?_⟩; conv => whnf))
      refine CallS.mk Try.call82 ⟨[_], _, _, Sub.split [0] rfl, fun F' hF' => bLen_ok F' w _ _ _, ?_⟩
      rintro e A' ⟨rfl, rfl⟩
      conv => whnf
      rw [i64_and7]
      repeat (first | (refine LoadV.s rfl rfl (forceV_of ?_); conv => whnf) | (refine LoadV.s rfl rfl ?_; conv => whnf) | (refine StoreV.c rfl rfl (Nat.le_of_ble_eq_true rfl) rfl ?_; conv => whnf) | (refine LoadV.a _ rfl (Nat.le_of_ble_eq_true rfl) ?_; conv => whnf) | (refine DrawI.quiet (by kernel_rfl) (by kernel_rfl) ?_; conv => whnf) | (refine ArI.in64 (by omega) ?_; conv => whnf) | (refine ArI.inU8 (by omega) ?_; conv => whnf) | (refine ArI.inU64 (by omega) ?_; conv => whnf) | (refine ArI.inU32 (by omega) ?_; conv => whnf) | (refine RetI.one Try.results61 rfl ?_; conv => whnf) | (refine RetI.two Try.results61 rfl rfl ?_; conv => whnf) | (refine RetI.three Try.results61 rfl rfl rfl ?_; conv => whnf) | (refine RetI.none Try.results61 ?_; conv => whnf) | (refine ⟨by first | decide | omega, ?_⟩; conv => whnf))
      refine cond_split (fun h2 => ?_) (fun h2 => ?_)
      · have h2 : B'.length % 8 = 0 := by have := of_decide_eq_true h2; omega
        obtain ⟨hA, hlast0⟩ := hA0 h2
        conv => whnf
        repeat (first | (refine LoadV.s rfl rfl (forceV_of ?_); conv => whnf) | (refine LoadV.s rfl rfl ?_; conv => whnf) | (refine StoreV.c rfl rfl (Nat.le_of_ble_eq_true rfl) rfl ?_; conv => whnf) | (refine LoadV.a _ rfl (Nat.le_of_ble_eq_true rfl) ?_; conv => whnf) | (refine DrawI.quiet (by kernel_rfl) (by kernel_rfl) ?_; conv => whnf) | (refine ArI.in64 (by omega) ?_; conv => whnf) | (refine ArI.inU8 (by omega) ?_; conv => whnf) | (refine ArI.inU64 (by omega) ?_; conv => whnf) | (refine ArI.inU32 (by omega) ?_; conv => whnf) | (refine RetI.one Try.results61 rfl ?_; conv => whnf) | (refine RetI.two Try.results61 rfl rfl ?_; conv => whnf) | (refine RetI.three Try.results61 rfl rfl rfl ?_; conv => whnf) | (refine RetI.none Try.results61 ?_; conv => whnf) | (refine ⟨by first | decide | omega, ?_⟩; conv => whnf))
        intro b
        conv => whnf
        refine BuiltV.append (sv := svOf g' (packB B').length) (m := 1) Try.underlying48 rfl rfl rfl rfl (by decide) (Row.cells 1) rfl (by decide) rfl (by show ((packB B').length + 1) * 1 ≤ _; rw [packB_length]; omega) (by rw [packB_length]; omega) fun gb gc => ?_
        have hrow : bytesV (packB B') ++ ((([Value.int .u8 0] : List Value).drop 0).take 1) = bytesV (A ++ [last]) := by subst hA; subst hlast0; simp
        rw [hrow]
        have hnn : (packB B').length + 1 = A.length + 1 := by rw [hA]
        generalize (packB B').length + 1 = nn at hnn ⊢
        conv => whnf
        repeat (first | (refine LoadV.s rfl rfl (forceV_of ?_); conv => whnf) | (refine LoadV.s rfl rfl ?_; conv => whnf) | (refine StoreV.c rfl rfl (Nat.le_of_ble_eq_true rfl) rfl ?_; conv => whnf) | (refine LoadV.a _ rfl (Nat.le_of_ble_eq_true rfl) ?_; conv => whnf) | (refine DrawI.quiet (by kernel_rfl) (by kernel_rfl) ?_; conv => whnf) | (refine RetI.one Try.results61 rfl ?_; conv => whnf) | (refine RetI.two Try.results61 rfl rfl ?_; conv => whnf) | (refine RetI.three Try.results61 rfl rfl rfl ?_; conv => whnf) | (refine RetI.none Try.results61 ?_; conv => whnf) | (refine ⟨by first | decide | omega, ?_⟩; conv => whnf))
        obtain ⟨m, k, hm, hlk, hm0, hm8⟩ : ∃ m k : Nat, min (8 - (B'.length : Int) % 8) (left : Int) = (m : Int) ∧ left = m + k ∧ 0 < m ∧ m ≤ 8 - B'.length % 8 :=
          ⟨min (8 - B'.length % 8) left, left - min (8 - B'.length % 8) left, by omega, by omega, by omega, by omega⟩
        rw [hm]
        refine ArI.to64 (k : Int) (by omega) (by omega) ?_
        conv => whnf
        repeat (first | (refine LoadV.s rfl rfl (forceV_of ?_); conv => whnf) | (refine LoadV.s rfl rfl ?_; conv => whnf) | (refine StoreV.c rfl rfl (Nat.le_of_ble_eq_true rfl) rfl ?_; conv => whnf) | (refine LoadV.a _ rfl (Nat.le_of_ble_eq_true rfl) ?_; conv => whnf) | (refine DrawI.quiet (by kernel_rfl) (by kernel_rfl) ?_; conv => whnf) | (refine ArI.in64 (by omega) ?_; conv => whnf) | (refine ArI.inU8 (by omega) ?_; conv => whnf) | (refine ArI.inU64 (by omega) ?_; conv => whnf) | (refine ArI.inU32 (by omega) ?_; conv => whnf) | (refine RetI.one Try.results61 rfl ?_; conv => whnf) | (refine RetI.two Try.results61 rfl rfl ?_; conv => whnf) | (refine RetI.three Try.results61 rfl rfl rfl ?_; conv => whnf) | (refine RetI.none Try.results61 ?_; conv => whnf) | (refine ⟨by first | decide | omega, ?_⟩; conv => whnf))
        have hs : Int.fdiv (V : Int) (2 ^ min (Int.toNat (k : Int)) IntKind.u64.bits) = ((V / 2 ^ k : Nat) : Int) := shr_le (show k ≤ 64 by omega)
        rw [hs]
        refine ArI.mk _ (wrap_u8_nat _) ?_
        conv => whnf
        repeat (first | (refine LoadV.s rfl rfl (forceV_of ?_); conv => whnf) | (refine LoadV.s rfl rfl ?_; conv => whnf) | (refine StoreV.c rfl rfl (Nat.le_of_ble_eq_true rfl) rfl ?_; conv => whnf) | (refine LoadV.a _ rfl (Nat.le_of_ble_eq_true rfl) ?_; conv => whnf) | (refine DrawI.quiet (by kernel_rfl) (by kernel_rfl) ?_; conv => whnf) | (refine ArI.in64 (by omega) ?_; conv => whnf) | (refine ArI.inU8 (by omega) ?_; conv => whnf) | (refine ArI.inU64 (by omega) ?_; conv => whnf) | (refine ArI.inU32 (by omega) ?_; conv => whnf) | (refine RetI.one Try.results61 rfl ?_; conv => whnf) | (refine RetI.two Try.results61 rfl rfl ?_; conv => whnf) | (refine RetI.three Try.results61 rfl rfl rfl ?_; conv => whnf) | (refine RetI.none Try.results61 ?_; conv => whnf) | (refine ⟨by first | decide | omega, ?_⟩; conv => whnf))
        refine ArI.mk _ (u8_ones m (by omega)) ?_
        conv => whnf
        have hmod : V / 2 ^ k % 256 % 2 ^ m = num (bitsOf m (V / 2 ^ k)) := by
          rw [num_bitsOf, show 256 = 2 ^ 8 from rfl, Nat.mod_mod_of_dvd _ (Nat.pow_dvd_pow 2 (by omega))]
        rw [u8_mask _ m (Nat.mod_lt _ (by decide)) (by omega), hmod]
        have hc := bitsOf_length m (V / 2 ^ k)
        have hN := num_lt (bitsOf m (V / 2 ^ k))
        have hpk := hpack (bitsOf m (V / 2 ^ k)) (by omega) (by omega)
        have hbits : B' ++ bitsOf m (V / 2 ^ k) = B ++ bitsOf (W - k) (V / 2 ^ k) := by
          rw [hB', List.append_assoc, hlk, show V / 2 ^ (m + k) = V / 2 ^ k / 2 ^ m by rw [Nat.div_div_eq_div_mul, ← Nat.pow_add, Nat.add_comm], ← bitsOf_add, show W - (m + k) + m = W - k by omega]
        generalize bitsOf m (V / 2 ^ k) = c at hc hN hpk hbits ⊢
        obtain ⟨j, hj⟩ : ∃ j : Nat, 8 - B'.length % 8 = m + j := ⟨8 - B'.length % 8 - m, by omega⟩
        have hNj : num c * 2 ^ j < 256 := by
          have h8 : 2 ^ (m + j) ≤ 2 ^ 8 := Nat.pow_le_pow_right (by decide) (by omega)
          have : num c * 2 ^ j < 2 ^ m * 2 ^ j := Nat.mul_lt_mul_of_pos_right (by rw [hc] at hN; exact hN) (Nat.two_pow_pos _)
          rw [← Nat.pow_add] at this; omega
        refine DrawI.tail 20 (by kernel_rfl) (by kernel_rfl) ?_
        conv => whnf
        repeat (first | (refine LoadV.s rfl rfl (forceV_of ?_); conv => whnf) | (refine LoadV.s rfl rfl ?_; conv => whnf) | (refine StoreV.c rfl rfl (Nat.le_of_ble_eq_true rfl) rfl ?_; conv => whnf) | (refine LoadV.a _ rfl (Nat.le_of_ble_eq_true rfl) ?_; conv => whnf) | (refine DrawI.quiet (by kernel_rfl) (by kernel_rfl) ?_; conv => whnf) | (refine RetI.one Try.results61 rfl ?_; conv => whnf) | (refine RetI.two Try.results61 rfl rfl ?_; conv => whnf) | (refine RetI.three Try.results61 rfl rfl rfl ?_; conv => whnf) | (refine RetI.none Try.results61 ?_; conv => whnf) | (refine ⟨by first | decide | omega, ?_⟩; conv => whnf))
        refine ArI.to64 (A.length : Int) (by omega) (by omega) ?_
        conv => whnf
        refine ⟨by omega, ?_⟩
        conv => whnf
        refine LoadV.os rfl (bytesV_at A last) ?_
        conv => whnf
        refine ArI.to64 (j : Int) (by omega) (by omega) ?_
        conv => whnf
        repeat (first | (refine LoadV.s rfl rfl (forceV_of ?_); conv => whnf) | (refine LoadV.s rfl rfl ?_; conv => whnf) | (refine StoreV.c rfl rfl (Nat.le_of_ble_eq_true rfl) rfl ?_; conv => whnf) | (refine LoadV.a _ rfl (Nat.le_of_ble_eq_true rfl) ?_; conv => whnf) | (refine DrawI.quiet (by kernel_rfl) (by kernel_rfl) ?_; conv => whnf) | (refine ArI.in64 (by omega) ?_; conv => whnf) | (refine ArI.inU8 (by omega) ?_; conv => whnf) | (refine ArI.inU64 (by omega) ?_; conv => whnf) | (refine ArI.inU32 (by omega) ?_; conv => whnf) | (refine RetI.one Try.results61 rfl ?_; conv => whnf) | (refine RetI.two Try.results61 rfl rfl ?_; conv => whnf) | (refine RetI.three Try.results61 rfl rfl rfl ?_; conv => whnf) | (refine RetI.none Try.results61 ?_; conv => whnf) | (refine ⟨by first | decide | omega, ?_⟩; conv => whnf))
        have hsl : IntKind.u8.wrap ((num c : Int) * 2 ^ min (Int.toNat (j : Int)) IntKind.u8.bits) = ((num c * 2 ^ j : Nat) : Int) := by
          rw [mul_pow_nat, wrap_u8_nat]
          have : min j IntKind.u8.bits = j := Nat.min_eq_left (show j ≤ 8 by omega)
          rw [this, Nat.mod_eq_of_lt hNj]
        rw [hsl, u8_or_nat _ _ hlast hNj]
        refine StoreV.os (l := bytesV (A ++ [last])) rfl rfl (by show 0 + A.length + 1 ≤ _; simp) rfl ?_
        have hput := bytesV_put A last (last ||| num c * 2 ^ j)
        rw [show (Value.int IntKind.u8 ((last ||| num c * 2 ^ j : Nat) : Int)).cells.toList = [.int .u8 ((last ||| num c * 2 ^ j : Nat) : Int)] from rfl]
        rw [show elemOff 0 (A.length : Int) (Try.prog.types[5]'(by decide)).size = 0 + A.length from rfl, hput]
        conv => whnf
        refine CallS.mk Try.call83 ⟨[_], _, _, Sub.split [1] rfl, fun F' hF' => bAdd_ok F' w _ _ _ _ (by omega), ?_⟩
        rintro e A' ⟨rfl, rfl⟩
        conv => whnf
        refine ArI.to64 (k : Int) (by omega) (by omega) ?_
        conv => whnf
        have hpk' : packB (B' ++ c) = A ++ [last ||| num c * 2 ^ j] := by rw [hpk]; congr 5; omega
        refine ⟨(k, B' ++ c, some (gb, gc)), _, by dsimp only; omega, Sub.sel [0, 2] rfl, ⟨by dsimp only; omega, by dsimp only; exact hbits, by simp; intro _ e; subst e; simp at hc; omega⟩, ⟨rfl, rfl, rfl, trivial⟩, ?_⟩
        dsimp only
        rw [hpk', show (((B' ++ c).length : Nat) : Int) = (B'.length : Int) + (m : Int) by rw [List.length_append, hc]; omega]
        exact wrH_mk (by rw [hnn]; simp)
      · have h2 : B'.length % 8 ≠ 0 := by have := of_decide_eq_false h2; omega
        have hA := hA1 h2
        have hnn : (packB B').length = A.length + 1 := by rw [hA]; simp
        cases g' with
        | none => exact absurd (hg'.1 rfl) (by intro e; subst e; simp at h2)
        | some gg =>
          obtain ⟨gb, gc⟩ := gg
          rw [show svOf (some (gb, gc)) (packB B').length = .slice (some ⟨gb, 0, none⟩) (packB B').length gc from rfl]
          generalize (packB B').length = nn at hnn ⊢
          rw [hA]
          conv => whnf
          repeat (first | (refine LoadV.s rfl rfl (forceV_of ?_); conv => whnf) | (refine LoadV.s rfl rfl ?_; conv => whnf) | (refine StoreV.c rfl rfl (Nat.le_of_ble_eq_true rfl) rfl ?_; conv => whnf) | (refine LoadV.a _ rfl (Nat.le_of_ble_eq_true rfl) ?_; conv => whnf) | (refine DrawI.quiet (by kernel_rfl) (by kernel_rfl) ?_; conv => whnf) | (refine RetI.one Try.results61 rfl ?_; conv => whnf) | (refine RetI.two Try.results61 rfl rfl ?_; conv => whnf) | (refine RetI.three Try.results61 rfl rfl rfl ?_; conv => whnf) | (refine RetI.none Try.results61 ?_; conv => whnf) | (refine ⟨by first | decide | omega, ?_⟩; conv => whnf))
          obtain ⟨m, k, hm, hlk, hm0, hm8⟩ : ∃ m k : Nat, min (8 - (B'.length : Int) % 8) (left : Int) = (m : Int) ∧ left = m + k ∧ 0 < m ∧ m ≤ 8 - B'.length % 8 :=
            ⟨min (8 - B'.length % 8) left, left - min (8 - B'.length % 8) left, by omega, by omega, by omega, by omega⟩
          rw [hm]
          refine ArI.to64 (k : Int) (by omega) (by omega) ?_
          conv => whnf
          repeat (first | (refine LoadV.s rfl rfl (forceV_of ?_); conv => whnf) | (refine LoadV.s rfl rfl ?_; conv => whnf) | (refine StoreV.c rfl rfl (Nat.le_of_ble_eq_true rfl) rfl ?_; conv => whnf) | (refine LoadV.a _ rfl (Nat.le_of_ble_eq_true rfl) ?_; conv => whnf) | (refine DrawI.quiet (by kernel_rfl) (by kernel_rfl) ?_; conv => whnf) | (refine ArI.in64 (by omega) ?_; conv => whnf) | (refine ArI.inU8 (by omega) ?_; conv => whnf) | (refine ArI.inU64 (by omega) ?_; conv => whnf) | (refine ArI.inU32 (by omega) ?_; conv => whnf) | (refine RetI.one Try.results61 rfl ?_; conv => whnf) | (refine RetI.two Try.results61 rfl rfl ?_; conv => whnf) | (refine RetI.three Try.results61 rfl rfl rfl ?_; conv => whnf) | (refine RetI.none Try.results61 ?_; conv => whnf) | (refine ⟨by first | decide | omega, ?_⟩; conv => whnf))
          have hs : Int.fdiv (V : Int) (2 ^ min (Int.toNat (k : Int)) IntKind.u64.bits) = ((V / 2 ^ k : Nat) : Int) := shr_le (show k ≤ 64 by omega)
          rw [hs]
          refine ArI.mk _ (wrap_u8_nat _) ?_
          conv => whnf
          repeat (first | (refine LoadV.s rfl rfl (forceV_of ?_); conv => whnf) | (refine LoadV.s rfl rfl ?_; conv => whnf) | (refine StoreV.c rfl rfl (Nat.le_of_ble_eq_true rfl) rfl ?_; conv => whnf) | (refine LoadV.a _ rfl (Nat.le_of_ble_eq_true rfl) ?_; conv => whnf) | (refine DrawI.quiet (by kernel_rfl) (by kernel_rfl) ?_; conv => whnf) | (refine ArI.in64 (by omega) ?_; conv => whnf) | (refine ArI.inU8 (by omega) ?_; conv => whnf) | (refine ArI.inU64 (by omega) ?_; conv => whnf) | (refine ArI.inU32 (by omega) ?_; conv => whnf) | (refine RetI.one Try.results61 rfl ?_; conv => whnf) | (refine RetI.two Try.results61 rfl rfl ?_; conv => whnf) | (refine RetI.three Try.results61 rfl rfl rfl ?_; conv => whnf) | (refine RetI.none Try.results61 ?_; conv => whnf) | (refine ⟨by first | decide | omega, ?_⟩; conv => whnf))
          refine ArI.mk _ (u8_ones m (by omega)) ?_
          conv => whnf
          have hmod : V / 2 ^ k % 256 % 2 ^ m = num (bitsOf m (V / 2 ^ k)) := by
            rw [num_bitsOf, show 256 = 2 ^ 8 from rfl, Nat.mod_mod_of_dvd _ (Nat.pow_dvd_pow 2 (by omega))]
          rw [u8_mask _ m (Nat.mod_lt _ (by decide)) (by omega), hmod]
          have hc := bitsOf_length m (V / 2 ^ k)
          have hN := num_lt (bitsOf m (V / 2 ^ k))
          have hpk := hpack (bitsOf m (V / 2 ^ k)) (by omega) (by omega)
          have hbits : B' ++ bitsOf m (V / 2 ^ k) = B ++ bitsOf (W - k) (V / 2 ^ k) := by
            rw [hB', List.append_assoc, hlk, show V / 2 ^ (m + k) = V / 2 ^ k / 2 ^ m by rw [Nat.div_div_eq_div_mul, ← Nat.pow_add, Nat.add_comm], ← bitsOf_add, show W - (m + k) + m = W - k by omega]
          generalize bitsOf m (V / 2 ^ k) = c at hc hN hpk hbits ⊢
          obtain ⟨j, hj⟩ : ∃ j : Nat, 8 - B'.length % 8 = m + j := ⟨8 - B'.length % 8 - m, by omega⟩
          have hNj : num c * 2 ^ j < 256 := by
            have h8 : 2 ^ (m + j) ≤ 2 ^ 8 := Nat.pow_le_pow_right (by decide) (by omega)
            have : num c * 2 ^ j < 2 ^ m * 2 ^ j := Nat.mul_lt_mul_of_pos_right (by rw [hc] at hN; exact hN) (Nat.two_pow_pos _)
            rw [← Nat.pow_add] at this; omega
          refine DrawI.tail 20 (by kernel_rfl) (by kernel_rfl) ?_
          conv => whnf
          repeat (first | (refine LoadV.s rfl rfl (forceV_of ?_); conv => whnf) | (refine LoadV.s rfl rfl ?_; conv => whnf) | (refine StoreV.c rfl rfl (Nat.le_of_ble_eq_true rfl) rfl ?_; conv => whnf) | (refine LoadV.a _ rfl (Nat.le_of_ble_eq_true rfl) ?_; conv => whnf) | (refine DrawI.quiet (by kernel_rfl) (by kernel_rfl) ?_; conv => whnf) | (refine RetI.one Try.results61 rfl ?_; conv => whnf) | (refine RetI.two Try.results61 rfl rfl ?_; conv => whnf) | (refine RetI.three Try.results61 rfl rfl rfl ?_; conv => whnf) | (refine RetI.none Try.results61 ?_; conv => whnf) | (refine ⟨by first | decide | omega, ?_⟩; conv => whnf))
          refine ArI.to64 (A.length : Int) (by omega) (by omega) ?_
          conv => whnf
          refine ⟨by omega, ?_⟩
          conv => whnf
          refine LoadV.os rfl (bytesV_at A last) ?_
          conv => whnf
          refine ArI.to64 (j : Int) (by omega) (by omega) ?_
          conv => whnf
          repeat (first | (refine LoadV.s rfl rfl (forceV_of ?_); conv => whnf) | (refine LoadV.s rfl rfl ?_; conv => whnf) | (refine StoreV.c rfl rfl (Nat.le_of_ble_eq_true rfl) rfl ?_; conv => whnf) | (refine LoadV.a _ rfl (Nat.le_of_ble_eq_true rfl) ?_; conv => whnf) | (refine DrawI.quiet (by kernel_rfl) (by kernel_rfl) ?_; conv => whnf) | (refine ArI.in64 (by omega) ?_; conv => whnf) | (refine ArI.inU8 (by omega) ?_; conv => whnf) | (refine ArI.inU64 (by omega) ?_; conv => whnf) | (refine ArI.inU32 (by omega) ?_; conv => whnf) | (refine RetI.one Try.results61 rfl ?_; conv => whnf) | (refine RetI.two Try.results61 rfl rfl ?_; conv => whnf) | (refine RetI.three Try.results61 rfl rfl rfl ?_; conv => whnf) | (refine RetI.none Try.results61 ?_; conv => whnf) | (refine ⟨by first | decide | omega, ?_⟩; conv => whnf))
          have hsl : IntKind.u8.wrap ((num c : Int) * 2 ^ min (Int.toNat (j : Int)) IntKind.u8.bits) = ((num c * 2 ^ j : Nat) : Int) := by
            rw [mul_pow_nat, wrap_u8_nat]
            have : min j IntKind.u8.bits = j := Nat.min_eq_left (show j ≤ 8 by omega)
            rw [this, Nat.mod_eq_of_lt hNj]
          rw [hsl, u8_or_nat _ _ hlast hNj]
          refine StoreV.os (l := bytesV (A ++ [last])) rfl rfl (by show 0 + A.length + 1 ≤ _; simp) rfl ?_
          have hput := bytesV_put A last (last ||| num c * 2 ^ j)
          rw [show (Value.int IntKind.u8 ((last ||| num c * 2 ^ j : Nat) : Int)).cells.toList = [.int .u8 ((last ||| num c * 2 ^ j : Nat) : Int)] from rfl]
          rw [show elemOff 0 (A.length : Int) (Try.prog.types[5]'(by decide)).size = 0 + A.length from rfl, hput]
          conv => whnf
          refine CallS.mk Try.call83 ⟨[_], _, _, Sub.split [0] rfl, fun F' hF' => bAdd_ok F' w _ _ _ _ (by omega), ?_⟩
          rintro e A' ⟨rfl, rfl⟩
          conv => whnf
          refine ArI.to64 (k : Int) (by omega) (by omega) ?_
          conv => whnf
          have hpk' : packB (B' ++ c) = A ++ [last ||| num c * 2 ^ j] := by rw [hpk]; congr 5; omega
          refine ⟨(k, B' ++ c, some (gb, gc)), _, by dsimp only; omega, Sub.sel [0, 1] rfl, ⟨by dsimp only; omega, by dsimp only; exact hbits, by simp; intro _ e; subst e; simp at hc; omega⟩, ⟨rfl, rfl, rfl, trivial⟩, ?_⟩
          dsimp only
          rw [hpk', show (((B' ++ c).length : Nat) : Int) = (B'.length : Int) + (m : Int) by rw [List.length_append, hc]; omega]
          exact wrH_mk (by rw [hnn]; simp)
    · conv => whnf
      repeat (first | (refine LoadV.s rfl rfl (forceV_of ?_); conv => whnf) | (refine LoadV.s rfl rfl ?_; conv => whnf) | (refine StoreV.c rfl rfl (Nat.le_of_ble_eq_true rfl) rfl ?_; conv => whnf) | (refine LoadV.a _ rfl (Nat.le_of_ble_eq_true rfl) ?_; conv => whnf) | (refine DrawI.quiet (by kernel_rfl) (by kernel_rfl) ?_; conv => whnf) | (refine ArI.in64 (by omega) ?_; conv => whnf) | (refine ArI.inU8 (by omega) ?_; conv => whnf) | (refine ArI.inU64 (by omega) ?_; conv => whnf) | (refine ArI.inU32 (by omega) ?_; conv => whnf) | (refine RetI.one Try.results61 rfl ?_; conv => whnf) | (refine RetI.two Try.results61 rfl rfl ?_; conv => whnf) | (refine RetI.three Try.results61 rfl rfl rfl ?_; conv => whnf) | (refine RetI.none Try.results61 ?_; conv => whnf) | (refine ⟨by first | decide | omega, ?_⟩; conv => whnf))
      have hl0 : left = 0 := by omega
      subst hl0
      simp only [Nat.sub_zero, Nat.pow_zero, Nat.div_one] at hB'
      subst hB'
      exact ⟨_, Sub.refl _, .inr ⟨rfl, rfl, g', hg', rfl⟩⟩
end Go.Proofs.Ytlbdnkkaacccoaa
