/- The bits: the reader, packing and unpacking. -/
import Derived.Test.YtlbdnkkaacccoaaBits
namespace Go.Proofs.Ytlbdnkkaacccoaa
set_option linter.unusedVariables false
set_option linter.unusedSimpArgs false
set_option maxRecDepth 100000
open SL Go.RowKit Go.Maps

theorem bBytes_ok (F : Mem) (w : Nat) (n : Int) (g : Option (Nat × Nat)) (o : List Nat) (hg : g = none → o = []) :
    FT Try.prog 41 [.pointer (some ⟨w, 0, none⟩)].toArray F (wrH w n g o) (fun e H => e = .returned (.string (strB o)) ∧ H = wrH w n g o) := by
  cases g with
  | none =>
    obtain rfl := hg rfl
    refine FT.of_body Try.func41 rfl Try.ntmps41 (by simp) fun C hC => ?_
    subst hC
    conv => whnf
    repeat (first | (refine LoadV.s rfl rfl (forceV_of ?_); conv => whnf) | (refine LoadV.s rfl rfl ?_; conv => whnf) | (refine StoreV.c rfl rfl (Nat.le_of_ble_eq_true rfl) rfl ?_; conv => whnf) | (refine LoadV.a _ rfl (Nat.le_of_ble_eq_true rfl) ?_; conv => whnf) | (refine DrawI.quiet (by kernel_rfl) (by kernel_rfl) ?_; conv => whnf) | (refine ArI.in64 (by omega) ?_; conv => whnf) | (refine ArI.inU8 (by omega) ?_; conv => whnf) | (refine ArI.inU64 (by omega) ?_; conv => whnf) | (refine ArI.inU32 (by omega) ?_; conv => whnf) | (refine RetI.one Try.results41 rfl ?_; conv => whnf) | (refine RetI.two Try.results41 rfl rfl ?_; conv => whnf) | (refine RetI.three Try.results41 rfl rfl rfl ?_; conv => whnf) | (refine RetI.none Try.results41 ?_; conv => whnf) | (refine ⟨by first | decide | omega, ?_⟩; conv => whnf))
    refine DoV.nil_string Try.underlying48 Try.underlying5 Try.underlying9 ?_
    conv => whnf
    repeat (first | (refine LoadV.s rfl rfl (forceV_of ?_); conv => whnf) | (refine LoadV.s rfl rfl ?_; conv => whnf) | (refine StoreV.c rfl rfl (Nat.le_of_ble_eq_true rfl) rfl ?_; conv => whnf) | (refine LoadV.a _ rfl (Nat.le_of_ble_eq_true rfl) ?_; conv => whnf) | (refine DrawI.quiet (by kernel_rfl) (by kernel_rfl) ?_; conv => whnf) | (refine ArI.in64 (by omega) ?_; conv => whnf) | (refine ArI.inU8 (by omega) ?_; conv => whnf) | (refine ArI.inU64 (by omega) ?_; conv => whnf) | (refine ArI.inU32 (by omega) ?_; conv => whnf) | (refine RetI.one Try.results41 rfl ?_; conv => whnf) | (refine RetI.two Try.results41 rfl rfl ?_; conv => whnf) | (refine RetI.three Try.results41 rfl rfl rfl ?_; conv => whnf) | (refine RetI.none Try.results41 ?_; conv => whnf) | (refine ⟨by first | decide | omega, ?_⟩; conv => whnf))
    exact ⟨_, Sub.refl _, rfl, rfl⟩
  | some p =>
    obtain ⟨b, cap⟩ := p
    have e0 : wrH w n (some (b, cap)) o = [.cells w [.int .i64 n, .slice (some ⟨b, 0, none⟩) o.length cap] 107 (0, 0), .own (.slice (some ⟨b, 0, none⟩) o.length cap) o.length 5 1 (bytesV o)] := rfl
    rw [e0]
    refine FT.of_body Try.func41 rfl Try.ntmps41 (by simp) fun C hC => ?_
    subst hC
    conv => whnf
    repeat (first | (refine LoadV.s rfl rfl (forceV_of ?_); conv => whnf) | (refine LoadV.s rfl rfl ?_; conv => whnf) | (refine StoreV.c rfl rfl (Nat.le_of_ble_eq_true rfl) rfl ?_; conv => whnf) | (refine LoadV.a _ rfl (Nat.le_of_ble_eq_true rfl) ?_; conv => whnf) | (refine DrawI.quiet (by kernel_rfl) (by kernel_rfl) ?_; conv => whnf) | (refine ArI.in64 (by omega) ?_; conv => whnf) | (refine ArI.inU8 (by omega) ?_; conv => whnf) | (refine ArI.inU64 (by omega) ?_; conv => whnf) | (refine ArI.inU32 (by omega) ?_; conv => whnf) | (refine RetI.one Try.results41 rfl ?_; conv => whnf) | (refine RetI.two Try.results41 rfl rfl ?_; conv => whnf) | (refine RetI.three Try.results41 rfl rfl rfl ?_; conv => whnf) | (refine RetI.none Try.results41 ?_; conv => whnf) | (refine ⟨by first | decide | omega, ?_⟩; conv => whnf))
    refine DoV.bytes_string (l := o) Try.underlying48 Try.underlying5 Try.underlying9 rfl (by
      have := Row.own (C := C) (H := [.cells w [.int .i64 n, .slice (some ⟨b, 0, none⟩) o.length cap] 107 (0, 0), .own (.slice (some ⟨b, 0, none⟩) o.length cap) o.length 5 1 (bytesV o)]) (b := b) (o := 0) o.length
      rwa [List.drop_zero, List.take_of_length_le (by simp)] at this) ?_
    conv => whnf
    repeat (first | (refine LoadV.s rfl rfl (forceV_of ?_); conv => whnf) | (refine LoadV.s rfl rfl ?_; conv => whnf) | (refine StoreV.c rfl rfl (Nat.le_of_ble_eq_true rfl) rfl ?_; conv => whnf) | (refine LoadV.a _ rfl (Nat.le_of_ble_eq_true rfl) ?_; conv => whnf) | (refine DrawI.quiet (by kernel_rfl) (by kernel_rfl) ?_; conv => whnf) | (refine ArI.in64 (by omega) ?_; conv => whnf) | (refine ArI.inU8 (by omega) ?_; conv => whnf) | (refine ArI.inU64 (by omega) ?_; conv => whnf) | (refine ArI.inU32 (by omega) ?_; conv => whnf) | (refine RetI.one Try.results41 rfl ?_; conv => whnf) | (refine RetI.two Try.results41 rfl rfl ?_; conv => whnf) | (refine RetI.three Try.results41 rfl rfl rfl ?_; conv => whnf) | (refine RetI.none Try.results41 ?_; conv => whnf) | (refine ⟨by first | decide | omega, ?_⟩; conv => whnf))
    exact ⟨_, Sub.refl _, rfl, rfl⟩
/-- A reader's memory. -/
abbrev rdH (r : Nat) (n : Int) (s : ByteArray) : Heap := [.cells r [.int .i64 n, .string s] 119 (0, 0)]
theorem bRead_ok (F : Mem) (s : ByteArray) : FT Try.prog 47 [.string s].toArray F [] (fun e H => ∃ r, e = .returned (.pointer (some ⟨r, 0, none⟩)) ∧ H = rdH r 0 s) := by
  refine FT.of_body Try.func47 rfl Try.ntmps47 (by simp) fun C hC => ?_
  subst hC
  conv => whnf
  intro r
  conv => whnf
  repeat (first | (refine LoadV.s rfl rfl (forceV_of ?_); conv => whnf) | (refine LoadV.s rfl rfl ?_; conv => whnf) | (refine StoreV.c rfl rfl (Nat.le_of_ble_eq_true rfl) rfl ?_; conv => whnf) | (refine LoadV.a _ rfl (Nat.le_of_ble_eq_true rfl) ?_; conv => whnf) | (refine DrawI.quiet (by kernel_rfl) (by kernel_rfl) ?_; conv => whnf) | (refine ArI.in64 (by omega) ?_; conv => whnf) | (refine ArI.inU8 (by omega) ?_; conv => whnf) | (refine ArI.inU64 (by omega) ?_; conv => whnf) | (refine ArI.inU32 (by omega) ?_; conv => whnf) | (refine RetI.one Try.results47 rfl ?_; conv => whnf) | (refine RetI.two Try.results47 rfl rfl ?_; conv => whnf) | (refine RetI.three Try.results47 rfl rfl rfl ?_; conv => whnf) | (refine RetI.none Try.results47 ?_; conv => whnf) | (refine ⟨by first | decide | omega, ?_⟩; conv => whnf))
  exact ⟨_, Sub.refl _, r, rfl, rfl⟩
theorem bLeft_ok (F : Mem) (r n : Nat) (s : ByteArray) (hs : s.size ≤ 140737488355328) (hn : n ≤ 8 * s.size) :
    FT Try.prog 88 [.pointer (some ⟨r, 0, none⟩)].toArray F (rdH r n s) (fun e H => e = .returned (.int .i64 (8 * (s.size : Int) - n)) ∧ H = rdH r n s) := by
  refine FT.of_body Try.func88 rfl Try.ntmps88 (by simp) fun C hC => ?_
  subst hC
  conv => whnf
  repeat (first | (refine LoadV.s rfl rfl (forceV_of ?_); conv => whnf) | (refine LoadV.s rfl rfl ?_; conv => whnf) | (refine StoreV.c rfl rfl (Nat.le_of_ble_eq_true rfl) rfl ?_; conv => whnf) | (refine LoadV.a _ rfl (Nat.le_of_ble_eq_true rfl) ?_; conv => whnf) | (refine DrawI.quiet (by kernel_rfl) (by kernel_rfl) ?_; conv => whnf) | (refine ArI.in64 (by omega) ?_; conv => whnf) | (refine ArI.inU8 (by omega) ?_; conv => whnf) | (refine ArI.inU64 (by omega) ?_; conv => whnf) | (refine ArI.inU32 (by omega) ?_; conv => whnf) | (refine RetI.one Try.results88 rfl ?_; conv => whnf) | (refine RetI.two Try.results88 rfl rfl ?_; conv => whnf) | (refine RetI.three Try.results88 rfl rfl rfl ?_; conv => whnf) | (refine RetI.none Try.results88 ?_; conv => whnf) | (refine ⟨by first | decide | omega, ?_⟩; conv => whnf))
  exact ⟨_, Sub.refl _, rfl, rfl⟩
/-- What a taking answers: the number, the error, where the reader stands behind. -/
def takeB (T : List Bool) (n : Nat) (width : Int) : Nat × Int × Nat :=
  if 1 ≤ width ∧ width ≤ 64 ∧ width.toNat ≤ T.length - n then (num ((T.drop n).take width.toNat), 0, n + width.toNat) else (0, 6, n)
theorem bTake_ok (F : Mem) (r n : Nat) (s : ByteArray) (width : Int) (hs : s.size ≤ 140737488355328) (hn : n ≤ 8 * s.size) :
    FT Try.prog 84 [.pointer (some ⟨r, 0, none⟩), .int .i64 width].toArray F (rdH r n s)
    (fun e H => e = .returned (.tuple #[.int .u64 ((takeB (textBits (txt s)) n width).1 : Nat), .int .i64 (takeB (textBits (txt s)) n width).2.1]) ∧ H = rdH r ((takeB (textBits (txt s)) n width).2.2 : Nat) s) := by
  refine FT.of_body Try.func84 rfl Try.ntmps84 (by simp) fun C hC => ?_
  subst hC
  conv => whnf
  have hT : (textBits (txt s)).length = 8 * s.size := by rw [textBits_length, txt_length]
  have bad : ¬ (1 ≤ width ∧ width ≤ 64 ∧ width.toNat ≤ 8 * s.size - n) → takeB (textBits (txt s)) n width = (0, 6, n) := fun h => by unfold takeB; rw [hT, if_neg h]
  repeat (first | (refine LoadV.s rfl rfl (forceV_of ?_); conv => whnf) | (refine LoadV.s rfl rfl ?_; conv => whnf) | (refine StoreV.c rfl rfl (Nat.le_of_ble_eq_true rfl) rfl ?_; conv => whnf) | (refine LoadV.a _ rfl (Nat.le_of_ble_eq_true rfl) ?_; conv => whnf) | (refine DrawI.quiet (by kernel_rfl) (by kernel_rfl) ?_; conv => whnf) | (refine ArI.in64 (by omega) ?_; conv => whnf) | (refine ArI.inU8 (by omega) ?_; conv => whnf) | (refine ArI.inU64 (by omega) ?_; conv => whnf) | (refine ArI.inU32 (by omega) ?_; conv => whnf) | (refine RetI.one Try.results84 rfl ?_; conv => whnf) | (refine RetI.two Try.results84 rfl rfl ?_; conv => whnf) | (refine RetI.three Try.results84 rfl rfl rfl ?_; conv => whnf) | (refine RetI.none Try.results84 ?_; conv => whnf) | (refine ⟨by first | decide | omega, ?_⟩; conv => whnf))
  refine cond_dec (fun h1 => ?_) (fun h1 => ?_)
  · rw [bad (by omega)]
    conv => whnf
    repeat (first | (refine LoadV.s rfl rfl (forceV_of ?_); conv => whnf) | (refine LoadV.s rfl rfl ?_; conv => whnf) | (refine StoreV.c rfl rfl (Nat.le_of_ble_eq_true rfl) rfl ?_; conv => whnf) | (refine LoadV.a _ rfl (Nat.le_of_ble_eq_true rfl) ?_; conv => whnf) | (refine DrawI.quiet (by kernel_rfl) (by kernel_rfl) ?_; conv => whnf) | (refine ArI.in64 (by omega) ?_; conv => whnf) | (refine ArI.inU8 (by omega) ?_; conv => whnf) | (refine ArI.inU64 (by omega) ?_; conv => whnf) | (refine ArI.inU32 (by omega) ?_; conv => whnf) | (refine RetI.one Try.results84 rfl ?_; conv => whnf) | (refine RetI.two Try.results84 rfl rfl ?_; conv => whnf) | (refine RetI.three Try.results84 rfl rfl rfl ?_; conv => whnf) | (refine RetI.none Try.results84 ?_; conv => whnf) | (refine ⟨by first | decide | omega, ?_⟩; conv => whnf))
    exact ⟨_, Sub.refl _, rfl, rfl⟩
  conv => whnf
  refine cond_dec (fun h2 => ?_) (fun h2 => ?_)
  · rw [bad (by omega)]
    conv => whnf
    repeat (first | (refine LoadV.s rfl rfl (forceV_of ?_); conv => whnf) | (refine LoadV.s rfl rfl ?_; conv => whnf) | (refine StoreV.c rfl rfl (Nat.le_of_ble_eq_true rfl) rfl ?_; conv => whnf) | (refine LoadV.a _ rfl (Nat.le_of_ble_eq_true rfl) ?_; conv => whnf) | (refine DrawI.quiet (by kernel_rfl) (by kernel_rfl) ?_; conv => whnf) | (refine ArI.in64 (by omega) ?_; conv => whnf) | (refine ArI.inU8 (by omega) ?_; conv => whnf) | (refine ArI.inU64 (by omega) ?_; conv => whnf) | (refine ArI.inU32 (by omega) ?_; conv => whnf) | (refine RetI.one Try.results84 rfl ?_; conv => whnf) | (refine RetI.two Try.results84 rfl rfl ?_; conv => whnf) | (refine RetI.three Try.results84 rfl rfl rfl ?_; conv => whnf) | (refine RetI.none Try.results84 ?_; conv => whnf) | (refine ⟨by first | decide | omega, ?_⟩; conv => whnf))
    exact ⟨_, Sub.refl _, rfl, rfl⟩
  conv => whnf
  refine CallS.mk Try.call88 ⟨[_], _, _, Sub.split [0] rfl, fun F' hF' => bLeft_ok F' r n s hs hn, ?_⟩
  rintro e A' ⟨rfl, rfl⟩
  conv => whnf
  refine cond_dec (fun h3 => ?_) (fun h3 => ?_)
  · rw [bad (by omega)]
    conv => whnf
    repeat (first | (refine LoadV.s rfl rfl (forceV_of ?_); conv => whnf) | (refine LoadV.s rfl rfl ?_; conv => whnf) | (refine StoreV.c rfl rfl (Nat.le_of_ble_eq_true rfl) rfl ?_; conv => whnf) | (refine LoadV.a _ rfl (Nat.le_of_ble_eq_true rfl) ?_; conv => whnf) | (refine DrawI.quiet (by kernel_rfl) (by kernel_rfl) ?_; conv => whnf) | (refine ArI.in64 (by omega) ?_; conv => whnf) | (refine ArI.inU8 (by omega) ?_; conv => whnf) | (refine ArI.inU64 (by omega) ?_; conv => whnf) | (refine ArI.inU32 (by omega) ?_; conv => whnf) | (refine RetI.one Try.results84 rfl ?_; conv => whnf) | (refine RetI.two Try.results84 rfl rfl ?_; conv => whnf) | (refine RetI.three Try.results84 rfl rfl rfl ?_; conv => whnf) | (refine RetI.none Try.results84 ?_; conv => whnf) | (refine ⟨by first | decide | omega, ?_⟩; conv => whnf))
    exact ⟨_, Sub.refl _, rfl, rfl⟩
  conv => whnf
  repeat (first | (refine LoadV.s rfl rfl (forceV_of ?_); conv => whnf) | (refine LoadV.s rfl rfl ?_; conv => whnf) | (refine StoreV.c rfl rfl (Nat.le_of_ble_eq_true rfl) rfl ?_; conv => whnf) | (refine LoadV.a _ rfl (Nat.le_of_ble_eq_true rfl) ?_; conv => whnf) | (refine DrawI.quiet (by kernel_rfl) (by kernel_rfl) ?_; conv => whnf) | (refine ArI.in64 (by omega) ?_; conv => whnf) | (refine ArI.inU8 (by omega) ?_; conv => whnf) | (refine ArI.inU64 (by omega) ?_; conv => whnf) | (refine ArI.inU32 (by omega) ?_; conv => whnf) | (refine RetI.one Try.results84 rfl ?_; conv => whnf) | (refine RetI.two Try.results84 rfl rfl ?_; conv => whnf) | (refine RetI.three Try.results84 rfl rfl rfl ?_; conv => whnf) | (refine RetI.none Try.results84 ?_; conv => whnf) | (refine ⟨by first | decide | omega, ?_⟩; conv => whnf))
  obtain ⟨W, rfl⟩ := Int.eq_ofNat_of_zero_le (show 0 ≤ width by omega)
  have good : takeB (textBits (txt s)) n (W : Int) = (num (((textBits (txt s)).drop n).take W), 0, n + W) := by unfold takeB; rw [hT, if_pos ⟨by omega, by omega, by simp; omega⟩]; rfl
  rw [good]
  generalize hTT : textBits (txt s) = T at hT ⊢
  refine LoopI.by_state (σ := Nat) (fun x => [(0, .pointer (some ⟨r, 0, none⟩)), (6, .int .u64 (num ((T.drop n).take (W - x)) : Nat)), (7, .int .i64 (x : Int))]) (fun x => rdH r ((n + (W - x) : Nat) : Int) s)
    (fun x => x ≤ W) (fun x => x) W (Nat.le_refl _) ⟨rfl, ?_, rfl, trivial⟩ ?_ ?_
  · show Value.int .u64 0 = _
    rw [Nat.sub_self, List.take_zero]; rfl
  · rw [Nat.sub_self]; exact Sub.refl _
  rintro left f0 hl
  conv => whnf
  refine cond_dec (fun h => ?_) (fun h => ?_)
  · obtain ⟨N, hN⟩ : ∃ N, n + (W - left) = N := ⟨_, rfl⟩
    rw [hN]
    obtain ⟨m, k, hm, hlk, hm0, hm8⟩ : ∃ m k : Nat, min (8 - (N : Int) % 8) (left : Int) = (m : Int) ∧ left = m + k ∧ 0 < m ∧ m ≤ 8 - N % 8 :=
      ⟨min (8 - N % 8) left, left - min (8 - N % 8) left, by omega, by omega, by omega, by omega⟩
    obtain ⟨j, hj⟩ : ∃ j : Nat, 8 - N % 8 = m + j := ⟨8 - N % 8 - m, by omega⟩
    have hi : N / 8 < (txt s).length := by rw [txt_length]; omega
    conv => whnf
    repeat (first | (refine LoadV.s rfl rfl (forceV_of ?_); conv => whnf) | (refine LoadV.s rfl rfl ?_; conv => whnf) | (refine StoreV.c rfl rfl (Nat.le_of_ble_eq_true rfl) rfl ?_; conv => whnf) | (refine LoadV.a _ rfl (Nat.le_of_ble_eq_true rfl) ?_; conv => whnf) | (refine DrawI.quiet (by kernel_rfl) (by kernel_rfl) ?_; conv => whnf) | (refine RetI.one Try.results84 rfl ?_; conv => whnf) | (refine RetI.two Try.results84 rfl rfl ?_; conv => whnf) | (refine RetI.three Try.results84 rfl rfl rfl ?_; conv => whnf) | (refine RetI.none Try.results84 ?_; conv => whnf) | (refine ⟨by first | decide | omega, ?_⟩; conv => whnf))
    rw [i64_and7]
    (first | (refine LoadV.s rfl rfl (forceV_of ?_); conv => whnf) | (refine LoadV.s rfl rfl ?_; conv => whnf) | (refine StoreV.c rfl rfl (Nat.le_of_ble_eq_true rfl) rfl ?_; conv => whnf) | (refine LoadV.a _ rfl (Nat.le_of_ble_eq_true rfl) ?_; conv => whnf) | (refine DrawI.quiet (by kernel_rfl) (by kernel_rfl) ?_; conv => whnf) | (refine ArI.in64 (by omega) ?_; conv => whnf) | (refine ArI.inU8 (by omega) ?_; conv => whnf) | (refine ArI.inU64 (by omega) ?_; conv => whnf) | (refine ArI.inU32 (by omega) ?_; conv => whnf) | (refine RetI.one Try.results84 rfl ?_; conv => whnf) | (refine RetI.two Try.results84 rfl rfl ?_; conv => whnf) | (refine RetI.three Try.results84 rfl rfl rfl ?_; conv => whnf) | (refine RetI.none Try.results84 ?_; conv => whnf) | (refine ⟨by first | decide | omega, ?_⟩; conv => whnf))
    repeat (first | (refine LoadV.s rfl rfl (forceV_of ?_); conv => whnf) | (refine LoadV.s rfl rfl ?_; conv => whnf) | (refine StoreV.c rfl rfl (Nat.le_of_ble_eq_true rfl) rfl ?_; conv => whnf) | (refine LoadV.a _ rfl (Nat.le_of_ble_eq_true rfl) ?_; conv => whnf) | (refine DrawI.quiet (by kernel_rfl) (by kernel_rfl) ?_; conv => whnf) | (refine RetI.one Try.results84 rfl ?_; conv => whnf) | (refine RetI.two Try.results84 rfl rfl ?_; conv => whnf) | (refine RetI.three Try.results84 rfl rfl rfl ?_; conv => whnf) | (refine RetI.none Try.results84 ?_; conv => whnf) | (refine ⟨by first | decide | omega, ?_⟩; conv => whnf))
    rw [hm]
    have hs1 : Int.fdiv (N : Int) (2 ^ min (Int.toNat 3) IntKind.i64.bits) = ((N / 8 : Nat) : Int) := shr_le (V := N) (W := 3) (k := 64) (by decide)
    rw [hs1]
    refine ⟨by omega, ?_⟩
    conv => whnf
    repeat (first | (refine LoadV.s rfl rfl (forceV_of ?_); conv => whnf) | (refine LoadV.s rfl rfl ?_; conv => whnf) | (refine StoreV.c rfl rfl (Nat.le_of_ble_eq_true rfl) rfl ?_; conv => whnf) | (refine LoadV.a _ rfl (Nat.le_of_ble_eq_true rfl) ?_; conv => whnf) | (refine DrawI.quiet (by kernel_rfl) (by kernel_rfl) ?_; conv => whnf) | (refine RetI.one Try.results84 rfl ?_; conv => whnf) | (refine RetI.two Try.results84 rfl rfl ?_; conv => whnf) | (refine RetI.three Try.results84 rfl rfl rfl ?_; conv => whnf) | (refine RetI.none Try.results84 ?_; conv => whnf) | (refine ⟨by first | decide | omega, ?_⟩; conv => whnf))
    rw [byteAt_txt s (N / 8) hi]
    refine ArI.to64 (j : Int) (by omega) (by omega) ?_
    conv => whnf
    refine ArI.inU64 (by omega) ?_
    conv => whnf
    repeat (first | (refine LoadV.s rfl rfl (forceV_of ?_); conv => whnf) | (refine LoadV.s rfl rfl ?_; conv => whnf) | (refine StoreV.c rfl rfl (Nat.le_of_ble_eq_true rfl) rfl ?_; conv => whnf) | (refine LoadV.a _ rfl (Nat.le_of_ble_eq_true rfl) ?_; conv => whnf) | (refine DrawI.quiet (by kernel_rfl) (by kernel_rfl) ?_; conv => whnf) | (refine ArI.in64 (by omega) ?_; conv => whnf) | (refine ArI.inU8 (by omega) ?_; conv => whnf) | (refine ArI.inU64 (by omega) ?_; conv => whnf) | (refine ArI.inU32 (by omega) ?_; conv => whnf) | (refine RetI.one Try.results84 rfl ?_; conv => whnf) | (refine RetI.two Try.results84 rfl rfl ?_; conv => whnf) | (refine RetI.three Try.results84 rfl rfl rfl ?_; conv => whnf) | (refine RetI.none Try.results84 ?_; conv => whnf) | (refine ⟨by first | decide | omega, ?_⟩; conv => whnf))
    refine ArI.mk _ (u8_ones m (by omega)) ?_
    conv => whnf
    have hx : (txt s)[N / 8] < 256 := txt_lt s _ (List.getElem_mem hi)
    have hpart := textBits_part (txt s) N m hi (by omega)
    rw [hTT, show 8 - N % 8 - m = j by omega] at hpart
    generalize (txt s)[N / 8] = x at hx hpart ⊢
    have hs2 : Int.fdiv (x : Int) (2 ^ min (Int.toNat (j : Int)) IntKind.u8.bits) = ((x / 2 ^ j : Nat) : Int) := shr_le (show j ≤ 8 by omega)
    have hx2 : x / 2 ^ j < 256 := Nat.lt_of_le_of_lt (Nat.div_le_self _ _) hx
    have hmod : x / 2 ^ j % 2 ^ m = num ((T.drop N).take m) := by rw [hpart, num_bitsOf]
    rw [hs2, u8_mask _ m hx2 (by omega), hmod]
    have hc : ((T.drop N).take m).length = m := by rw [List.length_take, List.length_drop]; omega
    have hcat : (T.drop n).take (W - k) = (T.drop n).take (W - left) ++ (T.drop N).take m := by
      rw [show W - k = (W - left) + m by omega, List.take_add, List.drop_drop, hN]
    have hvl : ((T.drop n).take (W - left)).length = W - left := by rw [List.length_take, List.length_drop]; omega
    have hN1 := num_lt ((T.drop N).take m)
    have hN2 := num_lt ((T.drop n).take (W - left))
    rw [hc] at hN1
    rw [hvl] at hN2
    have hnum : num ((T.drop n).take (W - k)) = num ((T.drop n).take (W - left)) * 2 ^ m + num ((T.drop N).take m) := by rw [hcat, num_append, hc]
    generalize num ((T.drop n).take (W - left)) = v at hN2 hnum ⊢
    generalize num ((T.drop N).take m) = p at hN1 hnum ⊢
    have hp8 : p < 256 := by
      have : 2 ^ m ≤ 2 ^ 8 := Nat.pow_le_pow_right (by decide) (by omega)
      omega
    have hvm : v * 2 ^ m + p < 18446744073709551616 := by
      have h1 : (v + 1) * 2 ^ m ≤ 2 ^ (W - left) * 2 ^ m := Nat.mul_le_mul_right _ hN2
      rw [← Nat.pow_add] at h1
      have h2 : 2 ^ (W - left + m) ≤ 2 ^ 64 := Nat.pow_le_pow_right (by decide) (by omega)
      rw [Nat.succ_mul] at h1
      omega
    have hs3 : IntKind.u64.wrap ((v : Int) * 2 ^ min (Int.toNat (m : Int)) IntKind.u64.bits) = ((v * 2 ^ m : Nat) : Int) := by
      rw [mul_pow_nat, wrap_u64_nat]
      have : min m IntKind.u64.bits = m := Nat.min_eq_left (show m ≤ 64 by omega)
      rw [this, Nat.mod_eq_of_lt (by omega)]
    repeat (first | (refine LoadV.s rfl rfl (forceV_of ?_); conv => whnf) | (refine LoadV.s rfl rfl ?_; conv => whnf) | (refine StoreV.c rfl rfl (Nat.le_of_ble_eq_true rfl) rfl ?_; conv => whnf) | (refine LoadV.a _ rfl (Nat.le_of_ble_eq_true rfl) ?_; conv => whnf) | (refine DrawI.quiet (by kernel_rfl) (by kernel_rfl) ?_; conv => whnf) | (refine ArI.in64 (by omega) ?_; conv => whnf) | (refine ArI.inU8 (by omega) ?_; conv => whnf) | (refine ArI.inU64 (by omega) ?_; conv => whnf) | (refine ArI.inU32 (by omega) ?_; conv => whnf) | (refine RetI.one Try.results84 rfl ?_; conv => whnf) | (refine RetI.two Try.results84 rfl rfl ?_; conv => whnf) | (refine RetI.three Try.results84 rfl rfl rfl ?_; conv => whnf) | (refine RetI.none Try.results84 ?_; conv => whnf) | (refine ⟨by first | decide | omega, ?_⟩; conv => whnf))
    rw [hs3, bits_or_u64_nat _ _ (by omega) (by omega), show v * 2 ^ m ||| p = v * 2 ^ m + p by rw [Nat.mul_comm, Nat.two_pow_add_eq_or_of_lt hN1]]
    refine CallS.mk Try.call83 ⟨[_], _, _, Sub.split [0] rfl, fun F' hF' => bAdd_ok F' r _ _ _ _ (by omega), ?_⟩
    rintro e A' ⟨rfl, rfl⟩
    conv => whnf
    refine ArI.to64 (k : Int) (by omega) (by omega) ?_
    conv => whnf
    refine ⟨k, _, by omega, Sub.refl _, by omega, ⟨rfl, ?_, rfl, trivial⟩, ?_⟩
    · rw [hnum]; rfl
    · rw [show ((n + (W - k) : Nat) : Int) = (N : Int) + (m : Int) by omega]
  · conv => whnf
    repeat (first | (refine LoadV.s rfl rfl (forceV_of ?_); conv => whnf) | (refine LoadV.s rfl rfl ?_; conv => whnf) | (refine StoreV.c rfl rfl (Nat.le_of_ble_eq_true rfl) rfl ?_; conv => whnf) | (refine LoadV.a _ rfl (Nat.le_of_ble_eq_true rfl) ?_; conv => whnf) | (refine DrawI.quiet (by kernel_rfl) (by kernel_rfl) ?_; conv => whnf) | (refine ArI.in64 (by omega) ?_; conv => whnf) | (refine ArI.inU8 (by omega) ?_; conv => whnf) | (refine ArI.inU64 (by omega) ?_; conv => whnf) | (refine ArI.inU32 (by omega) ?_; conv => whnf) | (refine RetI.one Try.results84 rfl ?_; conv => whnf) | (refine RetI.two Try.results84 rfl rfl ?_; conv => whnf) | (refine RetI.three Try.results84 rfl rfl rfl ?_; conv => whnf) | (refine RetI.none Try.results84 ?_; conv => whnf) | (refine ⟨by first | decide | omega, ?_⟩; conv => whnf))
    obtain rfl : left = 0 := by omega
    exact ⟨_, Sub.refl _, rfl, rfl⟩
/-- Is nothing left but noughts that fill a byte? -/
def doneB (T : List Bool) (n : Nat) : Bool := decide (T.length - n < 8 ∧ num (T.drop n) = 0)
theorem bDone_ok (F : Mem) (r n : Nat) (s : ByteArray) (hs : s.size ≤ 140737488355328) (hn : n ≤ 8 * s.size) :
    FT Try.prog 71 [.pointer (some ⟨r, 0, none⟩)].toArray F (rdH r n s) (fun e H => e = .returned (.bool (doneB (textBits (txt s)) n)) ∧ H = rdH r n s) := by
  refine FT.of_body Try.func71 rfl Try.ntmps71 (by simp) fun C hC => ?_
  subst hC
  conv => whnf
  have hT : (textBits (txt s)).length = 8 * s.size := by rw [textBits_length, txt_length]
  refine CallS.mk Try.call88 ⟨[_], _, _, Sub.split [0] rfl, fun F' hF' => bLeft_ok F' r n s hs hn, ?_⟩
  rintro e A' ⟨rfl, rfl⟩
  conv => whnf
  refine cond_dec (fun h1 => ?_) (fun h1 => ?_)
  · conv => whnf
    repeat (first | (refine LoadV.s rfl rfl (forceV_of ?_); conv => whnf) | (refine LoadV.s rfl rfl ?_; conv => whnf) | (refine StoreV.c rfl rfl (Nat.le_of_ble_eq_true rfl) rfl ?_; conv => whnf) | (refine LoadV.a _ rfl (Nat.le_of_ble_eq_true rfl) ?_; conv => whnf) | (refine DrawI.quiet (by kernel_rfl) (by kernel_rfl) ?_; conv => whnf) | (refine ArI.in64 (by omega) ?_; conv => whnf) | (refine ArI.inU8 (by omega) ?_; conv => whnf) | (refine ArI.inU64 (by omega) ?_; conv => whnf) | (refine ArI.inU32 (by omega) ?_; conv => whnf) | (refine RetI.one Try.results71 rfl ?_; conv => whnf) | (refine RetI.two Try.results71 rfl rfl ?_; conv => whnf) | (refine RetI.three Try.results71 rfl rfl rfl ?_; conv => whnf) | (refine RetI.none Try.results71 ?_; conv => whnf) | (refine ⟨by first | decide | omega, ?_⟩; conv => whnf))
    exact ⟨_, Sub.refl _, ret_bool (by unfold doneB; rw [decide_eq_false (by omega)]), rfl⟩
  conv => whnf
  repeat (first | (refine LoadV.s rfl rfl (forceV_of ?_); conv => whnf) | (refine LoadV.s rfl rfl ?_; conv => whnf) | (refine StoreV.c rfl rfl (Nat.le_of_ble_eq_true rfl) rfl ?_; conv => whnf) | (refine LoadV.a _ rfl (Nat.le_of_ble_eq_true rfl) ?_; conv => whnf) | (refine DrawI.quiet (by kernel_rfl) (by kernel_rfl) ?_; conv => whnf) | (refine ArI.in64 (by omega) ?_; conv => whnf) | (refine ArI.inU8 (by omega) ?_; conv => whnf) | (refine ArI.inU64 (by omega) ?_; conv => whnf) | (refine ArI.inU32 (by omega) ?_; conv => whnf) | (refine RetI.one Try.results71 rfl ?_; conv => whnf) | (refine RetI.two Try.results71 rfl rfl ?_; conv => whnf) | (refine RetI.three Try.results71 rfl rfl rfl ?_; conv => whnf) | (refine RetI.none Try.results71 ?_; conv => whnf) | (refine ⟨by first | decide | omega, ?_⟩; conv => whnf))
  refine cond_split (fun h2 => ?_) (fun h2 => ?_)
  · have h2 : 8 * (s.size : Int) - n = 0 := of_decide_eq_true h2
    conv => whnf
    repeat (first | (refine LoadV.s rfl rfl (forceV_of ?_); conv => whnf) | (refine LoadV.s rfl rfl ?_; conv => whnf) | (refine StoreV.c rfl rfl (Nat.le_of_ble_eq_true rfl) rfl ?_; conv => whnf) | (refine LoadV.a _ rfl (Nat.le_of_ble_eq_true rfl) ?_; conv => whnf) | (refine DrawI.quiet (by kernel_rfl) (by kernel_rfl) ?_; conv => whnf) | (refine ArI.in64 (by omega) ?_; conv => whnf) | (refine ArI.inU8 (by omega) ?_; conv => whnf) | (refine ArI.inU64 (by omega) ?_; conv => whnf) | (refine ArI.inU32 (by omega) ?_; conv => whnf) | (refine RetI.one Try.results71 rfl ?_; conv => whnf) | (refine RetI.two Try.results71 rfl rfl ?_; conv => whnf) | (refine RetI.three Try.results71 rfl rfl rfl ?_; conv => whnf) | (refine RetI.none Try.results71 ?_; conv => whnf) | (refine ⟨by first | decide | omega, ?_⟩; conv => whnf))
    have hd : (textBits (txt s)).drop n = [] := List.drop_of_length_le (by omega)
    exact ⟨_, Sub.refl _, ret_bool (by unfold doneB; rw [hd, decide_eq_true ⟨by omega, rfl⟩]), rfl⟩
  · have h2 : ¬ 8 * (s.size : Int) - n = 0 := of_decide_eq_false h2
    obtain ⟨L, hL⟩ : ∃ L, 8 * s.size - n = L := ⟨_, rfl⟩
    have hLi : 8 * (s.size : Int) - n = (L : Int) := by omega
    have hi : s.size - 1 < (txt s).length := by rw [txt_length]; omega
    conv => whnf
    rw [hLi]
    repeat (first | (refine LoadV.s rfl rfl (forceV_of ?_); conv => whnf) | (refine LoadV.s rfl rfl ?_; conv => whnf) | (refine StoreV.c rfl rfl (Nat.le_of_ble_eq_true rfl) rfl ?_; conv => whnf) | (refine LoadV.a _ rfl (Nat.le_of_ble_eq_true rfl) ?_; conv => whnf) | (refine DrawI.quiet (by kernel_rfl) (by kernel_rfl) ?_; conv => whnf) | (refine RetI.one Try.results71 rfl ?_; conv => whnf) | (refine RetI.two Try.results71 rfl rfl ?_; conv => whnf) | (refine RetI.three Try.results71 rfl rfl rfl ?_; conv => whnf) | (refine RetI.none Try.results71 ?_; conv => whnf) | (refine ⟨by first | decide | omega, ?_⟩; conv => whnf))
    refine ArI.to64 ((s.size - 1 : Nat) : Int) (by omega) (by omega) ?_
    conv => whnf
    repeat (first | (refine LoadV.s rfl rfl (forceV_of ?_); conv => whnf) | (refine LoadV.s rfl rfl ?_; conv => whnf) | (refine StoreV.c rfl rfl (Nat.le_of_ble_eq_true rfl) rfl ?_; conv => whnf) | (refine LoadV.a _ rfl (Nat.le_of_ble_eq_true rfl) ?_; conv => whnf) | (refine DrawI.quiet (by kernel_rfl) (by kernel_rfl) ?_; conv => whnf) | (refine ArI.in64 (by omega) ?_; conv => whnf) | (refine ArI.inU8 (by omega) ?_; conv => whnf) | (refine ArI.inU64 (by omega) ?_; conv => whnf) | (refine ArI.inU32 (by omega) ?_; conv => whnf) | (refine RetI.one Try.results71 rfl ?_; conv => whnf) | (refine RetI.two Try.results71 rfl rfl ?_; conv => whnf) | (refine RetI.three Try.results71 rfl rfl rfl ?_; conv => whnf) | (refine RetI.none Try.results71 ?_; conv => whnf) | (refine ⟨by first | decide | omega, ?_⟩; conv => whnf))
    rw [byteAt_txt s (s.size - 1) hi]
    refine ArI.mk _ (u8_ones L (by omega)) ?_
    conv => whnf
    have hx := txt_lt s _ (List.getElem_mem hi)
    rw [u8_mask _ L hx (by omega)]
    repeat (first | (refine LoadV.s rfl rfl (forceV_of ?_); conv => whnf) | (refine LoadV.s rfl rfl ?_; conv => whnf) | (refine StoreV.c rfl rfl (Nat.le_of_ble_eq_true rfl) rfl ?_; conv => whnf) | (refine LoadV.a _ rfl (Nat.le_of_ble_eq_true rfl) ?_; conv => whnf) | (refine DrawI.quiet (by kernel_rfl) (by kernel_rfl) ?_; conv => whnf) | (refine ArI.in64 (by omega) ?_; conv => whnf) | (refine ArI.inU8 (by omega) ?_; conv => whnf) | (refine ArI.inU64 (by omega) ?_; conv => whnf) | (refine ArI.inU32 (by omega) ?_; conv => whnf) | (refine RetI.one Try.results71 rfl ?_; conv => whnf) | (refine RetI.two Try.results71 rfl rfl ?_; conv => whnf) | (refine RetI.three Try.results71 rfl rfl rfl ?_; conv => whnf) | (refine RetI.none Try.results71 ?_; conv => whnf) | (refine ⟨by first | decide | omega, ?_⟩; conv => whnf))
    have hpart := textBits_part (txt s) n L (by rw [txt_length]; omega) (by omega)
    have hdrop : ((textBits (txt s)).drop n).take L = (textBits (txt s)).drop n := List.take_of_length_le (by rw [List.length_drop]; omega)
    rw [hdrop, show 8 - n % 8 - L = 0 by omega] at hpart
    have hidx : (txt s)[n / 8]'(by rw [txt_length]; omega) = (txt s)[s.size - 1] := by congr 1; omega
    rw [hidx, Nat.pow_zero, Nat.div_one] at hpart
    refine ⟨_, Sub.refl _, ret_bool ?_, rfl⟩
    unfold doneB
    rw [hpart, num_bitsOf, hT, hL]
    show ((((txt s)[s.size - 1] % 2 ^ L : Nat) : Int) == 0) = _
    by_cases h0 : (txt s)[s.size - 1] % 2 ^ L = 0
    · rw [decide_eq_true ⟨by omega, h0⟩, h0]; rfl
    · rw [decide_eq_false (fun h => h0 h.2), beq_eq_false_iff_ne]
      exact fun e => h0 (by exact_mod_cast e)
end Go.Proofs.Ytlbdnkkaacccoaa
