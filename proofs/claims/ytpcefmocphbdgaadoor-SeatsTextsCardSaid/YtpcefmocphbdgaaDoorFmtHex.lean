/- strconv's digits of base 16. -/
import Derived.Test.YtpcefmocphbdgaaDoorHexLaw
import Derived.Test.YtpcefmocphbdgaaDoorBitsInt
namespace Go.Proofs.YtpcefmocphbdgaaDoor
set_option linter.unusedVariables false
set_option linter.unusedSimpArgs false
set_option maxRecDepth 100000
open SL Go.RowKit Go.Maps

theorem pow2_ok (F : Mem) : FT Tryd.prog 72 [.int .i64 16].toArray F [] (Ret (.bool true)) := by
  refine FT.of_body Tryd.func72 rfl Tryd.ntmps72 (by simp) fun C hC => ?_
  subst hC
  conv => whnf
  refine ArI.mk 15 (by decide +kernel) ?_
  conv => whnf
  rw [show bits .and .i64 16 15 = 0 by decide +kernel]
  conv => whnf
  repeat (first | (refine LoadV.s rfl rfl (forceV_of ?_); conv => whnf) | (refine LoadV.s rfl rfl ?_; conv => whnf) | (refine StoreV.c rfl rfl (Nat.le_of_ble_eq_true rfl) rfl ?_; conv => whnf) | (refine LoadV.a _ rfl (Nat.le_of_ble_eq_true rfl) ?_; conv => whnf) | (refine DrawI.quiet (by kernel_rfl) (by kernel_rfl) ?_; conv => whnf) | (refine ArI.in64 (by omega) ?_; conv => whnf) | (refine ArI.inU8 (by omega) ?_; conv => whnf) | (refine ArI.inU64 (by omega) ?_; conv => whnf) | (refine ArI.inU32 (by omega) ?_; conv => whnf) | (refine RetI.one Tryd.results72 rfl ?_; conv => whnf) | (refine RetI.two Tryd.results72 rfl rfl ?_; conv => whnf) | (refine RetI.three Tryd.results72 rfl rfl rfl ?_; conv => whnf) | (refine RetI.none Tryd.results72 ?_; conv => whnf) | (refine ⟨by first | decide | omega, ?_⟩; conv => whnf))
  exact ⟨_, Sub.refl _, rfl, rfl⟩
/-- What the table of trailing noughts holds at the place of 16. -/
def Tab (F : Mem) : Prop := RdC F ⟨0, 15, none⟩ (.int .u8 4)
theorem trail64_ok (F : Mem) (ht : Tab F) : FT Tryd.prog 37 [.int .u64 16].toArray F [] (Ret (.int .i64 4)) := by
  refine FT.of_body Tryd.func37 rfl Tryd.ntmps37 (by simp) fun C hC => ?_
  subst hC
  conv => whnf
  refine ArI.mk 4573923408821661840 (by decide +kernel) ?_
  conv => whnf
  refine ⟨by decide, ?_⟩
  conv => whnf
  rw [show Int.fdiv 4573923408821661840 (2 ^ min (Int.toNat 58) IntKind.u64.bits) = 15 by decide +kernel]
  refine ⟨by decide, ?_⟩
  conv => whnf
  refine LoadV.f (show RdC C.F ⟨0, elemOff 0 15 1, none⟩ _ from ht) rfl ?_
  conv => whnf
  refine ArI.in64 (by decide) ?_
  conv => whnf
  repeat (first | (refine LoadV.s rfl rfl (forceV_of ?_); conv => whnf) | (refine LoadV.s rfl rfl ?_; conv => whnf) | (refine StoreV.c rfl rfl (Nat.le_of_ble_eq_true rfl) rfl ?_; conv => whnf) | (refine LoadV.a _ rfl (Nat.le_of_ble_eq_true rfl) ?_; conv => whnf) | (refine DrawI.quiet (by kernel_rfl) (by kernel_rfl) ?_; conv => whnf) | (refine ArI.in64 (by omega) ?_; conv => whnf) | (refine ArI.inU8 (by omega) ?_; conv => whnf) | (refine ArI.inU64 (by omega) ?_; conv => whnf) | (refine ArI.inU32 (by omega) ?_; conv => whnf) | (refine RetI.one Tryd.results37 rfl ?_; conv => whnf) | (refine RetI.two Tryd.results37 rfl rfl ?_; conv => whnf) | (refine RetI.three Tryd.results37 rfl rfl rfl ?_; conv => whnf) | (refine RetI.none Tryd.results37 ?_; conv => whnf) | (refine ⟨by first | decide | omega, ?_⟩; conv => whnf))
  exact ⟨_, Sub.refl _, rfl, rfl⟩
theorem Tab.ext {F F' : Mem} {B : Heap} (h : Tab F) (he : Ext F B F') : Tab F' := RdC.ext h he.F
theorem trail_ok (F : Mem) (ht : Tab F) : FT Tryd.prog 73 [.int .u64 16].toArray F [] (Ret (.int .i64 4)) := by
  refine FT.of_body Tryd.func73 rfl Tryd.ntmps73 (by simp) fun C hC => ?_
  subst hC
  conv => whnf
  refine CallS.mk Tryd.call37 ⟨[], _, _, Sub.refl _, fun F' hF' => trail64_ok F' (ht.ext hF'), ?_⟩
  rintro e A' ⟨rfl, rfl⟩
  conv => whnf
  repeat (first | (refine LoadV.s rfl rfl (forceV_of ?_); conv => whnf) | (refine LoadV.s rfl rfl ?_; conv => whnf) | (refine StoreV.c rfl rfl (Nat.le_of_ble_eq_true rfl) rfl ?_; conv => whnf) | (refine LoadV.a _ rfl (Nat.le_of_ble_eq_true rfl) ?_; conv => whnf) | (refine DrawI.quiet (by kernel_rfl) (by kernel_rfl) ?_; conv => whnf) | (refine ArI.in64 (by omega) ?_; conv => whnf) | (refine ArI.inU8 (by omega) ?_; conv => whnf) | (refine ArI.inU64 (by omega) ?_; conv => whnf) | (refine ArI.inU32 (by omega) ?_; conv => whnf) | (refine RetI.one Tryd.results73 rfl ?_; conv => whnf) | (refine RetI.two Tryd.results73 rfl rfl ?_; conv => whnf) | (refine RetI.three Tryd.results73 rfl rfl rfl ?_; conv => whnf) | (refine RetI.none Tryd.results73 ?_; conv => whnf) | (refine ⟨by first | decide | omega, ?_⟩; conv => whnf))
  exact ⟨_, Sub.refl _, rfl, rfl⟩
theorem digs_ok : ∀ k : Fin 16, byteAt ⟨#[48, 49, 50, 51, 52, 53, 54, 55, 56, 57, 97, 98, 99, 100, 101, 102, 103, 104, 105, 106, 107, 108, 109, 110, 111, 112, 113, 114, 115, 116, 117, 118, 119, 120, 121, 122]⟩ ((k.1 : Nat) : Int) = ((hexDig k.1 : Nat) : Int) := by decide +kernel
theorem putAt_dig (i d : Nat) (D : List Nat) : putAt (bytesV (List.replicate (i + 1) 0 ++ D)) (0 + i) [.int .u8 (d : Int)] = bytesV (List.replicate i 0 ++ d :: D) := by
  have e : bytesV (List.replicate (i + 1) 0 ++ D) = bytesV (List.replicate i 0) ++ (.int .u8 0 :: bytesV D) := by
    rw [List.replicate_succ']; simp
  unfold putAt
  rw [Nat.zero_add, e, List.take_append_of_le_length (by simp), List.take_of_length_le (by simp)]
  rw [List.drop_append, List.drop_of_length_le (by simp)]
  simp
theorem fmtBits_ok (F : Mem) (ht : Tab F) (n : Nat) (hn : n < 18446744073709551616) :
    FT Tryd.prog 57 [.slice none 0 0, .int .u64 (n : Int), .int .i64 16, .bool false, .bool false].toArray F [] (Ret (.tuple #[.slice none 0 0, .string (strB (hexMin n))])) := by
  have hmax := (hexMin_L 15 n hn).1
  refine FT.of_body Tryd.func57 rfl Tryd.ntmps57 (by simp) fun C hC => ?_
  subst hC
  conv => whnf
  intro b
  conv => whnf
  refine CallS.mk Tryd.call72 ⟨[], _, _, Sub.refl _, fun F' hF' => pow2_ok F', ?_⟩
  rintro e A' ⟨rfl, rfl⟩
  conv => whnf
  refine ArI.inU64 (by decide) ?_
  conv => whnf
  refine CallS.mk Tryd.call73 ⟨[], _, _, Sub.refl _, fun F' hF' => trail_ok F' (ht.ext hF'), ?_⟩
  rintro e A' ⟨rfl, rfl⟩
  conv => whnf
  refine ArI.inU64 (by decide) ?_
  conv => whnf
  refine ArI.inU64 (by decide) ?_
  conv => whnf
  refine ArI.inU64 (by decide) ?_
  conv => whnf
  refine ArI.mk 15 (by decide +kernel) ?_
  conv => whnf
  refine LoopI.by_state (σ := Nat × List Nat) (fun x => [(1, .int .u64 (x.1 : Int)), (3, .bool false), (4, .bool false), (10, .slice none 0 0), (12, .pointer (some ⟨b, 0, none⟩)), (13, .int .i64 ((65 - x.2.length : Nat) : Int)), (14, .int .u64 4), (15, .int .u64 16), (16, .int .u64 15)])
    (fun x => [.cells b (bytesV (List.replicate (65 - x.2.length) 0 ++ x.2)) 94 (0, 0)]) (fun x => x.1 < 18446744073709551616 ∧ hexMin n = hexMin x.1 ++ x.2) (fun x => x.1) (n, []) ⟨hn, by simp⟩ ⟨rfl, rfl, rfl, rfl, rfl, rfl, rfl, rfl, rfl, trivial⟩ (Sub.refl _) ?_
  rintro ⟨u, D⟩ f0 ⟨hu, hD⟩
  dsimp only at hu hD ⊢
  have hlen : (hexMin u).length + D.length ≤ 16 := by rw [hD, List.length_append] at hmax; exact hmax
  have hpos := hexMin_pos u
  obtain ⟨i, hi⟩ : ∃ i, 65 - D.length = i + 1 := ⟨64 - D.length, by omega⟩
  rw [hi]
  conv => whnf
  refine cond_dec (fun h => ?_) (fun h => ?_)
  · have hbig := hexMin_big (show ¬ u < 16 by omega)
    conv => whnf
    refine ArI.to64 (i : Int) (by omega) (by omega) ?_
    conv => whnf
    have hand : bits .and .u64 (u : Int) 15 = ((u % 16 : Nat) : Int) := by
      rw [show (15 : Int) = ((15 : Nat) : Int) from rfl, u64_and_nat u 15 hu (by decide), Nat.and_two_pow_sub_one_eq_mod u 4]
    have hk : u % 16 < 16 := Nat.mod_lt _ (by decide)
    rw [hand]
    have hdig := digs_ok ⟨u % 16, hk⟩
    dsimp only at hdig
    refine ⟨⟨by omega, by show ((u % 16 : Nat) : Int) < ((36 : Nat) : Int); omega⟩, forceV_of ?_⟩
    rw [hdig]
    conv => whnf
    refine ⟨by omega, ?_⟩
    conv => whnf
    refine StoreV.c (l := bytesV (List.replicate (i + 1) 0 ++ D)) rfl rfl (by show 0 + i + 1 ≤ _; simp) rfl ?_
    rw [show elemOff 0 (i : Int) (Tryd.prog.types[5]'(by decide)).size = 0 + i from rfl, show (Value.int IntKind.u8 ((hexDig (u % 16) : Nat) : Int)).cells.toList = [.int .u8 ((hexDig (u % 16) : Nat) : Int)] from rfl, putAt_dig i (hexDig (u % 16)) D]
    conv => whnf
    refine ⟨by decide, ?_⟩
    conv => whnf
    rw [show Int.fdiv (u : Int) (2 ^ min (Int.toNat 4) IntKind.u64.bits) = ((u / 16 : Nat) : Int) from shr_le (V := u) (W := 4) (by decide)]
    have hi2 : 65 - (hexDig (u % 16) :: D).length = i := by simp; omega
    refine ⟨(u / 16, hexDig (u % 16) :: D), _, by dsimp only; omega, Sub.refl _, ⟨by dsimp only; omega, by dsimp only; rw [hD, hbig]; simp⟩, ⟨rfl, rfl, rfl, rfl, rfl, by dsimp only; rw [hi2]; rfl, rfl, rfl, rfl, trivial⟩, ?_⟩
    dsimp only
    rw [hi2]
  · have hsm := hexMin_small (show u < 16 by omega)
    conv => whnf
    refine ArI.to64 (i : Int) (by omega) (by omega) ?_
    conv => whnf
    have hk : u < 16 := by omega
    have hdig := digs_ok ⟨u, hk⟩
    dsimp only at hdig
    refine ⟨⟨by omega, by show (u : Int) < ((36 : Nat) : Int); omega⟩, forceV_of ?_⟩
    rw [hdig]
    conv => whnf
    refine ⟨by omega, ?_⟩
    conv => whnf
    refine StoreV.c (l := bytesV (List.replicate (i + 1) 0 ++ D)) rfl rfl (by show 0 + i + 1 ≤ _; simp) rfl ?_
    rw [show elemOff 0 (i : Int) (Tryd.prog.types[5]'(by decide)).size = 0 + i from rfl, show (Value.int IntKind.u8 ((hexDig (u) : Nat) : Int)).cells.toList = [.int .u8 ((hexDig (u) : Nat) : Int)] from rfl, putAt_dig i (hexDig (u)) D]
    conv => whnf
    have hlen2 : D.length + 1 = (hexMin n).length := by rw [hD, hsm]; simp [Nat.add_comm]
    refine DoV.arr_l (n := 65) (by kernel_rfl) (by kernel_rfl) rfl rfl (by omega) (by omega) ?_
    conv => whnf
    have hall : hexMin n = hexDig u :: D := by rw [hD, hsm]; rfl
    refine DoV.bytes_string (l := hexMin n) Tryd.underlying65 Tryd.underlying5 Tryd.underlying9 (by omega) (by
      have := Row.cells (C := C) (H := [.cells b (bytesV (List.replicate i 0 ++ hexDig u :: D)) 94 (0, 0)]) (b := b) (o := i) (D.length + 1)
      rw [hall]
      have e : ((bytesV (List.replicate i 0 ++ hexDig u :: D)).drop i).take (D.length + 1) = bytesV (hexDig u :: D) := by
        rw [show bytesV (List.replicate i 0 ++ hexDig u :: D) = bytesV (List.replicate i 0) ++ bytesV (hexDig u :: D) from List.map_append, List.drop_append_of_le_length (by simp), List.drop_of_length_le (by simp), List.nil_append, List.take_of_length_le (by simp)]
      rwa [e] at this) ?_
    conv => whnf
    repeat (first | (refine LoadV.s rfl rfl (forceV_of ?_); conv => whnf) | (refine LoadV.s rfl rfl ?_; conv => whnf) | (refine StoreV.c rfl rfl (Nat.le_of_ble_eq_true rfl) rfl ?_; conv => whnf) | (refine LoadV.a _ rfl (Nat.le_of_ble_eq_true rfl) ?_; conv => whnf) | (refine DrawI.quiet (by kernel_rfl) (by kernel_rfl) ?_; conv => whnf) | (refine ArI.in64 (by omega) ?_; conv => whnf) | (refine ArI.inU8 (by omega) ?_; conv => whnf) | (refine ArI.inU64 (by omega) ?_; conv => whnf) | (refine ArI.inU32 (by omega) ?_; conv => whnf) | (refine RetI.one Tryd.results57 rfl ?_; conv => whnf) | (refine RetI.two Tryd.results57 rfl rfl ?_; conv => whnf) | (refine RetI.three Tryd.results57 rfl rfl rfl ?_; conv => whnf) | (refine RetI.none Tryd.results57 ?_; conv => whnf) | (refine ⟨by first | decide | omega, ?_⟩; conv => whnf))
    exact ⟨_, Sub.sel [] rfl, rfl, rfl⟩
theorem ifmt_ok (F : Mem) (ht : Tab F) (n : Nat) (hn : n < 18446744073709551616) : FT Tryd.prog 45 [.int .u64 (n : Int), .int .i64 16].toArray F [] (Ret (.string (strB (hexMin n)))) := by
  refine FT.of_body Tryd.func45 rfl Tryd.ntmps45 (by simp) fun C hC => ?_
  subst hC
  conv => whnf
  refine CallS.mk Tryd.call57 ⟨[], _, _, Sub.refl _, fun F' hF' => fmtBits_ok F' (ht.ext hF') n hn, ?_⟩
  rintro e A' ⟨rfl, rfl⟩
  conv => whnf
  repeat (first | (refine LoadV.s rfl rfl (forceV_of ?_); conv => whnf) | (refine LoadV.s rfl rfl ?_; conv => whnf) | (refine StoreV.c rfl rfl (Nat.le_of_ble_eq_true rfl) rfl ?_; conv => whnf) | (refine LoadV.a _ rfl (Nat.le_of_ble_eq_true rfl) ?_; conv => whnf) | (refine DrawI.quiet (by kernel_rfl) (by kernel_rfl) ?_; conv => whnf) | (refine ArI.in64 (by omega) ?_; conv => whnf) | (refine ArI.inU8 (by omega) ?_; conv => whnf) | (refine ArI.inU64 (by omega) ?_; conv => whnf) | (refine ArI.inU32 (by omega) ?_; conv => whnf) | (refine RetI.one Tryd.results45 rfl ?_; conv => whnf) | (refine RetI.two Tryd.results45 rfl rfl ?_; conv => whnf) | (refine RetI.three Tryd.results45 rfl rfl rfl ?_; conv => whnf) | (refine RetI.none Tryd.results45 ?_; conv => whnf) | (refine ⟨by first | decide | omega, ?_⟩; conv => whnf))
  exact ⟨_, Sub.refl _, rfl, rfl⟩
theorem fmt_ok (F : Mem) (ht : Tab F) (n : Nat) (hn : n < 18446744073709551616) : FT Tryd.prog 40 [.int .u64 (n : Int), .int .i64 16].toArray F [] (Ret (.string (strB (hexMin n)))) := by
  refine FT.of_body Tryd.func40 rfl Tryd.ntmps40 (by simp) fun C hC => ?_
  subst hC
  conv => whnf
  refine CallS.mk Tryd.call45 ⟨[], _, _, Sub.refl _, fun F' hF' => ifmt_ok F' (ht.ext hF') n hn, ?_⟩
  rintro e A' ⟨rfl, rfl⟩
  conv => whnf
  repeat (first | (refine LoadV.s rfl rfl (forceV_of ?_); conv => whnf) | (refine LoadV.s rfl rfl ?_; conv => whnf) | (refine StoreV.c rfl rfl (Nat.le_of_ble_eq_true rfl) rfl ?_; conv => whnf) | (refine LoadV.a _ rfl (Nat.le_of_ble_eq_true rfl) ?_; conv => whnf) | (refine DrawI.quiet (by kernel_rfl) (by kernel_rfl) ?_; conv => whnf) | (refine ArI.in64 (by omega) ?_; conv => whnf) | (refine ArI.inU8 (by omega) ?_; conv => whnf) | (refine ArI.inU64 (by omega) ?_; conv => whnf) | (refine ArI.inU32 (by omega) ?_; conv => whnf) | (refine RetI.one Tryd.results40 rfl ?_; conv => whnf) | (refine RetI.two Tryd.results40 rfl rfl ?_; conv => whnf) | (refine RetI.three Tryd.results40 rfl rfl rfl ?_; conv => whnf) | (refine RetI.none Tryd.results40 ?_; conv => whnf) | (refine ⟨by first | decide | omega, ?_⟩; conv => whnf))
  exact ⟨_, Sub.refl _, rfl, rfl⟩
end Go.Proofs.YtpcefmocphbdgaaDoor
