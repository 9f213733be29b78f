/- The laws of the sum, as contracts. -/
import Derived.Test.YtigbpmiemlejaaaDoorSum3
namespace Go.Proofs.YtigbpmiemlejaaaDoor
set_option linter.unusedVariables false
set_option linter.unusedSimpArgs false
open SL Go.RowKit Go.Maps

theorem crcS_lt (n : Nat) (s : ByteArray) : crc (4294967295 - n) (txt s) < 4294967296 := crc_lt _ _ (txt_lt s) (by omega)
theorem extN_append (n : Nat) (a b : ByteArray) : extN (extN n (txt a)) (txt b) = extN n (txt (a ++ b)) := by
  have h := crcS_lt n a
  rw [txt_append, extN, extN, extN, crc_append, show 4294967295 - (4294967295 - crc (4294967295 - n) (txt a)) = crc (4294967295 - n) (txt a) by omega]
theorem extN_nil (n : Nat) (hn : n < 4294967296) : extN n (txt ⟨#[]⟩) = n := by show 4294967295 - (4294967295 - n) = n; omega
theorem joins_ok (F : Mem) (ht : Tab F) (n : Nat) (a b : ByteArray) (hn : n < 4294967296) (ha : a.size ≤ 140737488355328) (hb : b.size ≤ 140737488355328) :
    FT Tryd.prog 3 [.int .u32 (n : Int), .string a, .string b].toArray F [] (Ret (.bool true)) := by
  have hab : (a ++ b).size ≤ 281474976710656 := by rw [ByteArray.size_append]; omega
  refine FT.of_body Tryd.func3 rfl Tryd.ntmps3 (by simp) fun C hC => ?_
  subst hC
  conv => whnf
  refine CallS.mk Tryd.call8 ⟨[], _, _, Sub.refl _, fun F' hF' => lives04_ok F' (ht.ext hF'), ?_⟩
  rintro e A' ⟨rfl, rfl⟩
  conv => whnf
  refine CallS.mk Tryd.call10 ⟨[], _, _, Sub.refl _, fun F' hF' => sum_ok F' a (by omega), ?_⟩
  rintro e A' ⟨rfl, rfl⟩
  conv => whnf
  refine CallS.mk Tryd.call9 ⟨[], _, _, Sub.refl _, fun F' hF' => ext_ok F' _ b (extN_lt _ _) (by omega), ?_⟩
  rw [extN_append]
  rintro e A' ⟨rfl, rfl⟩
  conv => whnf
  refine ⟨by omega, ?_⟩
  conv => whnf
  refine CallS.mk Tryd.call10 ⟨[], _, _, Sub.refl _, fun F' hF' => sum_ok F' (a ++ b) (by omega), ?_⟩
  rintro e A' ⟨rfl, rfl⟩
  conv => whnf
  rw [show (((extN 0 (txt (a ++ b)) : Nat) : Int) == ((extN 0 (txt (a ++ b)) : Nat) : Int)) = true from beq_self_eq_true _]
  conv => whnf
  refine CallS.mk Tryd.call9 ⟨[], _, _, Sub.refl _, fun F' hF' => ext_ok F' n ⟨#[]⟩ hn (by decide), ?_⟩
  rw [extN_nil n hn]
  rintro e A' ⟨rfl, rfl⟩
  conv => whnf
  rw [show ((n : Int) == (n : Int)) = true from beq_self_eq_true _]
  conv => whnf
  refine CallS.mk Tryd.call9 ⟨[], _, _, Sub.refl _, fun F' hF' => ext_ok F' n a hn (by omega), ?_⟩
  rintro e A' ⟨rfl, rfl⟩
  conv => whnf
  refine CallS.mk Tryd.call9 ⟨[], _, _, Sub.refl _, fun F' hF' => ext_ok F' _ b (extN_lt _ _) (by omega), ?_⟩
  rw [extN_append]
  rintro e A' ⟨rfl, rfl⟩
  conv => whnf
  refine ⟨by omega, ?_⟩
  conv => whnf
  refine CallS.mk Tryd.call9 ⟨[], _, _, Sub.refl _, fun F' hF' => ext_ok F' n (a ++ b) hn (by omega), ?_⟩
  rintro e A' ⟨rfl, rfl⟩
  conv => whnf
  repeat (first | (refine LoadV.s rfl rfl (forceV_of ?_); conv => whnf) | (refine LoadV.s rfl rfl ?_; conv => whnf) | (refine StoreV.c rfl rfl (Nat.le_of_ble_eq_true rfl) rfl ?_; conv => whnf) | (refine LoadV.a _ rfl (Nat.le_of_ble_eq_true rfl) ?_; conv => whnf) | (refine DrawI.quiet (by kernel_rfl) (by kernel_rfl) ?_; conv => whnf) | (refine ArI.in64 (by omega) ?_; conv => whnf) | (refine ArI.inU8 (by omega) ?_; conv => whnf) | (refine ArI.inU64 (by omega) ?_; conv => whnf) | (refine ArI.inU32 (by omega) ?_; conv => whnf) | (refine RetI.one Tryd.results3 rfl ?_; conv => whnf) | (refine RetI.two Tryd.results3 rfl rfl ?_; conv => whnf) | (refine RetI.three Tryd.results3 rfl rfl rfl ?_; conv => whnf) | (refine RetI.none Tryd.results3 ?_; conv => whnf) | (refine ⟨by first | decide | omega, ?_⟩; conv => whnf))
  exact ⟨_, Sub.refl _, ret_bool (beq_self_eq_true _), rfl⟩
theorem exact_ok (F : Mem) (ht : Tab F) (n : Nat) (s : ByteArray) (hn : n < 4294967296) (hs : s.size ≤ 140737488355328) :
    FT Tryd.prog 6 [.int .u32 (n : Int), .string s].toArray F [] (Ret (.bool true)) := by
  refine FT.of_body Tryd.func6 rfl Tryd.ntmps6 (by simp) fun C hC => ?_
  subst hC
  conv => whnf
  refine CallS.mk Tryd.call8 ⟨[], _, _, Sub.refl _, fun F' hF' => lives04_ok F' (ht.ext hF'), ?_⟩
  rintro e A' ⟨rfl, rfl⟩
  conv => whnf
  refine CallS.mk Tryd.call10 ⟨[], _, _, Sub.refl _, fun F' hF' => sum_ok F' s (by omega), ?_⟩
  rintro e A' ⟨rfl, rfl⟩
  conv => whnf
  refine CallS.mk Tryd.call11 ⟨[], _, _, Sub.refl _, fun F' hF' => rsum_ok F' s (by omega), ?_⟩
  rintro e A' ⟨rfl, rfl⟩
  conv => whnf
  rw [show (((extN 0 (txt s) : Nat) : Int) != ((extN 0 (txt s) : Nat) : Int)) = false from bne_self_eq_false _]
  conv => whnf
  refine CallS.mk Tryd.call9 ⟨[], _, _, Sub.refl _, fun F' hF' => ext_ok F' n s hn (by omega), ?_⟩
  rintro e A' ⟨rfl, rfl⟩
  conv => whnf
  refine CallS.mk Tryd.call12 ⟨[], _, _, Sub.refl _, fun F' hF' => rext_ok F' n s hn (by omega), ?_⟩
  rintro e A' ⟨rfl, rfl⟩
  conv => whnf
  rw [show (((extN n (txt s) : Nat) : Int) != ((extN n (txt s) : Nat) : Int)) = false from bne_self_eq_false _]
  conv => whnf
  refine CallS.mk Tryd.call13 ⟨[], _, _, Sub.refl _, fun F' hF' => unbytes_ok F' s (by omega), ?_⟩
  rintro e A' ⟨rfl, rfl⟩
  conv => whnf
  refine CallS.mk Tryd.call14 ⟨[], _, _, Sub.refl _, fun F' hF' => runbytes_ok F' s (by omega), ?_⟩
  rintro e A' ⟨rfl, rfl⟩
  generalize unbytesR (txt s) = R
  obtain ⟨x, er⟩ := R
  dsimp only
  conv => whnf
  rw [show ((x : Int) == (x : Int)) = true from beq_self_eq_true _]
  conv => whnf
  rw [show (er == er) = true from beq_self_eq_true _]
  conv => whnf
  refine CallS.mk Tryd.call15 ⟨[], _, _, Sub.refl _, fun F' hF' => bytes_ok F' n hn, ?_⟩
  rintro e A' ⟨rfl, rfl⟩
  conv => whnf
  refine CallS.mk Tryd.call16 ⟨[], _, _, Sub.refl _, fun F' hF' => rbytes_ok F' n hn, ?_⟩
  rintro e A' ⟨rfl, rfl⟩
  generalize strB (bytesN n) = y
  conv => whnf
  rw [show (y.toList == y.toList) = true from beq_self_eq_true _]
  conv => whnf
  refine CallS.mk Tryd.call17 ⟨[], _, _, Sub.refl _, fun F' hF' => hex_ok F' (ht.ext hF') n hn, ?_⟩
  rintro e A' ⟨rfl, rfl⟩
  conv => whnf
  refine CallS.mk Tryd.call18 ⟨[], _, _, Sub.refl _, fun F' hF' => rhex_ok F' n hn, ?_⟩
  rintro e A' ⟨rfl, rfl⟩
  generalize strB (hexL 8 n) = z
  conv => whnf
  repeat (first | (refine LoadV.s rfl rfl (forceV_of ?_); conv => whnf) | (refine LoadV.s rfl rfl ?_; conv => whnf) | (refine StoreV.c rfl rfl (Nat.le_of_ble_eq_true rfl) rfl ?_; conv => whnf) | (refine LoadV.a _ rfl (Nat.le_of_ble_eq_true rfl) ?_; conv => whnf) | (refine DrawI.quiet (by kernel_rfl) (by kernel_rfl) ?_; conv => whnf) | (refine ArI.in64 (by omega) ?_; conv => whnf) | (refine ArI.inU8 (by omega) ?_; conv => whnf) | (refine ArI.inU64 (by omega) ?_; conv => whnf) | (refine ArI.inU32 (by omega) ?_; conv => whnf) | (refine RetI.one Tryd.results6 rfl ?_; conv => whnf) | (refine RetI.two Tryd.results6 rfl rfl ?_; conv => whnf) | (refine RetI.three Tryd.results6 rfl rfl rfl ?_; conv => whnf) | (refine RetI.none Tryd.results6 ?_; conv => whnf) | (refine ⟨by first | decide | omega, ?_⟩; conv => whnf))
  exact ⟨_, Sub.refl _, ret_bool (beq_self_eq_true _), rfl⟩
theorem unb_bytes (n : Nat) (hn : n < 4294967296) : unbytesR (txt (strB (bytesN n))) = (n, 0) := by
  have hlt : ∀ x ∈ bytesN n, x < 256 := by
    intro x hx
    simp only [bytesN, List.mem_cons, List.not_mem_nil, or_false] at hx
    omega
  rw [txt_strB hlt, unbytesR, if_pos (show (bytesN n).length = 4 from rfl)]
  simp only [bytesN, List.foldl_cons, List.foldl_nil]
  congr 1
  omega
theorem back_ok (F : Mem) (ht : Tab F) (n : Nat) (hn : n < 4294967296) :
    FT Tryd.prog 7 [.int .u32 (n : Int)].toArray F [] (Ret (.bool true)) := by
  refine FT.of_body Tryd.func7 rfl Tryd.ntmps7 (by simp) fun C hC => ?_
  subst hC
  conv => whnf
  refine CallS.mk Tryd.call8 ⟨[], _, _, Sub.refl _, fun F' hF' => lives04_ok F' (ht.ext hF'), ?_⟩
  rintro e A' ⟨rfl, rfl⟩
  conv => whnf
  refine CallS.mk Tryd.call15 ⟨[], _, _, Sub.refl _, fun F' hF' => bytes_ok F' n hn, ?_⟩
  rintro e A' ⟨rfl, rfl⟩
  have hu := unb_bytes n hn
  conv => whnf
  refine CallS.mk Tryd.call13 ⟨[], _, _, Sub.refl _, fun F' hF' => unbytes_ok F' (strB (bytesN n)) (by rw [strB_size]; show (4 : Nat) ≤ _; decide), ?_⟩
  rw [hu]
  rintro e A' ⟨rfl, rfl⟩
  dsimp only
  conv => whnf
  refine CallS.mk Tryd.call17 ⟨[], _, _, Sub.refl _, fun F' hF' => hex_ok F' (ht.ext hF') n hn, ?_⟩
  rintro e A' ⟨rfl, rfl⟩
  conv => whnf
  have hb := beq_self_eq_true (n : Int)
  generalize ((n : Int) == (n : Int)) = bb at hb ⊢
  subst hb
  conv => whnf
  refine ArI.mk (((n + 1) % 4294967296 : Nat) : Int) (by rw [IntKind.wrap_u32']; omega) ?_
  conv => whnf
  obtain ⟨m, hm⟩ : ∃ m, m = (n + 1) % 4294967296 := ⟨_, rfl⟩
  rw [← hm]
  refine CallS.mk Tryd.call17 ⟨[], _, _, Sub.refl _, fun F' hF' => hex_ok F' (ht.ext hF') m (by omega), ?_⟩
  have hne : ¬ strB (hexL 8 m) = strB (hexL 8 n) := fun h => by
    have := hexL_inj (k := 8) (show m < 16 ^ 8 by omega) (show n < 16 ^ 8 by omega) (strB_inj (hexL_lt _ _) (hexL_lt _ _) h)
    omega
  rintro e A' ⟨rfl, rfl⟩
  generalize strB (hexL 8 m) = p at hne ⊢
  generalize strB (hexL 8 n) = q at hne ⊢
  conv => whnf
  rw [toList_beq, decide_eq_false hne]
  conv => whnf
  repeat (first | (refine LoadV.s rfl rfl (forceV_of ?_); conv => whnf) | (refine LoadV.s rfl rfl ?_; conv => whnf) | (refine StoreV.c rfl rfl (Nat.le_of_ble_eq_true rfl) rfl ?_; conv => whnf) | (refine LoadV.a _ rfl (Nat.le_of_ble_eq_true rfl) ?_; conv => whnf) | (refine DrawI.quiet (by kernel_rfl) (by kernel_rfl) ?_; conv => whnf) | (refine ArI.in64 (by omega) ?_; conv => whnf) | (refine ArI.inU8 (by omega) ?_; conv => whnf) | (refine ArI.inU64 (by omega) ?_; conv => whnf) | (refine ArI.inU32 (by omega) ?_; conv => whnf) | (refine RetI.one Tryd.results7 rfl ?_; conv => whnf) | (refine RetI.two Tryd.results7 rfl rfl ?_; conv => whnf) | (refine RetI.three Tryd.results7 rfl rfl rfl ?_; conv => whnf) | (refine RetI.none Tryd.results7 ?_; conv => whnf) | (refine ⟨by first | decide | omega, ?_⟩; conv => whnf))
  exact ⟨_, Sub.refl _, rfl, rfl⟩
end Go.Proofs.YtigbpmiemlejaaaDoor
