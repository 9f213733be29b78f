/- The laws of the bits, as contracts: writers and readers. -/
import Derived.Test.YtcmijlclenpjiaaBitsTop
namespace Go.Proofs.Ytcmijlclenpjiaa
open SL Go.RowKit Go.Maps

theorem u64_mod (v : Int) (n : Int) (h0 : 0 < n) (_h1 : n ≤ 1000000) : ∃ x : Nat, (IntKind.u64.wrap v).tmod n = (x : Int) ∧ (x : Int) < n := by
  have h : 0 ≤ IntKind.u64.wrap v := by simp [IntKind.wrap, IntKind.signed]; omega
  have h2 := Int.tmod_nonneg n h
  have h3 := Int.tmod_lt_of_pos (IntKind.u64.wrap v) h0
  exact ⟨((IntKind.u64.wrap v).tmod n).toNat, by omega, by omega⟩
theorem fitsB_of {V w : Nat} (h : 1 ≤ w ∧ w ≤ 64) (hv : V < 2 ^ w) : fitsB V (w : Int) = true := decide_eq_true ⟨by omega, by omega, by rw [Int.toNat_natCast]; exact hv⟩
theorem u64_ones (W : Nat) (hW : W ≤ 63) : IntKind.u64.wrap ((1 : Int) * 2 ^ min (Int.toNat (W : Int)) IntKind.u64.bits) - 1 = ((2 ^ W - 1 : Nat) : Int) := by
  have h : ∀ W : Fin 64, IntKind.u64.wrap ((1 : Int) * 2 ^ min (Int.toNat ((W.1 : Nat) : Int)) IntKind.u64.bits) - 1 = ((2 ^ W.1 - 1 : Nat) : Int) := by decide +kernel
  exact h ⟨W, by omega⟩
theorem pow_lt64 {W : Nat} (h : W ≤ 64) : 2 ^ W ≤ 18446744073709551616 := Nat.pow_le_pow_right (n := 2) (by decide) h
theorem BitsSplit_ok (F : Mem) (V : Nat) (a b c : Int) (hV : V < 18446744073709551616) : FT Try.prog 7 [.int .u64 (V : Int), .agg #[.int .i64 a, .int .i64 b, .int .i64 c]].toArray F [] (Ret (.bool true)) := by
  refine FT.of_body Try.func7 rfl Try.ntmps7 (by simp) fun C hC => ?_
  subst hC
  conv => whnf
  intro bx
  conv => whnf
  refine CallS.mk Try.call9 ⟨[], _, _, Sub.refl _, fun F' hF' => lives03_ok F', ?_⟩
  rintro e A' ⟨rfl, rfl⟩
  conv => whnf
  repeat (first | (refine LoadV.s rfl rfl (forceV_of ?_); conv => whnf) | (refine LoadV.s rfl rfl ?_; conv => whnf) | (refine StoreV.c rfl rfl (Nat.le_of_ble_eq_true rfl) rfl ?_; conv => whnf) | (refine LoadV.a _ rfl (Nat.le_of_ble_eq_true rfl) ?_; conv => whnf) | (refine DrawI.quiet (by kernel_rfl) (by kernel_rfl) ?_; conv => whnf) | (refine RetI.one Try.results7 rfl ?_; conv => whnf) | (refine RetI.two Try.results7 rfl rfl ?_; conv => whnf) | (refine RetI.three Try.results7 rfl rfl rfl ?_; conv => whnf) | (refine RetI.none Try.results7 ?_; conv => whnf) | (refine ⟨by first | decide | omega, ?_⟩; conv => whnf))
  refine ArI.keep ?_
  conv => whnf
  refine ⟨⟨rfl, by decide⟩, ?_⟩
  conv => whnf
  obtain ⟨x, hx, hx1⟩ := u64_mod a 63 (by decide) (by decide)
  rw [hx]
  refine ArI.in64 (by omega) ?_
  conv => whnf
  obtain ⟨n, hn⟩ : ∃ n, 2 + x = n := ⟨_, rfl⟩
  refine ArI.to64 (n : Int) (by omega) (by omega) ?_
  conv => whnf
  repeat (first | (refine LoadV.s rfl rfl (forceV_of ?_); conv => whnf) | (refine LoadV.s rfl rfl ?_; conv => whnf) | (refine StoreV.c rfl rfl (Nat.le_of_ble_eq_true rfl) rfl ?_; conv => whnf) | (refine LoadV.a _ rfl (Nat.le_of_ble_eq_true rfl) ?_; conv => whnf) | (refine DrawI.quiet (by kernel_rfl) (by kernel_rfl) ?_; conv => whnf) | (refine RetI.one Try.results7 rfl ?_; conv => whnf) | (refine RetI.two Try.results7 rfl rfl ?_; conv => whnf) | (refine RetI.three Try.results7 rfl rfl rfl ?_; conv => whnf) | (refine RetI.none Try.results7 ?_; conv => whnf) | (refine ⟨by first | decide | omega, ?_⟩; conv => whnf))
  refine ArI.keep ?_
  conv => whnf
  refine ArI.to64 ((n : Int) - 1) (by omega) (by omega) ?_
  conv => whnf
  refine ArI.inU64 (by omega) ?_
  conv => whnf
  refine ⟨⟨rfl, by omega⟩, ?_⟩
  conv => whnf
  obtain ⟨y, hy, hy1⟩ := u64_mod b ((n : Int) - 1) (by omega) (by omega)
  rw [hy]
  refine ArI.in64 (by omega) ?_
  conv => whnf
  obtain ⟨k, hk⟩ : ∃ k, 1 + y = k := ⟨_, rfl⟩
  obtain ⟨j, hj⟩ : ∃ j, n - k = j := ⟨_, rfl⟩
  refine ArI.to64 (k : Int) (by omega) (by omega) ?_
  conv => whnf
  repeat (first | (refine LoadV.s rfl rfl (forceV_of ?_); conv => whnf) | (refine LoadV.s rfl rfl ?_; conv => whnf) | (refine StoreV.c rfl rfl (Nat.le_of_ble_eq_true rfl) rfl ?_; conv => whnf) | (refine LoadV.a _ rfl (Nat.le_of_ble_eq_true rfl) ?_; conv => whnf) | (refine DrawI.quiet (by kernel_rfl) (by kernel_rfl) ?_; conv => whnf) | (refine RetI.one Try.results7 rfl ?_; conv => whnf) | (refine RetI.two Try.results7 rfl rfl ?_; conv => whnf) | (refine RetI.three Try.results7 rfl rfl rfl ?_; conv => whnf) | (refine RetI.none Try.results7 ?_; conv => whnf) | (refine ⟨by first | decide | omega, ?_⟩; conv => whnf))
  refine ArI.keep ?_
  conv => whnf
  refine ⟨⟨rfl, by decide⟩, ?_⟩
  conv => whnf
  obtain ⟨z, hz, hz1⟩ := u64_mod c 64 (by decide) (by decide)
  rw [hz]
  refine ArI.in64 (by omega) ?_
  conv => whnf
  obtain ⟨l, hl⟩ : ∃ l, 1 + z = l := ⟨_, rfl⟩
  refine ArI.to64 (l : Int) (by omega) (by omega) ?_
  conv => whnf
  refine ArI.to64 ((64 - n : Nat) : Int) (by omega) (by omega) ?_
  conv => whnf
  refine ArI.inU64 (by omega) ?_
  conv => whnf
  repeat (first | (refine LoadV.s rfl rfl (forceV_of ?_); conv => whnf) | (refine LoadV.s rfl rfl ?_; conv => whnf) | (refine StoreV.c rfl rfl (Nat.le_of_ble_eq_true rfl) rfl ?_; conv => whnf) | (refine LoadV.a _ rfl (Nat.le_of_ble_eq_true rfl) ?_; conv => whnf) | (refine DrawI.quiet (by kernel_rfl) (by kernel_rfl) ?_; conv => whnf) | (refine ArI.in64 (by omega) ?_; conv => whnf) | (refine ArI.inU8 (by omega) ?_; conv => whnf) | (refine ArI.inU64 (by omega) ?_; conv => whnf) | (refine ArI.inU32 (by omega) ?_; conv => whnf) | (refine RetI.one Try.results7 rfl ?_; conv => whnf) | (refine RetI.two Try.results7 rfl rfl ?_; conv => whnf) | (refine RetI.three Try.results7 rfl rfl rfl ?_; conv => whnf) | (refine RetI.none Try.results7 ?_; conv => whnf) | (refine ⟨by first | decide | omega, ?_⟩; conv => whnf))
  have hs1 : Int.fdiv (V : Int) (2 ^ min (Int.toNat ((64 - n : Nat) : Int)) IntKind.u64.bits) = ((V / 2 ^ (64 - n) : Nat) : Int) := shr_le (show 64 - n ≤ 64 by omega)
  rw [hs1]
  have hvn : V / 2 ^ (64 - n) < 2 ^ n := by
    rw [Nat.div_lt_iff_lt_mul (Nat.two_pow_pos _), ← Nat.pow_add, show n + (64 - n) = 64 by omega]; exact hV
  generalize V / 2 ^ (64 - n) = v at hvn ⊢
  have hn64 := pow_lt64 (W := n) (by omega)
  refine CallS.mk Try.call15 ⟨[], _, _, Sub.refl _, fun F' hF' => bNew_ok F', ?_⟩
  rintro e A' ⟨wa, rfl, rfl⟩
  conv => whnf
  refine CallS.mk Try.call15 ⟨[], _, _, Sub.refl _, fun F' hF' => bNew_ok F', ?_⟩
  rintro e A' ⟨wb, rfl, rfl⟩
  conv => whnf
  refine CallS.mk Try.call16 ⟨[_, _], _, _, Sub.split [2, 3] rfl, fun F' hF' => bPut_ok F' wa [] none (by simp) 0 l (by decide) (by simp), ?_⟩
  rintro e A' (⟨hf, rfl, rfl⟩ | ⟨hf, rfl, ga, hga, rfl⟩)
  · rw [fitsB_of (by omega) (Nat.two_pow_pos _)] at hf; cases hf
  rw [List.nil_append, Int.toNat_natCast] at hga ⊢
  conv => whnf
  refine CallS.mk Try.call16 ⟨[_, _], _, _, Sub.split [2, 3] rfl, fun F' hF' => bPut_ok F' wb [] none (by simp) 0 l (by decide) (by simp), ?_⟩
  rintro e A' (⟨hf, rfl, rfl⟩ | ⟨hf, rfl, gb, hgb, rfl⟩)
  · rw [fitsB_of (by omega) (Nat.two_pow_pos _)] at hf; cases hf
  rw [List.nil_append, Int.toNat_natCast] at hgb ⊢
  conv => whnf
  refine CallS.mk Try.call16 ⟨[_, _], _, _, Sub.split [2, 3] rfl, fun F' hF' => bPut_ok F' wa (bitsOf l 0) ga hga v n (by omega) (by rw [bitsOf_length]; omega), ?_⟩
  rintro e A' (⟨hf, rfl, rfl⟩ | ⟨hf, rfl, ga2, hga2, rfl⟩)
  · rw [fitsB_of (by omega) hvn] at hf; cases hf
  rw [Int.toNat_natCast] at hga2 ⊢
  conv => whnf
  refine ArI.to64 (j : Int) (by omega) (by omega) ?_
  conv => whnf
  refine ArI.inU64 (by omega) ?_
  conv => whnf
  repeat (first | (refine LoadV.s rfl rfl (forceV_of ?_); conv => whnf) | (refine LoadV.s rfl rfl ?_; conv => whnf) | (refine StoreV.c rfl rfl (Nat.le_of_ble_eq_true rfl) rfl ?_; conv => whnf) | (refine LoadV.a _ rfl (Nat.le_of_ble_eq_true rfl) ?_; conv => whnf) | (refine DrawI.quiet (by kernel_rfl) (by kernel_rfl) ?_; conv => whnf) | (refine ArI.in64 (by omega) ?_; conv => whnf) | (refine ArI.inU8 (by omega) ?_; conv => whnf) | (refine ArI.inU64 (by omega) ?_; conv => whnf) | (refine ArI.inU32 (by omega) ?_; conv => whnf) | (refine RetI.one Try.results7 rfl ?_; conv => whnf) | (refine RetI.two Try.results7 rfl rfl ?_; conv => whnf) | (refine RetI.three Try.results7 rfl rfl rfl ?_; conv => whnf) | (refine RetI.none Try.results7 ?_; conv => whnf) | (refine ⟨by first | decide | omega, ?_⟩; conv => whnf))
  have hs2 : Int.fdiv (v : Int) (2 ^ min (Int.toNat (j : Int)) IntKind.u64.bits) = ((v / 2 ^ j : Nat) : Int) := shr_le (show j ≤ 64 by omega)
  rw [hs2]
  have hvk : v / 2 ^ j < 2 ^ k := by
    rw [Nat.div_lt_iff_lt_mul (Nat.two_pow_pos _), ← Nat.pow_add, show k + j = n by omega]; exact hvn
  refine CallS.mk Try.call16 ⟨[_, _], _, _, Sub.split [2, 3] rfl, fun F' hF' => bPut_ok F' wb (bitsOf l 0) gb hgb (v / 2 ^ j) k (by have := pow_lt64 (W := k) (by omega); omega) (by rw [bitsOf_length]; omega), ?_⟩
  rintro e A' (⟨hf, rfl, rfl⟩ | ⟨hf, rfl, gb2, hgb2, rfl⟩)
  · rw [fitsB_of (by omega) hvk] at hf; cases hf
  rw [Int.toNat_natCast] at hgb2 ⊢
  conv => whnf
  refine ArI.to64 (j : Int) (by omega) (by omega) ?_
  conv => whnf
  refine ArI.inU64 (by omega) ?_
  conv => whnf
  refine ⟨by omega, ?_⟩
  conv => whnf
  refine ArI.toU64 _ (u64_ones j (by omega)) (by have := pow_lt64 (W := j) (by omega); omega) ?_
  conv => whnf
  have hj64 := pow_lt64 (W := j) (by omega)
  rw [bits_and_u64_nat _ _ (by omega) (by omega), Nat.and_two_pow_sub_one_eq_mod]
  refine ArI.to64 (j : Int) (by omega) (by omega) ?_
  conv => whnf
  have hvj : v % 2 ^ j < 2 ^ j := Nat.mod_lt _ (Nat.two_pow_pos _)
  refine CallS.mk Try.call16 ⟨[_, _], _, _, Sub.split [0, 1] rfl, fun F' hF' => bPut_ok F' wb (bitsOf l 0 ++ bitsOf k (v / 2 ^ j)) gb2 hgb2 (v % 2 ^ j) j (by omega) (by rw [List.length_append, bitsOf_length, bitsOf_length]; omega), ?_⟩
  rintro e A' (⟨hf, rfl, rfl⟩ | ⟨hf, rfl, gb3, hgb3, rfl⟩)
  · rw [fitsB_of (by omega) hvj] at hf; cases hf
  have hsame : bitsOf l 0 ++ bitsOf k (v / 2 ^ j) ++ bitsOf (j : Int).toNat (v % 2 ^ j) = bitsOf l 0 ++ bitsOf n v := by
    rw [Int.toNat_natCast, List.append_assoc, bitsOf_mod (Nat.le_refl _), ← bitsOf_add, show k + j = n by omega]
  rw [hsame] at hgb3 ⊢
  have hlen : (bitsOf l 0 ++ bitsOf n v).length = l + n := by rw [List.length_append, bitsOf_length, bitsOf_length]
  rw [hlen]
  generalize bitsOf l 0 ++ bitsOf n v = T at hga2 hgb3 ⊢
  conv => whnf
  refine CallS.mk Try.call20 ⟨[_, _], _, _, Sub.split [2, 3] rfl, fun F' hF' => bBytes_ok F' wa _ ga2 _ (fun e => by rw [hga2.1 e]; rfl), ?_⟩
  rintro e A' ⟨rfl, rfl⟩
  conv => whnf
  refine CallS.mk Try.call20 ⟨[_, _], _, _, Sub.split [2, 3] rfl, fun F' hF' => bBytes_ok F' wb _ gb3 _ (fun e => by rw [hgb3.1 e]; rfl), ?_⟩
  rintro e A' ⟨rfl, rfl⟩
  conv => whnf
  refine cond_of_true (beq_self_eq_true _) ?_
  conv => whnf
  refine CallS.mk Try.call19 ⟨[_], _, _, Sub.split [2] rfl, fun F' hF' => bLen_ok F' wa _ _ _, ?_⟩
  rintro e A' ⟨rfl, rfl⟩
  conv => whnf
  refine ArI.in64 (by omega) ?_
  conv => whnf
  refine cond_of_true (decide_eq_true (by omega)) ?_
  conv => whnf
  refine CallS.mk Try.call19 ⟨[_], _, _, Sub.split [1] rfl, fun F' hF' => bLen_ok F' wb _ _ _, ?_⟩
  rintro e A' ⟨rfl, rfl⟩
  conv => whnf
  refine ArI.in64 (by omega) ?_
  conv => whnf
  repeat (first | (refine LoadV.s rfl rfl (forceV_of ?_); conv => whnf) | (refine LoadV.s rfl rfl ?_; conv => whnf) | (refine StoreV.c rfl rfl (Nat.le_of_ble_eq_true rfl) rfl ?_; conv => whnf) | (refine LoadV.a _ rfl (Nat.le_of_ble_eq_true rfl) ?_; conv => whnf) | (refine DrawI.quiet (by kernel_rfl) (by kernel_rfl) ?_; conv => whnf) | (refine ArI.in64 (by omega) ?_; conv => whnf) | (refine ArI.inU8 (by omega) ?_; conv => whnf) | (refine ArI.inU64 (by omega) ?_; conv => whnf) | (refine ArI.inU32 (by omega) ?_; conv => whnf) | (refine RetI.one Try.results7 rfl ?_; conv => whnf) | (refine RetI.two Try.results7 rfl rfl ?_; conv => whnf) | (refine RetI.three Try.results7 rfl rfl rfl ?_; conv => whnf) | (refine RetI.none Try.results7 ?_; conv => whnf) | (refine ⟨by first | decide | omega, ?_⟩; conv => whnf))
  exact ⟨_, Sub.sel [] rfl, ret_bool (decide_eq_true (by omega)), rfl⟩
theorem BitsReads_ok (F : Mem) (s : ByteArray) (ob : Option Addr) (cb : Nat) (ws : List Int) (hs : s.size ≤ 1048576) (hv : SlF F 1 ob ws.length (intsV ws)) (hm : ws.length ≤ 1048576) :
    FT Try.prog 6 [.string s, .slice ob ws.length cb].toArray F [] (Ret (.bool true)) := by
  refine FT.of_body Try.func6 rfl Try.ntmps6 (by simp) fun C hC => ?_
  subst hC
  conv => whnf
  refine CallS.mk Try.call9 ⟨[], _, _, Sub.refl _, fun F' hF' => lives03_ok F', ?_⟩
  rintro e A' ⟨rfl, rfl⟩
  have hT : (textBits (txt s)).length = 8 * s.size := by rw [textBits_length, txt_length]
  conv => whnf
  refine CallS.mk Try.call22 ⟨[], _, _, Sub.refl _, fun F' hF' => bRead_ok F' s, ?_⟩
  rintro e A' ⟨r, rfl, rfl⟩
  conv => whnf
  refine CallS.mk Try.call22 ⟨[], _, _, Sub.refl _, fun F' hF' => bRead_ok F' s, ?_⟩
  rintro e A' ⟨r2, rfl, rfl⟩
  conv => whnf
  refine CallS.mk Try.call23 ⟨[], _, _, Sub.refl _, fun F' hF' => rRead_ok F' s (by omega), ?_⟩
  rintro e A' ⟨r3, g, hg, rfl, rfl⟩
  conv => whnf
  refine LoopI.by_state (σ := Nat × Nat) (fun x => [(0, .string s), (5, .pointer (some ⟨r, 0, none⟩)), (6, .pointer (some ⟨r2, 0, none⟩)), (7, .pointer (some ⟨r3, 0, none⟩)), (22, .slice ob ws.length cb), (23, .int .i64 (ws.length : Int)), (24, .int .i64 (x.1 : Int))])
    (fun x => [.cells r [.int .i64 (x.2 : Int), .string s] 65 (0, 0), .cells r2 [.int .i64 0, .string s] 65 (0, 0), .cells r3 [svOf g (textBits (txt s)).length, .int .i64 (x.2 : Int)] 68 (0, 0), bitO g (textBits (txt s))])
    (fun x => x.1 ≤ ws.length ∧ x.2 ≤ 8 * s.size) (fun x => ws.length - x.1) (0, 0) ⟨by omega, by omega⟩ ⟨rfl, rfl, rfl, rfl, rfl, rfl, rfl, trivial⟩ (Sub.sel [3, 2, 0, 1] rfl) ?_
  rintro ⟨i, n⟩ f0 ⟨hi, hn⟩
  dsimp only at hi hn ⊢
  conv => whnf
  refine cond_dec (fun h => ?_) (fun h => ?_)
  · have hil : i < ws.length := by omega
    obtain ⟨xa, ya, rfl, hra⟩ := hv.at (i := i) hil
    conv => whnf
    refine ⟨by omega, ?_⟩
    conv => whnf
    refine LoadV.f (hra i (.int .i64 ws[i]) (by rw [List.getElem?_map, List.getElem?_eq_getElem hil]; rfl)) rfl ?_
    obtain ⟨p, hp⟩ : ∃ p, ws[i] = p := ⟨_, rfl⟩
    rw [hp]
    conv => whnf
    refine CallS.mk Try.call24 ⟨[_], _, _, Sub.split [0] rfl, fun F' hF' => bTake_ok F' r n s p (by omega) (by omega), ?_⟩
    rintro e A' ⟨rfl, rfl⟩
    conv => whnf
    refine CallS.mk Try.call25 ⟨[_, _], _, _, Sub.split [2, 3] rfl, fun F' hF' => rTake_ok F' r3 n g (textBits (txt s)) p hg (by omega) (by omega), ?_⟩
    rintro e A' ⟨rfl, rfl⟩
    have hn2 : (takeB (textBits (txt s)) n p).2.2 ≤ 8 * s.size := by
      by_cases hok : takeOk (textBits (txt s)) n p
      · rw [takeB_ok hok]; unfold takeOk at hok; dsimp only; omega
      · rw [takeB_no hok]; exact hn
    generalize takeB (textBits (txt s)) n p = R at hn2 ⊢
    obtain ⟨v, er, m⟩ := R
    dsimp only at hn2 ⊢
    conv => whnf
    rw [show ((v : Int) != (v : Int)) = false from bne_self_eq_false _]
    conv => whnf
    rw [show (er != er) = false from bne_self_eq_false _]
    conv => whnf
    refine CallS.mk Try.call26 ⟨[_], _, _, Sub.split [2] rfl, fun F' hF' => bLeft_ok F' r m s (by omega) hn2, ?_⟩
    rintro e A' ⟨rfl, rfl⟩
    conv => whnf
    refine CallS.mk Try.call27 ⟨[_, _], _, _, Sub.split [1, 2] rfl, fun F' hF' => rLeft_ok F' r3 m g (textBits (txt s)) (by omega) (by omega), ?_⟩
    rintro e A' ⟨rfl, rfl⟩
    conv => whnf
    refine cond_of_false (by rw [bne_eq_false_iff_eq, hT]; omega) ?_
    conv => whnf
    refine CallS.mk Try.call28 ⟨[_], _, _, Sub.split [2] rfl, fun F' hF' => bDone_ok F' r m s (by omega) hn2, ?_⟩
    rintro e A' ⟨rfl, rfl⟩
    conv => whnf
    refine CallS.mk Try.call29 ⟨[_, _], _, _, Sub.split [1, 2] rfl, fun F' hF' => rDone_ok F' r3 m g (textBits (txt s)) hg (by omega) (by omega), ?_⟩
    rintro e A' ⟨rfl, rfl⟩
    conv => whnf
    refine cond_of_false (by cases doneB (textBits (txt s)) m <;> rfl) ?_
    conv => whnf
    refine ArI.to64 ((i + 1 : Nat) : Int) (by omega) (by omega) ?_
    conv => whnf
    exact ⟨(i + 1, m), _, by dsimp only; omega, Sub.sel [2, 3, 0, 1] rfl, ⟨by dsimp only; omega, hn2⟩, ⟨rfl, rfl, rfl, rfl, rfl, rfl, rfl, trivial⟩, rfl⟩
  · conv => whnf
    refine CallS.mk Try.call26 ⟨[_], _, _, Sub.split [1] rfl, fun F' hF' => bLeft_ok F' r2 0 s (by omega) (by omega), ?_⟩
    rintro e A' ⟨rfl, rfl⟩
    conv => whnf
    refine ArI.in64 (by omega) ?_
    conv => whnf
    refine cond_of_true (decide_eq_true (by omega)) ?_
    conv => whnf
    refine CallS.mk Try.call26 ⟨[_], _, _, Sub.split [1] rfl, fun F' hF' => bLeft_ok F' r n s (by omega) hn, ?_⟩
    rintro e A' ⟨rfl, rfl⟩
    conv => whnf
    refine CallS.mk Try.call27 ⟨[_, _], _, _, Sub.split [2, 3] rfl, fun F' hF' => rLeft_ok F' r3 n g (textBits (txt s)) (by omega) (by omega), ?_⟩
    rintro e A' ⟨rfl, rfl⟩
    conv => whnf
    repeat (first | (refine LoadV.s rfl rfl (forceV_of ?_); conv => whnf) | (refine LoadV.s rfl rfl ?_; conv => whnf) | (refine StoreV.c rfl rfl (Nat.le_of_ble_eq_true rfl) rfl ?_; conv => whnf) | (refine LoadV.a _ rfl (Nat.le_of_ble_eq_true rfl) ?_; conv => whnf) | (refine DrawI.quiet (by kernel_rfl) (by kernel_rfl) ?_; conv => whnf) | (refine ArI.in64 (by omega) ?_; conv => whnf) | (refine ArI.inU8 (by omega) ?_; conv => whnf) | (refine ArI.inU64 (by omega) ?_; conv => whnf) | (refine ArI.inU32 (by omega) ?_; conv => whnf) | (refine RetI.one Try.results6 rfl ?_; conv => whnf) | (refine RetI.two Try.results6 rfl rfl ?_; conv => whnf) | (refine RetI.three Try.results6 rfl rfl rfl ?_; conv => whnf) | (refine RetI.none Try.results6 ?_; conv => whnf) | (refine ⟨by first | decide | omega, ?_⟩; conv => whnf))
    exact ⟨_, Sub.sel [] rfl, ret_bool (decide_eq_true (by omega)), rfl⟩
/-- The bits of the right fields. -/
def rightBits (fs : List (Nat × Int)) : List Bool := fs.flatMap fun p => if fitsB p.1 p.2 = true then bitsOf p.2.toNat p.1 else []
theorem rightBits_snoc (fs : List (Nat × Int)) (p : Nat × Int) : rightBits (fs ++ [p]) = rightBits fs ++ (if fitsB p.1 p.2 = true then bitsOf p.2.toNat p.1 else []) := by simp [rightBits]
theorem rightBits_length (fs : List (Nat × Int)) : (rightBits fs).length ≤ 64 * fs.length := by
  induction fs with
  | nil => simp [rightBits]
  | cons p fs ih =>
    rw [show rightBits (p :: fs) = (if fitsB p.1 p.2 = true then bitsOf p.2.toNat p.1 else []) ++ rightBits fs from rfl, List.length_append, List.length_cons]
    split
    · rename_i h
      have := fitsB_width h
      rw [bitsOf_length]; omega
    · rw [List.length_nil]; omega
theorem BitsWrites_ok (F : Mem) (oa : Option Addr) (ca : Nat) (fs : List (Nat × Int)) (hw : SlF F 2 oa fs.length (fs.flatMap fldF)) (hu : U64s fs) (hn : fs.length ≤ 1048576) :
    FT Try.prog 5 [.slice oa fs.length ca].toArray F [] (Ret (.bool true)) := by
  refine FT.of_body Try.func5 rfl Try.ntmps5 (by simp) fun C hC => ?_
  subst hC
  conv => whnf
  refine CallS.mk Try.call9 ⟨[], _, _, Sub.refl _, fun F' hF' => lives03_ok F', ?_⟩
  rintro e A' ⟨rfl, rfl⟩
  conv => whnf
  refine CallS.mk Try.call15 ⟨[], _, _, Sub.refl _, fun F' hF' => bNew_ok F', ?_⟩
  rintro e A' ⟨w, rfl, rfl⟩
  conv => whnf
  refine CallS.mk Try.call15 ⟨[], _, _, Sub.refl _, fun F' hF' => bNew_ok F', ?_⟩
  rintro e A' ⟨o, rfl, rfl⟩
  conv => whnf
  refine LoopI.by_state (σ := Nat × List Bool × Option (Nat × Nat) × Option (Nat × Nat)) (fun x => [(3, .pointer (some ⟨w, 0, none⟩)), (4, .pointer (some ⟨o, 0, none⟩)), (5, svOf x.2.2.2 x.2.1.length), (14, .slice oa fs.length ca), (15, .int .i64 (fs.length : Int)), (16, .int .i64 (x.1 : Int))])
    (fun x => [.cells w [.int .i64 (x.2.1.length : Int), svOf x.2.2.1 (packB x.2.1).length] 46 (0, 0), .own (svOf x.2.2.1 (packB x.2.1).length) (packB x.2.1).length 5 1 (bytesV (packB x.2.1)),
      .cells o [.int .i64 0, svOf none 0] 46 (0, 0), .own (svOf none 0) 0 5 1 (bytesV []), bitO x.2.2.2 x.2.1])
    (fun x => x.1 ≤ fs.length ∧ x.2.1 = rightBits (fs.take x.1) ∧ (x.2.2.1 = none ↔ x.2.1 = []) ∧ (x.2.2.2 = none ↔ x.2.1 = [])) (fun x => fs.length - x.1) (0, [], none, none) ⟨by omega, by simp [rightBits], by simp, by simp⟩ ⟨rfl, rfl, rfl, rfl, rfl, rfl, trivial⟩ (Sub.trans (Sub.nil 5 1) (Sub.sel [3, 4, 1, 2, 0] rfl)) ?_
  rintro ⟨i, B, g, gm⟩ f0 ⟨hi, hB, hg, hgm⟩
  dsimp only at hi hB hg hgm ⊢
  have hBl : B.length ≤ 64 * fs.length := by have := rightBits_length (fs.take i); rw [List.length_take] at this; rw [hB]; omega
  conv => whnf
  refine cond_dec (fun h => ?_) (fun h => ?_)
  · have hil : i < fs.length := by omega
    obtain ⟨xa, ya, rfl, hra⟩ := hw.at (i := i) hil
    conv => whnf
    refine ⟨by omega, ?_⟩
    conv => whnf
    refine LoadV.fa (cs := fldF fs[i]) (flat_row fldF_length hra hil rfl) rfl ?_
    have hp64 := hu _ (List.getElem_mem hil)
    have htk := take_snoc hil
    obtain ⟨p, hp⟩ : ∃ p, fs[i] = p := ⟨_, rfl⟩
    rw [hp] at hp64 htk ⊢
    have hnew : rightBits (fs.take (i + 1)) = B ++ (if fitsB p.1 p.2 = true then bitsOf p.2.toNat p.1 else []) := by rw [htk, rightBits_snoc, hB]
    conv => whnf
    intro b
    conv => whnf
    repeat (first | (refine LoadV.s rfl rfl (forceV_of ?_); conv => whnf) | (refine LoadV.s rfl rfl ?_; conv => whnf) | (refine StoreV.c rfl rfl (Nat.le_of_ble_eq_true rfl) rfl ?_; conv => whnf) | (refine LoadV.a _ rfl (Nat.le_of_ble_eq_true rfl) ?_; conv => whnf) | (refine DrawI.quiet (by kernel_rfl) (by kernel_rfl) ?_; conv => whnf) | (refine ArI.in64 (by omega) ?_; conv => whnf) | (refine ArI.inU8 (by omega) ?_; conv => whnf) | (refine ArI.inU64 (by omega) ?_; conv => whnf) | (refine ArI.inU32 (by omega) ?_; conv => whnf) | (refine RetI.one Try.results5 rfl ?_; conv => whnf) | (refine RetI.two Try.results5 rfl rfl ?_; conv => whnf) | (refine RetI.three Try.results5 rfl rfl rfl ?_; conv => whnf) | (refine RetI.none Try.results5 ?_; conv => whnf) | (refine ⟨by first | decide | omega, ?_⟩; conv => whnf))
    refine CallS.mk Try.call16 ⟨[_, _], _, _, Sub.split [1, 2] rfl, fun F' hF' => bPut_ok F' w B g hg p.1 p.2 hp64 (by omega), ?_⟩
    rintro e A' (⟨hf, rfl, rfl⟩ | ⟨hf, rfl, g', hg', rfl⟩)
    · rw [hf] at hnew
      conv => whnf
      repeat (first | (refine LoadV.s rfl rfl (forceV_of ?_); conv => whnf) | (refine LoadV.s rfl rfl ?_; conv => whnf) | (refine StoreV.c rfl rfl (Nat.le_of_ble_eq_true rfl) rfl ?_; conv => whnf) | (refine LoadV.a _ rfl (Nat.le_of_ble_eq_true rfl) ?_; conv => whnf) | (refine DrawI.quiet (by kernel_rfl) (by kernel_rfl) ?_; conv => whnf) | (refine ArI.in64 (by omega) ?_; conv => whnf) | (refine ArI.inU8 (by omega) ?_; conv => whnf) | (refine ArI.inU64 (by omega) ?_; conv => whnf) | (refine ArI.inU32 (by omega) ?_; conv => whnf) | (refine RetI.one Try.results5 rfl ?_; conv => whnf) | (refine RetI.two Try.results5 rfl rfl ?_; conv => whnf) | (refine RetI.three Try.results5 rfl rfl rfl ?_; conv => whnf) | (refine RetI.none Try.results5 ?_; conv => whnf) | (refine ⟨by first | decide | omega, ?_⟩; conv => whnf))
      refine CallS.mk Try.call17 ⟨[], _, _, Sub.refl _, fun F' hF' => rRight_ok F' p.1 p.2 hp64, ?_⟩
      rw [hf]
      rintro e A' ⟨rfl, rfl⟩
      conv => whnf
      refine CallS.mk Try.call19 ⟨[_], _, _, Sub.split [0] rfl, fun F' hF' => bLen_ok F' w _ _ _, ?_⟩
      rintro e A' ⟨rfl, rfl⟩
      conv => whnf
      refine cond_of_false (bne_self_eq_false _) ?_
      conv => whnf
      refine ArI.to64 ((i + 1 : Nat) : Int) (by omega) (by omega) ?_
      conv => whnf
      exact ⟨(i + 1, B, g, gm), _, by dsimp only; omega, Sub.sel [0, 1, 3, 4, 5] rfl, ⟨by dsimp only; omega, by dsimp only; rw [hnew]; simp, hg, hgm⟩, ⟨rfl, rfl, rfl, rfl, rfl, rfl, trivial⟩, rfl⟩
    · rw [if_pos hf] at hnew
      have hw := fitsB_width hf
      obtain ⟨W, hW⟩ := Int.eq_ofNat_of_zero_le (show 0 ≤ p.2 by omega)
      conv => whnf
      repeat (first | (refine LoadV.s rfl rfl (forceV_of ?_); conv => whnf) | (refine LoadV.s rfl rfl ?_; conv => whnf) | (refine StoreV.c rfl rfl (Nat.le_of_ble_eq_true rfl) rfl ?_; conv => whnf) | (refine LoadV.a _ rfl (Nat.le_of_ble_eq_true rfl) ?_; conv => whnf) | (refine DrawI.quiet (by kernel_rfl) (by kernel_rfl) ?_; conv => whnf) | (refine ArI.in64 (by omega) ?_; conv => whnf) | (refine ArI.inU8 (by omega) ?_; conv => whnf) | (refine ArI.inU64 (by omega) ?_; conv => whnf) | (refine ArI.inU32 (by omega) ?_; conv => whnf) | (refine RetI.one Try.results5 rfl ?_; conv => whnf) | (refine RetI.two Try.results5 rfl rfl ?_; conv => whnf) | (refine RetI.three Try.results5 rfl rfl rfl ?_; conv => whnf) | (refine RetI.none Try.results5 ?_; conv => whnf) | (refine ⟨by first | decide | omega, ?_⟩; conv => whnf))
      refine CallS.mk Try.call17 ⟨[], _, _, Sub.refl _, fun F' hF' => rRight_ok F' p.1 p.2 hp64, ?_⟩
      rw [hf]
      rintro e A' ⟨rfl, rfl⟩
      conv => whnf
      repeat (first | (refine LoadV.s rfl rfl (forceV_of ?_); conv => whnf) | (refine LoadV.s rfl rfl ?_; conv => whnf) | (refine StoreV.c rfl rfl (Nat.le_of_ble_eq_true rfl) rfl ?_; conv => whnf) | (refine LoadV.a _ rfl (Nat.le_of_ble_eq_true rfl) ?_; conv => whnf) | (refine DrawI.quiet (by kernel_rfl) (by kernel_rfl) ?_; conv => whnf) | (refine ArI.in64 (by omega) ?_; conv => whnf) | (refine ArI.inU8 (by omega) ?_; conv => whnf) | (refine ArI.inU64 (by omega) ?_; conv => whnf) | (refine ArI.inU32 (by omega) ?_; conv => whnf) | (refine RetI.one Try.results5 rfl ?_; conv => whnf) | (refine RetI.two Try.results5 rfl rfl ?_; conv => whnf) | (refine RetI.three Try.results5 rfl rfl rfl ?_; conv => whnf) | (refine RetI.none Try.results5 ?_; conv => whnf) | (refine ⟨by first | decide | omega, ?_⟩; conv => whnf))
      rw [hW]
      refine CallS.mk Try.call18 ⟨[_], _, _, Sub.split [5] rfl, fun F' hF' => rAdd_ok F' gm B p.1 W hgm hp64 (by omega) (by omega), ?_⟩
      rw [show bitsOf W p.1 = bitsOf p.2.toNat p.1 by rw [hW]; rfl]
      rintro e A' ⟨gm', hgm', rfl, rfl⟩
      conv => whnf
      refine CallS.mk Try.call19 ⟨[_], _, _, Sub.split [1] rfl, fun F' hF' => bLen_ok F' w _ _ _, ?_⟩
      rintro e A' ⟨rfl, rfl⟩
      conv => whnf
      refine cond_of_false (by rw [hW]; exact bne_self_eq_false _) ?_
      conv => whnf
      refine ArI.to64 ((i + 1 : Nat) : Int) (by omega) (by omega) ?_
      conv => whnf
      refine ⟨(i + 1, B ++ bitsOf p.2.toNat p.1, g', gm'), _, by dsimp only; omega, Sub.sel [0, 2, 4, 5, 1] rfl, ⟨by dsimp only; omega, hnew.symm, hg', hgm'⟩, ⟨rfl, rfl, rfl, rfl, rfl, rfl, trivial⟩, ?_⟩
      rw [hW]
  · conv => whnf
    refine CallS.mk Try.call20 ⟨[_, _], _, _, Sub.split [0, 1] rfl, fun F' hF' => bBytes_ok F' w _ g _ (fun e => by rw [hg.1 e]; rfl), ?_⟩
    rintro e A' ⟨rfl, rfl⟩
    conv => whnf
    refine CallS.mk Try.call21 ⟨[], _, _, Sub.refl _, fun F' hF' => rBytes_ok F' (oaOf gm) (capOf gm) B (SlF.sv hF' (T := 5) (by simp) (fun e => by rw [hgm.1 e]; rfl)) (by omega), ?_⟩
    rintro e A' ⟨rfl, rfl⟩
    conv => whnf
    refine cond_of_true (beq_self_eq_true _) ?_
    conv => whnf
    refine CallS.mk Try.call20 ⟨[_, _], _, _, Sub.split [0, 1] rfl, fun F' hF' => bBytes_ok F' w _ g _ (fun e => by rw [hg.1 e]; rfl), ?_⟩
    rintro e A' ⟨rfl, rfl⟩
    conv => whnf
    refine CallS.mk Try.call21 ⟨[], _, _, Sub.refl _, fun F' hF' => rBytes_ok F' (oaOf gm) (capOf gm) B (SlF.sv hF' (T := 5) (by simp) (fun e => by rw [hgm.1 e]; rfl)) (by omega), ?_⟩
    rintro e A' ⟨rfl, rfl⟩
    conv => whnf
    refine cond_of_true (beq_self_eq_true _) ?_
    conv => whnf
    refine CallS.mk Try.call19 ⟨[_], _, _, Sub.split [2] rfl, fun F' hF' => bLen_ok F' o _ _ _, ?_⟩
    rintro e A' ⟨rfl, rfl⟩
    conv => whnf
    refine CallS.mk Try.call20 ⟨[_, _], _, _, Sub.split [0, 3] rfl, fun F' hF' => bBytes_ok F' o 0 none [] (fun _ => rfl), ?_⟩
    rintro e A' ⟨rfl, rfl⟩
    conv => whnf
    repeat (first | (refine LoadV.s rfl rfl (forceV_of ?_); conv => whnf) | (refine LoadV.s rfl rfl ?_; conv => whnf) | (refine StoreV.c rfl rfl (Nat.le_of_ble_eq_true rfl) rfl ?_; conv => whnf) | (refine LoadV.a _ rfl (Nat.le_of_ble_eq_true rfl) ?_; conv => whnf) | (refine DrawI.quiet (by kernel_rfl) (by kernel_rfl) ?_; conv => whnf) | (refine ArI.in64 (by omega) ?_; conv => whnf) | (refine ArI.inU8 (by omega) ?_; conv => whnf) | (refine ArI.inU64 (by omega) ?_; conv => whnf) | (refine ArI.inU32 (by omega) ?_; conv => whnf) | (refine RetI.one Try.results5 rfl ?_; conv => whnf) | (refine RetI.two Try.results5 rfl rfl ?_; conv => whnf) | (refine RetI.three Try.results5 rfl rfl rfl ?_; conv => whnf) | (refine RetI.none Try.results5 ?_; conv => whnf) | (refine ⟨by first | decide | omega, ?_⟩; conv => whnf))
    exact ⟨_, Sub.sel [] rfl, ret_bool (beq_self_eq_true _), rfl⟩
end Go.Proofs.Ytcmijlclenpjiaa
