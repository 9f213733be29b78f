/- The reference's digits; the law of texts. -/
import Derived.Test.YtpcefmocphbdgaaDoorSeat11
namespace Go.Proofs.YtpcefmocphbdgaaDoor
set_option linter.unusedVariables false
set_option linter.unusedSimpArgs false
set_option maxRecDepth 100000
open SL Go.RowKit Go.Maps
theorem hexL_front : ∀ (k n : Nat), hexL (k + 1) n = hexDig (n / 16 ^ k % 16) :: hexL k n
  | 0, n => by simp [hexL]
  | k + 1, n => by
    have ih := hexL_front k (n / 16)
    rw [show hexL (k + 1 + 1) n = hexL (k + 1) (n / 16) ++ [hexDig (n % 16)] from rfl, ih, Nat.div_div_eq_div_mul, ← Nat.pow_succ']
    rfl
theorem dig_part : ∀ d : Fin 16, (⟨#[48, 49, 50, 51, 52, 53, 54, 55, 56, 57, 97, 98, 99, 100, 101, 102]⟩ : ByteArray).extract d.1 (d.1 + 1) = strB [hexDig d.1] := by decide +kernel
theorem dig_at : ∀ k : Fin 16, byteAt ⟨#[48, 49, 50, 51, 52, 53, 54, 55, 56, 57, 97, 98, 99, 100, 101, 102]⟩ ((k.1 : Nat) : Int) = ((hexDig k.1 : Nat) : Int) := by decide +kernel
set_option maxHeartbeats 4000000 in
theorem rhex_ok (F : Mem) (s : Nat) (hs : s < 18446744073709551616) : FT Tryd.prog 29 [.int .u64 (s : Int)].toArray F [] (Ret (.string (strB (hexL 16 s)))) := by
  refine FT.of_body Tryd.func29 rfl Tryd.ntmps29 (by simp) fun C hC => ?_
  subst hC
  conv => whnf
  refine LoopI.by_state (σ := Nat) (fun i => [(0, .int .u64 ((s / 16 ^ i : Nat) : Int)), (3, .string (strB (hexL i s))), (4, .int .i64 (i : Int))]) (fun _ => []) (fun i => i ≤ 16) (fun i => 16 - i) 0 (Nat.zero_le _) ⟨by rw [Nat.pow_zero, Nat.div_one]; rfl, rfl, rfl, trivial⟩ (Sub.refl _) ?_
  rintro i f0 hi
  have hq : s / 16 ^ i < 18446744073709551616 := Nat.lt_of_le_of_lt (Nat.div_le_self _ _) hs
  have hd : s / 16 ^ i % 16 < 16 := Nat.mod_lt _ (by omega)
  have hst : s / 16 ^ (i + 1) = s / 16 ^ i / 16 := by rw [Nat.pow_succ, Nat.div_div_eq_div_mul]
  have hfr := hexL_front i s
  have hlen := hexL_length i s
  conv => whnf
  refine cond_dec (fun h => ?_) (fun h => ?_)
  · generalize s / 16 ^ i = q at hq hd hst hfr ⊢
    conv => whnf
    refine ⟨⟨rfl, by decide⟩, ?_⟩
    rw [show ((q : Int).tmod 16) = ((q % 16 : Nat) : Int) by rw [Int.tmod_eq_emod_of_nonneg (by omega)]; omega]
    conv => whnf
    refine ⟨⟨rfl, by decide⟩, ?_⟩
    rw [show ((q : Int).tmod 16) = ((q % 16 : Nat) : Int) by rw [Int.tmod_eq_emod_of_nonneg (by omega)]; omega]
    generalize hdd : q % 16 = d at hd hfr ⊢
    conv => whnf
    refine ArI.toU64 ((d + 1 : Nat) : Int) (by omega) (by omega) ?_
    conv => whnf
    refine DoV.str_lh Tryd.underlying9 (by omega) (by omega) (by show ((d + 1 : Nat) : Int) ≤ 16; omega) ?_
    rw [Int.toNat_natCast, Int.toNat_natCast, dig_part ⟨d, hd⟩]
    conv => whnf
    refine ⟨by rw [strB_size, strB_size]; simp; omega, ?_⟩
    rw [show strB [hexDig (⟨d, hd⟩ : Fin 16).1] ++ strB (hexL i s) = strB (hexL (i + 1) s) by rw [strB_append, hfr]; rfl]
    conv => whnf
    refine ⟨⟨rfl, by decide⟩, ?_⟩
    rw [show ((q : Int).tdiv 16) = ((q / 16 : Nat) : Int) by rw [Int.tdiv_eq_ediv_of_nonneg (by omega)]; omega]
    conv => whnf
    refine ArI.inU64 (by omega) ?_
    conv => whnf
    refine ArI.to64 ((i + 1 : Nat) : Int) (by omega) (by omega) ?_
    conv => whnf
    exact ⟨i + 1, _, by omega, Sub.refl _, by omega, ⟨by rw [hst]; rfl, rfl, rfl, trivial⟩, rfl⟩
  · obtain rfl : i = 16 := by omega
    conv => whnf
    repeat (first | (refine LoadV.s rfl rfl (forceV_of ?_); conv => whnf) | (refine LoadV.s rfl rfl ?_; conv => whnf) | (refine StoreV.c rfl rfl (Nat.le_of_ble_eq_true rfl) rfl ?_; conv => whnf) | (refine LoadV.a _ rfl (Nat.le_of_ble_eq_true rfl) ?_; conv => whnf) | (refine DrawI.quiet (by kernel_rfl) (by kernel_rfl) ?_; conv => whnf) | (refine ArI.in64 (by omega) ?_; conv => whnf) | (refine ArI.inU8 (by omega) ?_; conv => whnf) | (refine ArI.inU64 (by omega) ?_; conv => whnf) | (refine ArI.inU32 (by omega) ?_; conv => whnf) | (refine RetI.one Tryd.results29 rfl ?_; conv => whnf) | (refine RetI.two Tryd.results29 rfl rfl ?_; conv => whnf) | (refine RetI.three Tryd.results29 rfl rfl rfl ?_; conv => whnf) | (refine RetI.none Tryd.results29 ?_; conv => whnf) | (refine ⟨by first | decide | omega, ?_⟩; conv => whnf))
    exact ⟨_, Sub.refl _, rfl, rfl⟩
/-- The scan of one byte: behind the digits below k. -/
def stp (c a k : Nat) : Nat := match rdig c with
  | some d => if d < k then 16 * a + d else a
  | none => a
theorem stp_zero (c a : Nat) : stp c a 0 = a := by unfold stp; split <;> simp
theorem stp_hit {a k : Nat} (hk : k < 16) : stp (hexDig k) a (k + 1) = 16 * a + k ∧ stp (hexDig k) a k = a := by
  unfold stp
  rw [rdig_hex hk]
  exact ⟨if_pos (by omega), if_neg (by omega)⟩
theorem stp_miss {c a k : Nat} (h : hexDig k ≠ c) : stp c a (k + 1) = stp c a k := by
  unfold stp
  split
  · rename_i d hd
    have := rdig_spec hd
    have hdk : d ≠ k := fun e => h (by rw [← e]; exact this.2)
    by_cases h2 : d < k
    · rw [if_pos h2, if_pos (by omega)]
    · rw [if_neg h2, if_neg (by omega)]
  · rfl
theorem stp_all (l : List Nat) (i : Nat) : stp (l.getD i 0) (rN l i) 16 = rN l (i + 1) := by
  rw [rN]
  unfold stp
  cases hd : rdig (l.getD i 0) with
  | none => rfl
  | some d => exact if_pos (rdig_spec hd).1
set_option maxHeartbeats 4000000 in
theorem rparse_ok (F : Mem) (s : ByteArray) (hs : s.size ≤ 140737488355328) : FT Tryd.prog 31 [.string s].toArray F [] (Ret (.tuple #[.int .u64 ((pvS s).1 : Nat), .int .i64 (pvS s).2])) := by
  have hl := txt_length s
  have hlt := txt_lt s
  refine FT.of_body Tryd.func31 rfl Tryd.ntmps31 (by simp) fun C hC => ?_
  subst hC
  conv => whnf
  refine LoopI.by_state (σ := Nat) (fun i => [(0, .string s), (4, .int .u64 ((rN (txt s) i : Nat) : Int)), (5, .int .i64 (i : Int))]) (fun _ => []) (fun i => i ≤ s.size ∧ i ≤ 16) (fun i => 16 - i) 0 ⟨Nat.zero_le _, Nat.zero_le _⟩ ⟨rfl, rfl, rfl, trivial⟩ (Sub.refl _) ?_
  rintro i f0 ⟨hi, hi16⟩
  have hb := rN_lt (txt s) i
  have hall := stp_all (txt s) i
  have h16 : (16 : Nat) ^ 15 = 1152921504606846976 := by decide
  conv => whnf
  refine cond_dec (fun h => ?_) (fun h => ?_)
  · have his : i < s.size := by omega
    have hbyte : byteAt s (i : Int) = (((txt s).getD i 0 : Nat) : Int) := by
      rw [byteAt_txt s i (by omega), List.getD_eq_getElem?_getD, List.getElem?_eq_getElem (by omega : i < (txt s).length)]; rfl
    conv => whnf
    refine cond_dec (fun h2 => ?_) (fun h2 => ?_)
    · have hi15 : (16 : Nat) ^ i ≤ 16 ^ 15 := Nat.pow_le_pow_right (by omega) (by omega)
      generalize (txt s).getD i 0 = c at hall hbyte ⊢
      generalize rN (txt s) i = a at hall hb ⊢
      conv => whnf
      refine LoopI.by_state (σ := Nat) (fun k => [(0, .string s), (4, .int .u64 ((stp c a k : Nat) : Int)), (5, .int .i64 (i : Int)), (6, .int .i64 (k : Int))]) (fun _ => []) (fun k => k ≤ 16) (fun k => 16 - k) 0 (Nat.zero_le _) ⟨rfl, by rw [stp_zero]; rfl, rfl, rfl, trivial⟩ (Sub.refl _) ?_
      rintro k f1 hk
      conv => whnf
      refine cond_dec (fun h3 => ?_) (fun h3 => ?_)
      · have hk16 : k < 16 := by omega
        conv => whnf
        refine DrawI.quiet (by kernel_rfl) (by kernel_rfl) ?_
        conv => whnf
        refine ⟨⟨by omega, by show (k : Int) < 16; omega⟩, ?_⟩
        rw [dig_at ⟨k, hk16⟩]
        conv => whnf
        refine ⟨⟨by omega, by omega⟩, ?_⟩
        rw [hbyte]
        conv => whnf
        by_cases hkc : hexDig k = c
        · rw [show ((((hexDig k : Nat) : Int)) == (c : Int)) = true by rw [hkc]; exact beq_self_eq_true _]
          obtain ⟨e1, e2⟩ := stp_hit (a := a) hk16
          rw [hkc] at e1 e2
          rw [e2]
          conv => whnf
          refine ArI.toU64 ((16 * a : Nat) : Int) (by omega) (by omega) ?_
          conv => whnf
          refine ArI.inU64 (by omega) ?_
          conv => whnf
          refine ArI.toU64 ((16 * a + k : Nat) : Int) (by omega) (by omega) ?_
          conv => whnf
          refine ArI.to64 ((k + 1 : Nat) : Int) (by omega) (by omega) ?_
          conv => whnf
          exact ⟨k + 1, _, by omega, Sub.refl _, by omega, ⟨rfl, by rw [e1]; rfl, rfl, rfl, trivial⟩, rfl⟩
        · rw [show ((((hexDig k : Nat) : Int)) == (c : Int)) = false by simp; omega]
          have e1 := stp_miss (a := a) hkc
          conv => whnf
          refine ArI.to64 ((k + 1 : Nat) : Int) (by omega) (by omega) ?_
          conv => whnf
          exact ⟨k + 1, _, by omega, Sub.refl _, by omega, ⟨rfl, by rw [e1]; rfl, rfl, rfl, trivial⟩, rfl⟩
      · obtain rfl : k = 16 := by omega
        rw [hall]
        conv => whnf
        refine ArI.to64 ((i + 1 : Nat) : Int) (by omega) (by omega) ?_
        conv => whnf
        exact ⟨i + 1, _, by omega, Sub.refl _, ⟨by omega, by omega⟩, ⟨rfl, rfl, rfl, trivial⟩, rfl⟩
    · have hie : min (txt s).length 16 = i := by omega
      have hv : rN (txt s) i = hexV (txt s) := by unfold hexV; rw [hie]
      rw [hv]
      have hvlt := hexV_lt (txt s)
      conv => whnf
      refine CallS.mk Tryd.call29 ⟨[], _, _, Sub.refl _, fun F' hF' => rhex_ok F' (hexV (txt s)) hvlt, ?_⟩
      rintro e A' ⟨rfl, rfl⟩
      by_cases he : txt s = hexL 16 (hexV (txt s))
      · have hp : pvS s = (hexV (txt s), 0) := by unfold pvS; rw [if_pos he]
        rw [hp]
        have e1 : strB (hexL 16 (hexV (txt s))) = s := (hex_is hvlt).2 he
        generalize strB (hexL 16 (hexV (txt s))) = y at e1 ⊢
        conv => whnf
        rw [show (y.toList == s.toList) = true by rw [toList_beq]; exact decide_eq_true e1]
        conv => whnf
        refine RetI.two Tryd.results31 rfl rfl ?_
        conv => whnf
        exact ⟨_, Sub.refl _, rfl, rfl⟩
      · have hp : pvS s = (0, 25) := by unfold pvS; rw [if_neg he]
        rw [hp]
        have e1 : strB (hexL 16 (hexV (txt s))) ≠ s := fun hh => he ((hex_is hvlt).1 hh)
        generalize strB (hexL 16 (hexV (txt s))) = y at e1 ⊢
        conv => whnf
        rw [show (y.toList == s.toList) = false by rw [toList_beq]; exact decide_eq_false e1]
        conv => whnf
        refine RetI.two Tryd.results31 rfl rfl ?_
        conv => whnf
        exact ⟨_, Sub.refl _, rfl, rfl⟩
  · have hie : min (txt s).length 16 = i := by omega
    have hv : rN (txt s) i = hexV (txt s) := by unfold hexV; rw [hie]
    rw [hv]
    have hvlt := hexV_lt (txt s)
    conv => whnf
    refine CallS.mk Tryd.call29 ⟨[], _, _, Sub.refl _, fun F' hF' => rhex_ok F' (hexV (txt s)) hvlt, ?_⟩
    rintro e A' ⟨rfl, rfl⟩
    by_cases he : txt s = hexL 16 (hexV (txt s))
    · have hp : pvS s = (hexV (txt s), 0) := by unfold pvS; rw [if_pos he]
      rw [hp]
      have e1 : strB (hexL 16 (hexV (txt s))) = s := (hex_is hvlt).2 he
      generalize strB (hexL 16 (hexV (txt s))) = y at e1 ⊢
      conv => whnf
      rw [show (y.toList == s.toList) = true by rw [toList_beq]; exact decide_eq_true e1]
      conv => whnf
      refine RetI.two Tryd.results31 rfl rfl ?_
      conv => whnf
      exact ⟨_, Sub.refl _, rfl, rfl⟩
    · have hp : pvS s = (0, 25) := by unfold pvS; rw [if_neg he]
      rw [hp]
      have e1 : strB (hexL 16 (hexV (txt s))) ≠ s := fun hh => he ((hex_is hvlt).1 hh)
      generalize strB (hexL 16 (hexV (txt s))) = y at e1 ⊢
      conv => whnf
      rw [show (y.toList == s.toList) = false by rw [toList_beq]; exact decide_eq_false e1]
      conv => whnf
      refine RetI.two Tryd.results31 rfl rfl ?_
      conv => whnf
      exact ⟨_, Sub.refl _, rfl, rfl⟩
set_option maxHeartbeats 4000000 in
theorem texts_ok (F : Mem) (ht : TabA F) (h : ErrA F) (s : Nat) (hs : s < 18446744073709551616) (text : ByteArray) (hx : text.size ≤ 140737488355328) : FT Tryd.prog 8 [.int .u64 (s : Int), .string text].toArray F [] (Ret (.bool true)) := by
  refine FT.of_body Tryd.func8 rfl Tryd.ntmps8 (by simp) fun C hC => ?_
  subst hC
  conv => whnf
  refine CallS.mk Tryd.call9 ⟨[], _, _, Sub.refl _, fun F' hF' => lives08_ok F' (ht.ext hF'), ?_⟩
  rintro e A' ⟨rfl, rfl⟩
  conv => whnf
  refine CallS.mk Tryd.call28 ⟨[], _, _, Sub.refl _, fun F' hF' => hex_ok F' (ht.ext hF') s hs, ?_⟩
  rintro e A' ⟨rfl, rfl⟩
  conv => whnf
  refine CallS.mk Tryd.call29 ⟨[], _, _, Sub.refl _, fun F' hF' => rhex_ok F' s hs, ?_⟩
  rintro e A' ⟨rfl, rfl⟩
  have hpv : pvS (strB (hexL 16 s)) = (s, 0) := pvS_of hs (txt_strB (hexL_lt 16 s))
  have hsz : (strB (hexL 16 s)).size ≤ 140737488355328 := by rw [strB_size, hexL_length]; decide
  generalize hy : strB (hexL 16 s) = y at hpv hsz ⊢
  conv => whnf
  rw [show (y.toList == y.toList) = true from beq_self_eq_true _]
  conv => whnf
  refine CallS.mk Tryd.call30 ⟨[], _, _, Sub.refl _, fun F' hF' => hparse_ok F' (ht.ext hF') (h.ext hF') text hx, ?_⟩
  rintro e A' ⟨rfl, rfl⟩
  conv => whnf
  refine CallS.mk Tryd.call31 ⟨[], _, _, Sub.refl _, fun F' hF' => rparse_ok F' text hx, ?_⟩
  rintro e A' ⟨rfl, rfl⟩
  have hcase : (∃ v, v < 18446744073709551616 ∧ pvS text = (v, 0) ∧ strB (hexL 16 v) = text) ∨ pvS text = (0, 25) := by
    unfold pvS
    by_cases he : txt text = hexL 16 (hexV (txt text))
    · rw [if_pos he]; exact .inl ⟨_, hexV_lt _, rfl, (hex_is (hexV_lt _)).2 he⟩
    · rw [if_neg he]; exact .inr rfl
  generalize pvS text = z at hcase ⊢
  rcases hcase with ⟨v, hv, rfl, hvt⟩ | rfl
  · conv => whnf
    rw [show (((v : Nat) : Int) != ((v : Nat) : Int)) = false by simp]
    conv => whnf
    refine CallS.mk Tryd.call28 ⟨[], _, _, Sub.refl _, fun F' hF' => hex_ok F' (ht.ext hF') v hv, ?_⟩
    rw [hvt]
    rintro e A' ⟨rfl, rfl⟩
    conv => whnf
    rw [show (text.toList == text.toList) = true from beq_self_eq_true _]
    conv => whnf
    refine CallS.mk Tryd.call28 ⟨[], _, _, Sub.refl _, fun F' hF' => hex_ok F' (ht.ext hF') s hs, ?_⟩
    rw [hy]
    rintro e A' ⟨rfl, rfl⟩
    conv => whnf
    refine CallS.mk Tryd.call30 ⟨[], _, _, Sub.refl _, fun F' hF' => hparse_ok F' (ht.ext hF') (h.ext hF') y hsz, ?_⟩
    rw [hpv]
    rintro e A' ⟨rfl, rfl⟩
    conv => whnf
    rw [show (((s : Nat) : Int) == ((s : Nat) : Int)) = true from beq_self_eq_true _]
    conv => whnf
    refine RetI.one Tryd.results8 rfl ?_
    conv => whnf
    exact ⟨_, Sub.sel [] rfl, rfl, rfl⟩
  · conv => whnf
    refine CallS.mk Tryd.call28 ⟨[], _, _, Sub.refl _, fun F' hF' => hex_ok F' (ht.ext hF') s hs, ?_⟩
    rw [hy]
    rintro e A' ⟨rfl, rfl⟩
    conv => whnf
    refine CallS.mk Tryd.call30 ⟨[], _, _, Sub.refl _, fun F' hF' => hparse_ok F' (ht.ext hF') (h.ext hF') y hsz, ?_⟩
    rw [hpv]
    rintro e A' ⟨rfl, rfl⟩
    conv => whnf
    rw [show (((s : Nat) : Int) == ((s : Nat) : Int)) = true from beq_self_eq_true _]
    conv => whnf
    refine RetI.one Tryd.results8 rfl ?_
    conv => whnf
    exact ⟨_, Sub.sel [] rfl, rfl, rfl⟩
end Go.Proofs.YtpcefmocphbdgaaDoor
