/- ParseUint of digits to the base 16. -/
import Derived.Test.YtpcefmocphbdgaaDoorSeat9
import Derived.Test.YtpcefmocphbdgaaDoorHexLaw2
namespace Go.Proofs.YtpcefmocphbdgaaDoor
set_option linter.unusedVariables false
set_option linter.unusedSimpArgs false
set_option maxRecDepth 100000
open SL Go.RowKit Go.Maps
theorem low_ok : ∀ c : Fin 256, bits .or .u8 ((c.1 : Nat) : Int) 32 = ((c.1 ||| 32 : Nat) : Int) := by decide +kernel
theorem lower_ok (F : Mem) (c : Nat) (hc : c < 256) : FT Tryd.prog 63 [.int .u8 (c : Int)].toArray F [] (Ret (.int .u8 ((c ||| 32 : Nat) : Int))) := by
  refine FT.of_body Tryd.func63 rfl Tryd.ntmps63 (by simp) fun C hC => ?_
  subst hC
  conv => whnf
  rw [low_ok ⟨c, hc⟩]
  conv => whnf
  repeat (first | (refine LoadV.s rfl rfl (forceV_of ?_); conv => whnf) | (refine LoadV.s rfl rfl ?_; conv => whnf) | (refine StoreV.c rfl rfl (Nat.le_of_ble_eq_true rfl) rfl ?_; conv => whnf) | (refine LoadV.a _ rfl (Nat.le_of_ble_eq_true rfl) ?_; conv => whnf) | (refine DrawI.quiet (by kernel_rfl) (by kernel_rfl) ?_; conv => whnf) | (refine ArI.in64 (by omega) ?_; conv => whnf) | (refine ArI.inU8 (by omega) ?_; conv => whnf) | (refine ArI.inU64 (by omega) ?_; conv => whnf) | (refine ArI.inU32 (by omega) ?_; conv => whnf) | (refine RetI.one Tryd.results63 rfl ?_; conv => whnf) | (refine RetI.two Tryd.results63 rfl rfl ?_; conv => whnf) | (refine RetI.three Tryd.results63 rfl rfl rfl ?_; conv => whnf) | (refine RetI.none Tryd.results63 ?_; conv => whnf) | (refine ⟨by first | decide | omega, ?_⟩; conv => whnf))
  exact ⟨_, Sub.refl _, rfl, rfl⟩
theorem low_same : ∀ c : Fin 256, 97 ≤ c.1 → c.1 ≤ 122 → c.1 ||| 32 = c.1 := by decide +kernel
theorem low_lt : ∀ c : Fin 256, (c.1 ||| 32) < 256 := by decide +kernel
theorem hexDig_cases {d : Nat} (h : d < 16) : (hexDig d = 48 + d ∧ d < 10) ∨ (hexDig d = 87 + d ∧ 10 ≤ d) := by unfold hexDig; split <;> omega
theorem good_step {s : ByteArray} {i n : Nat} (hn : ∀ v, v < 18446744073709551616 → txt s = hexL 16 v → n = v / 16 ^ (16 - i)) (hi : i < s.size) : ∀ v, v < 18446744073709551616 → txt s = hexL 16 v → n < 1152921504606846976 ∧ ∃ d, d < 16 ∧ (txt s).getD i 0 = hexDig d ∧ v / 16 ^ (16 - (i + 1)) = n * 16 + d := by
  intro v hv h
  have hl : s.size = 16 := by rw [← txt_length, h, hexL_length]
  have h1 := hn v hv h
  refine ⟨?_, v / 16 ^ (16 - 1 - i) % 16, Nat.mod_lt _ (by omega), by rw [h]; exact hexL_at 16 v i (by omega), ?_⟩
  · rw [h1]
    have e : (16 : Nat) ^ 15 = 1152921504606846976 := by decide
    have e2 : v < 1152921504606846976 * 16 := by omega
    have h3 : v / 16 ^ (16 - i) ≤ v / 16 ^ 1 := Nat.div_le_div_left (Nat.pow_le_pow_right (by omega) (by omega)) (by decide)
    rw [Nat.pow_one] at h3
    omega
  · rw [h1, show 16 - i = (16 - (i + 1)) + 1 by omega, Nat.pow_succ, ← Nat.div_div_eq_div_mul, show 16 - 1 - i = 16 - (i + 1) by omega, Nat.mul_comm _ 16]
    exact (Nat.div_add_mod _ 16).symm
/-- What ParseUint answers. -/
def PuR (s : ByteArray) : Ending → Heap → Prop := fun e H => H = [] ∧ ((∃ n : Nat, n < 18446744073709551616 ∧ e = .returned (.tuple #[.int .u64 (n : Int), .nilIface]) ∧ ∀ v, v < 18446744073709551616 → txt s = hexL 16 v → n = v) ∨
  (∃ (x : Nat) (k : Int), x < 18446744073709551616 ∧ (k = 1 ∨ k = 2) ∧ e = .returned (.tuple #[.int .u64 (x : Int), .iface 85 (.int .i64 k)]) ∧ ∀ v, v < 18446744073709551616 → txt s ≠ hexL 16 v))
set_option maxHeartbeats 4000000 in
theorem puint_ok (F : Mem) (s : ByteArray) (hs : s.size ≤ 140737488355328) : FT Tryd.prog 52 [.string s, .int .i64 16, .int .i64 64].toArray F [] (PuR s) := by
  have hl := txt_length s
  have hlt := txt_lt s
  refine FT.of_body Tryd.func52 rfl Tryd.ntmps52 (by simp) fun C hC => ?_
  subst hC
  conv => whnf
  rw [toList_beq]
  by_cases h0 : s = ⟨#[]⟩
  · rw [decide_eq_true h0]
    conv => whnf
    repeat (first | (refine LoadV.s rfl rfl (forceV_of ?_); conv => whnf) | (refine LoadV.s rfl rfl ?_; conv => whnf) | (refine StoreV.c rfl rfl (Nat.le_of_ble_eq_true rfl) rfl ?_; conv => whnf) | (refine LoadV.a _ rfl (Nat.le_of_ble_eq_true rfl) ?_; conv => whnf) | (refine DrawI.quiet (by kernel_rfl) (by kernel_rfl) ?_; conv => whnf) | (refine ArI.in64 (by omega) ?_; conv => whnf) | (refine ArI.inU8 (by omega) ?_; conv => whnf) | (refine ArI.inU64 (by omega) ?_; conv => whnf) | (refine ArI.inU32 (by omega) ?_; conv => whnf) | (refine RetI.one Tryd.results52 rfl ?_; conv => whnf) | (refine RetI.two Tryd.results52 rfl rfl ?_; conv => whnf) | (refine RetI.three Tryd.results52 rfl rfl rfl ?_; conv => whnf) | (refine RetI.none Tryd.results52 ?_; conv => whnf) | (refine ⟨by first | decide | omega, ?_⟩; conv => whnf))
    refine ⟨_, Sub.refl _, rfl, .inr ⟨0, 2, by decide, .inr rfl, rfl, fun v _ h => ?_⟩⟩
    have := congrArg List.length h
    rw [hl, hexL_length, h0] at this
    cases this
  · rw [decide_eq_false h0]
    conv => whnf
    refine ArI.inU64 (by decide) ?_
    conv => whnf
    refine ⟨by decide, ?_⟩
    conv => whnf
    refine ArI.mk 18446744073709551615 (by decide +kernel) ?_
    conv => whnf
    refine DoV.string_bytes Tryd.underlying9 Tryd.underlying65 Tryd.underlying5 fun b m => ?_
    conv => whnf
    refine LoopI.by_state (σ := Nat × Nat) (fun y => [(0, .string s), (1, .int .i64 16), (2, .int .i64 64), (8, .bool false), (9, .string s), (10, .int .u64 1152921504606846976), (11, .int .u64 18446744073709551615), (12, .bool false), (13, .int .u64 (y.2 : Int)), (99, .slice (some ⟨b, 0, none⟩) s.size (s.size + m)), (100, .int .i64 (s.size : Int)), (101, .int .i64 (y.1 : Int))])
      (fun _ => [.cells b (bytesV (txt s ++ List.replicate m 0)) 5 (s.size + m, s.size + m + 1)]) (fun y => y.1 ≤ s.size ∧ y.2 < 18446744073709551616 ∧ ∀ v, v < 18446744073709551616 → txt s = hexL 16 v → y.2 = v / 16 ^ (16 - y.1)) (fun y => s.size - y.1) (0, 0)
      ⟨Nat.zero_le _, by decide, fun v hv _ => (Nat.div_eq_of_lt (by simpa using hv)).symm⟩ ⟨rfl, rfl, rfl, rfl, rfl, rfl, rfl, rfl, rfl, rfl, rfl, rfl, trivial⟩ (Sub.refl _) ?_
    rintro ⟨i, n⟩ f0 ⟨hi, hn, hv⟩
    dsimp only at hi hn hv ⊢
    conv => whnf
    refine cond_dec (fun h => ?_) (fun h => ?_)
    · have his : i < s.size := by omega
      conv => whnf
      refine ⟨by omega, ?_⟩
      conv => whnf
      rw [elemOff_nat]
      rotate_left
      · kernel_rfl
      have hcell : (bytesV (txt s ++ List.replicate m 0))[0 + i]? = some (.int .u8 (((txt s).getD i 0 : Nat) : Int)) := by
        rw [Nat.zero_add, List.getD_eq_getElem?_getD]
        show ((txt s ++ List.replicate m 0).map _)[i]? = _
        rw [List.getElem?_map, List.getElem?_append_left (by omega), List.getElem?_eq_getElem (by omega : i < (txt s).length)]
        rfl
      have hgood := good_step hv his
      have hc : (txt s).getD i 0 < 256 := by
        rw [List.getD_eq_getElem?_getD, List.getElem?_eq_getElem (by omega : i < (txt s).length)]
        exact hlt _ (List.getElem_mem _)
      refine LoadV.s rfl hcell ?_
      generalize (txt s).getD i 0 = c at hc hgood ⊢
      by_cases h95 : c = 95
      · subst h95
        conv => whnf
        refine CallS.mk Tryd.call63 ⟨[], [_], _, Sub.sel [0] rfl, fun F' hF' => lower_ok F' 95 hc, ?_⟩
        rintro e A' ⟨rfl, rfl⟩
        conv => whnf
        refine CallS.mk Tryd.call63 ⟨[], [_], _, Sub.sel [0] rfl, fun F' hF' => lower_ok F' 95 hc, ?_⟩
        rintro e A' ⟨rfl, rfl⟩
        conv => whnf
        refine RetI.two Tryd.results52 rfl rfl ?_
        conv => whnf
        refine ⟨_, Sub.sel [] rfl, rfl, .inr ⟨0, 2, by decide, .inr rfl, rfl, fun v hv2 hh => ?_⟩⟩
        obtain ⟨h60, dd, hd16, hcd, _⟩ := hgood v hv2 hh
        have hcs := hexDig_cases hd16
        omega
      · conv => whnf
        rw [show ((c : Int) == 95) = false by simp; omega]
        conv => whnf
        refine cond_dec (fun h1 => ?_) (fun h1 => ?_)
        · conv => whnf
          refine cond_dec (fun h2 => ?_) (fun h2 => ?_)
          · conv => whnf
            refine ArI.toU8 ((c - 48 : Nat) : Int) (by omega) (by omega) ?_
            have hw : ∀ dd, dd < 16 → c = hexDig dd → c - 48 = dd := fun dd hd16 hcd => by
              have hcs := hexDig_cases hd16
              omega
            conv => whnf
            refine ArI.inU8 (by decide) ?_
            conv => whnf
            refine cond_dec (fun h5 => ?_) (fun h5 => ?_)
            · conv => whnf
              refine RetI.two Tryd.results52 rfl rfl ?_
              conv => whnf
              refine ⟨_, Sub.sel [] rfl, rfl, .inr ⟨0, 2, by decide, .inr rfl, rfl, fun v hv2 hh => ?_⟩⟩
              obtain ⟨h60, dd, hd16, hcd, _⟩ := hgood v hv2 hh
              have hcs := hexDig_cases hd16
              have := hw dd hd16 hcd
              omega
            · conv => whnf
              refine cond_dec (fun h6 => ?_) (fun h6 => ?_)
              · conv => whnf
                refine RetI.two Tryd.results52 rfl rfl ?_
                conv => whnf
                refine ⟨_, Sub.sel [] rfl, rfl, .inr ⟨18446744073709551615, 1, by decide, .inl rfl, rfl, fun v hv2 hh => ?_⟩⟩
                obtain ⟨h60, dd, hd16, hcd, _⟩ := hgood v hv2 hh
                have hcs := hexDig_cases hd16
                omega
              · conv => whnf
                refine ArI.inU64 (by decide) ?_
                conv => whnf
                refine ArI.toU64 ((n * 16 : Nat) : Int) (by omega) (by omega) ?_
                conv => whnf
                refine ArI.inU64 (by omega) ?_
                conv => whnf
                refine ArI.toU64 ((n * 16 + (c - 48) : Nat) : Int) (by omega) (by omega) ?_
                conv => whnf
                rw [show decide (((n * 16 + (c - 48) : Nat) : Int) < ((n * 16 : Nat) : Int)) = false from decide_eq_false (by omega)]
                conv => whnf
                rw [show decide ((18446744073709551615 : Int) < ((n * 16 + (c - 48) : Nat) : Int)) = false from decide_eq_false (by omega)]
                conv => whnf
                refine ArI.to64 ((i + 1 : Nat) : Int) (by omega) (by omega) ?_
                conv => whnf
                refine ⟨(i + 1, n * 16 + (c - 48)), _, by dsimp only; omega, Sub.refl _, ⟨by dsimp only; omega, by dsimp only; omega, fun v hv2 hh => ?_⟩, ⟨rfl, rfl, rfl, rfl, rfl, rfl, rfl, rfl, rfl, rfl, rfl, rfl, trivial⟩, rfl⟩
                obtain ⟨_, dd, hd16, hcd, he⟩ := hgood v hv2 hh
                have := hw dd hd16 hcd
                dsimp only
                omega
          · conv => whnf
            refine CallS.mk Tryd.call63 ⟨[], [_], _, Sub.sel [0] rfl, fun F' hF' => lower_ok F' c hc, ?_⟩
            rintro e A' ⟨rfl, rfl⟩
            conv => whnf
            refine cond_dec (fun h3 => ?_) (fun h3 => ?_)
            · conv => whnf
              refine CallS.mk Tryd.call63 ⟨[], [_], _, Sub.sel [0] rfl, fun F' hF' => lower_ok F' c hc, ?_⟩
              rintro e A' ⟨rfl, rfl⟩
              conv => whnf
              refine cond_dec (fun h4 => ?_) (fun h4 => ?_)
              · conv => whnf
                refine CallS.mk Tryd.call63 ⟨[], [_], _, Sub.sel [0] rfl, fun F' hF' => lower_ok F' c hc, ?_⟩
                rintro e A' ⟨rfl, rfl⟩
                have hw : ∀ dd, dd < 16 → c = hexDig dd → (c ||| 32) - 87 = dd := fun dd hd16 hcd => by
                  have hcs := hexDig_cases hd16
                  have e := low_same ⟨c, hc⟩ (by dsimp only; omega) (by dsimp only; omega)
                  dsimp only at e
                  rw [e]
                  omega
                generalize c ||| 32 = l at h3 h4 hw ⊢
                conv => whnf
                refine ArI.toU8 ((l - 97 : Nat) : Int) (by omega) (by omega) ?_
                conv => whnf
                refine ArI.toU8 ((l - 87 : Nat) : Int) (by omega) (by omega) ?_
                conv => whnf
                refine ArI.inU8 (by decide) ?_
                conv => whnf
                refine cond_dec (fun h5 => ?_) (fun h5 => ?_)
                · conv => whnf
                  refine RetI.two Tryd.results52 rfl rfl ?_
                  conv => whnf
                  refine ⟨_, Sub.sel [] rfl, rfl, .inr ⟨0, 2, by decide, .inr rfl, rfl, fun v hv2 hh => ?_⟩⟩
                  obtain ⟨h60, dd, hd16, hcd, _⟩ := hgood v hv2 hh
                  have hcs := hexDig_cases hd16
                  have := hw dd hd16 hcd
                  omega
                · conv => whnf
                  refine cond_dec (fun h6 => ?_) (fun h6 => ?_)
                  · conv => whnf
                    refine RetI.two Tryd.results52 rfl rfl ?_
                    conv => whnf
                    refine ⟨_, Sub.sel [] rfl, rfl, .inr ⟨18446744073709551615, 1, by decide, .inl rfl, rfl, fun v hv2 hh => ?_⟩⟩
                    obtain ⟨h60, dd, hd16, hcd, _⟩ := hgood v hv2 hh
                    have hcs := hexDig_cases hd16
                    omega
                  · conv => whnf
                    refine ArI.inU64 (by decide) ?_
                    conv => whnf
                    refine ArI.toU64 ((n * 16 : Nat) : Int) (by omega) (by omega) ?_
                    conv => whnf
                    refine ArI.inU64 (by omega) ?_
                    conv => whnf
                    refine ArI.toU64 ((n * 16 + (l - 87) : Nat) : Int) (by omega) (by omega) ?_
                    conv => whnf
                    rw [show decide (((n * 16 + (l - 87) : Nat) : Int) < ((n * 16 : Nat) : Int)) = false from decide_eq_false (by omega)]
                    conv => whnf
                    rw [show decide ((18446744073709551615 : Int) < ((n * 16 + (l - 87) : Nat) : Int)) = false from decide_eq_false (by omega)]
                    conv => whnf
                    refine ArI.to64 ((i + 1 : Nat) : Int) (by omega) (by omega) ?_
                    conv => whnf
                    refine ⟨(i + 1, n * 16 + (l - 87)), _, by dsimp only; omega, Sub.refl _, ⟨by dsimp only; omega, by dsimp only; omega, fun v hv2 hh => ?_⟩, ⟨rfl, rfl, rfl, rfl, rfl, rfl, rfl, rfl, rfl, rfl, rfl, rfl, trivial⟩, rfl⟩
                    obtain ⟨_, dd, hd16, hcd, he⟩ := hgood v hv2 hh
                    have := hw dd hd16 hcd
                    dsimp only
                    omega
              · conv => whnf
                refine RetI.two Tryd.results52 rfl rfl ?_
                conv => whnf
                refine ⟨_, Sub.sel [] rfl, rfl, .inr ⟨0, 2, by decide, .inr rfl, rfl, fun v hv2 hh => ?_⟩⟩
                obtain ⟨h60, dd, hd16, hcd, _⟩ := hgood v hv2 hh
                have hcs := hexDig_cases hd16
                have := low_same ⟨c, hc⟩ (by dsimp only; omega) (by dsimp only; omega)
                dsimp only at this
                omega
            · conv => whnf
              refine RetI.two Tryd.results52 rfl rfl ?_
              conv => whnf
              refine ⟨_, Sub.sel [] rfl, rfl, .inr ⟨0, 2, by decide, .inr rfl, rfl, fun v hv2 hh => ?_⟩⟩
              obtain ⟨h60, dd, hd16, hcd, _⟩ := hgood v hv2 hh
              have hcs := hexDig_cases hd16
              have := low_same ⟨c, hc⟩ (by dsimp only; omega) (by dsimp only; omega)
              dsimp only at this
              omega
        · conv => whnf
          refine CallS.mk Tryd.call63 ⟨[], [_], _, Sub.sel [0] rfl, fun F' hF' => lower_ok F' c hc, ?_⟩
          rintro e A' ⟨rfl, rfl⟩
          conv => whnf
          refine cond_dec (fun h3 => ?_) (fun h3 => ?_)
          · conv => whnf
            refine CallS.mk Tryd.call63 ⟨[], [_], _, Sub.sel [0] rfl, fun F' hF' => lower_ok F' c hc, ?_⟩
            rintro e A' ⟨rfl, rfl⟩
            conv => whnf
            refine cond_dec (fun h4 => ?_) (fun h4 => ?_)
            · conv => whnf
              refine CallS.mk Tryd.call63 ⟨[], [_], _, Sub.sel [0] rfl, fun F' hF' => lower_ok F' c hc, ?_⟩
              rintro e A' ⟨rfl, rfl⟩
              have hw : ∀ dd, dd < 16 → c = hexDig dd → (c ||| 32) - 87 = dd := fun dd hd16 hcd => by
                have hcs := hexDig_cases hd16
                have e := low_same ⟨c, hc⟩ (by dsimp only; omega) (by dsimp only; omega)
                dsimp only at e
                rw [e]
                omega
              generalize c ||| 32 = l at h3 h4 hw ⊢
              conv => whnf
              refine ArI.toU8 ((l - 97 : Nat) : Int) (by omega) (by omega) ?_
              conv => whnf
              refine ArI.toU8 ((l - 87 : Nat) : Int) (by omega) (by omega) ?_
              conv => whnf
              refine ArI.inU8 (by decide) ?_
              conv => whnf
              refine cond_dec (fun h5 => ?_) (fun h5 => ?_)
              · conv => whnf
                refine RetI.two Tryd.results52 rfl rfl ?_
                conv => whnf
                refine ⟨_, Sub.sel [] rfl, rfl, .inr ⟨0, 2, by decide, .inr rfl, rfl, fun v hv2 hh => ?_⟩⟩
                obtain ⟨h60, dd, hd16, hcd, _⟩ := hgood v hv2 hh
                have hcs := hexDig_cases hd16
                have := hw dd hd16 hcd
                omega
              · conv => whnf
                refine cond_dec (fun h6 => ?_) (fun h6 => ?_)
                · conv => whnf
                  refine RetI.two Tryd.results52 rfl rfl ?_
                  conv => whnf
                  refine ⟨_, Sub.sel [] rfl, rfl, .inr ⟨18446744073709551615, 1, by decide, .inl rfl, rfl, fun v hv2 hh => ?_⟩⟩
                  obtain ⟨h60, dd, hd16, hcd, _⟩ := hgood v hv2 hh
                  have hcs := hexDig_cases hd16
                  omega
                · conv => whnf
                  refine ArI.inU64 (by decide) ?_
                  conv => whnf
                  refine ArI.toU64 ((n * 16 : Nat) : Int) (by omega) (by omega) ?_
                  conv => whnf
                  refine ArI.inU64 (by omega) ?_
                  conv => whnf
                  refine ArI.toU64 ((n * 16 + (l - 87) : Nat) : Int) (by omega) (by omega) ?_
                  conv => whnf
                  rw [show decide (((n * 16 + (l - 87) : Nat) : Int) < ((n * 16 : Nat) : Int)) = false from decide_eq_false (by omega)]
                  conv => whnf
                  rw [show decide ((18446744073709551615 : Int) < ((n * 16 + (l - 87) : Nat) : Int)) = false from decide_eq_false (by omega)]
                  conv => whnf
                  refine ArI.to64 ((i + 1 : Nat) : Int) (by omega) (by omega) ?_
                  conv => whnf
                  refine ⟨(i + 1, n * 16 + (l - 87)), _, by dsimp only; omega, Sub.refl _, ⟨by dsimp only; omega, by dsimp only; omega, fun v hv2 hh => ?_⟩, ⟨rfl, rfl, rfl, rfl, rfl, rfl, rfl, rfl, rfl, rfl, rfl, rfl, trivial⟩, rfl⟩
                  obtain ⟨_, dd, hd16, hcd, he⟩ := hgood v hv2 hh
                  have := hw dd hd16 hcd
                  dsimp only
                  omega
            · conv => whnf
              refine RetI.two Tryd.results52 rfl rfl ?_
              conv => whnf
              refine ⟨_, Sub.sel [] rfl, rfl, .inr ⟨0, 2, by decide, .inr rfl, rfl, fun v hv2 hh => ?_⟩⟩
              obtain ⟨h60, dd, hd16, hcd, _⟩ := hgood v hv2 hh
              have hcs := hexDig_cases hd16
              have := low_same ⟨c, hc⟩ (by dsimp only; omega) (by dsimp only; omega)
              dsimp only at this
              omega
          · conv => whnf
            refine RetI.two Tryd.results52 rfl rfl ?_
            conv => whnf
            refine ⟨_, Sub.sel [] rfl, rfl, .inr ⟨0, 2, by decide, .inr rfl, rfl, fun v hv2 hh => ?_⟩⟩
            obtain ⟨h60, dd, hd16, hcd, _⟩ := hgood v hv2 hh
            have hcs := hexDig_cases hd16
            have := low_same ⟨c, hc⟩ (by dsimp only; omega) (by dsimp only; omega)
            dsimp only at this
            omega
    · obtain rfl : i = s.size := by omega
      conv => whnf
      refine RetI.two Tryd.results52 rfl rfl ?_
      conv => whnf
      refine ⟨_, Sub.sel [] rfl, rfl, .inl ⟨n, hn, rfl, fun v hv2 hh => ?_⟩⟩
      have hl16 : s.size = 16 := by rw [← txt_length, hh, hexL_length]
      have := hv v hv2 hh
      rw [hl16] at this
      simpa using this
end Go.Proofs.YtpcefmocphbdgaaDoor
