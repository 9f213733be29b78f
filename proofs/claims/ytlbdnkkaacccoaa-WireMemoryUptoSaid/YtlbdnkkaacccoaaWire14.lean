/- The law of messages: they are taken whole. -/
import Derived.Test.YtlbdnkkaacccoaaWire13
namespace Go.Proofs.Ytlbdnkkaacccoaa
set_option linter.unusedVariables false
set_option linter.unusedSimpArgs false
set_option maxRecDepth 100000
open SL Go.RowKit Go.Maps
theorem dec_part {m : Msg} (hm : goodB m = true) (k : Nat) (h : k < (encT m).size) : decV ((encT m).extract 0 k) = (zMsg, 13) := by
  refine dec_front hm (R := (txt (encT m)).drop k) ?_ ?_
  · rw [txt_extract]; simp
  · intro e
    have := congrArg List.length e
    rw [List.length_drop, txt_length] at this
    simp at this
    omega
theorem dec_one {m : Msg} (hm : goodB m = true) (k : Nat) (h : k < 256) : decV (encT m ++ strB [k]) = (zMsg, 13) := by
  refine dec_more hm (R := [k]) ?_ (by simp)
  rw [txt_append, txt_strB (l := [k]) (by intro x hx; simp at hx; subst hx; exact h)]
set_option maxHeartbeats 4000000 in
theorem whole_ok14 (F : Mem) (m : Msg) (s : Sls) (more : Nat) (hr : Rows14 F m s) (hz : Sz m) (hm : more < 256) : FT Try.prog 5 [.agg (msgL m s).toArray, .int .u8 (more : Int)].toArray F [] (Ret (.bool true)) := by
  refine FT.of_body Try.func5 rfl Try.ntmps5 (by simp) fun C hC => ?_
  subst hC
  conv => whnf
  intro p
  conv => whnf
  refine CallS.mk Try.call8 ⟨[], _, _, Sub.refl _, fun F' hF' => lives14_ok F', ?_⟩
  rintro e A' ⟨rfl, rfl⟩
  conv => whnf
  refine LoadV.a 26 rfl (Nat.le_of_ble_eq_true rfl) ?_
  conv => whnf
  refine CallS.mk Try.call11 ⟨[], _, _, Sub.refl _, fun F' hF' => enc_ok F' m s (hr.ext hF'.F) hz, ?_⟩
  cases hg : goodB m with
  | false =>
    rw [encV_bad hg]
    obtain ⟨x, hx⟩ : ∃ x : ByteArray, x = ⟨#[]⟩ := ⟨_, rfl⟩
    rw [← hx]
    rintro e A' ⟨rfl, rfl⟩
    conv => whnf
    repeat (first | (refine LoadV.s rfl rfl (forceV_of ?_); conv => whnf) | (refine LoadV.s rfl rfl ?_; conv => whnf) | (refine StoreV.c rfl rfl (Nat.le_of_ble_eq_true rfl) rfl ?_; conv => whnf) | (refine LoadV.a _ rfl (Nat.le_of_ble_eq_true rfl) ?_; conv => whnf) | (refine DrawI.quiet (by kernel_rfl) (by kernel_rfl) ?_; conv => whnf) | (refine ArI.in64 (by omega) ?_; conv => whnf) | (refine ArI.inU8 (by omega) ?_; conv => whnf) | (refine ArI.inU64 (by omega) ?_; conv => whnf) | (refine ArI.inU32 (by omega) ?_; conv => whnf) | (refine RetI.one Try.results5 rfl ?_; conv => whnf) | (refine RetI.two Try.results5 rfl rfl ?_; conv => whnf) | (refine RetI.three Try.results5 rfl rfl rfl ?_; conv => whnf) | (refine RetI.none Try.results5 ?_; conv => whnf) | (refine ⟨by first | decide | omega, ?_⟩; conv => whnf))
    exact ⟨_, Sub.sel [] rfl, ret_bool (by rw [toList_beq]; exact decide_eq_true rfl), rfl⟩
  | true =>
    rw [encV_good hg]
    have hsz := enc_size hg
    have hp := dec_part hg
    have h1 := dec_one hg more hm
    obtain ⟨y, hy⟩ : ∃ y, y = encT m := ⟨_, rfl⟩
    rw [← hy] at hsz hp h1 ⊢
    rintro e A' ⟨rfl, rfl⟩
    conv => whnf
    refine LoopI.by_state (σ := Nat) (fun i => [(1, .int .u8 (more : Int)), (5, .string y), (7, .int .i64 (i : Int))]) (fun _ => []) (fun i => i ≤ y.size) (fun i => y.size - i) 0 (Nat.zero_le _) ⟨rfl, rfl, rfl, trivial⟩ (Sub.sel [] rfl) ?_
    rintro i f0 hi
    conv => whnf
    have done : ∀ {X : Prop}, X → X := fun h => h
    refine cond_dec (fun h => ?_) (fun h => ?_)
    · conv => whnf
      refine cond_dec (fun h2 => ?_) (fun h2 => ?_)
      · conv => whnf
        refine DoV.str_h Try.underlying9 (by omega) (by omega) ?_
        conv => whnf
        refine CallS.mk Try.call13 ⟨[], _, _, Sub.refl _, fun F' hF' => dec_ok F' (y.extract 0 i) (by rw [ByteArray.size_extract]; omega), ?_⟩
        rw [hp i (by omega)]
        rintro e A' ⟨gL, gJ, gI, hat, rfl, rfl⟩
        conv => whnf
        intro b
        conv => whnf
        refine StoreV.c rfl rfl (Nat.le_of_ble_eq_true rfl) rfl ?_
        conv => whnf
        refine ArI.to64 ((y.size - 1 : Nat) : Int) (by omega) (by omega) ?_
        conv => whnf
        refine ArI.to64 ((y.size - 1 - i : Nat) : Int) (by omega) (by omega) ?_
        conv => whnf
        refine DoV.str_h Try.underlying9 (by omega) (by omega) ?_
        conv => whnf
        refine CallS.mk Try.call13 ⟨[], _, _, Sub.refl _, fun F' hF' => dec_ok F' (y.extract 0 (y.size - 1 - i)) (by rw [ByteArray.size_extract]; omega), ?_⟩
        rw [hp (y.size - 1 - i) (by omega)]
        rintro e A' ⟨hL, hJ, hI, hat2, rfl, rfl⟩
        conv => whnf
        intro c
        conv => whnf
        refine StoreV.c rfl rfl (Nat.le_of_ble_eq_true rfl) rfl ?_
        conv => whnf
        refine ArI.to64 ((i + 1 : Nat) : Int) (by omega) (by omega) ?_
        conv => whnf
        exact ⟨i + 1, _, by omega, Sub.sel [] rfl, by omega, ⟨rfl, rfl, rfl, trivial⟩, rfl⟩
      · conv => whnf
        intro b2
        conv => whnf
        refine DoV.bytes_string (l := [more]) Try.underlying48 Try.underlying5 Try.underlying9 rfl (by
          have := Row.cells (C := C) (H := [.cells b2 [.int .u8 (more : Int)] 5 (0, 0)]) (b := b2) (o := 0) 1
          exact this) ?_
        conv => whnf
        refine ⟨by rw [strB_size]; show _ + 1 ≤ _; omega, ?_⟩
        conv => whnf
        refine CallS.mk Try.call13 ⟨[], _, _, Sub.refl _, fun F' hF' => dec_ok F' (y ++ strB [more]) (by rw [ByteArray.size_append, strB_size]; show _ + 1 ≤ _; omega), ?_⟩
        rw [h1]
        rintro e A' ⟨gL, gJ, gI, hat, rfl, rfl⟩
        conv => whnf
        intro b
        conv => whnf
        refine StoreV.c rfl rfl (Nat.le_of_ble_eq_true rfl) rfl ?_
        conv => whnf
        repeat (first | (refine LoadV.s rfl rfl (forceV_of ?_); conv => whnf) | (refine LoadV.s rfl rfl ?_; conv => whnf) | (refine StoreV.c rfl rfl (Nat.le_of_ble_eq_true rfl) rfl ?_; conv => whnf) | (refine LoadV.a _ rfl (Nat.le_of_ble_eq_true rfl) ?_; conv => whnf) | (refine DrawI.quiet (by kernel_rfl) (by kernel_rfl) ?_; conv => whnf) | (refine ArI.in64 (by omega) ?_; conv => whnf) | (refine ArI.inU8 (by omega) ?_; conv => whnf) | (refine ArI.inU64 (by omega) ?_; conv => whnf) | (refine ArI.inU32 (by omega) ?_; conv => whnf) | (refine RetI.one Try.results5 rfl ?_; conv => whnf) | (refine RetI.two Try.results5 rfl rfl ?_; conv => whnf) | (refine RetI.three Try.results5 rfl rfl rfl ?_; conv => whnf) | (refine RetI.none Try.results5 ?_; conv => whnf) | (refine ⟨by first | decide | omega, ?_⟩; conv => whnf))
        exact ⟨_, Sub.sel [] rfl, rfl, rfl⟩
    · conv => whnf
      intro b2
      conv => whnf
      refine DoV.bytes_string (l := [more]) Try.underlying48 Try.underlying5 Try.underlying9 rfl (by
        have := Row.cells (C := C) (H := [.cells b2 [.int .u8 (more : Int)] 5 (0, 0)]) (b := b2) (o := 0) 1
        exact this) ?_
      conv => whnf
      refine ⟨by rw [strB_size]; show _ + 1 ≤ _; omega, ?_⟩
      conv => whnf
      refine CallS.mk Try.call13 ⟨[], _, _, Sub.refl _, fun F' hF' => dec_ok F' (y ++ strB [more]) (by rw [ByteArray.size_append, strB_size]; show _ + 1 ≤ _; omega), ?_⟩
      rw [h1]
      rintro e A' ⟨gL, gJ, gI, hat, rfl, rfl⟩
      conv => whnf
      intro b
      conv => whnf
      refine StoreV.c rfl rfl (Nat.le_of_ble_eq_true rfl) rfl ?_
      conv => whnf
      repeat (first | (refine LoadV.s rfl rfl (forceV_of ?_); conv => whnf) | (refine LoadV.s rfl rfl ?_; conv => whnf) | (refine StoreV.c rfl rfl (Nat.le_of_ble_eq_true rfl) rfl ?_; conv => whnf) | (refine LoadV.a _ rfl (Nat.le_of_ble_eq_true rfl) ?_; conv => whnf) | (refine DrawI.quiet (by kernel_rfl) (by kernel_rfl) ?_; conv => whnf) | (refine ArI.in64 (by omega) ?_; conv => whnf) | (refine ArI.inU8 (by omega) ?_; conv => whnf) | (refine ArI.inU64 (by omega) ?_; conv => whnf) | (refine ArI.inU32 (by omega) ?_; conv => whnf) | (refine RetI.one Try.results5 rfl ?_; conv => whnf) | (refine RetI.two Try.results5 rfl rfl ?_; conv => whnf) | (refine RetI.three Try.results5 rfl rfl rfl ?_; conv => whnf) | (refine RetI.none Try.results5 ?_; conv => whnf) | (refine ⟨by first | decide | omega, ?_⟩; conv => whnf))
      exact ⟨_, Sub.sel [] rfl, rfl, rfl⟩
end Go.Proofs.Ytlbdnkkaacccoaa
