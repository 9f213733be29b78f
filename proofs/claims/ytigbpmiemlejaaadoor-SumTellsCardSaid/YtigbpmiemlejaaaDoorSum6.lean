/- The law of spoilt texts, as a contract. -/
import Derived.Test.YtigbpmiemlejaaaDoorSum5
namespace Go.Proofs.YtigbpmiemlejaaaDoor
set_option linter.unusedVariables false
set_option linter.unusedSimpArgs false
open SL Go.RowKit Go.Maps

/-- What the window may turn. -/
structure Win (T L : List Nat) (from_ i : Nat) : Prop where
  len : L.length = T.length
  lt : ∀ x ∈ L, x < 256
  out : ∀ j, j < from_ ∨ from_ + i ≤ j → L[j]? = T[j]?
theorem Win.set {T L : List Nat} {f i x : Nat} (h : Win T L f i) (hx : x < 256) : Win T (L.set (f + i) x) f (i + 1) :=
  ⟨by rw [List.length_set]; exact h.len, fun y hy => (List.mem_or_eq_of_mem_set hy).elim (h.lt y) (fun e => e ▸ hx), fun j hj => by rw [List.getElem?_set_ne (by omega)]; exact h.out j (by omega)⟩
theorem win_tells {s : ByteArray} {m f i : Nat} {L : List Nat} (h : Win (txt s ++ List.replicate m 0) L f i) (h4 : i ≤ 4) (hi : f + i ≤ s.size) (he : extN 0 (L.take s.size) = extN 0 (txt s)) : L.take s.size = txt s := by
  have hl := txt_length s
  have hn : L.length = s.size + m := by rw [h.len]; simp [hl]
  have hT : ∀ j, j < s.size → (txt s ++ List.replicate m 0)[j]? = (txt s)[j]? := fun j hj => List.getElem?_append_left (by omega)
  have e1 : L.take s.size = L.take f ++ (L.drop f).take i ++ ((L.take s.size).drop (f + i)) := by
    conv => lhs; rw [← List.take_append_drop (f + i) (L.take s.size)]
    rw [List.take_take, Nat.min_eq_left hi, List.take_add]
  have e2 : txt s = (txt s).take f ++ ((txt s).drop f).take i ++ ((txt s).drop (f + i)) := by
    conv => lhs; rw [← List.take_append_drop (f + i) (txt s)]
    rw [List.take_add]
  have p : L.take f = (txt s).take f := by
    apply List.ext_getElem?
    intro j
    simp only [List.getElem?_take]
    split
    · rw [h.out j (by omega), hT j (by omega)]
    · rfl
  have q : (L.take s.size).drop (f + i) = (txt s).drop (f + i) := by
    apply List.ext_getElem?
    intro j
    rw [List.getElem?_drop, List.getElem?_drop, List.getElem?_take]
    split
    · rw [h.out _ (by omega), hT _ (by omega)]
    · rw [List.getElem?_eq_none (by omega)]
  have lt := txt_lt s
  have w : (L.drop f).take i = ((txt s).drop f).take i := by
    have hcl : crc 4294967295 (L.take s.size) < 4294967296 := crc_lt _ _ (fun x hx => h.lt x (List.mem_of_mem_take hx)) (by decide)
    have hcr : crc 4294967295 (txt s) < 4294967296 := crc_lt _ _ lt (by decide)
    have hc : crc 4294967295 (L.take s.size) = crc 4294967295 (txt s) := by
      unfold extN at he
      rw [Nat.sub_zero] at he
      generalize crc 4294967295 (L.take s.size) = x at he hcl ⊢
      generalize crc 4294967295 (txt s) = y at he hcr ⊢
      omega
    rw [e1, e2, p, q] at hc
    exact crc_tells (fun x hx => lt x (List.mem_of_mem_take hx)) (fun x hx => h.lt x (List.mem_of_mem_drop (List.mem_of_mem_take hx))) (fun x hx => lt x (List.mem_of_mem_drop (List.mem_of_mem_take hx))) (fun x hx => lt x (List.mem_of_mem_drop hx)) (by simp; omega) (by simp; omega) (by decide) hc
  rw [e1, p, w, q, ← e2]
theorem putAt_byte (L : List Nat) (k x : Nat) (h : k < L.length) : putAt (bytesV L) k [.int .u8 (x : Int)] = bytesV (L.set k x) := by
  have : bytesV (L.set k x) = (bytesV L).set k (.int .u8 (x : Int)) := List.map_set
  rw [this, List.set_eq_take_append_cons_drop, if_pos (by simpa using h)]
  simp [putAt]
theorem shareN {n : Nat} {G : Prop} (P : Nat → Prop) (use : (∀ k, k ≤ n → P k) → G) (prove : ∀ k, k ≤ n → P k) : G := use prove
set_option maxHeartbeats 4000000 in
theorem tells_ok (F : Mem) (ht : Tab F) (s : ByteArray) (at_ : Int) (w0 w1 w2 w3 : Nat) (hs : s.size ≤ 140737488355328) (h0 : w0 < 256) (h1 : w1 < 256) (h2 : w2 < 256) (h3 : w3 < 256) :
    FT Tryd.prog 5 [.string s, .int .i64 at_, .agg #[.int .u8 (w0 : Int), .int .u8 (w1 : Int), .int .u8 (w2 : Int), .int .u8 (w3 : Int)]].toArray F [] (Ret (.bool true)) := by
  refine FT.of_body Tryd.func5 rfl Tryd.ntmps5 (by simp) fun C hC => ?_
  subst hC
  conv => whnf
  intro bw
  conv => whnf
  refine CallS.mk Tryd.call8 ⟨[], _, _, Sub.refl _, fun F' hF' => lives04_ok F' (ht.ext hF'), ?_⟩
  rintro e A' ⟨rfl, rfl⟩
  conv => whnf
  refine DoV.string_bytes Tryd.underlying9 Tryd.underlying27 Tryd.underlying5 fun b m => ?_
  conv => whnf
  have hl := txt_length s
  have hT : ∀ x ∈ txt s ++ List.replicate m 0, x < 256 := by
    intro x hx
    rcases List.mem_append.1 hx with hx | hx
    · exact txt_lt s x hx
    · rw [(List.mem_replicate.1 hx).2]; decide
  apply shareN (n := s.size)
  case use =>
    intro key
    refine cond_split (fun h => ?_) (fun h => ?_)
    · have hpos : 0 < s.size := by have := of_decide_eq_true h; omega
      conv => whnf
      refine ArI.keep ?_
      conv => whnf
      refine ArI.inU64 (by omega) ?_
      conv => whnf
      refine ⟨⟨rfl, by omega⟩, ?_⟩
      obtain ⟨k, hkv, hk1⟩ := u64_mod at_ (s.size : Int) (by omega)
      conv => whnf
      rw [hkv]
      refine ArI.in64 (by omega) ?_
      conv => whnf
      have hk : k ≤ s.size := by omega
      refine LoopI.by_state (σ := Nat × List Nat) (fun x => [(0, .string s), (5, .pointer (some ⟨bw, 0, none⟩)), (7, .slice (some ⟨b, 0, none⟩) s.size (s.size + m)), (8, .int .i64 (k : Nat)), (9, .int .i64 (x.1 : Int))])
        (fun x => [.cells b (bytesV x.2) 5 (s.size + m, s.size + m + 1), .cells bw [.int .u8 (w0 : Int), .int .u8 (w1 : Int), .int .u8 (w2 : Int), .int .u8 (w3 : Int)] 29 (0, 0)])
        (fun x => x.1 ≤ 4 ∧ k + x.1 ≤ s.size ∧ Win (txt s ++ List.replicate m 0) x.2 k x.1) (fun x => 4 - x.1) (0, txt s ++ List.replicate m 0) ⟨by dsimp only; omega, by dsimp only; omega, ⟨rfl, hT, fun _ _ => rfl⟩⟩ ⟨rfl, rfl, rfl, rfl, rfl, trivial⟩ (Sub.refl _) ?_
      exact key k hk
    · conv => whnf
      obtain ⟨k, hk, hk0⟩ : ∃ k : Nat, k ≤ s.size ∧ k = 0 := ⟨0, by omega, rfl⟩
      refine LoopI.by_state (σ := Nat × List Nat) (fun x => [(0, .string s), (5, .pointer (some ⟨bw, 0, none⟩)), (7, .slice (some ⟨b, 0, none⟩) s.size (s.size + m)), (8, .int .i64 (k : Nat)), (9, .int .i64 (x.1 : Int))])
        (fun x => [.cells b (bytesV x.2) 5 (s.size + m, s.size + m + 1), .cells bw [.int .u8 (w0 : Int), .int .u8 (w1 : Int), .int .u8 (w2 : Int), .int .u8 (w3 : Int)] 29 (0, 0)])
        (fun x => x.1 ≤ 4 ∧ k + x.1 ≤ s.size ∧ Win (txt s ++ List.replicate m 0) x.2 k x.1) (fun x => 4 - x.1) (0, txt s ++ List.replicate m 0) ⟨by dsimp only; omega, by dsimp only; omega, ⟨rfl, hT, fun _ _ => rfl⟩⟩ ⟨rfl, rfl, rfl, (by subst hk0; rfl), rfl, trivial⟩ (Sub.refl _) ?_
      exact key k hk
  case prove =>
    rintro f hf ⟨i, L⟩ f0 ⟨hi, hfi, hW⟩
    dsimp only at hi hfi hW ⊢
    conv => whnf
    have hLl : L.length = s.size + m := by rw [hW.len]; simp [hl]
    have hql : (L.take s.size).length = s.size := by simp; omega
    obtain ⟨q, hq⟩ : ∃ q, q = strB (L.take s.size) := ⟨_, rfl⟩
    have hqt : txt q = L.take s.size := by rw [hq]; exact txt_strB fun x hx => hW.lt x (List.mem_of_mem_take hx)
    have hqs : q.size ≤ 9223372036854775807 := by rw [hq, strB_size]; omega
    have hfin : ((((extN 0 (L.take s.size) : Nat) : Int) == ((extN 0 (txt s) : Nat) : Int)) == (q.toList == s.toList)) = true := by
      rw [toList_beq]
      by_cases he : extN 0 (L.take s.size) = extN 0 (txt s)
      · have hqs2 : q = s := txt_inj (hqt.trans (win_tells hW hi hfi he))
        rw [he, decide_eq_true hqs2]; simp
      · have hne : ¬ q = s := fun e => he (by rw [← hqt, e])
        have h9 : (((extN 0 (L.take s.size) : Nat) : Int) == ((extN 0 (txt s) : Nat) : Int)) = false := beq_eq_false_iff_ne.2 (fun e => he (Int.ofNat.inj e))
        rw [h9, decide_eq_false hne]; rfl
    have hrow : Row C [.cells b (bytesV L) 5 (s.size + m, s.size + m + 1)] ⟨b, 0, none⟩ (bytesV (L.take s.size)) := by
      have := Row.cells (C := C) (H := [.cells b (bytesV L) 5 (s.size + m, s.size + m + 1)]) (b := b) (o := 0) s.size
      rwa [List.drop_zero, ← List.map_take] at this
    refine cond_dec (fun h => ?_) (fun h => ?_)
    · conv => whnf
      refine ArI.to64 ((s.size - f : Nat) : Int) (by omega) (by omega) ?_
      conv => whnf
      refine cond_dec (fun h5 => ?_) (fun h5 => ?_)
      · conv => whnf
        refine ArI.to64 ((f + i : Nat) : Int) (by omega) (by omega) ?_
        conv => whnf
        refine ⟨by omega, ?_⟩
        conv => whnf
        obtain ⟨x, hx, hxv⟩ : ∃ x : Nat, x < 256 ∧ [Value.int .u8 (w0 : Int), .int .u8 (w1 : Int), .int .u8 (w2 : Int), .int .u8 (w3 : Int)][0 + i]? = some (.int .u8 (x : Int)) := by
          match i, h with
          | 0, _ => exact ⟨w0, h0, rfl⟩
          | 1, _ => exact ⟨w1, h1, rfl⟩
          | 2, _ => exact ⟨w2, h2, rfl⟩
          | 3, _ => exact ⟨w3, h3, rfl⟩
          | n + 4, h => omega
        refine LoadV.s rfl hxv ?_
        conv => whnf
        refine ⟨by omega, ?_⟩
        conv => whnf
        refine StoreV.mark (l := bytesV L) rfl rfl rfl (by simpa using hLl) (by show 0 + (f + i) < _; simp; omega) rfl ?_
        rw [show elemOff 0 ((f + i : Nat) : Int) (Tryd.prog.types[5]'(by decide)).size = f + i by show 0 + (f + i) = _; omega, putAt_byte L (f + i) x (by omega)]
        conv => whnf
        refine ArI.to64 ((i + 1 : Nat) : Int) (by omega) (by omega) ?_
        conv => whnf
        exact ⟨(i + 1, L.set (f + i) x), _, by dsimp only; omega, Sub.refl _, ⟨by dsimp only; omega, by dsimp only; omega, hW.set hx⟩, ⟨rfl, rfl, rfl, rfl, rfl, trivial⟩, rfl⟩
      · conv => whnf
        refine DrawI.mixed [2, 4] [_] (by kernel_rfl) (by kernel_rfl) (by kernel_rfl) (by kernel_rfl) (by kernel_rfl) (Sub.sel [0] rfl) ?_
        conv => whnf
        refine QuietV.bytes_string (l := L.take s.size) Tryd.underlying27 Tryd.underlying5 Tryd.underlying9 hql hrow ?_
        rw [← hq]
        conv => whnf
        refine CallS.mk Tryd.call10 ⟨[], _, _, Sub.refl _, fun F' hF' => sum_ok F' q hqs, ?_⟩
        rw [hqt]
        rintro e A' ⟨rfl, rfl⟩
        conv => whnf
        refine ⟨Sub.sel [0] rfl, ?_⟩
        conv => whnf
        refine CallS.mk Tryd.call10 ⟨[], _, _, Sub.refl _, fun F' hF' => sum_ok F' s (by omega), ?_⟩
        rintro e A' ⟨rfl, rfl⟩
        conv => whnf
        refine ⟨Sub.sel [0] rfl, ?_⟩
        conv => whnf
        refine QuietV.bytes_string (l := L.take s.size) Tryd.underlying27 Tryd.underlying5 Tryd.underlying9 hql hrow ?_
        rw [← hq]
        conv => whnf
        repeat (first | (refine LoadV.s rfl rfl (forceV_of ?_); conv => whnf) | (refine LoadV.s rfl rfl ?_; conv => whnf) | (refine StoreV.c rfl rfl (Nat.le_of_ble_eq_true rfl) rfl ?_; conv => whnf) | (refine LoadV.a _ rfl (Nat.le_of_ble_eq_true rfl) ?_; conv => whnf) | (refine DrawI.quiet (by kernel_rfl) (by kernel_rfl) ?_; conv => whnf) | (refine ArI.in64 (by omega) ?_; conv => whnf) | (refine ArI.inU8 (by omega) ?_; conv => whnf) | (refine ArI.inU64 (by omega) ?_; conv => whnf) | (refine ArI.inU32 (by omega) ?_; conv => whnf) | (refine RetI.one Tryd.results5 rfl ?_; conv => whnf) | (refine RetI.two Tryd.results5 rfl rfl ?_; conv => whnf) | (refine RetI.three Tryd.results5 rfl rfl rfl ?_; conv => whnf) | (refine RetI.none Tryd.results5 ?_; conv => whnf) | (refine ⟨by first | decide | omega, ?_⟩; conv => whnf))
        exact ⟨_, Sub.sel [] rfl, ret_bool hfin, rfl⟩
    · conv => whnf
      refine DrawI.mixed [2, 4] [_] (by kernel_rfl) (by kernel_rfl) (by kernel_rfl) (by kernel_rfl) (by kernel_rfl) (Sub.sel [0] rfl) ?_
      conv => whnf
      refine QuietV.bytes_string (l := L.take s.size) Tryd.underlying27 Tryd.underlying5 Tryd.underlying9 hql hrow ?_
      rw [← hq]
      conv => whnf
      refine CallS.mk Tryd.call10 ⟨[], _, _, Sub.refl _, fun F' hF' => sum_ok F' q hqs, ?_⟩
      rw [hqt]
      rintro e A' ⟨rfl, rfl⟩
      conv => whnf
      refine ⟨Sub.sel [0] rfl, ?_⟩
      conv => whnf
      refine CallS.mk Tryd.call10 ⟨[], _, _, Sub.refl _, fun F' hF' => sum_ok F' s (by omega), ?_⟩
      rintro e A' ⟨rfl, rfl⟩
      conv => whnf
      refine ⟨Sub.sel [0] rfl, ?_⟩
      conv => whnf
      refine QuietV.bytes_string (l := L.take s.size) Tryd.underlying27 Tryd.underlying5 Tryd.underlying9 hql hrow ?_
      rw [← hq]
      conv => whnf
      repeat (first | (refine LoadV.s rfl rfl (forceV_of ?_); conv => whnf) | (refine LoadV.s rfl rfl ?_; conv => whnf) | (refine StoreV.c rfl rfl (Nat.le_of_ble_eq_true rfl) rfl ?_; conv => whnf) | (refine LoadV.a _ rfl (Nat.le_of_ble_eq_true rfl) ?_; conv => whnf) | (refine DrawI.quiet (by kernel_rfl) (by kernel_rfl) ?_; conv => whnf) | (refine ArI.in64 (by omega) ?_; conv => whnf) | (refine ArI.inU8 (by omega) ?_; conv => whnf) | (refine ArI.inU64 (by omega) ?_; conv => whnf) | (refine ArI.inU32 (by omega) ?_; conv => whnf) | (refine RetI.one Tryd.results5 rfl ?_; conv => whnf) | (refine RetI.two Tryd.results5 rfl rfl ?_; conv => whnf) | (refine RetI.three Tryd.results5 rfl rfl rfl ?_; conv => whnf) | (refine RetI.none Tryd.results5 ?_; conv => whnf) | (refine ⟨by first | decide | omega, ?_⟩; conv => whnf))
      exact ⟨_, Sub.sel [] rfl, ret_bool hfin, rfl⟩
end Go.Proofs.YtigbpmiemlejaaaDoor
