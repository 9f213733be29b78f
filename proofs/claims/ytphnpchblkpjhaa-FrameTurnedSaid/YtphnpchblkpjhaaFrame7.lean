/- The law of spoilt blocks, as a contract. -/
import Derived.Test.YtphnpchblkpjhaaFrame6
namespace Go.Proofs.Ytphnpchblkpjhaa
set_option linter.unusedVariables false
set_option linter.unusedSimpArgs false
set_option maxRecDepth 100000
open SL Go.RowKit Go.Maps

theorem Win.cut {A R L : List Nat} {f i n : Nat} (h : Win (A ++ R) L f i) (hn : A.length = n) : Win A (L.take n) f i := by
  refine ⟨?_, fun x hx => h.lt x (List.mem_of_mem_take hx), fun j hj => ?_⟩
  · rw [List.length_take, h.len, List.length_append]; omega
  · rw [List.getElem?_take]
    by_cases hjn : j < n
    · rw [if_pos hjn, h.out j hj, List.getElem?_append_left (by omega)]
    · rw [if_neg hjn, List.getElem?_eq_none (by omega)]
theorem row_take {C : Ctx} {H : Heap} {b T : Nat} {L : List Nat} {fr : Nat × Nat} [hf : Find H b (bytesV L) T fr] (n : Nat) : Row C H ⟨b, 0, none⟩ (bytesV (L.take n)) := by
  have := Row.cells (C := C) (H := H) (b := b) (o := 0) (l := bytesV L) n
  rwa [List.drop_zero, ← List.map_take] at this
theorem shareQ {G : Prop} (Q P : Nat → Prop) (use : (∀ k, Q k → P k) → G) (prove : ∀ k, Q k → P k) : G := use prove
set_option maxHeartbeats 4000000 in
theorem turned_ok (F : Mem) (sq pt ps : Int) (d : ByteArray) (at_ : Int) (w0 w1 w2 w3 : Nat) (h0 : w0 < 256) (h1 : w1 < 256) (h2 : w2 < 256) (h3 : w3 < 256) :
    FT Try.prog 6 [pieceV sq pt ps d, .int .i64 at_, .agg #[.int .u8 (w0 : Int), .int .u8 (w1 : Int), .int .u8 (w2 : Int), .int .u8 (w3 : Int)]].toArray F [] (Ret (.bool true)) := by
  refine FT.of_body Try.func6 rfl Try.ntmps6 (by simp) fun C hC => ?_
  subst hC
  conv => whnf
  intro b
  conv => whnf
  intro bw
  conv => whnf
  refine CallS.mk Try.call9 ⟨[], _, _, Sub.refl _, fun F' hF' => lives06_ok F', ?_⟩
  rintro e A' ⟨rfl, rfl⟩
  conv => whnf
  refine LoadV.a _ rfl (Nat.le_of_ble_eq_true rfl) ?_
  conv => whnf
  refine CallS.mk Try.call17 ⟨[], _, _, Sub.refl _, fun F' hF' => block_ok F' sq pt ps d, ?_⟩
  rintro e A' ⟨rfl, rfl⟩
  cases hb : rightB sq pt ps d.size with
  | false =>
    rw [show blockR sq pt ps d = (⟨#[]⟩, 7) by rw [blockR, if_neg (by rw [hb]; simp)]]
    conv => whnf
    repeat (first | (refine LoadV.s rfl rfl (forceV_of ?_); conv => whnf) | (refine LoadV.s rfl rfl ?_; conv => whnf) | (refine StoreV.c rfl rfl (Nat.le_of_ble_eq_true rfl) rfl ?_; conv => whnf) | (refine LoadV.a _ rfl (Nat.le_of_ble_eq_true rfl) ?_; conv => whnf) | (refine DrawI.quiet (by kernel_rfl) (by kernel_rfl) ?_; conv => whnf) | (refine ArI.in64 (by omega) ?_; conv => whnf) | (refine ArI.inU8 (by omega) ?_; conv => whnf) | (refine ArI.inU64 (by omega) ?_; conv => whnf) | (refine ArI.inU32 (by omega) ?_; conv => whnf) | (refine RetI.one Try.results6 rfl ?_; conv => whnf) | (refine RetI.two Try.results6 rfl rfl ?_; conv => whnf) | (refine RetI.three Try.results6 rfl rfl rfl ?_; conv => whnf) | (refine RetI.none Try.results6 ?_; conv => whnf) | (refine ⟨by first | decide | omega, ?_⟩; conv => whnf))
    exact ⟨_, Sub.sel [] rfl, rfl, rfl⟩
  | true =>
    have hR : RightP sq pt ps d.size := of_decide_eq_true hb
    unfold RightP at hR
    obtain ⟨x, rfl⟩ := Int.eq_ofNat_of_zero_le (show 0 ≤ sq by omega)
    obtain ⟨y, rfl⟩ := Int.eq_ofNat_of_zero_le (show 0 ≤ pt by omega)
    obtain ⟨z, rfl⟩ := Int.eq_ofNat_of_zero_le (show 0 ≤ ps by omega)
    have hbr : blockR x y z d = (strB (blockL x y z d), 0) := by rw [blockR, if_pos hb]; simp only [Int.toNat_natCast]
    have hub := unb_block (x := x) (y := y) (z := z) (d := d) (by omega) (by omega) (by omega) (by omega) hb
    have hst : txt (strB (blockL x y z d)) = blockL x y z d := txt_strB (blockL_lt (by omega) (by omega) (by omega) (by omega))
    have hss : (strB (blockL x y z d)).size = 32 := by rw [strB_size, blockL_length (by omega)]
    rw [hbr]
    obtain ⟨s, hs⟩ : ∃ s, s = strB (blockL x y z d) := ⟨_, rfl⟩
    rw [← hs] at hub hst hss ⊢
    conv => whnf
    refine cond_of_false (by rw [hss]; rfl) ?_
    conv => whnf
    refine DoV.string_bytes Try.underlying9 Try.underlying42 Try.underlying5 fun b2 m => ?_
    have hT : ∀ v ∈ txt s ++ List.replicate m 0, v < 256 := by
      intro v hv
      rcases List.mem_append.1 hv with hv | hv
      · exact txt_lt s v hv
      · rw [(List.mem_replicate.1 hv).2]; decide
    have hl := txt_length s
    conv => whnf
    refine ArI.keep ?_
    conv => whnf
    refine ⟨⟨rfl, by decide⟩, ?_⟩
    obtain ⟨k, hkv, hk1⟩ := u64_mod at_ 26 (by omega)
    conv => whnf
    rw [hkv]
    refine ArI.in64 (by omega) ?_
    conv => whnf
    apply shareQ (fun f => f + 4 ≤ 28 ∨ f = 28)
    case use =>
      intro key
      refine cond_split (fun h => ?_) (fun h => ?_)
      · conv => whnf
        obtain ⟨f, hf⟩ : ∃ f : Nat, f = 28 := ⟨28, rfl⟩
        refine LoopI.by_state (σ := Nat × List Nat) (fun v => [(3, .pointer (some ⟨b, 0, none⟩)), (5, .pointer (some ⟨bw, 0, none⟩)), (7, .string s), (9, .slice (some ⟨b2, 0, none⟩) s.size (s.size + m)), (10, .int .i64 (f : Nat)), (11, .int .i64 (v.1 : Int))])
          (fun v => [.cells b2 (bytesV v.2) 5 (s.size + m, s.size + m + 1), .cells b [.int .i64 (x : Int), .int .i64 (y : Int), .int .i64 (z : Int), .string d] 31 (0, 0), .cells bw [.int .u8 (w0 : Int), .int .u8 (w1 : Int), .int .u8 (w2 : Int), .int .u8 (w3 : Int)] 41 (0, 0)])
          (fun v => v.1 ≤ 4 ∧ Win (txt s ++ List.replicate m 0) v.2 f v.1) (fun v => 4 - v.1) (0, txt s ++ List.replicate m 0) ⟨by dsimp only; omega, ⟨rfl, hT, fun _ _ => rfl⟩⟩ ⟨rfl, rfl, rfl, rfl, (by subst hf; rfl), rfl, trivial⟩ (Sub.sel [0, 2, 1] rfl) ?_
        exact key f (.inr hf)
      · have hk25 : ¬ k = 25 := by have := beq_eq_false_iff_ne.1 h; omega
        conv => whnf
        refine LoopI.by_state (σ := Nat × List Nat) (fun v => [(3, .pointer (some ⟨b, 0, none⟩)), (5, .pointer (some ⟨bw, 0, none⟩)), (7, .string s), (9, .slice (some ⟨b2, 0, none⟩) s.size (s.size + m)), (10, .int .i64 (k : Nat)), (11, .int .i64 (v.1 : Int))])
          (fun v => [.cells b2 (bytesV v.2) 5 (s.size + m, s.size + m + 1), .cells b [.int .i64 (x : Int), .int .i64 (y : Int), .int .i64 (z : Int), .string d] 31 (0, 0), .cells bw [.int .u8 (w0 : Int), .int .u8 (w1 : Int), .int .u8 (w2 : Int), .int .u8 (w3 : Int)] 41 (0, 0)])
          (fun v => v.1 ≤ 4 ∧ Win (txt s ++ List.replicate m 0) v.2 k v.1) (fun v => 4 - v.1) (0, txt s ++ List.replicate m 0) ⟨by dsimp only; omega, ⟨rfl, hT, fun _ _ => rfl⟩⟩ ⟨rfl, rfl, rfl, rfl, rfl, rfl, trivial⟩ (Sub.sel [0, 2, 1] rfl) ?_
        exact key k (.inl (by omega))
    case prove =>
      rintro f hf ⟨i, L⟩ f0 ⟨hi, hW⟩
      dsimp only at hi hW ⊢
      have hLl : L.length = s.size + m := by rw [hW.len]; simp [hl]
      conv => whnf
      refine cond_dec (fun h => ?_) (fun h => ?_)
      · conv => whnf
        refine ArI.to64 ((f + i : Nat) : Int) (by omega) (by omega) ?_
        conv => whnf
        refine ⟨by omega, ?_⟩
        conv => whnf
        obtain ⟨v, hv, hxv⟩ : ∃ v : Nat, v < 256 ∧ [Value.int .u8 (w0 : Int), .int .u8 (w1 : Int), .int .u8 (w2 : Int), .int .u8 (w3 : Int)][0 + i]? = some (.int .u8 (v : Int)) := by
          match i, h with
          | 0, _ => exact ⟨w0, h0, rfl⟩
          | 1, _ => exact ⟨w1, h1, rfl⟩
          | 2, _ => exact ⟨w2, h2, rfl⟩
          | 3, _ => exact ⟨w3, h3, rfl⟩
          | n + 4, h => omega
        refine LoadV.s rfl hxv ?_
        conv => whnf
        refine ⟨by omega, ?_⟩
        conv => whnf
        refine StoreV.mark (l := bytesV L) rfl rfl rfl (by simpa using hLl) (by show 0 + (f + i) < _; simp; omega) rfl ?_
        rw [show elemOff 0 ((f + i : Nat) : Int) (Try.prog.types[5]'(by decide)).size = f + i by show 0 + (f + i) = _; omega, putAt_byte L (f + i) v (by omega)]
        conv => whnf
        refine ArI.to64 ((i + 1 : Nat) : Int) (by omega) (by omega) ?_
        conv => whnf
        exact ⟨(i + 1, L.set (f + i) v), _, by dsimp only; omega, Sub.refl _, ⟨by dsimp only; omega, hW.set hv⟩, ⟨rfl, rfl, rfl, rfl, rfl, rfl, trivial⟩, rfl⟩
      · obtain rfl : i = 4 := by omega
        have hql : (L.take s.size).length = s.size := by simp; omega
        obtain ⟨q, hq⟩ : ∃ q, q = strB (L.take s.size) := ⟨_, rfl⟩
        have hqt : txt q = L.take s.size := by rw [hq]; exact txt_strB fun x hx => hW.lt x (List.mem_of_mem_take hx)
        have hqs : q.size ≤ 9223372036854775807 := by rw [hq, strB_size]; omega
        have hWc := hW.cut hl
        have hno : ¬ q = s → unbR q = ((0, 0, 0, ⟨#[]⟩), 7) := by
          intro hne
          refine unb_no fun hTk => hne ?_
          obtain ⟨x', y', z', d', k0, k1, k2, k3, k4⟩ := taken_block hTk
          have hqq : txt q = blockL x' y' z' d' := by rw [k4]; exact txt_strB (blockL_lt k0 k1 k2 k3)
          rw [← hqt, hqq, hst] at hWc
          rw [k4, turned (by omega) (by omega) (by omega) (by omega) k0 k1 k2 k3 hf hWc, hs]
        have hc := fun (F' : Mem) => unblock_ok F' q hqs
        conv => whnf
        refine DoV.bytes_string (l := L.take s.size) Try.underlying42 Try.underlying5 Try.underlying9 hql (row_take _) ?_
        rw [← hq]
        conv => whnf
        by_cases hqe : q = s
        · rw [show unbR q = ((x, y, z, d), 0) by rw [hqe]; exact hub] at hc
          refine CallS.mk Try.call19 ⟨[], _, _, Sub.refl _, fun F' hF' => hc F', ?_⟩
          rintro e A' ⟨rfl, rfl⟩
          conv => whnf
          intro b3
          conv => whnf
          refine StoreV.c rfl rfl (Nat.le_of_ble_eq_true rfl) rfl ?_
          conv => whnf
          refine DoV.bytes_string (l := L.take s.size) Try.underlying42 Try.underlying5 Try.underlying9 hql (row_take _) ?_
          rw [← hq]
          conv => whnf
          rw [toList_beq, decide_eq_true hqe]
          conv => whnf
          refine LoadV.a _ rfl (Nat.le_of_ble_eq_true rfl) ?_
          conv => whnf
          refine LoadV.a _ rfl (Nat.le_of_ble_eq_true rfl) ?_
          conv => whnf
          refine EqV.eql (d := 3) (ks := [.i .i64, .i .i64, .i .i64, .s]) (by kernel_rfl) rfl (by kernel_rfl) rfl rfl rfl ?_
          rw [piece_eq, decide_eq_true ⟨rfl, rfl, rfl, rfl⟩]
          conv => whnf
          repeat (first | (refine LoadV.s rfl rfl (forceV_of ?_); conv => whnf) | (refine LoadV.s rfl rfl ?_; conv => whnf) | (refine StoreV.c rfl rfl (Nat.le_of_ble_eq_true rfl) rfl ?_; conv => whnf) | (refine LoadV.a _ rfl (Nat.le_of_ble_eq_true rfl) ?_; conv => whnf) | (refine DrawI.quiet (by kernel_rfl) (by kernel_rfl) ?_; conv => whnf) | (refine ArI.in64 (by omega) ?_; conv => whnf) | (refine ArI.inU8 (by omega) ?_; conv => whnf) | (refine ArI.inU64 (by omega) ?_; conv => whnf) | (refine ArI.inU32 (by omega) ?_; conv => whnf) | (refine RetI.one Try.results6 rfl ?_; conv => whnf) | (refine RetI.two Try.results6 rfl rfl ?_; conv => whnf) | (refine RetI.three Try.results6 rfl rfl rfl ?_; conv => whnf) | (refine RetI.none Try.results6 ?_; conv => whnf) | (refine ⟨by first | decide | omega, ?_⟩; conv => whnf))
          exact ⟨_, Sub.sel [] rfl, rfl, rfl⟩
        · rw [hno hqe] at hc
          refine CallS.mk Try.call19 ⟨[], _, _, Sub.refl _, fun F' hF' => hc F', ?_⟩
          rintro e A' ⟨rfl, rfl⟩
          conv => whnf
          intro b3
          conv => whnf
          refine StoreV.c rfl rfl (Nat.le_of_ble_eq_true rfl) rfl ?_
          conv => whnf
          refine DoV.bytes_string (l := L.take s.size) Try.underlying42 Try.underlying5 Try.underlying9 hql (row_take _) ?_
          rw [← hq]
          conv => whnf
          rw [toList_beq, decide_eq_false hqe]
          conv => whnf
          repeat (first | (refine LoadV.s rfl rfl (forceV_of ?_); conv => whnf) | (refine LoadV.s rfl rfl ?_; conv => whnf) | (refine StoreV.c rfl rfl (Nat.le_of_ble_eq_true rfl) rfl ?_; conv => whnf) | (refine LoadV.a _ rfl (Nat.le_of_ble_eq_true rfl) ?_; conv => whnf) | (refine DrawI.quiet (by kernel_rfl) (by kernel_rfl) ?_; conv => whnf) | (refine ArI.in64 (by omega) ?_; conv => whnf) | (refine ArI.inU8 (by omega) ?_; conv => whnf) | (refine ArI.inU64 (by omega) ?_; conv => whnf) | (refine ArI.inU32 (by omega) ?_; conv => whnf) | (refine RetI.one Try.results6 rfl ?_; conv => whnf) | (refine RetI.two Try.results6 rfl rfl ?_; conv => whnf) | (refine RetI.three Try.results6 rfl rfl rfl ?_; conv => whnf) | (refine RetI.none Try.results6 ?_; conv => whnf) | (refine ⟨by first | decide | omega, ?_⟩; conv => whnf))
          exact ⟨_, Sub.sel [] rfl, rfl, rfl⟩
end Go.Proofs.Ytphnpchblkpjhaa
