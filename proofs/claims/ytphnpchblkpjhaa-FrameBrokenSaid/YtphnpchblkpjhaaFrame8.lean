/- The reference's pieces and blocks. -/
import Derived.Test.YtphnpchblkpjhaaFrame4
namespace Go.Proofs.Ytphnpchblkpjhaa
set_option linter.unusedVariables false
set_option linter.unusedSimpArgs false
set_option maxRecDepth 100000
open SL Go.RowKit Go.Maps

abbrev Pc := Int × Int × Int × ByteArray
abbrev pcF (p : Pc) : List Value := [.int .i64 p.1, .int .i64 p.2.1, .int .i64 p.2.2.1, .string p.2.2.2]
theorem pcF_length (p : Pc) : (pcF p).length = 4 := rfl
/-- What is left of a payload. -/
def rest (s : ByteArray) (i : Nat) : ByteArray := strB ((txt s).drop (23 * i))
theorem txt_rest (s : ByteArray) (i : Nat) : txt (rest s i) = (txt s).drop (23 * i) := txt_strB fun x hx => txt_lt s x (List.mem_of_mem_drop hx)
theorem rest_size (s : ByteArray) (i : Nat) : (rest s i).size = s.size - 23 * i := by rw [← txt_length, txt_rest, List.length_drop, txt_length]
theorem rest_zero (s : ByteArray) : rest s 0 = s := by unfold rest; simp [strB_txt]
theorem txt_chunk (s : ByteArray) (i : Nat) : txt (chunk s i) = ((txt s).drop (23 * i)).take 23 := by
  unfold chunk
  rw [txt_extract]
  have hl := txt_length s
  by_cases h : 23 * i + 23 ≤ s.size
  · rw [show min (23 * i + 23) s.size - 23 * i = 23 by omega]
  · rw [List.take_of_length_le (by rw [List.length_drop]; omega), List.take_of_length_le (by rw [List.length_drop]; omega)]
theorem rest_head (s : ByteArray) (i k : Nat) (hk : k = min 23 (rest s i).size) : (rest s i).extract 0 k = chunk s i := by
  apply txt_inj
  rw [txt_extract, txt_chunk, txt_rest, List.drop_zero, Nat.sub_zero]
  rw [rest_size] at hk
  have hl := txt_length s
  by_cases h : 23 ≤ s.size - 23 * i
  · rw [show k = 23 by omega]
  · rw [List.take_of_length_le (by rw [List.length_drop]; omega), List.take_of_length_le (by rw [List.length_drop]; omega)]
theorem rest_tail (s : ByteArray) (i k : Nat) (hk : k = min 23 (rest s i).size) : (rest s i).extract k (rest s i).size = rest s (i + 1) := by
  apply txt_inj
  rw [txt_extract, txt_rest, txt_rest]
  rw [rest_size] at hk ⊢
  have hl := txt_length s
  rw [List.take_of_length_le (by rw [List.length_drop, List.length_drop]; omega), List.drop_drop]
  by_cases h : 23 ≤ s.size - 23 * i
  · rw [show 23 * i + k = 23 * (i + 1) by omega]
  · rw [List.drop_eq_nil_of_le (by omega), List.drop_eq_nil_of_le (by omega)]
def pcs (seq : Int) (s : ByteArray) (i : Nat) : Pc := (seq, (i : Int), partsI s.size, chunk s i)
def piecesF (seq : Int) (s : ByteArray) : List Pc × Int := if seq < 1 ∨ seq > 65535 then ([], 7) else if s.size > 5865 then ([], 9) else ((List.range (partsI s.size).toNat).map (pcs seq s), 0)
theorem rpieces_ok (F : Mem) (seq : Int) (s : ByteArray) (hs : s.size ≤ 9223372036854775807) :
    FT Try.prog 22 [.int .i64 seq, .string s].toArray F [] (fun e H => ∃ g, (g = none ↔ (piecesF seq s).1 = []) ∧ e = .returned (.tuple #[svOf g (piecesF seq s).1.length, .int .i64 (piecesF seq s).2]) ∧ H = [.own (svOf g (piecesF seq s).1.length) (piecesF seq s).1.length 31 4 ((piecesF seq s).1.flatMap pcF)]) := by
  refine FT.of_body Try.func22 rfl Try.ntmps22 (by simp) fun C hC => ?_
  subst hC
  conv => whnf
  refine cond_dec (fun h1 => ?_) (fun h1 => ?_)
  · have e0 : piecesF seq s = ([], 7) := if_pos (.inl h1)
    conv => whnf
    repeat (first | (refine LoadV.s rfl rfl (forceV_of ?_); conv => whnf) | (refine LoadV.s rfl rfl ?_; conv => whnf) | (refine StoreV.c rfl rfl (Nat.le_of_ble_eq_true rfl) rfl ?_; conv => whnf) | (refine LoadV.a _ rfl (Nat.le_of_ble_eq_true rfl) ?_; conv => whnf) | (refine DrawI.quiet (by kernel_rfl) (by kernel_rfl) ?_; conv => whnf) | (refine ArI.in64 (by omega) ?_; conv => whnf) | (refine ArI.inU8 (by omega) ?_; conv => whnf) | (refine ArI.inU64 (by omega) ?_; conv => whnf) | (refine ArI.inU32 (by omega) ?_; conv => whnf) | (refine RetI.one Try.results22 rfl ?_; conv => whnf) | (refine RetI.two Try.results22 rfl rfl ?_; conv => whnf) | (refine RetI.three Try.results22 rfl rfl rfl ?_; conv => whnf) | (refine RetI.none Try.results22 ?_; conv => whnf) | (refine ⟨by first | decide | omega, ?_⟩; conv => whnf))
    exact ⟨_, Sub.nil 31 4, none, by rw [e0]; simp, by rw [e0]; rfl, by rw [e0]; rfl⟩
  conv => whnf
  refine cond_dec (fun h2 => ?_) (fun h2 => ?_)
  · have e0 : piecesF seq s = ([], 7) := if_pos (.inr h2)
    conv => whnf
    repeat (first | (refine LoadV.s rfl rfl (forceV_of ?_); conv => whnf) | (refine LoadV.s rfl rfl ?_; conv => whnf) | (refine StoreV.c rfl rfl (Nat.le_of_ble_eq_true rfl) rfl ?_; conv => whnf) | (refine LoadV.a _ rfl (Nat.le_of_ble_eq_true rfl) ?_; conv => whnf) | (refine DrawI.quiet (by kernel_rfl) (by kernel_rfl) ?_; conv => whnf) | (refine ArI.in64 (by omega) ?_; conv => whnf) | (refine ArI.inU8 (by omega) ?_; conv => whnf) | (refine ArI.inU64 (by omega) ?_; conv => whnf) | (refine ArI.inU32 (by omega) ?_; conv => whnf) | (refine RetI.one Try.results22 rfl ?_; conv => whnf) | (refine RetI.two Try.results22 rfl rfl ?_; conv => whnf) | (refine RetI.three Try.results22 rfl rfl rfl ?_; conv => whnf) | (refine RetI.none Try.results22 ?_; conv => whnf) | (refine ⟨by first | decide | omega, ?_⟩; conv => whnf))
    exact ⟨_, Sub.nil 31 4, none, by rw [e0]; simp, by rw [e0]; rfl, by rw [e0]; rfl⟩
  conv => whnf
  refine cond_dec (fun h3 => ?_) (fun h3 => ?_)
  · have e0 : piecesF seq s = ([], 9) := by rw [piecesF, if_neg (by omega), if_pos (by omega)]
    conv => whnf
    repeat (first | (refine LoadV.s rfl rfl (forceV_of ?_); conv => whnf) | (refine LoadV.s rfl rfl ?_; conv => whnf) | (refine StoreV.c rfl rfl (Nat.le_of_ble_eq_true rfl) rfl ?_; conv => whnf) | (refine LoadV.a _ rfl (Nat.le_of_ble_eq_true rfl) ?_; conv => whnf) | (refine DrawI.quiet (by kernel_rfl) (by kernel_rfl) ?_; conv => whnf) | (refine ArI.in64 (by omega) ?_; conv => whnf) | (refine ArI.inU8 (by omega) ?_; conv => whnf) | (refine ArI.inU64 (by omega) ?_; conv => whnf) | (refine ArI.inU32 (by omega) ?_; conv => whnf) | (refine RetI.one Try.results22 rfl ?_; conv => whnf) | (refine RetI.two Try.results22 rfl rfl ?_; conv => whnf) | (refine RetI.three Try.results22 rfl rfl rfl ?_; conv => whnf) | (refine RetI.none Try.results22 ?_; conv => whnf) | (refine ⟨by first | decide | omega, ?_⟩; conv => whnf))
    exact ⟨_, Sub.nil 31 4, none, by rw [e0]; simp, by rw [e0]; rfl, by rw [e0]; rfl⟩
  have e0 : piecesF seq s = ((List.range (partsI s.size).toNat).map (pcs seq s), 0) := by rw [piecesF, if_neg (by omega), if_neg (by omega)]
  rw [e0]
  obtain ⟨n, hn, hn1, hn2⟩ : ∃ n : Nat, partsI (s.size : Int) = (n : Int) ∧ 1 ≤ n ∧ n ≤ 255 := by
    refine ⟨(partsI s.size).toNat, ?_, ?_, ?_⟩ <;> unfold partsI <;> rw [if_neg (by omega)] <;> omega
  conv => whnf
  refine CallS.mk Try.call16 ⟨[], _, _, Sub.refl _, fun F' hF' => rparts_ok F' (s.size : Int), ?_⟩
  rw [hn, Int.toNat_natCast]
  rintro e A' ⟨rfl, rfl⟩
  conv => whnf
  refine LoopI.by_state (σ := Nat × Option (Nat × Nat)) (fun x => [(0, .int .i64 seq), (1, .string (rest s x.1)), (6, .int .i64 (n : Int)), (7, svOf x.2 x.1), (8, .int .i64 (x.1 : Int))])
    (fun x => [.own (svOf x.2 x.1) x.1 31 4 (((List.range x.1).map (pcs seq s)).flatMap pcF)]) (fun x => x.1 ≤ n ∧ (x.2 = none ↔ x.1 = 0)) (fun x => n - x.1) (0, none) ⟨by dsimp only; omega, by simp⟩ ⟨rfl, by rw [rest_zero]; rfl, rfl, rfl, rfl, trivial⟩ (Sub.nil 31 4) ?_
  rintro ⟨i, g⟩ f0 ⟨hi, hg⟩
  dsimp only at hi hg ⊢
  conv => whnf
  refine cond_dec (fun h => ?_) (fun h => ?_)
  · have hrs := rest_size s i
    obtain ⟨k, hk⟩ : ∃ k, k = min 23 (rest s i).size := ⟨_, rfl⟩
    conv => whnf
    refine DoV.str_h Try.underlying9 (by omega) (by omega) ?_
    rw [show Int.toNat (min 23 ((rest s i).size : Int)) = k by omega, rest_head s i k hk]
    conv => whnf
    intro b3
    conv => whnf
    refine BuiltV.append (sv := svOf g i) (m := 1) Try.underlying29 rfl rfl rfl rfl (by decide) (Row.cells 4) rfl (by decide) rfl (by show (i + 1) * 40 ≤ _; omega) (by omega) fun g2 c2 => ?_
    conv => whnf
    refine DoV.str_l Try.underlying9 (by omega) (by omega) ?_
    rw [show Int.toNat (min 23 ((rest s i).size : Int)) = k by omega, rest_tail s i k hk]
    conv => whnf
    refine ArI.to64 ((i + 1 : Nat) : Int) (by omega) (by omega) ?_
    conv => whnf
    refine ⟨(i + 1, some (g2, c2)), _, by dsimp only; omega, Sub.sel [1] rfl, ⟨by dsimp only; omega, by simp⟩, ⟨rfl, rfl, rfl, rfl, rfl, trivial⟩, ?_⟩
    have e : ((List.range (i + 1)).map (pcs seq s)).flatMap pcF = ((List.range i).map (pcs seq s)).flatMap pcF ++ [.int .i64 seq, .int .i64 (i : Int), .int .i64 (n : Int), .string (chunk s i)] := by
      rw [List.range_succ, List.map_append, List.flatMap_append]; simp [pcs, hn]
    dsimp only
    rw [e]
    rfl
  · obtain rfl : i = n := by omega
    conv => whnf
    repeat (first | (refine LoadV.s rfl rfl (forceV_of ?_); conv => whnf) | (refine LoadV.s rfl rfl ?_; conv => whnf) | (refine StoreV.c rfl rfl (Nat.le_of_ble_eq_true rfl) rfl ?_; conv => whnf) | (refine LoadV.a _ rfl (Nat.le_of_ble_eq_true rfl) ?_; conv => whnf) | (refine DrawI.quiet (by kernel_rfl) (by kernel_rfl) ?_; conv => whnf) | (refine ArI.in64 (by omega) ?_; conv => whnf) | (refine ArI.inU8 (by omega) ?_; conv => whnf) | (refine ArI.inU64 (by omega) ?_; conv => whnf) | (refine ArI.inU32 (by omega) ?_; conv => whnf) | (refine RetI.one Try.results22 rfl ?_; conv => whnf) | (refine RetI.two Try.results22 rfl rfl ?_; conv => whnf) | (refine RetI.three Try.results22 rfl rfl rfl ?_; conv => whnf) | (refine RetI.none Try.results22 ?_; conv => whnf) | (refine ⟨by first | decide | omega, ?_⟩; conv => whnf))
    exact ⟨_, Sub.refl _, g, by rw [hg]; simp, by simp, by simp⟩
end Go.Proofs.Ytphnpchblkpjhaa
