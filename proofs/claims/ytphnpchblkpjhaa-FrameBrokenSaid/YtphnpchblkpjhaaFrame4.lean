/- How many pieces; a frame's blocks, by the program. -/
import Derived.Test.YtphnpchblkpjhaaFrame3
namespace Go.Proofs.Ytphnpchblkpjhaa
set_option linter.unusedVariables false
set_option linter.unusedSimpArgs false
set_option maxRecDepth 100000
open SL Go.RowKit Go.Maps

def partsI (n : Int) : Int := if n < 0 ∨ n > 5865 then 0 else max 1 ((n + 22) / 23)
theorem parts_ok (F : Mem) (n : Int) : FT Try.prog 15 [.int .i64 n].toArray F [] (Ret (.int .i64 (partsI n))) := by
  refine FT.of_body Try.func15 rfl Try.ntmps15 (by simp) fun C hC => ?_
  subst hC
  conv => whnf
  refine cond_dec (fun h1 => ?_) (fun h1 => ?_)
  · conv => whnf
    repeat (first | (refine LoadV.s rfl rfl (forceV_of ?_); conv => whnf) | (refine LoadV.s rfl rfl ?_; conv => whnf) | (refine StoreV.c rfl rfl (Nat.le_of_ble_eq_true rfl) rfl ?_; conv => whnf) | (refine LoadV.a _ rfl (Nat.le_of_ble_eq_true rfl) ?_; conv => whnf) | (refine DrawI.quiet (by kernel_rfl) (by kernel_rfl) ?_; conv => whnf) | (refine ArI.in64 (by omega) ?_; conv => whnf) | (refine ArI.inU8 (by omega) ?_; conv => whnf) | (refine ArI.inU64 (by omega) ?_; conv => whnf) | (refine ArI.inU32 (by omega) ?_; conv => whnf) | (refine RetI.one Try.results15 rfl ?_; conv => whnf) | (refine RetI.two Try.results15 rfl rfl ?_; conv => whnf) | (refine RetI.three Try.results15 rfl rfl rfl ?_; conv => whnf) | (refine RetI.none Try.results15 ?_; conv => whnf) | (refine ⟨by first | decide | omega, ?_⟩; conv => whnf))
    exact ⟨_, Sub.refl _, ret_int (by unfold partsI; rw [if_pos (.inl h1)]), rfl⟩
  conv => whnf
  refine cond_dec (fun h2 => ?_) (fun h2 => ?_)
  · conv => whnf
    repeat (first | (refine LoadV.s rfl rfl (forceV_of ?_); conv => whnf) | (refine LoadV.s rfl rfl ?_; conv => whnf) | (refine StoreV.c rfl rfl (Nat.le_of_ble_eq_true rfl) rfl ?_; conv => whnf) | (refine LoadV.a _ rfl (Nat.le_of_ble_eq_true rfl) ?_; conv => whnf) | (refine DrawI.quiet (by kernel_rfl) (by kernel_rfl) ?_; conv => whnf) | (refine ArI.in64 (by omega) ?_; conv => whnf) | (refine ArI.inU8 (by omega) ?_; conv => whnf) | (refine ArI.inU64 (by omega) ?_; conv => whnf) | (refine ArI.inU32 (by omega) ?_; conv => whnf) | (refine RetI.one Try.results15 rfl ?_; conv => whnf) | (refine RetI.two Try.results15 rfl rfl ?_; conv => whnf) | (refine RetI.three Try.results15 rfl rfl rfl ?_; conv => whnf) | (refine RetI.none Try.results15 ?_; conv => whnf) | (refine ⟨by first | decide | omega, ?_⟩; conv => whnf))
    exact ⟨_, Sub.refl _, ret_int (by unfold partsI; rw [if_pos (.inr h2)]), rfl⟩
  conv => whnf
  refine ArI.in64 (by omega) ?_
  conv => whnf
  refine ArI.to64 (n + 22) (by omega) (by omega) ?_
  conv => whnf
  refine ⟨⟨rfl, by decide⟩, ?_⟩
  refine ArI.to64 ((n + 22) / 23) (by rw [Int.tdiv_eq_ediv_of_nonneg (by omega)]) (by omega) ?_
  conv => whnf
  repeat (first | (refine LoadV.s rfl rfl (forceV_of ?_); conv => whnf) | (refine LoadV.s rfl rfl ?_; conv => whnf) | (refine StoreV.c rfl rfl (Nat.le_of_ble_eq_true rfl) rfl ?_; conv => whnf) | (refine LoadV.a _ rfl (Nat.le_of_ble_eq_true rfl) ?_; conv => whnf) | (refine DrawI.quiet (by kernel_rfl) (by kernel_rfl) ?_; conv => whnf) | (refine ArI.in64 (by omega) ?_; conv => whnf) | (refine ArI.inU8 (by omega) ?_; conv => whnf) | (refine ArI.inU64 (by omega) ?_; conv => whnf) | (refine ArI.inU32 (by omega) ?_; conv => whnf) | (refine RetI.one Try.results15 rfl ?_; conv => whnf) | (refine RetI.two Try.results15 rfl rfl ?_; conv => whnf) | (refine RetI.three Try.results15 rfl rfl rfl ?_; conv => whnf) | (refine RetI.none Try.results15 ?_; conv => whnf) | (refine ⟨by first | decide | omega, ?_⟩; conv => whnf))
  exact ⟨_, Sub.refl _, ret_int (by unfold partsI; rw [if_neg (by omega)]), rfl⟩
theorem rparts_ok (F : Mem) (n : Int) : FT Try.prog 16 [.int .i64 n].toArray F [] (Ret (.int .i64 (partsI n))) := by
  refine FT.of_body Try.func16 rfl Try.ntmps16 (by simp) fun C hC => ?_
  subst hC
  conv => whnf
  refine cond_dec (fun h1 => ?_) (fun h1 => ?_)
  · conv => whnf
    repeat (first | (refine LoadV.s rfl rfl (forceV_of ?_); conv => whnf) | (refine LoadV.s rfl rfl ?_; conv => whnf) | (refine StoreV.c rfl rfl (Nat.le_of_ble_eq_true rfl) rfl ?_; conv => whnf) | (refine LoadV.a _ rfl (Nat.le_of_ble_eq_true rfl) ?_; conv => whnf) | (refine DrawI.quiet (by kernel_rfl) (by kernel_rfl) ?_; conv => whnf) | (refine ArI.in64 (by omega) ?_; conv => whnf) | (refine ArI.inU8 (by omega) ?_; conv => whnf) | (refine ArI.inU64 (by omega) ?_; conv => whnf) | (refine ArI.inU32 (by omega) ?_; conv => whnf) | (refine RetI.one Try.results16 rfl ?_; conv => whnf) | (refine RetI.two Try.results16 rfl rfl ?_; conv => whnf) | (refine RetI.three Try.results16 rfl rfl rfl ?_; conv => whnf) | (refine RetI.none Try.results16 ?_; conv => whnf) | (refine ⟨by first | decide | omega, ?_⟩; conv => whnf))
    exact ⟨_, Sub.refl _, ret_int (by unfold partsI; rw [if_pos (.inl h1)]), rfl⟩
  conv => whnf
  refine cond_dec (fun h2 => ?_) (fun h2 => ?_)
  · conv => whnf
    repeat (first | (refine LoadV.s rfl rfl (forceV_of ?_); conv => whnf) | (refine LoadV.s rfl rfl ?_; conv => whnf) | (refine StoreV.c rfl rfl (Nat.le_of_ble_eq_true rfl) rfl ?_; conv => whnf) | (refine LoadV.a _ rfl (Nat.le_of_ble_eq_true rfl) ?_; conv => whnf) | (refine DrawI.quiet (by kernel_rfl) (by kernel_rfl) ?_; conv => whnf) | (refine ArI.in64 (by omega) ?_; conv => whnf) | (refine ArI.inU8 (by omega) ?_; conv => whnf) | (refine ArI.inU64 (by omega) ?_; conv => whnf) | (refine ArI.inU32 (by omega) ?_; conv => whnf) | (refine RetI.one Try.results16 rfl ?_; conv => whnf) | (refine RetI.two Try.results16 rfl rfl ?_; conv => whnf) | (refine RetI.three Try.results16 rfl rfl rfl ?_; conv => whnf) | (refine RetI.none Try.results16 ?_; conv => whnf) | (refine ⟨by first | decide | omega, ?_⟩; conv => whnf))
    exact ⟨_, Sub.refl _, ret_int (by unfold partsI; rw [if_pos (.inr h2)]), rfl⟩
  conv => whnf
  refine LoopI.by_state (σ := Nat) (fun j => [(0, .int .i64 (n - 23 * (j : Int))), (3, .int .i64 ((j + 1 : Nat) : Int))]) (fun _ => []) (fun j => j = 0 ∨ 0 < n - 23 * (j : Int)) (fun j => (n - 23 * (j : Int)).toNat) 0 (.inl rfl) ⟨by show Value.int .i64 n = _; congr 1; omega, rfl, trivial⟩ (Sub.refl _) ?_
  rintro j f0 hj
  conv => whnf
  refine cond_dec (fun h => ?_) (fun h => ?_)
  · conv => whnf
    refine ArI.to64 (n - 23 * ((j + 1 : Nat) : Int)) (by omega) (by omega) ?_
    conv => whnf
    refine ArI.to64 ((j + 1 + 1 : Nat) : Int) (by omega) (by omega) ?_
    conv => whnf
    exact ⟨j + 1, _, by omega, Sub.refl _, .inr (by omega), ⟨rfl, rfl, trivial⟩, rfl⟩
  · conv => whnf
    repeat (first | (refine LoadV.s rfl rfl (forceV_of ?_); conv => whnf) | (refine LoadV.s rfl rfl ?_; conv => whnf) | (refine StoreV.c rfl rfl (Nat.le_of_ble_eq_true rfl) rfl ?_; conv => whnf) | (refine LoadV.a _ rfl (Nat.le_of_ble_eq_true rfl) ?_; conv => whnf) | (refine DrawI.quiet (by kernel_rfl) (by kernel_rfl) ?_; conv => whnf) | (refine ArI.in64 (by omega) ?_; conv => whnf) | (refine ArI.inU8 (by omega) ?_; conv => whnf) | (refine ArI.inU64 (by omega) ?_; conv => whnf) | (refine ArI.inU32 (by omega) ?_; conv => whnf) | (refine RetI.one Try.results16 rfl ?_; conv => whnf) | (refine RetI.two Try.results16 rfl rfl ?_; conv => whnf) | (refine RetI.three Try.results16 rfl rfl rfl ?_; conv => whnf) | (refine RetI.none Try.results16 ?_; conv => whnf) | (refine ⟨by first | decide | omega, ?_⟩; conv => whnf))
    exact ⟨_, Sub.refl _, ret_int (by unfold partsI; rw [if_neg (by omega)]; omega), rfl⟩
/-- The piece of a payload. -/
def chunk (s : ByteArray) (i : Nat) : ByteArray := s.extract (23 * i) (min (23 * i + 23) s.size)
def blk (seq : Int) (s : ByteArray) (i : Nat) : ByteArray := (blockR seq (i : Nat) (partsI s.size) (chunk s i)).1
/-- What packing answers. -/
def packF (seq : Int) (s : ByteArray) : List ByteArray × Int := if seq < 1 ∨ seq > 65535 then ([], 7) else if s.size > 5865 then ([], 9) else ((List.range (partsI s.size).toNat).map (blk seq s), 0)
theorem fpack_ok (F : Mem) (seq : Int) (s : ByteArray) (hs : s.size ≤ 9223372036854775807) :
    FT Try.prog 10 [.int .i64 seq, .string s].toArray F [] (fun e H => ∃ g, (g = none ↔ (packF seq s).1 = []) ∧ e = .returned (.tuple #[svOf g (packF seq s).1.length, .int .i64 (packF seq s).2]) ∧ H = [.own (svOf g (packF seq s).1.length) (packF seq s).1.length 9 1 (strs (packF seq s).1)]) := by
  refine FT.of_body Try.func10 rfl Try.ntmps10 (by simp) fun C hC => ?_
  subst hC
  conv => whnf
  refine cond_dec (fun h1 => ?_) (fun h1 => ?_)
  · have e0 : packF seq s = ([], 7) := if_pos (.inl h1)
    conv => whnf
    repeat (first | (refine LoadV.s rfl rfl (forceV_of ?_); conv => whnf) | (refine LoadV.s rfl rfl ?_; conv => whnf) | (refine StoreV.c rfl rfl (Nat.le_of_ble_eq_true rfl) rfl ?_; conv => whnf) | (refine LoadV.a _ rfl (Nat.le_of_ble_eq_true rfl) ?_; conv => whnf) | (refine DrawI.quiet (by kernel_rfl) (by kernel_rfl) ?_; conv => whnf) | (refine ArI.in64 (by omega) ?_; conv => whnf) | (refine ArI.inU8 (by omega) ?_; conv => whnf) | (refine ArI.inU64 (by omega) ?_; conv => whnf) | (refine ArI.inU32 (by omega) ?_; conv => whnf) | (refine RetI.one Try.results10 rfl ?_; conv => whnf) | (refine RetI.two Try.results10 rfl rfl ?_; conv => whnf) | (refine RetI.three Try.results10 rfl rfl rfl ?_; conv => whnf) | (refine RetI.none Try.results10 ?_; conv => whnf) | (refine ⟨by first | decide | omega, ?_⟩; conv => whnf))
    exact ⟨_, Sub.nil 9 1, none, by rw [e0]; simp, by rw [e0]; rfl, by rw [e0]; rfl⟩
  conv => whnf
  refine cond_dec (fun h2 => ?_) (fun h2 => ?_)
  · have e0 : packF seq s = ([], 7) := if_pos (.inr h2)
    conv => whnf
    repeat (first | (refine LoadV.s rfl rfl (forceV_of ?_); conv => whnf) | (refine LoadV.s rfl rfl ?_; conv => whnf) | (refine StoreV.c rfl rfl (Nat.le_of_ble_eq_true rfl) rfl ?_; conv => whnf) | (refine LoadV.a _ rfl (Nat.le_of_ble_eq_true rfl) ?_; conv => whnf) | (refine DrawI.quiet (by kernel_rfl) (by kernel_rfl) ?_; conv => whnf) | (refine ArI.in64 (by omega) ?_; conv => whnf) | (refine ArI.inU8 (by omega) ?_; conv => whnf) | (refine ArI.inU64 (by omega) ?_; conv => whnf) | (refine ArI.inU32 (by omega) ?_; conv => whnf) | (refine RetI.one Try.results10 rfl ?_; conv => whnf) | (refine RetI.two Try.results10 rfl rfl ?_; conv => whnf) | (refine RetI.three Try.results10 rfl rfl rfl ?_; conv => whnf) | (refine RetI.none Try.results10 ?_; conv => whnf) | (refine ⟨by first | decide | omega, ?_⟩; conv => whnf))
    exact ⟨_, Sub.nil 9 1, none, by rw [e0]; simp, by rw [e0]; rfl, by rw [e0]; rfl⟩
  conv => whnf
  refine CallS.mk Try.call15 ⟨[], _, _, Sub.refl _, fun F' hF' => parts_ok F' (s.size : Int), ?_⟩
  rintro e A' ⟨rfl, rfl⟩
  by_cases h3 : s.size > 5865
  · have e0 : packF seq s = ([], 9) := by rw [packF, if_neg (by omega), if_pos h3]
    have ep : partsI (s.size : Int) = 0 := by unfold partsI; rw [if_pos (by omega)]
    rw [ep]
    conv => whnf
    repeat (first | (refine LoadV.s rfl rfl (forceV_of ?_); conv => whnf) | (refine LoadV.s rfl rfl ?_; conv => whnf) | (refine StoreV.c rfl rfl (Nat.le_of_ble_eq_true rfl) rfl ?_; conv => whnf) | (refine LoadV.a _ rfl (Nat.le_of_ble_eq_true rfl) ?_; conv => whnf) | (refine DrawI.quiet (by kernel_rfl) (by kernel_rfl) ?_; conv => whnf) | (refine ArI.in64 (by omega) ?_; conv => whnf) | (refine ArI.inU8 (by omega) ?_; conv => whnf) | (refine ArI.inU64 (by omega) ?_; conv => whnf) | (refine ArI.inU32 (by omega) ?_; conv => whnf) | (refine RetI.one Try.results10 rfl ?_; conv => whnf) | (refine RetI.two Try.results10 rfl rfl ?_; conv => whnf) | (refine RetI.three Try.results10 rfl rfl rfl ?_; conv => whnf) | (refine RetI.none Try.results10 ?_; conv => whnf) | (refine ⟨by first | decide | omega, ?_⟩; conv => whnf))
    exact ⟨_, Sub.nil 9 1, none, by rw [e0]; simp, by rw [e0]; rfl, by rw [e0]; rfl⟩
  have e0 : packF seq s = ((List.range (partsI s.size).toNat).map (blk seq s), 0) := by rw [packF, if_neg (by omega), if_neg h3]
  rw [e0]
  obtain ⟨n, hn, hn1, hn2⟩ : ∃ n : Nat, partsI (s.size : Int) = (n : Int) ∧ 1 ≤ n ∧ n ≤ 255 := by
    refine ⟨(partsI s.size).toNat, ?_, ?_, ?_⟩ <;> unfold partsI <;> rw [if_neg (by omega)] <;> omega
  have hn3 : 23 * n ≤ s.size + 22 ∨ n = 1 := by
    have := hn; unfold partsI at this; rw [if_neg (by omega)] at this; omega
  rw [hn, Int.toNat_natCast]
  conv => whnf
  refine cond_of_false (beq_eq_false_iff_ne.2 (by omega)) ?_
  conv => whnf
  refine DoV.makeCap Try.underlying23 rfl rfl rfl rfl (by omega) (by show (16 : Int) * _ ≤ _; omega) (by omega) fun b0 => ?_
  rw [Int.toNat_natCast]
  conv => whnf
  refine LoopI.by_state (σ := Nat × Nat × Nat) (fun x => [(0, .int .i64 seq), (1, .string s), (6, .int .i64 (n : Int)), (7, svOf (some x.2) x.1), (26, .int .i64 (n : Int)), (27, .int .i64 (x.1 : Int))])
    (fun x => [.own (svOf (some x.2) x.1) x.1 9 1 (strs ((List.range x.1).map (blk seq s)))]) (fun x => x.1 ≤ n) (fun x => n - x.1) (0, b0, n) (by dsimp only; omega) ⟨rfl, rfl, rfl, rfl, rfl, rfl, trivial⟩ (Sub.refl _) ?_
  rintro ⟨i, gb, gc⟩ f0 hi
  dsimp only at hi ⊢
  conv => whnf
  refine cond_dec (fun h => ?_) (fun h => ?_)
  · conv => whnf
    refine ArI.to64 ((23 * i : Nat) : Int) (by omega) (by omega) ?_
    conv => whnf
    refine ArI.to64 ((23 * i + 23 : Nat) : Int) (by omega) (by omega) ?_
    conv => whnf
    refine DoV.str_lh Try.underlying9 (by omega) (by omega) (by omega) ?_
    rw [show s.extract (Int.toNat ((23 * i : Nat) : Int)) (Int.toNat (min ((23 * i + 23 : Nat) : Int) (s.size : Int))) = chunk s i by rw [chunk, Int.toNat_natCast, show Int.toNat (min ((23 * i + 23 : Nat) : Int) (s.size : Int)) = min (23 * i + 23) s.size by omega]]
    conv => whnf
    refine CallS.mk Try.call17 ⟨[], _, _, Sub.refl _, fun F' hF' => block_ok F' seq (i : Nat) (n : Nat) (chunk s i), ?_⟩
    rw [show (blockR seq (i : Nat) (n : Nat) (chunk s i)).1 = blk seq s i by rw [blk, hn]]
    rintro e A' ⟨rfl, rfl⟩
    conv => whnf
    intro b3
    conv => whnf
    refine BuiltV.append (sv := svOf (some (gb, gc)) i) (m := 1) Try.underlying23 rfl rfl rfl rfl (by decide) (Row.cells 1) rfl (by decide) rfl (by show (i + 1) * 16 ≤ _; omega) (by omega) fun g2 c2 => ?_
    conv => whnf
    refine ArI.to64 ((i + 1 : Nat) : Int) (by omega) (by omega) ?_
    conv => whnf
    refine ⟨(i + 1, g2, c2), _, by dsimp only; omega, Sub.sel [1] rfl, by dsimp only; omega, ⟨rfl, rfl, rfl, rfl, rfl, rfl, trivial⟩, ?_⟩
    dsimp only
    have e : strs ((List.range (i + 1)).map (blk seq s)) = strs ((List.range i).map (blk seq s)) ++ [.string (blk seq s i)] := by
      rw [List.range_succ, List.map_append, strs, List.map_append]; rfl
    rw [e]
    rfl
  · obtain rfl : i = n := by omega
    conv => whnf
    repeat (first | (refine LoadV.s rfl rfl (forceV_of ?_); conv => whnf) | (refine LoadV.s rfl rfl ?_; conv => whnf) | (refine StoreV.c rfl rfl (Nat.le_of_ble_eq_true rfl) rfl ?_; conv => whnf) | (refine LoadV.a _ rfl (Nat.le_of_ble_eq_true rfl) ?_; conv => whnf) | (refine DrawI.quiet (by kernel_rfl) (by kernel_rfl) ?_; conv => whnf) | (refine ArI.in64 (by omega) ?_; conv => whnf) | (refine ArI.inU8 (by omega) ?_; conv => whnf) | (refine ArI.inU64 (by omega) ?_; conv => whnf) | (refine ArI.inU32 (by omega) ?_; conv => whnf) | (refine RetI.one Try.results10 rfl ?_; conv => whnf) | (refine RetI.two Try.results10 rfl rfl ?_; conv => whnf) | (refine RetI.three Try.results10 rfl rfl rfl ?_; conv => whnf) | (refine RetI.none Try.results10 ?_; conv => whnf) | (refine ⟨by first | decide | omega, ?_⟩; conv => whnf))
    exact ⟨_, Sub.refl _, some (gb, gc), by simp; omega, by simp, by simp⟩
def liveX : ByteArray := ⟨#[0, 1, 0, 1, 2, 97, 98, 0, 0, 0, 0, 0, 0, 0, 0, 0, 0, 0, 0, 0, 0, 0, 0, 0, 0, 0, 0, 0, 98, 145, 183, 81]⟩
theorem live_pack6 : packF 1 ⟨#[97, 98]⟩ = ([liveX], 0) := by decide +kernel
theorem fpack_lit (F : Mem) (seq : Int) (s : ByteArray) (hs : s.size ≤ 9223372036854775807) {l : List ByteArray} {er : Int} (h : packF seq s = (l, er)) :
    FT Try.prog 10 [.int .i64 seq, .string s].toArray F [] (fun e H => ∃ g, (g = none ↔ l = []) ∧ e = .returned (.tuple #[svOf g l.length, .int .i64 er]) ∧ H = [.own (svOf g l.length) l.length 9 1 (strs l)]) := by
  have := fpack_ok F seq s hs
  rw [h] at this
  exact this
theorem lives06_ok (F : Mem) : FT Try.prog 9 [].toArray F [] (Ret (.bool true)) := by
  refine FT.of_body Try.func9 rfl Try.ntmps9 (by simp) fun C hC => ?_
  subst hC
  conv => whnf
  obtain ⟨x7, hx7⟩ : ∃ x : ByteArray, x = ⟨#[0, 1, 0, 1, 2, 97, 98]⟩ := ⟨_, rfl⟩
  have h7 : liveX.extract 0 7 = x7 := by rw [hx7]; decide +kernel
  rw [← hx7]
  refine CallS.mk Try.call10 ⟨[], _, _, Sub.refl _, fun F' hF' => fpack_lit F' 1 ⟨#[97, 98]⟩ (by decide) live_pack6, ?_⟩
  rintro e A' ⟨g, hg, rfl, rfl⟩
  obtain ⟨gb, gc, rfl⟩ := gsome hg (by simp)
  conv => whnf
  refine ⟨⟨by decide, by show (0 : Int) < ((1 : Nat) : Int); decide⟩, ?_⟩
  conv => whnf
  refine LoadV.os (v := .string liveX) rfl rfl ?_
  conv => whnf
  refine ⟨⟨by decide, by show (0 : Int) < ((1 : Nat) : Int); decide⟩, ?_⟩
  conv => whnf
  refine LoadV.os (v := .string liveX) rfl rfl ?_
  conv => whnf
  refine DoV.str_h Try.underlying9 (by decide) (by decide) ?_
  rw [show liveX.extract 0 (Int.toNat 7) = x7 from h7]
  conv => whnf
  rw [show (x7.toList == x7.toList) = true from beq_self_eq_true _]
  conv => whnf
  refine CallS.mk Try.call15 ⟨[], _, _, Sub.refl _, fun F' hF' => parts_ok F' 24, ?_⟩
  rintro e A' ⟨rfl, rfl⟩
  conv => whnf
  repeat (first | (refine LoadV.s rfl rfl (forceV_of ?_); conv => whnf) | (refine LoadV.s rfl rfl ?_; conv => whnf) | (refine StoreV.c rfl rfl (Nat.le_of_ble_eq_true rfl) rfl ?_; conv => whnf) | (refine LoadV.a _ rfl (Nat.le_of_ble_eq_true rfl) ?_; conv => whnf) | (refine DrawI.quiet (by kernel_rfl) (by kernel_rfl) ?_; conv => whnf) | (refine ArI.in64 (by omega) ?_; conv => whnf) | (refine ArI.inU8 (by omega) ?_; conv => whnf) | (refine ArI.inU64 (by omega) ?_; conv => whnf) | (refine ArI.inU32 (by omega) ?_; conv => whnf) | (refine RetI.one Try.results9 rfl ?_; conv => whnf) | (refine RetI.two Try.results9 rfl rfl ?_; conv => whnf) | (refine RetI.three Try.results9 rfl rfl rfl ?_; conv => whnf) | (refine RetI.none Try.results9 ?_; conv => whnf) | (refine ⟨by first | decide | omega, ?_⟩; conv => whnf))
  exact ⟨_, Sub.sel [] rfl, rfl, rfl⟩
end Go.Proofs.Ytphnpchblkpjhaa
