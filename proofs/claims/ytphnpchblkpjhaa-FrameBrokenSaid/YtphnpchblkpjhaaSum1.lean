/- The sum: a byte taken, a text taken. -/
import Derived.Test.YtphnpchblkpjhaaSumLaw
import Derived.Test.YtphnpchblkpjhaaHexLaw
import Derived.Laws.BitsAllLaws
import Derived.Test.YtphnpchblkpjhaaBitsInt
namespace Go.Proofs.Ytphnpchblkpjhaa
set_option linter.unusedVariables false
set_option linter.unusedSimpArgs false
set_option maxRecDepth 100000
open SL Go.RowKit Go.Maps

theorem stepN_succ (n r : Nat) : stepN (n + 1) r = step1 (stepN n r) := by rw [stepN_add n 1]; rfl
theorem take_bit (x : Nat) (hx : x < 4294967296) : bits .xor .u32 ((x / 2 ^ 1 : Nat) : Int) (bits .and .u32 3988292384 (IntKind.u32.wrap (0 - ((x &&& 1 : Nat) : Int)))) = (step1 x : Nat) := by
  have e : bits .and .u32 3988292384 (IntKind.u32.wrap (0 - ((x &&& 1 : Nat) : Int))) = ((if x % 2 = 1 then 3988292384 else 0 : Nat) : Int) := by
    rw [Nat.and_one_is_mod]
    rcases Nat.mod_two_eq_zero_or_one x with h | h <;> rw [h] <;> decide +kernel
  have hb : (if x % 2 = 1 then 3988292384 else 0 : Nat) < 4294967296 := by split <;> decide
  rw [e, u32_xor_nat _ _ (by omega) hb]; rfl
theorem take_ok (F : Mem) (r b : Nat) (hr : r < 4294967296) (hb : b < 256) : FT Try.prog 55 [.int .u32 (r : Int), .int .u8 (b : Int)].toArray F [] (Ret (.int .u32 (stepN 8 (r ^^^ b) : Nat))) := by
  refine FT.of_body Try.func55 rfl Try.ntmps55 (by simp) fun C hC => ?_
  subst hC
  conv => whnf
  refine ArI.inU32 (by omega) ?_
  conv => whnf
  rw [u32_xor_nat r b hr (by omega)]
  have hx : r ^^^ b < 4294967296 := Nat.xor_lt_two_pow (n := 32) hr (by omega)
  generalize r ^^^ b = x at hx ⊢
  conv => whnf
  refine LoopI.by_state (σ := Nat) (fun i => [(0, .int .u32 (stepN i x : Nat)), (9, .int .i64 (i : Int))]) (fun _ => []) (fun i => i ≤ 8) (fun i => 8 - i) 0 (by simp) ⟨rfl, rfl, trivial⟩ (Sub.refl _) ?_
  rintro i f0 hi
  have hs := stepN_lt i x hx
  conv => whnf
  refine cond_dec (fun h => ?_) (fun h => ?_)
  · conv => whnf
    refine ⟨by decide, ?_⟩
    conv => whnf
    rw [show (1 : Int) = ((1 : Nat) : Int) from rfl, shr_le (by decide), u32_and_nat _ 1 hs (by decide)]
    conv => whnf
    rw [take_bit _ hs, ← stepN_succ]
    refine ArI.to64 ((i + 1 : Nat) : Int) (by omega) (by omega) ?_
    conv => whnf
    exact ⟨i + 1, _, by omega, Sub.refl _, by omega, ⟨rfl, rfl, trivial⟩, rfl⟩
  · obtain rfl : i = 8 := by omega
    conv => whnf
    repeat (first | (refine LoadV.s rfl rfl (forceV_of ?_); conv => whnf) | (refine LoadV.s rfl rfl ?_; conv => whnf) | (refine StoreV.c rfl rfl (Nat.le_of_ble_eq_true rfl) rfl ?_; conv => whnf) | (refine LoadV.a _ rfl (Nat.le_of_ble_eq_true rfl) ?_; conv => whnf) | (refine DrawI.quiet (by kernel_rfl) (by kernel_rfl) ?_; conv => whnf) | (refine ArI.in64 (by omega) ?_; conv => whnf) | (refine ArI.inU8 (by omega) ?_; conv => whnf) | (refine ArI.inU64 (by omega) ?_; conv => whnf) | (refine ArI.inU32 (by omega) ?_; conv => whnf) | (refine RetI.one Try.results55 rfl ?_; conv => whnf) | (refine RetI.two Try.results55 rfl rfl ?_; conv => whnf) | (refine RetI.three Try.results55 rfl rfl rfl ?_; conv => whnf) | (refine RetI.none Try.results55 ?_; conv => whnf) | (refine ⟨by first | decide | omega, ?_⟩; conv => whnf))
    exact ⟨_, Sub.refl _, rfl, rfl⟩
def extN (n : Nat) (l : List Nat) : Nat := 4294967295 - crc (4294967295 - n) l
theorem ones_xor (n : Nat) (h : n < 4294967296) : 4294967295 ^^^ n = 4294967295 - n := by
  have e : 4294967295 - n = 2 ^ 32 - (n + 1) := by omega
  rw [e]
  apply Nat.eq_of_testBit_eq
  intro i
  rw [Nat.testBit_two_pow_sub_succ h, Nat.testBit_xor, show (4294967295 : Nat) = 2 ^ 32 - 1 from rfl, Nat.testBit_two_pow_sub_one]
  by_cases hi : i < 32
  · simp [hi]
  · have : n.testBit i = false := Nat.testBit_lt_two_pow (Nat.lt_of_lt_of_le h (Nat.pow_le_pow_right (n := 2) (by decide) (show 32 ≤ i by omega)))
    simp [hi, this]
theorem not_u32 (n : Nat) (h : n < 4294967296) : IntKind.u32.wrap ((BitVec.ofInt IntKind.u32.bits (if IntKind.u32.signed = true then -1 else IntKind.u32.max) ^^^ BitVec.ofInt IntKind.u32.bits (n : Int)).toNat : Nat) = ((4294967295 - n : Nat) : Int) := by
  have : bits .xor .u32 ((4294967295 : Nat) : Int) (n : Int) = ((4294967295 - n : Nat) : Int) := by rw [u32_xor_nat _ _ (by decide) h, ones_xor n h]
  exact this
theorem crc_snoc (r : Nat) (l : List Nat) (i : Nat) (h : i < l.length) : crc r (l.take (i + 1)) = stepN 8 (crc r (l.take i) ^^^ l[i]) := by
  rw [← List.take_append_getElem h, crc_append]; rfl
theorem ext_ok (F : Mem) (n : Nat) (s : ByteArray) (hn : n < 4294967296) (hs : s.size ≤ 9223372036854775807) : FT Try.prog 42 [.int .u32 (n : Int), .string s].toArray F [] (Ret (.int .u32 (extN n (txt s) : Nat))) := by
  refine FT.of_body Try.func42 rfl Try.ntmps42 (by simp) fun C hC => ?_
  subst hC
  conv => whnf
  have hl := txt_length s
  have hr0 : 4294967295 - n < 4294967296 := by omega
  refine LoopI.by_state (σ := Nat) (fun i => [(1, .string s), (5, .int .u32 (crc (4294967295 - n) ((txt s).take i) : Nat)), (10, .int .i64 (s.size : Int)), (11, .int .i64 (i : Int))]) (fun _ => []) (fun i => i ≤ s.size) (fun i => s.size - i) 0 (by simp) ⟨rfl, ?_, rfl, rfl, trivial⟩ (Sub.refl _) ?_
  · show Value.int .u32 (IntKind.u32.wrap ((BitVec.ofInt IntKind.u32.bits (if IntKind.u32.signed = true then -1 else IntKind.u32.max) ^^^ BitVec.ofInt IntKind.u32.bits (n : Int)).toNat : Nat)) = _
    rw [not_u32 n hn]; rfl
  rintro i f0 hi
  have hc : crc (4294967295 - n) ((txt s).take i) < 2 ^ 32 := crc_lt _ _ (fun b hb => txt_lt s b (List.mem_of_mem_take hb)) hr0
  conv => whnf
  refine cond_dec (fun h => ?_) (fun h => ?_)
  · have hil : i < (txt s).length := by omega
    conv => whnf
    refine ⟨by omega, ?_⟩
    conv => whnf
    rw [byteAt_txt s i hil]
    have hb : (txt s)[i] < 256 := txt_lt s _ (List.getElem_mem hil)
    refine CallS.mk Try.call55 ⟨[], _, _, Sub.refl _, fun F' hF' => take_ok F' _ _ hc hb, ?_⟩
    rintro e A' ⟨rfl, rfl⟩
    rw [← crc_snoc _ _ _ hil]
    conv => whnf
    refine ArI.to64 ((i + 1 : Nat) : Int) (by omega) (by omega) ?_
    conv => whnf
    exact ⟨i + 1, _, by omega, Sub.refl _, by omega, ⟨rfl, rfl, rfl, rfl, trivial⟩, rfl⟩
  · obtain rfl : i = s.size := by omega
    rw [← hl, List.take_length] at hc ⊢
    conv => whnf
    rw [not_u32 _ hc]
    conv => whnf
    repeat (first | (refine LoadV.s rfl rfl (forceV_of ?_); conv => whnf) | (refine LoadV.s rfl rfl ?_; conv => whnf) | (refine StoreV.c rfl rfl (Nat.le_of_ble_eq_true rfl) rfl ?_; conv => whnf) | (refine LoadV.a _ rfl (Nat.le_of_ble_eq_true rfl) ?_; conv => whnf) | (refine DrawI.quiet (by kernel_rfl) (by kernel_rfl) ?_; conv => whnf) | (refine ArI.in64 (by omega) ?_; conv => whnf) | (refine ArI.inU8 (by omega) ?_; conv => whnf) | (refine ArI.inU64 (by omega) ?_; conv => whnf) | (refine ArI.inU32 (by omega) ?_; conv => whnf) | (refine RetI.one Try.results42 rfl ?_; conv => whnf) | (refine RetI.two Try.results42 rfl rfl ?_; conv => whnf) | (refine RetI.three Try.results42 rfl rfl rfl ?_; conv => whnf) | (refine RetI.none Try.results42 ?_; conv => whnf) | (refine ⟨by first | decide | omega, ?_⟩; conv => whnf))
    exact ⟨_, Sub.refl _, rfl, rfl⟩
theorem sum_ok (F : Mem) (s : ByteArray) (hs : s.size ≤ 9223372036854775807) : FT Try.prog 30 [.string s].toArray F [] (Ret (.int .u32 (extN 0 (txt s) : Nat))) := by
  refine FT.of_body Try.func30 rfl Try.ntmps30 (by simp) fun C hC => ?_
  subst hC
  conv => whnf
  refine CallS.mk Try.call42 ⟨[], _, _, Sub.refl _, fun F' hF' => ext_ok F' 0 s (by decide) hs, ?_⟩
  rintro e A' ⟨rfl, rfl⟩
  conv => whnf
  repeat (first | (refine LoadV.s rfl rfl (forceV_of ?_); conv => whnf) | (refine LoadV.s rfl rfl ?_; conv => whnf) | (refine StoreV.c rfl rfl (Nat.le_of_ble_eq_true rfl) rfl ?_; conv => whnf) | (refine LoadV.a _ rfl (Nat.le_of_ble_eq_true rfl) ?_; conv => whnf) | (refine DrawI.quiet (by kernel_rfl) (by kernel_rfl) ?_; conv => whnf) | (refine ArI.in64 (by omega) ?_; conv => whnf) | (refine ArI.inU8 (by omega) ?_; conv => whnf) | (refine ArI.inU64 (by omega) ?_; conv => whnf) | (refine ArI.inU32 (by omega) ?_; conv => whnf) | (refine RetI.one Try.results30 rfl ?_; conv => whnf) | (refine RetI.two Try.results30 rfl rfl ?_; conv => whnf) | (refine RetI.three Try.results30 rfl rfl rfl ?_; conv => whnf) | (refine RetI.none Try.results30 ?_; conv => whnf) | (refine ⟨by first | decide | omega, ?_⟩; conv => whnf))
  exact ⟨_, Sub.refl _, rfl, rfl⟩
theorem extN_lt (n : Nat) (l : List Nat) : extN n l < 4294967296 := by unfold extN; omega
theorem rext_ok (F : Mem) (n : Nat) (s : ByteArray) (hn : n < 4294967296) (hs : s.size ≤ 9223372036854775807) : FT Try.prog 43 [.int .u32 (n : Int), .string s].toArray F [] (Ret (.int .u32 (extN n (txt s) : Nat))) := by
  refine FT.of_body Try.func43 rfl Try.ntmps43 (by simp) fun C hC => ?_
  subst hC
  conv => whnf
  have hl := txt_length s
  have hr0 : 4294967295 - n < 4294967296 := by omega
  refine ArI.mk ((4294967295 - n : Nat) : Int) (by rw [IntKind.wrap_u32']; omega) ?_
  conv => whnf
  refine LoopI.by_state (σ := Nat) (fun i => [(1, .string s), (5, .int .u32 (crc (4294967295 - n) ((txt s).take i) : Nat)), (6, .int .i64 (i : Int))]) (fun _ => []) (fun i => i ≤ s.size) (fun i => s.size - i) 0 (by simp) ⟨rfl, rfl, rfl, trivial⟩ (Sub.refl _) ?_
  rintro i f0 hi
  have hc : crc (4294967295 - n) ((txt s).take i) < 2 ^ 32 := crc_lt _ _ (fun b hb => txt_lt s b (List.mem_of_mem_take hb)) hr0
  conv => whnf
  refine cond_dec (fun h => ?_) (fun h => ?_)
  · have hil : i < (txt s).length := by omega
    conv => whnf
    refine ⟨by omega, ?_⟩
    conv => whnf
    rw [byteAt_txt s i hil]
    have hb : (txt s)[i] < 256 := txt_lt s _ (List.getElem_mem hil)
    have hsn := crc_snoc (4294967295 - n) (txt s) i hil
    generalize (txt s)[i] = b at hb hsn
    generalize crc (4294967295 - n) ((txt s).take i) = r at hc hsn ⊢
    refine ArI.inU32 (by omega) ?_
    conv => whnf
    rw [u32_xor_nat r b hc (by omega)]
    have hx : r ^^^ b < 4294967296 := Nat.xor_lt_two_pow (n := 32) hc (by omega)
    generalize r ^^^ b = x at hx hsn ⊢
    conv => whnf
    refine LoopI.by_state (σ := Nat) (fun k => [(1, .string s), (5, .int .u32 (stepN k x : Nat)), (6, .int .i64 (i : Int)), (7, .int .i64 (k : Int))]) (fun _ => []) (fun k => k ≤ 8) (fun k => 8 - k) 0 (by simp) ⟨rfl, rfl, rfl, rfl, trivial⟩ (Sub.refl _) ?_
    rintro k f1 hk
    have hsk := stepN_lt k x hx
    conv => whnf
    refine cond_dec (fun h2 => ?_) (fun h2 => ?_)
    · have hstep := stepN_succ k x
      generalize stepN k x = y at hsk hstep ⊢
      conv => whnf
      refine ⟨⟨rfl, by decide⟩, ?_⟩
      conv => whnf
      refine ⟨⟨rfl, by decide⟩, ?_⟩
      refine ArI.mk ((y / 2 : Nat) : Int) (by rw [IntKind.wrap_u32', Int.tdiv_eq_ediv_of_nonneg (by omega)]; omega) ?_
      conv => whnf
      rw [Int.tmod_eq_emod_of_nonneg (by omega)]
      refine cond_split (fun h3 => ?_) (fun h3 => ?_)
      · have h4 : y % 2 = 1 := by have := eq_of_beq h3; omega
        conv => whnf
        rw [show (3988292384 : Int) = ((3988292384 : Nat) : Int) from rfl, u32_xor_nat _ _ (by omega) (by decide), show y / 2 ^^^ 3988292384 = stepN (k + 1) x by rw [hstep, step1, if_pos h4]]
        refine ArI.to64 ((k + 1 : Nat) : Int) (by omega) (by omega) ?_
        conv => whnf
        exact ⟨k + 1, _, by omega, Sub.refl _, by omega, ⟨rfl, rfl, rfl, rfl, trivial⟩, rfl⟩
      · have h4 : ¬ y % 2 = 1 := by have := beq_eq_false_iff_ne.1 h3; omega
        conv => whnf
        rw [show y / 2 = stepN (k + 1) x by rw [hstep, step1, if_neg h4, Nat.xor_zero]]
        refine ArI.to64 ((k + 1 : Nat) : Int) (by omega) (by omega) ?_
        conv => whnf
        exact ⟨k + 1, _, by omega, Sub.refl _, by omega, ⟨rfl, rfl, rfl, rfl, trivial⟩, rfl⟩
    · obtain rfl : k = 8 := by omega
      rw [← hsn]
      conv => whnf
      refine ArI.to64 ((i + 1 : Nat) : Int) (by omega) (by omega) ?_
      conv => whnf
      exact ⟨i + 1, _, by omega, Sub.refl _, by omega, ⟨rfl, rfl, rfl, trivial⟩, rfl⟩
  · obtain rfl : i = s.size := by omega
    rw [← hl, List.take_length] at hc ⊢
    conv => whnf
    refine ArI.mk ((extN n (txt s) : Nat) : Int) (by rw [IntKind.wrap_u32']; unfold extN; omega) ?_
    conv => whnf
    repeat (first | (refine LoadV.s rfl rfl (forceV_of ?_); conv => whnf) | (refine LoadV.s rfl rfl ?_; conv => whnf) | (refine StoreV.c rfl rfl (Nat.le_of_ble_eq_true rfl) rfl ?_; conv => whnf) | (refine LoadV.a _ rfl (Nat.le_of_ble_eq_true rfl) ?_; conv => whnf) | (refine DrawI.quiet (by kernel_rfl) (by kernel_rfl) ?_; conv => whnf) | (refine ArI.in64 (by omega) ?_; conv => whnf) | (refine ArI.inU8 (by omega) ?_; conv => whnf) | (refine ArI.inU64 (by omega) ?_; conv => whnf) | (refine ArI.inU32 (by omega) ?_; conv => whnf) | (refine RetI.one Try.results43 rfl ?_; conv => whnf) | (refine RetI.two Try.results43 rfl rfl ?_; conv => whnf) | (refine RetI.three Try.results43 rfl rfl rfl ?_; conv => whnf) | (refine RetI.none Try.results43 ?_; conv => whnf) | (refine ⟨by first | decide | omega, ?_⟩; conv => whnf))
    exact ⟨_, Sub.refl _, rfl, rfl⟩
theorem rsum_ok (F : Mem) (s : ByteArray) (hs : s.size ≤ 9223372036854775807) : FT Try.prog 32 [.string s].toArray F [] (Ret (.int .u32 (extN 0 (txt s) : Nat))) := by
  refine FT.of_body Try.func32 rfl Try.ntmps32 (by simp) fun C hC => ?_
  subst hC
  conv => whnf
  refine CallS.mk Try.call43 ⟨[], _, _, Sub.refl _, fun F' hF' => rext_ok F' 0 s (by decide) hs, ?_⟩
  rintro e A' ⟨rfl, rfl⟩
  conv => whnf
  repeat (first | (refine LoadV.s rfl rfl (forceV_of ?_); conv => whnf) | (refine LoadV.s rfl rfl ?_; conv => whnf) | (refine StoreV.c rfl rfl (Nat.le_of_ble_eq_true rfl) rfl ?_; conv => whnf) | (refine LoadV.a _ rfl (Nat.le_of_ble_eq_true rfl) ?_; conv => whnf) | (refine DrawI.quiet (by kernel_rfl) (by kernel_rfl) ?_; conv => whnf) | (refine ArI.in64 (by omega) ?_; conv => whnf) | (refine ArI.inU8 (by omega) ?_; conv => whnf) | (refine ArI.inU64 (by omega) ?_; conv => whnf) | (refine ArI.inU32 (by omega) ?_; conv => whnf) | (refine RetI.one Try.results32 rfl ?_; conv => whnf) | (refine RetI.two Try.results32 rfl rfl ?_; conv => whnf) | (refine RetI.three Try.results32 rfl rfl rfl ?_; conv => whnf) | (refine RetI.none Try.results32 ?_; conv => whnf) | (refine ⟨by first | decide | omega, ?_⟩; conv => whnf))
  exact ⟨_, Sub.refl _, rfl, rfl⟩
theorem Row.all {C : Ctx} {H : Heap} {b : Nat} {l : List Value} {T : TypeId} {fr : Nat × Nat} [hf : Find H b l T fr] : Row C H ⟨b, 0, none⟩ l := by
  have := Row.cells (C := C) (H := H) (b := b) (o := 0) l.length
  rwa [List.drop_zero, List.take_length] at this
def bytesN (n : Nat) : List Nat := [n / 16777216, n / 65536 % 256, n / 256 % 256, n % 256]
theorem byte_shr (n k c : Nat) (hk : k ≤ 32) (hc : n / 2 ^ k % 256 = c) : IntKind.u8.wrap (Int.fdiv (n : Int) (2 ^ min (Int.toNat (k : Int)) IntKind.u32.bits)) = (c : Int) := by
  rw [shr_le (k := IntKind.u32.bits) hk, wrap_u8_nat, hc]
theorem u8_nat (n c : Nat) (hc : n % 256 = c) : IntKind.u8.wrap (n : Int) = (c : Int) := by rw [wrap_u8_nat, hc]
theorem quo_u32 (n k c : Nat) (hn : n < 4294967296) (h : n / k = c) : IntKind.u32.wrap ((n : Int).tdiv (k : Int)) = (c : Int) := by
  rw [Int.tdiv_eq_ediv_of_nonneg (by omega), ← Int.natCast_ediv, wrap_u32_nat, h, Nat.mod_eq_of_lt]
  exact Nat.lt_of_le_of_lt (h ▸ Nat.div_le_self n k) hn
theorem mod_u8 (n k c : Nat) (h : n % k % 256 = c) : IntKind.u8.wrap ((n : Int).tmod (k : Int)) = (c : Int) := by
  rw [Int.tmod_eq_emod_of_nonneg (by omega), ← Int.natCast_emod, wrap_u8_nat, h]
theorem bytes_ok (F : Mem) (n : Nat) (hn : n < 4294967296) : FT Try.prog 29 [.int .u32 (n : Int)].toArray F [] (Ret (.string (strB (bytesN n)))) := by
  refine FT.of_body Try.func29 rfl Try.ntmps29 (by simp) fun C hC => ?_
  subst hC
  conv => whnf
  refine ⟨by decide, ?_⟩
  conv => whnf
  refine ArI.mk ((n / 16777216 : Nat) : Int) (byte_shr n 24 _ (by decide) (by omega)) ?_
  conv => whnf
  refine ⟨by decide, ?_⟩
  conv => whnf
  refine ArI.mk ((n / 65536 % 256 : Nat) : Int) (byte_shr n 16 _ (by decide) rfl) ?_
  conv => whnf
  refine ⟨by decide, ?_⟩
  conv => whnf
  refine ArI.mk ((n / 256 % 256 : Nat) : Int) (byte_shr n 8 _ (by decide) rfl) ?_
  conv => whnf
  refine ArI.mk ((n % 256 : Nat) : Int) (u8_nat _ _ rfl) ?_
  conv => whnf
  intro b
  conv => whnf
  refine DoV.bytes_string (l := bytesN n) Try.underlying42 Try.underlying5 Try.underlying9 rfl (by have := Row.all (C := C) (H := [.cells b [.int .u8 (n / 16777216 : Nat), .int .u8 (n / 65536 % 256 : Nat), .int .u8 (n / 256 % 256 : Nat), .int .u8 (n % 256 : Nat)] 5 (0, 0)]) (b := b); exact this) ?_
  conv => whnf
  repeat (first | (refine LoadV.s rfl rfl (forceV_of ?_); conv => whnf) | (refine LoadV.s rfl rfl ?_; conv => whnf) | (refine StoreV.c rfl rfl (Nat.le_of_ble_eq_true rfl) rfl ?_; conv => whnf) | (refine LoadV.a _ rfl (Nat.le_of_ble_eq_true rfl) ?_; conv => whnf) | (refine DrawI.quiet (by kernel_rfl) (by kernel_rfl) ?_; conv => whnf) | (refine ArI.in64 (by omega) ?_; conv => whnf) | (refine ArI.inU8 (by omega) ?_; conv => whnf) | (refine ArI.inU64 (by omega) ?_; conv => whnf) | (refine ArI.inU32 (by omega) ?_; conv => whnf) | (refine RetI.one Try.results29 rfl ?_; conv => whnf) | (refine RetI.two Try.results29 rfl rfl ?_; conv => whnf) | (refine RetI.three Try.results29 rfl rfl rfl ?_; conv => whnf) | (refine RetI.none Try.results29 ?_; conv => whnf) | (refine ⟨by first | decide | omega, ?_⟩; conv => whnf))
  exact ⟨_, Sub.sel [] rfl, rfl, rfl⟩
theorem rbytes_ok (F : Mem) (n : Nat) (hn : n < 4294967296) : FT Try.prog 31 [.int .u32 (n : Int)].toArray F [] (Ret (.string (strB (bytesN n)))) := by
  refine FT.of_body Try.func31 rfl Try.ntmps31 (by simp) fun C hC => ?_
  subst hC
  conv => whnf
  refine ⟨⟨rfl, by decide⟩, ?_⟩
  refine ArI.mk ((n / 16777216 : Nat) : Int) (quo_u32 n 16777216 _ hn rfl) ?_
  conv => whnf
  refine ArI.mk ((n / 16777216 : Nat) : Int) (u8_nat _ _ (by omega)) ?_
  conv => whnf
  refine ⟨⟨rfl, by decide⟩, ?_⟩
  refine ArI.mk ((n / 65536 : Nat) : Int) (quo_u32 n 65536 _ hn rfl) ?_
  conv => whnf
  refine ⟨⟨rfl, by decide⟩, ?_⟩
  conv => whnf
  refine ArI.mk ((n / 65536 % 256 : Nat) : Int) (mod_u8 (n / 65536) 256 _ (by omega)) ?_
  conv => whnf
  refine ⟨⟨rfl, by decide⟩, ?_⟩
  refine ArI.mk ((n / 256 : Nat) : Int) (quo_u32 n 256 _ hn rfl) ?_
  conv => whnf
  refine ⟨⟨rfl, by decide⟩, ?_⟩
  conv => whnf
  refine ArI.mk ((n / 256 % 256 : Nat) : Int) (mod_u8 (n / 256) 256 _ (by omega)) ?_
  conv => whnf
  refine ⟨⟨rfl, by decide⟩, ?_⟩
  conv => whnf
  refine ArI.mk ((n % 256 : Nat) : Int) (mod_u8 n 256 _ (by omega)) ?_
  conv => whnf
  intro b
  conv => whnf
  refine DoV.bytes_string (l := bytesN n) Try.underlying42 Try.underlying5 Try.underlying9 rfl (by have := Row.all (C := C) (H := [.cells b [.int .u8 (n / 16777216 : Nat), .int .u8 (n / 65536 % 256 : Nat), .int .u8 (n / 256 % 256 : Nat), .int .u8 (n % 256 : Nat)] 5 (0, 0)]) (b := b); exact this) ?_
  conv => whnf
  repeat (first | (refine LoadV.s rfl rfl (forceV_of ?_); conv => whnf) | (refine LoadV.s rfl rfl ?_; conv => whnf) | (refine StoreV.c rfl rfl (Nat.le_of_ble_eq_true rfl) rfl ?_; conv => whnf) | (refine LoadV.a _ rfl (Nat.le_of_ble_eq_true rfl) ?_; conv => whnf) | (refine DrawI.quiet (by kernel_rfl) (by kernel_rfl) ?_; conv => whnf) | (refine ArI.in64 (by omega) ?_; conv => whnf) | (refine ArI.inU8 (by omega) ?_; conv => whnf) | (refine ArI.inU64 (by omega) ?_; conv => whnf) | (refine ArI.inU32 (by omega) ?_; conv => whnf) | (refine RetI.one Try.results31 rfl ?_; conv => whnf) | (refine RetI.two Try.results31 rfl rfl ?_; conv => whnf) | (refine RetI.three Try.results31 rfl rfl rfl ?_; conv => whnf) | (refine RetI.none Try.results31 ?_; conv => whnf) | (refine ⟨by first | decide | omega, ?_⟩; conv => whnf))
  exact ⟨_, Sub.sel [] rfl, rfl, rfl⟩
end Go.Proofs.Ytphnpchblkpjhaa
