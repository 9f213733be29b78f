/- The laws of mixed and spoilt texts, as contracts. -/
import Derived.Test.YtigbpmiemlejaaaDoorSum4
namespace Go.Proofs.YtigbpmiemlejaaaDoor
set_option linter.unusedVariables false
set_option linter.unusedSimpArgs false
open SL Go.RowKit Go.Maps

theorem extN_mix {a b c : List Nat} (ha : ∀ x ∈ a, x < 256) (hb : ∀ x ∈ b, x < 256) (hc : ∀ x ∈ c, x < 256) (h1 : a.length = b.length) (h2 : a.length = c.length) :
    extN 0 a ^^^ extN 0 b ^^^ extN 0 c ^^^ extN 0 (List.zipWith (· ^^^ ·) (List.zipWith (· ^^^ ·) a b) c) = 0 := by
  have hd : ∀ x ∈ List.zipWith (· ^^^ ·) (List.zipWith (· ^^^ ·) a b) c, x < 256 := by
    intro x hx
    obtain ⟨i, hi, rfl⟩ := List.mem_iff_getElem.1 hx
    simp only [List.getElem_zipWith]
    exact Nat.xor_lt_two_pow (n := 8) (Nat.xor_lt_two_pow (n := 8) (ha _ (List.getElem_mem _)) (hb _ (List.getElem_mem _))) (hc _ (List.getElem_mem _))
  have key := crc_mix (a := a) (b := b) (c := c) (r := 4294967295) (s := 4294967295) (t := 4294967295) (u := 4294967295) h1 h2 rfl (by decide)
  unfold extN
  rw [Nat.sub_zero, ← ones_xor _ (crc_lt a _ ha (by decide)), ← ones_xor _ (crc_lt b _ hb (by decide)), ← ones_xor _ (crc_lt c _ hc (by decide)), ← ones_xor _ (crc_lt _ _ hd (by decide))]
  generalize crc 4294967295 a = x at key ⊢
  generalize crc 4294967295 b = y at key ⊢
  generalize crc 4294967295 c = z at key ⊢
  generalize crc 4294967295 _ = w at key ⊢
  have e : 4294967295 ^^^ x ^^^ (4294967295 ^^^ y) ^^^ (4294967295 ^^^ z) ^^^ (4294967295 ^^^ w) = (4294967295 ^^^ 4294967295 ^^^ (4294967295 ^^^ 4294967295)) ^^^ (x ^^^ y ^^^ z ^^^ w) := by ac_rfl
  rw [e, key]; decide
/-- The mix of three texts' first bytes. -/
def mixL (a b c : List Nat) (i : Nat) : List Nat := List.zipWith (· ^^^ ·) (List.zipWith (· ^^^ ·) (a.take i) (b.take i)) (c.take i)
theorem mixL_length (a b c : List Nat) (i : Nat) (ha : i ≤ a.length) (hb : i ≤ b.length) (hc : i ≤ c.length) : (mixL a b c i).length = i := by simp [mixL]; omega
theorem mixL_snoc (a b c : List Nat) (i : Nat) (ha : i < a.length) (hb : i < b.length) (hc : i < c.length) : mixL a b c (i + 1) = mixL a b c i ++ [a[i] ^^^ b[i] ^^^ c[i]] := by
  unfold mixL
  rw [← List.take_append_getElem ha, ← List.take_append_getElem hb, ← List.take_append_getElem hc]
  rw [List.zipWith_append (by simp; omega), List.zipWith_append (by simp; omega)]
  rfl
/-- The bytes of a slice that owns its row, as a text. -/
theorem quiet_text {C : Ctx} {g : Option (Nat × Nat)} {n T : Nat} {l : List Nat} {KV : Value → Prop} (hl : l.length = n) (hg : g = none → n = 0) (k : KV (.string (strB l))) :
    QuietV C Tryd.prog [.own (svOf g n) n T 1 (bytesV l)] (convert 27 9 (svOf g n)) KV := by
  cases g with
  | none =>
    have : l = [] := List.length_eq_zero_iff.1 (hl.trans (hg rfl))
    subst this
    exact QuietV.nil_string Tryd.underlying27 Tryd.underlying5 Tryd.underlying9 k
  | some p =>
    refine QuietV.bytes_string (l := l) Tryd.underlying27 Tryd.underlying5 Tryd.underlying9 hl ?_ k
    have := Row.own (C := C) (H := [.own (svOf (some p) n) n T 1 (bytesV l)]) (b := p.1) (o := 0) l.length
    rwa [List.drop_zero, List.take_of_length_le (by simp)] at this
theorem mix_lt (a b c : ByteArray) (i : Nat) : ∀ x ∈ mixL (txt a) (txt b) (txt c) i, x < 256 := by
  intro x hx
  unfold mixL at hx
  obtain ⟨j, hj, rfl⟩ := List.mem_iff_getElem.1 hx
  simp only [List.getElem_zipWith]
  exact Nat.xor_lt_two_pow (n := 8) (Nat.xor_lt_two_pow (n := 8) (txt_lt a _ (List.mem_of_mem_take (List.getElem_mem _))) (txt_lt b _ (List.mem_of_mem_take (List.getElem_mem _)))) (txt_lt c _ (List.mem_of_mem_take (List.getElem_mem _)))
set_option maxHeartbeats 4000000 in
theorem mixes_ok (F : Mem) (ht : Tab F) (a b c : ByteArray) (ha : a.size + 1 ≤ 140737488355328) (hb : b.size ≤ 140737488355328) (hc : c.size ≤ 140737488355328) :
    FT Tryd.prog 4 [.string a, .string b, .string c].toArray F [] (Ret (.bool true)) := by
  refine FT.of_body Tryd.func4 rfl Tryd.ntmps4 (by simp) fun C hC => ?_
  subst hC
  conv => whnf
  refine CallS.mk Tryd.call8 ⟨[], _, _, Sub.refl _, fun F' hF' => lives04_ok F' (ht.ext hF'), ?_⟩
  rintro e A' ⟨rfl, rfl⟩
  conv => whnf
  obtain ⟨n, hn⟩ : ∃ n : Nat, n = min (min a.size b.size) c.size := ⟨_, rfl⟩
  have la := txt_length a
  have lb := txt_length b
  have lc := txt_length c
  refine LoopI.by_state (σ := Nat × Option (Nat × Nat)) (fun x => [(0, .string a), (1, .string b), (2, .string c), (7, .int .i64 (n : Int)), (8, svOf x.2 x.1), (9, .int .i64 (x.1 : Int))])
    (fun x => [.own (svOf x.2 x.1) x.1 5 1 (bytesV (mixL (txt a) (txt b) (txt c) x.1))]) (fun x => x.1 ≤ n ∧ (x.2 = none ↔ x.1 = 0)) (fun x => n - x.1) (0, none) ⟨by omega, by simp⟩ ⟨rfl, rfl, rfl, ?_, rfl, rfl, trivial⟩ (Sub.nil 5 1) ?_
  · conv => lhs; whnf
    congr 1
    rw [hn]
    split <;> split at * <;> omega
  rintro ⟨i, g⟩ f0 ⟨hi, hg⟩
  dsimp only at hi hg ⊢
  conv => whnf
  refine cond_dec (fun h => ?_) (fun h => ?_)
  · have h1 : i < (txt a).length := by omega
    have h2 : i < (txt b).length := by omega
    have h3 : i < (txt c).length := by omega
    conv => whnf
    refine DrawI.mixed [12, 13] [] (by kernel_rfl) (by kernel_rfl) (by kernel_rfl) (by kernel_rfl) (by kernel_rfl) (Sub.sel [] rfl) ?_
    conv => whnf
    refine ⟨by omega, forceV_of ?_⟩
    rw [byteAt_txt a i h1]
    conv => whnf
    refine ⟨by omega, forceV_of ?_⟩
    rw [byteAt_txt b i h2]
    conv => whnf
    rw [u8_xor_nat _ _ (txt_lt a _ (List.getElem_mem h1)) (txt_lt b _ (List.getElem_mem h2))]
    refine ⟨by omega, forceV_of ?_⟩
    rw [byteAt_txt c i h3]
    conv => whnf
    rw [u8_xor_nat _ _ (Nat.xor_lt_two_pow (n := 8) (txt_lt a _ (List.getElem_mem h1)) (txt_lt b _ (List.getElem_mem h2))) (txt_lt c _ (List.getElem_mem h3))]
    intro b0
    conv => whnf
    refine ⟨Sub.sel [] rfl, ?_⟩
    conv => whnf
    refine BuiltV.append (sv := svOf g i) (m := 1) Tryd.underlying27 rfl rfl rfl rfl (by decide) (Row.cells 1) rfl (by decide) rfl (by show (i + 1) * 1 ≤ _; omega) (by omega) fun gb gc => ?_
    conv => whnf
    refine ⟨Sub.sel [] rfl, ?_⟩
    conv => whnf
    refine ArI.to64 ((i + 1 : Nat) : Int) (by omega) (by omega) ?_
    conv => whnf
    refine ⟨(i + 1, some (gb, gc)), _, by dsimp only; omega, Sub.sel [1] rfl, ⟨by dsimp only; omega, by simp⟩, ⟨rfl, rfl, rfl, rfl, rfl, rfl, trivial⟩, ?_⟩
    dsimp only
    rw [mixL_snoc _ _ _ i h1 h2 h3]
    simp
    rfl
  · obtain rfl : i = n := by omega
    conv => whnf
    refine DrawI.mixed [3, 7, 12, 16] [_] (by kernel_rfl) (by kernel_rfl) (by kernel_rfl) (by kernel_rfl) (by kernel_rfl) (Sub.sel [0] rfl) ?_
    have ea : txt (a.extract 0 i) = (txt a).take i := by rw [txt_extract]; simp
    have eb : txt (b.extract 0 i) = (txt b).take i := by rw [txt_extract]; simp
    have ec : txt (c.extract 0 i) = (txt c).take i := by rw [txt_extract]; simp
    have sz : ∀ s : ByteArray, s.size ≤ 140737488355328 → (s.extract 0 i).size ≤ 9223372036854775807 := fun s hs => by rw [ByteArray.size_extract]; omega
    conv => whnf
    refine QuietV.str_h Tryd.underlying9 (by omega) (by omega) ?_
    rw [Int.toNat_natCast]
    conv => whnf
    refine CallS.mk Tryd.call10 ⟨[], _, _, Sub.refl _, fun F' hF' => sum_ok F' (a.extract 0 i) (sz a (by omega)), ?_⟩
    rw [ea]
    rintro e A' ⟨rfl, rfl⟩
    conv => whnf
    refine ⟨Sub.sel [0] rfl, ?_⟩
    conv => whnf
    refine QuietV.str_h Tryd.underlying9 (by omega) (by omega) ?_
    rw [Int.toNat_natCast]
    conv => whnf
    refine CallS.mk Tryd.call10 ⟨[], _, _, Sub.refl _, fun F' hF' => sum_ok F' (b.extract 0 i) (sz b hb), ?_⟩
    rw [eb]
    rintro e A' ⟨rfl, rfl⟩
    conv => whnf
    refine ⟨Sub.sel [0] rfl, ?_⟩
    conv => whnf
    rw [u32_xor_nat _ _ (extN_lt _ _) (extN_lt _ _)]
    refine QuietV.str_h Tryd.underlying9 (by omega) (by omega) ?_
    rw [Int.toNat_natCast]
    conv => whnf
    refine CallS.mk Tryd.call10 ⟨[], _, _, Sub.refl _, fun F' hF' => sum_ok F' (c.extract 0 i) (sz c hc), ?_⟩
    rw [ec]
    rintro e A' ⟨rfl, rfl⟩
    conv => whnf
    refine ⟨Sub.sel [0] rfl, ?_⟩
    conv => whnf
    have hml : (mixL (txt a) (txt b) (txt c) i).length = i := mixL_length _ _ _ _ (by omega) (by omega) (by omega)
    have hmix : extN 0 ((txt a).take i) ^^^ extN 0 ((txt b).take i) ^^^ extN 0 ((txt c).take i) ^^^ extN 0 (mixL (txt a) (txt b) (txt c) i) = 0 := extN_mix (fun x hx => txt_lt a x (List.mem_of_mem_take hx)) (fun x hx => txt_lt b x (List.mem_of_mem_take hx)) (fun x hx => txt_lt c x (List.mem_of_mem_take hx)) (by simp; omega) (by simp; omega)
    have hmt : txt (strB (mixL (txt a) (txt b) (txt c) i)) = mixL (txt a) (txt b) (txt c) i := txt_strB (mix_lt a b c i)
    have hms : (strB (mixL (txt a) (txt b) (txt c) i)).size ≤ 9223372036854775807 := by rw [strB_size]; omega
    rw [u32_xor_nat _ _ (Nat.xor_lt_two_pow (n := 32) (extN_lt _ _) (extN_lt _ _)) (extN_lt _ _)]
    refine quiet_text hml hg.1 ?_
    generalize strB (mixL (txt a) (txt b) (txt c) i) = d at hmt hms ⊢
    conv => whnf
    refine CallS.mk Tryd.call10 ⟨[], _, _, Sub.refl _, fun F' hF' => sum_ok F' d hms, ?_⟩
    rw [hmt]
    rintro e A' ⟨rfl, rfl⟩
    conv => whnf
    refine ⟨Sub.sel [0] rfl, ?_⟩
    conv => whnf
    rw [u32_xor_nat _ _ (Nat.xor_lt_two_pow (n := 32) (Nat.xor_lt_two_pow (n := 32) (extN_lt _ _) (extN_lt _ _)) (extN_lt _ _)) (extN_lt _ _), hmix]
    conv => whnf
    repeat (first | (refine LoadV.s rfl rfl (forceV_of ?_); conv => whnf) | (refine LoadV.s rfl rfl ?_; conv => whnf) | (refine StoreV.c rfl rfl (Nat.le_of_ble_eq_true rfl) rfl ?_; conv => whnf) | (refine LoadV.a _ rfl (Nat.le_of_ble_eq_true rfl) ?_; conv => whnf) | (refine DrawI.quiet (by kernel_rfl) (by kernel_rfl) ?_; conv => whnf) | (refine ArI.in64 (by omega) ?_; conv => whnf) | (refine ArI.inU8 (by omega) ?_; conv => whnf) | (refine ArI.inU64 (by omega) ?_; conv => whnf) | (refine ArI.inU32 (by omega) ?_; conv => whnf) | (refine RetI.one Tryd.results4 rfl ?_; conv => whnf) | (refine RetI.two Tryd.results4 rfl rfl ?_; conv => whnf) | (refine RetI.three Tryd.results4 rfl rfl rfl ?_; conv => whnf) | (refine RetI.none Tryd.results4 ?_; conv => whnf) | (refine ⟨by first | decide | omega, ?_⟩; conv => whnf))
    exact ⟨_, Sub.sel [] rfl, rfl, rfl⟩
end Go.Proofs.YtigbpmiemlejaaaDoor
