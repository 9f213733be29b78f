/- The bits, by the reference: texts, the reader. -/
import Derived.Test.YtlbdnkkaacccoaaBits4
namespace Go.Proofs.Ytlbdnkkaacccoaa
set_option linter.unusedVariables false
set_option linter.unusedSimpArgs false
set_option maxRecDepth 100000
open SL Go.RowKit Go.Maps

theorem num_replicate (l : List Bool) (k : Nat) : num (l ++ List.replicate k false) = num l * 2 ^ k := by
  rw [num_append, List.length_replicate]
  have : num (List.replicate k false) = 0 := num_zero.2 fun b hb => (List.mem_replicate.1 hb).2
  omega
/-- Eight bits from a place on; noughts fill them up. -/
def eight (B : List Bool) (q : Nat) : List Bool := (B.drop (8 * q)).take 8 ++ List.replicate (8 - ((B.drop (8 * q)).take 8).length) false
theorem eight_length (B : List Bool) (q : Nat) : (eight B q).length = 8 := by simp [eight]; omega
theorem eight_num (B : List Bool) (q : Nat) : num (eight B q) = byteOf B q := by unfold eight byteOf; exact num_replicate _ _
theorem eight_at (B : List Bool) (q j : Nat) (hj : j < 8) : (eight B q)[j]'(by rw [eight_length]; exact hj) = if h : 8 * q + j < B.length then B[8 * q + j] else false := by
  unfold eight
  split
  · rename_i h
    rw [List.getElem_append_left (by simp; omega)]
    simp
  · rename_i h
    rw [List.getElem_append_right (by simp; omega)]
    simp
theorem bitN_at (B : List Bool) (i : Nat) (h : i < B.length) : (bytesV (bitN B))[i]? = some (.int .u8 (B[i].toNat : Int)) := by simp [h]
theorem toNat_le1 (b : Bool) : b.toNat ≤ 1 := by cases b <;> simp
theorem rBytes_ok (F : Mem) (oa : Option Addr) (ca : Nat) (B : List Bool) (hw : SlF F 1 oa B.length (bytesV (bitN B))) (hB : B.length ≤ 70368744177664) :
    FT Try.prog 65 [.slice oa B.length ca].toArray F [] (Ret (.string (strB (packB B)))) := by
  refine FT.of_body Try.func65 rfl Try.ntmps65 (by simp) fun C hC => ?_
  subst hC
  conv => whnf
  refine LoopI.by_state (σ := Nat × Option (Nat × Nat)) (fun x => [(0, .slice oa B.length ca), (3, svOf x.2 x.1), (4, .int .i64 ((8 * x.1 : Nat) : Int))]) (fun x => [.own (svOf x.2 x.1) x.1 5 1 (bytesV ((List.range x.1).map (byteOf B)))])
    (fun x => 8 * x.1 ≤ B.length + 7 ∧ (x.2 = none ↔ x.1 = 0)) (fun x => B.length + 8 - 8 * x.1) (0, none) ⟨by omega, by simp⟩ ⟨rfl, rfl, rfl, trivial⟩ (Sub.nil 5 1) ?_
  rintro ⟨q, g⟩ f0 ⟨hq, hg⟩
  dsimp only at hq hg ⊢
  conv => whnf
  refine cond_dec (fun h => ?_) (fun h => ?_)
  · have hql : 8 * q < B.length := by omega
    conv => whnf
    refine LoopI.by_state (σ := Nat) (fun j => [(0, .slice oa B.length ca), (3, svOf g q), (4, .int .i64 ((8 * q : Nat) : Int)), (5, .int .u8 ((num ((eight B q).take j) : Nat) : Int)), (6, .int .i64 (j : Int))]) (fun _ => [.own (svOf g q) q 5 1 (bytesV ((List.range q).map (byteOf B)))])
      (fun j => j ≤ 8) (fun j => 8 - j) 0 (by omega) ⟨rfl, rfl, rfl, rfl, rfl, trivial⟩ (Sub.refl _) ?_
    intro j f1 hj
    conv => whnf
    refine cond_dec (fun h2 => ?_) (fun h2 => ?_)
    · have hj8 : j < 8 := by omega
      have hsn := take_snoc (l := eight B q) (i := j) (by rw [eight_length]; exact hj8)
      have hnl := num_lt ((eight B q).take j)
      have hpw : 2 ^ ((eight B q).take j).length ≤ 2 ^ 7 := Nat.pow_le_pow_right (by decide) (by rw [List.length_take]; omega)
      have hnum : num ((eight B q).take (j + 1)) = 2 * num ((eight B q).take j) + ((eight B q)[j]'(by rw [eight_length]; exact hj8)).toNat := by rw [hsn, num_snoc]
      rw [eight_at B q j hj8] at hnum
      generalize hx : num ((eight B q).take j) = x at hnl hnum ⊢
      conv => whnf
      refine ArI.toU8 ((2 * x : Nat) : Int) (by omega) (by omega) ?_
      conv => whnf
      repeat (first | (refine LoadV.s rfl rfl (forceV_of ?_); conv => whnf) | (refine LoadV.s rfl rfl ?_; conv => whnf) | (refine StoreV.c rfl rfl (Nat.le_of_ble_eq_true rfl) rfl ?_; conv => whnf) | (refine LoadV.a _ rfl (Nat.le_of_ble_eq_true rfl) ?_; conv => whnf) | (refine DrawI.quiet (by kernel_rfl) (by kernel_rfl) ?_; conv => whnf) | (refine ArI.in64 (by omega) ?_; conv => whnf) | (refine ArI.inU8 (by omega) ?_; conv => whnf) | (refine ArI.inU64 (by omega) ?_; conv => whnf) | (refine ArI.inU32 (by omega) ?_; conv => whnf) | (refine RetI.one Try.results65 rfl ?_; conv => whnf) | (refine RetI.two Try.results65 rfl rfl ?_; conv => whnf) | (refine RetI.three Try.results65 rfl rfl rfl ?_; conv => whnf) | (refine RetI.none Try.results65 ?_; conv => whnf) | (refine ⟨by first | decide | omega, ?_⟩; conv => whnf))
      refine cond_dec (fun h3 => ?_) (fun h3 => ?_)
      · have hlt : 8 * q + j < B.length := by omega
        rw [dif_pos hlt] at hnum
        have hb1 := toNat_le1 (B[8 * q + j])
        obtain ⟨xa, ya, rfl, hra⟩ := hw.at (i := 0) (by omega)
        conv => whnf
        refine ArI.to64 ((8 * q + j : Nat) : Int) (by omega) (by omega) ?_
        conv => whnf
        refine ⟨by omega, ?_⟩
        conv => whnf
        refine LoadV.f (hra (8 * q + j) _ (bitN_at B _ hlt)) rfl ?_
        conv => whnf
        refine ArI.toU8 ((2 * x + (B[8 * q + j]).toNat : Nat) : Int) (by omega) (by omega) ?_
        conv => whnf
        refine ArI.to64 ((j + 1 : Nat) : Int) (by omega) (by omega) ?_
        conv => whnf
        exact ⟨j + 1, _, by omega, Sub.refl _, by omega, ⟨rfl, rfl, rfl, by rw [hnum]; rfl, rfl, trivial⟩, rfl⟩
      · have hlt : ¬ 8 * q + j < B.length := by omega
        rw [dif_neg hlt] at hnum
        conv => whnf
        refine ArI.to64 ((j + 1 : Nat) : Int) (by omega) (by omega) ?_
        conv => whnf
        exact ⟨j + 1, _, by omega, Sub.refl _, by omega, ⟨rfl, rfl, rfl, by rw [hnum]; rfl, rfl, trivial⟩, rfl⟩
    · obtain rfl : j = 8 := by omega
      have he : num ((eight B q).take 8) = byteOf B q := by rw [List.take_of_length_le (by rw [eight_length]; omega), eight_num]
      rw [he]
      conv => whnf
      intro b2
      conv => whnf
      refine BuiltV.append (sv := svOf g q) (m := 1) Try.underlying48 rfl rfl rfl rfl (by decide) (Row.cells 1) rfl (by decide) rfl (by show (q + 1) * 1 ≤ _; omega) (by omega) fun gb gc => ?_
      conv => whnf
      refine ArI.to64 ((8 * (q + 1) : Nat) : Int) (by omega) (by omega) ?_
      conv => whnf
      refine ⟨(q + 1, some (gb, gc)), _, by dsimp only; omega, Sub.sel [1] rfl, ⟨by dsimp only; omega, by simp⟩, ⟨rfl, rfl, rfl, trivial⟩, ?_⟩
      dsimp only
      have e : bytesV ((List.range (q + 1)).map (byteOf B)) = bytesV ((List.range q).map (byteOf B)) ++ [.int .u8 (byteOf B q : Int)] := by rw [List.range_succ]; simp
      rw [e]; rfl
  · have hq2 : q = (B.length + 7) / 8 := by omega
    have hpk : (List.range q).map (byteOf B) = packB B := by rw [hq2]; rfl
    rw [hpk]
    have hlen : (packB B).length = q := by rw [packB_length, hq2]
    cases g with
    | none =>
      have hq0 : q = 0 := hg.1 rfl
      subst hq0
      conv => whnf
      refine DoV.nil_string Try.underlying48 Try.underlying5 Try.underlying9 ?_
      conv => whnf
      repeat (first | (refine LoadV.s rfl rfl (forceV_of ?_); conv => whnf) | (refine LoadV.s rfl rfl ?_; conv => whnf) | (refine StoreV.c rfl rfl (Nat.le_of_ble_eq_true rfl) rfl ?_; conv => whnf) | (refine LoadV.a _ rfl (Nat.le_of_ble_eq_true rfl) ?_; conv => whnf) | (refine DrawI.quiet (by kernel_rfl) (by kernel_rfl) ?_; conv => whnf) | (refine ArI.in64 (by omega) ?_; conv => whnf) | (refine ArI.inU8 (by omega) ?_; conv => whnf) | (refine ArI.inU64 (by omega) ?_; conv => whnf) | (refine ArI.inU32 (by omega) ?_; conv => whnf) | (refine RetI.one Try.results65 rfl ?_; conv => whnf) | (refine RetI.two Try.results65 rfl rfl ?_; conv => whnf) | (refine RetI.three Try.results65 rfl rfl rfl ?_; conv => whnf) | (refine RetI.none Try.results65 ?_; conv => whnf) | (refine ⟨by first | decide | omega, ?_⟩; conv => whnf))
      exact ⟨_, Sub.sel [] rfl, ret_str (by rw [List.eq_nil_of_length_eq_zero hlen]; rfl), rfl⟩
    | some p =>
      obtain ⟨b, cap⟩ := p
      conv => whnf
      refine DoV.bytes_string (l := packB B) Try.underlying48 Try.underlying5 Try.underlying9 hlen (by
        have := Row.own (C := C) (H := [.own (.slice (some ⟨b, 0, none⟩) q cap) q 5 1 (bytesV (packB B))]) (b := b) (o := 0) q
        rwa [List.drop_zero, List.take_of_length_le (by simp [hlen])] at this) ?_
      conv => whnf
      repeat (first | (refine LoadV.s rfl rfl (forceV_of ?_); conv => whnf) | (refine LoadV.s rfl rfl ?_; conv => whnf) | (refine StoreV.c rfl rfl (Nat.le_of_ble_eq_true rfl) rfl ?_; conv => whnf) | (refine LoadV.a _ rfl (Nat.le_of_ble_eq_true rfl) ?_; conv => whnf) | (refine DrawI.quiet (by kernel_rfl) (by kernel_rfl) ?_; conv => whnf) | (refine ArI.in64 (by omega) ?_; conv => whnf) | (refine ArI.inU8 (by omega) ?_; conv => whnf) | (refine ArI.inU64 (by omega) ?_; conv => whnf) | (refine ArI.inU32 (by omega) ?_; conv => whnf) | (refine RetI.one Try.results65 rfl ?_; conv => whnf) | (refine RetI.two Try.results65 rfl rfl ?_; conv => whnf) | (refine RetI.three Try.results65 rfl rfl rfl ?_; conv => whnf) | (refine RetI.none Try.results65 ?_; conv => whnf) | (refine ⟨by first | decide | omega, ?_⟩; conv => whnf))
      exact ⟨_, Sub.sel [] rfl, rfl, rfl⟩
theorem rem2_u8 (V : Nat) : (V : Int).tmod 2 = ((V % 2 : Nat) : Int) := rem2_u64 V
theorem eight_put (m y : Nat) (R : List Nat) : putAt (bytesV (List.replicate (m + 1) 0 ++ R)) (0 + m) [.int .u8 (y : Int)] = bytesV (List.replicate m 0 ++ (y :: R)) := by
  unfold putAt
  rw [Nat.zero_add, List.replicate_succ']
  simp [List.drop_append]
theorem rBits_ok (F : Mem) (s : ByteArray) (hs : s.size ≤ 4398046511104) : FT Try.prog 72 [.string s].toArray F []
    (fun e H => ∃ g, (g = none ↔ textBits (txt s) = []) ∧ e = .returned (svOf g (textBits (txt s)).length) ∧ H = [bitO g (textBits (txt s))]) := by
  refine FT.of_body Try.func72 rfl Try.ntmps72 (by simp) fun C hC => ?_
  subst hC
  conv => whnf
  refine LoopI.by_state (σ := Nat × Option (Nat × Nat)) (fun x => [(0, .string s), (3, svOf x.2 (textBits ((txt s).take x.1)).length), (4, .int .i64 (x.1 : Int))]) (fun x => [bitO x.2 (textBits ((txt s).take x.1))])
    (fun x => x.1 ≤ s.size ∧ (x.2 = none ↔ textBits ((txt s).take x.1) = [])) (fun x => s.size - x.1) (0, none) ⟨by omega, by simp [textBits]⟩ ⟨rfl, by rw [List.take_zero]; rfl, rfl, trivial⟩ (by simp only [List.take_zero]; exact Sub.nil 5 1) ?_
  rintro ⟨i, g⟩ f0 ⟨hi, hg⟩
  dsimp only at hi hg ⊢
  conv => whnf
  refine cond_dec (fun h => ?_) (fun h => ?_)
  · have hil : i < (txt s).length := by rw [txt_length]; omega
    have htk := take_snoc hil
    have hx := txt_lt s _ (List.getElem_mem hil)
    have hl1 : (textBits ((txt s).take i)).length ≤ 8 * s.size := by rw [textBits_length, List.length_take, txt_length]; omega
    conv => whnf
    refine ⟨by omega, ?_⟩
    rw [byteAt_txt s i hil]
    generalize (txt s)[i] = x at htk hx ⊢
    generalize hB : textBits ((txt s).take i) = B at hg hl1 ⊢
    conv => whnf
    intro b
    conv => whnf
    refine LoopI.by_state (σ := Nat) (fun m => [(0, .string s), (3, svOf g B.length), (4, .int .i64 (i : Int)), (5, .int .u8 ((x / 2 ^ (8 - m) : Nat) : Int)), (6, .pointer (some ⟨b, 0, none⟩)), (7, .int .i64 ((m : Int) - 1))]) (fun m => [.cells b (bytesV (List.replicate m 0 ++ bitN (bitsOf (8 - m) x))) 139 (0, 0), bitO g B])
      (fun m => m ≤ 8) (fun m => m) 8 (Nat.le_refl _) ⟨rfl, rfl, rfl, by rw [Nat.sub_self, Nat.pow_zero, Nat.div_one]; rfl, rfl, rfl, trivial⟩ (Sub.refl _) ?_
    intro m f1 hm
    conv => whnf
    refine cond_dec (fun h2 => ?_) (fun h2 => ?_)
    · obtain ⟨k, rfl⟩ : ∃ k, m = k + 1 := ⟨m - 1, by omega⟩
      have hxk : x / 2 ^ (8 - (k + 1)) < 256 := Nat.lt_of_le_of_lt (Nat.div_le_self _ _) hx
      conv => whnf
      refine ⟨⟨rfl, by decide⟩, ?_⟩
      conv => whnf
      rw [rem2_u8, show ((k + 1 : Nat) : Int) - 1 = (k : Int) by omega]
      refine ⟨by omega, ?_⟩
      conv => whnf
      refine StoreV.c (l := bytesV (List.replicate (k + 1) 0 ++ bitN (bitsOf (8 - (k + 1)) x))) rfl rfl (by show 0 + k + 1 ≤ _; simp) rfl ?_
      rw [show (Value.int IntKind.u8 ((x / 2 ^ (8 - (k + 1)) % 2 : Nat) : Int)).cells.toList = [.int .u8 ((x / 2 ^ (8 - (k + 1)) % 2 : Nat) : Int)] from rfl]
      rw [show elemOff 0 (k : Int) (Try.prog.types[5]'(by decide)).size = 0 + k from rfl, eight_put]
      conv => whnf
      refine ⟨⟨rfl, by decide⟩, ?_⟩
      refine ArI.mk _ (quo2_u8 _ hxk) ?_
      conv => whnf
      refine ArI.to64 ((k : Int) - 1) (by omega) (by omega) ?_
      conv => whnf
      refine ⟨k, _, by omega, Sub.refl _, by omega, ⟨rfl, rfl, rfl, ?_, rfl, rfl, trivial⟩, ?_⟩
      · rw [show 8 - k = 8 - (k + 1) + 1 by omega, ← div_pow_succ]; rfl
      · rw [show 8 - k = 8 - (k + 1) + 1 by omega, bitsOf_cons]
        simp only [bitN, List.map_cons, testBit_toNat]
    · obtain rfl : m = 0 := by omega
      conv => whnf
      refine DoV.slice_arr Try.underlying139 rfl ?_
      conv => whnf
      refine BuiltV.append (sv := svOf g B.length) (m := 8) (sz := 1) Try.underlying48 rfl rfl rfl rfl (by decide) (Row.cells (l := bytesV (bitN (bitsOf 8 x))) 8) rfl (by decide) rfl (by show (B.length + 8) * 1 ≤ _; omega) (by omega) fun gb gc => ?_
      conv => whnf
      refine ArI.to64 ((i + 1 : Nat) : Int) (by omega) (by omega) ?_
      conv => whnf
      have hnew : textBits ((txt s).take (i + 1)) = B ++ bitsOf 8 x := by rw [htk, textBits_append, hB]; simp [textBits]
      refine ⟨(i + 1, some (gb, gc)), _, by dsimp only; omega, Sub.sel [1] rfl, ⟨by dsimp only; omega, by dsimp only; rw [hnew]; simp; intro _ e; have := congrArg List.length e; simp [bitsOf_length] at this⟩, ⟨rfl, ?_, rfl, trivial⟩, ?_⟩
      · dsimp only; rw [hnew, List.length_append, bitsOf_length]; rfl
      · dsimp only
        have e2 : (List.drop 0 (bytesV (bitN (bitsOf 8 x)))).take 8 = bytesV (bitN (bitsOf 8 x)) := by rw [List.drop_zero, List.take_of_length_le (by simp [bitsOf_length])]
        rw [hnew, e2]
        simp only [bitO, bitN, List.length_append, bitsOf_length, List.map_append]
  · obtain rfl : i = s.size := by omega
    have hfull : (txt s).take s.size = txt s := List.take_of_length_le (by rw [txt_length]; exact Nat.le_refl _)
    rw [hfull] at hg ⊢
    conv => whnf
    repeat (first | (refine LoadV.s rfl rfl (forceV_of ?_); conv => whnf) | (refine LoadV.s rfl rfl ?_; conv => whnf) | (refine StoreV.c rfl rfl (Nat.le_of_ble_eq_true rfl) rfl ?_; conv => whnf) | (refine LoadV.a _ rfl (Nat.le_of_ble_eq_true rfl) ?_; conv => whnf) | (refine DrawI.quiet (by kernel_rfl) (by kernel_rfl) ?_; conv => whnf) | (refine ArI.in64 (by omega) ?_; conv => whnf) | (refine ArI.inU8 (by omega) ?_; conv => whnf) | (refine ArI.inU64 (by omega) ?_; conv => whnf) | (refine ArI.inU32 (by omega) ?_; conv => whnf) | (refine RetI.one Try.results72 rfl ?_; conv => whnf) | (refine RetI.two Try.results72 rfl rfl ?_; conv => whnf) | (refine RetI.three Try.results72 rfl rfl rfl ?_; conv => whnf) | (refine RetI.none Try.results72 ?_; conv => whnf) | (refine ⟨by first | decide | omega, ?_⟩; conv => whnf))
    exact ⟨_, Sub.refl _, g, hg, rfl, rfl⟩
/-- The reference's reader. -/
abbrev r3H (r : Nat) (g : Option (Nat × Nat)) (T : List Bool) (n : Int) : Heap := [.cells r [svOf g T.length, .int .i64 n] 126 (0, 0), bitO g T]
theorem rRead_ok (F : Mem) (s : ByteArray) (hs : s.size ≤ 4398046511104) : FT Try.prog 49 [.string s].toArray F []
    (fun e H => ∃ r g, (g = none ↔ textBits (txt s) = []) ∧ e = .returned (.pointer (some ⟨r, 0, none⟩)) ∧ H = r3H r g (textBits (txt s)) 0) := by
  refine FT.of_body Try.func49 rfl Try.ntmps49 (by simp) fun C hC => ?_
  subst hC
  conv => whnf
  refine CallS.mk Try.call72 ⟨[], _, _, Sub.refl _, fun F' hF' => rBits_ok F' s hs, ?_⟩
  rintro e A' ⟨g, hg, rfl, rfl⟩
  conv => whnf
  intro r
  conv => whnf
  repeat (first | (refine LoadV.s rfl rfl (forceV_of ?_); conv => whnf) | (refine LoadV.s rfl rfl ?_; conv => whnf) | (refine StoreV.c rfl rfl (Nat.le_of_ble_eq_true rfl) rfl ?_; conv => whnf) | (refine LoadV.a _ rfl (Nat.le_of_ble_eq_true rfl) ?_; conv => whnf) | (refine DrawI.quiet (by kernel_rfl) (by kernel_rfl) ?_; conv => whnf) | (refine ArI.in64 (by omega) ?_; conv => whnf) | (refine ArI.inU8 (by omega) ?_; conv => whnf) | (refine ArI.inU64 (by omega) ?_; conv => whnf) | (refine ArI.inU32 (by omega) ?_; conv => whnf) | (refine RetI.one Try.results49 rfl ?_; conv => whnf) | (refine RetI.two Try.results49 rfl rfl ?_; conv => whnf) | (refine RetI.three Try.results49 rfl rfl rfl ?_; conv => whnf) | (refine RetI.none Try.results49 ?_; conv => whnf) | (refine ⟨by first | decide | omega, ?_⟩; conv => whnf))
  exact ⟨_, Sub.refl _, r, g, hg, rfl, rfl⟩
theorem rTake_ok (F : Mem) (r n : Nat) (g : Option (Nat × Nat)) (T : List Bool) (width : Int) (hg : g = none ↔ T = []) (hT : T.length ≤ 35184372088832) (hn : n ≤ T.length) :
    FT Try.prog 89 [.pointer (some ⟨r, 0, none⟩), .int .i64 width].toArray F (r3H r g T n)
    (fun e H => e = .returned (.tuple #[.int .u64 ((takeB T n width).1 : Nat), .int .i64 (takeB T n width).2.1]) ∧ H = r3H r g T ((takeB T n width).2.2 : Nat)) := by
  refine FT.of_body Try.func89 rfl Try.ntmps89 (by simp) fun C hC => ?_
  subst hC
  conv => whnf
  have bad : ¬ takeOk T n width → takeB T n width = (0, 6, n) := takeB_no
  repeat (first | (refine LoadV.s rfl rfl (forceV_of ?_); conv => whnf) | (refine LoadV.s rfl rfl ?_; conv => whnf) | (refine StoreV.c rfl rfl (Nat.le_of_ble_eq_true rfl) rfl ?_; conv => whnf) | (refine LoadV.a _ rfl (Nat.le_of_ble_eq_true rfl) ?_; conv => whnf) | (refine DrawI.quiet (by kernel_rfl) (by kernel_rfl) ?_; conv => whnf) | (refine ArI.in64 (by omega) ?_; conv => whnf) | (refine ArI.inU8 (by omega) ?_; conv => whnf) | (refine ArI.inU64 (by omega) ?_; conv => whnf) | (refine ArI.inU32 (by omega) ?_; conv => whnf) | (refine RetI.one Try.results89 rfl ?_; conv => whnf) | (refine RetI.two Try.results89 rfl rfl ?_; conv => whnf) | (refine RetI.three Try.results89 rfl rfl rfl ?_; conv => whnf) | (refine RetI.none Try.results89 ?_; conv => whnf) | (refine ⟨by first | decide | omega, ?_⟩; conv => whnf))
  refine cond_dec (fun h1 => ?_) (fun h1 => ?_)
  · rw [bad (by unfold takeOk; omega)]
    conv => whnf
    repeat (first | (refine LoadV.s rfl rfl (forceV_of ?_); conv => whnf) | (refine LoadV.s rfl rfl ?_; conv => whnf) | (refine StoreV.c rfl rfl (Nat.le_of_ble_eq_true rfl) rfl ?_; conv => whnf) | (refine LoadV.a _ rfl (Nat.le_of_ble_eq_true rfl) ?_; conv => whnf) | (refine DrawI.quiet (by kernel_rfl) (by kernel_rfl) ?_; conv => whnf) | (refine ArI.in64 (by omega) ?_; conv => whnf) | (refine ArI.inU8 (by omega) ?_; conv => whnf) | (refine ArI.inU64 (by omega) ?_; conv => whnf) | (refine ArI.inU32 (by omega) ?_; conv => whnf) | (refine RetI.one Try.results89 rfl ?_; conv => whnf) | (refine RetI.two Try.results89 rfl rfl ?_; conv => whnf) | (refine RetI.three Try.results89 rfl rfl rfl ?_; conv => whnf) | (refine RetI.none Try.results89 ?_; conv => whnf) | (refine ⟨by first | decide | omega, ?_⟩; conv => whnf))
    exact ⟨_, Sub.refl _, rfl, rfl⟩
  conv => whnf
  refine cond_dec (fun h2 => ?_) (fun h2 => ?_)
  · rw [bad (by unfold takeOk; omega)]
    conv => whnf
    repeat (first | (refine LoadV.s rfl rfl (forceV_of ?_); conv => whnf) | (refine LoadV.s rfl rfl ?_; conv => whnf) | (refine StoreV.c rfl rfl (Nat.le_of_ble_eq_true rfl) rfl ?_; conv => whnf) | (refine LoadV.a _ rfl (Nat.le_of_ble_eq_true rfl) ?_; conv => whnf) | (refine DrawI.quiet (by kernel_rfl) (by kernel_rfl) ?_; conv => whnf) | (refine ArI.in64 (by omega) ?_; conv => whnf) | (refine ArI.inU8 (by omega) ?_; conv => whnf) | (refine ArI.inU64 (by omega) ?_; conv => whnf) | (refine ArI.inU32 (by omega) ?_; conv => whnf) | (refine RetI.one Try.results89 rfl ?_; conv => whnf) | (refine RetI.two Try.results89 rfl rfl ?_; conv => whnf) | (refine RetI.three Try.results89 rfl rfl rfl ?_; conv => whnf) | (refine RetI.none Try.results89 ?_; conv => whnf) | (refine ⟨by first | decide | omega, ?_⟩; conv => whnf))
    exact ⟨_, Sub.refl _, rfl, rfl⟩
  conv => whnf
  repeat (first | (refine LoadV.s rfl rfl (forceV_of ?_); conv => whnf) | (refine LoadV.s rfl rfl ?_; conv => whnf) | (refine StoreV.c rfl rfl (Nat.le_of_ble_eq_true rfl) rfl ?_; conv => whnf) | (refine LoadV.a _ rfl (Nat.le_of_ble_eq_true rfl) ?_; conv => whnf) | (refine DrawI.quiet (by kernel_rfl) (by kernel_rfl) ?_; conv => whnf) | (refine ArI.in64 (by omega) ?_; conv => whnf) | (refine ArI.inU8 (by omega) ?_; conv => whnf) | (refine ArI.inU64 (by omega) ?_; conv => whnf) | (refine ArI.inU32 (by omega) ?_; conv => whnf) | (refine RetI.one Try.results89 rfl ?_; conv => whnf) | (refine RetI.two Try.results89 rfl rfl ?_; conv => whnf) | (refine RetI.three Try.results89 rfl rfl rfl ?_; conv => whnf) | (refine RetI.none Try.results89 ?_; conv => whnf) | (refine ⟨by first | decide | omega, ?_⟩; conv => whnf))
  refine cond_dec (fun h3 => ?_) (fun h3 => ?_)
  · rw [bad (by unfold takeOk; omega)]
    conv => whnf
    repeat (first | (refine LoadV.s rfl rfl (forceV_of ?_); conv => whnf) | (refine LoadV.s rfl rfl ?_; conv => whnf) | (refine StoreV.c rfl rfl (Nat.le_of_ble_eq_true rfl) rfl ?_; conv => whnf) | (refine LoadV.a _ rfl (Nat.le_of_ble_eq_true rfl) ?_; conv => whnf) | (refine DrawI.quiet (by kernel_rfl) (by kernel_rfl) ?_; conv => whnf) | (refine ArI.in64 (by omega) ?_; conv => whnf) | (refine ArI.inU8 (by omega) ?_; conv => whnf) | (refine ArI.inU64 (by omega) ?_; conv => whnf) | (refine ArI.inU32 (by omega) ?_; conv => whnf) | (refine RetI.one Try.results89 rfl ?_; conv => whnf) | (refine RetI.two Try.results89 rfl rfl ?_; conv => whnf) | (refine RetI.three Try.results89 rfl rfl rfl ?_; conv => whnf) | (refine RetI.none Try.results89 ?_; conv => whnf) | (refine ⟨by first | decide | omega, ?_⟩; conv => whnf))
    exact ⟨_, Sub.refl _, rfl, rfl⟩
  obtain ⟨W, rfl⟩ := Int.eq_ofNat_of_zero_le (show 0 ≤ width by omega)
  have hok : takeOk T n (W : Int) := by unfold takeOk; rw [Int.toNat_natCast]; omega
  rw [takeB_ok hok]
  unfold takeOk at hok
  simp only [Int.toNat_natCast] at hok ⊢
  obtain ⟨b, c, rfl⟩ := gsome hg (by intro e; subst e; simp at hok; omega)
  conv => whnf
  refine LoopI.by_state (σ := Nat) (fun i => [(0, .pointer (some ⟨r, 0, none⟩)), (1, .int .i64 (W : Int)), (6, .int .u64 ((num ((T.drop n).take i) : Nat) : Int)), (7, .int .i64 (i : Int))]) (fun i => r3H r (some (b, c)) T ((n + i : Nat) : Int))
    (fun i => i ≤ W) (fun i => W - i) 0 (Nat.zero_le _) ⟨rfl, rfl, by rw [List.take_zero]; rfl, rfl, trivial⟩ (Sub.refl _) ?_
  intro i f0 hi
  conv => whnf
  refine cond_dec (fun h => ?_) (fun h => ?_)
  · have hlt : n + i < T.length := by omega
    have hsn : (T.drop n).take (i + 1) = (T.drop n).take i ++ [T[n + i]] := by
      rw [take_snoc (by rw [List.length_drop]; omega), List.getElem_drop]
    have hnl := num_lt ((T.drop n).take i)
    have hpw : 2 ^ ((T.drop n).take i).length ≤ 2 ^ 63 := Nat.pow_le_pow_right (by decide) (by rw [List.length_take]; omega)
    have hnum : num ((T.drop n).take (i + 1)) = 2 * num ((T.drop n).take i) + (T[n + i]).toNat := by rw [hsn, num_snoc]
    have hb1 := toNat_le1 T[n + i]
    generalize num ((T.drop n).take i) = x at hnl hnum ⊢
    conv => whnf
    repeat (first | (refine LoadV.s rfl rfl (forceV_of ?_); conv => whnf) | (refine LoadV.s rfl rfl ?_; conv => whnf) | (refine StoreV.c rfl rfl (Nat.le_of_ble_eq_true rfl) rfl ?_; conv => whnf) | (refine LoadV.a _ rfl (Nat.le_of_ble_eq_true rfl) ?_; conv => whnf) | (refine DrawI.quiet (by kernel_rfl) (by kernel_rfl) ?_; conv => whnf) | (refine RetI.one Try.results89 rfl ?_; conv => whnf) | (refine RetI.two Try.results89 rfl rfl ?_; conv => whnf) | (refine RetI.three Try.results89 rfl rfl rfl ?_; conv => whnf) | (refine RetI.none Try.results89 ?_; conv => whnf) | (refine ⟨by first | decide | omega, ?_⟩; conv => whnf))
    refine ArI.toU64 ((2 * x : Nat) : Int) (by omega) (by omega) ?_
    conv => whnf
    repeat (first | (refine LoadV.s rfl rfl (forceV_of ?_); conv => whnf) | (refine LoadV.s rfl rfl ?_; conv => whnf) | (refine StoreV.c rfl rfl (Nat.le_of_ble_eq_true rfl) rfl ?_; conv => whnf) | (refine LoadV.a _ rfl (Nat.le_of_ble_eq_true rfl) ?_; conv => whnf) | (refine DrawI.quiet (by kernel_rfl) (by kernel_rfl) ?_; conv => whnf) | (refine RetI.one Try.results89 rfl ?_; conv => whnf) | (refine RetI.two Try.results89 rfl rfl ?_; conv => whnf) | (refine RetI.three Try.results89 rfl rfl rfl ?_; conv => whnf) | (refine RetI.none Try.results89 ?_; conv => whnf) | (refine ⟨by first | decide | omega, ?_⟩; conv => whnf))
    refine LoadV.os (off := elemOff 0 ((n + i : Nat) : Int) 1) rfl (v := .int .u8 (T[n + i].toNat : Int)) (by show (bytesV (bitN T))[0 + (n + i)]? = _; rw [Nat.zero_add]; exact bitN_at T _ hlt) ?_
    conv => whnf
    repeat (first | (refine LoadV.s rfl rfl (forceV_of ?_); conv => whnf) | (refine LoadV.s rfl rfl ?_; conv => whnf) | (refine StoreV.c rfl rfl (Nat.le_of_ble_eq_true rfl) rfl ?_; conv => whnf) | (refine LoadV.a _ rfl (Nat.le_of_ble_eq_true rfl) ?_; conv => whnf) | (refine DrawI.quiet (by kernel_rfl) (by kernel_rfl) ?_; conv => whnf) | (refine RetI.one Try.results89 rfl ?_; conv => whnf) | (refine RetI.two Try.results89 rfl rfl ?_; conv => whnf) | (refine RetI.three Try.results89 rfl rfl rfl ?_; conv => whnf) | (refine RetI.none Try.results89 ?_; conv => whnf) | (refine ⟨by first | decide | omega, ?_⟩; conv => whnf))
    refine ArI.inU64 (by omega) ?_
    conv => whnf
    refine ArI.toU64 ((2 * x + (T[n + i]).toNat : Nat) : Int) (by omega) (by omega) ?_
    conv => whnf
    repeat (first | (refine LoadV.s rfl rfl (forceV_of ?_); conv => whnf) | (refine LoadV.s rfl rfl ?_; conv => whnf) | (refine StoreV.c rfl rfl (Nat.le_of_ble_eq_true rfl) rfl ?_; conv => whnf) | (refine LoadV.a _ rfl (Nat.le_of_ble_eq_true rfl) ?_; conv => whnf) | (refine DrawI.quiet (by kernel_rfl) (by kernel_rfl) ?_; conv => whnf) | (refine RetI.one Try.results89 rfl ?_; conv => whnf) | (refine RetI.two Try.results89 rfl rfl ?_; conv => whnf) | (refine RetI.three Try.results89 rfl rfl rfl ?_; conv => whnf) | (refine RetI.none Try.results89 ?_; conv => whnf) | (refine ⟨by first | decide | omega, ?_⟩; conv => whnf))
    refine ArI.to64 ((n + (i + 1) : Nat) : Int) (by omega) (by omega) ?_
    conv => whnf
    repeat (first | (refine LoadV.s rfl rfl (forceV_of ?_); conv => whnf) | (refine LoadV.s rfl rfl ?_; conv => whnf) | (refine StoreV.c rfl rfl (Nat.le_of_ble_eq_true rfl) rfl ?_; conv => whnf) | (refine LoadV.a _ rfl (Nat.le_of_ble_eq_true rfl) ?_; conv => whnf) | (refine DrawI.quiet (by kernel_rfl) (by kernel_rfl) ?_; conv => whnf) | (refine RetI.one Try.results89 rfl ?_; conv => whnf) | (refine RetI.two Try.results89 rfl rfl ?_; conv => whnf) | (refine RetI.three Try.results89 rfl rfl rfl ?_; conv => whnf) | (refine RetI.none Try.results89 ?_; conv => whnf) | (refine ⟨by first | decide | omega, ?_⟩; conv => whnf))
    refine ArI.to64 ((i + 1 : Nat) : Int) (by omega) (by omega) ?_
    conv => whnf
    exact ⟨i + 1, _, by omega, Sub.refl _, by omega, ⟨rfl, rfl, by rw [hnum]; rfl, rfl, trivial⟩, rfl⟩
  · obtain rfl : i = W := by omega
    conv => whnf
    repeat (first | (refine LoadV.s rfl rfl (forceV_of ?_); conv => whnf) | (refine LoadV.s rfl rfl ?_; conv => whnf) | (refine StoreV.c rfl rfl (Nat.le_of_ble_eq_true rfl) rfl ?_; conv => whnf) | (refine LoadV.a _ rfl (Nat.le_of_ble_eq_true rfl) ?_; conv => whnf) | (refine DrawI.quiet (by kernel_rfl) (by kernel_rfl) ?_; conv => whnf) | (refine ArI.in64 (by omega) ?_; conv => whnf) | (refine ArI.inU8 (by omega) ?_; conv => whnf) | (refine ArI.inU64 (by omega) ?_; conv => whnf) | (refine ArI.inU32 (by omega) ?_; conv => whnf) | (refine RetI.one Try.results89 rfl ?_; conv => whnf) | (refine RetI.two Try.results89 rfl rfl ?_; conv => whnf) | (refine RetI.three Try.results89 rfl rfl rfl ?_; conv => whnf) | (refine RetI.none Try.results89 ?_; conv => whnf) | (refine ⟨by first | decide | omega, ?_⟩; conv => whnf))
    exact ⟨_, Sub.refl _, rfl, rfl⟩
end Go.Proofs.Ytlbdnkkaacccoaa
