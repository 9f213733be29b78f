/- A frame's blocks, written. -/
import Derived.Test.YtphnpchblkpjhaaFrame1
import Derived.Test.YtphnpchblkpjhaaBitsLaw2
import Derived.Test.YtphnpchblkpjhaaRep
namespace Go.Proofs.Ytphnpchblkpjhaa
set_option linter.unusedVariables false
set_option linter.unusedSimpArgs false
set_option maxRecDepth 100000
open SL Go.RowKit Go.Maps

def headF (sq pt ps n : Nat) : List (Nat × Int) := [(sq, 16), (pt, 8), (ps, 8), (n, 8)]
def headL (sq pt ps n : Nat) : List Nat := [sq / 256, sq % 256, pt, ps, n]
theorem headL_lt {sq pt ps n : Nat} (h0 : sq < 65536) (h1 : pt < 256) (h2 : ps < 256) (h3 : n < 256) : ∀ x ∈ headL sq pt ps n, x < 256 := by
  intro x hx
  simp only [headL, List.mem_cons, List.not_mem_nil, or_false] at hx
  omega
theorem bits_two (x : Nat) : bitsOf 16 x = bitsOf 8 (x / 256) ++ bitsOf 8 (x % 256) := by
  have := bitsOf_add 8 8 x
  rw [this, show x % 256 = x % 2 ^ 8 from rfl, bitsOf_mod (Nat.le_refl 8)]
theorem head_bits (sq pt ps n : Nat) : fieldsBits (headF sq pt ps n) = textBits (headL sq pt ps n) := by
  show bitsOf 16 sq ++ (bitsOf 8 pt ++ (bitsOf 8 ps ++ (bitsOf 8 n ++ []))) = bitsOf 8 (sq / 256) ++ (bitsOf 8 (sq % 256) ++ (bitsOf 8 pt ++ (bitsOf 8 ps ++ (bitsOf 8 n ++ []))))
  rw [bits_two, List.append_assoc]
theorem head_fit {sq pt ps n : Nat} (h0 : sq < 65536) (h1 : pt < 256) (h2 : ps < 256) (h3 : n < 256) : allFit (headF sq pt ps n) = true := by
  simp [headF, allFit, fitsB]
  exact ⟨decide_eq_true h0, decide_eq_true h1, decide_eq_true h2, decide_eq_true h3⟩
theorem head_pack {sq pt ps n : Nat} (h0 : sq < 65536) (h1 : pt < 256) (h2 : ps < 256) (h3 : n < 256) : packR (headF sq pt ps n) = (strB (headL sq pt ps n), 0) := by
  rw [packR, if_pos (head_fit h0 h1 h2 h3), head_bits, packB_textBits _ (headL_lt h0 h1 h2 h3)]
theorem pack_lit (F : Mem) (oa : Option Addr) (n ca : Nat) (fs : List (Nat × Int)) (hn0 : n = fs.length) (hw : SlF F 2 oa n (fs.flatMap fldF)) (hu : U64s fs) (hn : n ≤ 549755813887) {x0 : ByteArray} {er : Int} (h : packR fs = (x0, er)) :
    FT Try.prog 27 [.slice oa n ca].toArray F [] (fun e H => ∃ x, x = x0 ∧ e = .returned (.tuple #[.string x, .int .i64 er]) ∧ H = []) := by
  subst hn0
  have := bPack_ok F oa ca fs hw hu hn
  rw [h] at this
  exact this.mono fun e H ⟨h1, h2⟩ => ⟨x0, rfl, h1, h2⟩
/-- A block's first 28 bytes. -/
def bodyL (sq pt ps : Nat) (d : ByteArray) : List Nat := headL sq pt ps d.size ++ txt d ++ List.replicate (23 - d.size) 0
def blockL (sq pt ps : Nat) (d : ByteArray) : List Nat := bodyL sq pt ps d ++ bytesN (extN 0 (bodyL sq pt ps d))
theorem bodyL_length {sq pt ps : Nat} {d : ByteArray} (h : d.size ≤ 23) : (bodyL sq pt ps d).length = 28 := by
  have := txt_length d
  simp [bodyL, headL]; omega
theorem bodyL_lt {sq pt ps : Nat} {d : ByteArray} (h0 : sq < 65536) (h1 : pt < 256) (h2 : ps < 256) (h : d.size ≤ 23) : ∀ x ∈ bodyL sq pt ps d, x < 256 := by
  intro x hx
  rcases List.mem_append.1 hx with hx | hx
  · rcases List.mem_append.1 hx with hx | hx
    · exact headL_lt h0 h1 h2 (by omega) x hx
    · exact txt_lt d x hx
  · rw [(List.mem_replicate.1 hx).2]; decide
/-- What a block is. -/
def blockR (sq pt ps : Int) (d : ByteArray) : ByteArray × Int := if rightB sq pt ps d.size = true then (strB (blockL sq.toNat pt.toNat ps.toNat d), 0) else (⟨#[]⟩, 7)
theorem bytesV_append (a b : List Nat) : bytesV (a ++ b) = bytesV a ++ bytesV b := List.map_append
/-- The bytes of a slice that owns its row, as a text. -/
theorem own_text {C : Ctx} {b c n T : Nat} {l : List Nat} {KV : Value → Prop} (hl : l.length = n) (k : KV (.string (strB l))) :
    QuietV C Try.prog [.own (svOf (some (b, c)) n) n T 1 (bytesV l)] (convert 42 9 (svOf (some (b, c)) n)) KV := by
  refine QuietV.bytes_string (l := l) Try.underlying42 Try.underlying5 Try.underlying9 hl ?_ k
  have := Row.own (C := C) (H := [.own (svOf (some (b, c)) n) n T 1 (bytesV l)]) (b := b) (o := 0) l.length
  rwa [List.drop_zero, List.take_of_length_le (by simp)] at this
theorem quo_i64 (n k c : Nat) (hn : n ≤ 9223372036854775807) (h : n / k = c) : IntKind.i64.wrap ((n : Int).tdiv (k : Int)) = (c : Int) := by
  rw [Int.tdiv_eq_ediv_of_nonneg (by omega), ← Int.natCast_ediv, h]
  exact IntWalk.i64_in _ (by have := Nat.div_le_self n k; omega)
theorem block_ok (F : Mem) (sq pt ps : Int) (d : ByteArray) : FT Try.prog 17 [pieceV sq pt ps d].toArray F [] (Ret (.tuple #[.string (blockR sq pt ps d).1, .int .i64 (blockR sq pt ps d).2])) := by
  refine FT.of_body Try.func17 rfl Try.ntmps17 (by simp) fun C hC => ?_
  subst hC
  conv => whnf
  intro b
  conv => whnf
  repeat (first | (refine LoadV.s rfl rfl (forceV_of ?_); conv => whnf) | (refine LoadV.s rfl rfl ?_; conv => whnf) | (refine StoreV.c rfl rfl (Nat.le_of_ble_eq_true rfl) rfl ?_; conv => whnf) | (refine LoadV.a _ rfl (Nat.le_of_ble_eq_true rfl) ?_; conv => whnf) | (refine DrawI.quiet (by kernel_rfl) (by kernel_rfl) ?_; conv => whnf) | (refine ArI.in64 (by omega) ?_; conv => whnf) | (refine ArI.inU8 (by omega) ?_; conv => whnf) | (refine ArI.inU64 (by omega) ?_; conv => whnf) | (refine ArI.inU32 (by omega) ?_; conv => whnf) | (refine RetI.one Try.results17 rfl ?_; conv => whnf) | (refine RetI.two Try.results17 rfl rfl ?_; conv => whnf) | (refine RetI.three Try.results17 rfl rfl rfl ?_; conv => whnf) | (refine RetI.none Try.results17 ?_; conv => whnf) | (refine ⟨by first | decide | omega, ?_⟩; conv => whnf))
  refine CallS.mk Try.call23 ⟨[], _, _, Sub.refl _, fun F' hF' => right_ok F' sq pt ps d, ?_⟩
  rintro e A' ⟨rfl, rfl⟩
  cases hb : rightB sq pt ps d.size with
  | false =>
    conv => whnf
    repeat (first | (refine LoadV.s rfl rfl (forceV_of ?_); conv => whnf) | (refine LoadV.s rfl rfl ?_; conv => whnf) | (refine StoreV.c rfl rfl (Nat.le_of_ble_eq_true rfl) rfl ?_; conv => whnf) | (refine LoadV.a _ rfl (Nat.le_of_ble_eq_true rfl) ?_; conv => whnf) | (refine DrawI.quiet (by kernel_rfl) (by kernel_rfl) ?_; conv => whnf) | (refine ArI.in64 (by omega) ?_; conv => whnf) | (refine ArI.inU8 (by omega) ?_; conv => whnf) | (refine ArI.inU64 (by omega) ?_; conv => whnf) | (refine ArI.inU32 (by omega) ?_; conv => whnf) | (refine RetI.one Try.results17 rfl ?_; conv => whnf) | (refine RetI.two Try.results17 rfl rfl ?_; conv => whnf) | (refine RetI.three Try.results17 rfl rfl rfl ?_; conv => whnf) | (refine RetI.none Try.results17 ?_; conv => whnf) | (refine ⟨by first | decide | omega, ?_⟩; conv => whnf))
    exact ⟨_, Sub.sel [] rfl, by rw [blockR, if_neg (by rw [hb]; simp)], rfl⟩
  | true =>
    have hR : RightP sq pt ps d.size := of_decide_eq_true hb
    have hbr : blockR sq pt ps d = (strB (blockL sq.toNat pt.toNat ps.toNat d), 0) := by rw [blockR, if_pos hb]
    rw [hbr]
    clear hbr hb
    unfold RightP at hR
    obtain ⟨x, rfl⟩ := Int.eq_ofNat_of_zero_le (show 0 ≤ sq by omega)
    obtain ⟨y, rfl⟩ := Int.eq_ofNat_of_zero_le (show 0 ≤ pt by omega)
    obtain ⟨z, rfl⟩ := Int.eq_ofNat_of_zero_le (show 0 ≤ ps by omega)
    obtain ⟨n, hn⟩ : ∃ n, n = d.size := ⟨_, rfl⟩
    rw [Int.toNat_natCast, Int.toNat_natCast, Int.toNat_natCast]
    conv => whnf
    repeat (first | (refine LoadV.s rfl rfl (forceV_of ?_); conv => whnf) | (refine LoadV.s rfl rfl ?_; conv => whnf) | (refine StoreV.c rfl rfl (Nat.le_of_ble_eq_true rfl) rfl ?_; conv => whnf) | (refine LoadV.a _ rfl (Nat.le_of_ble_eq_true rfl) ?_; conv => whnf) | (refine DrawI.quiet (by kernel_rfl) (by kernel_rfl) ?_; conv => whnf) | (refine ArI.in64 (by omega) ?_; conv => whnf) | (refine ArI.inU8 (by omega) ?_; conv => whnf) | (refine ArI.inU64 (by omega) ?_; conv => whnf) | (refine ArI.inU32 (by omega) ?_; conv => whnf) | (refine RetI.one Try.results17 rfl ?_; conv => whnf) | (refine RetI.two Try.results17 rfl rfl ?_; conv => whnf) | (refine RetI.three Try.results17 rfl rfl rfl ?_; conv => whnf) | (refine RetI.none Try.results17 ?_; conv => whnf) | (refine ⟨by first | decide | omega, ?_⟩; conv => whnf))
    intro b2
    conv => whnf
    refine CallS.mk Try.call27 ⟨[], _, _, Sub.refl _, fun F' hF' => pack_lit F' (some ⟨b2, 0, none⟩) 4 4 (headF x y z d.size) rfl (SlF.cells hF' rfl) (by intro p hp; simp [headF] at hp; rcases hp with rfl | rfl | rfl | rfl <;> dsimp only <;> omega) (by decide) (head_pack (by omega) (by omega) (by omega) (by omega)), ?_⟩
    rintro e A' ⟨f, hf, rfl, rfl⟩
    have hfs : f.size = 5 := by rw [hf, strB_size]; rfl
    conv => whnf
    have hd : d.size ≤ 23 := by omega
    refine DrawI.mixed [8] [_] (by kernel_rfl) (by kernel_rfl) (by kernel_rfl) (by kernel_rfl) (by kernel_rfl) (Sub.sel [1] rfl) ?_
    conv => whnf
    refine LoadV.s rfl rfl ?_
    conv => whnf
    refine ⟨by omega, ?_⟩
    conv => whnf
    refine LoadV.s rfl rfl ?_
    conv => whnf
    refine ArI.to64 ((23 - d.size : Nat) : Int) (by omega) (by omega) ?_
    conv => whnf
    refine CallS.mk Try.call28 ⟨[], _, _, Sub.refl _, fun F' hF' => (repeat_ok F' 0 (23 - d.size) (by omega)), ?_⟩
    rintro e A' ⟨rfl, rfl⟩
    conv => whnf
    refine ⟨Sub.sel [1] rfl, ?_⟩
    conv => whnf
    have hbl := bodyL_length (sq := x) (pt := y) (ps := z) hd
    have hblt := bodyL_lt (sq := x) (pt := y) (ps := z) (d := d) (by omega) (by omega) (by omega) hd
    have hB : f ++ d ++ strB (List.replicate (23 - d.size) 0) = strB (bodyL x y z d) := by
      rw [hf]; conv => lhs; rw [← strB_txt d]
      rw [strB_append, strB_append]
      simp only [strB_txt]; rfl
    refine ⟨by rw [ByteArray.size_append, strB_size, hfs]; simp; omega, ?_⟩
    rw [hB]
    have hbs : (strB (bodyL x y z d)).size = 28 := by rw [strB_size, hbl]
    have hbt : txt (strB (bodyL x y z d)) = bodyL x y z d := txt_strB hblt
    have hres : strB (bodyL x y z d) ++ strB (bytesN (extN 0 (bodyL x y z d))) = strB (blockL x y z d) := strB_append _ _
    generalize strB (bodyL x y z d) = B at hbs hbt hres ⊢
    conv => whnf
    refine CallS.mk Try.call30 ⟨[], _, _, Sub.refl _, fun F' hF' => sum_ok F' B (by omega), ?_⟩
    rw [hbt]
    rintro e A' ⟨rfl, rfl⟩
    conv => whnf
    refine CallS.mk Try.call29 ⟨[], _, _, Sub.refl _, fun F' hF' => bytes_ok F' _ (extN_lt _ _), ?_⟩
    rintro e A' ⟨rfl, rfl⟩
    conv => whnf
    refine ⟨by rw [hbs, strB_size]; show 28 + 4 ≤ _; decide, ?_⟩
    rw [hres]
    conv => whnf
    repeat (first | (refine LoadV.s rfl rfl (forceV_of ?_); conv => whnf) | (refine LoadV.s rfl rfl ?_; conv => whnf) | (refine StoreV.c rfl rfl (Nat.le_of_ble_eq_true rfl) rfl ?_; conv => whnf) | (refine LoadV.a _ rfl (Nat.le_of_ble_eq_true rfl) ?_; conv => whnf) | (refine DrawI.quiet (by kernel_rfl) (by kernel_rfl) ?_; conv => whnf) | (refine ArI.in64 (by omega) ?_; conv => whnf) | (refine ArI.inU8 (by omega) ?_; conv => whnf) | (refine ArI.inU64 (by omega) ?_; conv => whnf) | (refine ArI.inU32 (by omega) ?_; conv => whnf) | (refine RetI.one Try.results17 rfl ?_; conv => whnf) | (refine RetI.two Try.results17 rfl rfl ?_; conv => whnf) | (refine RetI.three Try.results17 rfl rfl rfl ?_; conv => whnf) | (refine RetI.none Try.results17 ?_; conv => whnf) | (refine ⟨by first | decide | omega, ?_⟩; conv => whnf))
    exact ⟨_, Sub.sel [] rfl, rfl, rfl⟩
theorem rblock_ok (F : Mem) (sq pt ps : Int) (d : ByteArray) : FT Try.prog 18 [pieceV sq pt ps d].toArray F [] (Ret (.tuple #[.string (blockR sq pt ps d).1, .int .i64 (blockR sq pt ps d).2])) := by
  refine FT.of_body Try.func18 rfl Try.ntmps18 (by simp) fun C hC => ?_
  subst hC
  conv => whnf
  intro b
  conv => whnf
  repeat (first | (refine LoadV.s rfl rfl (forceV_of ?_); conv => whnf) | (refine LoadV.s rfl rfl ?_; conv => whnf) | (refine StoreV.c rfl rfl (Nat.le_of_ble_eq_true rfl) rfl ?_; conv => whnf) | (refine LoadV.a _ rfl (Nat.le_of_ble_eq_true rfl) ?_; conv => whnf) | (refine DrawI.quiet (by kernel_rfl) (by kernel_rfl) ?_; conv => whnf) | (refine ArI.in64 (by omega) ?_; conv => whnf) | (refine ArI.inU8 (by omega) ?_; conv => whnf) | (refine ArI.inU64 (by omega) ?_; conv => whnf) | (refine ArI.inU32 (by omega) ?_; conv => whnf) | (refine RetI.one Try.results18 rfl ?_; conv => whnf) | (refine RetI.two Try.results18 rfl rfl ?_; conv => whnf) | (refine RetI.three Try.results18 rfl rfl rfl ?_; conv => whnf) | (refine RetI.none Try.results18 ?_; conv => whnf) | (refine ⟨by first | decide | omega, ?_⟩; conv => whnf))
  refine CallS.mk Try.call26 ⟨[], _, _, Sub.refl _, fun F' hF' => rright_ok F' sq pt ps d, ?_⟩
  rintro e A' ⟨rfl, rfl⟩
  cases hb : rightB sq pt ps d.size with
  | false =>
    conv => whnf
    repeat (first | (refine LoadV.s rfl rfl (forceV_of ?_); conv => whnf) | (refine LoadV.s rfl rfl ?_; conv => whnf) | (refine StoreV.c rfl rfl (Nat.le_of_ble_eq_true rfl) rfl ?_; conv => whnf) | (refine LoadV.a _ rfl (Nat.le_of_ble_eq_true rfl) ?_; conv => whnf) | (refine DrawI.quiet (by kernel_rfl) (by kernel_rfl) ?_; conv => whnf) | (refine ArI.in64 (by omega) ?_; conv => whnf) | (refine ArI.inU8 (by omega) ?_; conv => whnf) | (refine ArI.inU64 (by omega) ?_; conv => whnf) | (refine ArI.inU32 (by omega) ?_; conv => whnf) | (refine RetI.one Try.results18 rfl ?_; conv => whnf) | (refine RetI.two Try.results18 rfl rfl ?_; conv => whnf) | (refine RetI.three Try.results18 rfl rfl rfl ?_; conv => whnf) | (refine RetI.none Try.results18 ?_; conv => whnf) | (refine ⟨by first | decide | omega, ?_⟩; conv => whnf))
    exact ⟨_, Sub.sel [] rfl, by rw [blockR, if_neg (by rw [hb]; simp)], rfl⟩
  | true =>
    have hR : RightP sq pt ps d.size := of_decide_eq_true hb
    have hbr : blockR sq pt ps d = (strB (blockL sq.toNat pt.toNat ps.toNat d), 0) := by rw [blockR, if_pos hb]
    rw [hbr]
    clear hbr hb
    unfold RightP at hR
    obtain ⟨x, rfl⟩ := Int.eq_ofNat_of_zero_le (show 0 ≤ sq by omega)
    obtain ⟨y, rfl⟩ := Int.eq_ofNat_of_zero_le (show 0 ≤ pt by omega)
    obtain ⟨z, rfl⟩ := Int.eq_ofNat_of_zero_le (show 0 ≤ ps by omega)
    rw [Int.toNat_natCast, Int.toNat_natCast, Int.toNat_natCast]
    conv => whnf
    refine LoadV.s rfl rfl ?_
    conv => whnf
    refine ⟨⟨rfl, by decide⟩, ?_⟩
    refine ArI.mk ((x / 256 : Nat) : Int) (quo_i64 x 256 _ (by omega) rfl) ?_
    conv => whnf
    refine ArI.mk ((x / 256 : Nat) : Int) (u8_nat _ _ (by omega)) ?_
    conv => whnf
    refine LoadV.s rfl rfl ?_
    conv => whnf
    refine ⟨⟨rfl, by decide⟩, ?_⟩
    conv => whnf
    refine ArI.mk ((x % 256 : Nat) : Int) (mod_u8 x 256 _ (by omega)) ?_
    conv => whnf
    refine LoadV.s rfl rfl ?_
    conv => whnf
    refine ArI.mk (y : Int) (u8_nat _ _ (by omega)) ?_
    conv => whnf
    refine LoadV.s rfl rfl ?_
    conv => whnf
    refine ArI.mk (z : Int) (u8_nat _ _ (by omega)) ?_
    conv => whnf
    refine LoadV.s rfl rfl ?_
    conv => whnf
    refine ArI.mk (d.size : Int) (u8_nat _ _ (by omega)) ?_
    conv => whnf
    intro b2
    conv => whnf
    refine LoadV.s rfl rfl ?_
    conv => whnf
    have hl := txt_length d
    refine BuiltV.sub (Sub.own (n := 5) (sz := 1) rfl (by decide)) ?_
    refine BuiltV.append_str (g := some (b2, 5)) (n := 5) Try.underlying42 Try.underlying9 rfl rfl rfl rfl (by omega) fun g hg => ?_
    obtain ⟨gb, gc, rfl⟩ : ∃ b c, g = some (b, c) := by
      cases g with
      | none => exact absurd (hg.1 rfl).1 (by simp)
      | some p => exact ⟨p.1, p.2, rfl⟩
    conv => whnf
    refine LoopI.by_state (σ := (Nat × Nat) × Nat) (fun s => [(4, svOf (some s.1) s.2)]) (fun s => [.own (svOf (some s.1) s.2) s.2 5 1 (bytesV (headL x y z d.size ++ txt d ++ List.replicate (s.2 - (5 + d.size)) 0))])
      (fun s => 5 + d.size ≤ s.2 ∧ s.2 ≤ 28) (fun s => 28 - s.2) ((gb, gc), 5 + d.size) ⟨by dsimp only; omega, by dsimp only; omega⟩ ⟨rfl, trivial⟩ (by
        have e : bytesV (headL x y z d.size ++ txt d ++ List.replicate (5 + d.size - (5 + d.size)) 0) = [.int .u8 (x / 256 : Nat), .int .u8 (x % 256 : Nat), .int .u8 (y : Nat), .int .u8 (z : Nat), .int .u8 (d.size : Nat)] ++ bytesV (txt d) := by
          rw [Nat.sub_self, List.replicate_zero, List.append_nil, bytesV_append]; rfl
        rw [e]; exact Sub.sel [0] rfl) ?_
    rintro ⟨⟨gb, gc⟩, n⟩ f0 ⟨hn0, hn⟩
    dsimp only at hn0 hn ⊢
    conv => whnf
    refine cond_dec (fun h => ?_) (fun h => ?_)
    · conv => whnf
      intro b3
      conv => whnf
      refine BuiltV.append (sv := svOf (some (gb, gc)) n) (m := 1) Try.underlying42 rfl rfl rfl rfl (by decide) (Row.cells 1) rfl (by decide) rfl (by show (n + 1) * 1 ≤ _; omega) (by omega) fun g2 c2 => ?_
      conv => whnf
      refine ⟨((g2, c2), n + 1), _, by dsimp only; omega, Sub.sel [1] rfl, ⟨by dsimp only; omega, by dsimp only; omega⟩, ⟨rfl, trivial⟩, ?_⟩
      dsimp only
      rw [show n + 1 - (5 + d.size) = (n - (5 + d.size)) + 1 by omega, List.replicate_succ']
      rw [← List.append_assoc, bytesV_append (headL x y z d.size ++ txt d ++ List.replicate (n - (5 + d.size)) 0)]
      rfl
    · obtain rfl : n = 28 := by omega
      have hd : d.size ≤ 23 := by omega
      have hbody : headL x y z d.size ++ txt d ++ List.replicate (28 - (5 + d.size)) 0 = bodyL x y z d := by rw [bodyL, show 28 - (5 + d.size) = 23 - d.size by omega]
      rw [hbody]
      have hbl := bodyL_length (sq := x) (pt := y) (ps := z) hd
      have hblt := bodyL_lt (sq := x) (pt := y) (ps := z) (d := d) (by omega) (by omega) (by omega) hd
      have hbs : (strB (bodyL x y z d)).size = 28 := by rw [strB_size, hbl]
      have hbt : txt (strB (bodyL x y z d)) = bodyL x y z d := txt_strB hblt
      have hres : strB (bodyL x y z d) ++ strB (bytesN (extN 0 (bodyL x y z d))) = strB (blockL x y z d) := strB_append _ _
      conv => whnf
      refine DrawI.mixed [4, 5] [_] (by kernel_rfl) (by kernel_rfl) (by kernel_rfl) (by kernel_rfl) (by kernel_rfl) (Sub.sel [0] rfl) ?_
      conv => whnf
      refine own_text hbl ?_
      conv => whnf
      refine own_text hbl ?_
      generalize strB (bodyL x y z d) = B at hbs hbt hres ⊢
      conv => whnf
      refine CallS.mk Try.call32 ⟨[], _, _, Sub.refl _, fun F' hF' => rsum_ok F' B (by omega), ?_⟩
      rw [hbt]
      rintro e A' ⟨rfl, rfl⟩
      conv => whnf
      refine ⟨Sub.sel [0] rfl, ?_⟩
      conv => whnf
      refine CallS.mk Try.call31 ⟨[], _, _, Sub.refl _, fun F' hF' => rbytes_ok F' _ (extN_lt _ _), ?_⟩
      rintro e A' ⟨rfl, rfl⟩
      conv => whnf
      refine ⟨Sub.sel [0] rfl, ?_⟩
      conv => whnf
      refine ⟨by rw [hbs, strB_size]; show 28 + 4 ≤ _; decide, ?_⟩
      rw [hres]
      conv => whnf
      repeat (first | (refine LoadV.s rfl rfl (forceV_of ?_); conv => whnf) | (refine LoadV.s rfl rfl ?_; conv => whnf) | (refine StoreV.c rfl rfl (Nat.le_of_ble_eq_true rfl) rfl ?_; conv => whnf) | (refine LoadV.a _ rfl (Nat.le_of_ble_eq_true rfl) ?_; conv => whnf) | (refine DrawI.quiet (by kernel_rfl) (by kernel_rfl) ?_; conv => whnf) | (refine ArI.in64 (by omega) ?_; conv => whnf) | (refine ArI.inU8 (by omega) ?_; conv => whnf) | (refine ArI.inU64 (by omega) ?_; conv => whnf) | (refine ArI.inU32 (by omega) ?_; conv => whnf) | (refine RetI.one Try.results18 rfl ?_; conv => whnf) | (refine RetI.two Try.results18 rfl rfl ?_; conv => whnf) | (refine RetI.three Try.results18 rfl rfl rfl ?_; conv => whnf) | (refine RetI.none Try.results18 ?_; conv => whnf) | (refine ⟨by first | decide | omega, ?_⟩; conv => whnf))
      exact ⟨_, Sub.sel [] rfl, rfl, rfl⟩
end Go.Proofs.Ytphnpchblkpjhaa
