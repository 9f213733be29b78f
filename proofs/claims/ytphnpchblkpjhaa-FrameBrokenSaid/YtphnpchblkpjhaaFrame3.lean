/- A frame's blocks, read. -/
import Derived.Test.YtphnpchblkpjhaaFrame2
namespace Go.Proofs.Ytphnpchblkpjhaa
set_option linter.unusedVariables false
set_option linter.unusedSimpArgs false
set_option maxRecDepth 100000
open SL Go.RowKit Go.Maps

/-- A byte of a text. -/
def byt (s : ByteArray) (i : Nat) : Nat := ((txt s)[i]?).getD 0
theorem byt_lt (s : ByteArray) (i : Nat) : byt s i < 256 := by
  unfold byt
  cases h : (txt s)[i]? with
  | none => decide
  | some x => exact txt_lt s x (List.mem_of_getElem? h)
theorem byt_at (s : ByteArray) (i : Nat) (h : i < s.size) : byteAt s (i : Int) = ((byt s i : Nat) : Int) := by
  have hl := txt_length s
  rw [byteAt_txt s i (by omega), byt, List.getElem?_eq_getElem (by omega)]; rfl
/-- The piece that a text tells of. -/
def rdSeq (s : ByteArray) : Nat := 256 * byt s 0 + byt s 1
def rdData (s : ByteArray) : ByteArray := s.extract 5 (5 + byt s 4)
def Taken (s : ByteArray) : Prop := s.size = 32 ∧ byt s 4 ≤ 23 ∧ blockR (rdSeq s : Nat) (byt s 2 : Nat) (byt s 3 : Nat) (rdData s) = (s, 0)
instance (s : ByteArray) : Decidable (Taken s) := by unfold Taken; infer_instance
def unbR (s : ByteArray) : (Nat × Nat × Nat × ByteArray) × Int := if Taken s then ((rdSeq s, byt s 2, byt s 3, rdData s), 0) else ((0, 0, 0, ⟨#[]⟩), 7)
abbrev unbV (r : (Nat × Nat × Nat × ByteArray) × Int) : Value := .tuple #[pieceV (r.1.1 : Int) (r.1.2.1 : Int) (r.1.2.2.1 : Int) r.1.2.2.2, .int .i64 r.2]
theorem unb_no {s : ByteArray} (h : ¬ Taken s) : unbR s = ((0, 0, 0, ⟨#[]⟩), 7) := if_neg h
theorem unb_yes {s : ByteArray} (h : Taken s) : unbR s = ((rdSeq s, byt s 2, byt s 3, rdData s), 0) := if_pos h
theorem runblock_ok (F : Mem) (s : ByteArray) (hs : s.size ≤ 9223372036854775807) : FT Try.prog 20 [.string s].toArray F [] (Ret (unbV (unbR s))) := by
  refine FT.of_body Try.func20 rfl Try.ntmps20 (by simp) fun C hC => ?_
  subst hC
  conv => whnf
  intro b
  conv => whnf
  refine cond_split (fun h => ?_) (fun h => ?_)
  · have h32 : ¬ s.size = 32 := by have := bne_iff_ne.1 h; omega
    conv => whnf
    repeat (first | (refine LoadV.s rfl rfl (forceV_of ?_); conv => whnf) | (refine LoadV.s rfl rfl ?_; conv => whnf) | (refine StoreV.c rfl rfl (Nat.le_of_ble_eq_true rfl) rfl ?_; conv => whnf) | (refine LoadV.a _ rfl (Nat.le_of_ble_eq_true rfl) ?_; conv => whnf) | (refine DrawI.quiet (by kernel_rfl) (by kernel_rfl) ?_; conv => whnf) | (refine ArI.in64 (by omega) ?_; conv => whnf) | (refine ArI.inU8 (by omega) ?_; conv => whnf) | (refine ArI.inU64 (by omega) ?_; conv => whnf) | (refine ArI.inU32 (by omega) ?_; conv => whnf) | (refine RetI.one Try.results20 rfl ?_; conv => whnf) | (refine RetI.two Try.results20 rfl rfl ?_; conv => whnf) | (refine RetI.three Try.results20 rfl rfl rfl ?_; conv => whnf) | (refine RetI.none Try.results20 ?_; conv => whnf) | (refine ⟨by first | decide | omega, ?_⟩; conv => whnf))
    refine RetI.cell_tmp Try.results20 rfl rfl ?_
    conv => whnf
    refine LoadV.a _ rfl (Nat.le_of_ble_eq_true rfl) ?_
    conv => whnf
    exact ⟨_, Sub.sel [] rfl, by rw [unb_no (fun k => h32 k.1)]; rfl, rfl⟩
  have h32 : s.size = 32 := by have := (bne_eq_false_iff_eq.1 h); omega
  conv => whnf
  refine ⟨by omega, forceV_of ?_⟩
  rw [show byteAt s 4 = ((byt s 4 : Nat) : Int) from byt_at s 4 (by omega)]
  have hl4 := byt_lt s 4
  conv => whnf
  refine cond_dec (fun h4 => ?_) (fun h4 => ?_)
  · have h23 : ¬ byt s 4 ≤ 23 := by omega
    conv => whnf
    repeat (first | (refine LoadV.s rfl rfl (forceV_of ?_); conv => whnf) | (refine LoadV.s rfl rfl ?_; conv => whnf) | (refine StoreV.c rfl rfl (Nat.le_of_ble_eq_true rfl) rfl ?_; conv => whnf) | (refine LoadV.a _ rfl (Nat.le_of_ble_eq_true rfl) ?_; conv => whnf) | (refine DrawI.quiet (by kernel_rfl) (by kernel_rfl) ?_; conv => whnf) | (refine ArI.in64 (by omega) ?_; conv => whnf) | (refine ArI.inU8 (by omega) ?_; conv => whnf) | (refine ArI.inU64 (by omega) ?_; conv => whnf) | (refine ArI.inU32 (by omega) ?_; conv => whnf) | (refine RetI.one Try.results20 rfl ?_; conv => whnf) | (refine RetI.two Try.results20 rfl rfl ?_; conv => whnf) | (refine RetI.three Try.results20 rfl rfl rfl ?_; conv => whnf) | (refine RetI.none Try.results20 ?_; conv => whnf) | (refine ⟨by first | decide | omega, ?_⟩; conv => whnf))
    refine RetI.cell_tmp Try.results20 rfl rfl ?_
    conv => whnf
    refine LoadV.a _ rfl (Nat.le_of_ble_eq_true rfl) ?_
    conv => whnf
    exact ⟨_, Sub.sel [] rfl, by rw [unb_no (fun k => h23 k.2.1)]; rfl, rfl⟩
  have h23 : byt s 4 ≤ 23 := by omega
  have l0 := byt_lt s 0
  have l1 := byt_lt s 1
  have l2 := byt_lt s 2
  have l3 := byt_lt s 3
  conv => whnf
  refine DrawI.mixed [21, 22] [] (by kernel_rfl) (by kernel_rfl) (by kernel_rfl) (by kernel_rfl) (by kernel_rfl) (Sub.sel [] rfl) ?_
  conv => whnf
  refine ⟨by omega, forceV_of ?_⟩
  rw [show byteAt s 0 = ((byt s 0 : Nat) : Int) from byt_at s 0 (by omega)]
  conv => whnf
  refine ArI.in64 (by omega) ?_
  conv => whnf
  refine ArI.to64 ((256 * byt s 0 : Nat) : Int) (by omega) (by omega) ?_
  conv => whnf
  refine ⟨by omega, forceV_of ?_⟩
  rw [show byteAt s 1 = ((byt s 1 : Nat) : Int) from byt_at s 1 (by omega)]
  conv => whnf
  refine ArI.in64 (by omega) ?_
  conv => whnf
  refine ArI.to64 ((rdSeq s : Nat) : Int) (by unfold rdSeq; omega) (by unfold rdSeq; omega) ?_
  conv => whnf
  refine ⟨by omega, forceV_of ?_⟩
  rw [show byteAt s 2 = ((byt s 2 : Nat) : Int) from byt_at s 2 (by omega)]
  conv => whnf
  refine ArI.in64 (by omega) ?_
  conv => whnf
  refine ⟨by omega, forceV_of ?_⟩
  rw [show byteAt s 3 = ((byt s 3 : Nat) : Int) from byt_at s 3 (by omega)]
  conv => whnf
  refine ArI.in64 (by omega) ?_
  conv => whnf
  refine ⟨by omega, forceV_of ?_⟩
  rw [show byteAt s 4 = ((byt s 4 : Nat) : Int) from byt_at s 4 (by omega)]
  conv => whnf
  refine ArI.in64 (by omega) ?_
  conv => whnf
  refine ArI.to64 ((5 + byt s 4 : Nat) : Int) (by omega) (by omega) ?_
  conv => whnf
  refine QuietV.str_lh Try.underlying9 (by omega) (by omega) (by omega) ?_
  rw [show s.extract (Int.toNat 5) (Int.toNat ((5 + byt s 4 : Nat) : Int)) = rdData s from rfl]
  conv => whnf
  intro b2
  conv => whnf
  refine ⟨Sub.sel [] rfl, ?_⟩
  conv => whnf
  refine StoreV.c rfl rfl (Nat.le_of_ble_eq_true rfl) rfl ?_
  conv => whnf
  refine ⟨Sub.sel [] rfl, ?_⟩
  conv => whnf
  repeat (first | (refine LoadV.s rfl rfl (forceV_of ?_); conv => whnf) | (refine LoadV.s rfl rfl ?_; conv => whnf) | (refine StoreV.c rfl rfl (Nat.le_of_ble_eq_true rfl) rfl ?_; conv => whnf) | (refine LoadV.a _ rfl (Nat.le_of_ble_eq_true rfl) ?_; conv => whnf) | (refine DrawI.quiet (by kernel_rfl) (by kernel_rfl) ?_; conv => whnf) | (refine ArI.in64 (by omega) ?_; conv => whnf) | (refine ArI.inU8 (by omega) ?_; conv => whnf) | (refine ArI.inU64 (by omega) ?_; conv => whnf) | (refine ArI.inU32 (by omega) ?_; conv => whnf) | (refine RetI.one Try.results20 rfl ?_; conv => whnf) | (refine RetI.two Try.results20 rfl rfl ?_; conv => whnf) | (refine RetI.three Try.results20 rfl rfl rfl ?_; conv => whnf) | (refine RetI.none Try.results20 ?_; conv => whnf) | (refine ⟨by first | decide | omega, ?_⟩; conv => whnf))
  refine CallS.mk Try.call18 ⟨[], _, _, Sub.refl _, fun F' hF' => rblock_ok F' (rdSeq s : Nat) (byt s 2 : Nat) (byt s 3 : Nat) (rdData s), ?_⟩
  have hT : Taken s ↔ blockR (rdSeq s : Nat) (byt s 2 : Nat) (byt s 3 : Nat) (rdData s) = (s, 0) := ⟨fun k => k.2.2, fun k => ⟨h32, h23, k⟩⟩
  generalize blockR (rdSeq s : Nat) (byt s 2 : Nat) (byt s 3 : Nat) (rdData s) = R at hT ⊢
  obtain ⟨x, er⟩ := R
  dsimp only
  rintro e A' ⟨rfl, rfl⟩
  conv => whnf
  refine cond_split (fun h5 => ?_) (fun h5 => ?_)
  · have hn : ¬ Taken s := fun k => by have := congrArg Prod.snd (hT.1 k); exact bne_iff_ne.1 h5 this
    conv => whnf
    refine StoreV.c rfl rfl (Nat.le_of_ble_eq_true rfl) rfl ?_
    conv => whnf
    refine RetI.cell_tmp Try.results20 rfl rfl ?_
    conv => whnf
    refine LoadV.a _ rfl (Nat.le_of_ble_eq_true rfl) ?_
    conv => whnf
    exact ⟨_, Sub.sel [] rfl, by rw [unb_no hn]; rfl, rfl⟩
  have her : er = 0 := bne_eq_false_iff_eq.1 h5
  conv => whnf
  rw [toList_beq]
  by_cases hx : x = s
  · have hy : Taken s := hT.2 (by rw [hx, her])
    rw [decide_eq_true hx]
    conv => whnf
    refine LoadV.a _ rfl (Nat.le_of_ble_eq_true rfl) ?_
    conv => whnf
    refine StoreV.c rfl rfl (Nat.le_of_ble_eq_true rfl) rfl ?_
    conv => whnf
    refine RetI.cell_tmp Try.results20 rfl rfl ?_
    conv => whnf
    refine LoadV.a _ rfl (Nat.le_of_ble_eq_true rfl) ?_
    conv => whnf
    exact ⟨_, Sub.sel [] rfl, by rw [unb_yes hy], rfl⟩
  · have hn : ¬ Taken s := fun k => hx (congrArg Prod.fst (hT.1 k))
    rw [decide_eq_false hx]
    conv => whnf
    refine StoreV.c rfl rfl (Nat.le_of_ble_eq_true rfl) rfl ?_
    conv => whnf
    refine RetI.cell_tmp Try.results20 rfl rfl ?_
    conv => whnf
    refine LoadV.a _ rfl (Nat.le_of_ble_eq_true rfl) ?_
    conv => whnf
    exact ⟨_, Sub.sel [] rfl, by rw [unb_no hn]; rfl, rfl⟩
theorem five {s : ByteArray} (h : s.size = 32) : txt (s.extract 0 5) = headL (rdSeq s) (byt s 2) (byt s 3) (byt s 4) := by
  have hl := txt_length s
  have l0 := byt_lt s 0
  have l1 := byt_lt s 1
  have hd : headL (rdSeq s) (byt s 2) (byt s 3) (byt s 4) = [byt s 0, byt s 1, byt s 2, byt s 3, byt s 4] := by
    rw [headL, show rdSeq s / 256 = byt s 0 by unfold rdSeq; omega, show rdSeq s % 256 = byt s 1 by unfold rdSeq; omega]
  rw [hd, txt_extract, List.drop_zero]
  apply List.ext_getElem?
  intro j
  rw [List.getElem?_take]
  match j with
  | 0 => simp [byt, List.getElem?_eq_getElem (show 0 < (txt s).length by omega)]
  | 1 => simp [byt, List.getElem?_eq_getElem (show 1 < (txt s).length by omega)]
  | 2 => simp [byt, List.getElem?_eq_getElem (show 2 < (txt s).length by omega)]
  | 3 => simp [byt, List.getElem?_eq_getElem (show 3 < (txt s).length by omega)]
  | 4 => simp [byt, List.getElem?_eq_getElem (show 4 < (txt s).length by omega)]
  | j + 5 => simp; omega
theorem five_unpack {s : ByteArray} (h : s.size = 32) : unpackR (unpackB (textBits (txt (s.extract 0 5))) [16, 8, 8, 8]) = ([rdSeq s, byt s 2, byt s 3, byt s 4], 0) := by
  have l0 := byt_lt s 0
  have l1 := byt_lt s 1
  have hq : rdSeq s < 65536 := by unfold rdSeq; omega
  have hf := head_fit hq (byt_lt s 2) (byt_lt s 3) (byt_lt s 4)
  have hu := unpack_pack hf
  rw [head_pack hq (byt_lt s 2) (byt_lt s 3) (byt_lt s 4)] at hu
  rw [five h]
  dsimp only at hu
  rw [txt_strB (headL_lt hq (byt_lt s 2) (byt_lt s 3) (byt_lt s 4))] at hu
  have hu' : unpackB (textBits (headL (rdSeq s) (byt s 2) (byt s 3) (byt s 4))) [16, 8, 8, 8] = some [rdSeq s, byt s 2, byt s 3, byt s 4] := hu
  rw [hu']; rfl
theorem unpack_lit (F : Mem) (oa : Option Addr) (n ca : Nat) (s : ByteArray) (ws : List Int) (hn0 : n = ws.length) (hw : SlF F 1 oa n (intsV ws)) (hs : s.size ≤ 140737488355328) (hn : n ≤ 1099511627776) {l : List Nat} {er : Int} (h : unpackR (unpackB (textBits (txt s)) ws) = (l, er)) :
    FT Try.prog 33 [.string s, .slice oa n ca].toArray F [] (fun e H => ∃ g, (g = none ↔ l = []) ∧ e = .returned (.tuple #[svOf g l.length, .int .i64 er]) ∧ H = [.own (svOf g l.length) l.length 60 1 (u64V l)]) := by
  subst hn0
  have := bUnpack_ok F oa ca s ws hw hs hn
  rw [h] at this
  exact this
theorem unblock_ok (F : Mem) (s : ByteArray) (hs : s.size ≤ 9223372036854775807) : FT Try.prog 19 [.string s].toArray F [] (Ret (unbV (unbR s))) := by
  refine FT.of_body Try.func19 rfl Try.ntmps19 (by simp) fun C hC => ?_
  subst hC
  conv => whnf
  intro b
  conv => whnf
  refine cond_split (fun h => ?_) (fun h => ?_)
  · have h32 : ¬ s.size = 32 := by have := bne_iff_ne.1 h; omega
    conv => whnf
    repeat (first | (refine LoadV.s rfl rfl (forceV_of ?_); conv => whnf) | (refine LoadV.s rfl rfl ?_; conv => whnf) | (refine StoreV.c rfl rfl (Nat.le_of_ble_eq_true rfl) rfl ?_; conv => whnf) | (refine LoadV.a _ rfl (Nat.le_of_ble_eq_true rfl) ?_; conv => whnf) | (refine DrawI.quiet (by kernel_rfl) (by kernel_rfl) ?_; conv => whnf) | (refine ArI.in64 (by omega) ?_; conv => whnf) | (refine ArI.inU8 (by omega) ?_; conv => whnf) | (refine ArI.inU64 (by omega) ?_; conv => whnf) | (refine ArI.inU32 (by omega) ?_; conv => whnf) | (refine RetI.one Try.results19 rfl ?_; conv => whnf) | (refine RetI.two Try.results19 rfl rfl ?_; conv => whnf) | (refine RetI.three Try.results19 rfl rfl rfl ?_; conv => whnf) | (refine RetI.none Try.results19 ?_; conv => whnf) | (refine ⟨by first | decide | omega, ?_⟩; conv => whnf))
    refine RetI.cell_tmp Try.results19 rfl rfl ?_
    conv => whnf
    refine LoadV.a _ rfl (Nat.le_of_ble_eq_true rfl) ?_
    conv => whnf
    exact ⟨_, Sub.sel [] rfl, by rw [unb_no (fun k => h32 k.1)]; rfl, rfl⟩
  have h32 : s.size = 32 := by have := (bne_eq_false_iff_eq.1 h); omega
  have hup := five_unpack h32
  have hsz : (s.extract 0 5).size = 5 := by rw [ByteArray.size_extract]; omega
  conv => whnf
  refine DoV.str_h Try.underlying9 (by omega) (by omega) ?_
  rw [show s.extract 0 (Int.toNat 5) = s.extract 0 5 from rfl]
  conv => whnf
  intro b2
  conv => whnf
  refine CallS.mk Try.call33 ⟨[], _, _, Sub.refl _, fun F' hF' => unpack_lit F' (some ⟨b2, 0, none⟩) 4 4 (s.extract 0 5) [16, 8, 8, 8] rfl (SlF.cells hF' rfl) (by omega) (by decide) hup, ?_⟩
  rintro e A' ⟨g, hg, rfl, rfl⟩
  obtain ⟨gb, gc, rfl⟩ := gsome hg (by simp)
  conv => whnf
  refine ⟨⟨by decide, by show (3 : Int) < ((4 : Nat) : Int); decide⟩, ?_⟩
  conv => whnf
  refine LoadV.os (v := .int .u64 (byt s 4 : Nat)) rfl rfl ?_
  conv => whnf
  have l0 := byt_lt s 0
  have l1 := byt_lt s 1
  have l2 := byt_lt s 2
  have l3 := byt_lt s 3
  have l4 := byt_lt s 4
  refine cond_dec (fun h4 => ?_) (fun h4 => ?_)
  · have h23 : ¬ byt s 4 ≤ 23 := by omega
    conv => whnf
    repeat (first | (refine LoadV.s rfl rfl (forceV_of ?_); conv => whnf) | (refine LoadV.s rfl rfl ?_; conv => whnf) | (refine StoreV.c rfl rfl (Nat.le_of_ble_eq_true rfl) rfl ?_; conv => whnf) | (refine LoadV.a _ rfl (Nat.le_of_ble_eq_true rfl) ?_; conv => whnf) | (refine DrawI.quiet (by kernel_rfl) (by kernel_rfl) ?_; conv => whnf) | (refine ArI.in64 (by omega) ?_; conv => whnf) | (refine ArI.inU8 (by omega) ?_; conv => whnf) | (refine ArI.inU64 (by omega) ?_; conv => whnf) | (refine ArI.inU32 (by omega) ?_; conv => whnf) | (refine RetI.one Try.results19 rfl ?_; conv => whnf) | (refine RetI.two Try.results19 rfl rfl ?_; conv => whnf) | (refine RetI.three Try.results19 rfl rfl rfl ?_; conv => whnf) | (refine RetI.none Try.results19 ?_; conv => whnf) | (refine ⟨by first | decide | omega, ?_⟩; conv => whnf))
    refine RetI.cell_tmp Try.results19 rfl rfl ?_
    conv => whnf
    refine LoadV.a _ rfl (Nat.le_of_ble_eq_true rfl) ?_
    conv => whnf
    exact ⟨_, Sub.sel [] rfl, by rw [unb_no (fun k => h23 k.2.1)]; rfl, rfl⟩
  have h23 : byt s 4 ≤ 23 := by omega
  have hq : rdSeq s < 65536 := by unfold rdSeq; omega
  conv => whnf
  refine DrawI.mixed [20, 21] [_] (by kernel_rfl) (by kernel_rfl) (by kernel_rfl) (by kernel_rfl) (by kernel_rfl) (Sub.sel [0] rfl) ?_
  conv => whnf
  refine ⟨⟨by decide, by show (0 : Int) < ((4 : Nat) : Int); decide⟩, ?_⟩
  conv => whnf
  refine LoadV.os (v := .int .u64 (rdSeq s : Nat)) rfl rfl ?_
  conv => whnf
  refine ArI.in64 (by omega) ?_
  conv => whnf
  refine ⟨⟨by decide, by show (1 : Int) < ((4 : Nat) : Int); decide⟩, ?_⟩
  conv => whnf
  refine LoadV.os (v := .int .u64 (byt s 2 : Nat)) rfl rfl ?_
  conv => whnf
  refine ArI.in64 (by omega) ?_
  conv => whnf
  refine ⟨⟨by decide, by show (2 : Int) < ((4 : Nat) : Int); decide⟩, ?_⟩
  conv => whnf
  refine LoadV.os (v := .int .u64 (byt s 3 : Nat)) rfl rfl ?_
  conv => whnf
  refine ArI.in64 (by omega) ?_
  conv => whnf
  refine ⟨⟨by decide, by show (3 : Int) < ((4 : Nat) : Int); decide⟩, ?_⟩
  conv => whnf
  refine LoadV.os (v := .int .u64 (byt s 4 : Nat)) rfl rfl ?_
  conv => whnf
  refine ArI.in64 (by omega) ?_
  conv => whnf
  refine ArI.to64 ((5 + byt s 4 : Nat) : Int) (by omega) (by omega) ?_
  conv => whnf
  refine QuietV.str_lh Try.underlying9 (by omega) (by omega) (by omega) ?_
  rw [show s.extract (Int.toNat 5) (Int.toNat ((5 + byt s 4 : Nat) : Int)) = rdData s from rfl]
  conv => whnf
  intro b3
  conv => whnf
  refine ⟨Sub.sel [1] rfl, ?_⟩
  conv => whnf
  refine StoreV.c rfl rfl (Nat.le_of_ble_eq_true rfl) rfl ?_
  conv => whnf
  refine ⟨Sub.sel [1] rfl, ?_⟩
  conv => whnf
  repeat (first | (refine LoadV.s rfl rfl (forceV_of ?_); conv => whnf) | (refine LoadV.s rfl rfl ?_; conv => whnf) | (refine StoreV.c rfl rfl (Nat.le_of_ble_eq_true rfl) rfl ?_; conv => whnf) | (refine LoadV.a _ rfl (Nat.le_of_ble_eq_true rfl) ?_; conv => whnf) | (refine DrawI.quiet (by kernel_rfl) (by kernel_rfl) ?_; conv => whnf) | (refine ArI.in64 (by omega) ?_; conv => whnf) | (refine ArI.inU8 (by omega) ?_; conv => whnf) | (refine ArI.inU64 (by omega) ?_; conv => whnf) | (refine ArI.inU32 (by omega) ?_; conv => whnf) | (refine RetI.one Try.results19 rfl ?_; conv => whnf) | (refine RetI.two Try.results19 rfl rfl ?_; conv => whnf) | (refine RetI.three Try.results19 rfl rfl rfl ?_; conv => whnf) | (refine RetI.none Try.results19 ?_; conv => whnf) | (refine ⟨by first | decide | omega, ?_⟩; conv => whnf))
  refine CallS.mk Try.call17 ⟨[], _, _, Sub.refl _, fun F' hF' => block_ok F' (rdSeq s : Nat) (byt s 2 : Nat) (byt s 3 : Nat) (rdData s), ?_⟩
  have hT : Taken s ↔ blockR (rdSeq s : Nat) (byt s 2 : Nat) (byt s 3 : Nat) (rdData s) = (s, 0) := ⟨fun k => k.2.2, fun k => ⟨h32, h23, k⟩⟩
  generalize blockR (rdSeq s : Nat) (byt s 2 : Nat) (byt s 3 : Nat) (rdData s) = R at hT ⊢
  obtain ⟨x, er⟩ := R
  dsimp only
  rintro e A' ⟨rfl, rfl⟩
  conv => whnf
  refine cond_split (fun h5 => ?_) (fun h5 => ?_)
  · have hn : ¬ Taken s := fun k => by have := congrArg Prod.snd (hT.1 k); exact bne_iff_ne.1 h5 this
    conv => whnf
    refine StoreV.c rfl rfl (Nat.le_of_ble_eq_true rfl) rfl ?_
    conv => whnf
    refine RetI.cell_tmp Try.results19 rfl rfl ?_
    conv => whnf
    refine LoadV.a _ rfl (Nat.le_of_ble_eq_true rfl) ?_
    conv => whnf
    exact ⟨_, Sub.sel [] rfl, by rw [unb_no hn]; rfl, rfl⟩
  have her : er = 0 := bne_eq_false_iff_eq.1 h5
  conv => whnf
  rw [toList_beq]
  by_cases hx : x = s
  · have hy : Taken s := hT.2 (by rw [hx, her])
    rw [decide_eq_true hx]
    conv => whnf
    refine LoadV.a _ rfl (Nat.le_of_ble_eq_true rfl) ?_
    conv => whnf
    refine StoreV.c rfl rfl (Nat.le_of_ble_eq_true rfl) rfl ?_
    conv => whnf
    refine RetI.cell_tmp Try.results19 rfl rfl ?_
    conv => whnf
    refine LoadV.a _ rfl (Nat.le_of_ble_eq_true rfl) ?_
    conv => whnf
    exact ⟨_, Sub.sel [] rfl, by rw [unb_yes hy], rfl⟩
  · have hn : ¬ Taken s := fun k => hx (congrArg Prod.fst (hT.1 k))
    rw [decide_eq_false hx]
    conv => whnf
    refine StoreV.c rfl rfl (Nat.le_of_ble_eq_true rfl) rfl ?_
    conv => whnf
    refine RetI.cell_tmp Try.results19 rfl rfl ?_
    conv => whnf
    refine LoadV.a _ rfl (Nat.le_of_ble_eq_true rfl) ?_
    conv => whnf
    exact ⟨_, Sub.sel [] rfl, by rw [unb_no hn]; rfl, rfl⟩
end Go.Proofs.Ytphnpchblkpjhaa
