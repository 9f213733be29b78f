/- What the laws' proofs stand on, in one row: laws in numbers and lists, contracts of functions. No condition. -/
import Derived.Test.YtgodkfaacjllcaaQ1
/- The reference's pieces and blocks. -/
namespace Go.Proofs.Ytgodkfaacjllcaa
set_option linter.unusedVariables false
set_option linter.unusedSimpArgs false
set_option maxRecDepth 100000
open SL Go.RowKit Go.Maps

abbrev Pc := Int × Int × Int × ByteArray
abbrev pcF (p : Pc) : List Value := [.int .i64 p.1, .int .i64 p.2.1, .int .i64 p.2.2.1, .string p.2.2.2]
theorem pcF_length (p : Pc) : (pcF p).length = 4 := rfl
/-- What is left of a payload. -/
def rest (s : ByteArray) (i : Nat) : ByteArray := strB ((txt s).drop (23 * i))
theorem txt_rest (s : ByteArray) (i : Nat) : txt (rest s i) = (txt s).drop (23 * i) := txt_strB fun x hx => txt_lt s x (List.mem_of_mem_drop hx)
theorem rest_size (s : ByteArray) (i : Nat) : (rest s i).size = s.size - 23 * i := by rw [← txt_length, txt_rest, List.length_drop, txt_length]
theorem rest_zero (s : ByteArray) : rest s 0 = s := by unfold rest; simp [strB_txt]
theorem txt_chunk (s : ByteArray) (i : Nat) : txt (chunk s i) = ((txt s).drop (23 * i)).take 23 := by
  unfold chunk
  rw [txt_extract]
  have hl := txt_length s
  by_cases h : 23 * i + 23 ≤ s.size
  · rw [show min (23 * i + 23) s.size - 23 * i = 23 by omega]
  · rw [List.take_of_length_le (by rw [List.length_drop]; omega), List.take_of_length_le (by rw [List.length_drop]; omega)]
theorem rest_head (s : ByteArray) (i k : Nat) (hk : k = min 23 (rest s i).size) : (rest s i).extract 0 k = chunk s i := by
  apply txt_inj
  rw [txt_extract, txt_chunk, txt_rest, List.drop_zero, Nat.sub_zero]
  rw [rest_size] at hk
  have hl := txt_length s
  by_cases h : 23 ≤ s.size - 23 * i
  · rw [show k = 23 by omega]
  · rw [List.take_of_length_le (by rw [List.length_drop]; omega), List.take_of_length_le (by rw [List.length_drop]; omega)]
theorem rest_tail (s : ByteArray) (i k : Nat) (hk : k = min 23 (rest s i).size) : (rest s i).extract k (rest s i).size = rest s (i + 1) := by
  apply txt_inj
  rw [txt_extract, txt_rest, txt_rest]
  rw [rest_size] at hk ⊢
  have hl := txt_length s
  rw [List.take_of_length_le (by rw [List.length_drop, List.length_drop]; omega), List.drop_drop]
  by_cases h : 23 ≤ s.size - 23 * i
  · rw [show 23 * i + k = 23 * (i + 1) by omega]
  · rw [List.drop_eq_nil_of_le (by omega), List.drop_eq_nil_of_le (by omega)]
def pcs (seq : Int) (s : ByteArray) (i : Nat) : Pc := (seq, (i : Int), partsI s.size, chunk s i)
def piecesF (seq : Int) (s : ByteArray) : List Pc × Int := if seq < 1 ∨ seq > 65535 then ([], 7) else if s.size > 5865 then ([], 9) else ((List.range (partsI s.size).toNat).map (pcs seq s), 0)
theorem rpieces_ok (F : Mem) (seq : Int) (s : ByteArray) (hs : s.size ≤ 9223372036854775807) :
    FT Try.prog 55 [.int .i64 seq, .string s].toArray F [] (fun e H => ∃ g, (g = none ↔ (piecesF seq s).1 = []) ∧ e = .returned (.tuple #[svOf g (piecesF seq s).1.length, .int .i64 (piecesF seq s).2]) ∧ H = [.own (svOf g (piecesF seq s).1.length) (piecesF seq s).1.length 94 4 ((piecesF seq s).1.flatMap pcF)]) := by
  refine FT.of_body Try.func55 rfl Try.ntmps55 (by simp) fun C hC => ?_
  subst hC
  conv => whnf
  refine cond_dec (fun h1 => ?_) (fun h1 => ?_)
  · have e0 : piecesF seq s = ([], 7) := if_pos (.inl h1)
    conv => whnf
    repeat (first | (refine LoadV.s rfl rfl (forceV_of ?_); conv => whnf) | (refine LoadV.s rfl rfl ?_; conv => whnf) | (refine StoreV.c rfl rfl (Nat.le_of_ble_eq_true rfl) rfl ?_; conv => whnf) | (refine LoadV.a _ rfl (Nat.le_of_ble_eq_true rfl) ?_; conv => whnf) | (refine DrawI.quiet (by kernel_rfl) (by kernel_rfl) ?_; conv => whnf) | (refine ArI.in64 (by omega) ?_; conv => whnf) | (refine ArI.inU8 (by omega) ?_; conv => whnf) | (refine ArI.inU64 (by omega) ?_; conv => whnf) | (refine ArI.inU32 (by omega) ?_; conv => whnf) | (refine RetI.one Try.results55 rfl ?_; conv => whnf) | (refine RetI.two Try.results55 rfl rfl ?_; conv => whnf) | (refine RetI.three Try.results55 rfl rfl rfl ?_; conv => whnf) | (refine RetI.none Try.results55 ?_; conv => whnf) | (refine ⟨by first | decide | omega, ?_⟩; conv => whnf))
    exact ⟨_, Sub.nil 94 4, none, by rw [e0]; simp, by rw [e0]; rfl, by rw [e0]; rfl⟩
  conv => whnf
  refine cond_dec (fun h2 => ?_) (fun h2 => ?_)
  · have e0 : piecesF seq s = ([], 7) := if_pos (.inr h2)
    conv => whnf
    repeat (first | (refine LoadV.s rfl rfl (forceV_of ?_); conv => whnf) | (refine LoadV.s rfl rfl ?_; conv => whnf) | (refine StoreV.c rfl rfl (Nat.le_of_ble_eq_true rfl) rfl ?_; conv => whnf) | (refine LoadV.a _ rfl (Nat.le_of_ble_eq_true rfl) ?_; conv => whnf) | (refine DrawI.quiet (by kernel_rfl) (by kernel_rfl) ?_; conv => whnf) | (refine ArI.in64 (by omega) ?_; conv => whnf) | (refine ArI.inU8 (by omega) ?_; conv => whnf) | (refine ArI.inU64 (by omega) ?_; conv => whnf) | (refine ArI.inU32 (by omega) ?_; conv => whnf) | (refine RetI.one Try.results55 rfl ?_; conv => whnf) | (refine RetI.two Try.results55 rfl rfl ?_; conv => whnf) | (refine RetI.three Try.results55 rfl rfl rfl ?_; conv => whnf) | (refine RetI.none Try.results55 ?_; conv => whnf) | (refine ⟨by first | decide | omega, ?_⟩; conv => whnf))
    exact ⟨_, Sub.nil 94 4, none, by rw [e0]; simp, by rw [e0]; rfl, by rw [e0]; rfl⟩
  conv => whnf
  refine cond_dec (fun h3 => ?_) (fun h3 => ?_)
  · have e0 : piecesF seq s = ([], 9) := by rw [piecesF, if_neg (by omega), if_pos (by omega)]
    conv => whnf
    repeat (first | (refine LoadV.s rfl rfl (forceV_of ?_); conv => whnf) | (refine LoadV.s rfl rfl ?_; conv => whnf) | (refine StoreV.c rfl rfl (Nat.le_of_ble_eq_true rfl) rfl ?_; conv => whnf) | (refine LoadV.a _ rfl (Nat.le_of_ble_eq_true rfl) ?_; conv => whnf) | (refine DrawI.quiet (by kernel_rfl) (by kernel_rfl) ?_; conv => whnf) | (refine ArI.in64 (by omega) ?_; conv => whnf) | (refine ArI.inU8 (by omega) ?_; conv => whnf) | (refine ArI.inU64 (by omega) ?_; conv => whnf) | (refine ArI.inU32 (by omega) ?_; conv => whnf) | (refine RetI.one Try.results55 rfl ?_; conv => whnf) | (refine RetI.two Try.results55 rfl rfl ?_; conv => whnf) | (refine RetI.three Try.results55 rfl rfl rfl ?_; conv => whnf) | (refine RetI.none Try.results55 ?_; conv => whnf) | (refine ⟨by first | decide | omega, ?_⟩; conv => whnf))
    exact ⟨_, Sub.nil 94 4, none, by rw [e0]; simp, by rw [e0]; rfl, by rw [e0]; rfl⟩
  have e0 : piecesF seq s = ((List.range (partsI s.size).toNat).map (pcs seq s), 0) := by rw [piecesF, if_neg (by omega), if_neg (by omega)]
  rw [e0]
  obtain ⟨n, hn, hn1, hn2⟩ : ∃ n : Nat, partsI (s.size : Int) = (n : Int) ∧ 1 ≤ n ∧ n ≤ 255 := by
    refine ⟨(partsI s.size).toNat, ?_, ?_, ?_⟩ <;> unfold partsI <;> rw [if_neg (by omega)] <;> omega
  conv => whnf
  refine CallS.mk Try.call16 ⟨[], _, _, Sub.refl _, fun F' hF' => rparts_ok F' (s.size : Int), ?_⟩
  rw [hn, Int.toNat_natCast]
  rintro e A' ⟨rfl, rfl⟩
  conv => whnf
  refine LoopI.by_state (σ := Nat × Option (Nat × Nat)) (fun x => [(0, .int .i64 seq), (1, .string (rest s x.1)), (6, .int .i64 (n : Int)), (7, svOf x.2 x.1), (8, .int .i64 (x.1 : Int))])
    (fun x => [.own (svOf x.2 x.1) x.1 94 4 (((List.range x.1).map (pcs seq s)).flatMap pcF)]) (fun x => x.1 ≤ n ∧ (x.2 = none ↔ x.1 = 0)) (fun x => n - x.1) (0, none) ⟨by dsimp only; omega, by simp⟩ ⟨rfl, by rw [rest_zero]; rfl, rfl, rfl, rfl, trivial⟩ (Sub.nil 94 4) ?_
  rintro ⟨i, g⟩ f0 ⟨hi, hg⟩
  dsimp only at hi hg ⊢
  conv => whnf
  refine cond_dec (fun h => ?_) (fun h => ?_)
  · have hrs := rest_size s i
    obtain ⟨k, hk⟩ : ∃ k, k = min 23 (rest s i).size := ⟨_, rfl⟩
    conv => whnf
    refine DoV.str_h Try.underlying9 (by omega) (by omega) ?_
    rw [show Int.toNat (min 23 ((rest s i).size : Int)) = k by omega, rest_head s i k hk]
    conv => whnf
    intro b3
    conv => whnf
    refine BuiltV.append (sv := svOf g i) (m := 1) Try.underlying97 rfl rfl rfl rfl (by decide) (Row.cells 4) rfl (by decide) rfl (by show (i + 1) * 40 ≤ _; omega) (by omega) fun g2 c2 => ?_
    conv => whnf
    refine DoV.str_l Try.underlying9 (by omega) (by omega) ?_
    rw [show Int.toNat (min 23 ((rest s i).size : Int)) = k by omega, rest_tail s i k hk]
    conv => whnf
    refine ArI.to64 ((i + 1 : Nat) : Int) (by omega) (by omega) ?_
    conv => whnf
    refine ⟨(i + 1, some (g2, c2)), _, by dsimp only; omega, Sub.sel [1] rfl, ⟨by dsimp only; omega, by simp⟩, ⟨rfl, rfl, rfl, rfl, rfl, trivial⟩, ?_⟩
    have e : ((List.range (i + 1)).map (pcs seq s)).flatMap pcF = ((List.range i).map (pcs seq s)).flatMap pcF ++ [.int .i64 seq, .int .i64 (i : Int), .int .i64 (n : Int), .string (chunk s i)] := by
      rw [List.range_succ, List.map_append, List.flatMap_append]; simp [pcs, hn]
    dsimp only
    rw [e]
    rfl
  · obtain rfl : i = n := by omega
    conv => whnf
    repeat (first | (refine LoadV.s rfl rfl (forceV_of ?_); conv => whnf) | (refine LoadV.s rfl rfl ?_; conv => whnf) | (refine StoreV.c rfl rfl (Nat.le_of_ble_eq_true rfl) rfl ?_; conv => whnf) | (refine LoadV.a _ rfl (Nat.le_of_ble_eq_true rfl) ?_; conv => whnf) | (refine DrawI.quiet (by kernel_rfl) (by kernel_rfl) ?_; conv => whnf) | (refine ArI.in64 (by omega) ?_; conv => whnf) | (refine ArI.inU8 (by omega) ?_; conv => whnf) | (refine ArI.inU64 (by omega) ?_; conv => whnf) | (refine ArI.inU32 (by omega) ?_; conv => whnf) | (refine RetI.one Try.results55 rfl ?_; conv => whnf) | (refine RetI.two Try.results55 rfl rfl ?_; conv => whnf) | (refine RetI.three Try.results55 rfl rfl rfl ?_; conv => whnf) | (refine RetI.none Try.results55 ?_; conv => whnf) | (refine ⟨by first | decide | omega, ?_⟩; conv => whnf))
    exact ⟨_, Sub.refl _, g, by rw [hg]; simp, by simp, by simp⟩
end Go.Proofs.Ytgodkfaacjllcaa

/- The law of packing, as a contract. -/
namespace Go.Proofs.Ytgodkfaacjllcaa
set_option linter.unusedVariables false
set_option linter.unusedSimpArgs false
set_option maxRecDepth 100000
open SL Go.RowKit Go.Maps

def blkP (p : Pc) : ByteArray := (blockR p.1 p.2.1 p.2.2.1 p.2.2.2).1
theorem pack_pieces (seq : Int) (s : ByteArray) : packF seq s = ((piecesF seq s).1.map blkP, (piecesF seq s).2) := by
  unfold packF piecesF
  split
  · rfl
  · split
    · rfl
    · simp only [List.map_map]; rfl
theorem rpack_ok (F : Mem) (seq : Int) (s : ByteArray) (hs : s.size ≤ 9223372036854775807) :
    FT Try.prog 52 [.int .i64 seq, .string s].toArray F [] (fun e H => ∃ g, (g = none ↔ (packF seq s).1 = []) ∧ e = .returned (.tuple #[svOf g (packF seq s).1.length, .int .i64 (packF seq s).2]) ∧ H = [.own (svOf g (packF seq s).1.length) (packF seq s).1.length 9 1 (strs (packF seq s).1)]) := by
  have hle : (piecesF seq s).1.length ≤ 255 := by
    unfold piecesF
    split
    · simp
    · split
      · simp
      · simp only [List.length_map, List.length_range]; unfold partsI; rw [if_neg (by omega)]; omega
  rw [pack_pieces]
  have hc := fun (F' : Mem) => rpieces_ok F' seq s hs
  generalize piecesF seq s = R at hle hc ⊢
  obtain ⟨l, er⟩ := R
  dsimp only at hle hc ⊢
  refine FT.of_body Try.func52 rfl Try.ntmps52 (by simp) fun C hC => ?_
  subst hC
  conv => whnf
  refine CallS.mk Try.call55 ⟨[], _, _, Sub.refl _, fun F' hF' => hc F', ?_⟩
  rintro e A' ⟨g, hg, rfl, rfl⟩
  conv => whnf
  refine LoopI.by_state (σ := Nat × Option (Nat × Nat)) (fun x => [(7, .int .i64 er), (8, svOf x.2 x.1), (19, svOf g l.length), (20, .int .i64 (l.length : Int)), (21, .int .i64 (x.1 : Int))])
    (fun x => [.own (svOf x.2 x.1) x.1 9 1 (strs ((l.take x.1).map blkP)), .own (svOf g l.length) l.length 94 4 (l.flatMap pcF)]) (fun x => x.1 ≤ l.length ∧ (x.2 = none ↔ x.1 = 0)) (fun x => l.length - x.1) (0, none) ⟨by dsimp only; omega, by simp⟩ ⟨rfl, rfl, rfl, rfl, rfl, trivial⟩ (Sub.nil 9 1) ?_
  rintro ⟨i, g1⟩ f0 ⟨hi, hg1⟩
  dsimp only at hi hg1 ⊢
  conv => whnf
  refine cond_dec (fun h => ?_) (fun h => ?_)
  · have hil : i < l.length := by omega
    obtain ⟨gb, gc, rfl⟩ := gsome hg (by intro e; rw [e] at hil; simp at hil)
    conv => whnf
    refine ⟨by omega, ?_⟩
    conv => whnf
    refine LoadV.oa 4 rfl (by show 0 + i * 4 + 4 ≤ (l.flatMap pcF).length; rw [flat_length pcF_length]; omega) ?_
    have hrow : ((l.flatMap pcF).drop (elemOff 0 (i : Int) Try.prog.types[94].size)).take 4 = pcF (l[i]) := by
      show ((l.flatMap pcF).drop (0 + i * 4)).take 4 = _
      rw [Nat.zero_add]
      apply List.ext_getElem?
      intro j
      rw [List.getElem?_take]
      by_cases hj : j < 4
      · rw [if_pos hj, List.getElem?_drop, flat_at pcF_length l i j hil hj]
      · rw [if_neg hj, List.getElem?_eq_none (by rw [pcF_length]; omega)]
    rw [hrow]
    have htk : (l.take (i + 1)).map blkP = (l.take i).map blkP ++ [blkP l[i]] := by rw [← List.take_append_getElem hil, List.map_append]; rfl
    generalize l[i] = p at htk ⊢
    obtain ⟨p1, p2, p3, p4⟩ := p
    dsimp only
    conv => whnf
    intro b3
    conv => whnf
    refine StoreV.c rfl rfl (Nat.le_of_ble_eq_true rfl) rfl ?_
    conv => whnf
    refine LoadV.a _ rfl (Nat.le_of_ble_eq_true rfl) ?_
    conv => whnf
    refine CallS.mk Try.call53 ⟨[], _, _, Sub.refl _, fun F' hF' => rblock_ok F' p1 p2 p3 p4, ?_⟩
    rintro e A' ⟨rfl, rfl⟩
    conv => whnf
    intro b4
    conv => whnf
    refine BuiltV.append (sv := svOf g1 i) (m := 1) Try.underlying22 rfl rfl rfl rfl (by decide) (Row.cells 1) rfl (by decide) rfl (by show (i + 1) * 16 ≤ _; omega) (by omega) fun g2 c2 => ?_
    conv => whnf
    refine ArI.to64 ((i + 1 : Nat) : Int) (by omega) (by omega) ?_
    conv => whnf
    refine ⟨(i + 1, some (g2, c2)), _, by dsimp only; omega, Sub.sel [2, 3] rfl, ⟨by dsimp only; omega, by simp⟩, ⟨rfl, rfl, rfl, rfl, rfl, trivial⟩, ?_⟩
    have e2 : strs ((l.take (i + 1)).map blkP) = strs ((l.take i).map blkP) ++ [.string (blockR p1 p2 p3 p4).1] := by
      rw [htk, strs, List.map_append]; rfl
    dsimp only
    rw [e2]
    rfl
  · obtain rfl : i = l.length := by omega
    conv => whnf
    repeat (first | (refine LoadV.s rfl rfl (forceV_of ?_); conv => whnf) | (refine LoadV.s rfl rfl ?_; conv => whnf) | (refine StoreV.c rfl rfl (Nat.le_of_ble_eq_true rfl) rfl ?_; conv => whnf) | (refine LoadV.a _ rfl (Nat.le_of_ble_eq_true rfl) ?_; conv => whnf) | (refine DrawI.quiet (by kernel_rfl) (by kernel_rfl) ?_; conv => whnf) | (refine ArI.in64 (by omega) ?_; conv => whnf) | (refine ArI.inU8 (by omega) ?_; conv => whnf) | (refine ArI.inU64 (by omega) ?_; conv => whnf) | (refine ArI.inU32 (by omega) ?_; conv => whnf) | (refine RetI.one Try.results52 rfl ?_; conv => whnf) | (refine RetI.two Try.results52 rfl rfl ?_; conv => whnf) | (refine RetI.three Try.results52 rfl rfl rfl ?_; conv => whnf) | (refine RetI.none Try.results52 ?_; conv => whnf) | (refine ⟨by first | decide | omega, ?_⟩; conv => whnf))
    refine ⟨_, Sub.sel [0] rfl, g1, ?_, ?_, ?_⟩
    · rw [hg1, List.map_eq_nil_iff, List.length_eq_zero_iff]
    · rw [List.length_map]
    · rw [List.length_map, List.take_length]
theorem putAt_str (X : List ByteArray) (k : Nat) (s : ByteArray) (h : k < X.length) : putAt (strs X) (0 + k) [.string s] = strs (X.set k s) := by
  have : strs (X.set k s) = (strs X).set k (.string s) := List.map_set
  rw [this, Nat.zero_add, List.set_eq_take_append_cons_drop, if_pos (by simpa using h)]
  simp [putAt]
theorem packF_le (seq : Int) (s : ByteArray) : (packF seq s).1.length ≤ 255 := by
  unfold packF
  split
  · simp
  · split
    · simp
    · simp only [List.length_map, List.length_range]; unfold partsI; rw [if_neg (by omega)]; omega
end Go.Proofs.Ytgodkfaacjllcaa

/- strings.Builder: its writing and its text. -/
namespace Go.Proofs.Ytgodkfaacjllcaa
set_option linter.unusedVariables false
set_option linter.unusedSimpArgs false
set_option maxRecDepth 100000
open SL Go.RowKit Go.Maps

theorem cc_fresh (F : Mem) (b : Nat) (sv : Value) : FT Try.prog 80 [.pointer (some ⟨b, 0, none⟩)].toArray F [.cells b [.pointer none, sv] 124 (0, 0)]
    (fun e H => e = .returned (.tuple #[]) ∧ H = [.cells b [.pointer (some ⟨b, 0, none⟩), sv] 124 (0, 0)]) := by
  intro w hF hs
  have hg : w.heap[b]? = some (.cells #[.pointer none, sv] 124 (0, 0)) := hs.objs (.cells b [.pointer none, sv] 124 (0, 0)) (by simp)
  refine (Any.Builder_copyCheck_fresh (P := Try.prog) (ρ := Try.lays105_ren) { Try.lays105 with } Try.Builder_Extra_105.toX72 b w (by simp [World.cell?, hg]) (by simp [World.shape?, hg]; rfl) (by simp [World.frozen?, hg])).mono fun e w' ⟨he, hw⟩ => ⟨by rw [he]; simp, _, ⟨he, rfl⟩, ?_⟩
  subst hw
  rw [setCell_eq_setRow w b 0 _ 124 (0, 0) _ hg]
  exact Sat.setRow (A := []) (B := []) (l' := [.pointer (some ⟨b, 0, none⟩), sv]) hs
theorem cc_used (F : Mem) (b : Nat) (sv : Value) : FT Try.prog 80 [.pointer (some ⟨b, 0, none⟩)].toArray F [.cells b [.pointer (some ⟨b, 0, none⟩), sv] 124 (0, 0)]
    (fun e H => e = .returned (.tuple #[]) ∧ H = [.cells b [.pointer (some ⟨b, 0, none⟩), sv] 124 (0, 0)]) := by
  intro w hF hs
  have hg : w.heap[b]? = some (.cells #[.pointer (some ⟨b, 0, none⟩), sv] 124 (0, 0)) := hs.objs (.cells b [.pointer (some ⟨b, 0, none⟩), sv] 124 (0, 0)) (by simp)
  refine (Any.Builder_copyCheck_used (P := Try.prog) (ρ := Try.lays105_ren) { Try.lays105 with } Try.Builder_Extra_105.toX72 b w (by simp [World.cell?, hg])).mono fun e w' ⟨he, hw⟩ => ⟨by rw [he]; simp, _, ⟨he, rfl⟩, ?_⟩
  subst hw
  exact hs
/-- A builder that holds these bytes. -/
abbrev bldH (b : Nat) (p : Option Addr) (g : Option (Nat × Nat)) (l : List Nat) : Heap := [.cells b [.pointer p, svOf g l.length] 124 (0, 0), .own (svOf g l.length) l.length 5 1 (bytesV l)]
theorem sbw_ok (F : Mem) (b : Nat) (p : Option Addr) (hp : p = none ∨ p = some ⟨b, 0, none⟩) (g : Option (Nat × Nat)) (l : List Nat) (s : ByteArray) (hb : l.length + s.size ≤ 140737488355328) :
    FT Try.prog 66 [.pointer (some ⟨b, 0, none⟩), .string s].toArray F (bldH b p g l)
    (fun e H => e = .returned (.tuple #[.int .i64 (s.size : Int), .nilIface]) ∧ ∃ g', (g' = none ↔ g = none ∧ s.size = 0) ∧ H = bldH b (some ⟨b, 0, none⟩) g' (l ++ txt s)) := by
  have hc : ∀ F' : Mem, FT Try.prog 80 [.pointer (some ⟨b, 0, none⟩)].toArray F' [.cells b [.pointer p, svOf g l.length] 124 (0, 0)]
      (fun e H => e = .returned (.tuple #[]) ∧ H = [.cells b [.pointer (some ⟨b, 0, none⟩), svOf g l.length] 124 (0, 0)]) := fun F' => by
    rcases hp with rfl | rfl
    · exact cc_fresh F' b _
    · exact cc_used F' b _
  refine FT.of_body Try.func66 rfl Try.ntmps66 (by simp) fun C hC => ?_
  subst hC
  conv => whnf
  refine CallS.mk Try.call80 ⟨[_], _, _, Sub.split [0] rfl, fun F' hF' => hc F', ?_⟩
  rintro e A' ⟨rfl, rfl⟩
  conv => whnf
  refine LoadV.s rfl rfl (forceV_of ?_)
  conv => whnf
  refine BuiltV.append_str (g := g) (n := l.length) Try.underlying118 Try.underlying9 rfl rfl rfl rfl hb fun g' hg' => ?_
  conv => whnf
  refine StoreV.c rfl rfl (Nat.le_of_ble_eq_true rfl) rfl ?_
  conv => whnf
  repeat (first | (refine LoadV.s rfl rfl (forceV_of ?_); conv => whnf) | (refine LoadV.s rfl rfl ?_; conv => whnf) | (refine StoreV.c rfl rfl (Nat.le_of_ble_eq_true rfl) rfl ?_; conv => whnf) | (refine LoadV.a _ rfl (Nat.le_of_ble_eq_true rfl) ?_; conv => whnf) | (refine DrawI.quiet (by kernel_rfl) (by kernel_rfl) ?_; conv => whnf) | (refine ArI.in64 (by omega) ?_; conv => whnf) | (refine ArI.inU8 (by omega) ?_; conv => whnf) | (refine ArI.inU64 (by omega) ?_; conv => whnf) | (refine ArI.inU32 (by omega) ?_; conv => whnf) | (refine RetI.one Try.results66 rfl ?_; conv => whnf) | (refine RetI.two Try.results66 rfl rfl ?_; conv => whnf) | (refine RetI.three Try.results66 rfl rfl rfl ?_; conv => whnf) | (refine RetI.none Try.results66 ?_; conv => whnf) | (refine ⟨by first | decide | omega, ?_⟩; conv => whnf))
  refine ⟨_, Sub.sel [0, 1] rfl, rfl, g', hg', ?_⟩
  have hl := txt_length s
  have e : bytesV (l ++ txt s) = bytesV l ++ bytesV (txt s) := List.map_append
  rw [bldH, List.length_append, hl, e]
  rfl
theorem sbs_ok (F : Mem) (b : Nat) (p : Option Addr) (g : Option (Nat × Nat)) (l : List Nat) (hg : g = none ↔ l = []) (hl : ∀ x ∈ l, x < 256) (hb : l.length ≤ 9223372036854775807) :
    FT Try.prog 67 [.pointer (some ⟨b, 0, none⟩)].toArray F (bldH b p g l) (Ret (.string (strB l))) := by
  refine FT.of_body Try.func67 rfl Try.ntmps67 (by simp) fun C hC => ?_
  subst hC
  conv => whnf
  refine DrawI.mixed [4, 10] [_] (by kernel_rfl) (by kernel_rfl) (by kernel_rfl) (by kernel_rfl) (by kernel_rfl) (Sub.sel [0] rfl) ?_
  conv => whnf
  refine LoadV.s rfl rfl (forceV_of ?_)
  conv => whnf
  cases g with
  | none =>
    obtain rfl := hg.1 rfl
    refine BuiltV.sliceData_nil ?_
    conv => whnf
    refine ⟨Sub.sel [0] rfl, ?_⟩
    conv => whnf
    refine LoadV.s rfl rfl (forceV_of ?_)
    conv => whnf
    refine BuiltV.unsafeString_none ?_
    conv => whnf
    refine ⟨Sub.sel [0] rfl, ?_⟩
    conv => whnf
    repeat (first | (refine LoadV.s rfl rfl (forceV_of ?_); conv => whnf) | (refine LoadV.s rfl rfl ?_; conv => whnf) | (refine StoreV.c rfl rfl (Nat.le_of_ble_eq_true rfl) rfl ?_; conv => whnf) | (refine LoadV.a _ rfl (Nat.le_of_ble_eq_true rfl) ?_; conv => whnf) | (refine DrawI.quiet (by kernel_rfl) (by kernel_rfl) ?_; conv => whnf) | (refine ArI.in64 (by omega) ?_; conv => whnf) | (refine ArI.inU8 (by omega) ?_; conv => whnf) | (refine ArI.inU64 (by omega) ?_; conv => whnf) | (refine ArI.inU32 (by omega) ?_; conv => whnf) | (refine RetI.one Try.results67 rfl ?_; conv => whnf) | (refine RetI.two Try.results67 rfl rfl ?_; conv => whnf) | (refine RetI.three Try.results67 rfl rfl rfl ?_; conv => whnf) | (refine RetI.none Try.results67 ?_; conv => whnf) | (refine ⟨by first | decide | omega, ?_⟩; conv => whnf))
    exact ⟨_, Sub.sel [] rfl, rfl, rfl⟩
  | some q =>
    obtain ⟨gb, gc⟩ := q
    have h0 : l.length ≠ 0 := fun e => by have := hg.2 (List.length_eq_zero_iff.1 e); cases this
    refine BuiltV.sliceData h0 ?_
    conv => whnf
    refine ⟨Sub.sel [0] rfl, ?_⟩
    conv => whnf
    refine LoadV.s rfl rfl (forceV_of ?_)
    conv => whnf
    refine BuiltV.unsafeString (b := gb) (c := gc) (L := l) Try.underlying141 rfl h0 rfl hl ?_
    conv => whnf
    refine ⟨Sub.sel [0] rfl, ?_⟩
    conv => whnf
    repeat (first | (refine LoadV.s rfl rfl (forceV_of ?_); conv => whnf) | (refine LoadV.s rfl rfl ?_; conv => whnf) | (refine StoreV.c rfl rfl (Nat.le_of_ble_eq_true rfl) rfl ?_; conv => whnf) | (refine LoadV.a _ rfl (Nat.le_of_ble_eq_true rfl) ?_; conv => whnf) | (refine DrawI.quiet (by kernel_rfl) (by kernel_rfl) ?_; conv => whnf) | (refine ArI.in64 (by omega) ?_; conv => whnf) | (refine ArI.inU8 (by omega) ?_; conv => whnf) | (refine ArI.inU64 (by omega) ?_; conv => whnf) | (refine ArI.inU32 (by omega) ?_; conv => whnf) | (refine RetI.one Try.results67 rfl ?_; conv => whnf) | (refine RetI.two Try.results67 rfl rfl ?_; conv => whnf) | (refine RetI.three Try.results67 rfl rfl rfl ?_; conv => whnf) | (refine RetI.none Try.results67 ?_; conv => whnf) | (refine ⟨by first | decide | omega, ?_⟩; conv => whnf))
    exact ⟨_, Sub.sel [] rfl, rfl, rfl⟩
end Go.Proofs.Ytgodkfaacjllcaa

/- A frame's pieces put together, by the program. -/
namespace Go.Proofs.Ytgodkfaacjllcaa
set_option linter.unusedVariables false
set_option linter.unusedSimpArgs false
set_option maxRecDepth 100000
open SL Go.RowKit Go.Maps

def seq0 (l : List Pc) : Int := (l.head?.map (·.1)).getD 0
def catL (l : List Pc) : List Nat := l.flatMap fun p => txt p.2.2.2
def Good (l : List Pc) (i : Nat) (p : Pc) : Prop := rightB p.1 p.2.1 p.2.2.1 p.2.2.2.size = true ∧ p.1 = seq0 l ∧ p.2.1 = (i : Int) ∧ p.2.2.1 = (l.length : Int)
def WholeOk (l : List Pc) : Prop := l ≠ [] ∧ ∀ i, ∀ h : i < l.length, Good l i l[i]
open Classical in
noncomputable def wholeR (l : List Pc) : Int × ByteArray × Int := if WholeOk l then (seq0 l, strB (catL l), 0) else (0, ⟨#[]⟩, 7)
theorem whole_no {l : List Pc} (h : ¬ WholeOk l) : wholeR l = (0, ⟨#[]⟩, 7) := if_neg h
theorem whole_yes {l : List Pc} (h : WholeOk l) : wholeR l = (seq0 l, strB (catL l), 0) := if_pos h
theorem catL_lt (l : List Pc) : ∀ x ∈ catL l, x < 256 := by
  intro x hx
  obtain ⟨p, _, hp⟩ := List.mem_flatMap.1 hx
  exact txt_lt _ x hp
theorem catL_snoc (l : List Pc) (i : Nat) (h : i < l.length) : catL (l.take (i + 1)) = catL (l.take i) ++ txt (l[i]).2.2.2 := by
  unfold catL
  rw [← List.take_append_getElem h, List.flatMap_append]; simp
theorem right_le {sq pt ps : Int} {n : Nat} (h : rightB sq pt ps n = true) : n ≤ 23 ∧ ps ≤ 255 := by
  have : RightP sq pt ps n := of_decide_eq_true h
  unfold RightP at this
  omega
theorem seq0_get {l : List Pc} (h : 0 < l.length) : seq0 l = (l[0]).1 := by
  cases l with
  | nil => simp at h
  | cons p l => rfl
set_option maxHeartbeats 4000000 in
theorem whole_ok (F : Mem) (oa : Option Addr) (ca : Nat) (l : List Pc) (ha : SlF F 4 oa l.length (l.flatMap pcF)) (hn : l.length ≤ 9223372036854775807) :
    FT Try.prog 57 [.slice oa l.length ca].toArray F [] (Ret (.tuple #[.int .i64 (wholeR l).1, .string (wholeR l).2.1, .int .i64 (wholeR l).2.2])) := by
  refine FT.of_body Try.func57 rfl Try.ntmps57 (by simp) fun C hC => ?_
  subst hC
  conv => whnf
  refine cond_split (fun h => ?_) (fun h => ?_)
  · have h0 : l.length = 0 := by have := eq_of_beq h; omega
    conv => whnf
    repeat (first | (refine LoadV.s rfl rfl (forceV_of ?_); conv => whnf) | (refine LoadV.s rfl rfl ?_; conv => whnf) | (refine StoreV.c rfl rfl (Nat.le_of_ble_eq_true rfl) rfl ?_; conv => whnf) | (refine LoadV.a _ rfl (Nat.le_of_ble_eq_true rfl) ?_; conv => whnf) | (refine DrawI.quiet (by kernel_rfl) (by kernel_rfl) ?_; conv => whnf) | (refine ArI.in64 (by omega) ?_; conv => whnf) | (refine ArI.inU8 (by omega) ?_; conv => whnf) | (refine ArI.inU64 (by omega) ?_; conv => whnf) | (refine ArI.inU32 (by omega) ?_; conv => whnf) | (refine RetI.one Try.results57 rfl ?_; conv => whnf) | (refine RetI.two Try.results57 rfl rfl ?_; conv => whnf) | (refine RetI.three Try.results57 rfl rfl rfl ?_; conv => whnf) | (refine RetI.none Try.results57 ?_; conv => whnf) | (refine ⟨by first | decide | omega, ?_⟩; conv => whnf))
    exact ⟨_, Sub.refl _, by rw [whole_no (fun k => k.1 (List.length_eq_zero_iff.1 h0))], rfl⟩
  have h0 : 0 < l.length := by have := beq_eq_false_iff_ne.1 h; omega
  conv => whnf
  intro b
  conv => whnf
  refine LoopI.by_state (σ := Nat × Option Addr × Option (Nat × Nat)) (fun x => [(0, .slice oa l.length ca), (5, .pointer (some ⟨b, 0, none⟩)), (11, .slice oa l.length ca), (12, .int .i64 (l.length : Int)), (13, .int .i64 (x.1 : Int))])
    (fun x => bldH b x.2.1 x.2.2 (catL (l.take x.1))) (fun x => x.1 ≤ l.length ∧ (x.2.1 = none ∨ x.2.1 = some ⟨b, 0, none⟩) ∧ (x.2.2 = none ↔ catL (l.take x.1) = []) ∧ (catL (l.take x.1)).length ≤ 23 * x.1 ∧ ∀ j, ∀ h : j < x.1, ∀ h2 : j < l.length, Good l j l[j])
    (fun x => l.length - x.1) (0, none, none) ⟨by dsimp only; omega, .inl rfl, by simp [catL], by simp [catL], fun j h => absurd h (Nat.not_lt_zero j)⟩ ⟨rfl, rfl, rfl, rfl, rfl, trivial⟩ (Sub.trans (Sub.nil 5 1) (Sub.sel [1, 0] rfl)) ?_
  rintro ⟨i, p, g⟩ f0 ⟨hi, hp, hg, hlen, hgood⟩
  dsimp only at hi hp hg hlen hgood ⊢
  conv => whnf
  refine cond_dec (fun h1 => ?_) (fun h1 => ?_)
  · have hil : i < l.length := by omega
    obtain ⟨xb, yb, rfl, hrb⟩ := ha.at (i := i) hil
    conv => whnf
    refine ⟨by omega, ?_⟩
    conv => whnf
    refine LoadV.fa (cs := pcF (l[i])) (flat_row pcF_length hrb hil rfl) rfl ?_
    conv => whnf
    intro b3
    conv => whnf
    have hno : ¬ Good l i l[i] → wholeR l = (0, ⟨#[]⟩, 7) := fun hg' => whole_no fun k => hg' (k.2 i hil)
    have hsn := catL_snoc l i hil
    have h00 := seq0_get h0
    have hr0 : RdC C.F ⟨xb, yb + 0, none⟩ (.int .i64 (l[0]).1) := hrb 0 _ (by have := flat_at pcF_length l 0 0 h0 (by decide); rw [Nat.zero_mul, Nat.zero_add] at this; rw [this]; rfl)
    obtain ⟨q, hq⟩ : ∃ q, q = l[i] := ⟨_, rfl⟩
    rw [← hq] at hno hsn ⊢
    rw [← h00] at hr0
    obtain ⟨q1, q2, q3, q4⟩ := q
    dsimp only at hsn
    refine StoreV.c rfl rfl (Nat.le_of_ble_eq_true rfl) rfl ?_
    conv => whnf
    refine DrawI.mixed [1, 3] [_] (by kernel_rfl) (by kernel_rfl) (by kernel_rfl) (by kernel_rfl) (by kernel_rfl) (Sub.sel [0] rfl) ?_
    conv => whnf
    refine LoadV.a _ rfl (Nat.le_of_ble_eq_true rfl) ?_
    conv => whnf
    refine CallS.mk Try.call58 ⟨[], _, _, Sub.refl _, fun F' hF' => right_ok F' q1 q2 q3 q4, ?_⟩
    rintro e A' ⟨rfl, rfl⟩
    cases hb : rightB q1 q2 q3 q4.size with
    | false =>
      conv => whnf
      refine ⟨Sub.sel [0] rfl, ?_⟩
      conv => whnf
      refine ⟨Sub.sel [0] rfl, ?_⟩
      conv => whnf
      repeat (first | (refine LoadV.s rfl rfl (forceV_of ?_); conv => whnf) | (refine LoadV.s rfl rfl ?_; conv => whnf) | (refine StoreV.c rfl rfl (Nat.le_of_ble_eq_true rfl) rfl ?_; conv => whnf) | (refine LoadV.a _ rfl (Nat.le_of_ble_eq_true rfl) ?_; conv => whnf) | (refine DrawI.quiet (by kernel_rfl) (by kernel_rfl) ?_; conv => whnf) | (refine ArI.in64 (by omega) ?_; conv => whnf) | (refine ArI.inU8 (by omega) ?_; conv => whnf) | (refine ArI.inU64 (by omega) ?_; conv => whnf) | (refine ArI.inU32 (by omega) ?_; conv => whnf) | (refine RetI.one Try.results57 rfl ?_; conv => whnf) | (refine RetI.two Try.results57 rfl rfl ?_; conv => whnf) | (refine RetI.three Try.results57 rfl rfl rfl ?_; conv => whnf) | (refine RetI.none Try.results57 ?_; conv => whnf) | (refine ⟨by first | decide | omega, ?_⟩; conv => whnf))
      exact ⟨_, Sub.sel [] rfl, by rw [hno (fun k => by have := k.1; rw [hb] at this; cases this)], rfl⟩
    | true =>
      have hrl := right_le hb
      conv => whnf
      refine ⟨Sub.sel [0] rfl, ?_⟩
      conv => whnf
      refine ⟨Sub.sel [0] rfl, ?_⟩
      conv => whnf
      refine LoadV.s rfl rfl ?_
      conv => whnf
      refine ⟨by omega, ?_⟩
      conv => whnf
      refine LoadV.f (v := .int .i64 (seq0 l)) (show RdC C.F ⟨xb, yb + 0, none⟩ _ from hr0) rfl ?_
      conv => whnf
      refine cond_split (fun h2 => ?_) (fun h2 => ?_)
      · conv => whnf
        repeat (first | (refine LoadV.s rfl rfl (forceV_of ?_); conv => whnf) | (refine LoadV.s rfl rfl ?_; conv => whnf) | (refine StoreV.c rfl rfl (Nat.le_of_ble_eq_true rfl) rfl ?_; conv => whnf) | (refine LoadV.a _ rfl (Nat.le_of_ble_eq_true rfl) ?_; conv => whnf) | (refine DrawI.quiet (by kernel_rfl) (by kernel_rfl) ?_; conv => whnf) | (refine ArI.in64 (by omega) ?_; conv => whnf) | (refine ArI.inU8 (by omega) ?_; conv => whnf) | (refine ArI.inU64 (by omega) ?_; conv => whnf) | (refine ArI.inU32 (by omega) ?_; conv => whnf) | (refine RetI.one Try.results57 rfl ?_; conv => whnf) | (refine RetI.two Try.results57 rfl rfl ?_; conv => whnf) | (refine RetI.three Try.results57 rfl rfl rfl ?_; conv => whnf) | (refine RetI.none Try.results57 ?_; conv => whnf) | (refine ⟨by first | decide | omega, ?_⟩; conv => whnf))
        exact ⟨_, Sub.sel [] rfl, by rw [hno (fun k => (bne_iff_ne.1 h2) k.2.1)], rfl⟩
      have e2 : q1 = seq0 l := bne_eq_false_iff_eq.1 h2
      conv => whnf
      refine LoadV.s rfl rfl ?_
      conv => whnf
      refine cond_split (fun h3 => ?_) (fun h3 => ?_)
      · conv => whnf
        repeat (first | (refine LoadV.s rfl rfl (forceV_of ?_); conv => whnf) | (refine LoadV.s rfl rfl ?_; conv => whnf) | (refine StoreV.c rfl rfl (Nat.le_of_ble_eq_true rfl) rfl ?_; conv => whnf) | (refine LoadV.a _ rfl (Nat.le_of_ble_eq_true rfl) ?_; conv => whnf) | (refine DrawI.quiet (by kernel_rfl) (by kernel_rfl) ?_; conv => whnf) | (refine ArI.in64 (by omega) ?_; conv => whnf) | (refine ArI.inU8 (by omega) ?_; conv => whnf) | (refine ArI.inU64 (by omega) ?_; conv => whnf) | (refine ArI.inU32 (by omega) ?_; conv => whnf) | (refine RetI.one Try.results57 rfl ?_; conv => whnf) | (refine RetI.two Try.results57 rfl rfl ?_; conv => whnf) | (refine RetI.three Try.results57 rfl rfl rfl ?_; conv => whnf) | (refine RetI.none Try.results57 ?_; conv => whnf) | (refine ⟨by first | decide | omega, ?_⟩; conv => whnf))
        exact ⟨_, Sub.sel [] rfl, by rw [hno (fun k => (bne_iff_ne.1 h3) k.2.2.1)], rfl⟩
      have e3 : q2 = (i : Int) := bne_eq_false_iff_eq.1 h3
      conv => whnf
      refine LoadV.s rfl rfl ?_
      conv => whnf
      refine cond_split (fun h4 => ?_) (fun h4 => ?_)
      · conv => whnf
        repeat (first | (refine LoadV.s rfl rfl (forceV_of ?_); conv => whnf) | (refine LoadV.s rfl rfl ?_; conv => whnf) | (refine StoreV.c rfl rfl (Nat.le_of_ble_eq_true rfl) rfl ?_; conv => whnf) | (refine LoadV.a _ rfl (Nat.le_of_ble_eq_true rfl) ?_; conv => whnf) | (refine DrawI.quiet (by kernel_rfl) (by kernel_rfl) ?_; conv => whnf) | (refine ArI.in64 (by omega) ?_; conv => whnf) | (refine ArI.inU8 (by omega) ?_; conv => whnf) | (refine ArI.inU64 (by omega) ?_; conv => whnf) | (refine ArI.inU32 (by omega) ?_; conv => whnf) | (refine RetI.one Try.results57 rfl ?_; conv => whnf) | (refine RetI.two Try.results57 rfl rfl ?_; conv => whnf) | (refine RetI.three Try.results57 rfl rfl rfl ?_; conv => whnf) | (refine RetI.none Try.results57 ?_; conv => whnf) | (refine ⟨by first | decide | omega, ?_⟩; conv => whnf))
        exact ⟨_, Sub.sel [] rfl, by rw [hno (fun k => (bne_iff_ne.1 h4) k.2.2.2)], rfl⟩
      have e4 : q3 = (l.length : Int) := bne_eq_false_iff_eq.1 h4
      have hG : Good l i (q1, q2, q3, q4) := ⟨hb, e2, e3, e4⟩
      conv => whnf
      refine LoadV.s rfl rfl ?_
      conv => whnf
      have hl4 := txt_length q4
      refine CallS.mk Try.call66 ⟨[_, _], [], _, Sub.sel [1, 2] rfl, fun F' hF' => sbw_ok F' b p hp g (catL (l.take i)) q4 (by omega), ?_⟩
      rintro e A' ⟨rfl, g', hg', rfl⟩
      conv => whnf
      refine ArI.to64 ((i + 1 : Nat) : Int) (by omega) (by omega) ?_
      conv => whnf
      refine ⟨(i + 1, some ⟨b, 0, none⟩, g'), _, by dsimp only; omega, Sub.refl _, ⟨by dsimp only; omega, .inr rfl, ?_, ?_, ?_⟩, ⟨rfl, rfl, rfl, rfl, rfl, trivial⟩, ?_⟩
      · dsimp only
        rw [hg', hsn, hg, List.append_eq_nil_iff]
        exact and_congr_right fun _ => by rw [← List.length_eq_zero_iff, hl4]
      · dsimp only; rw [hsn, List.length_append]; omega
      · intro j hj hj2
        dsimp only at hj
        by_cases hji : j < i
        · exact hgood j hji hj2
        · obtain rfl : j = i := by omega
          rw [← hq]; exact hG
      · dsimp only; rw [hsn]
  · obtain rfl : i = l.length := by omega
    rw [List.take_length] at hg hlen ⊢
    have hW : WholeOk l := ⟨fun e => by rw [e] at h0; simp at h0, fun j hj => hgood j hj hj⟩
    rw [whole_yes hW]
    have hg0 := hgood 0 h0 h0
    have hl255 : l.length ≤ 255 := by have := (right_le hg0.1).2; have := hg0.2.2.2; omega
    have h00 := seq0_get h0
    obtain ⟨xb, yb, rfl, hrb⟩ := ha.at (i := 0) h0
    have hr0 : RdC C.F ⟨xb, yb + 0, none⟩ (.int .i64 (l[0]).1) := hrb 0 _ (by have := flat_at pcF_length l 0 0 h0 (by decide); rw [Nat.zero_mul, Nat.zero_add] at this; rw [this]; rfl)
    rw [← h00] at hr0
    conv => whnf
    refine DrawI.mixed [4, 5, 6, 7] [] (by kernel_rfl) (by kernel_rfl) (by kernel_rfl) (by kernel_rfl) (by kernel_rfl) (Sub.sel [] rfl) ?_
    conv => whnf
    refine ⟨by omega, ?_⟩
    conv => whnf
    refine LoadV.f (v := .int .i64 (seq0 l)) (show RdC C.F ⟨xb, yb + 0, none⟩ _ from hr0) rfl ?_
    conv => whnf
    refine CallS.mk Try.call67 ⟨[_, _], _, _, Sub.split [0, 1] rfl, fun F' hF' => sbs_ok F' b p g (catL l) hg (catL_lt l) (by omega), ?_⟩
    rintro e A' ⟨rfl, rfl⟩
    conv => whnf
    refine ⟨Sub.sel [] rfl, ?_⟩
    conv => whnf
    refine ⟨Sub.sel [] rfl, ?_⟩
    conv => whnf
    refine ⟨Sub.sel [] rfl, ?_⟩
    conv => whnf
    refine ⟨Sub.sel [] rfl, ?_⟩
    conv => whnf
    repeat (first | (refine LoadV.s rfl rfl (forceV_of ?_); conv => whnf) | (refine LoadV.s rfl rfl ?_; conv => whnf) | (refine StoreV.c rfl rfl (Nat.le_of_ble_eq_true rfl) rfl ?_; conv => whnf) | (refine LoadV.a _ rfl (Nat.le_of_ble_eq_true rfl) ?_; conv => whnf) | (refine DrawI.quiet (by kernel_rfl) (by kernel_rfl) ?_; conv => whnf) | (refine ArI.in64 (by omega) ?_; conv => whnf) | (refine ArI.inU8 (by omega) ?_; conv => whnf) | (refine ArI.inU64 (by omega) ?_; conv => whnf) | (refine ArI.inU32 (by omega) ?_; conv => whnf) | (refine RetI.one Try.results57 rfl ?_; conv => whnf) | (refine RetI.two Try.results57 rfl rfl ?_; conv => whnf) | (refine RetI.three Try.results57 rfl rfl rfl ?_; conv => whnf) | (refine RetI.none Try.results57 ?_; conv => whnf) | (refine ⟨by first | decide | omega, ?_⟩; conv => whnf))
    exact ⟨_, Sub.sel [] rfl, rfl, rfl⟩
end Go.Proofs.Ytgodkfaacjllcaa

/- Texts that differ within a window. -/
namespace Go.Proofs.Ytgodkfaacjllcaa
set_option linter.unusedVariables false
set_option linter.unusedSimpArgs false
set_option maxRecDepth 100000
open SL Go.RowKit Go.Maps

/-- What the window may turn. -/
structure Win (T L : List Nat) (from_ i : Nat) : Prop where
  len : L.length = T.length
  lt : ∀ x ∈ L, x < 256
  out : ∀ j, j < from_ ∨ from_ + i ≤ j → L[j]? = T[j]?
theorem Win.set {T L : List Nat} {f i x : Nat} (h : Win T L f i) (hx : x < 256) : Win T (L.set (f + i) x) f (i + 1) :=
  ⟨by rw [List.length_set]; exact h.len, fun y hy => (List.mem_or_eq_of_mem_set hy).elim (h.lt y) (fun e => e ▸ hx), fun j hj => by rw [List.getElem?_set_ne (by omega)]; exact h.out j (by omega)⟩
theorem win_tells {s : ByteArray} {m f i : Nat} {L : List Nat} (h : Win (txt s ++ List.replicate m 0) L f i) (h4 : i ≤ 4) (hi : f + i ≤ s.size) (he : extN 0 (L.take s.size) = extN 0 (txt s)) : L.take s.size = txt s := by
  have hl := txt_length s
  have hn : L.length = s.size + m := by rw [h.len]; simp [hl]
  have hT : ∀ j, j < s.size → (txt s ++ List.replicate m 0)[j]? = (txt s)[j]? := fun j hj => List.getElem?_append_left (by omega)
  have e1 : L.take s.size = L.take f ++ (L.drop f).take i ++ ((L.take s.size).drop (f + i)) := by
    conv => lhs; rw [← List.take_append_drop (f + i) (L.take s.size)]
    rw [List.take_take, Nat.min_eq_left hi, List.take_add]
  have e2 : txt s = (txt s).take f ++ ((txt s).drop f).take i ++ ((txt s).drop (f + i)) := by
    conv => lhs; rw [← List.take_append_drop (f + i) (txt s)]
    rw [List.take_add]
  have p : L.take f = (txt s).take f := by
    apply List.ext_getElem?
    intro j
    simp only [List.getElem?_take]
    split
    · rw [h.out j (by omega), hT j (by omega)]
    · rfl
  have q : (L.take s.size).drop (f + i) = (txt s).drop (f + i) := by
    apply List.ext_getElem?
    intro j
    rw [List.getElem?_drop, List.getElem?_drop, List.getElem?_take]
    split
    · rw [h.out _ (by omega), hT _ (by omega)]
    · rw [List.getElem?_eq_none (by omega)]
  have lt := txt_lt s
  have w : (L.drop f).take i = ((txt s).drop f).take i := by
    have hcl : crc 4294967295 (L.take s.size) < 4294967296 := crc_lt _ _ (fun x hx => h.lt x (List.mem_of_mem_take hx)) (by decide)
    have hcr : crc 4294967295 (txt s) < 4294967296 := crc_lt _ _ lt (by decide)
    have hc : crc 4294967295 (L.take s.size) = crc 4294967295 (txt s) := by
      unfold extN at he
      rw [Nat.sub_zero] at he
      generalize crc 4294967295 (L.take s.size) = x at he hcl ⊢
      generalize crc 4294967295 (txt s) = y at he hcr ⊢
      omega
    rw [e1, e2, p, q] at hc
    exact crc_tells (fun x hx => lt x (List.mem_of_mem_take hx)) (fun x hx => h.lt x (List.mem_of_mem_drop (List.mem_of_mem_take hx))) (fun x hx => lt x (List.mem_of_mem_drop (List.mem_of_mem_take hx))) (fun x hx => lt x (List.mem_of_mem_drop hx)) (by simp; omega) (by simp; omega) (by decide) hc
  rw [e1, p, w, q, ← e2]
theorem putAt_byte (L : List Nat) (k x : Nat) (h : k < L.length) : putAt (bytesV L) k [.int .u8 (x : Int)] = bytesV (L.set k x) := by
  have : bytesV (L.set k x) = (bytesV L).set k (.int .u8 (x : Int)) := List.map_set
  rw [this, List.set_eq_take_append_cons_drop, if_pos (by simpa using h)]
  simp [putAt]
end Go.Proofs.Ytgodkfaacjllcaa

/- The law of blocks, as a contract. -/
namespace Go.Proofs.Ytgodkfaacjllcaa
set_option linter.unusedVariables false
set_option linter.unusedSimpArgs false
set_option maxRecDepth 100000
open SL Go.RowKit Go.Maps

theorem piece_eq {a b c a' b' c' : Int} {d d' : ByteArray} : cellsEq [.int .i64 a, .int .i64 b, .int .i64 c, .string d] [.int .i64 a', .int .i64 b', .int .i64 c', .string d'] = decide (a = a' ∧ b = b' ∧ c = c' ∧ d = d') := by
  simp only [cellsEq, vEq, Bool.and_true, toList_beq]
  rw [Bool.eq_iff_iff]
  simp
end Go.Proofs.Ytgodkfaacjllcaa

/- Spoilt blocks: the plain law. -/
namespace Go.Proofs.Ytgodkfaacjllcaa
set_option linter.unusedVariables false
set_option linter.unusedSimpArgs false
set_option maxRecDepth 100000
open SL Go.RowKit Go.Maps

theorem bytesN_inj {n m : Nat} (hn : n < 4294967296) (hm : m < 4294967296) (h : bytesN n = bytesN m) : n = m := by
  simp only [bytesN, List.cons.injEq, and_true] at h
  omega
theorem bytesN_lt {n : Nat} (hn : n < 4294967296) : ∀ x ∈ bytesN n, x < 256 := by
  intro x hx
  simp only [bytesN, List.mem_cons, List.not_mem_nil, or_false] at hx
  omega
theorem blockL_lt {x y z : Nat} {d : ByteArray} (h0 : x < 65536) (h1 : y < 256) (h2 : z < 256) (h : d.size ≤ 23) : ∀ b ∈ blockL x y z d, b < 256 := by
  intro b hb
  rcases List.mem_append.1 hb with hb | hb
  · exact bodyL_lt h0 h1 h2 h b hb
  · exact bytesN_lt (extN_lt _ _) b hb
theorem blockL_length {x y z : Nat} {d : ByteArray} (h : d.size ≤ 23) : (blockL x y z d).length = 32 := by
  rw [blockL, List.length_append, bodyL_length h]; rfl
/-- A block is taken, as its piece. -/
theorem unb_block {x y z : Nat} {d : ByteArray} (h0 : x < 65536) (h1 : y < 256) (h2 : z < 256) (hd : d.size ≤ 23) (hr : rightB (x : Int) (y : Int) (z : Int) d.size = true) :
    unbR (strB (blockL x y z d)) = ((x, y, z, d), 0) := by
  have ht : txt (strB (blockL x y z d)) = blockL x y z d := txt_strB (blockL_lt h0 h1 h2 hd)
  have hs : (strB (blockL x y z d)).size = 32 := by rw [strB_size, blockL_length hd]
  have b0 : byt (strB (blockL x y z d)) 0 = x / 256 := by unfold byt; rw [ht]; rfl
  have b1 : byt (strB (blockL x y z d)) 1 = x % 256 := by unfold byt; rw [ht]; rfl
  have b2 : byt (strB (blockL x y z d)) 2 = y := by unfold byt; rw [ht]; rfl
  have b3 : byt (strB (blockL x y z d)) 3 = z := by unfold byt; rw [ht]; rfl
  have b4 : byt (strB (blockL x y z d)) 4 = d.size := by unfold byt; rw [ht]; rfl
  have hq : rdSeq (strB (blockL x y z d)) = x := by unfold rdSeq; rw [b0, b1]; omega
  have hdd : rdData (strB (blockL x y z d)) = d := by
    apply txt_inj
    unfold rdData
    rw [b4, txt_extract, ht]
    have hl := txt_length d
    have e : (blockL x y z d).drop 5 = txt d ++ (List.replicate (23 - d.size) 0 ++ bytesN (extN 0 (bodyL x y z d))) := by
      unfold blockL bodyL headL
      simp
    rw [e, show 5 + d.size - 5 = d.size by omega, ← hl, List.take_left]
  have hT : Taken (strB (blockL x y z d)) := by
    refine ⟨hs, by omega, ?_⟩
    rw [hq, b2, b3, hdd, blockR, if_pos hr, Int.toNat_natCast, Int.toNat_natCast, Int.toNat_natCast]
  rw [unb_yes hT, hq, b2, b3, hdd]
/-- What is taken is a block. -/
theorem taken_block {s : ByteArray} (h : Taken s) : ∃ (x y z : Nat) (d : ByteArray), x < 65536 ∧ y < 256 ∧ z < 256 ∧ d.size ≤ 23 ∧ s = strB (blockL x y z d) := by
  obtain ⟨h1, h2, h3⟩ := h
  have l0 := byt_lt s 0
  have l1 := byt_lt s 1
  by_cases hr : rightB (rdSeq s : Nat) (byt s 2 : Nat) (byt s 3 : Nat) (rdData s).size = true
  · rw [blockR, if_pos hr, Int.toNat_natCast, Int.toNat_natCast, Int.toNat_natCast] at h3
    refine ⟨rdSeq s, byt s 2, byt s 3, rdData s, by unfold rdSeq; omega, byt_lt s 2, byt_lt s 3, ?_, (congrArg Prod.fst h3).symm⟩
    have : RightP (rdSeq s : Nat) (byt s 2 : Nat) (byt s 3 : Nat) (rdData s).size := of_decide_eq_true hr
    unfold RightP at this
    omega
  · rw [blockR, if_neg hr] at h3
    have := congrArg Prod.snd h3
    cases this
/-- A block that is spoilt within a window is none. -/
theorem turned {x y z x' y' z' : Nat} {d d' : ByteArray} (h0 : x < 65536) (h1 : y < 256) (h2 : z < 256) (hd : d.size ≤ 23) (h0' : x' < 65536) (h1' : y' < 256) (h2' : z' < 256) (hd' : d'.size ≤ 23) {f : Nat}
    (hf : f + 4 ≤ 28 ∨ f = 28) (hW : Win (blockL x y z d) (blockL x' y' z' d') f 4) : blockL x' y' z' d' = blockL x y z d := by
  have hl := bodyL_length (sq := x) (pt := y) (ps := z) hd
  have hl' := bodyL_length (sq := x') (pt := y') (ps := z') hd'
  have hlt := bodyL_lt h0 h1 h2 hd
  have hlt' := bodyL_lt h0' h1' h2' hd'
  unfold blockL at hW ⊢
  generalize bodyL x y z d = B at *
  generalize bodyL x' y' z' d' = B' at *
  have hB : ∀ j, j < 28 → (j < f ∨ f + 4 ≤ j) → B'[j]? = B[j]? := fun j hj ho => by
    have := hW.out j ho
    rwa [List.getElem?_append_left (by omega), List.getElem?_append_left (by omega)] at this
  rcases hf with hf | hf
  · have hN : bytesN (extN 0 B') = bytesN (extN 0 B) := by
      apply List.ext_getElem?
      intro j
      by_cases hj : j < 4
      · have := hW.out (28 + j) (by omega)
        rwa [List.getElem?_append_right (by omega), List.getElem?_append_right (by omega), hl, hl', show 28 + j - 28 = j by omega] at this
      · rw [List.getElem?_eq_none (show (bytesN (extN 0 B')).length ≤ j by show 4 ≤ j; omega), List.getElem?_eq_none (show (bytesN (extN 0 B)).length ≤ j by show 4 ≤ j; omega)]
    have he := bytesN_inj (extN_lt _ _) (extN_lt _ _) hN
    have hs : (strB B).size = 28 := by rw [strB_size, hl]
    have ht : txt (strB B) = B := txt_strB hlt
    have := win_tells (s := strB B) (m := 0) (f := f) (i := 4) (L := B') ⟨by rw [List.replicate_zero, List.append_nil, ht, hl, hl'], hlt', fun j ho => by
      rw [List.replicate_zero, List.append_nil, ht]
      by_cases hj : j < 28
      · exact hB j hj ho
      · rw [List.getElem?_eq_none (by omega), List.getElem?_eq_none (by omega)]⟩ (by omega) (by omega) (by rw [hs, ht, ← hl', List.take_length]; exact he)
    rw [hs, ht, ← hl', List.take_length] at this
    rw [this]
  · have : B' = B := by
      apply List.ext_getElem?
      intro j
      by_cases hj : j < 28
      · exact hB j hj (by omega)
      · rw [List.getElem?_eq_none (by omega), List.getElem?_eq_none (by omega)]
    rw [this]
end Go.Proofs.Ytgodkfaacjllcaa

/- A payload's pieces: the plain law; the law's own pieces. -/
namespace Go.Proofs.Ytgodkfaacjllcaa
set_option linter.unusedVariables false
set_option linter.unusedSimpArgs false
set_option maxRecDepth 100000
open SL Go.RowKit Go.Maps

theorem chunk_size (s : ByteArray) (i : Nat) : (chunk s i).size = min 23 (s.size - 23 * i) := by
  rw [← txt_length, txt_chunk, List.length_take, List.length_drop, txt_length]
/-- A frame that can be: its number, its payload. -/
def Can (seq : Int) (s : ByteArray) : Prop := 1 ≤ seq ∧ seq ≤ 65535 ∧ s.size ≤ 5865
theorem can_pieces {seq : Int} {s : ByteArray} (h : Can seq s) : piecesF seq s = ((List.range (partsI s.size).toNat).map (pcs seq s), 0) := by
  unfold Can at h
  rw [piecesF, if_neg (by omega), if_neg (by omega)]
theorem can_parts {seq : Int} {s : ByteArray} (h : Can seq s) : ∃ n : Nat, partsI (s.size : Int) = (n : Int) ∧ 1 ≤ n ∧ n ≤ 255 ∧ s.size ≤ 23 * n ∧ (23 * n ≤ s.size + 22 ∨ n = 1) := by
  unfold Can at h
  refine ⟨(partsI s.size).toNat, ?_, ?_, ?_, ?_, ?_⟩ <;> unfold partsI <;> rw [if_neg (by omega)] <;> omega
theorem can_right {seq : Int} {s : ByteArray} (h : Can seq s) : ∀ p ∈ (piecesF seq s).1, rightB p.1 p.2.1 p.2.2.1 p.2.2.2.size = true := by
  rw [can_pieces h]
  obtain ⟨n, hn, n1, n2, n3, n4⟩ := can_parts h
  intro p hp
  dsimp only at hp
  rw [hn, Int.toNat_natCast] at hp
  obtain ⟨i, hi, rfl⟩ := List.mem_map.1 hp
  have hi := List.mem_range.1 hi
  unfold Can at h
  refine decide_eq_true ?_
  unfold RightP pcs
  dsimp only
  rw [hn, chunk_size]
  refine ⟨by omega, by omega, by omega, by omega, by omega, by omega, by omega, ?_⟩
  split <;> omega
theorem pc_unb {p : Pc} (hr : rightB p.1 p.2.1 p.2.2.1 p.2.2.2.size = true) : unbV (unbR (blkP p)) = .tuple #[pieceV p.1 p.2.1 p.2.2.1 p.2.2.2, .int .i64 0] := by
  obtain ⟨a, b, c, d⟩ := p
  dsimp only at hr ⊢
  have hR : RightP a b c d.size := of_decide_eq_true hr
  unfold RightP at hR
  obtain ⟨x, rfl⟩ := Int.eq_ofNat_of_zero_le (show 0 ≤ a by omega)
  obtain ⟨y, rfl⟩ := Int.eq_ofNat_of_zero_le (show 0 ≤ b by omega)
  obtain ⟨z, rfl⟩ := Int.eq_ofNat_of_zero_le (show 0 ≤ c by omega)
  have hb : blkP ((x : Int), (y : Int), (z : Int), d) = strB (blockL x y z d) := by
    unfold blkP
    dsimp only
    rw [blockR, if_pos hr, Int.toNat_natCast, Int.toNat_natCast, Int.toNat_natCast]
  rw [hb, unb_block (by omega) (by omega) (by omega) (by omega) hr]
theorem can_cat {s : ByteArray} (seq : Int) : ∀ n, catL ((List.range n).map (pcs seq s)) = (txt s).take (23 * n)
  | 0 => rfl
  | n + 1 => by
    have ih := can_cat (s := s) seq n
    have e : catL ((List.range (n + 1)).map (pcs seq s)) = catL ((List.range n).map (pcs seq s)) ++ txt (chunk s n) := by
      unfold catL
      rw [List.range_succ, List.map_append, List.flatMap_append]; simp [pcs]
    rw [e, ih, txt_chunk, show 23 * (n + 1) = 23 * n + 23 by omega, List.take_add]
theorem can_whole {seq : Int} {s : ByteArray} (h : Can seq s) : WholeOk (piecesF seq s).1 ∧ wholeR (piecesF seq s).1 = (seq, s, 0) := by
  have hr := can_right h
  obtain ⟨n, hn, n1, n2, n3, n4⟩ := can_parts h
  have hp := can_pieces h
  rw [hn, Int.toNat_natCast] at hp
  rw [hp] at hr ⊢
  dsimp only at hr ⊢
  have hl : ((List.range n).map (pcs seq s)).length = n := by simp
  have hs0 : seq0 ((List.range n).map (pcs seq s)) = seq := by rw [seq0_get (by omega)]; simp [pcs]
  have hW : WholeOk ((List.range n).map (pcs seq s)) := by
    refine ⟨fun e => by rw [e] at hl; simp at hl; omega, fun i hi => ⟨hr _ (List.getElem_mem hi), ?_, ?_, ?_⟩⟩
    · rw [hs0]; simp [pcs]
    · simp [pcs]
    · simp [pcs, hn]
  refine ⟨hW, ?_⟩
  have hls := txt_length s
  rw [whole_yes hW, hs0, can_cat, List.take_of_length_le (by omega), strB_txt]
theorem blkP_size {p : Pc} (hr : rightB p.1 p.2.1 p.2.2.1 p.2.2.2.size = true) : (blkP p).size ≤ 32 := by
  unfold blkP
  rw [blockR, if_pos hr]
  have hR : RightP p.1 p.2.1 p.2.2.1 p.2.2.2.size := of_decide_eq_true hr
  unfold RightP at hR
  rw [strB_size, blockL_length (by omega)]
  exact Nat.le_refl _
end Go.Proofs.Ytgodkfaacjllcaa

/- The law of frames there and back, as a contract. -/
namespace Go.Proofs.Ytgodkfaacjllcaa
set_option linter.unusedVariables false
set_option linter.unusedSimpArgs false
set_option maxRecDepth 100000
open SL Go.RowKit Go.Maps

theorem pc_row (l : List Pc) (i : Nat) (hil : i < l.length) : ((l.flatMap pcF).drop (i * 4)).take 4 = pcF (l[i]) := by
  apply List.ext_getElem?
  intro j
  rw [List.getElem?_take]
  by_cases hj : j < 4
  · rw [if_pos hj, List.getElem?_drop, flat_at pcF_length l i j hil hj]
  · rw [if_neg hj, List.getElem?_eq_none (by rw [pcF_length]; omega)]
end Go.Proofs.Ytgodkfaacjllcaa

/- The reference's frames put together: the plain law. -/
namespace Go.Proofs.Ytgodkfaacjllcaa
set_option linter.unusedVariables false
set_option linter.unusedSimpArgs false
set_option maxRecDepth 100000
open SL Go.RowKit Go.Maps

theorem ok_sizes {l : List Pc} (h : WholeOk l) : ∀ i, ∀ hi : i < l.length, (l[i]).2.2.2.size ≤ 23 ∧ (i + 1 < l.length → (l[i]).2.2.2.size = 23) ∧ (i + 1 = l.length → (l[i]).2.2.2.size = 0 → l.length = 1) := by
  intro i hi
  obtain ⟨h1, h2, h3, h4⟩ := h.2 i hi
  have hR : RightP (l[i]).1 (l[i]).2.1 (l[i]).2.2.1 (l[i]).2.2.2.size := of_decide_eq_true h1
  rw [h3, h4] at hR
  unfold RightP at hR
  obtain ⟨_, _, _, _, _, _, h23, hlast⟩ := hR
  refine ⟨h23, fun hl => ?_, fun hl => ?_⟩
  · rw [if_neg (by omega)] at hlast; exact hlast
  · rw [if_pos (by omega)] at hlast
    intro h0
    have := hlast h0
    omega
theorem ok_cat {l : List Pc} (h : WholeOk l) : ∀ i, i < l.length → (catL (l.take i)).length = 23 * i
  | 0, _ => by simp [catL]
  | i + 1, hi => by
    have ih := ok_cat h i (by omega)
    have hs := (ok_sizes h i (by omega)).2.1 hi
    rw [catL_snoc l i (by omega), List.length_append, ih, txt_length, hs]; omega
theorem cat_split (l : List Pc) (i : Nat) (hi : i < l.length) : catL l = catL (l.take i) ++ (txt (l[i]).2.2.2 ++ catL (l.drop (i + 1))) := by
  unfold catL
  conv => lhs; rw [← List.take_append_drop i l, List.flatMap_append, List.drop_eq_getElem_cons hi, List.flatMap_cons]
theorem ok_total {l : List Pc} (h : WholeOk l) : ∃ k, (catL l).length = 23 * (l.length - 1) + k ∧ k ≤ 23 ∧ (k = 0 → l.length = 1) := by
  have hp := List.length_pos_iff.2 h.1
  obtain ⟨s1, _, s3⟩ := ok_sizes h (l.length - 1) (by omega)
  refine ⟨(l[l.length - 1]).2.2.2.size, ?_, s1, s3 (by omega)⟩
  rw [cat_split l (l.length - 1) (by omega), List.length_append, ok_cat h _ (by omega), List.length_append, txt_length, List.drop_of_length_le (by omega)]
  simp [catL]
theorem ok_len {l : List Pc} (h : WholeOk l) : l.length ≤ 255 := by
  have hp := List.length_pos_iff.2 h.1
  obtain ⟨h1, _, _, h4⟩ := h.2 0 hp
  have := (right_le h1).2
  omega
theorem ok_seq {l : List Pc} (h : WholeOk l) : 1 ≤ seq0 l ∧ seq0 l ≤ 65535 := by
  have hp := List.length_pos_iff.2 h.1
  obtain ⟨h1, h2, _, _⟩ := h.2 0 hp
  have hR : RightP (l[0]).1 (l[0]).2.1 (l[0]).2.2.1 (l[0]).2.2.2.size := of_decide_eq_true h1
  unfold RightP at hR
  rw [h2] at hR
  omega
/-- What can be put together is its text's pieces. -/
theorem ok_pieces {l : List Pc} (h : WholeOk l) : piecesF (seq0 l) (strB (catL l)) = (l, 0) := by
  have hp := List.length_pos_iff.2 h.1
  obtain ⟨k, ht, k1, k2⟩ := ok_total h
  have h255 := ok_len h
  have hq := ok_seq h
  have hsz : (strB (catL l)).size = 23 * (l.length - 1) + k := by rw [strB_size, ht]
  have hC : Can (seq0 l) (strB (catL l)) := ⟨hq.1, hq.2, by omega⟩
  have hn : partsI ((strB (catL l)).size : Int) = (l.length : Int) := by unfold partsI; rw [if_neg (by omega)]; omega
  rw [can_pieces hC, hn, Int.toNat_natCast]
  congr 1
  apply List.ext_getElem
  · simp
  · intro i h1 h2
    simp only [List.getElem_map, List.getElem_range]
    obtain ⟨_, g2, g3, g4⟩ := h.2 i h2
    obtain ⟨s1, s2, _⟩ := ok_sizes h i h2
    have hch : chunk (strB (catL l)) i = (l[i]).2.2.2 := by
      apply txt_inj
      rw [txt_chunk, txt_strB (catL_lt l), cat_split l i h2, List.drop_left' (ok_cat h i h2)]
      have hl := txt_length (l[i]).2.2.2
      by_cases hlast : i + 1 < l.length
      · rw [List.take_left' (by rw [hl]; exact s2 hlast)]
      · rw [List.drop_of_length_le (by omega)]
        simp only [catL, List.flatMap_nil, List.append_nil]
        exact List.take_of_length_le (by omega)
    unfold pcs
    rw [hch, hn, ← g2, ← g3]
    conv => rhs; rw [show l[i] = ((l[i]).1, (l[i]).2.1, (l[i]).2.2.1, (l[i]).2.2.2) from rfl, g4]
/-- The reference's test. -/
theorem pieces_ok_iff {l : List Pc} : WholeOk l ↔ piecesF (seq0 l) (strB (catL l)) = (l, 0) := by
  refine ⟨ok_pieces, fun h => ?_⟩
  have hC : Can (seq0 l) (strB (catL l)) := by
    unfold piecesF at h
    unfold Can
    split at h
    · have := congrArg Prod.snd h; cases this
    · split at h
      · have := congrArg Prod.snd h; cases this
      · omega
  have := (can_whole hC).1
  rwa [h] at this
end Go.Proofs.Ytgodkfaacjllcaa

/- The reference's frames put together, as a contract. -/
namespace Go.Proofs.Ytgodkfaacjllcaa
set_option linter.unusedVariables false
set_option linter.unusedSimpArgs false
set_option maxRecDepth 100000
open SL Go.RowKit Go.Maps

set_option maxHeartbeats 4000000 in
theorem rwhole_ok (F : Mem) (oa : Option Addr) (ca : Nat) (l : List Pc) (ha : SlF F 4 oa l.length (l.flatMap pcF)) (hn : l.length ≤ 9223372036854775807) :
    FT Try.prog 46 [.slice oa l.length ca].toArray F [] (Ret (.tuple #[.int .i64 (wholeR l).1, .string (wholeR l).2.1, .int .i64 (wholeR l).2.2])) := by
  refine FT.of_body Try.func46 rfl Try.ntmps46 (by simp) fun C hC => ?_
  subst hC
  conv => whnf
  refine cond_split (fun h => ?_) (fun h => ?_)
  · have h0 : l.length = 0 := by have := eq_of_beq h; omega
    conv => whnf
    repeat (first | (refine LoadV.s rfl rfl (forceV_of ?_); conv => whnf) | (refine LoadV.s rfl rfl ?_; conv => whnf) | (refine StoreV.c rfl rfl (Nat.le_of_ble_eq_true rfl) rfl ?_; conv => whnf) | (refine LoadV.a _ rfl (Nat.le_of_ble_eq_true rfl) ?_; conv => whnf) | (refine DrawI.quiet (by kernel_rfl) (by kernel_rfl) ?_; conv => whnf) | (refine ArI.in64 (by omega) ?_; conv => whnf) | (refine ArI.inU8 (by omega) ?_; conv => whnf) | (refine ArI.inU64 (by omega) ?_; conv => whnf) | (refine ArI.inU32 (by omega) ?_; conv => whnf) | (refine RetI.one Try.results46 rfl ?_; conv => whnf) | (refine RetI.two Try.results46 rfl rfl ?_; conv => whnf) | (refine RetI.three Try.results46 rfl rfl rfl ?_; conv => whnf) | (refine RetI.none Try.results46 ?_; conv => whnf) | (refine ⟨by first | decide | omega, ?_⟩; conv => whnf))
    exact ⟨_, Sub.sel [] rfl, by rw [whole_no (fun k => k.1 (List.length_eq_zero_iff.1 h0))], rfl⟩
  have h0 : 0 < l.length := by have := beq_eq_false_iff_ne.1 h; omega
  conv => whnf
  refine cond_dec (fun h2 => ?_) (fun h2 => ?_)
  · conv => whnf
    repeat (first | (refine LoadV.s rfl rfl (forceV_of ?_); conv => whnf) | (refine LoadV.s rfl rfl ?_; conv => whnf) | (refine StoreV.c rfl rfl (Nat.le_of_ble_eq_true rfl) rfl ?_; conv => whnf) | (refine LoadV.a _ rfl (Nat.le_of_ble_eq_true rfl) ?_; conv => whnf) | (refine DrawI.quiet (by kernel_rfl) (by kernel_rfl) ?_; conv => whnf) | (refine ArI.in64 (by omega) ?_; conv => whnf) | (refine ArI.inU8 (by omega) ?_; conv => whnf) | (refine ArI.inU64 (by omega) ?_; conv => whnf) | (refine ArI.inU32 (by omega) ?_; conv => whnf) | (refine RetI.one Try.results46 rfl ?_; conv => whnf) | (refine RetI.two Try.results46 rfl rfl ?_; conv => whnf) | (refine RetI.three Try.results46 rfl rfl rfl ?_; conv => whnf) | (refine RetI.none Try.results46 ?_; conv => whnf) | (refine ⟨by first | decide | omega, ?_⟩; conv => whnf))
    exact ⟨_, Sub.sel [] rfl, by rw [whole_no (fun k => by have := ok_len k; omega)], rfl⟩
  conv => whnf
  refine LoopI.by_state (σ := Nat) (fun i => [(0, .slice oa l.length ca), (5, .string (strB (catL (l.take i)))), (19, .slice oa l.length ca), (20, .int .i64 (l.length : Int)), (21, .int .i64 (i : Int))])
    (fun _ => []) (fun i => i ≤ l.length ∧ (catL (l.take i)).length ≤ 23 * i) (fun i => l.length - i) 0 ⟨by omega, by simp [catL]⟩ ⟨rfl, rfl, rfl, rfl, rfl, trivial⟩ (Sub.refl _) ?_
  rintro i f0 ⟨hi, hlen⟩
  conv => whnf
  refine cond_dec (fun h1 => ?_) (fun h1 => ?_)
  · have hil : i < l.length := by omega
    obtain ⟨xb, yb, rfl, hrb⟩ := ha.at (i := i) hil
    conv => whnf
    refine ⟨by omega, ?_⟩
    conv => whnf
    refine LoadV.fa (cs := pcF (l[i])) (flat_row pcF_length hrb hil rfl) rfl ?_
    conv => whnf
    intro b3
    conv => whnf
    have hno : rightB (l[i]).1 (l[i]).2.1 (l[i]).2.2.1 (l[i]).2.2.2.size = false → ¬ WholeOk l := fun hf k => by have := (k.2 i hil).1; rw [hf] at this; cases this
    have hsn := catL_snoc l i hil
    generalize l[i] = q at hno hsn ⊢
    obtain ⟨q1, q2, q3, q4⟩ := q
    dsimp only at hno hsn
    refine StoreV.c rfl rfl (Nat.le_of_ble_eq_true rfl) rfl ?_
    conv => whnf
    refine LoadV.a _ rfl (Nat.le_of_ble_eq_true rfl) ?_
    conv => whnf
    refine CallS.mk Try.call54 ⟨[], _, _, Sub.refl _, fun F' hF' => rright_ok F' q1 q2 q3 q4, ?_⟩
    rintro e A' ⟨rfl, rfl⟩
    cases hb : rightB q1 q2 q3 q4.size with
    | false =>
      conv => whnf
      repeat (first | (refine LoadV.s rfl rfl (forceV_of ?_); conv => whnf) | (refine LoadV.s rfl rfl ?_; conv => whnf) | (refine StoreV.c rfl rfl (Nat.le_of_ble_eq_true rfl) rfl ?_; conv => whnf) | (refine LoadV.a _ rfl (Nat.le_of_ble_eq_true rfl) ?_; conv => whnf) | (refine DrawI.quiet (by kernel_rfl) (by kernel_rfl) ?_; conv => whnf) | (refine ArI.in64 (by omega) ?_; conv => whnf) | (refine ArI.inU8 (by omega) ?_; conv => whnf) | (refine ArI.inU64 (by omega) ?_; conv => whnf) | (refine ArI.inU32 (by omega) ?_; conv => whnf) | (refine RetI.one Try.results46 rfl ?_; conv => whnf) | (refine RetI.two Try.results46 rfl rfl ?_; conv => whnf) | (refine RetI.three Try.results46 rfl rfl rfl ?_; conv => whnf) | (refine RetI.none Try.results46 ?_; conv => whnf) | (refine ⟨by first | decide | omega, ?_⟩; conv => whnf))
      exact ⟨_, Sub.sel [] rfl, by rw [whole_no (hno hb)], rfl⟩
    | true =>
      have hrl := right_le hb
      have hl4 := txt_length q4
      have hadd : strB (catL (l.take i)) ++ q4 = strB (catL (l.take (i + 1))) := by
        rw [hsn, ← strB_append, strB_txt]
      conv => whnf
      refine LoadV.s rfl rfl ?_
      conv => whnf
      refine ⟨by rw [strB_size]; show (catL (l.take i)).length + q4.size ≤ _; omega, ?_⟩
      rw [hadd]
      conv => whnf
      refine ArI.to64 ((i + 1 : Nat) : Int) (by omega) (by omega) ?_
      conv => whnf
      exact ⟨i + 1, _, by omega, Sub.sel [] rfl, ⟨by omega, by rw [hsn, List.length_append]; omega⟩, ⟨rfl, rfl, rfl, rfl, rfl, trivial⟩, rfl⟩
  obtain rfl : i = l.length := by omega
  rw [List.take_length] at hlen ⊢
  have h00 := seq0_get h0
  have hiff := @pieces_ok_iff l
  have hsz : (strB (catL l)).size ≤ 9223372036854775807 := by rw [strB_size]; omega
  have hpc := fun (F' : Mem) => rpieces_ok F' (seq0 l) (strB (catL l)) hsz
  have hyes : WholeOk l → wholeR l = (seq0 l, strB (catL l), 0) := whole_yes
  generalize strB (catL l) = S at hiff hpc hyes ⊢
  generalize piecesF (seq0 l) S = P at hiff hpc
  obtain ⟨lp, er⟩ := P
  dsimp only at hpc
  obtain ⟨xb, yb, rfl, hrb⟩ := ha.at (i := 0) h0
  have hr0 : RdC C.F ⟨xb, yb + 0, none⟩ (.int .i64 (l[0]).1) := hrb 0 _ (by have := flat_at pcF_length l 0 0 h0 (by decide); rw [Nat.zero_mul, Nat.zero_add] at this; rw [this]; rfl)
  rw [← h00] at hr0
  conv => whnf
  refine ⟨by omega, ?_⟩
  conv => whnf
  refine LoadV.f (v := .int .i64 (seq0 l)) (show RdC C.F ⟨xb, yb + 0, none⟩ _ from hr0) rfl ?_
  conv => whnf
  refine CallS.mk Try.call55 ⟨[], _, _, Sub.refl _, fun F' hF' => hpc F', ?_⟩
  rintro e A' ⟨g, hg, rfl, rfl⟩
  conv => whnf
  refine cond_split (fun h3 => ?_) (fun h3 => ?_)
  · conv => whnf
    repeat (first | (refine LoadV.s rfl rfl (forceV_of ?_); conv => whnf) | (refine LoadV.s rfl rfl ?_; conv => whnf) | (refine StoreV.c rfl rfl (Nat.le_of_ble_eq_true rfl) rfl ?_; conv => whnf) | (refine LoadV.a _ rfl (Nat.le_of_ble_eq_true rfl) ?_; conv => whnf) | (refine DrawI.quiet (by kernel_rfl) (by kernel_rfl) ?_; conv => whnf) | (refine ArI.in64 (by omega) ?_; conv => whnf) | (refine ArI.inU8 (by omega) ?_; conv => whnf) | (refine ArI.inU64 (by omega) ?_; conv => whnf) | (refine ArI.inU32 (by omega) ?_; conv => whnf) | (refine RetI.one Try.results46 rfl ?_; conv => whnf) | (refine RetI.two Try.results46 rfl rfl ?_; conv => whnf) | (refine RetI.three Try.results46 rfl rfl rfl ?_; conv => whnf) | (refine RetI.none Try.results46 ?_; conv => whnf) | (refine ⟨by first | decide | omega, ?_⟩; conv => whnf))
    exact ⟨_, Sub.sel [] rfl, by rw [whole_no (fun k => bne_iff_ne.1 h3 (congrArg Prod.snd (hiff.1 k)))], rfl⟩
  have her : er = 0 := bne_eq_false_iff_eq.1 h3
  conv => whnf
  refine cond_split (fun h4 => ?_) (fun h4 => ?_)
  · conv => whnf
    repeat (first | (refine LoadV.s rfl rfl (forceV_of ?_); conv => whnf) | (refine LoadV.s rfl rfl ?_; conv => whnf) | (refine StoreV.c rfl rfl (Nat.le_of_ble_eq_true rfl) rfl ?_; conv => whnf) | (refine LoadV.a _ rfl (Nat.le_of_ble_eq_true rfl) ?_; conv => whnf) | (refine DrawI.quiet (by kernel_rfl) (by kernel_rfl) ?_; conv => whnf) | (refine ArI.in64 (by omega) ?_; conv => whnf) | (refine ArI.inU8 (by omega) ?_; conv => whnf) | (refine ArI.inU64 (by omega) ?_; conv => whnf) | (refine ArI.inU32 (by omega) ?_; conv => whnf) | (refine RetI.one Try.results46 rfl ?_; conv => whnf) | (refine RetI.two Try.results46 rfl rfl ?_; conv => whnf) | (refine RetI.three Try.results46 rfl rfl rfl ?_; conv => whnf) | (refine RetI.none Try.results46 ?_; conv => whnf) | (refine ⟨by first | decide | omega, ?_⟩; conv => whnf))
    exact ⟨_, Sub.sel [] rfl, by rw [whole_no (fun k => by have := congrArg Prod.fst (hiff.1 k); dsimp only at this; rw [this] at h4; simp at h4)], rfl⟩
  have hll : lp.length = l.length := by have := bne_eq_false_iff_eq.1 h4; omega
  conv => whnf
  refine LoopI.by_state (σ := Nat) (fun i => [(0, .slice (some ⟨xb, yb, none⟩) l.length ca), (5, .string S), (8, svOf g lp.length), (52, .int .i64 (lp.length : Int)), (53, .int .i64 (i : Int))])
    (fun _ => [.own (svOf g lp.length) lp.length 94 4 (lp.flatMap pcF)]) (fun i => i ≤ lp.length ∧ lp.take i = l.take i) (fun i => lp.length - i) 0 ⟨by omega, by simp⟩ ⟨rfl, rfl, rfl, rfl, rfl, trivial⟩ (Sub.refl _) ?_
  rintro j f1 ⟨hj, hte⟩
  conv => whnf
  refine cond_dec (fun h5 => ?_) (fun h5 => ?_)
  · have hjl : j < lp.length := by omega
    have hjl2 : j < l.length := by omega
    obtain ⟨gb, gc, rfl⟩ := gsome hg (by intro e; rw [e] at hjl; simp at hjl)
    conv => whnf
    refine DrawI.quiet (by kernel_rfl) (by kernel_rfl) ?_
    conv => whnf
    refine ⟨by omega, ?_⟩
    conv => whnf
    refine LoadV.oa 4 rfl (by show 0 + j * 4 + 4 ≤ (lp.flatMap pcF).length; rw [flat_length pcF_length]; omega) ?_
    rw [show ((lp.flatMap pcF).drop (elemOff 0 (j : Int) Try.prog.types[94].size)).take 4 = pcF (lp[j]) by show ((lp.flatMap pcF).drop (0 + j * 4)).take 4 = _; rw [Nat.zero_add]; exact pc_row lp j hjl]
    conv => whnf
    refine ⟨by omega, ?_⟩
    conv => whnf
    refine LoadV.fa (cs := pcF (l[j])) (flat_row pcF_length hrb hjl2 rfl) rfl ?_
    conv => whnf
    refine EqV.neq (d := 3) (ks := [.i .i64, .i .i64, .i .i64, .s]) (by kernel_rfl) rfl (by kernel_rfl) rfl rfl rfl ?_
    rw [piece_eq]
    by_cases hq : (lp[j]).1 = (l[j]).1 ∧ (lp[j]).2.1 = (l[j]).2.1 ∧ (lp[j]).2.2.1 = (l[j]).2.2.1 ∧ (lp[j]).2.2.2 = (l[j]).2.2.2
    · rw [decide_eq_true hq]
      have hqq : lp[j] = l[j] := Prod.ext hq.1 (Prod.ext hq.2.1 (Prod.ext hq.2.2.1 hq.2.2.2))
      conv => whnf
      refine ArI.to64 ((j + 1 : Nat) : Int) (by omega) (by omega) ?_
      conv => whnf
      exact ⟨j + 1, _, by omega, Sub.refl _, ⟨by omega, take_eq_step hte hjl hjl2 hqq⟩, ⟨rfl, rfl, rfl, rfl, rfl, trivial⟩, rfl⟩
    · rw [decide_eq_false hq]
      conv => whnf
      repeat (first | (refine LoadV.s rfl rfl (forceV_of ?_); conv => whnf) | (refine LoadV.s rfl rfl ?_; conv => whnf) | (refine StoreV.c rfl rfl (Nat.le_of_ble_eq_true rfl) rfl ?_; conv => whnf) | (refine LoadV.a _ rfl (Nat.le_of_ble_eq_true rfl) ?_; conv => whnf) | (refine DrawI.quiet (by kernel_rfl) (by kernel_rfl) ?_; conv => whnf) | (refine ArI.in64 (by omega) ?_; conv => whnf) | (refine ArI.inU8 (by omega) ?_; conv => whnf) | (refine ArI.inU64 (by omega) ?_; conv => whnf) | (refine ArI.inU32 (by omega) ?_; conv => whnf) | (refine RetI.one Try.results46 rfl ?_; conv => whnf) | (refine RetI.two Try.results46 rfl rfl ?_; conv => whnf) | (refine RetI.three Try.results46 rfl rfl rfl ?_; conv => whnf) | (refine RetI.none Try.results46 ?_; conv => whnf) | (refine ⟨by first | decide | omega, ?_⟩; conv => whnf))
      exact ⟨_, Sub.sel [] rfl, by rw [whole_no (fun k => hq (by have e := congrArg Prod.fst (hiff.1 k); dsimp only at e; subst e; exact ⟨rfl, rfl, rfl, rfl⟩))], rfl⟩
  · obtain rfl : j = lp.length := by omega
    have hlp : lp = l := by rw [List.take_length, hll, List.take_length] at hte; exact hte
    have hW : WholeOk l := hiff.2 (by rw [hlp, her])
    rw [hyes hW]
    conv => whnf
    refine ⟨by omega, ?_⟩
    conv => whnf
    refine LoadV.f (v := .int .i64 (seq0 l)) (show RdC C.F ⟨xb, yb + 0, none⟩ _ from hr0) rfl ?_
    conv => whnf
    repeat (first | (refine LoadV.s rfl rfl (forceV_of ?_); conv => whnf) | (refine LoadV.s rfl rfl ?_; conv => whnf) | (refine StoreV.c rfl rfl (Nat.le_of_ble_eq_true rfl) rfl ?_; conv => whnf) | (refine LoadV.a _ rfl (Nat.le_of_ble_eq_true rfl) ?_; conv => whnf) | (refine DrawI.quiet (by kernel_rfl) (by kernel_rfl) ?_; conv => whnf) | (refine ArI.in64 (by omega) ?_; conv => whnf) | (refine ArI.inU8 (by omega) ?_; conv => whnf) | (refine ArI.inU64 (by omega) ?_; conv => whnf) | (refine ArI.inU32 (by omega) ?_; conv => whnf) | (refine RetI.one Try.results46 rfl ?_; conv => whnf) | (refine RetI.two Try.results46 rfl rfl ?_; conv => whnf) | (refine RetI.three Try.results46 rfl rfl rfl ?_; conv => whnf) | (refine RetI.none Try.results46 ?_; conv => whnf) | (refine ⟨by first | decide | omega, ?_⟩; conv => whnf))
    exact ⟨_, Sub.sel [] rfl, rfl, rfl⟩
end Go.Proofs.Ytgodkfaacjllcaa

/- The disk: its simple functions. -/
namespace Go.Proofs.Ytgodkfaacjllcaa
set_option linter.unusedVariables false
set_option linter.unusedSimpArgs false
set_option maxRecDepth 100000
open SL Go.RowKit Go.Maps

abbrev fkI : Int → Value := fun a => .int .i64 a
abbrev fvS : ByteArray → Value := fun s => .string s
abbrev MapS (es : Array MapEntry) (clock : Nat) (m : List (Int × ByteArray)) : Prop := MapOk Try.prog 3 fkI fvS es clock m
theorem fkI_inj : ∀ a b, fkI a = fkI b → a = b := fun a b h => by cases h; rfl
theorem keyed3 : Keyed Try.prog 3 := int_keyed Try.underlying3
abbrev logCells (lg : List (Int × ByteArray)) : List Value := lg.flatMap fun p => [.int .i64 p.1, .string p.2]
/-- The disk's own memory. -/
abbrev diskH (d rf rb : Nat) (o1 o2 : Obj) (sv : Value) (lg : List (Int × ByteArray)) (on : Bool) (left : Int) : Heap :=
  [.cells d [.map (some rf), .map (some rb), sv, .bool on, .int .i64 left] 82 (0, 0), .obj rf o1, .obj rb o2, .own sv lg.length 85 2 (logCells lg)]

theorem clone_ok (F : Mem) (r : Nat) (es : Array MapEntry) (clock : Nat) : FT Try.prog 37 [.map (some r)].toArray F [.obj r (.map es clock)] (fun e H => ∃ b, e = .returned (.map (some b)) ∧ H = [.obj b (.map es clock), .obj r (.map es clock)]) := by
  refine FT.of_body Try.func37 rfl Try.ntmps37 (by simp) fun C hC => ?_
  conv => whnf
  refine CallS.mapsClone Try.func50 (by kernel_rfl) (by kernel_rfl) (by kernel_rfl) (by kernel_rfl) ?_
  intro b
  conv => whnf
  refine RetI.one Try.results37 rfl ?_
  conv => whnf
  exact ⟨_, Sub.refl _, b, rfl, rfl⟩
theorem with_ok (F : Mem) (r : Nat) (es : Array MapEntry) (clock : Nat) : FT Try.prog 32 [.map (some r)].toArray F [.obj r (.map es clock)] (fun e H => ∃ d rb, e = .returned (.pointer (some ⟨d, 0, none⟩)) ∧ H = diskH d r rb (.map es clock) (.map es clock) (.slice none 0 0) [] true (-1)) := by
  refine FT.of_body Try.func32 rfl Try.ntmps32 (by simp) fun C hC => ?_
  conv => whnf
  refine CallS.mk Try.call37 ⟨[_], [], _, Sub.split [0] rfl, fun F' _ => clone_ok F' r es clock, ?_⟩
  rintro e A' ⟨b, rfl, rfl⟩
  conv => whnf
  intro d
  conv => whnf
  refine RetI.one Try.results32 rfl ?_
  conv => whnf
  exact ⟨_, Sub.trans (Sub.nil 85 2) (Sub.sel [1, 3, 2, 0] rfl), d, b, rfl, rfl⟩
theorem new_ok (F : Mem) : FT Try.prog 11 [].toArray F [] (fun e H => ∃ d r rb, e = .returned (.pointer (some ⟨d, 0, none⟩)) ∧ H = diskH d r rb (.map #[] 0) (.map #[] 0) (.slice none 0 0) [] true (-1)) := by
  refine FT.of_body Try.func11 rfl Try.ntmps11 (by simp) fun C hC => ?_
  conv => whnf
  intro r
  conv => whnf
  refine CallS.mk Try.call32 ⟨[_], [], _, Sub.split [0] rfl, fun F' _ => with_ok F' r _ _, ?_⟩
  rintro e A' ⟨d, rb, rfl, rfl⟩
  conv => whnf
  refine RetI.one Try.results11 rfl ?_
  conv => whnf
  exact ⟨_, Sub.refl _, d, r, rb, rfl, rfl⟩
theorem on_ok (F : Mem) (d : Nat) (x y sv : Value) (on : Bool) (l : Int) : FT Try.prog 17 [.pointer (some ⟨d, 0, none⟩)].toArray F [.cells d [x, y, sv, .bool on, .int .i64 l] 82 (0, 0)]
    (fun e H => e = .returned (.bool on) ∧ H = [.cells d [x, y, sv, .bool on, .int .i64 l] 82 (0, 0)]) := by
  refine FT.of_body Try.func17 rfl Try.ntmps17 (by simp) fun C hC => ?_
  conv => whnf
  refine LoadV.s rfl rfl ?_
  conv => whnf
  refine RetI.one Try.results17 rfl ?_
  conv => whnf
  exact ⟨_, Sub.refl _, rfl, rfl⟩
theorem off_ok (F : Mem) (d : Nat) (x y sv : Value) (on : Bool) (l : Int) : FT Try.prog 41 [.pointer (some ⟨d, 0, none⟩)].toArray F [.cells d [x, y, sv, .bool on, .int .i64 l] 82 (0, 0)]
    (fun e H => e = .returned (.tuple #[]) ∧ H = [.cells d [x, y, sv, .bool false, .int .i64 l] 82 (0, 0)]) := by
  refine FT.of_body Try.func41 rfl Try.ntmps41 (by simp) fun C hC => ?_
  conv => whnf
  refine StoreV.c rfl rfl (Nat.le_of_ble_eq_true rfl) rfl ?_
  conv => whnf
  refine RetI.none Try.results41 ?_
  exact ⟨_, Sub.refl _, rfl, rfl⟩
theorem up_ok (F : Mem) (d : Nat) (x y sv : Value) (on : Bool) (l n : Int) : FT Try.prog 13 [.pointer (some ⟨d, 0, none⟩), .int .i64 n].toArray F [.cells d [x, y, sv, .bool on, .int .i64 l] 82 (0, 0)]
    (fun e H => e = .returned (.tuple #[]) ∧ H = [.cells d [x, y, sv, .bool (n != 0), .int .i64 n] 82 (0, 0)]) := by
  refine FT.of_body Try.func13 rfl Try.ntmps13 (by simp) fun C hC => ?_
  conv => whnf
  refine StoreV.c rfl rfl (Nat.le_of_ble_eq_true rfl) rfl ?_
  conv => whnf
  refine StoreV.c rfl rfl (Nat.le_of_ble_eq_true rfl) rfl ?_
  conv => whnf
  refine RetI.none Try.results13 ?_
  exact ⟨_, Sub.refl _, rfl, rfl⟩
/-- What a reading answers. -/
def readV (on : Bool) (m : List (Int × ByteArray)) (at_ : Int) : ByteArray × Int :=
  if on = false then (⟨#[]⟩, 11) else if at_ < 0 ∨ at_ ≥ 2048 then (⟨#[]⟩, 8) else ((lookM m at_).getD ⟨#[]⟩, 0)
end Go.Proofs.Ytgodkfaacjllcaa

/- The disk: writing, the log, the image, cutting. -/
namespace Go.Proofs.Ytgodkfaacjllcaa
set_option linter.unusedVariables false
set_option linter.unusedSimpArgs false
set_option maxRecDepth 100000
open SL Go.RowKit Go.Maps

/-- What a writing answers. -/
def wcode (on : Bool) (at_ : Int) (s : ByteArray) : Int :=
  if on = false then 11 else if at_ < 0 ∨ at_ ≥ 2048 then 8 else if s.size > 32 then 9 else 0
def wLeft (left : Int) : Int := if left > 0 then left - 1 else left
def wOn (left : Int) : Bool := if left > 0 then decide (left - 1 > 0) else true
theorem logCells_append (l : List (Int × ByteArray)) (p : Int × ByteArray) : logCells (l ++ [p]) = logCells l ++ [.int .i64 p.1, .string p.2] := by simp [logCells]
theorem logCells_length (l : List (Int × ByteArray)) : (logCells l).length = l.length * 2 := by
  induction l with
  | nil => rfl
  | cons p l ih => simp only [logCells, List.flatMap_cons, List.length_append, List.length_cons, List.length_nil] at ih ⊢; omega
theorem key_wf {a : Int} (h0 : -9223372036854775808 ≤ a) (h1 : a ≤ 9223372036854775807) : keyOf Try.prog 3 (fkI a) = some (.int .i64 a) :=
  keyOf_int_mk Try.underlying3 (by simp [Lit.wf, IntKind.min, IntKind.max, IntKind.signed, IntKind.bits]; omega)
theorem diskH_push (d rf rb : Nat) (o1 o2 : Obj) (sv : Value) (lg : List (Int × ByteArray)) (p : Int × ByteArray) (on : Bool) (l : Int) : diskH d rf rb o1 o2 sv (lg ++ [p]) on l =
    [.cells d [.map (some rf), .map (some rb), sv, .bool on, .int .i64 l] 82 (0, 0), .obj rf o1, .obj rb o2, .own sv (lg.length + 1) 85 2 (logCells lg ++ [.int .i64 p.1, .string p.2])] := by
  simp [diskH, logCells]
theorem write_ok (F : Mem) (d rf rb : Nat) (o1 : Obj) (es : Array MapEntry) (c : Nat) (m : List (Int × ByteArray)) (M : MapS es c m) (sv : Value) (lg : List (Int × ByteArray)) (on : Bool) (l at_ : Int) (s : ByteArray)
    (hlog : (lg.length + 1) * 24 ≤ 140737488355328) (hl : l ≤ 9223372036854775807) :
    FT Try.prog 33 [.pointer (some ⟨d, 0, none⟩), .int .i64 at_, .string s].toArray F (diskH d rf rb o1 (.map es c) sv lg on l)
    (fun e H => e = .returned (.int .i64 (wcode on at_ s)) ∧ ((wcode on at_ s ≠ 0 ∧ H = diskH d rf rb o1 (.map es c) sv lg on l) ∨
      (wcode on at_ s = 0 ∧ on = true ∧ ∃ es' c' g cap, MapS es' c' (putM m at_ s) ∧ H = diskH d rf rb o1 (.map es' c') (.slice (some ⟨g, 0, none⟩) (lg.length + 1) cap) (lg ++ [(at_, s)]) (wOn l) (wLeft l)))) := by
  refine FT.of_body Try.func33 rfl Try.ntmps33 (by simp) fun C hC => ?_
  conv => whnf
  refine LoadV.s rfl rfl ?_
  cases on with
  | false =>
    conv => whnf
    refine RetI.one Try.results33 rfl ?_
    conv => whnf
    exact ⟨_, Sub.refl _, rfl, .inl ⟨by unfold wcode; simp, rfl⟩⟩
  | true =>
    conv => whnf
    refine cond_dec (fun h1 => ?_) (fun h1 => ?_)
    · conv => whnf
      refine RetI.one Try.results33 rfl ?_
      conv => whnf
      have hw : wcode true at_ s = 8 := by unfold wcode; rw [if_neg (by simp), if_pos (.inl h1)]
      exact ⟨_, Sub.refl _, ret_int hw.symm, .inl ⟨by rw [hw]; simp, rfl⟩⟩
    · conv => whnf
      refine cond_dec (fun h2 => ?_) (fun h2 => ?_)
      · conv => whnf
        refine RetI.one Try.results33 rfl ?_
        conv => whnf
        have hw : wcode true at_ s = 8 := by unfold wcode; rw [if_neg (by simp), if_pos (.inr h2)]
        exact ⟨_, Sub.refl _, ret_int hw.symm, .inl ⟨by rw [hw]; simp, rfl⟩⟩
      · conv => whnf
        refine cond_dec (fun h3 => ?_) (fun h3 => ?_)
        · conv => whnf
          refine RetI.one Try.results33 rfl ?_
          conv => whnf
          have hw : wcode true at_ s = 9 := by unfold wcode; rw [if_neg (by simp), if_neg (by omega), if_pos (by have h4 : (32 : Int) < (s.size : Int) := h3; omega)]
          exact ⟨_, Sub.refl _, ret_int hw.symm, .inl ⟨by rw [hw]; simp, rfl⟩⟩
        · have hw : wcode true at_ s = 0 := by unfold wcode; rw [if_neg (by simp), if_neg (by omega), if_neg (by have h4 : ¬ (32 : Int) < (s.size : Int) := h3; omega)]
          conv => whnf
          refine LoadV.s rfl rfl ?_
          conv => whnf
          refine DoV.update (fk := fkI) (fv := fvS) (a := at_) (v := s) M keyed3 fkI_inj Try.underlying77 (key_wf (by omega) (by omega)) ?_
          intro es' c' M'
          conv => whnf
          refine LoadV.s rfl rfl ?_
          refine forceV_of ?_
          conv => whnf
          intro b
          conv => whnf
          refine BuiltV.append (sv := sv) (m := 1) Try.underlying38 rfl rfl rfl rfl (by decide) (Row.cells 2) rfl (by decide) rfl hlog (by omega) fun g cap => ?_
          conv => whnf
          refine StoreV.c rfl rfl (Nat.le_of_ble_eq_true rfl) rfl ?_
          conv => whnf
          refine LoadV.s rfl rfl ?_
          conv => whnf
          refine cond_dec (fun h4 => ?_) (fun h4 => ?_)
          · conv => whnf
            refine LoadV.s rfl rfl ?_
            conv => whnf
            refine ArI.in64 (by omega) ?_
            conv => whnf
            refine StoreV.c rfl rfl (Nat.le_of_ble_eq_true rfl) rfl ?_
            conv => whnf
            refine LoadV.s rfl rfl ?_
            conv => whnf
            refine StoreV.c rfl rfl (Nat.le_of_ble_eq_true rfl) rfl ?_
            conv => whnf
            refine RetI.one Try.results33 rfl ?_
            conv => whnf
            have e2 : wLeft l = l - 1 := by unfold wLeft; rw [if_pos h4]
            have e3 : wOn l = decide (l - 1 > 0) := by unfold wOn; rw [if_pos h4]
            refine ⟨_, Sub.sel [1, 2, 3, 4] rfl, ret_int hw.symm, .inr ⟨hw, rfl, es', c', g, cap, M', ?_⟩⟩
            rw [e2, e3, diskH_push]; rfl
          · conv => whnf
            refine RetI.one Try.results33 rfl ?_
            conv => whnf
            refine ⟨_, Sub.sel [1, 2, 3, 4] rfl, ret_int hw.symm, .inr ⟨hw, rfl, es', c', g, cap, M', ?_⟩⟩
            have e2 : wLeft l = l := by unfold wLeft; rw [if_neg h4]
            have e3 : wOn l = true := by unfold wOn; rw [if_neg h4]
            rw [e2, e3, diskH_push]; rfl
end Go.Proofs.Ytgodkfaacjllcaa

/- The disk: the log's copy, the image, cutting. -/
namespace Go.Proofs.Ytgodkfaacjllcaa
set_option linter.unusedVariables false
set_option linter.unusedSimpArgs false
set_option maxRecDepth 100000
open SL Go.RowKit Go.Maps

theorem logCells_one (lg : List (Int × ByteArray)) : ∀ x ∈ logCells lg, x.oneCell' = true := by
  intro x hx
  obtain ⟨p, _, hp⟩ := List.mem_flatMap.1 hx
  simp only [List.mem_cons, List.not_mem_nil, or_false] at hp
  rcases hp with rfl | rfl <;> rfl
/-- A copy of a row of writes: nil of none. -/
theorem sclone_ok (F : Mem) (g : Option (Nat × Nat)) (lg : List (Int × ByteArray)) (hg : g = none → lg = []) (hg2 : g ≠ none → lg ≠ []) (hlog : lg.length * 24 ≤ 140737488355328) :
    FT Try.prog 34 [svOf g lg.length].toArray F [.own (svOf g lg.length) lg.length 85 2 (logCells lg)]
    (fun e H => ∃ g', (g' = none ↔ g = none) ∧ e = .returned (svOf g' lg.length) ∧ H = [.own (svOf g' lg.length) lg.length 85 2 (logCells lg), .own (svOf g lg.length) lg.length 85 2 (logCells lg)]) := by
  cases g with
  | none =>
    obtain rfl := hg rfl
    refine FT.of_body Try.func34 rfl Try.ntmps34 (by simp) fun C hC => ?_
    conv => whnf
    refine RetI.one Try.results34 rfl ?_
    conv => whnf
    exact ⟨_, Sub.nil 85 2, none, by simp, rfl, rfl⟩
  | some p =>
    obtain ⟨b, cap⟩ := p
    have hpos : 0 < lg.length := List.length_pos_iff.2 (hg2 (by simp))
    rw [show svOf (some (b, cap)) lg.length = .slice (some ⟨b, 0, none⟩) lg.length cap from rfl]
    refine FT.of_body Try.func34 rfl Try.ntmps34 (by simp) fun C hC => ?_
    conv => whnf
    intro b2
    conv => whnf
    refine BuiltV.sub (Sub.own (n := 0) (sz := 2) rfl (by decide)) ?_
    have hrow : ((logCells lg).take (lg.length * 2)).length = lg.length * 2 := by rw [List.length_take, logCells_length]; omega
    have hone : ((logCells lg).take (lg.length * 2)).all Value.oneCell' = true := List.all_eq_true.2 fun x hx => logCells_one lg x (List.mem_of_mem_take hx)
    refine BuiltV.append (news := (logCells lg).take (lg.length * 2)) (sv := .slice (some ⟨b2, 0, none⟩) 0 0) (m := lg.length) (sz := 2) Try.underlying38 rfl rfl rfl rfl (by decide) (Row.own (l := logCells lg) (lg.length * 2)) hrow hpos hone (by rw [Nat.zero_add]; exact hlog) (by omega) fun g cap => ?_
    conv => whnf
    refine RetI.one Try.results34 rfl ?_
    conv => whnf
    refine ⟨_, Sub.refl _, some (g, cap), by simp, ?_, ?_⟩
    · simp [svOf]
    · have e1 : (logCells lg).take (lg.length * 2) = logCells lg := List.take_of_length_le (by rw [logCells_length]; omega)
      show [HObj.own (.slice (some ⟨g, 0, none⟩) (0 + lg.length) cap) (0 + lg.length) 85 2 ((logCells lg).take (lg.length * 2)), _] = _
      rw [e1, Nat.zero_add]
theorem writes_ok (F : Mem) (d rf rb : Nat) (o1 o2 : Obj) (g : Option (Nat × Nat)) (lg : List (Int × ByteArray)) (on : Bool) (l : Int) (hg : g = none → lg = []) (hg2 : g ≠ none → lg ≠ []) (hlog : lg.length * 24 ≤ 140737488355328) :
    FT Try.prog 14 [.pointer (some ⟨d, 0, none⟩)].toArray F (diskH d rf rb o1 o2 (svOf g lg.length) lg on l)
    (fun e H => ∃ g', (g' = none ↔ g = none) ∧ e = .returned (svOf g' lg.length) ∧ H = .own (svOf g' lg.length) lg.length 85 2 (logCells lg) :: diskH d rf rb o1 o2 (svOf g lg.length) lg on l) := by
  refine FT.of_body Try.func14 rfl Try.ntmps14 (by simp) fun C hC => ?_
  conv => whnf
  refine LoadV.s rfl rfl ?_
  refine forceV_of ?_
  conv => whnf
  refine CallS.mk Try.call34 ⟨[_], _, _, Sub.split [3] rfl, fun F' _ => sclone_ok F' g lg hg hg2 hlog, ?_⟩
  rintro e A' ⟨g', hgg, rfl, rfl⟩
  cases g' with
  | none =>
    conv => whnf
    refine RetI.one Try.results14 rfl ?_
    conv => whnf
    exact ⟨_, Sub.sel [0, 2, 3, 4, 1] rfl, none, hgg, rfl, rfl⟩
  | some p =>
    conv => whnf
    refine RetI.one Try.results14 rfl ?_
    conv => whnf
    exact ⟨_, Sub.sel [0, 2, 3, 4, 1] rfl, some p, hgg, rfl, rfl⟩
/-! ### The image -/
theorem filter_lt {α : Type} {p q : α → Bool} (hpq : ∀ y, q y = true → p y = true) {x : α} : ∀ (l : List α), x ∈ l → p x = true → q x = false → (l.filter q).length < (l.filter p).length
  | [], h, _, _ => by cases h
  | y :: l, h, hp, hq => by
    have hle : (l.filter q).length ≤ (l.filter p).length := by
      clear h
      induction l with
      | nil => simp
      | cons z l ih =>
        cases h1 : q z with
        | true => simp [h1, hpq z h1, ih]
        | false => cases h2 : p z <;> simp [h1, h2] <;> omega
    rcases List.mem_cons.1 h with rfl | h
    · simp [hp, hq]; omega
    · have ih := filter_lt hpq l h hp hq
      cases h1 : q y with
      | true => simp [h1, hpq y h1, ih]
      | false => cases h2 : p y <;> simp [h1, h2] <;> omega
theorem born_inj : ∀ {l : List MapEntry}, (l.map (·.born)).Nodup → ∀ {e x : MapEntry}, e ∈ l → x ∈ l → e.born = x.born → e = x
  | [], _, _, _, h, _, _ => by cases h
  | y :: l, hn, e, x, he, hx, h => by
    have hn1 := List.nodup_cons.1 hn
    rcases List.mem_cons.1 he with h1 | h1
    · rcases List.mem_cons.1 hx with h2 | h2
      · rw [h1, h2]
      · exact absurd (List.mem_map.2 ⟨x, h2, by rw [← h, h1]⟩) hn1.1
    · rcases List.mem_cons.1 hx with h2 | h2
      · exact absurd (List.mem_map.2 ⟨e, h1, by rw [h, h2]⟩) hn1.1
      · exact born_inj hn1.2 h1 h2 h
abbrev nul : ByteArray := ⟨#[]⟩
theorem size_nul {s : ByteArray} : (s.toList == (⟨#[]⟩ : ByteArray).toList) = true ↔ s.size = 0 := by
  rw [beq_iff_eq, ByteArray.toList_eq, ByteArray.toList_eq]
  constructor
  · intro h; have := congrArg List.length h; simpa using this
  · intro h; exact List.eq_nil_of_length_eq_zero (by simpa using h)
/-- One more than the greatest place of a text that isn't empty. -/
def topM : List (Int × ByteArray) → Int
  | [] => 0
  | p :: m => if p.2.size = 0 then topM m else max (topM m) (p.1 + 1)
theorem topM_nonneg (m : List (Int × ByteArray)) : 0 ≤ topM m := by
  induction m with
  | nil => simp [topM]
  | cons p m ih => unfold topM; split <;> omega
theorem le_topM {m : List (Int × ByteArray)} {p : Int × ByteArray} (h : p ∈ m) (hs : p.2.size ≠ 0) : p.1 + 1 ≤ topM m := by
  induction m with
  | nil => cases h
  | cons q m ih =>
    unfold topM
    rcases List.mem_cons.1 h with rfl | h
    · rw [if_neg hs]; omega
    · have := ih h; split <;> omega
theorem topM_le {m : List (Int × ByteArray)} {k : Int} (h0 : 0 ≤ k) (h : ∀ p ∈ m, p.2.size ≠ 0 → p.1 + 1 ≤ k) : topM m ≤ k := by
  induction m with
  | nil => simpa [topM] using h0
  | cons q m ih =>
    have := ih fun p hp => h p (by simp [hp])
    unfold topM
    split
    · exact this
    · have := h q (by simp) (by assumption); omega
theorem topM_eq {m m' : List (Int × ByteArray)} (h : ∀ p ∈ m, p ∈ m') (h' : ∀ p ∈ m', p ∈ m) : topM m = topM m' :=
  Int.le_antisymm (topM_le (topM_nonneg _) fun p hp hs => le_topM (h p hp) hs) (topM_le (topM_nonneg _) fun p hp hs => le_topM (h' p hp) hs)
def imageL (m : List (Int × ByteArray)) : List ByteArray := (List.range (topM m).toNat).map fun i => (lookM m (Int.ofNat i)).getD nul
theorem imageL_length (m : List (Int × ByteArray)) : (imageL m).length = (topM m).toNat := by simp [imageL]
/-- The places are those of a disk. -/
def InDisk (m : List (Int × ByteArray)) : Prop := ∀ p ∈ m, 0 ≤ p.1 ∧ p.1 < 2048
theorem topM_small {m : List (Int × ByteArray)} (h : InDisk m) : topM m ≤ 2048 := topM_le (by omega) fun p hp _ => by have := h p hp; omega
def imgRow (m : List (Int × ByteArray)) (i : Nat) : List Value := (List.range (topM m).toNat).map fun j => if j < i then .string ((lookM m (Int.ofNat j)).getD nul) else .string nul
theorem imgRow_zero (m : List (Int × ByteArray)) : imgRow m 0 = List.replicate (topM m).toNat (.string nul) := by
  simp [imgRow, List.map_const']
theorem imgRow_end (m : List (Int × ByteArray)) : imgRow m (topM m).toNat = (imageL m).map .string := by
  simp only [imgRow, imageL, List.map_map]
  refine List.map_congr_left fun j hj => ?_
  rw [if_pos (by simpa using hj)]; rfl
theorem putAt_one (l : List Value) (i : Nat) (v : Value) (h : i < l.length) : putAt l i [v] = l.set i v := by
  rw [List.set_eq_take_append_cons_drop, if_pos h]; simp [putAt]
theorem imgRow_put (m : List (Int × ByteArray)) (i : Nat) (h : i < (topM m).toNat) : putAt (imgRow m i) i [.string ((lookM m (Int.ofNat i)).getD nul)] = imgRow m (i + 1) := by
  rw [putAt_one _ _ _ (by simpa [imgRow] using h)]
  apply List.ext_getElem
  · simp [imgRow]
  · intro j h1 h2
    simp only [imgRow, List.getElem_set, List.getElem_map, List.getElem_range]
    by_cases hj : i = j
    · subst hj; simp
    · rw [if_neg hj]
      by_cases h3 : j < i
      · rw [if_pos h3, if_pos (by omega)]
      · rw [if_neg h3, if_neg (by omega)]
theorem image_ok (F : Mem) (d rf rb : Nat) (o1 : Obj) (es : Array MapEntry) (c : Nat) (m : List (Int × ByteArray)) (M : MapS es c m) (hm : InDisk m) (sv : Value) (lg : List (Int × ByteArray)) (on : Bool) (l : Int) :
    FT Try.prog 21 [.pointer (some ⟨d, 0, none⟩)].toArray F (diskH d rf rb o1 (.map es c) sv lg on l)
    (fun e H => ∃ b, e = .returned (.slice (some ⟨b, 0, none⟩) (imageL m).length (imageL m).length) ∧ H = .cells b ((imageL m).map .string) 9 (0, 0) :: diskH d rf rb o1 (.map es c) sv lg on l) := by
  refine FT.of_body Try.func21 rfl Try.ntmps21 (by simp) fun C hC => ?_
  conv => whnf
  refine LoadV.s rfl rfl ?_
  conv => whnf
  refine DoV.range Try.underlying77 fun b => ?_
  conv => whnf
  refine LoopI.by_state (σ := Array Nat × List (Int × ByteArray)) (fun x => [(0, .pointer (some ⟨d, 0, none⟩)), (3, .int .i64 (topM x.2)), (12, .pointer (some ⟨b, 0, none⟩))]) (fun x => .obj b (.mapIter (some rb) c x.1 c) :: diskH d rf rb o1 (.map es c) sv lg on l)
    (fun x => (∀ p ∈ x.2, p ∈ m) ∧ ∀ e ∈ es.toList, e.born ∈ x.1.toList → ∃ p ∈ x.2, e.key = fkI p.1 ∧ e.val = fvS p.2) (fun x => (es.toList.filter fun e => !x.1.toList.contains e.born).length) (#[], []) ⟨by simp, by simp⟩ ⟨rfl, rfl, rfl, trivial⟩ (Sub.refl _) ?_
  rintro ⟨seen, done⟩ f0 ⟨hd, hs⟩
  dsimp only at *
  conv => whnf
  refine DoV.next M.stamped (fun hov => ?_) (fun x hx hnx => ?_)
  · have htop : topM done = topM m := topM_eq hd fun p hp => by
      obtain ⟨e, he, h1, h2⟩ := M.of_mem hp
      obtain ⟨q, hq, h3, h4⟩ := hs e he (hov e he)
      have e1 : q.1 = p.1 := fkI_inj _ _ (by rw [← h3, h1])
      have e2 : fvS q.2 = fvS p.2 := by rw [← h4, h2]
      have e3 : q.2 = p.2 := Value.string.inj e2
      have : q = p := Prod.ext e1 e3
      rwa [← this]
    have ht0 := topM_nonneg m
    have ht1 := topM_small hm
    conv => whnf
    rw [htop]
    refine DoV.makeSlice Try.underlying22 rfl rfl rfl rfl ht0 (by show (16 : Int) * topM m ≤ _; omega) (by omega) fun b2 => ?_
    conv => whnf
    refine LoopI.by_state (σ := Nat) (fun i => [(0, .pointer (some ⟨d, 0, none⟩)), (6, .slice (some ⟨b2, 0, none⟩) (topM m).toNat (topM m).toNat), (27, .int .i64 ((topM m).toNat : Int)), (28, .int .i64 (i : Int))])
      (fun i => .cells b2 (imgRow m i) 9 (0, 0) :: diskH d rf rb o1 (.map es c) sv lg on l) (fun i => i ≤ (topM m).toNat) (fun i => (topM m).toNat - i) 0 (by omega) ⟨rfl, rfl, rfl, rfl, trivial⟩ ?_ ?_
    · rw [imgRow_zero]; exact Sub.sel [0, 2, 3, 4, 5] rfl
    · rintro i f1 hi
      conv => whnf
      refine cond_dec (fun h => ?_) (fun h => ?_)
      · conv => whnf
        refine LoadV.s rfl rfl ?_
        conv => whnf
        refine DoV.lookup (fk := fkI) (fv := fvS) (a := (i : Int)) M keyed3 fkI_inj Try.underlying77 rfl rfl (key_wf (by omega) (by omega)) (u := .string ((lookM m (Int.ofNat i)).getD nul)) (by show (lookM m (Int.ofNat i)).elim _ _ = _; cases lookM m (Int.ofNat i) <;> rfl) ?_
        conv => whnf
        refine ⟨by omega, ?_⟩
        conv => whnf
        refine StoreV.c rfl rfl (by show 0 + i + 1 ≤ (imgRow m i).length; simp only [imgRow, List.length_map, List.length_range]; omega) rfl ?_
        conv => whnf
        refine ArI.to64 ((i + 1 : Nat) : Int) (by omega) (by omega) ?_
        conv => whnf
        refine ⟨i + 1, _, by omega, Sub.refl _, by omega, ⟨rfl, rfl, rfl, rfl, trivial⟩, ?_⟩
        · rw [← imgRow_put m i (by omega)]
          show HObj.cells b2 (putAt (imgRow m i) (0 + i) [.string ((lookM m (Int.ofNat i)).getD nul)]) 9 (0, 0) :: _ = _
          rw [Nat.zero_add]
      · conv => whnf
        refine RetI.one Try.results21 rfl ?_
        conv => whnf
        have : i = (topM m).toNat := by omega
        subst this
        refine ⟨_, Sub.refl _, b2, by rw [imageL_length], by rw [← imgRow_end]⟩
  · obtain ⟨p, hp, hk, hv⟩ := M.mem hx
    rw [hk, hv]
    conv => whnf
    refine DoV.entry M.stamped hx ?_
    rw [hk, hv]
    have hb := hm p hp
    have ht0 := topM_nonneg done
    have ht1 := topM_small fun q hq => hm q (hd q hq)
    have hlt : (es.toList.filter fun e => !(seen.push x.born).toList.contains e.born).length < (es.toList.filter fun e => !seen.toList.contains e.born).length := by
      refine filter_lt (x := x) ?_ _ hx (by simpa using hnx) (by simp)
      intro y hy
      simp only [Array.toList_push, Bool.not_eq_true', List.contains_eq_mem, decide_eq_false_iff_not, List.mem_append, List.mem_singleton, not_or] at hy ⊢
      exact hy.1
    have hd' : ∀ q ∈ p :: done, q ∈ m := fun q hq => by
      rcases List.mem_cons.1 hq with rfl | hq
      · exact hp
      · exact hd q hq
    have hs' : ∀ e ∈ es.toList, e.born ∈ (seen.push x.born).toList → ∃ q ∈ p :: done, e.key = fkI q.1 ∧ e.val = fvS q.2 := fun e he hb => by
      simp only [Array.toList_push, List.mem_append, List.mem_singleton] at hb
      rcases hb with hb | hb
      · obtain ⟨q, hq, h⟩ := hs e he hb
        exact ⟨q, by simp [hq], h⟩
      · have : e = x := born_inj M.stamped.2.1 he hx hb
        subst this
        exact ⟨p, by simp, hk, hv⟩
    conv => whnf
    cases hz : (p.2.toList == (⟨#[]⟩ : ByteArray).toList) with
    | true =>
      conv => whnf
      refine ⟨(seen.push x.born, p :: done), _, hlt, Sub.refl _, ⟨hd', hs'⟩, ⟨rfl, ?_, rfl, trivial⟩, rfl⟩
      have : topM (p :: done) = topM done := by rw [topM, if_pos (size_nul.1 hz)]
      exact congrArg (Value.int .i64) this.symm
    | false =>
      conv => whnf
      refine ArI.in64 (by omega) ?_
      conv => whnf
      have hsz : ¬ p.2.size = 0 := fun h => by rw [size_nul.2 h] at hz; cases hz
      have e2 : topM (p :: done) = max (topM done) (p.1 + 1) := by rw [topM, if_neg hsz]
      refine ⟨(seen.push x.born, p :: done), _, hlt, Sub.refl _, ⟨hd', hs'⟩, ⟨rfl, ?_, rfl, trivial⟩, rfl⟩
      dsimp only
      rw [e2]; rfl
end Go.Proofs.Ytgodkfaacjllcaa

/- The disk: cutting. -/
namespace Go.Proofs.Ytgodkfaacjllcaa
set_option linter.unusedVariables false
set_option linter.unusedSimpArgs false
set_option maxRecDepth 100000
open SL Go.RowKit Go.Maps

/-- What a log makes of the first blocks. -/
def replay (m : List (Int × ByteArray)) (l : List (Int × ByteArray)) : List (Int × ByteArray) := l.foldl (fun m p => putM m p.1 p.2) m
def LogOk (lg : List (Int × ByteArray)) : Prop := ∀ p ∈ lg, 0 ≤ p.1 ∧ p.1 < 2048 ∧ p.2.size ≤ 32
/-- How many writes are played again. -/
def cutN (n : Int) (k : Nat) : Nat := min n.toNat k
theorem wcode_ok {p : Int × ByteArray} (h : 0 ≤ p.1 ∧ p.1 < 2048 ∧ p.2.size ≤ 32) : wcode true p.1 p.2 = 0 := by
  unfold wcode; rw [if_neg (by simp), if_neg (by omega), if_neg (by omega)]
theorem logCells_at (lg : List (Int × ByteArray)) (i : Nat) (h : i < lg.length) : (logCells lg)[i * 2]? = some (.int .i64 lg[i].1) ∧ (logCells lg)[i * 2 + 1]? = some (.string lg[i].2) := by
  induction lg generalizing i with
  | nil => simp at h
  | cons p lg ih =>
    cases i with
    | zero => simp [logCells]
    | succ i =>
      have := ih i (by simpa using h)
      rw [show (i + 1) * 2 = i * 2 + 1 + 1 by omega]
      simpa [logCells] using this
theorem logCells_row (lg : List (Int × ByteArray)) (i : Nat) (h : i < lg.length) : ((logCells lg).drop (i * 2)).take 2 = [.int .i64 lg[i].1, .string lg[i].2] := by
  obtain ⟨h1, h2⟩ := logCells_at lg i h
  have hl : i * 2 + 1 < (logCells lg).length := by rw [logCells_length]; omega
  apply List.ext_getElem?
  intro j
  rw [List.getElem?_take]
  match j with
  | 0 => simp [h1]
  | 1 => simp [h2]
  | j + 2 => simp only [List.getElem?_cons_succ, List.getElem?_nil]; rw [if_neg (by omega)]
/-- Two disks. -/
abbrev diskHH (d rf rb : Nat) (o1 o2 : Obj) (sv : Value) (lg : List (Int × ByteArray)) (on : Bool) (left : Int) (d' rf' rb' : Nat) (o1' o2' : Obj) (sv' : Value) (lg' : List (Int × ByteArray)) (on' : Bool) (left' : Int) : Heap :=
  [.cells d [.map (some rf), .map (some rb), sv, .bool on, .int .i64 left] 82 (0, 0), .obj rf o1, .obj rb o2, .own sv lg.length 85 2 (logCells lg),
   .cells d' [.map (some rf'), .map (some rb'), sv', .bool on', .int .i64 left'] 82 (0, 0), .obj rf' o1', .obj rb' o2', .own sv' lg'.length 85 2 (logCells lg')]
theorem cut_ok (F : Mem) (d rf rb : Nat) (es1 : Array MapEntry) (c1 : Nat) (mf : List (Int × ByteArray)) (M1 : MapS es1 c1 mf) (o2 : Obj) (g : Option (Nat × Nat)) (lg : List (Int × ByteArray)) (on : Bool) (l n : Int)
    (hg : g = none → lg = []) (hlo : LogOk lg) (hlog : lg.length * 24 ≤ 140737488355328) :
    FT Try.prog 20 [.pointer (some ⟨d, 0, none⟩), .int .i64 n].toArray F (diskH d rf rb (.map es1 c1) o2 (svOf g lg.length) lg on l)
    (fun e H => ∃ d2 r2 rb2 es' c' g', MapS es' c' (replay mf (lg.take (cutN n lg.length))) ∧ (g' = none ↔ cutN n lg.length = 0) ∧ e = .returned (.pointer (some ⟨d2, 0, none⟩)) ∧
      H = diskHH d rf rb (.map es1 c1) o2 (svOf g lg.length) lg on l d2 r2 rb2 (.map es1 c1) (.map es' c') (svOf g' (lg.take (cutN n lg.length)).length) (lg.take (cutN n lg.length)) true (-1)) := by
  cases g with
  | none =>
    obtain rfl := hg rfl
    rw [show svOf none ([] : List (Int × ByteArray)).length = .slice none 0 0 from rfl]
    refine FT.of_body Try.func20 rfl Try.ntmps20 (by simp) fun C hC => ?_
    have hc0 : cutN n ([] : List (Int × ByteArray)).length = 0 := by simp [cutN]
    rw [hc0]
    conv => whnf
    refine LoadV.s rfl rfl ?_
    conv => whnf
    refine CallS.mk Try.call37 ⟨[_], _, _, Sub.split [1] rfl, fun F' _ => clone_ok F' rf es1 c1, ?_⟩
    rintro e A' ⟨r2, rfl, rfl⟩
    conv => whnf
    refine CallS.mk Try.call32 ⟨[_], _, _, Sub.split [0] rfl, fun F' _ => with_ok F' r2 es1 c1, ?_⟩
    rintro e A' ⟨d2, rb2, rfl, rfl⟩
    conv => whnf
    refine DrawI.quiet (by kernel_rfl) (by kernel_rfl) ?_
    conv => whnf
    refine LoadV.s rfl rfl ?_
    conv => whnf
    refine LoadV.s rfl rfl ?_
    conv => whnf
    have hk : (min (max n 0) ((0 : Nat) : Int)).toNat = 0 := by omega
    refine QuietV.slice_to Try.underlying38 rfl (by omega) (by omega) ?_
    conv => whnf
    rw [hk]
    refine LoopI.by_state (σ := Unit) (fun x => [(5, .pointer (some ⟨d2, 0, none⟩)), (27, .int .i64 0), (28, .int .i64 0)])
      (fun x => diskHH d rf rb (.map es1 c1) o2 (.slice none 0 0) [] on l d2 r2 rb2 (.map es1 c1) (.map es1 c1) (.slice none 0 0) [] true (-1))
      (fun x => True) (fun x => 0) () trivial ⟨rfl, rfl, rfl, trivial⟩ (Sub.sel [5, 4, 6, 7, 0, 1, 2, 3] rfl) ?_
    rintro ⟨⟩ f0 -
    conv => whnf
    refine RetI.one Try.results20 rfl ?_
    conv => whnf
    exact ⟨_, Sub.refl _, d2, r2, rb2, es1, c1, none, M1, by simp, rfl, rfl⟩
  | some p =>
    obtain ⟨b, cap⟩ := p
    rw [show svOf (some (b, cap)) lg.length = .slice (some ⟨b, 0, none⟩) lg.length cap from rfl]
    refine FT.of_body Try.func20 rfl Try.ntmps20 (by simp) fun C hC => ?_
    conv => whnf
    refine LoadV.s rfl rfl ?_
    conv => whnf
    refine CallS.mk Try.call37 ⟨[_], _, _, Sub.split [1] rfl, fun F' _ => clone_ok F' rf es1 c1, ?_⟩
    rintro e A' ⟨r2, rfl, rfl⟩
    conv => whnf
    refine CallS.mk Try.call32 ⟨[_], _, _, Sub.split [0] rfl, fun F' _ => with_ok F' r2 es1 c1, ?_⟩
    rintro e A' ⟨d2, rb2, rfl, rfl⟩
    conv => whnf
    refine DrawI.quiet (by kernel_rfl) (by kernel_rfl) ?_
    conv => whnf
    refine LoadV.s rfl rfl ?_
    conv => whnf
    refine LoadV.s rfl rfl ?_
    conv => whnf
    have hk : (min (max n 0) ((lg.length : Nat) : Int)).toNat = cutN n lg.length := by unfold cutN; omega
    refine QuietV.slice_own Try.underlying38 rfl (by omega) (by omega) ?_
    conv => whnf
    rw [hk]
    have hkl : cutN n lg.length ≤ lg.length := by unfold cutN; omega
    generalize cutN n lg.length = k at hkl ⊢
    refine LoopI.by_state (σ := Nat × Array MapEntry × Nat × Option (Nat × Nat)) (fun x => [(5, .pointer (some ⟨d2, 0, none⟩)), (26, .slice (some ⟨b, 0, none⟩) k cap), (27, .int .i64 (k : Int)), (28, .int .i64 (x.1 : Int))])
      (fun x => diskHH d rf rb (.map es1 c1) o2 (.slice (some ⟨b, 0, none⟩) lg.length cap) lg on l d2 r2 rb2 (.map es1 c1) (.map x.2.1 x.2.2.1) (svOf x.2.2.2 (lg.take x.1).length) (lg.take x.1) true (-1))
      (fun x => x.1 ≤ k ∧ MapS x.2.1 x.2.2.1 (replay mf (lg.take x.1)) ∧ (x.2.2.2 = none ↔ x.1 = 0)) (fun x => k - x.1) (0, es1, c1, none) ⟨by omega, M1, by simp⟩ ⟨rfl, rfl, rfl, rfl, trivial⟩ (Sub.sel [5, 4, 6, 7, 0, 1, 2, 3] rfl) ?_
    rintro ⟨i, es', c', g'⟩ f0 ⟨hi, M', hg'⟩
    dsimp only at *
    conv => whnf
    refine cond_dec (fun h => ?_) (fun h => ?_)
    · conv => whnf
      refine ⟨by omega, ?_⟩
      conv => whnf
      refine LoadV.oa 2 rfl (by show 0 + i * 2 + 2 ≤ (logCells lg).length; rw [logCells_length]; omega) ?_
      have hrow : ((logCells lg).drop (0 + i * 2)).take 2 = [.int .i64 (lg[i]'(by omega)).1, .string (lg[i]'(by omega)).2] := by rw [Nat.zero_add]; exact logCells_row lg i (by omega)
      have hrow' : ((logCells lg).drop (elemOff 0 (i : Int) Try.prog.types[85].size)).take 2 = [.int .i64 (lg[i]'(by omega)).1, .string (lg[i]'(by omega)).2] := hrow
      rw [hrow']
      have hent := hlo (lg[i]'(by omega)) (List.getElem_mem _)
      have htake : lg.take (i + 1) = lg.take i ++ [lg[i]'(by omega)] := (List.take_append_getElem (by omega)).symm
      have hlen : (lg.take i).length = i := by simp; omega
      generalize lg[i]'(by omega) = p at hent htake ⊢
      conv => whnf
      intro b3
      conv => whnf
      refine StoreV.c rfl rfl (Nat.le_of_ble_eq_true rfl) rfl ?_
      conv => whnf
      refine LoadV.s rfl rfl ?_
      conv => whnf
      refine LoadV.s rfl rfl ?_
      conv => whnf
      refine CallS.mk Try.call33 ⟨[_, _, _, _], _, _, Sub.split [5, 6, 7, 8] rfl, fun F' _ => write_ok F' d2 r2 rb2 (.map es1 c1) es' c' _ M' _ (lg.take i) true (-1) p.1 p.2 (by rw [hlen]; omega) (by omega), ?_⟩
      rintro e A' ⟨rfl, hA⟩
      rcases hA with ⟨h1, _⟩ | ⟨_, _, es'', c'', g3, cap3, M'', rfl⟩
      · exact absurd (wcode_ok hent) h1
      · conv => whnf
        refine ArI.to64 ((i + 1 : Nat) : Int) (by omega) (by omega) ?_
        conv => whnf
        refine ⟨(i + 1, es'', c'', some (g3, cap3)), _, by dsimp only; omega, Sub.sel [5, 6, 7, 8, 0, 1, 2, 3] rfl, ⟨by dsimp only; omega, ?_, by simp⟩, ⟨rfl, rfl, rfl, rfl, trivial⟩, ?_⟩
        · dsimp only
          rw [htake]; unfold replay; rw [List.foldl_append]; exact M''
        · dsimp only
          have e1 : svOf (some (g3, cap3)) (lg.take i ++ [p]).length = .slice (some ⟨g3, 0, none⟩) ((lg.take i).length + 1) cap3 := by simp [svOf]
          rw [htake, e1]; rfl
    · conv => whnf
      refine RetI.one Try.results20 rfl ?_
      conv => whnf
      have : i = k := by omega
      subst this
      exact ⟨_, Sub.refl _, d2, r2, rb2, es', c', g', M', hg', rfl, rfl⟩
end Go.Proofs.Ytgodkfaacjllcaa

/- The same texts, the same writes. -/
namespace Go.Proofs.Ytgodkfaacjllcaa
set_option linter.unusedVariables false
set_option linter.unusedSimpArgs false
set_option maxRecDepth 100000
open SL Go.RowKit Go.Maps

theorem writes_eq_step {p q : Int × ByteArray} : cellsEq [.int .i64 p.1, .string p.2] [.int .i64 q.1, .string q.2] = decide (p = q) := by
  simp only [cellsEq, vEq, Bool.and_true, bytes_beq]
  rw [Bool.eq_iff_iff]
  simp [Prod.ext_iff]
theorem row_at {F : Mem} {b o : Nat} {lg : List (Int × ByteArray)} (h : ∀ j v, (logCells lg)[j]? = some v → RdC F ⟨b, o + j, none⟩ v) {i : Nat} (hi : i < lg.length) :
    ∀ j v, ([.int .i64 (lg[i]'hi).1, .string (lg[i]'hi).2] : List Value)[j]? = some v → RdC F ((⟨b, elemOff o (i : Int) 2, none⟩ : Addr).add j) v := by
  intro j v hj
  obtain ⟨h1, h2⟩ := logCells_at lg i hi
  rw [Addr_add]
  show RdC F ⟨b, o + i * 2 + j, none⟩ v
  match j with
  | 0 => simp only [List.getElem?_cons_zero, Option.some.injEq] at hj; subst hj; exact h _ _ h1
  | 1 => simp only [List.getElem?_cons_succ, List.getElem?_cons_zero, Option.some.injEq] at hj; subst hj; rw [Nat.add_assoc]; exact h _ _ h2
  | j + 2 => simp at hj
theorem samew_ok (F : Mem) (oa ob : Option Addr) (ca cb : Nat) (a b : List (Int × ByteArray)) (ha : SlF F 2 oa a.length (logCells a)) (hb : SlF F 2 ob b.length (logCells b)) (hn : a.length ≤ 9223372036854775807) :
    FT Try.prog 28 [.slice oa a.length ca, .slice ob b.length cb].toArray F [] (Ret (.bool (decide (a = b)))) := by
  refine FT.of_body Try.func28 rfl Try.ntmps28 (by simp) fun C hC => ?_
  subst hC
  conv => whnf
  refine cond_split ?_ ?_
  · intro hne
    conv => whnf
    refine RetI.one Try.results28 rfl ?_
    conv => whnf
    refine ⟨_, Sub.refl _, ret_bool ?_, rfl⟩
    have hne : ((a.length : Nat) : Int) ≠ ((b.length : Nat) : Int) := by simpa using hne
    rw [decide_eq_false]
    intro e; subst e; exact hne rfl
  · intro he
    have he : a.length = b.length := by have : ((a.length : Nat) : Int) = ((b.length : Nat) : Int) := by simpa using he
                                        omega
    conv => whnf
    refine LoopI.by_state (σ := Nat) (fun i => [(0, .slice oa a.length ca), (1, .slice ob b.length cb), (12, .int .i64 (a.length : Int)), (13, .int .i64 (i : Int))]) (fun _ => []) (fun i => i ≤ a.length ∧ a.take i = b.take i) (fun i => a.length - i) 0 (by simp) ⟨rfl, rfl, rfl, rfl, trivial⟩ (Sub.refl _) ?_
    rintro i f0 ⟨hi, ht⟩
    conv => whnf
    refine cond_dec (fun h => ?_) (fun h => ?_)
    · obtain ⟨xa, ya, rfl, hra⟩ := ha.at (i := i) (by omega)
      obtain ⟨xb, yb, rfl, hrb⟩ := hb.at (i := i) (by omega)
      conv => whnf
      refine DrawI.quiet (by kernel_rfl) (by kernel_rfl) ?_
      conv => whnf
      refine ⟨by omega, ?_⟩
      conv => whnf
      refine LoadV.fa (cs := [.int .i64 (a[i]'(by omega)).1, .string (a[i]'(by omega)).2]) (row_at hra (i := i) (by omega)) rfl ?_
      conv => whnf
      refine ⟨by omega, ?_⟩
      conv => whnf
      refine LoadV.fa (cs := [.int .i64 (b[i]'(by omega)).1, .string (b[i]'(by omega)).2]) (row_at hrb (i := i) (by omega)) rfl ?_
      conv => whnf
      refine EqV.neq (d := 3) (ks := [.i .i64, .s]) (by kernel_rfl) rfl (by kernel_rfl) rfl rfl rfl ?_
      rw [writes_eq_step]
      by_cases hq : a[i]'(by omega) = b[i]'(by omega)
      · rw [decide_eq_true hq]
        conv => whnf
        refine ArI.to64 ((i + 1 : Nat) : Int) (by omega) (by omega) ?_
        conv => whnf
        exact ⟨i + 1, [], by omega, Sub.refl _, ⟨by omega, take_eq_step ht (by omega) (by omega) hq⟩, ⟨rfl, rfl, rfl, rfl, trivial⟩, rfl⟩
      · rw [decide_eq_false hq]
        conv => whnf
        refine RetI.one Try.results28 rfl ?_
        conv => whnf
        refine ⟨_, Sub.refl _, ret_bool ?_, rfl⟩
        rw [decide_eq_false]
        intro e; subst e; exact hq rfl
    · conv => whnf
      refine RetI.one Try.results28 rfl ?_
      conv => whnf
      refine ⟨_, Sub.refl _, ret_bool ?_, rfl⟩
      have : i = a.length := by omega
      subst this
      rw [decide_eq_true]
      have h1 : a.take a.length = a := List.take_length
      have h2 : b.take a.length = b := by rw [he]; exact List.take_length
      rw [← h1, ht, h2]
end Go.Proofs.Ytgodkfaacjllcaa

/- The disk lives; power. -/
namespace Go.Proofs.Ytgodkfaacjllcaa
set_option linter.unusedVariables false
set_option linter.unusedSimpArgs false
set_option maxRecDepth 100000
open SL Go.RowKit Go.Maps

theorem modIn (v : Int) (n : Int) (h0 : 0 < n) (h1 : n ≤ 1000) : 0 ≤ IntKind.i64.wrap ((IntKind.u64.wrap v).tmod n) ∧ IntKind.i64.wrap ((IntKind.u64.wrap v).tmod n) < n := by
  have h : 0 ≤ IntKind.u64.wrap v := by simp [IntKind.wrap, IntKind.signed]; omega
  have h2 := Int.tmod_nonneg n h
  have h3 := Int.tmod_lt_of_pos (IntKind.u64.wrap v) h0
  rw [IntWalk.i64_in _ (by omega)]
  exact ⟨h2, h3⟩
theorem i64_up (i n : Nat) (h : i < n) (hn : n ≤ 9223372036854775807) : IntKind.i64.wrap ((i : Int) + 1) = ((i + 1 : Nat) : Int) := by rw [IntWalk.i64_in _ (by omega)]; omega
theorem inDisk_put {m : List (Int × ByteArray)} (h : InDisk m) {a : Int} {s : ByteArray} (ha : 0 ≤ a ∧ a < 2048) : InDisk (putM m a s) := by
  induction m with
  | nil => intro p hp; simp [putM] at hp; subst hp; exact ha
  | cons q m ih =>
    intro p hp
    unfold putM at hp
    split at hp
    · rcases List.mem_cons.1 hp with rfl | hp
      · exact ha
      · exact h p (by simp [hp])
    · rcases List.mem_cons.1 hp with rfl | hp
      · exact h _ (by simp)
      · exact ih (fun p hp => h p (by simp [hp])) p hp
theorem wcode_at {on : Bool} {a : Int} {s : ByteArray} (h : wcode on a s = 0) : 0 ≤ a ∧ a < 2048 ∧ s.size ≤ 32 := by
  unfold wcode at h
  split at h
  · cases h
  · split at h
    · cases h
    · split at h
      · cases h
      · omega
/-- The copies, their contents under names of their own. -/
theorem writes_cp (F : Mem) (d rf rb : Nat) (o1 o2 : Obj) (g : Option (Nat × Nat)) (lg : List (Int × ByteArray)) (on : Bool) (l : Int) (hg : g = none ↔ lg = []) (hlog : lg.length * 24 ≤ 140737488355328) :
    FT Try.prog 14 [.pointer (some ⟨d, 0, none⟩)].toArray F (diskH d rf rb o1 o2 (svOf g lg.length) lg on l)
    (fun e H => ∃ g' lk, lk = lg ∧ (g' = none ↔ lk = []) ∧ e = .returned (svOf g' lk.length) ∧ H = .own (svOf g' lk.length) lk.length 85 2 (logCells lk) :: diskH d rf rb o1 o2 (svOf g lg.length) lg on l) :=
  (writes_ok F d rf rb o1 o2 g lg on l hg.1 (fun h e => h (hg.2 e)) hlog).mono fun e H ⟨g', h1, h2, h3⟩ => ⟨g', lg, rfl, h1.trans hg, h2, h3⟩
theorem image_cp (F : Mem) (d rf rb : Nat) (o1 : Obj) (es : Array MapEntry) (c : Nat) (m : List (Int × ByteArray)) (M : MapS es c m) (hm : InDisk m) (sv : Value) (lg : List (Int × ByteArray)) (on : Bool) (l : Int) :
    FT Try.prog 21 [.pointer (some ⟨d, 0, none⟩)].toArray F (diskH d rf rb o1 (.map es c) sv lg on l)
    (fun e H => ∃ b im, im = imageL m ∧ e = .returned (.slice (some ⟨b, 0, none⟩) im.length im.length) ∧ H = .cells b (strs im) 9 (0, 0) :: diskH d rf rb o1 (.map es c) sv lg on l) :=
  (image_ok F d rf rb o1 es c m M hm sv lg on l).mono fun e H ⟨b, h1, h2⟩ => ⟨b, _, rfl, h1, h2⟩
/-- A writing with all the power, of a right place and text. -/
theorem go_ok (F : Mem) (d rf rb : Nat) (o1 : Obj) (es : Array MapEntry) (c : Nat) (m : List (Int × ByteArray)) (M : MapS es c m) (g : Option (Nat × Nat)) (lg : List (Int × ByteArray)) (at_ : Int) (s : ByteArray)
    (hlog : (lg.length + 1) * 24 ≤ 140737488355328) (h : 0 ≤ at_ ∧ at_ < 2048 ∧ s.size ≤ 32) :
    FT Try.prog 33 [.pointer (some ⟨d, 0, none⟩), .int .i64 at_, .string s].toArray F (diskH d rf rb o1 (.map es c) (svOf g lg.length) lg true (-1))
    (fun e H => e = .returned (.int .i64 0) ∧ ∃ es' c' g', MapS es' c' (putM m at_ s) ∧ g' ≠ none ∧ H = diskH d rf rb o1 (.map es' c') (svOf g' (lg ++ [(at_, s)]).length) (lg ++ [(at_, s)]) true (-1)) := by
  refine (write_ok F d rf rb o1 es c m M (svOf g lg.length) lg true (-1) at_ s hlog (by omega)).mono ?_
  rintro e H ⟨rfl, hA⟩
  have h0 : wcode true at_ s = 0 := wcode_ok (p := (at_, s)) h
  rcases hA with ⟨h1, _⟩ | ⟨_, _, es', c', g3, cap3, M', rfl⟩
  · exact absurd h0 h1
  · refine ⟨by rw [h0], es', c', some (g3, cap3), M', by simp, ?_⟩
    have e1 : svOf (some (g3, cap3)) (lg ++ [(at_, s)]).length = .slice (some ⟨g3, 0, none⟩) (lg.length + 1) cap3 := by simp
    rw [diskH, e1]; rfl
end Go.Proofs.Ytgodkfaacjllcaa

/- The law DiskCuts, as a contract. -/
namespace Go.Proofs.Ytgodkfaacjllcaa
set_option linter.unusedVariables false
set_option linter.unusedSimpArgs false
set_option maxRecDepth 100000
open SL Go.RowKit Go.Maps

theorem replay_push (m lg : List (Int × ByteArray)) (p : Int × ByteArray) : replay m (lg ++ [p]) = putM (replay m lg) p.1 p.2 := by simp [replay]
theorem inDisk_replay {lg : List (Int × ByteArray)} (h : LogOk lg) : ∀ {m : List (Int × ByteArray)}, InDisk m → InDisk (replay m lg) := by
  induction lg with
  | nil => intro m hm; exact hm
  | cons p lg ih =>
    intro m hm
    have hp := h p (by simp)
    exact ih (fun q hq => h q (by simp [hq])) (inDisk_put hm ⟨hp.1, hp.2.1⟩)
theorem inDisk_nil : InDisk [] := fun p hp => by cases hp
theorem logOk_push {lg : List (Int × ByteArray)} (h : LogOk lg) {p : Int × ByteArray} (hp : 0 ≤ p.1 ∧ p.1 < 2048 ∧ p.2.size ≤ 32) : LogOk (lg ++ [p]) := fun q hq => by
  rcases List.mem_append.1 hq with hq | hq
  · exact h q hq
  · simp at hq; subst hq; exact hp
theorem imageL_le (m : List (Int × ByteArray)) (h : InDisk m) : (imageL m).length ≤ 2048 := by
  rw [imageL_length]; have := topM_small h; omega
/-- The heap in the first loop: the disk; the image and the log of then. -/
abbrev cutsH (d r rb : Nat) (es : Array MapEntry) (c : Nat) (g : Option (Nat × Nat)) (lg : List (Int × ByteArray)) (th : Option (Nat × Nat)) (im : List ByteArray) (gk : Option (Nat × Nat)) (lk : List (Int × ByteArray)) : Heap :=
  [.cells d [.map (some r), .map (some rb), svOf g lg.length, .bool true, .int .i64 (-1)] 82 (0, 0), .obj r (.map #[] 0), .obj rb (.map es c), .own (svOf g lg.length) lg.length 85 2 (logCells lg),
   .own (svOf th im.length) im.length 9 1 (strs im), .own (svOf gk lk.length) lk.length 85 2 (logCells lk)]
structure CutsInv (k i : Nat) (es : Array MapEntry) (c : Nat) (g : Option (Nat × Nat)) (lg : List (Int × ByteArray)) (th : Option (Nat × Nat)) (im : List ByteArray) (gk : Option (Nat × Nat)) (lk : List (Int × ByteArray)) : Prop where
  M : MapS es c (replay [] lg)
  ok : LogOk lg
  hg : g = none ↔ lg = []
  hle : lg.length ≤ i
  hgk : gk = none ↔ lk = []
  hth : th = none → im = []
  pre : i ≤ k → th = none ∧ im = [] ∧ lk = []
  post : k < i → im = imageL (replay [] lk) ∧ lk <+: lg
theorem modIn2 (v : Int) (n : Int) (h0 : 0 < n) (_h1 : n ≤ 9223372036854775807) : ∃ k : Nat, (IntKind.u64.wrap v).tmod n = (k : Int) ∧ (k : Int) < n := u64_mod v n h0
theorem share {n : Nat} {G : Prop} (P : Nat → Prop) (use : (∀ k, k ≤ n → P k) → G) (prove : ∀ k, k ≤ n → P k) : G := use prove
theorem cells_own {m : List (Int × ByteArray)} : (strs (imageL m)).length = (imageL m).length * 1 := by simp
theorem sub_own4 {b n T sz : Nat} {l : List Value} {H : Heap} (hl : l.length = n * sz) (hn : n ≤ maxLen) : Sub (.cells b l T (0, 0) :: H) (.own (svOf (some (b, n)) n) n T sz l :: H) := Sub.own hl hn
theorem flg (p : Int × ByteArray) : (fun (p : Int × ByteArray) => [Value.int .i64 p.1, .string p.2]) p = [.int .i64 p.1, .string p.2] := rfl
end Go.Proofs.Ytgodkfaacjllcaa

/- The reference's disk: its simple functions. -/
namespace Go.Proofs.Ytgodkfaacjllcaa
set_option linter.unusedVariables false
set_option linter.unusedSimpArgs false
set_option maxRecDepth 100000
open SL Go.RowKit Go.Maps

/-- The blocks' row is this one. -/
abbrev refH (d : Nat) (g0 : Option (Nat × Nat)) (fi : List ByteArray) (rb : Nat) (bl : List ByteArray) (gl : Option (Nat × Nat)) (lg : List (Int × ByteArray)) (p : Int) : Heap :=
  [.cells d [svOf g0 fi.length, .slice (some ⟨rb, 0, none⟩) 2048 2048, svOf gl lg.length, .int .i64 p] 67 (0, 0), .own (svOf g0 fi.length) fi.length 9 1 (strs fi), .cells rb (strs bl) 9 (0, 0), .own (svOf gl lg.length) lg.length 85 2 (logCells lg)]
theorem putAt_strs (bl : List ByteArray) (k : Nat) (s : ByteArray) (h : k < bl.length) : putAt (strs bl) (0 + k) [.string s] = strs (bl.set k s) := by
  rw [Nat.zero_add, putAt_one _ _ _ (by simpa using h)]; simp [strs]
theorem r5on_ok (F : Mem) (d : Nat) (x y z : Value) (p : Int) : FT Try.prog 27 [.pointer (some ⟨d, 0, none⟩)].toArray F [.cells d [x, y, z, .int .i64 p] 67 (0, 0)]
    (fun e H => e = .returned (.bool (p != 0)) ∧ H = [.cells d [x, y, z, .int .i64 p] 67 (0, 0)]) := by
  refine FT.of_body Try.func27 rfl Try.ntmps27 (by simp) fun C hC => ?_
  subst hC
  conv => whnf
  repeat (first | (refine LoadV.s rfl rfl (forceV_of ?_); conv => whnf) | (refine LoadV.s rfl rfl ?_; conv => whnf) | (refine StoreV.c rfl rfl (Nat.le_of_ble_eq_true rfl) rfl ?_; conv => whnf) | (refine LoadV.a _ rfl (Nat.le_of_ble_eq_true rfl) ?_; conv => whnf) | (refine DrawI.quiet (by kernel_rfl) (by kernel_rfl) ?_; conv => whnf) | (refine ArI.in64 (by omega) ?_; conv => whnf) | (refine ArI.inU8 (by omega) ?_; conv => whnf) | (refine ArI.inU64 (by omega) ?_; conv => whnf) | (refine ArI.inU32 (by omega) ?_; conv => whnf) | (refine RetI.one Try.results27 rfl ?_; conv => whnf) | (refine RetI.two Try.results27 rfl rfl ?_; conv => whnf) | (refine RetI.three Try.results27 rfl rfl rfl ?_; conv => whnf) | (refine RetI.none Try.results27 ?_; conv => whnf) | (refine ⟨by first | decide | omega, ?_⟩; conv => whnf))
  exact ⟨_, Sub.refl _, rfl, rfl⟩
theorem r5off_ok (F : Mem) (d : Nat) (x y z : Value) (p : Int) : FT Try.prog 42 [.pointer (some ⟨d, 0, none⟩)].toArray F [.cells d [x, y, z, .int .i64 p] 67 (0, 0)]
    (fun e H => e = .returned (.tuple #[]) ∧ H = [.cells d [x, y, z, .int .i64 0] 67 (0, 0)]) := by
  refine FT.of_body Try.func42 rfl Try.ntmps42 (by simp) fun C hC => ?_
  subst hC
  conv => whnf
  repeat (first | (refine LoadV.s rfl rfl (forceV_of ?_); conv => whnf) | (refine LoadV.s rfl rfl ?_; conv => whnf) | (refine StoreV.c rfl rfl (Nat.le_of_ble_eq_true rfl) rfl ?_; conv => whnf) | (refine LoadV.a _ rfl (Nat.le_of_ble_eq_true rfl) ?_; conv => whnf) | (refine DrawI.quiet (by kernel_rfl) (by kernel_rfl) ?_; conv => whnf) | (refine ArI.in64 (by omega) ?_; conv => whnf) | (refine ArI.inU8 (by omega) ?_; conv => whnf) | (refine ArI.inU64 (by omega) ?_; conv => whnf) | (refine ArI.inU32 (by omega) ?_; conv => whnf) | (refine RetI.one Try.results42 rfl ?_; conv => whnf) | (refine RetI.two Try.results42 rfl rfl ?_; conv => whnf) | (refine RetI.three Try.results42 rfl rfl rfl ?_; conv => whnf) | (refine RetI.none Try.results42 ?_; conv => whnf) | (refine ⟨by first | decide | omega, ?_⟩; conv => whnf))
  exact ⟨_, Sub.refl _, rfl, rfl⟩
theorem r5up_ok (F : Mem) (d : Nat) (x y z : Value) (p n : Int) : FT Try.prog 40 [.pointer (some ⟨d, 0, none⟩), .int .i64 n].toArray F [.cells d [x, y, z, .int .i64 p] 67 (0, 0)]
    (fun e H => e = .returned (.tuple #[]) ∧ H = [.cells d [x, y, z, .int .i64 (max n (-1))] 67 (0, 0)]) := by
  refine FT.of_body Try.func40 rfl Try.ntmps40 (by simp) fun C hC => ?_
  subst hC
  conv => whnf
  repeat (first | (refine LoadV.s rfl rfl (forceV_of ?_); conv => whnf) | (refine LoadV.s rfl rfl ?_; conv => whnf) | (refine StoreV.c rfl rfl (Nat.le_of_ble_eq_true rfl) rfl ?_; conv => whnf) | (refine LoadV.a _ rfl (Nat.le_of_ble_eq_true rfl) ?_; conv => whnf) | (refine DrawI.quiet (by kernel_rfl) (by kernel_rfl) ?_; conv => whnf) | (refine ArI.in64 (by omega) ?_; conv => whnf) | (refine ArI.inU8 (by omega) ?_; conv => whnf) | (refine ArI.inU64 (by omega) ?_; conv => whnf) | (refine ArI.inU32 (by omega) ?_; conv => whnf) | (refine RetI.one Try.results40 rfl ?_; conv => whnf) | (refine RetI.two Try.results40 rfl rfl ?_; conv => whnf) | (refine RetI.three Try.results40 rfl rfl rfl ?_; conv => whnf) | (refine RetI.none Try.results40 ?_; conv => whnf) | (refine ⟨by first | decide | omega, ?_⟩; conv => whnf))
  exact ⟨_, Sub.refl _, rfl, rfl⟩
theorem r5new_ok (F : Mem) : FT Try.prog 24 [].toArray F [] (fun e H => ∃ d rb bl, bl = List.replicate 2048 nul ∧ e = .returned (.pointer (some ⟨d, 0, none⟩)) ∧ H = refH d none [] rb bl none [] (-1)) := by
  refine FT.of_body Try.func24 rfl Try.ntmps24 (by simp) fun C hC => ?_
  subst hC
  conv => whnf
  refine DoV.makeSlice Try.underlying22 rfl rfl rfl rfl (by omega) (by decide) (by omega) fun b2 => ?_
  conv => whnf
  intro d
  conv => whnf
  repeat (first | (refine LoadV.s rfl rfl (forceV_of ?_); conv => whnf) | (refine LoadV.s rfl rfl ?_; conv => whnf) | (refine StoreV.c rfl rfl (Nat.le_of_ble_eq_true rfl) rfl ?_; conv => whnf) | (refine LoadV.a _ rfl (Nat.le_of_ble_eq_true rfl) ?_; conv => whnf) | (refine DrawI.quiet (by kernel_rfl) (by kernel_rfl) ?_; conv => whnf) | (refine ArI.in64 (by omega) ?_; conv => whnf) | (refine ArI.inU8 (by omega) ?_; conv => whnf) | (refine ArI.inU64 (by omega) ?_; conv => whnf) | (refine ArI.inU32 (by omega) ?_; conv => whnf) | (refine RetI.one Try.results24 rfl ?_; conv => whnf) | (refine RetI.two Try.results24 rfl rfl ?_; conv => whnf) | (refine RetI.three Try.results24 rfl rfl rfl ?_; conv => whnf) | (refine RetI.none Try.results24 ?_; conv => whnf) | (refine ⟨by first | decide | omega, ?_⟩; conv => whnf))
  refine ⟨_, Sub.trans (Sub.trans (Sub.nil 85 2) (Sub.nil 9 1)) (Sub.sel [2, 0, 3, 1] rfl), d, b2, _, rfl, rfl, ?_⟩
  have e : strs (List.replicate 2048 nul) = List.replicate 2048 (.string nul) := List.map_replicate
  rw [refH, e]; rfl
def wPow (p : Int) : Int := if p > 0 then p - 1 else p
theorem r5write_ok (F : Mem) (d : Nat) (x : Value) (rb : Nat) (bl : List ByteArray) (gl : Option (Nat × Nat)) (lg : List (Int × ByteArray)) (p at_ : Int) (s : ByteArray) (hbl : bl.length = 2048)
    (hlog : (lg.length + 1) * 24 ≤ 140737488355328) (hp : p ≤ 9223372036854775807) :
    FT Try.prog 51 [.pointer (some ⟨d, 0, none⟩), .int .i64 at_, .string s].toArray F [.cells d [x, .slice (some ⟨rb, 0, none⟩) 2048 2048, svOf gl lg.length, .int .i64 p] 67 (0, 0), .cells rb (strs bl) 9 (0, 0), .own (svOf gl lg.length) lg.length 85 2 (logCells lg)]
    (fun e H => e = .returned (.int .i64 (wcode (p != 0) at_ s)) ∧ ((wcode (p != 0) at_ s ≠ 0 ∧ H = [.cells d [x, .slice (some ⟨rb, 0, none⟩) 2048 2048, svOf gl lg.length, .int .i64 p] 67 (0, 0), .cells rb (strs bl) 9 (0, 0), .own (svOf gl lg.length) lg.length 85 2 (logCells lg)]) ∨
      (wcode (p != 0) at_ s = 0 ∧ ∃ gl', gl' ≠ none ∧ H = [.cells d [x, .slice (some ⟨rb, 0, none⟩) 2048 2048, svOf gl' (lg ++ [(at_, s)]).length, .int .i64 (wPow p)] 67 (0, 0), .cells rb (strs (bl.set at_.toNat s)) 9 (0, 0), .own (svOf gl' (lg ++ [(at_, s)]).length) (lg ++ [(at_, s)]).length 85 2 (logCells (lg ++ [(at_, s)]))]))) := by
  refine FT.of_body Try.func51 rfl Try.ntmps51 (by simp) fun C hC => ?_
  subst hC
  conv => whnf
  refine CallS.mk Try.call27 ⟨[_], _, _, Sub.split [0] rfl, fun F' hF' => r5on_ok F' d _ _ _ _, ?_⟩
  rintro e A' ⟨rfl, rfl⟩
  cases hon : (p != 0) with
  | false =>
    conv => whnf
    repeat (first | (refine LoadV.s rfl rfl (forceV_of ?_); conv => whnf) | (refine LoadV.s rfl rfl ?_; conv => whnf) | (refine StoreV.c rfl rfl (Nat.le_of_ble_eq_true rfl) rfl ?_; conv => whnf) | (refine LoadV.a _ rfl (Nat.le_of_ble_eq_true rfl) ?_; conv => whnf) | (refine DrawI.quiet (by kernel_rfl) (by kernel_rfl) ?_; conv => whnf) | (refine ArI.in64 (by omega) ?_; conv => whnf) | (refine ArI.inU8 (by omega) ?_; conv => whnf) | (refine ArI.inU64 (by omega) ?_; conv => whnf) | (refine ArI.inU32 (by omega) ?_; conv => whnf) | (refine RetI.one Try.results51 rfl ?_; conv => whnf) | (refine RetI.two Try.results51 rfl rfl ?_; conv => whnf) | (refine RetI.three Try.results51 rfl rfl rfl ?_; conv => whnf) | (refine RetI.none Try.results51 ?_; conv => whnf) | (refine ⟨by first | decide | omega, ?_⟩; conv => whnf))
    exact ⟨_, Sub.refl _, rfl, .inl ⟨by unfold wcode; simp, rfl⟩⟩
  | true =>
    conv => whnf
    refine cond_dec (fun h1 => ?_) (fun h1 => ?_)
    · conv => whnf
      repeat (first | (refine LoadV.s rfl rfl (forceV_of ?_); conv => whnf) | (refine LoadV.s rfl rfl ?_; conv => whnf) | (refine StoreV.c rfl rfl (Nat.le_of_ble_eq_true rfl) rfl ?_; conv => whnf) | (refine LoadV.a _ rfl (Nat.le_of_ble_eq_true rfl) ?_; conv => whnf) | (refine DrawI.quiet (by kernel_rfl) (by kernel_rfl) ?_; conv => whnf) | (refine ArI.in64 (by omega) ?_; conv => whnf) | (refine ArI.inU8 (by omega) ?_; conv => whnf) | (refine ArI.inU64 (by omega) ?_; conv => whnf) | (refine ArI.inU32 (by omega) ?_; conv => whnf) | (refine RetI.one Try.results51 rfl ?_; conv => whnf) | (refine RetI.two Try.results51 rfl rfl ?_; conv => whnf) | (refine RetI.three Try.results51 rfl rfl rfl ?_; conv => whnf) | (refine RetI.none Try.results51 ?_; conv => whnf) | (refine ⟨by first | decide | omega, ?_⟩; conv => whnf))
      have hw : wcode true at_ s = 8 := by unfold wcode; rw [if_neg (by simp), if_pos (.inl h1)]
      exact ⟨_, Sub.refl _, ret_int hw.symm, .inl ⟨by rw [hw]; simp, rfl⟩⟩
    · conv => whnf
      refine cond_dec (fun h2 => ?_) (fun h2 => ?_)
      · conv => whnf
        repeat (first | (refine LoadV.s rfl rfl (forceV_of ?_); conv => whnf) | (refine LoadV.s rfl rfl ?_; conv => whnf) | (refine StoreV.c rfl rfl (Nat.le_of_ble_eq_true rfl) rfl ?_; conv => whnf) | (refine LoadV.a _ rfl (Nat.le_of_ble_eq_true rfl) ?_; conv => whnf) | (refine DrawI.quiet (by kernel_rfl) (by kernel_rfl) ?_; conv => whnf) | (refine ArI.in64 (by omega) ?_; conv => whnf) | (refine ArI.inU8 (by omega) ?_; conv => whnf) | (refine ArI.inU64 (by omega) ?_; conv => whnf) | (refine ArI.inU32 (by omega) ?_; conv => whnf) | (refine RetI.one Try.results51 rfl ?_; conv => whnf) | (refine RetI.two Try.results51 rfl rfl ?_; conv => whnf) | (refine RetI.three Try.results51 rfl rfl rfl ?_; conv => whnf) | (refine RetI.none Try.results51 ?_; conv => whnf) | (refine ⟨by first | decide | omega, ?_⟩; conv => whnf))
        have hw : wcode true at_ s = 8 := by unfold wcode; rw [if_neg (by simp), if_pos (.inr h2)]
        exact ⟨_, Sub.refl _, ret_int hw.symm, .inl ⟨by rw [hw]; simp, rfl⟩⟩
      · conv => whnf
        refine cond_dec (fun h3 => ?_) (fun h3 => ?_)
        · conv => whnf
          repeat (first | (refine LoadV.s rfl rfl (forceV_of ?_); conv => whnf) | (refine LoadV.s rfl rfl ?_; conv => whnf) | (refine StoreV.c rfl rfl (Nat.le_of_ble_eq_true rfl) rfl ?_; conv => whnf) | (refine LoadV.a _ rfl (Nat.le_of_ble_eq_true rfl) ?_; conv => whnf) | (refine DrawI.quiet (by kernel_rfl) (by kernel_rfl) ?_; conv => whnf) | (refine ArI.in64 (by omega) ?_; conv => whnf) | (refine ArI.inU8 (by omega) ?_; conv => whnf) | (refine ArI.inU64 (by omega) ?_; conv => whnf) | (refine ArI.inU32 (by omega) ?_; conv => whnf) | (refine RetI.one Try.results51 rfl ?_; conv => whnf) | (refine RetI.two Try.results51 rfl rfl ?_; conv => whnf) | (refine RetI.three Try.results51 rfl rfl rfl ?_; conv => whnf) | (refine RetI.none Try.results51 ?_; conv => whnf) | (refine ⟨by first | decide | omega, ?_⟩; conv => whnf))
          have hw : wcode true at_ s = 9 := by unfold wcode; rw [if_neg (by simp), if_neg (by omega), if_pos (by have h4 : (32 : Int) < (s.size : Int) := h3; omega)]
          exact ⟨_, Sub.refl _, ret_int hw.symm, .inl ⟨by rw [hw]; simp, rfl⟩⟩
        · have hw : wcode true at_ s = 0 := by unfold wcode; rw [if_neg (by simp), if_neg (by omega), if_neg (by have h4 : ¬ (32 : Int) < (s.size : Int) := h3; omega)]
          obtain ⟨k, rfl⟩ : ∃ k : Nat, at_ = k := ⟨at_.toNat, by omega⟩
          conv => whnf
          refine LoadV.s rfl rfl ?_
          conv => whnf
          refine ⟨by omega, ?_⟩
          conv => whnf
          refine StoreV.c rfl rfl (by show 0 + k + 1 ≤ (strs bl).length; simp only [strs, List.length_map]; omega) rfl ?_
          conv => whnf
          refine LoadV.s rfl rfl (forceV_of ?_)
          conv => whnf
          intro b
          conv => whnf
          refine BuiltV.append (sv := svOf gl lg.length) (m := 1) Try.underlying38 rfl rfl rfl rfl (by decide) (Row.cells 2) rfl (by decide) rfl hlog (by omega) fun g cap => ?_
          conv => whnf
          refine StoreV.c rfl rfl (Nat.le_of_ble_eq_true rfl) rfl ?_
          conv => whnf
          refine LoadV.s rfl rfl ?_
          conv => whnf
          have e1 : svOf (some (g, cap)) (lg ++ [((k : Int), s)]).length = .slice (some ⟨g, 0, none⟩) (lg.length + 1) cap := by simp
          have e0 : putAt (strs bl) (0 + k) [.string s] = strs (bl.set (Int.toNat k) s) := putAt_strs bl k s (by omega)
          refine cond_dec (fun h4 => ?_) (fun h4 => ?_)
          · conv => whnf
            refine LoadV.s rfl rfl ?_
            conv => whnf
            refine ArI.in64 (by omega) ?_
            conv => whnf
            refine StoreV.c rfl rfl (Nat.le_of_ble_eq_true rfl) rfl ?_
            conv => whnf
            repeat (first | (refine LoadV.s rfl rfl (forceV_of ?_); conv => whnf) | (refine LoadV.s rfl rfl ?_; conv => whnf) | (refine StoreV.c rfl rfl (Nat.le_of_ble_eq_true rfl) rfl ?_; conv => whnf) | (refine LoadV.a _ rfl (Nat.le_of_ble_eq_true rfl) ?_; conv => whnf) | (refine DrawI.quiet (by kernel_rfl) (by kernel_rfl) ?_; conv => whnf) | (refine ArI.in64 (by omega) ?_; conv => whnf) | (refine ArI.inU8 (by omega) ?_; conv => whnf) | (refine ArI.inU64 (by omega) ?_; conv => whnf) | (refine ArI.inU32 (by omega) ?_; conv => whnf) | (refine RetI.one Try.results51 rfl ?_; conv => whnf) | (refine RetI.two Try.results51 rfl rfl ?_; conv => whnf) | (refine RetI.three Try.results51 rfl rfl rfl ?_; conv => whnf) | (refine RetI.none Try.results51 ?_; conv => whnf) | (refine ⟨by first | decide | omega, ?_⟩; conv => whnf))
            refine ⟨_, Sub.sel [1, 2, 3] rfl, ret_int hw.symm, .inr ⟨hw, some (g, cap), by simp, ?_⟩⟩
            rw [e1, show wPow p = p - 1 from if_pos h4, logCells_append, ← e0, List.length_append]; rfl
          · conv => whnf
            repeat (first | (refine LoadV.s rfl rfl (forceV_of ?_); conv => whnf) | (refine LoadV.s rfl rfl ?_; conv => whnf) | (refine StoreV.c rfl rfl (Nat.le_of_ble_eq_true rfl) rfl ?_; conv => whnf) | (refine LoadV.a _ rfl (Nat.le_of_ble_eq_true rfl) ?_; conv => whnf) | (refine DrawI.quiet (by kernel_rfl) (by kernel_rfl) ?_; conv => whnf) | (refine ArI.in64 (by omega) ?_; conv => whnf) | (refine ArI.inU8 (by omega) ?_; conv => whnf) | (refine ArI.inU64 (by omega) ?_; conv => whnf) | (refine ArI.inU32 (by omega) ?_; conv => whnf) | (refine RetI.one Try.results51 rfl ?_; conv => whnf) | (refine RetI.two Try.results51 rfl rfl ?_; conv => whnf) | (refine RetI.three Try.results51 rfl rfl rfl ?_; conv => whnf) | (refine RetI.none Try.results51 ?_; conv => whnf) | (refine ⟨by first | decide | omega, ?_⟩; conv => whnf))
            refine ⟨_, Sub.sel [1, 2, 3] rfl, ret_int hw.symm, .inr ⟨hw, some (g, cap), by simp, ?_⟩⟩
            rw [e1, show wPow p = p from if_neg h4, logCells_append, ← e0, List.length_append]; rfl
def r5readV (on : Bool) (bl : List ByteArray) (at_ : Int) : ByteArray × Int :=
  if on = false then (⟨#[]⟩, 11) else if at_ < 0 ∨ at_ ≥ 2048 then (⟨#[]⟩, 8) else ((bl[at_.toNat]?).getD ⟨#[]⟩, 0)
end Go.Proofs.Ytgodkfaacjllcaa

/- The disks from an image; the reference's image and cutting. -/
namespace Go.Proofs.Ytgodkfaacjllcaa
set_option linter.unusedVariables false
set_option linter.unusedSimpArgs false
set_option maxRecDepth 100000
open SL Go.RowKit Go.Maps

/-- One more than the last place of a text that isn't empty, of the first n. -/
def topB (bl : List ByteArray) : Nat → Nat
  | 0 => 0
  | n + 1 => if ((bl[n]?).getD nul).size = 0 then topB bl n else n + 1
theorem topB_le (bl : List ByteArray) : ∀ n, topB bl n ≤ n
  | 0 => Nat.le_refl _
  | n + 1 => by unfold topB; have := topB_le bl n; split <;> omega
theorem topB_ge (bl : List ByteArray) : ∀ n i, i < n → ((bl[i]?).getD nul).size ≠ 0 → i + 1 ≤ topB bl n
  | 0, i, h, _ => by omega
  | n + 1, i, h, hs => by
    unfold topB
    by_cases hi : i = n
    · subst hi; rw [if_neg hs]; exact Nat.le_refl _
    · have := topB_ge bl n i (by omega) hs; split <;> omega
theorem topB_at (bl : List ByteArray) : ∀ n, topB bl n = 0 ∨ ∃ i, topB bl n = i + 1 ∧ ((bl[i]?).getD nul).size ≠ 0
  | 0 => .inl rfl
  | n + 1 => by
    unfold topB
    by_cases h : ((bl[n]?).getD nul).size = 0
    · rw [if_pos h]; exact topB_at bl n
    · rw [if_neg h]; exact .inr ⟨n, rfl, h⟩
def trimB (bl : List ByteArray) : List ByteArray := bl.take (topB bl bl.length)
/-- The blocks are those of the map. -/
def BlkOk (m : List (Int × ByteArray)) (bl : List ByteArray) : Prop := bl.length = 2048 ∧ ∀ i : Nat, i < 2048 → bl[i]? = some ((lookM m (i : Int)).getD nul)
theorem trim_image {es : Array MapEntry} {c : Nat} {m : List (Int × ByteArray)} {bl : List ByteArray} (M : MapS es c m) (hm : InDisk m) (h : BlkOk m bl) : trimB bl = imageL m := by
  have ht : topB bl bl.length = (topM m).toNat := by
    have h0 := topM_nonneg m
    have h1 : topM m ≤ (topB bl bl.length : Int) := topM_le (by omega) fun p hp hs => by
      have hb := hm p hp
      have hl := lookM_of_mem M.nodup hp
      have := topB_ge bl bl.length p.1.toNat (by rw [h.1]; omega) (by rw [h.2 _ (by omega), show ((p.1.toNat : Nat) : Int) = p.1 by omega, hl]; exact hs)
      omega
    have h2 : (topB bl bl.length : Int) ≤ topM m := by
      rcases topB_at bl bl.length with h3 | ⟨i, h3, h4⟩
      · omega
      · have hi : i < 2048 := by have := topB_le bl bl.length; have := h.1; omega
        rw [h.2 i hi] at h4
        cases hl : lookM m (i : Int) with
        | none => rw [hl] at h4; exact absurd rfl h4
        | some s => rw [hl] at h4; have := le_topM (lookM_mem hl) h4; simp only at this; omega
    omega
  apply List.ext_getElem?
  intro i
  have htm := topM_small hm
  unfold trimB imageL
  rw [ht, List.getElem?_take, List.getElem?_map]
  by_cases hi : i < (topM m).toNat
  · rw [if_pos hi, h.2 i (by omega), List.getElem?_range hi]; rfl
  · rw [if_neg hi, List.getElem?_eq_none (by rw [List.length_range]; omega)]; rfl
theorem blk_set {m : List (Int × ByteArray)} {bl : List ByteArray} (h : BlkOk m bl) {a : Int} (ha : 0 ≤ a ∧ a < 2048) (s : ByteArray) : BlkOk (putM m a s) (bl.set a.toNat s) := by
  refine ⟨by rw [List.length_set]; exact h.1, fun i hi => ?_⟩
  rw [lookM_putM, List.getElem?_set]
  by_cases e : a.toNat = i
  · rw [if_pos e, if_pos (by rw [h.1]; omega), if_pos (by omega)]; rfl
  · rw [if_neg e, if_neg (by omega)]; exact h.2 i hi
/-- What a log makes of the first blocks. -/
def setAll (bl : List ByteArray) (l : List (Int × ByteArray)) : List ByteArray := l.foldl (fun b p => b.set p.1.toNat p.2) bl
theorem setAll_length (l : List (Int × ByteArray)) : ∀ bl, (setAll bl l).length = bl.length := by
  induction l with
  | nil => intro bl; rfl
  | cons p l ih => intro bl; show (setAll (bl.set p.1.toNat p.2) l).length = _; rw [ih, List.length_set]
theorem setAll_push (bl : List ByteArray) (l : List (Int × ByteArray)) (p : Int × ByteArray) : setAll bl (l ++ [p]) = (setAll bl l).set p.1.toNat p.2 := by simp [setAll]
theorem blk_replay {l : List (Int × ByteArray)} (hl : LogOk l) : ∀ {m : List (Int × ByteArray)} {bl : List ByteArray}, BlkOk m bl → BlkOk (replay m l) (setAll bl l) := by
  induction l with
  | nil => intro m bl h; exact h
  | cons p l ih =>
    intro m bl h
    have hp := hl p (by simp)
    exact ih (fun q hq => hl q (by simp [hq])) (blk_set h ⟨hp.1, hp.2.1⟩ p.2)
theorem trim_ok (F : Mem) (oa : Option Addr) (ca : Nat) (bl : List ByteArray) (hb : SlF F 1 oa bl.length (strs bl)) (hc : oa = none → ca = 0) (hle : bl.length ≤ ca) (hn : bl.length ≤ 2048) :
    FT Try.prog 44 [.slice oa bl.length ca].toArray F [] (fun e H => ∃ g, g ≠ none ∧ e = .returned (svOf g (trimB bl).length) ∧ H = [.own (svOf g (trimB bl).length) (trimB bl).length 9 1 (strs (trimB bl))]) := by
  refine FT.of_body Try.func44 rfl Try.ntmps44 (by simp) fun C hC => ?_
  subst hC
  conv => whnf
  refine LoopI.by_state (σ := Nat) (fun i => [(0, .slice oa bl.length ca), (3, .int .i64 (topB bl i : Nat)), (6, .slice oa bl.length ca), (7, .int .i64 (bl.length : Int)), (8, .int .i64 (i : Int))]) (fun _ => []) (fun i => i ≤ bl.length) (fun i => bl.length - i) 0 (by simp) ⟨rfl, rfl, rfl, rfl, rfl, trivial⟩ (Sub.refl _) ?_
  rintro i f0 hi
  conv => whnf
  refine cond_dec (fun h => ?_) (fun h => ?_)
  · obtain ⟨xa, ya, rfl, hra⟩ := hb.at (i := i) (by omega)
    have hia : i < bl.length := by omega
    have hget : (bl[i]?).getD nul = bl[i] := by simp [hia]
    conv => whnf
    repeat (first | (refine LoadV.s rfl rfl (forceV_of ?_); conv => whnf) | (refine LoadV.s rfl rfl ?_; conv => whnf) | (refine StoreV.c rfl rfl (Nat.le_of_ble_eq_true rfl) rfl ?_; conv => whnf) | (refine LoadV.a _ rfl (Nat.le_of_ble_eq_true rfl) ?_; conv => whnf) | (refine DrawI.quiet (by kernel_rfl) (by kernel_rfl) ?_; conv => whnf) | (refine RetI.one Try.results44 rfl ?_; conv => whnf) | (refine RetI.two Try.results44 rfl rfl ?_; conv => whnf) | (refine RetI.three Try.results44 rfl rfl rfl ?_; conv => whnf) | (refine RetI.none Try.results44 ?_; conv => whnf) | (refine ⟨by first | decide | omega, ?_⟩; conv => whnf))
    refine LoadV.f (hra i (.string bl[i]) (by simp [strs, hia])) rfl ?_
    conv => whnf
    cases hz : (bl[i].toList == (⟨#[]⟩ : ByteArray).toList) with
    | true =>
      conv => whnf
      refine ArI.to64 ((i + 1 : Nat) : Int) (by omega) (by omega) ?_
      conv => whnf
      refine ⟨i + 1, [], by omega, Sub.refl _, by omega, ⟨rfl, ?_, rfl, rfl, rfl, trivial⟩, rfl⟩
      rw [topB, hget, if_pos (size_nul.1 hz)]; rfl
    | false =>
      conv => whnf
      refine ArI.to64 ((i + 1 : Nat) : Int) (by omega) (by omega) ?_
      conv => whnf
      refine ArI.to64 ((i + 1 : Nat) : Int) (by omega) (by omega) ?_
      conv => whnf
      refine ⟨i + 1, [], by omega, Sub.refl _, by omega, ⟨rfl, ?_, rfl, rfl, rfl, trivial⟩, rfl⟩
      rw [topB, hget, if_neg (fun h => by rw [size_nul.2 h] at hz; cases hz)]; rfl
  · obtain rfl : i = bl.length := by omega
    have htl := topB_le bl bl.length
    conv => whnf
    intro b0
    conv => whnf
    refine DoV.slice_to Try.underlying22 rfl (by omega) (by omega) ?_
    conv => whnf
    have hk : ((topB bl bl.length : Nat) : Int).toNat = (trimB bl).length := by rw [trimB, List.length_take]; omega
    have hsl : SlF C.F 1 oa (trimB bl).length (strs (trimB bl)) := by
      refine ⟨by simp [strs], fun h0 => ?_⟩
      obtain ⟨b, o, e, hr⟩ := hb.row (by rw [trimB, List.length_take] at h0; omega)
      refine ⟨b, o, e, fun j v hj => hr j v ?_⟩
      rw [trimB, strs, List.map_take, List.getElem?_take] at hj
      split at hj
      · exact hj
      · cases hj
    have hlt : (trimB bl).length ≤ 2048 := by rw [trimB, List.length_take]; omega
    rw [hk]
    refine BuiltV.sub (Sub.own (n := 0) (sz := 1) rfl (by decide)) ?_
    refine BuiltV.append_sv (g := some (b0, 0)) (n := 0) (sz := 1) Try.underlying22 rfl rfl rfl rfl (by decide) (Src.foreign hsl hc) (by simp) (by simp [Value.oneCell']) (by show (0 + (trimB bl).length) * 16 ≤ _; omega) (by omega) fun g hg => ?_
    conv => whnf
    obtain ⟨gb, gc, rfl⟩ : ∃ b c, g = some (b, c) := by
      cases g with
      | none => exact absurd (hg.1 rfl).1 (by simp)
      | some p => exact ⟨p.1, p.2, rfl⟩
    conv => whnf
    repeat (first | (refine LoadV.s rfl rfl (forceV_of ?_); conv => whnf) | (refine LoadV.s rfl rfl ?_; conv => whnf) | (refine StoreV.c rfl rfl (Nat.le_of_ble_eq_true rfl) rfl ?_; conv => whnf) | (refine LoadV.a _ rfl (Nat.le_of_ble_eq_true rfl) ?_; conv => whnf) | (refine DrawI.quiet (by kernel_rfl) (by kernel_rfl) ?_; conv => whnf) | (refine ArI.in64 (by omega) ?_; conv => whnf) | (refine ArI.inU8 (by omega) ?_; conv => whnf) | (refine ArI.inU64 (by omega) ?_; conv => whnf) | (refine ArI.inU32 (by omega) ?_; conv => whnf) | (refine RetI.one Try.results44 rfl ?_; conv => whnf) | (refine RetI.two Try.results44 rfl rfl ?_; conv => whnf) | (refine RetI.three Try.results44 rfl rfl rfl ?_; conv => whnf) | (refine RetI.none Try.results44 ?_; conv => whnf) | (refine ⟨by first | decide | omega, ?_⟩; conv => whnf))
    refine ⟨_, Sub.refl _, some (gb, gc), by simp, ?_, ?_⟩
    · rw [Nat.zero_add]
    · rw [Nat.zero_add]; rfl
theorem r5image_ok (F : Mem) (d : Nat) (x y : Value) (rb : Nat) (bl : List ByteArray) (p : Int) (hbl : bl.length = 2048) :
    FT Try.prog 29 [.pointer (some ⟨d, 0, none⟩)].toArray F [.cells d [x, .slice (some ⟨rb, 0, none⟩) 2048 2048, y, .int .i64 p] 67 (0, 0), .cells rb (strs bl) 9 (0, 0)]
    (fun e H => ∃ g, g ≠ none ∧ e = .returned (svOf g (trimB bl).length) ∧ H = [.own (svOf g (trimB bl).length) (trimB bl).length 9 1 (strs (trimB bl)), .cells d [x, .slice (some ⟨rb, 0, none⟩) 2048 2048, y, .int .i64 p] 67 (0, 0), .cells rb (strs bl) 9 (0, 0)]) := by
  refine FT.of_body Try.func29 rfl Try.ntmps29 (by simp) fun C hC => ?_
  subst hC
  conv => whnf
  refine LoadV.s rfl rfl ?_
  conv => whnf
  rw [show Value.slice (some ⟨rb, 0, none⟩) 2048 2048 = .slice (some ⟨rb, 0, none⟩) bl.length 2048 by rw [hbl]]
  refine CallS.mk Try.call44 ⟨[], _, _, Sub.refl _, fun F' hF' => trim_ok F' (some ⟨rb, 0, none⟩) 2048 bl (SlF.cells hF' (by simp)) (by simp) (by omega) (by omega), ?_⟩
  rw [hbl]
  rintro e A' ⟨g, hg, rfl, rfl⟩
  obtain ⟨gb, gc, rfl⟩ : ∃ b c, g = some (b, c) := by
    cases g with
    | none => exact absurd rfl hg
    | some p => exact ⟨p.1, p.2, rfl⟩
  conv => whnf
  repeat (first | (refine LoadV.s rfl rfl (forceV_of ?_); conv => whnf) | (refine LoadV.s rfl rfl ?_; conv => whnf) | (refine StoreV.c rfl rfl (Nat.le_of_ble_eq_true rfl) rfl ?_; conv => whnf) | (refine LoadV.a _ rfl (Nat.le_of_ble_eq_true rfl) ?_; conv => whnf) | (refine DrawI.quiet (by kernel_rfl) (by kernel_rfl) ?_; conv => whnf) | (refine ArI.in64 (by omega) ?_; conv => whnf) | (refine ArI.inU8 (by omega) ?_; conv => whnf) | (refine ArI.inU64 (by omega) ?_; conv => whnf) | (refine ArI.inU32 (by omega) ?_; conv => whnf) | (refine RetI.one Try.results29 rfl ?_; conv => whnf) | (refine RetI.two Try.results29 rfl rfl ?_; conv => whnf) | (refine RetI.three Try.results29 rfl rfl rfl ?_; conv => whnf) | (refine RetI.none Try.results29 ?_; conv => whnf) | (refine ⟨by first | decide | omega, ?_⟩; conv => whnf))
  exact ⟨_, Sub.refl _, some (gb, gc), by simp, rfl, rfl⟩
end Go.Proofs.Ytgodkfaacjllcaa

/- The disks from an image. -/
namespace Go.Proofs.Ytgodkfaacjllcaa
set_option linter.unusedVariables false
set_option linter.unusedSimpArgs false
set_option maxRecDepth 100000
open SL Go.RowKit Go.Maps

/-- The blocks of an image, as a map. -/
def fromM (im : List ByteArray) : Nat → List (Int × ByteArray)
  | 0 => []
  | n + 1 => fromM im n ++ [((n : Int), (im[n]?).getD nul)]
theorem fromM_keys (im : List ByteArray) : ∀ n, ∀ p ∈ fromM im n, 0 ≤ p.1 ∧ p.1 < (n : Int)
  | 0, p, h => by cases h
  | n + 1, p, h => by
    rcases List.mem_append.1 h with h | h
    · have := fromM_keys im n p h; omega
    · simp at h; subst h; constructor <;> dsimp only <;> omega
theorem fromM_put (im : List ByteArray) (n : Nat) : putM (fromM im n) (n : Int) ((im[n]?).getD nul) = fromM im (n + 1) := putM_new fun p hp => by have := fromM_keys im n p hp; omega
theorem fromM_look (im : List ByteArray) : ∀ n (i : Nat), lookM (fromM im n) (i : Int) = if i < n then some ((im[i]?).getD nul) else none
  | 0, i => by simp [fromM, lookM]
  | n + 1, i => by
    rw [← fromM_put, lookM_putM]
    by_cases h : n = i
    · subst h; simp
    · rw [if_neg (by omega), fromM_look im n i]
      by_cases h2 : i < n
      · rw [if_pos h2, if_pos (by omega)]
      · rw [if_neg h2, if_neg (by omega)]
/-- What a disk from an image answers. -/
def fromC (im : List ByteArray) : Int := if im.length > 2048 then 8 else if ∀ s ∈ im, s.size ≤ 32 then 0 else 9
theorem fromC_big {im : List ByteArray} (h : im.length > 2048) : fromC im = 8 := if_pos h
theorem fromC_long {im : List ByteArray} (h : ¬ im.length > 2048) {i : Nat} (hi : i < im.length) (hs : im[i].size > 32) : fromC im = 9 := by
  unfold fromC; rw [if_neg h, if_neg fun h2 => by have := h2 _ (List.getElem_mem hi); omega]
theorem fromC_ok {im : List ByteArray} (h : ¬ im.length > 2048) (hs : ∀ s ∈ im, s.size ≤ 32) : fromC im = 0 := by
  unfold fromC; rw [if_neg h, if_pos hs]
theorem from_ok (F : Mem) (oa : Option Addr) (ca : Nat) (im : List ByteArray) (hb : SlF F 1 oa im.length (strs im)) :
    FT Try.prog 22 [.slice oa im.length ca].toArray F [] (fun e H => (fromC im ≠ 0 ∧ e = .returned (.tuple #[.pointer none, .int .i64 (fromC im)]) ∧ H = []) ∨
      (fromC im = 0 ∧ ∃ d r rb es c, MapS es c (fromM im im.length) ∧ e = .returned (.tuple #[.pointer (some ⟨d, 0, none⟩), .int .i64 0]) ∧ H = diskH d r rb (.map es c) (.map es c) (.slice none 0 0) [] true (-1))) := by
  refine FT.of_body Try.func22 rfl Try.ntmps22 (by simp) fun C hC => ?_
  subst hC
  conv => whnf
  refine cond_dec (fun h => ?_) (fun h => ?_)
  · conv => whnf
    repeat (first | (refine LoadV.s rfl rfl (forceV_of ?_); conv => whnf) | (refine LoadV.s rfl rfl ?_; conv => whnf) | (refine StoreV.c rfl rfl (Nat.le_of_ble_eq_true rfl) rfl ?_; conv => whnf) | (refine LoadV.a _ rfl (Nat.le_of_ble_eq_true rfl) ?_; conv => whnf) | (refine DrawI.quiet (by kernel_rfl) (by kernel_rfl) ?_; conv => whnf) | (refine ArI.in64 (by omega) ?_; conv => whnf) | (refine ArI.inU8 (by omega) ?_; conv => whnf) | (refine ArI.inU64 (by omega) ?_; conv => whnf) | (refine ArI.inU32 (by omega) ?_; conv => whnf) | (refine RetI.one Try.results22 rfl ?_; conv => whnf) | (refine RetI.two Try.results22 rfl rfl ?_; conv => whnf) | (refine RetI.three Try.results22 rfl rfl rfl ?_; conv => whnf) | (refine RetI.none Try.results22 ?_; conv => whnf) | (refine ⟨by first | decide | omega, ?_⟩; conv => whnf))
    have e8 := fromC_big (im := im) (by omega)
    exact ⟨_, Sub.refl _, .inl ⟨by rw [e8]; decide, by rw [e8], rfl⟩⟩
  · conv => whnf
    intro r
    conv => whnf
    refine LoopI.by_state (σ := Nat × Array MapEntry × Nat) (fun x => [(0, .slice oa im.length ca), (2, .pointer none), (3, .int .i64 0), (4, .map (some r)), (11, .slice oa im.length ca), (12, .int .i64 (im.length : Int)), (13, .int .i64 (x.1 : Int))]) (fun x => [.obj r (.map x.2.1 x.2.2)])
      (fun x => x.1 ≤ im.length ∧ MapS x.2.1 x.2.2 (fromM im x.1) ∧ ∀ j (hj : j < im.length), j < x.1 → im[j].size ≤ 32) (fun x => im.length - x.1) (0, #[], 0) ⟨by simp, MapOk.empty, fun j _ hj => by omega⟩ ⟨rfl, rfl, rfl, rfl, rfl, rfl, rfl, trivial⟩ (Sub.refl _) ?_
    rintro ⟨i, es, c⟩ f0 ⟨hi, M, hsz⟩
    dsimp only at hi M hsz ⊢
    conv => whnf
    refine cond_dec (fun h2 => ?_) (fun h2 => ?_)
    · obtain ⟨xa, ya, rfl, hra⟩ := hb.at (i := i) (by omega)
      have hia : i < im.length := by omega
      have hget : (im[i]?).getD nul = im[i] := by simp [hia]
      conv => whnf
      repeat (first | (refine LoadV.s rfl rfl (forceV_of ?_); conv => whnf) | (refine LoadV.s rfl rfl ?_; conv => whnf) | (refine StoreV.c rfl rfl (Nat.le_of_ble_eq_true rfl) rfl ?_; conv => whnf) | (refine LoadV.a _ rfl (Nat.le_of_ble_eq_true rfl) ?_; conv => whnf) | (refine DrawI.quiet (by kernel_rfl) (by kernel_rfl) ?_; conv => whnf) | (refine RetI.one Try.results22 rfl ?_; conv => whnf) | (refine RetI.two Try.results22 rfl rfl ?_; conv => whnf) | (refine RetI.three Try.results22 rfl rfl rfl ?_; conv => whnf) | (refine RetI.none Try.results22 ?_; conv => whnf) | (refine ⟨by first | decide | omega, ?_⟩; conv => whnf))
      refine LoadV.f (hra i (.string im[i]) (by simp [strs, hia])) rfl ?_
      conv => whnf
      refine cond_dec (fun h3 => ?_) (fun h3 => ?_)
      · conv => whnf
        repeat (first | (refine LoadV.s rfl rfl (forceV_of ?_); conv => whnf) | (refine LoadV.s rfl rfl ?_; conv => whnf) | (refine StoreV.c rfl rfl (Nat.le_of_ble_eq_true rfl) rfl ?_; conv => whnf) | (refine LoadV.a _ rfl (Nat.le_of_ble_eq_true rfl) ?_; conv => whnf) | (refine DrawI.quiet (by kernel_rfl) (by kernel_rfl) ?_; conv => whnf) | (refine ArI.in64 (by omega) ?_; conv => whnf) | (refine ArI.inU8 (by omega) ?_; conv => whnf) | (refine ArI.inU64 (by omega) ?_; conv => whnf) | (refine ArI.inU32 (by omega) ?_; conv => whnf) | (refine RetI.one Try.results22 rfl ?_; conv => whnf) | (refine RetI.two Try.results22 rfl rfl ?_; conv => whnf) | (refine RetI.three Try.results22 rfl rfl rfl ?_; conv => whnf) | (refine RetI.none Try.results22 ?_; conv => whnf) | (refine ⟨by first | decide | omega, ?_⟩; conv => whnf))
        have e9 := fromC_long (im := im) (by omega) hia (by omega)
        exact ⟨_, Sub.sel [] rfl, .inl ⟨by rw [e9]; decide, by rw [e9], rfl⟩⟩
      · conv => whnf
        refine DoV.update (fk := fkI) (fv := fvS) (a := (i : Int)) (v := im[i]) M keyed3 fkI_inj Try.underlying77 (key_wf (by omega) (by omega)) ?_
        intro es' c' M'
        conv => whnf
        refine ArI.to64 ((i + 1 : Nat) : Int) (by omega) (by omega) ?_
        conv => whnf
        refine ⟨(i + 1, es', c'), _, by dsimp only; omega, Sub.refl _, ⟨by dsimp only; omega, ?_, fun j hj hji => ?_⟩, ⟨rfl, rfl, rfl, rfl, rfl, rfl, rfl, trivial⟩, rfl⟩
        · rw [← fromM_put, hget]; exact M'
        · dsimp only at hji
          by_cases e : j = i
          · subst e; omega
          · exact hsz j hj (by omega)
    · obtain rfl : i = im.length := by omega
      conv => whnf
      refine CallS.mk Try.call32 ⟨[_], _, _, Sub.split [0] rfl, fun F' hF' => with_ok F' r es c, ?_⟩
      rintro e A' ⟨d, rb, rfl, rfl⟩
      conv => whnf
      repeat (first | (refine LoadV.s rfl rfl (forceV_of ?_); conv => whnf) | (refine LoadV.s rfl rfl ?_; conv => whnf) | (refine StoreV.c rfl rfl (Nat.le_of_ble_eq_true rfl) rfl ?_; conv => whnf) | (refine LoadV.a _ rfl (Nat.le_of_ble_eq_true rfl) ?_; conv => whnf) | (refine DrawI.quiet (by kernel_rfl) (by kernel_rfl) ?_; conv => whnf) | (refine ArI.in64 (by omega) ?_; conv => whnf) | (refine ArI.inU8 (by omega) ?_; conv => whnf) | (refine ArI.inU64 (by omega) ?_; conv => whnf) | (refine ArI.inU32 (by omega) ?_; conv => whnf) | (refine RetI.one Try.results22 rfl ?_; conv => whnf) | (refine RetI.two Try.results22 rfl rfl ?_; conv => whnf) | (refine RetI.three Try.results22 rfl rfl rfl ?_; conv => whnf) | (refine RetI.none Try.results22 ?_; conv => whnf) | (refine ⟨by first | decide | omega, ?_⟩; conv => whnf))
      refine ⟨_, Sub.refl _, .inr ⟨fromC_ok (by omega) fun s hs => ?_, d, r, rb, es, c, M, rfl, rfl⟩⟩
      obtain ⟨j, hj, rfl⟩ := List.mem_iff_getElem.1 hs
      exact hsz j hj hj
/-- The blocks are those of an image. -/
def BlkF (im bl : List ByteArray) : Prop := bl.length = 2048 ∧ ∀ i : Nat, i < 2048 → bl[i]? = some ((im[i]?).getD nul)
theorem blkF_nil : BlkF [] (List.replicate 2048 nul) := ⟨List.length_replicate, fun i hi => by rw [List.getElem?_replicate, if_pos hi]; rfl⟩
theorem blk_from {im bl : List ByteArray} (h : BlkF im bl) : BlkOk (fromM im im.length) bl := by
  refine ⟨h.1, fun i hi => ?_⟩
  rw [h.2 i hi, fromM_look]
  by_cases hl : i < im.length
  · rw [if_pos hl]; rfl
  · rw [if_neg hl, List.getElem?_eq_none (by omega)]
theorem inDisk_from {im : List ByteArray} (h : im.length ≤ 2048) : InDisk (fromM im im.length) := fun p hp => by have := fromM_keys im im.length p hp; omega
theorem r5from_ok (F : Mem) (oa : Option Addr) (ca : Nat) (im : List ByteArray) (hb : SlF F 1 oa im.length (strs im)) (hc : oa = none → ca = 0) :
    FT Try.prog 23 [.slice oa im.length ca].toArray F [] (fun e H => (fromC im ≠ 0 ∧ e = .returned (.tuple #[.pointer none, .int .i64 (fromC im)]) ∧ H = []) ∨
      (fromC im = 0 ∧ ∃ d g rb bl, BlkF im bl ∧ g ≠ none ∧ e = .returned (.tuple #[.pointer (some ⟨d, 0, none⟩), .int .i64 0]) ∧ H = refH d g im rb bl none [] (-1))) := by
  refine FT.of_body Try.func23 rfl Try.ntmps23 (by simp) fun C hC => ?_
  subst hC
  conv => whnf
  refine cond_dec (fun h => ?_) (fun h => ?_)
  · conv => whnf
    repeat (first | (refine LoadV.s rfl rfl (forceV_of ?_); conv => whnf) | (refine LoadV.s rfl rfl ?_; conv => whnf) | (refine StoreV.c rfl rfl (Nat.le_of_ble_eq_true rfl) rfl ?_; conv => whnf) | (refine LoadV.a _ rfl (Nat.le_of_ble_eq_true rfl) ?_; conv => whnf) | (refine DrawI.quiet (by kernel_rfl) (by kernel_rfl) ?_; conv => whnf) | (refine ArI.in64 (by omega) ?_; conv => whnf) | (refine ArI.inU8 (by omega) ?_; conv => whnf) | (refine ArI.inU64 (by omega) ?_; conv => whnf) | (refine ArI.inU32 (by omega) ?_; conv => whnf) | (refine RetI.one Try.results23 rfl ?_; conv => whnf) | (refine RetI.two Try.results23 rfl rfl ?_; conv => whnf) | (refine RetI.three Try.results23 rfl rfl rfl ?_; conv => whnf) | (refine RetI.none Try.results23 ?_; conv => whnf) | (refine ⟨by first | decide | omega, ?_⟩; conv => whnf))
    have e8 := fromC_big (im := im) (by omega)
    exact ⟨_, Sub.refl _, .inl ⟨by rw [e8]; decide, by rw [e8], rfl⟩⟩
  · conv => whnf
    refine CallS.mk Try.call24 ⟨[], _, _, Sub.refl _, fun F' hF' => r5new_ok F', ?_⟩
    rintro e A' ⟨d, rb, bl0, hbl0, rfl, rfl⟩
    have hb0 : BlkF [] bl0 := hbl0 ▸ blkF_nil
    clear hbl0
    conv => whnf
    refine LoopI.by_state (σ := Nat × List ByteArray) (fun x => [(0, .slice oa im.length ca), (2, .pointer none), (3, .int .i64 0), (4, .pointer (some ⟨d, 0, none⟩)), (11, .slice oa im.length ca), (12, .int .i64 (im.length : Int)), (13, .int .i64 (x.1 : Int))]) (fun x => refH d none [] rb x.2 none [] (-1))
      (fun x => x.1 ≤ im.length ∧ BlkF (im.take x.1) x.2 ∧ ∀ j (hj : j < im.length), j < x.1 → im[j].size ≤ 32) (fun x => im.length - x.1) (0, bl0) ⟨by simp, by rw [List.take_zero]; exact hb0, fun j _ hj => by omega⟩ ⟨rfl, rfl, rfl, rfl, rfl, rfl, rfl, trivial⟩ (Sub.refl _) ?_
    rintro ⟨i, bl⟩ f0 ⟨hi, hB, hsz⟩
    dsimp only at hi hB hsz ⊢
    conv => whnf
    refine cond_dec (fun h2 => ?_) (fun h2 => ?_)
    · obtain ⟨xa, ya, rfl, hra⟩ := hb.at (i := i) (by omega)
      have hia : i < im.length := by omega
      have hbl := hB.1
      conv => whnf
      repeat (first | (refine LoadV.s rfl rfl (forceV_of ?_); conv => whnf) | (refine LoadV.s rfl rfl ?_; conv => whnf) | (refine StoreV.c rfl rfl (Nat.le_of_ble_eq_true rfl) rfl ?_; conv => whnf) | (refine LoadV.a _ rfl (Nat.le_of_ble_eq_true rfl) ?_; conv => whnf) | (refine DrawI.quiet (by kernel_rfl) (by kernel_rfl) ?_; conv => whnf) | (refine RetI.one Try.results23 rfl ?_; conv => whnf) | (refine RetI.two Try.results23 rfl rfl ?_; conv => whnf) | (refine RetI.three Try.results23 rfl rfl rfl ?_; conv => whnf) | (refine RetI.none Try.results23 ?_; conv => whnf) | (refine ⟨by first | decide | omega, ?_⟩; conv => whnf))
      refine LoadV.f (hra i (.string im[i]) (by simp [strs, hia])) rfl ?_
      conv => whnf
      refine cond_dec (fun h3 => ?_) (fun h3 => ?_)
      · conv => whnf
        repeat (first | (refine LoadV.s rfl rfl (forceV_of ?_); conv => whnf) | (refine LoadV.s rfl rfl ?_; conv => whnf) | (refine StoreV.c rfl rfl (Nat.le_of_ble_eq_true rfl) rfl ?_; conv => whnf) | (refine LoadV.a _ rfl (Nat.le_of_ble_eq_true rfl) ?_; conv => whnf) | (refine DrawI.quiet (by kernel_rfl) (by kernel_rfl) ?_; conv => whnf) | (refine ArI.in64 (by omega) ?_; conv => whnf) | (refine ArI.inU8 (by omega) ?_; conv => whnf) | (refine ArI.inU64 (by omega) ?_; conv => whnf) | (refine ArI.inU32 (by omega) ?_; conv => whnf) | (refine RetI.one Try.results23 rfl ?_; conv => whnf) | (refine RetI.two Try.results23 rfl rfl ?_; conv => whnf) | (refine RetI.three Try.results23 rfl rfl rfl ?_; conv => whnf) | (refine RetI.none Try.results23 ?_; conv => whnf) | (refine ⟨by first | decide | omega, ?_⟩; conv => whnf))
        have e9 := fromC_long (im := im) (by omega) hia (by omega)
        exact ⟨_, Sub.sel [] rfl, .inl ⟨by rw [e9]; decide, by rw [e9], rfl⟩⟩
      · conv => whnf
        refine LoadV.s rfl rfl ?_
        conv => whnf
        refine ⟨by omega, ?_⟩
        conv => whnf
        refine StoreV.c rfl rfl (by show 0 + i + 1 ≤ (strs bl).length; simp only [strs, List.length_map]; omega) rfl ?_
        conv => whnf
        refine ArI.to64 ((i + 1 : Nat) : Int) (by omega) (by omega) ?_
        conv => whnf
        refine ⟨(i + 1, bl.set i im[i]), _, by dsimp only; omega, Sub.refl _, ⟨by dsimp only; omega, ⟨by rw [List.length_set]; exact hbl, fun j hj => ?_⟩, fun j hj hji => ?_⟩, ⟨rfl, rfl, rfl, rfl, rfl, rfl, rfl, trivial⟩, ?_⟩
        · rw [List.getElem?_set, List.getElem?_take]
          by_cases e : i = j
          · subst e; rw [if_pos rfl, if_pos (by omega), if_pos (by omega)]; first | done | simp [hia]
          · rw [if_neg e, hB.2 j hj, List.getElem?_take]
            by_cases h4 : j < i
            · rw [if_pos h4, if_pos (by omega)]
            · rw [if_neg h4, if_neg (by omega)]
        · dsimp only at hji
          by_cases e : j = i
          · subst e; omega
          · exact hsz j hj (by omega)
        · dsimp only
          have e0 : putAt (strs bl) (0 + i) [.string im[i]] = strs (bl.set i im[i]) := putAt_strs bl i im[i] (by omega)
          rw [refH, ← e0]; rfl
    · obtain rfl : i = im.length := by omega
      rw [List.take_length] at hB
      conv => whnf
      intro b0
      conv => whnf
      refine BuiltV.sub (Sub.own (n := 0) (sz := 1) rfl (by decide)) ?_
      refine BuiltV.append_sv (g := some (b0, 0)) (n := 0) (sz := 1) Try.underlying22 rfl rfl rfl rfl (by decide) (Src.foreign hb hc) (by simp) (by simp [Value.oneCell']) (by show (0 + im.length) * 16 ≤ _; omega) (by omega) fun g hg => ?_
      obtain ⟨gb, gc, rfl⟩ : ∃ b c, g = some (b, c) := by
        cases g with
        | none => exact absurd (hg.1 rfl).1 (by simp)
        | some p => exact ⟨p.1, p.2, rfl⟩
      conv => whnf
      refine StoreV.c rfl rfl (Nat.le_of_ble_eq_true rfl) rfl ?_
      conv => whnf
      repeat (first | (refine LoadV.s rfl rfl (forceV_of ?_); conv => whnf) | (refine LoadV.s rfl rfl ?_; conv => whnf) | (refine StoreV.c rfl rfl (Nat.le_of_ble_eq_true rfl) rfl ?_; conv => whnf) | (refine LoadV.a _ rfl (Nat.le_of_ble_eq_true rfl) ?_; conv => whnf) | (refine DrawI.quiet (by kernel_rfl) (by kernel_rfl) ?_; conv => whnf) | (refine ArI.in64 (by omega) ?_; conv => whnf) | (refine ArI.inU8 (by omega) ?_; conv => whnf) | (refine ArI.inU64 (by omega) ?_; conv => whnf) | (refine ArI.inU32 (by omega) ?_; conv => whnf) | (refine RetI.one Try.results23 rfl ?_; conv => whnf) | (refine RetI.two Try.results23 rfl rfl ?_; conv => whnf) | (refine RetI.three Try.results23 rfl rfl rfl ?_; conv => whnf) | (refine RetI.none Try.results23 ?_; conv => whnf) | (refine ⟨by first | decide | omega, ?_⟩; conv => whnf))
      refine ⟨_, Sub.sel [1, 0, 3, 4] rfl, .inr ⟨fromC_ok (by omega) fun s hs => ?_, d, some (gb, gc), rb, bl, hB, by simp, rfl, ?_⟩⟩
      · obtain ⟨j, hj, rfl⟩ := List.mem_iff_getElem.1 hs
        exact hsz j hj hj
      · have e1 : svOf (some (gb, gc)) im.length = .slice (some ⟨gb, 0, none⟩) (0 + im.length) gc := by rw [Nat.zero_add]
        have e2 : HObj.own (svOf (some (gb, gc)) im.length) im.length 9 1 (strs im) = .own (.slice (some ⟨gb, 0, none⟩) (0 + im.length) gc) (0 + im.length) 9 1 ([] ++ strs im) := by rw [Nat.zero_add]; rfl
        rw [refH, e2, e1]; rfl
end Go.Proofs.Ytgodkfaacjllcaa

/- The reference's cutting; one step of both. -/
namespace Go.Proofs.Ytgodkfaacjllcaa
set_option linter.unusedVariables false
set_option linter.unusedSimpArgs false
set_option maxRecDepth 100000
open SL Go.RowKit Go.Maps

theorem wPow_neg : wPow (-1) = -1 := rfl
theorem cut_nil (n : Int) (lg : List (Int × ByteArray)) : cutN n lg.length = 0 ↔ lg.take (cutN n lg.length) = [] := by
  rw [List.take_eq_nil_iff]
  constructor
  · exact .inl
  · rintro (h | h)
    · exact h
    · rw [h]; simp [cutN]
theorem r5cut_ok (F : Mem) (d : Nat) (g0 : Option (Nat × Nat)) (fi : List ByteArray) (rb : Nat) (bl : List ByteArray) (gl : Option (Nat × Nat)) (lg : List (Int × ByteArray)) (p n : Int)
    (hg0 : g0 = none → fi = []) (hg : gl = none → lg = []) (hfi : fromC fi = 0) (hlo : LogOk lg) (hlog : lg.length * 24 ≤ 140737488355328) :
    FT Try.prog 43 [.pointer (some ⟨d, 0, none⟩), .int .i64 n].toArray F (refH d g0 fi rb bl gl lg p)
    (fun e H => ∃ d2 g2 rb2 bl2 gl2, BlkF fi bl2 ∧ g2 ≠ none ∧ (gl2 = none ↔ lg.take (cutN n lg.length) = []) ∧ e = .returned (.pointer (some ⟨d2, 0, none⟩)) ∧
      H = [.cells d2 [svOf g2 fi.length, .slice (some ⟨rb2, 0, none⟩) 2048 2048, svOf gl2 (lg.take (cutN n lg.length)).length, .int .i64 (-1)] 67 (0, 0), .own (svOf g2 fi.length) fi.length 9 1 (strs fi), .cells rb2 (strs (setAll bl2 (lg.take (cutN n lg.length)))) 9 (0, 0), .own (svOf gl2 (lg.take (cutN n lg.length)).length) (lg.take (cutN n lg.length)).length 85 2 (logCells (lg.take (cutN n lg.length))),
        .cells d [svOf g0 fi.length, .slice (some ⟨rb, 0, none⟩) 2048 2048, svOf gl lg.length, .int .i64 p] 67 (0, 0), .own (svOf g0 fi.length) fi.length 9 1 (strs fi), .cells rb (strs bl) 9 (0, 0), .own (svOf gl lg.length) lg.length 85 2 (logCells lg)]) := by
  refine FT.of_body Try.func43 rfl Try.ntmps43 (by simp) fun C hC => ?_
  subst hC
  conv => whnf
  refine LoadV.s rfl rfl (forceV_of ?_)
  conv => whnf
  refine CallS.mk Try.call23 ⟨[], _, _, Sub.refl _, fun F' hF' => r5from_ok F' (oaOf g0) (capOf g0) fi (SlF.sv hF' (T := 9) (by simp) (fun e => by rw [hg0 e]; rfl)) (by cases g0 <;> simp), ?_⟩
  rintro e A' (⟨h0, -, -⟩ | ⟨-, d2, g2, rb2, bl2, hB, hg2, rfl, rfl⟩)
  · exact absurd hfi h0
  obtain ⟨g2b, g2c, rfl⟩ : ∃ b c, g2 = some (b, c) := by
    cases g2 with
    | none => exact absurd rfl hg2
    | some p => exact ⟨p.1, p.2, rfl⟩
  conv => whnf
  have hkl : cutN n lg.length ≤ lg.length := by unfold cutN; omega
  have hbl2 := hB.1
  refine LoopI.by_state (σ := Nat × Option (Nat × Nat)) (fun x => [(0, .pointer (some ⟨d, 0, none⟩)), (1, .int .i64 n), (5, .pointer (some ⟨d2, 0, none⟩)), (7, .int .i64 (x.1 : Int))])
    (fun x => [.cells d2 [svOf (some (g2b, g2c)) fi.length, .slice (some ⟨rb2, 0, none⟩) 2048 2048, svOf x.2 (lg.take x.1).length, .int .i64 (-1)] 67 (0, 0), .own (svOf (some (g2b, g2c)) fi.length) fi.length 9 1 (strs fi), .cells rb2 (strs (setAll bl2 (lg.take x.1))) 9 (0, 0), .own (svOf x.2 (lg.take x.1).length) (lg.take x.1).length 85 2 (logCells (lg.take x.1)),
      .cells d [svOf g0 fi.length, .slice (some ⟨rb, 0, none⟩) 2048 2048, svOf gl lg.length, .int .i64 p] 67 (0, 0), .own (svOf g0 fi.length) fi.length 9 1 (strs fi), .cells rb (strs bl) 9 (0, 0), .own (svOf gl lg.length) lg.length 85 2 (logCells lg)])
    (fun x => x.1 ≤ cutN n lg.length ∧ (x.2 = none ↔ x.1 = 0)) (fun x => cutN n lg.length - x.1) (0, none) ⟨by simp, by simp⟩ ⟨rfl, rfl, rfl, rfl, trivial⟩ (Sub.refl _) ?_
  rintro ⟨i, g'⟩ f0 ⟨hi, hg'⟩
  dsimp only at hi hg' ⊢
  conv => whnf
  refine cond_dec (fun h1 => ?_) (fun h1 => ?_)
  · conv => whnf
    refine LoadV.s rfl rfl (forceV_of ?_)
    conv => whnf
    refine cond_dec (fun h2 => ?_) (fun h2 => ?_)
    · have hil : i < lg.length := by omega
      have hic : i < cutN n lg.length := by unfold cutN; omega
      obtain ⟨gb, gc, rfl⟩ : ∃ b c, gl = some (b, c) := by
        cases gl with
        | none => rw [hg rfl] at hil; simp at hil
        | some p => exact ⟨p.1, p.2, rfl⟩
      conv => whnf
      refine DrawI.tail 17 (by kernel_rfl) (by kernel_rfl) ?_
      conv => whnf
      refine LoadV.s rfl rfl ?_
      conv => whnf
      refine ⟨by omega, ?_⟩
      conv => whnf
      obtain ⟨q1, q2⟩ := logCells_at lg i hil
      refine LoadV.os (v := .int .i64 (lg[i]).1) rfl (by show (logCells lg)[0 + i * 2 + 0]? = _; rw [Nat.zero_add]; exact q1) ?_
      conv => whnf
      refine LoadV.s rfl rfl ?_
      conv => whnf
      refine ⟨by omega, ?_⟩
      conv => whnf
      refine LoadV.os (v := .string (lg[i]).2) rfl (by show (logCells lg)[0 + i * 2 + 1]? = _; rw [Nat.zero_add]; exact q2) ?_
      have hent := hlo (lg[i]) (List.getElem_mem _)
      have htake := take_snoc hil
      have hlen : (lg.take i).length = i := by simp; omega
      obtain ⟨q, hq⟩ : ∃ q, lg[i] = q := ⟨_, rfl⟩
      rw [hq] at hent htake ⊢
      conv => whnf
      refine CallS.mk Try.call51 ⟨[_, _, _], [_, _, _, _, _], _, Sub.sel [0, 2, 3, 1, 4, 5, 6, 7] rfl, fun F' hF' => r5write_ok F' d2 _ rb2 (setAll bl2 (lg.take i)) g' (lg.take i) (-1) q.1 q.2 (by rw [setAll_length]; exact hbl2) (by rw [hlen]; omega) (by omega), ?_⟩
      rintro e A' ⟨rfl, hA⟩
      rcases hA with ⟨h3, _⟩ | ⟨_, g3, hg3, rfl⟩
      · exact absurd (wcode_ok hent) h3
      obtain ⟨g3b, g3c, rfl⟩ : ∃ b c, g3 = some (b, c) := by
        cases g3 with
        | none => exact absurd rfl hg3
        | some p => exact ⟨p.1, p.2, rfl⟩
      conv => whnf
      refine ArI.to64 ((i + 1 : Nat) : Int) (by omega) (by omega) ?_
      conv => whnf
      refine ⟨(i + 1, some (g3b, g3c)), _, by dsimp only; omega, Sub.sel [0, 3, 1, 2, 4, 5, 6, 7] rfl, ⟨by dsimp only; omega, by simp⟩, ⟨rfl, rfl, rfl, rfl, trivial⟩, ?_⟩
      dsimp only
      rw [htake, setAll_push]; rfl
    · have : i = cutN n lg.length := by unfold cutN; unfold cutN at hi; omega
      subst this
      conv => whnf
      repeat (first | (refine LoadV.s rfl rfl (forceV_of ?_); conv => whnf) | (refine LoadV.s rfl rfl ?_; conv => whnf) | (refine StoreV.c rfl rfl (Nat.le_of_ble_eq_true rfl) rfl ?_; conv => whnf) | (refine LoadV.a _ rfl (Nat.le_of_ble_eq_true rfl) ?_; conv => whnf) | (refine DrawI.quiet (by kernel_rfl) (by kernel_rfl) ?_; conv => whnf) | (refine ArI.in64 (by omega) ?_; conv => whnf) | (refine ArI.inU8 (by omega) ?_; conv => whnf) | (refine ArI.inU64 (by omega) ?_; conv => whnf) | (refine ArI.inU32 (by omega) ?_; conv => whnf) | (refine RetI.one Try.results43 rfl ?_; conv => whnf) | (refine RetI.two Try.results43 rfl rfl ?_; conv => whnf) | (refine RetI.three Try.results43 rfl rfl rfl ?_; conv => whnf) | (refine RetI.none Try.results43 ?_; conv => whnf) | (refine ⟨by first | decide | omega, ?_⟩; conv => whnf))
      exact ⟨_, Sub.refl _, d2, some (g2b, g2c), rb2, bl2, g', hB, by simp, hg'.trans (cut_nil n lg), rfl, rfl⟩
  · have : i = cutN n lg.length := by unfold cutN; unfold cutN at hi; omega
    subst this
    conv => whnf
    repeat (first | (refine LoadV.s rfl rfl (forceV_of ?_); conv => whnf) | (refine LoadV.s rfl rfl ?_; conv => whnf) | (refine StoreV.c rfl rfl (Nat.le_of_ble_eq_true rfl) rfl ?_; conv => whnf) | (refine LoadV.a _ rfl (Nat.le_of_ble_eq_true rfl) ?_; conv => whnf) | (refine DrawI.quiet (by kernel_rfl) (by kernel_rfl) ?_; conv => whnf) | (refine ArI.in64 (by omega) ?_; conv => whnf) | (refine ArI.inU8 (by omega) ?_; conv => whnf) | (refine ArI.inU64 (by omega) ?_; conv => whnf) | (refine ArI.inU32 (by omega) ?_; conv => whnf) | (refine RetI.one Try.results43 rfl ?_; conv => whnf) | (refine RetI.two Try.results43 rfl rfl ?_; conv => whnf) | (refine RetI.three Try.results43 rfl rfl rfl ?_; conv => whnf) | (refine RetI.none Try.results43 ?_; conv => whnf) | (refine ⟨by first | decide | omega, ?_⟩; conv => whnf))
    exact ⟨_, Sub.refl _, d2, some (g2b, g2c), rb2, bl2, g', hB, by simp, hg'.trans (cut_nil n lg), rfl, rfl⟩
end Go.Proofs.Ytgodkfaacjllcaa

/- One step of both disks. -/
namespace Go.Proofs.Ytgodkfaacjllcaa
set_option linter.unusedVariables false
set_option linter.unusedSimpArgs false
set_option maxRecDepth 100000
open SL Go.RowKit Go.Maps

/-- The power of both. -/
def Pow (on : Bool) (l p : Int) : Prop := on = (p != 0) ∧ (on = true → (l > 0 ∧ p = l) ∨ (l ≤ 0 ∧ p = -1))
theorem Pow.write {on : Bool} {l p : Int} (h : Pow on l p) (ho : on = true) : Pow (wOn l) (wLeft l) (wPow p) := by
  obtain ⟨h1, h2⟩ := h
  rcases h2 ho with ⟨h3, rfl⟩ | ⟨h3, rfl⟩
  · unfold wOn wLeft wPow
    rw [if_pos h3, if_pos h3]
    refine ⟨?_, fun h => ?_⟩
    · rw [Bool.eq_iff_iff]; simp; omega
    · have := of_decide_eq_true h; exact .inl ⟨this, rfl⟩
  · unfold wOn wLeft
    rw [if_neg (by omega), if_neg (by omega)]
    exact ⟨rfl, fun _ => .inr ⟨h3, rfl⟩⟩
theorem Pow.up (n : Int) : Pow (n != 0) n (max n (-1)) := by
  refine ⟨?_, fun h => ?_⟩
  · rw [Bool.eq_iff_iff]; simp; omega
  · have : n ≠ 0 := by simpa using h
    omega
theorem Pow.off (l : Int) : Pow false l 0 := ⟨rfl, fun h => by cases h⟩
theorem Pow.new : Pow true (-1) (-1) := ⟨rfl, fun _ => .inr ⟨by decide, rfl⟩⟩
theorem Pow.le {on : Bool} {l p : Int} (h : Pow on l p) (hl : l ≤ 9223372036854775807) : p ≤ 9223372036854775807 := by
  obtain ⟨h1, h2⟩ := h
  cases on with
  | false => have : p = 0 := by simpa using h1.symm
             omega
  | true => have := h2 rfl; omega
abbrev bothH (d r rb : Nat) (es1 : Array MapEntry) (c1 : Nat) (es : Array MapEntry) (c : Nat) (g : Option (Nat × Nat)) (lg : List (Int × ByteArray)) (on : Bool) (l : Int)
    (rd : Nat) (g0 : Option (Nat × Nat)) (fi : List ByteArray) (rr : Nat) (bl : List ByteArray) (gl : Option (Nat × Nat)) (p : Int) : Heap :=
  [.cells d [.map (some r), .map (some rb), svOf g lg.length, .bool on, .int .i64 l] 82 (0, 0), .obj r (.map es1 c1), .obj rb (.map es c), .own (svOf g lg.length) lg.length 85 2 (logCells lg),
   .cells rd [svOf g0 fi.length, .slice (some ⟨rr, 0, none⟩) 2048 2048, svOf gl lg.length, .int .i64 p] 67 (0, 0), .own (svOf g0 fi.length) fi.length 9 1 (strs fi), .cells rr (strs bl) 9 (0, 0), .own (svOf gl lg.length) lg.length 85 2 (logCells lg)]
/-- Both disks tell the same. -/
structure Both (es1 : Array MapEntry) (c1 : Nat) (es : Array MapEntry) (c : Nat) (g : Option (Nat × Nat)) (lg : List (Int × ByteArray)) (on : Bool) (l : Int) (g0 : Option (Nat × Nat)) (fi : List ByteArray) (bl : List ByteArray) (gl : Option (Nat × Nat)) (p : Int) : Prop where
  M1 : MapS es1 c1 (fromM fi fi.length)
  M : MapS es c (replay (fromM fi fi.length) lg)
  fi0 : fromC fi = 0
  g0 : g0 = none → fi = []
  B : BlkOk (replay (fromM fi fi.length) lg) bl
  ok : LogOk lg
  hg : g = none ↔ lg = []
  hgl : gl = none ↔ lg = []
  pw : Pow on l p
  hl : l ≤ 9223372036854775807
theorem fromC_len {im : List ByteArray} (h : fromC im = 0) : im.length ≤ 2048 := by
  unfold fromC at h; split at h
  · cases h
  · omega
theorem logOk_pre {lg : List (Int × ByteArray)} (h : LogOk lg) (k : Nat) : LogOk (lg.take k) := fun q hq => h q (List.mem_of_mem_take hq)
theorem blk_at {m : List (Int × ByteArray)} {bl : List ByteArray} (h : BlkOk m bl) (on : Bool) (a : Int) : r5readV on bl a = readV on m a := by
  unfold r5readV readV
  cases on with
  | false => rfl
  | true =>
    rw [if_neg (by simp : ¬ true = false), if_neg (by simp : ¬ true = false)]
    by_cases h1 : a < 0 ∨ a ≥ 2048
    · rw [if_pos h1, if_pos h1]
    · rw [if_neg h1, if_neg h1, h.2 a.toNat (by omega), show ((a.toNat : Nat) : Int) = a by omega]; rfl
end Go.Proofs.Ytgodkfaacjllcaa

/- A journal's records, in lists of blocks. -/
namespace Go.Proofs.Ytgodkfaacjllcaa
set_option linter.unusedVariables false
set_option linter.unusedSimpArgs false
set_option maxRecDepth 100000
open SL Go.RowKit Go.Maps

/-- The piece that a block bears. -/
def unbP (s : ByteArray) : Pc := (((unbR s).1.1 : Int), ((unbR s).1.2.1 : Int), ((unbR s).1.2.2.1 : Int), (unbR s).1.2.2.2)
theorem unb_two (s : ByteArray) : (unbR s).2 = if Taken s then 0 else 7 := by unfold unbR; split <;> rfl
/-- These pieces are the frame that stands at the place with this number. -/
structure DueOk (im : List ByteArray) (a : Nat) (seq : Int) (l : List Pc) : Prop where
  len : a + l.length ≤ im.length
  at_ : ∀ i, ∀ h : i < l.length, ∀ s, im[a + i]? = some s → Taken s ∧ unbP s = l[i]
  whole : WholeOk l
  seq : seq0 l = seq
theorem DueOk.pos {im : List ByteArray} {a : Nat} {seq : Int} {l : List Pc} (h : DueOk im a seq l) : 0 < l.length := List.length_pos_iff.2 h.whole.1
/-- What each of its blocks tells. -/
theorem DueOk.get {im : List ByteArray} {a : Nat} {seq : Int} {l : List Pc} (h : DueOk im a seq l) {i : Nat} (hi : i < l.length) {s : ByteArray} (hs : im[a + i]? = some s) :
    Taken s ∧ (unbP s).1 = seq ∧ (unbP s).2.1 = (i : Int) ∧ (unbP s).2.2.1 = (l.length : Int) := by
  obtain ⟨h1, h2⟩ := h.at_ i hi s hs
  obtain ⟨_, h3, h4, h5⟩ := h.whole.2 i hi
  rw [h2]
  exact ⟨h1, h3.trans h.seq, h4, h5⟩
theorem DueOk.blk {im : List ByteArray} {a : Nat} {seq : Int} {l : List Pc} (h : DueOk im a seq l) {i : Nat} (hi : i < l.length) : ∃ s, im[a + i]? = some s := by
  have := h.len
  exact ⟨im[a + i]'(by omega), List.getElem?_eq_getElem (by omega)⟩
theorem DueOk.unique {im : List ByteArray} {a : Nat} {seq : Int} {l m : List Pc} (h : DueOk im a seq l) (k : DueOk im a seq m) : l = m := by
  obtain ⟨s, hs⟩ := h.blk h.pos
  have e1 := (h.get h.pos hs).2.2.2
  have e2 := (k.get k.pos hs).2.2.2
  have hlen : l.length = m.length := by omega
  refine List.ext_getElem hlen fun i h1 h2 => ?_
  obtain ⟨t, ht⟩ := h.blk h1
  rw [← (h.at_ i h1 t ht).2, (k.at_ i h2 t ht).2]
open Classical in
/-- The frame that stands at the place: its payload, the place behind it. -/
noncomputable def dueR (im : List ByteArray) (a : Nat) (seq : Int) : Option (ByteArray × Nat) :=
  if h : ∃ l, DueOk im a seq l then some (strB (catL (Classical.choose h)), a + (Classical.choose h).length) else none
theorem due_yes {im : List ByteArray} {a : Nat} {seq : Int} {l : List Pc} (h : DueOk im a seq l) : dueR im a seq = some (strB (catL l), a + l.length) := by
  have hex : ∃ l, DueOk im a seq l := ⟨l, h⟩
  unfold dueR
  rw [dif_pos hex, (Classical.choose_spec hex).unique h]
theorem due_no {im : List ByteArray} {a : Nat} {seq : Int} (h : ¬ ∃ l, DueOk im a seq l) : dueR im a seq = none := dif_neg h
theorem due_some {im : List ByteArray} {a : Nat} {seq : Int} {p : ByteArray × Nat} (h : dueR im a seq = some p) : ∃ l, DueOk im a seq l ∧ p = (strB (catL l), a + l.length) := by
  by_cases hex : ∃ l, DueOk im a seq l
  · obtain ⟨l, hl⟩ := hex
    rw [due_yes hl] at h
    exact ⟨l, hl, (Option.some.inj h).symm⟩
  · rw [due_no hex] at h; cases h
/-- The pieces of the first blocks from a place on. -/
def pcsAt (im : List ByteArray) (a i : Nat) : List Pc := ((im.drop a).take i).map unbP
theorem pcsAt_length {im : List ByteArray} {a i : Nat} (h : a + i ≤ im.length) : (pcsAt im a i).length = i := by
  unfold pcsAt; rw [List.length_map, List.length_take, List.length_drop]; omega
theorem pcsAt_get {im : List ByteArray} {a i j : Nat} {s : ByteArray} (hj : j < i) (hs : im[a + j]? = some s) : (pcsAt im a i)[j]? = some (unbP s) := by
  unfold pcsAt
  rw [List.getElem?_map, List.getElem?_take, if_pos hj, List.getElem?_drop, hs]; rfl
theorem pcsAt_succ {im : List ByteArray} {a i : Nat} {s : ByteArray} (hs : im[a + i]? = some s) : pcsAt im a (i + 1) = pcsAt im a i ++ [unbP s] := by
  have hi : i < (im.drop a).length := by rw [List.length_drop]; have := (List.getElem?_eq_some_iff.1 hs).1; omega
  unfold pcsAt
  rw [← List.take_append_getElem hi, List.map_append]
  have : (im.drop a)[i] = s := by
    have h := List.getElem?_drop (xs := im) (i := a) (j := i)
    rw [hs, List.getElem?_eq_getElem hi] at h
    exact Option.some.inj h
  rw [this]; rfl
/-- The blocks ahead were right, and the frame didn't end. -/
def Ahead (im : List ByteArray) (a : Nat) (seq : Int) (i : Nat) : Prop := a + i ≤ im.length ∧ ∀ j, j < i → ∀ s, im[a + j]? = some s → Taken s ∧ (unbP s).1 = seq ∧ (unbP s).2.1 = (j : Int) ∧ ((j : Int) + 1 < (unbP s).2.2.1)
theorem Ahead.long {im : List ByteArray} {a i : Nat} {seq : Int} {l : List Pc} (h : Ahead im a seq i) (k : DueOk im a seq l) : i < l.length := by
  rcases Nat.lt_or_ge i l.length with h1 | h1
  · exact h1
  · have hp := k.pos
    have hj : l.length - 1 < l.length := by omega
    obtain ⟨s, hs⟩ := k.blk hj
    have e1 := (k.get hj hs).2.2.2
    have e2 := (h.2 _ (by omega) s hs).2.2.2
    omega
theorem Ahead.ends {im : List ByteArray} {a i : Nat} {seq : Int} (h : Ahead im a seq i) (he : im.length ≤ a + i) : ¬ ∃ l, DueOk im a seq l := fun ⟨l, k⟩ => by
  have := h.long k
  have := k.len
  omega
theorem Ahead.bad {im : List ByteArray} {a i : Nat} {seq : Int} {s : ByteArray} (h : Ahead im a seq i) (hs : im[a + i]? = some s) (hb : ¬ (Taken s ∧ (unbP s).1 = seq ∧ (unbP s).2.1 = (i : Int))) : ¬ ∃ l, DueOk im a seq l := fun ⟨l, k⟩ => by
  have := k.get (h.long k) hs
  exact hb ⟨this.1, this.2.1, this.2.2.1⟩
theorem Ahead.more {im : List ByteArray} {a i : Nat} {seq : Int} {s : ByteArray} (h : Ahead im a seq i) (hs : im[a + i]? = some s) (hg : Taken s ∧ (unbP s).1 = seq ∧ (unbP s).2.1 = (i : Int)) (hm : (i : Int) + 1 < (unbP s).2.2.1) : Ahead im a seq (i + 1) := by
  have hl := (List.getElem?_eq_some_iff.1 hs).1
  refine ⟨by omega, fun j hj t ht => ?_⟩
  by_cases e : j = i
  · subst e
    rw [hs] at ht
    obtain rfl := Option.some.inj ht
    exact ⟨hg.1, hg.2.1, hg.2.2, hm⟩
  · exact h.2 j (by omega) t ht
/-- The pieces up to the last one are all: they are the frame, or none is. -/
theorem Ahead.last {im : List ByteArray} {a i : Nat} {seq : Int} {s : ByteArray} (h : Ahead im a seq i) (hs : im[a + i]? = some s) (hg : Taken s ∧ (unbP s).1 = seq ∧ (unbP s).2.1 = (i : Int)) (hm : ¬ (i : Int) + 1 < (unbP s).2.2.1) :
    (WholeOk (pcsAt im a (i + 1)) → DueOk im a seq (pcsAt im a (i + 1))) ∧ (¬ WholeOk (pcsAt im a (i + 1)) → ¬ ∃ l, DueOk im a seq l) := by
  have hl := (List.getElem?_eq_some_iff.1 hs).1
  have hlen := pcsAt_length (im := im) (a := a) (i := i + 1) (by omega)
  have hgood : ∀ j, j < i + 1 → ∀ t, im[a + j]? = some t → Taken t ∧ (unbP t).1 = seq := fun j hj t ht => by
    by_cases e : j = i
    · subst e
      rw [hs] at ht
      obtain rfl := Option.some.inj ht
      exact ⟨hg.1, hg.2.1⟩
    · have := h.2 j (by omega) t ht; exact ⟨this.1, this.2.1⟩
  constructor
  · intro hw
    refine ⟨by rw [hlen]; omega, fun j hj t ht => ?_, hw, ?_⟩
    · rw [hlen] at hj
      have e := pcsAt_get hj ht
      rw [List.getElem?_eq_getElem (by omega)] at e
      exact ⟨(hgood j hj t ht).1, (Option.some.inj e).symm⟩
    · have hex : im[a + 0]? = some (im[a + 0]'(by omega)) := List.getElem?_eq_getElem _
      have e := pcsAt_get (i := i + 1) (j := 0) (by omega) hex
      rw [List.getElem?_eq_getElem (by omega)] at e
      rw [seq0_get (by omega), Option.some.inj e]
      exact (hgood 0 (by omega) _ hex).2
  · rintro hw ⟨l, k⟩
    have hil := h.long k
    have e1 := (k.get hil hs).2.2.2
    have hll : l.length = i + 1 := by omega
    apply hw
    have : pcsAt im a (i + 1) = l := by
      refine List.ext_getElem (by omega) fun j h1 h2 => ?_
      obtain ⟨t, ht⟩ := k.blk h2
      have e := pcsAt_get (i := i + 1) (by omega) ht
      rw [List.getElem?_eq_getElem h1] at e
      rw [Option.some.inj e, (k.at_ j h2 t ht).2]
    rw [this]; exact k.whole
/-! ### Records, one behind the other -/
noncomputable def recs (im : List ByteArray) : Nat → Nat → Int → List (ByteArray × Nat)
  | 0, _, _ => []
  | n + 1, a, seq => match dueR im a seq with
    | none => []
    | some p => p :: recs im n p.2 (seq + 1)
theorem recs_none {im : List ByteArray} {n a : Nat} {seq : Int} (h : dueR im a seq = none) : recs im n a seq = [] := by
  cases n with
  | zero => rfl
  | succ n => rw [recs, h]
theorem recs_some {im : List ByteArray} {n a : Nat} {seq : Int} {p : ByteArray × Nat} (h : dueR im a seq = some p) : recs im (n + 1) a seq = p :: recs im n p.2 (seq + 1) := by rw [recs, h]
theorem due_end {im : List ByteArray} {a : Nat} {seq : Int} {p : ByteArray × Nat} (h : dueR im a seq = some p) : a < p.2 ∧ p.2 ≤ im.length := by
  obtain ⟨l, k, rfl⟩ := due_some h
  have := k.pos
  have := k.len
  dsimp only
  omega
theorem recs_length (im : List ByteArray) : ∀ (n a : Nat) (seq : Int), (recs im n a seq).length ≤ n
  | 0, _, _ => Nat.le_refl _
  | n + 1, a, seq => by
    rw [recs]
    split
    · simp
    · rename_i p _
      have := recs_length im n p.2 (seq + 1)
      simp; omega
/-- The place behind the last record. -/
def lastEnd (a : Nat) (l : List (ByteArray × Nat)) : Nat := (l.getLast?.map (·.2)).getD a
theorem lastEnd_cons (a : Nat) (p : ByteArray × Nat) (l : List (ByteArray × Nat)) : lastEnd a (p :: l) = lastEnd p.2 l := by
  unfold lastEnd
  cases l with
  | nil => rfl
  | cons q l => rw [List.getLast?_cons_cons]; cases h : (q :: l).getLast? with
    | none => simp at h
    | some x => rfl
theorem lastEnd_snoc (a : Nat) (l : List (ByteArray × Nat)) (p : ByteArray × Nat) : lastEnd a (l ++ [p]) = p.2 := by unfold lastEnd; simp
theorem recs_end {im : List ByteArray} : ∀ (n a : Nat) (seq : Int), a ≤ im.length → lastEnd a (recs im n a seq) ≤ im.length
  | 0, a, _, h => h
  | n + 1, a, seq, h => by
    rw [recs]
    split
    · exact h
    · rename_i p hp
      rw [lastEnd_cons]
      exact recs_end n p.2 (seq + 1) (due_end hp).2
noncomputable def scanP (im : List ByteArray) : List ByteArray := (recs im 65535 0 1).map (·.1)
noncomputable def scanE (im : List ByteArray) : Nat := lastEnd 0 (recs im 65535 0 1)
theorem scanE_le (im : List ByteArray) : scanE im ≤ im.length := recs_end _ _ _ (Nat.zero_le _)
theorem scanP_len (im : List ByteArray) : (scanP im).length ≤ 65535 := by unfold scanP; rw [List.length_map]; exact recs_length _ _ _ _
end Go.Proofs.Ytgodkfaacjllcaa

/- The frame that is due. -/
namespace Go.Proofs.Ytgodkfaacjllcaa
set_option linter.unusedVariables false
set_option linter.unusedSimpArgs false
set_option maxRecDepth 100000
open SL Go.RowKit Go.Maps

theorem Ahead.le {im : List ByteArray} {a i : Nat} {seq : Int} (h : Ahead im a seq i) : i ≤ 255 := by
  cases i with
  | zero => omega
  | succ j =>
    have hl := h.1
    have hs : im[a + j]? = some (im[a + j]'(by omega)) := List.getElem?_eq_getElem _
    obtain ⟨h1, _, _, h4⟩ := h.2 j (by omega) _ hs
    unfold unbP at h4
    rw [unb_yes h1] at h4
    dsimp only at h4
    have := byt_lt (im[a + j]'(by omega)) 3
    omega
theorem unb_form (s : ByteArray) : unbV (unbR s) = .tuple #[.agg (pcF (unbP s)).toArray, .int .i64 (if Taken s then 0 else 7)] := by
  rw [← unb_two]; rfl
abbrev ownP (g : Option (Nat × Nat)) (l : List Pc) : HObj := .own (svOf g l.length) l.length 94 4 (l.flatMap pcF)
/-- What the program's due answers. -/
def DueA (im : List ByteArray) (a : Nat) (seq : Int) (e : Ending) (H : Heap) : Prop :=
  H = [] ∧ ∃ p q ok, e = .returned (.tuple #[.agg #[.string p, .int .i64 q], .bool ok]) ∧ ((ok = true ∧ ∃ n : Nat, q = (n : Int) ∧ dueR im a seq = some (p, n)) ∨ (ok = false ∧ dueR im a seq = none))
theorem DueA.no {im : List ByteArray} {a : Nat} {seq : Int} {p : ByteArray} {q : Int} (h : ¬ ∃ l, DueOk im a seq l) : DueA im a seq (.returned (.tuple #[.agg #[.string p, .int .i64 q], .bool false])) [] :=
  ⟨rfl, p, q, false, rfl, .inr ⟨rfl, due_no h⟩⟩
set_option maxHeartbeats 1000000 in
theorem due_ok (F : Mem) (oa : Option Addr) (ca : Nat) (im : List ByteArray) (hb : SlF F 1 oa im.length (strs im)) (hsz : ∀ s ∈ im, s.size ≤ 9223372036854775807) (hn : im.length ≤ 140737488355328) (a : Nat) (ha : a ≤ im.length) (seq : Int) :
    FT Try.prog 48 [.slice oa im.length ca, .int .i64 (a : Int), .int .i64 seq].toArray F [] (DueA im a seq) := by
  refine FT.of_body Try.func48 rfl Try.ntmps48 (by simp) fun C hC => ?_
  subst hC
  conv => whnf
  intro b6
  conv => whnf
  refine LoopI.by_state (σ := Nat × Option (Nat × Nat)) (fun x => [(0, .slice oa im.length ca), (1, .int .i64 (a : Int)), (2, .int .i64 seq), (6, .pointer (some ⟨b6, 0, none⟩)), (8, svOf x.2 (pcsAt im a x.1).length), (9, .int .i64 ((a + x.1 : Nat) : Int))])
    (fun x => [.cells b6 [.string nul, .int .i64 0] 75 (0, 0), ownP x.2 (pcsAt im a x.1)]) (fun x => Ahead im a seq x.1 ∧ (x.2 = none ↔ pcsAt im a x.1 = [])) (fun x => im.length - (a + x.1)) (0, none)
    ⟨⟨by omega, fun j hj => by omega⟩, by simp [pcsAt]⟩ ⟨rfl, rfl, rfl, rfl, rfl, rfl, trivial⟩ ((Sub.nil 94 4).trans (Sub.sel [1, 0] rfl)) ?_
  rintro ⟨i, g⟩ f0 ⟨hA, hg⟩
  dsimp only at hA hg ⊢
  have hle := hA.le
  have hl := hA.1
  have hpl := pcsAt_length hl
  conv => whnf
  refine cond_dec (fun h => ?_) (fun h => ?_)
  · have hil : a + i < im.length := by omega
    obtain ⟨xa, ya, rfl, hra⟩ := hb.at hil
    have hs : im[a + i]? = some (im[a + i]'hil) := List.getElem?_eq_getElem hil
    have hz := hsz _ (List.getElem_mem hil)
    have hld := hra (a + i) (.string (im[a + i]'hil)) (by rw [List.getElem?_map, hs]; rfl)
    have hsn := pcsAt_succ hs
    generalize im[a + i]'hil = s at hs hz hld hsn
    have hbad := hA.bad hs
    have hmore := hA.more hs
    have hlast := hA.last hs
    conv => whnf
    refine ⟨by omega, ?_⟩
    conv => whnf
    rw [elemOff_nat]
    rotate_left
    · kernel_rfl
    refine LoadV.f hld rfl ?_
    conv => whnf
    refine CallS.mk Try.call56 ⟨[], _, _, Sub.refl _, fun F' hF' => unblock_ok F' s hz, ?_⟩
    rw [unb_form]
    rintro e A' ⟨rfl, rfl⟩
    generalize unbP s = P at *
    obtain ⟨q1, q2, q3, q4⟩ := P
    dsimp only at hbad hmore hlast
    conv => whnf
    intro b10
    conv => whnf
    refine StoreV.c rfl rfl (Nat.le_of_ble_eq_true rfl) rfl ?_
    by_cases hT : Taken s
    · rw [if_pos hT]
      conv => whnf
      refine LoadV.s rfl rfl ?_
      conv => whnf
      by_cases hq : q1 = seq
      · subst hq
        refine cond_of_false (bne_self_eq_false _) ?_
        conv => whnf
        refine LoadV.s rfl rfl ?_
        conv => whnf
        refine ArI.to64 (i : Int) (by omega) (by omega) ?_
        conv => whnf
        by_cases hp : q2 = (i : Int)
        · subst hp
          refine cond_of_false (bne_self_eq_false _) ?_
          conv => whnf
          refine LoadV.a 4 rfl (Nat.le_of_ble_eq_true rfl) ?_
          conv => whnf
          intro bl
          conv => whnf
          have e1 : (pcsAt im a i).length + 1 = (pcsAt im a (i + 1)).length := by rw [hsn]; simp
          have e2 : (pcsAt im a i).flatMap pcF ++ pcF (q1, (i : Int), q3, q4) = (pcsAt im a (i + 1)).flatMap pcF := by rw [hsn, List.flatMap_append]; simp
          have hpl1 : (pcsAt im a (i + 1)).length = i + 1 := by rw [← e1, hpl]
          refine BuiltV.append (sv := svOf g (pcsAt im a i).length) (m := 1) (sz := 4) (news := pcF (q1, (i : Int), q3, q4)) Try.underlying97 rfl rfl rfl rfl (by decide) (Row.cells (b := bl) (o := 0) (l := pcF (q1, (i : Int), q3, q4)) 4) rfl (by decide) rfl (by show ((pcsAt im a i).length + 1) * 40 ≤ _; omega) (by omega) fun gb gc => ?_
          rw [e1, e2]
          conv => whnf
          refine LoadV.s rfl rfl ?_
          conv => whnf
          refine cond_dec (fun h3 => ?_) (fun h3 => ?_) <;> dsimp only at h3
          · conv => whnf
            refine ArI.to64 ((a + (i + 1) : Nat) : Int) (by omega) (by omega) ?_
            conv => whnf
            refine ⟨(i + 1, some (gb, gc)), _, by dsimp only; omega, Sub.sel [2, 3] rfl, ⟨hmore ⟨hT, rfl, rfl⟩ (by omega), by dsimp only; rw [hsn]; simp⟩, ⟨rfl, rfl, rfl, rfl, rfl, rfl, trivial⟩, rfl⟩
          · obtain ⟨l1, l2⟩ := hlast ⟨hT, rfl, rfl⟩ (by omega)
            generalize pcsAt im a (i + 1) = L at *
            conv => whnf
            refine CallS.mk Try.call57 ⟨[], _, _, Sub.refl _, fun F' hF' => whole_ok F' (some ⟨gb, 0, none⟩) gc L (SlF.own hF' (T := 94) (flat_length pcF_length _)) (by omega), ?_⟩
            by_cases hw : WholeOk L
            · rw [whole_yes hw]
              have hd := due_yes (l1 hw)
              rw [hpl1] at hd
              rintro e A' ⟨rfl, rfl⟩
              conv => whnf
              refine ArI.to64 ((a + (i + 1) : Nat) : Int) (by omega) (by omega) ?_
              conv => whnf
              refine StoreV.c rfl rfl (Nat.le_of_ble_eq_true rfl) rfl ?_
              conv => whnf
              refine RetI.cell_tmp Try.results48 rfl rfl ?_
              conv => whnf
              refine LoadV.a 2 rfl (Nat.le_of_ble_eq_true rfl) ?_
              conv => whnf
              exact ⟨_, Sub.sel [] rfl, rfl, _, _, true, rfl, .inl ⟨rfl, _, rfl, hd⟩⟩
            · rw [whole_no hw]
              rintro e A' ⟨rfl, rfl⟩
              conv => whnf
              refine ArI.to64 ((a + (i + 1) : Nat) : Int) (by omega) (by omega) ?_
              conv => whnf
              refine StoreV.c rfl rfl (Nat.le_of_ble_eq_true rfl) rfl ?_
              conv => whnf
              refine RetI.cell_tmp Try.results48 rfl rfl ?_
              conv => whnf
              refine LoadV.a 2 rfl (Nat.le_of_ble_eq_true rfl) ?_
              conv => whnf
              exact ⟨_, Sub.sel [] rfl, DueA.no (l2 hw)⟩
        · rw [show (q2 != (i : Int)) = true from bne_iff_ne.2 hp]
          have hno := hbad (fun h => hp h.2.2)
          conv => whnf
          refine StoreV.c rfl rfl (Nat.le_of_ble_eq_true rfl) rfl ?_
          conv => whnf
          refine RetI.cell_tmp Try.results48 rfl rfl ?_
          conv => whnf
          refine LoadV.a 2 rfl (Nat.le_of_ble_eq_true rfl) ?_
          conv => whnf
          exact ⟨_, Sub.sel [] rfl, DueA.no hno⟩
      · rw [show (q1 != seq) = true from bne_iff_ne.2 hq]
        have hno := hbad (fun h => hq h.2.1)
        conv => whnf
        refine StoreV.c rfl rfl (Nat.le_of_ble_eq_true rfl) rfl ?_
        conv => whnf
        refine RetI.cell_tmp Try.results48 rfl rfl ?_
        conv => whnf
        refine LoadV.a 2 rfl (Nat.le_of_ble_eq_true rfl) ?_
        conv => whnf
        exact ⟨_, Sub.sel [] rfl, DueA.no hno⟩
    · rw [if_neg hT]
      have hno := hbad (fun h => hT h.1)
      conv => whnf
      refine StoreV.c rfl rfl (Nat.le_of_ble_eq_true rfl) rfl ?_
      conv => whnf
      refine RetI.cell_tmp Try.results48 rfl rfl ?_
      conv => whnf
      refine LoadV.a 2 rfl (Nat.le_of_ble_eq_true rfl) ?_
      conv => whnf
      exact ⟨_, Sub.sel [] rfl, DueA.no hno⟩
  · have hno := hA.ends (by omega)
    conv => whnf
    refine StoreV.c rfl rfl (Nat.le_of_ble_eq_true rfl) rfl ?_
    conv => whnf
    refine RetI.cell_tmp Try.results48 rfl rfl ?_
    conv => whnf
    refine LoadV.a 2 rfl (Nat.le_of_ble_eq_true rfl) ?_
    conv => whnf
    exact ⟨_, Sub.sel [] rfl, DueA.no hno⟩
end Go.Proofs.Ytgodkfaacjllcaa

/- The frame that is due, by the reference. -/
namespace Go.Proofs.Ytgodkfaacjllcaa
set_option linter.unusedVariables false
set_option linter.unusedSimpArgs false
set_option maxRecDepth 100000
open SL Go.RowKit Go.Maps

theorem unbP_parts (s : ByteArray) : ∃ m : Nat, (unbP s).2.2.1 = (m : Int) ∧ m ≤ 255 := by
  refine ⟨_, rfl, ?_⟩
  unfold unbR
  split
  · have := byt_lt s 3; show byt s 3 ≤ 255; omega
  · exact Nat.zero_le _
/-- The frame's length is told by its first block. -/
theorem DueOk.first {im : List ByteArray} {a : Nat} {seq : Int} {l : List Pc} (h : DueOk im a seq l) {s : ByteArray} (hs : im[a]? = some s) : Taken s ∧ (unbP s).1 = seq ∧ (unbP s).2.1 = 0 ∧ (unbP s).2.2.1 = (l.length : Int) := h.get h.pos hs
theorem DueOk.pcs {im : List ByteArray} {a : Nat} {seq : Int} {l : List Pc} (h : DueOk im a seq l) : l = pcsAt im a l.length := by
  have hl := h.len
  refine List.ext_getElem (by rw [pcsAt_length hl]) fun j h1 h2 => ?_
  obtain ⟨t, ht⟩ := h.blk h1
  have e := pcsAt_get (i := l.length) h1 ht
  rw [List.getElem?_eq_getElem h2] at e
  rw [Option.some.inj e, (h.at_ j h1 t ht).2]
def AllTaken (im : List ByteArray) (a i : Nat) : Prop := ∀ j, j < i → ∀ s, im[a + j]? = some s → Taken s
theorem all_due {im : List ByteArray} {a m : Nat} {seq : Int} {s : ByteArray} (hs : im[a]? = some s) (hm : a + m ≤ im.length) (h0 : 0 < m) (hseq : (unbP s).1 = seq) (ht : AllTaken im a m) (hw : WholeOk (pcsAt im a m)) : DueOk im a seq (pcsAt im a m) := by
  have hlen := pcsAt_length hm
  refine ⟨by rw [hlen]; exact hm, fun j hj t hjt => ?_, hw, ?_⟩
  · rw [hlen] at hj
    have e := pcsAt_get hj hjt
    rw [List.getElem?_eq_getElem (by omega)] at e
    exact ⟨ht j hj t hjt, (Option.some.inj e).symm⟩
  · have e := pcsAt_get (i := m) (j := 0) (a := a) h0 hs
    rw [List.getElem?_eq_getElem (by omega)] at e
    rw [seq0_get (by omega), Option.some.inj e]; exact hseq
/-- What the reference's due answers. -/
def DueB (im : List ByteArray) (a : Nat) (seq : Int) (e : Ending) (H : Heap) : Prop :=
  H = [] ∧ ((∃ p n, dueR im a seq = some (p, n) ∧ e = .returned (.tuple #[.string p, .int .i64 ((n : Int) - (a : Int))])) ∨ (dueR im a seq = none ∧ e = .returned (.tuple #[.string nul, .int .i64 0])))
theorem DueB.no {im : List ByteArray} {a : Nat} {seq : Int} (h : ¬ ∃ l, DueOk im a seq l) : DueB im a seq (.returned (.tuple #[.string nul, .int .i64 0])) [] := ⟨rfl, .inr ⟨due_no h, rfl⟩⟩
set_option maxHeartbeats 1000000 in
theorem rdue_ok (F : Mem) (oa : Option Addr) (ca : Nat) (im : List ByteArray) (hb : SlF F 1 oa im.length (strs im)) (hsz : ∀ s ∈ im, s.size ≤ 9223372036854775807) (hn : im.length ≤ 140737488355328) (a : Nat) (ha : a ≤ im.length) (seq : Int) :
    FT Try.prog 30 [.slice oa im.length ca, .int .i64 (a : Int), .int .i64 seq].toArray F [] (DueB im a seq) := by
  have hA0 : Ahead im a seq 0 := ⟨by omega, fun j hj => by omega⟩
  refine FT.of_body Try.func30 rfl Try.ntmps30 (by simp) fun C hC => ?_
  subst hC
  conv => whnf
  refine cond_dec (fun h => ?_) (fun h => ?_)
  · have hno := hA0.ends (by omega)
    conv => whnf
    repeat (first | (refine LoadV.s rfl rfl (forceV_of ?_); conv => whnf) | (refine LoadV.s rfl rfl ?_; conv => whnf) | (refine StoreV.c rfl rfl (Nat.le_of_ble_eq_true rfl) rfl ?_; conv => whnf) | (refine LoadV.a _ rfl (Nat.le_of_ble_eq_true rfl) ?_; conv => whnf) | (refine DrawI.quiet (by kernel_rfl) (by kernel_rfl) ?_; conv => whnf) | (refine ArI.in64 (by omega) ?_; conv => whnf) | (refine ArI.inU8 (by omega) ?_; conv => whnf) | (refine ArI.inU64 (by omega) ?_; conv => whnf) | (refine ArI.inU32 (by omega) ?_; conv => whnf) | (refine RetI.one Try.results30 rfl ?_; conv => whnf) | (refine RetI.two Try.results30 rfl rfl ?_; conv => whnf) | (refine RetI.three Try.results30 rfl rfl rfl ?_; conv => whnf) | (refine RetI.none Try.results30 ?_; conv => whnf) | (refine ⟨by first | decide | omega, ?_⟩; conv => whnf))
    exact ⟨_, Sub.sel [] rfl, DueB.no hno⟩
  · have hil : a < im.length := by omega
    obtain ⟨xa, ya, rfl, hra⟩ := hb.at hil
    have hs : im[a]? = some (im[a]'hil) := List.getElem?_eq_getElem hil
    have hz := hsz _ (List.getElem_mem hil)
    have hld := hra a (.string (im[a]'hil)) (by rw [List.getElem?_map, hs]; rfl)
    generalize im[a]'hil = s at hs hz hld
    have hbad := hA0.bad hs
    have hfirst : ∀ l, DueOk im a seq l → Taken s ∧ (unbP s).1 = seq ∧ (unbP s).2.1 = 0 ∧ (unbP s).2.2.1 = (l.length : Int) := fun l k => DueOk.first k hs
    have hall : ∀ m, a + m ≤ im.length → 0 < m → (unbP s).1 = seq → AllTaken im a m → WholeOk (pcsAt im a m) → DueOk im a seq (pcsAt im a m) := fun m h1 h2 h3 h4 h5 => all_due hs h1 h2 h3 h4 h5
    obtain ⟨m, hm, hm255⟩ := unbP_parts s
    conv => whnf
    refine ⟨by omega, ?_⟩
    conv => whnf
    rw [elemOff_nat]
    rotate_left
    · kernel_rfl
    refine LoadV.f hld rfl ?_
    conv => whnf
    refine CallS.mk Try.call45 ⟨[], _, _, Sub.refl _, fun F' hF' => runblock_ok F' s hz, ?_⟩
    rw [unb_form]
    rintro e A' ⟨rfl, rfl⟩
    generalize unbP s = P at *
    obtain ⟨q1, q2, q3, q4⟩ := P
    dsimp only at hbad hfirst hall hm
    subst hm
    conv => whnf
    intro b8
    conv => whnf
    refine StoreV.c rfl rfl (Nat.le_of_ble_eq_true rfl) rfl ?_
    by_cases hT : Taken s
    · rw [if_pos hT]
      conv => whnf
      refine LoadV.s rfl rfl ?_
      conv => whnf
      by_cases hq : q1 = seq
      · subst hq
        refine cond_of_false (bne_self_eq_false _) ?_
        conv => whnf
        refine LoadV.s rfl rfl ?_
        conv => whnf
        by_cases hp : q2 = 0
        · subst hp
          conv => whnf
          refine LoadV.s rfl rfl ?_
          conv => whnf
          refine ArI.in64 (by omega) ?_
          conv => whnf
          refine cond_dec (fun h3 => ?_) (fun h3 => ?_)
          · have hno : ¬ ∃ l, DueOk im a q1 l := fun ⟨l, k⟩ => by
              have e := (hfirst l k).2.2.2
              have := k.len
              dsimp only at h3
              omega
            conv => whnf
            repeat (first | (refine LoadV.s rfl rfl (forceV_of ?_); conv => whnf) | (refine LoadV.s rfl rfl ?_; conv => whnf) | (refine StoreV.c rfl rfl (Nat.le_of_ble_eq_true rfl) rfl ?_; conv => whnf) | (refine LoadV.a _ rfl (Nat.le_of_ble_eq_true rfl) ?_; conv => whnf) | (refine DrawI.quiet (by kernel_rfl) (by kernel_rfl) ?_; conv => whnf) | (refine ArI.in64 (by omega) ?_; conv => whnf) | (refine ArI.inU8 (by omega) ?_; conv => whnf) | (refine ArI.inU64 (by omega) ?_; conv => whnf) | (refine ArI.inU32 (by omega) ?_; conv => whnf) | (refine RetI.one Try.results30 rfl ?_; conv => whnf) | (refine RetI.two Try.results30 rfl rfl ?_; conv => whnf) | (refine RetI.three Try.results30 rfl rfl rfl ?_; conv => whnf) | (refine RetI.none Try.results30 ?_; conv => whnf) | (refine ⟨by first | decide | omega, ?_⟩; conv => whnf))
            exact ⟨_, Sub.sel [] rfl, DueB.no hno⟩
          · dsimp only at h3
            have hml : a + m ≤ im.length := by omega
            conv => whnf
            refine LoopI.by_state (σ := Nat × Option (Nat × Nat)) (fun x => [(0, .slice (some ⟨xa, ya, none⟩) im.length ca), (1, .int .i64 (a : Int)), (2, .int .i64 q1), (8, .pointer (some ⟨b8, 0, none⟩)), (10, svOf x.2 (pcsAt im a x.1).length), (11, .int .i64 (x.1 : Int))])
              (fun x => [.cells b8 (pcF (q1, 0, (m : Int), q4)) 94 (0, 0), ownP x.2 (pcsAt im a x.1)]) (fun x => x.1 ≤ m ∧ AllTaken im a x.1 ∧ (x.2 = none ↔ pcsAt im a x.1 = [])) (fun x => m - x.1) (0, none)
              ⟨Nat.zero_le _, fun j hj => by omega, by simp [pcsAt]⟩ ⟨rfl, rfl, rfl, rfl, rfl, rfl, trivial⟩ ((Sub.nil 94 4).trans (Sub.sel [1, 0] rfl)) ?_
            rintro ⟨i, g⟩ f0 ⟨hi, hat, hg⟩
            dsimp only at hi hat hg ⊢
            conv => whnf
            refine LoadV.s rfl rfl ?_
            conv => whnf
            refine cond_dec (fun h4 => ?_) (fun h4 => ?_) <;> dsimp only at h4
            · have hilt : a + i < im.length := by omega
              have ht : im[a + i]? = some (im[a + i]'hilt) := List.getElem?_eq_getElem hilt
              have hzt := hsz _ (List.getElem_mem hilt)
              have hldt := hra (a + i) (.string (im[a + i]'hilt)) (by rw [List.getElem?_map, ht]; rfl)
              have hsn := pcsAt_succ ht
              have hpl := pcsAt_length (im := im) (a := a) (i := i) (by omega)
              have hTk : ∀ l, DueOk im a q1 l → Taken (im[a + i]'hilt) := fun l k => (k.get (i := i) (by have e := (hfirst l k).2.2.2; omega) ht).1
              have hat2 : Taken (im[a + i]'hilt) → AllTaken im a (i + 1) := fun hk j hj u hu => by
                by_cases e : j = i
                · subst e; rw [ht] at hu; rw [← Option.some.inj hu]; exact hk
                · exact hat j (by omega) u hu
              generalize im[a + i]'hilt = t at *
              conv => whnf
              refine ArI.to64 ((a + i : Nat) : Int) (by omega) (by omega) ?_
              conv => whnf
              refine ⟨by omega, ?_⟩
              conv => whnf
              rw [elemOff_nat]
              rotate_left
              · kernel_rfl
              refine LoadV.f hldt rfl ?_
              conv => whnf
              refine CallS.mk Try.call45 ⟨[], _, _, Sub.refl _, fun F' hF' => runblock_ok F' t hzt, ?_⟩
              rw [unb_form]
              rintro e A' ⟨rfl, rfl⟩
              generalize unbP t = P at *
              obtain ⟨u1, u2, u3, u4⟩ := P
              conv => whnf
              intro b12
              conv => whnf
              refine StoreV.c rfl rfl (Nat.le_of_ble_eq_true rfl) rfl ?_
              by_cases hT2 : Taken t
              · rw [if_pos hT2]
                conv => whnf
                refine LoadV.a 4 rfl (Nat.le_of_ble_eq_true rfl) ?_
                conv => whnf
                intro bl
                conv => whnf
                have e1 : (pcsAt im a i).length + 1 = (pcsAt im a (i + 1)).length := by rw [hsn]; simp
                have e2 : (pcsAt im a i).flatMap pcF ++ pcF (u1, u2, u3, u4) = (pcsAt im a (i + 1)).flatMap pcF := by rw [hsn, List.flatMap_append]; simp
                refine BuiltV.append (sv := svOf g (pcsAt im a i).length) (m := 1) (sz := 4) (news := pcF (u1, u2, u3, u4)) Try.underlying97 rfl rfl rfl rfl (by decide) (Row.cells (b := bl) (o := 0) (l := pcF (u1, u2, u3, u4)) 4) rfl (by decide) rfl (by show ((pcsAt im a i).length + 1) * 40 ≤ _; omega) (by omega) fun gb gc => ?_
                rw [e1, e2]
                conv => whnf
                refine ArI.to64 ((i + 1 : Nat) : Int) (by omega) (by omega) ?_
                conv => whnf
                exact ⟨(i + 1, some (gb, gc)), _, by dsimp only; omega, Sub.sel [2, 3] rfl, ⟨by dsimp only; omega, hat2 hT2, by dsimp only; rw [hsn]; simp⟩, ⟨rfl, rfl, rfl, rfl, rfl, rfl, trivial⟩, rfl⟩
              · rw [if_neg hT2]
                have hno : ¬ ∃ l, DueOk im a q1 l := fun ⟨l, k⟩ => hT2 (hTk l k)
                conv => whnf
                repeat (first | (refine LoadV.s rfl rfl (forceV_of ?_); conv => whnf) | (refine LoadV.s rfl rfl ?_; conv => whnf) | (refine StoreV.c rfl rfl (Nat.le_of_ble_eq_true rfl) rfl ?_; conv => whnf) | (refine LoadV.a _ rfl (Nat.le_of_ble_eq_true rfl) ?_; conv => whnf) | (refine DrawI.quiet (by kernel_rfl) (by kernel_rfl) ?_; conv => whnf) | (refine ArI.in64 (by omega) ?_; conv => whnf) | (refine ArI.inU8 (by omega) ?_; conv => whnf) | (refine ArI.inU64 (by omega) ?_; conv => whnf) | (refine ArI.inU32 (by omega) ?_; conv => whnf) | (refine RetI.one Try.results30 rfl ?_; conv => whnf) | (refine RetI.two Try.results30 rfl rfl ?_; conv => whnf) | (refine RetI.three Try.results30 rfl rfl rfl ?_; conv => whnf) | (refine RetI.none Try.results30 ?_; conv => whnf) | (refine ⟨by first | decide | omega, ?_⟩; conv => whnf))
                exact ⟨_, Sub.sel [] rfl, DueB.no hno⟩
            · obtain rfl : i = m := by omega
              have hpl := pcsAt_length hml
              have hyes := hall i hml
              have hno1 : ¬ WholeOk (pcsAt im a i) → ¬ ∃ l, DueOk im a q1 l := fun hw ⟨l, k⟩ => hw (by
                have e := (hfirst l k).2.2.2
                have e2 := k.pcs
                rw [show l.length = i by omega] at e2
                rw [← e2]; exact k.whole)
              have hpos : WholeOk (pcsAt im a i) → 0 < i := fun hw => by
                have := List.length_pos_iff.2 hw.1
                omega
              generalize pcsAt im a i = L at *
              conv => whnf
              refine CallS.mk Try.call46 ⟨[], _, _, Sub.refl _, fun F' hF' => rwhole_ok F' (oaOf g) (capOf g) L (SlF.sv hF' (T := 94) (flat_length pcF_length _) (fun e => by rw [hg.1 e]; rfl)) (by omega), ?_⟩
              by_cases hw : WholeOk L
              · rw [whole_yes hw]
                have hdd := hyes (hpos hw) rfl hat hw
                have hd := due_yes hdd
                have hsq := hdd.seq
                rw [hpl] at hd
                rintro e A' ⟨rfl, rfl⟩
                rw [hsq]
                conv => whnf
                refine cond_of_false (bne_self_eq_false _) ?_
                conv => whnf
                refine DrawI.quiet (by kernel_rfl) (by kernel_rfl) ?_
                conv => whnf
                refine LoadV.s rfl rfl ?_
                conv => whnf
                repeat (first | (refine LoadV.s rfl rfl (forceV_of ?_); conv => whnf) | (refine LoadV.s rfl rfl ?_; conv => whnf) | (refine StoreV.c rfl rfl (Nat.le_of_ble_eq_true rfl) rfl ?_; conv => whnf) | (refine LoadV.a _ rfl (Nat.le_of_ble_eq_true rfl) ?_; conv => whnf) | (refine DrawI.quiet (by kernel_rfl) (by kernel_rfl) ?_; conv => whnf) | (refine ArI.in64 (by omega) ?_; conv => whnf) | (refine ArI.inU8 (by omega) ?_; conv => whnf) | (refine ArI.inU64 (by omega) ?_; conv => whnf) | (refine ArI.inU32 (by omega) ?_; conv => whnf) | (refine RetI.one Try.results30 rfl ?_; conv => whnf) | (refine RetI.two Try.results30 rfl rfl ?_; conv => whnf) | (refine RetI.three Try.results30 rfl rfl rfl ?_; conv => whnf) | (refine RetI.none Try.results30 ?_; conv => whnf) | (refine ⟨by first | decide | omega, ?_⟩; conv => whnf))
                exact ⟨_, Sub.sel [] rfl, rfl, .inl ⟨_, _, hd, by rw [show ((a + i : Nat) : Int) - (a : Int) = (i : Int) by omega]⟩⟩
              · rw [whole_no hw]
                have hno := hno1 hw
                rintro e A' ⟨rfl, rfl⟩
                conv => whnf
                repeat (first | (refine LoadV.s rfl rfl (forceV_of ?_); conv => whnf) | (refine LoadV.s rfl rfl ?_; conv => whnf) | (refine StoreV.c rfl rfl (Nat.le_of_ble_eq_true rfl) rfl ?_; conv => whnf) | (refine LoadV.a _ rfl (Nat.le_of_ble_eq_true rfl) ?_; conv => whnf) | (refine DrawI.quiet (by kernel_rfl) (by kernel_rfl) ?_; conv => whnf) | (refine ArI.in64 (by omega) ?_; conv => whnf) | (refine ArI.inU8 (by omega) ?_; conv => whnf) | (refine ArI.inU64 (by omega) ?_; conv => whnf) | (refine ArI.inU32 (by omega) ?_; conv => whnf) | (refine RetI.one Try.results30 rfl ?_; conv => whnf) | (refine RetI.two Try.results30 rfl rfl ?_; conv => whnf) | (refine RetI.three Try.results30 rfl rfl rfl ?_; conv => whnf) | (refine RetI.none Try.results30 ?_; conv => whnf) | (refine ⟨by first | decide | omega, ?_⟩; conv => whnf))
                exact ⟨_, Sub.sel [] rfl, DueB.no hno⟩
        · rw [show (q2 != 0) = true from bne_iff_ne.2 hp]
          have hno := hbad (fun h => hp h.2.2)
          conv => whnf
          repeat (first | (refine LoadV.s rfl rfl (forceV_of ?_); conv => whnf) | (refine LoadV.s rfl rfl ?_; conv => whnf) | (refine StoreV.c rfl rfl (Nat.le_of_ble_eq_true rfl) rfl ?_; conv => whnf) | (refine LoadV.a _ rfl (Nat.le_of_ble_eq_true rfl) ?_; conv => whnf) | (refine DrawI.quiet (by kernel_rfl) (by kernel_rfl) ?_; conv => whnf) | (refine ArI.in64 (by omega) ?_; conv => whnf) | (refine ArI.inU8 (by omega) ?_; conv => whnf) | (refine ArI.inU64 (by omega) ?_; conv => whnf) | (refine ArI.inU32 (by omega) ?_; conv => whnf) | (refine RetI.one Try.results30 rfl ?_; conv => whnf) | (refine RetI.two Try.results30 rfl rfl ?_; conv => whnf) | (refine RetI.three Try.results30 rfl rfl rfl ?_; conv => whnf) | (refine RetI.none Try.results30 ?_; conv => whnf) | (refine ⟨by first | decide | omega, ?_⟩; conv => whnf))
          exact ⟨_, Sub.sel [] rfl, DueB.no hno⟩
      · rw [show (q1 != seq) = true from bne_iff_ne.2 hq]
        have hno := hbad (fun h => hq h.2.1)
        conv => whnf
        repeat (first | (refine LoadV.s rfl rfl (forceV_of ?_); conv => whnf) | (refine LoadV.s rfl rfl ?_; conv => whnf) | (refine StoreV.c rfl rfl (Nat.le_of_ble_eq_true rfl) rfl ?_; conv => whnf) | (refine LoadV.a _ rfl (Nat.le_of_ble_eq_true rfl) ?_; conv => whnf) | (refine DrawI.quiet (by kernel_rfl) (by kernel_rfl) ?_; conv => whnf) | (refine ArI.in64 (by omega) ?_; conv => whnf) | (refine ArI.inU8 (by omega) ?_; conv => whnf) | (refine ArI.inU64 (by omega) ?_; conv => whnf) | (refine ArI.inU32 (by omega) ?_; conv => whnf) | (refine RetI.one Try.results30 rfl ?_; conv => whnf) | (refine RetI.two Try.results30 rfl rfl ?_; conv => whnf) | (refine RetI.three Try.results30 rfl rfl rfl ?_; conv => whnf) | (refine RetI.none Try.results30 ?_; conv => whnf) | (refine ⟨by first | decide | omega, ?_⟩; conv => whnf))
        exact ⟨_, Sub.sel [] rfl, DueB.no hno⟩
    · rw [if_neg hT]
      have hno := hbad (fun h => hT h.1)
      conv => whnf
      repeat (first | (refine LoadV.s rfl rfl (forceV_of ?_); conv => whnf) | (refine LoadV.s rfl rfl ?_; conv => whnf) | (refine StoreV.c rfl rfl (Nat.le_of_ble_eq_true rfl) rfl ?_; conv => whnf) | (refine LoadV.a _ rfl (Nat.le_of_ble_eq_true rfl) ?_; conv => whnf) | (refine DrawI.quiet (by kernel_rfl) (by kernel_rfl) ?_; conv => whnf) | (refine ArI.in64 (by omega) ?_; conv => whnf) | (refine ArI.inU8 (by omega) ?_; conv => whnf) | (refine ArI.inU64 (by omega) ?_; conv => whnf) | (refine ArI.inU32 (by omega) ?_; conv => whnf) | (refine RetI.one Try.results30 rfl ?_; conv => whnf) | (refine RetI.two Try.results30 rfl rfl ?_; conv => whnf) | (refine RetI.three Try.results30 rfl rfl rfl ?_; conv => whnf) | (refine RetI.none Try.results30 ?_; conv => whnf) | (refine ⟨by first | decide | omega, ?_⟩; conv => whnf))
      exact ⟨_, Sub.sel [] rfl, DueB.no hno⟩
end Go.Proofs.Ytgodkfaacjllcaa

/- Records, one behind the other; the scan. -/
namespace Go.Proofs.Ytgodkfaacjllcaa
set_option linter.unusedVariables false
set_option linter.unusedSimpArgs false
set_option maxRecDepth 100000
open SL Go.RowKit Go.Maps

/-- A body's round, by states: inv, with what is to come; post, where it was left. -/
def BodyG (P : Program) {σ τ : Type} (val : τ → Value) (l : Nat) (rec : LoopState → Option Code → Loop) (Hb : σ → Heap) (inv : σ → List τ → Prop) (post : σ → Option Code → Prop) : Prop :=
  ∀ (C : Ctx) (X : Heap) (s : σ) (i : τ) (r : List τ) (K : Ending → Heap → Prop), inv s (i :: r) → (∀ s', inv s' r → forceH (.obj l (.loop (rec .ready none)) :: (X ++ Hb s')) (K (.returned (.bool true)))) →
    (∀ s' p, post s' (some p) → forceH (.obj l (.loop (rec .done (some p))) :: (X ++ Hb s')) (K (.returned (.bool false)))) → YieldS C P l [val i] (X ++ .obj l (.loop (rec .ready none)) :: Hb s) K
abbrev recV (r : ByteArray × Nat) : Value := .agg #[.string r.1, .int .i64 (r.2 : Int)]
theorem recs1_ok {σ : Type} (F : Mem) (oa : Option Addr) (ca : Nat) (im : List ByteArray) (hb : SlF F 1 oa im.length (strs im)) (hsz : ∀ s ∈ im, s.size ≤ 9223372036854775807) (hn : im.length ≤ 140737488355328)
    (l b : Nat) (rec : LoopState → Option Code → Loop) (Hb : σ → Heap) (inv : σ → List (ByteArray × Nat) → Prop) (post : σ → Option Code → Prop) (hB : BodyG Try.prog recV l rec Hb inv post) (hp : ∀ s, inv s [] → post s none) (s0 : σ) (N : Nat) (hN : N = 65535) (h0 : inv s0 (recs im N 0 1)) :
    FT Try.prog 47 [.func (.yield l) #[] #[], .pointer (some ⟨b, 0, none⟩)].toArray F (.cells b [.slice oa im.length ca] 22 (0, 0) :: .obj l (.loop (rec .ready none)) :: Hb s0)
      (fun e H => e = .returned (.tuple #[]) ∧ ∃ s' p q, post s' p ∧ q ≠ .busy ∧ H = .cells b [.slice oa im.length ca] 22 (0, 0) :: .obj l (.loop (rec q p)) :: Hb s') := by
  refine FT.of_body Try.func47 rfl Try.ntmps47 (by simp) fun C hC => ?_
  subst hC
  conv => whnf
  refine LoopI.by_state (σ := Nat × Nat × σ) (fun y => [(0, .func (.yield l) #[] #[]), (1, .pointer (some ⟨b, 0, none⟩)), (3, .int .i64 (y.2.1 : Int)), (4, .int .i64 ((y.1 : Int) + 1))]) (fun y => .cells b [.slice oa im.length ca] 22 (0, 0) :: .obj l (.loop (rec .ready none)) :: Hb y.2.2)
    (fun y => y.1 ≤ N ∧ y.2.1 ≤ im.length ∧ inv y.2.2 (recs im (N - y.1) y.2.1 ((y.1 : Int) + 1))) (fun y => N - y.1) (0, 0, s0) ⟨Nat.zero_le _, Nat.zero_le _, by simpa using h0⟩ ⟨rfl, rfl, rfl, rfl, trivial⟩ (Sub.refl _) ?_
  intro y f0 hy
  have hk := hy.1
  have ha := hy.2.1
  have hi := hy.2.2
  clear hy
  dsimp only
  generalize hq : ((y.1 : Nat) : Int) + 1 = q at hi ⊢
  generalize y.1 = k at *
  generalize y.2.1 = a at *
  generalize y.2.2 = s at *
  clear y
  conv => whnf
  refine cond_dec (fun h => ?_) (fun h => ?_)
  · have hm : N - k = N - k - 1 + 1 := by omega
    generalize N - k - 1 = m at hm
    rw [hm] at hi
    conv => whnf
    refine LoadV.s rfl rfl ?_
    conv => whnf
    refine CallS.mk Try.call48 ⟨[], _, _, Sub.refl _, fun F' hF' => due_ok F' oa ca im (hb.ext hF'.F) hsz hn a ha q, ?_⟩
    rintro e A' ⟨rfl, p, q2, ok, rfl, hd⟩
    rw [forceH_eq]
    conv => whnf
    intro b5
    conv => whnf
    refine StoreV.c rfl rfl (Nat.le_of_ble_eq_true rfl) rfl ?_
    conv => whnf
    rcases hd with ⟨rfl, n, rfl, hd⟩ | ⟨rfl, hd⟩
    · rw [recs_some hd] at hi
      have hde := due_end hd
      dsimp only at hi hde
      conv => whnf
      refine LoadV.a 2 rfl (Nat.le_of_ble_eq_true rfl) ?_
      conv => whnf
      refine hB C [.cells b5 [.string p, .int .i64 (n : Int)] 75 (0, 0), .cells b [.slice oa im.length ca] 22 (0, 0)] s (p, n) _ _ hi (fun s' hi' => ?_) (fun s' c hst => ?_)
      · rw [forceH_eq, List.cons_append, List.cons_append, List.nil_append]
        conv => whnf
        refine LoadV.s rfl rfl ?_
        conv => whnf
        refine ArI.to64 (((k + 1 : Nat) : Int) + 1) (by omega) (by omega) ?_
        conv => whnf
        exact ⟨(k + 1, n, s'), _, by dsimp only; omega, (Sub.of_perm (X := [_]) (List.Perm.swap _ _ _)).trans (Sub.of_perm (X := []) (List.Perm.swap _ _ _)), ⟨by dsimp only; omega, hde.2, by dsimp only; rw [show N - (k + 1) = m by omega, show ((k + 1 : Nat) : Int) + 1 = q + 1 by omega]; exact hi'⟩, ⟨rfl, rfl, rfl, rfl, trivial⟩, rfl⟩
      · rw [forceH_eq, List.cons_append, List.cons_append, List.nil_append]
        conv => whnf
        refine RetI.none Try.results47 ?_
        refine ⟨_, (Sub.of_perm (X := [_]) (List.Perm.swap _ _ _)).trans (Sub.of_perm (X := []) (List.Perm.swap _ _ _)), rfl, s', some c, .done, hst, ?_, rfl⟩
        decide
    · rw [recs_none hd] at hi
      conv => whnf
      refine RetI.none Try.results47 ?_
      refine ⟨_, Sub.of_perm (X := [_]) (List.Perm.refl _), rfl, s, none, .ready, hp s hi, ?_, rfl⟩
      decide
  · rw [show N - k = 0 by omega] at hi
    conv => whnf
    refine RetI.none Try.results47 ?_
    refine ⟨_, Sub.refl _, rfl, s, none, .ready, hp s hi, ?_, rfl⟩
    decide
theorem records_ok (F : Mem) (v : Value) (oa : Option Addr) (n ca : Nat) : FT Try.prog 31 [.slice oa n ca].toArray F [] (fun e H => ∃ b, e = .returned (.func (.func 47) #[] #[.pointer (some ⟨b, 0, none⟩)]) ∧ H = [.cells b [.slice oa n ca] 22 (0, 0)]) := by
  refine FT.of_body Try.func31 rfl Try.ntmps31 (by simp) fun C hC => ?_
  subst hC
  conv => whnf
  intro b
  conv => whnf
  repeat (first | (refine LoadV.s rfl rfl (forceV_of ?_); conv => whnf) | (refine LoadV.s rfl rfl ?_; conv => whnf) | (refine StoreV.c rfl rfl (Nat.le_of_ble_eq_true rfl) rfl ?_; conv => whnf) | (refine LoadV.a _ rfl (Nat.le_of_ble_eq_true rfl) ?_; conv => whnf) | (refine DrawI.quiet (by kernel_rfl) (by kernel_rfl) ?_; conv => whnf) | (refine ArI.in64 (by omega) ?_; conv => whnf) | (refine ArI.inU8 (by omega) ?_; conv => whnf) | (refine ArI.inU64 (by omega) ?_; conv => whnf) | (refine ArI.inU32 (by omega) ?_; conv => whnf) | (refine RetI.one Try.results31 rfl ?_; conv => whnf) | (refine RetI.two Try.results31 rfl rfl ?_; conv => whnf) | (refine RetI.three Try.results31 rfl rfl rfl ?_; conv => whnf) | (refine RetI.none Try.results31 ?_; conv => whnf) | (refine ⟨by first | decide | omega, ?_⟩; conv => whnf))
  exact ⟨_, Sub.refl _, b, by simp [ev, upd, argFr]; rfl, rfl⟩
end Go.Proofs.Ytgodkfaacjllcaa

/- The scan; the reference's scan. -/
namespace Go.Proofs.Ytgodkfaacjllcaa
set_option linter.unusedVariables false
set_option linter.unusedSimpArgs false
set_option maxRecDepth 100000
open SL Go.RowKit Go.Maps

abbrev ownS (g : Option (Nat × Nat)) (l : List ByteArray) : HObj := .own (svOf g l.length) l.length 9 1 (strs l)
/-- As Sub.sel, with something behind. -/
theorem Sub.selX {A B X : Heap} (is : List Nat) (h : SL.sel is A = some B) : SL.Sub (A ++ X) (B ++ X) := by
  unfold SL.sel at h
  obtain ⟨⟨ys, l'⟩, h1, rfl⟩ := Option.map_eq_some_iff.1 h
  have := pulls_perm h1
  rw [List.filterMap_map] at this
  have h2 : List.filterMap (id ∘ some) A = A := by simp
  rw [h2] at this
  refine SL.Sub.of_perm (X := l'.filterMap id) ((this.append_right X).trans ?_)
  rw [← List.append_assoc]
  exact List.perm_append_comm.append_right X
theorem Sub.mid {o : HObj} {X B : Heap} : SL.Sub (X ++ o :: B) (o :: (B ++ X)) :=
  SL.Sub.of_perm (X := []) (List.perm_middle.trans (List.perm_append_comm.cons o))
/-- What a scan answers. -/
def ScanA (im : List ByteArray) (e : Ending) (H : Heap) : Prop := ∃ g, (g = none ↔ scanP im = []) ∧ e = .returned (.tuple #[svOf g (scanP im).length, .int .i64 (scanE im : Int)]) ∧ H = [ownS g (scanP im)]
set_option maxHeartbeats 1000000 in
theorem scan_ok (F : Mem) (oa : Option Addr) (ca : Nat) (im : List ByteArray) (hb : SlF F 1 oa im.length (strs im)) (hsz : ∀ s ∈ im, s.size ≤ 9223372036854775807) (hn : im.length ≤ 140737488355328) :
    FT Try.prog 9 [.slice oa im.length ca].toArray F [] (ScanA im) := by
  obtain ⟨N, hN⟩ : ∃ N, N = 65535 := ⟨_, rfl⟩
  have hP : scanP im = (recs im N 0 1).map (·.1) := by rw [hN]; rfl
  have hE : scanE im = lastEnd 0 (recs im N 0 1) := by rw [hN]; rfl
  have hRl := recs_length im N 0 1
  unfold ScanA
  rw [hP, hE]
  refine FT.of_bodyD Try.func9 rfl Try.ntmps9 (by simp) fun C hC hds => ?_
  subst hC
  conv => whnf
  intro b4
  conv => whnf
  intro b5
  conv => whnf
  refine StoreV.c rfl rfl (Nat.le_of_ble_eq_true rfl) rfl ?_
  conv => whnf
  refine CallS.mk Try.call31 ⟨[], _, _, Sub.refl _, fun F' hF' => records_ok F' (.bool true) oa im.length ca, ?_⟩
  rintro e A' ⟨b, rfl, rfl⟩
  conv => whnf
  refine RangeD.mk 47 [.pointer (some ⟨b, 0, none⟩)] rfl Try.call47 fun fn D l => ?_
  refine ⟨[_, _, _, _, _, _], [], _, (Sub.nil 9 1).trans (Sub.split [3, 1, 2, 5, 4, 0] rfl), fun F' hF' => recs1_ok (σ := List (ByteArray × Nat) × Option (Nat × Nat)) F' oa ca im (hb.ext hF'.F) hsz hn l b (mkLoop fn _ _ #[9] _ _ D)
    (fun y => [.obj D (.deferred (some [])), .cells b4 [svOf y.2 (y.1.map (·.1)).length] 22 (0, 0), .cells b5 [.int .i64 (lastEnd 0 y.1 : Int)] 3 (0, 0), ownS y.2 (y.1.map (·.1))]) (fun y r => (y.2 = none ↔ y.1.map (·.1) = []) ∧ y.1 ++ r = recs im N 0 1) (fun y p => p = none ∧ (y.2 = none ↔ y.1.map (·.1) = []) ∧ y.1 = recs im N 0 1) ?_ (fun y h => ⟨rfl, h.1, by rw [← h.2, List.append_nil]⟩)
    ([], none) N hN ⟨by simp, rfl⟩, ?_⟩
  · intro C2 X y i r K hinv hcont hstop
    obtain ⟨L, g⟩ := y
    dsimp only at hinv ⊢
    have hlen : L.length + (r.length + 1) ≤ 65535 := by
      rw [← hinv.2] at hRl
      rw [← hN]
      simpa using hRl
    obtain ⟨p, n⟩ := i
    have hml : (L.map (·.1)).length = L.length := List.length_map ..
    refine YieldS.new _ Sub.mid ?_
    rw [List.cons_append, List.cons_append, List.cons_append, List.cons_append, List.nil_append]
    conv => whnf
    intro b6
    conv => whnf
    refine StoreV.c rfl rfl (Nat.le_of_ble_eq_true rfl) rfl ?_
    conv => whnf
    refine ⟨_, Sub.of_perm (X := []) (List.Perm.swap _ _ _), ?_⟩
    conv => whnf
    refine LoadV.s rfl rfl ?_
    conv => whnf
    refine LoadV.s rfl rfl ?_
    conv => whnf
    intro bl
    conv => whnf
    refine (show BuiltV _ _ _ #[22, 22] _ _ [svOf g (L.map (·.1)).length, .slice (some ⟨bl, 0, none⟩) 1 1] _ _ from ?_)
    refine BuiltV.append (m := 1) Try.underlying22 rfl rfl rfl rfl (by decide) (Row.cells 1) rfl (by decide) rfl (by show ((L.map (·.1)).length + 1) * 16 ≤ _; omega) (by omega) fun gb gc => ?_
    conv => whnf
    refine StoreV.c rfl rfl (Nat.le_of_ble_eq_true rfl) rfl ?_
    conv => whnf
    refine LoadV.s rfl rfl ?_
    conv => whnf
    refine StoreV.c rfl rfl (Nat.le_of_ble_eq_true rfl) rfl ?_
    conv => whnf
    have h2 := hcont (L ++ [(p, n)], some (gb, gc)) ⟨by simp, by rw [List.append_assoc]; exact hinv.2⟩
    dsimp only [ownS] at h2
    simp only [List.map_append, List.length_append, lastEnd_snoc] at h2
    refine ⟨_, (Sub.selX (A := [_, _, _, _, _, _, _]) [1, 3, 4, 5, 6] rfl).trans (Sub.of_perm (X := []) (List.perm_append_comm.cons _)), ?_⟩
    exact h2
  · rintro e A' ⟨rfl, y, p, q, ⟨rfl, hg, hy⟩, hq, rfl⟩
    obtain ⟨L, g⟩ := y
    dsimp only at hg hy ⊢
    subst hy
    conv => whnf
    refine ⟨q, none, _, Sub.sel [1, 0, 2, 3, 4, 5] rfl, hq, ?_⟩
    conv => whnf
    refine DrawI.quiet (by kernel_rfl) (by kernel_rfl) ?_
    conv => whnf
    refine LoadV.s rfl rfl ?_
    conv => whnf
    refine LoadV.s rfl rfl ?_
    conv => whnf
    refine ⟨D, _, rfl, Sub.sel [1, 4] rfl, ?_⟩
    rw [hds]
    conv => whnf
    refine RetI.two Try.results9 rfl rfl ?_
    conv => whnf
    exact ⟨_, Sub.refl _, g, hg, rfl, rfl⟩
end Go.Proofs.Ytgodkfaacjllcaa

/- The reference's scan. -/
namespace Go.Proofs.Ytgodkfaacjllcaa
set_option linter.unusedVariables false
set_option linter.unusedSimpArgs false
set_option maxRecDepth 100000
open SL Go.RowKit Go.Maps

theorem rscan_ok (F : Mem) (oa : Option Addr) (ca : Nat) (im : List ByteArray) (hb : SlF F 1 oa im.length (strs im)) (hsz : ∀ s ∈ im, s.size ≤ 9223372036854775807) (hn : im.length ≤ 140737488355328) :
    FT Try.prog 8 [.slice oa im.length ca].toArray F [] (ScanA im) := by
  obtain ⟨N, hN⟩ : ∃ N, N = 65535 := ⟨_, rfl⟩
  have hP : scanP im = (recs im N 0 1).map (·.1) := by rw [hN]; rfl
  have hE : scanE im = lastEnd 0 (recs im N 0 1) := by rw [hN]; rfl
  have hRl := recs_length im N 0 1
  unfold ScanA
  rw [hP, hE]
  refine FT.of_body Try.func8 rfl Try.ntmps8 (by simp) fun C hC => ?_
  subst hC
  conv => whnf
  refine LoopI.by_state (σ := Nat × Nat × List (ByteArray × Nat) × Option (Nat × Nat)) (fun y => [(0, .slice oa im.length ca), (4, svOf y.2.2.2 (y.2.2.1.map (·.1)).length), (5, .int .i64 (y.2.1 : Int)), (6, .int .i64 ((y.1 : Int) + 1))]) (fun y => [ownS y.2.2.2 (y.2.2.1.map (·.1))])
    (fun y => y.1 ≤ N ∧ y.2.1 ≤ im.length ∧ y.2.2.1 ++ recs im (N - y.1) y.2.1 ((y.1 : Int) + 1) = recs im N 0 1 ∧ y.2.1 = lastEnd 0 y.2.2.1 ∧ (y.2.2.2 = none ↔ y.2.2.1.map (·.1) = [])) (fun y => N - y.1) (0, 0, [], none) ⟨Nat.zero_le _, Nat.zero_le _, by simp, rfl, by simp⟩ ⟨rfl, rfl, rfl, rfl, trivial⟩ ((Sub.nil 9 1).trans (Sub.sel [0] rfl)) ?_
  intro y f0 hy
  have hk := hy.1
  have ha := hy.2.1
  have hi := hy.2.2.1
  have hl := hy.2.2.2.1
  have hg := hy.2.2.2.2
  clear hy
  dsimp only
  generalize hq : ((y.1 : Nat) : Int) + 1 = q at hi ⊢
  generalize y.1 = k at *
  generalize y.2.1 = a at *
  generalize y.2.2.1 = L at *
  generalize y.2.2.2 = g at *
  clear y
  have hml : (L.map (·.1)).length = L.length := List.length_map ..
  conv => whnf
  refine cond_dec (fun h => ?_) (fun h => ?_)
  · have hm : N - k = N - k - 1 + 1 := by omega
    generalize N - k - 1 = m at hm
    rw [hm] at hi
    conv => whnf
    refine CallS.mk Try.call30 ⟨[], _, _, Sub.refl _, fun F' hF' => rdue_ok F' oa ca im (hb.ext hF'.F) hsz hn a ha q, ?_⟩
    rintro e A' ⟨rfl, hd⟩
    rcases hd with ⟨p, n, hd, rfl⟩ | ⟨hd, rfl⟩
    · rw [recs_some hd] at hi
      have hde := due_end hd
      dsimp only at hi hde
      have hlen : L.length + 1 ≤ 65535 := by
        have := congrArg List.length hi
        simp only [List.length_append, List.length_cons] at this
        omega
      rw [show ((n : Int) - (a : Int)) = ((n - a : Nat) : Int) by omega]
      have hna : n - a ≠ 0 := by omega
      obtain ⟨u, hu⟩ : ∃ u, u = n - a := ⟨_, rfl⟩
      rw [← hu] at hna ⊢
      conv => whnf
      rw [show ((u : Int) == 0) = false from beq_eq_false_iff_ne.2 (by omega)]
      conv => whnf
      intro bl
      conv => whnf
      refine (show BuiltV _ _ _ #[22, 22] _ _ [svOf g (L.map (·.1)).length, .slice (some ⟨bl, 0, none⟩) 1 1] _ _ from ?_)
      refine BuiltV.append (m := 1) Try.underlying22 rfl rfl rfl rfl (by decide) (Row.cells 1) rfl (by decide) rfl (by show ((L.map (·.1)).length + 1) * 16 ≤ _; omega) (by omega) fun gb gc => ?_
      conv => whnf
      refine ArI.to64 (n : Int) (by omega) (by omega) ?_
      conv => whnf
      refine ArI.to64 (((k + 1 : Nat) : Int) + 1) (by omega) (by omega) ?_
      conv => whnf
      refine ⟨(k + 1, n, L ++ [(p, n)], some (gb, gc)), _, by dsimp only; omega, Sub.sel [1] rfl, ⟨by dsimp only; omega, hde.2, by dsimp only; rw [show N - (k + 1) = m by omega, show ((k + 1 : Nat) : Int) + 1 = q + 1 by omega, List.append_assoc]; exact hi, by dsimp only; rw [lastEnd_snoc], by simp⟩, ⟨rfl, by dsimp only; rw [List.map_append, List.length_append]; rfl, rfl, rfl, trivial⟩, ?_⟩
      dsimp only [ownS]
      simp only [List.map_append, List.length_append]
      rfl
    · rw [recs_none hd, List.append_nil] at hi
      subst hi
      conv => whnf
      repeat (first | (refine LoadV.s rfl rfl (forceV_of ?_); conv => whnf) | (refine LoadV.s rfl rfl ?_; conv => whnf) | (refine StoreV.c rfl rfl (Nat.le_of_ble_eq_true rfl) rfl ?_; conv => whnf) | (refine LoadV.a _ rfl (Nat.le_of_ble_eq_true rfl) ?_; conv => whnf) | (refine DrawI.quiet (by kernel_rfl) (by kernel_rfl) ?_; conv => whnf) | (refine ArI.in64 (by omega) ?_; conv => whnf) | (refine ArI.inU8 (by omega) ?_; conv => whnf) | (refine ArI.inU64 (by omega) ?_; conv => whnf) | (refine ArI.inU32 (by omega) ?_; conv => whnf) | (refine RetI.one Try.results8 rfl ?_; conv => whnf) | (refine RetI.two Try.results8 rfl rfl ?_; conv => whnf) | (refine RetI.three Try.results8 rfl rfl rfl ?_; conv => whnf) | (refine RetI.none Try.results8 ?_; conv => whnf) | (refine ⟨by first | decide | omega, ?_⟩; conv => whnf))
      exact ⟨_, Sub.refl _, g, hg, by rw [hl], rfl⟩
  · rw [show N - k = 0 by omega] at hi
    rw [show recs im 0 a q = [] from rfl, List.append_nil] at hi
    subst hi
    conv => whnf
    repeat (first | (refine LoadV.s rfl rfl (forceV_of ?_); conv => whnf) | (refine LoadV.s rfl rfl ?_; conv => whnf) | (refine StoreV.c rfl rfl (Nat.le_of_ble_eq_true rfl) rfl ?_; conv => whnf) | (refine LoadV.a _ rfl (Nat.le_of_ble_eq_true rfl) ?_; conv => whnf) | (refine DrawI.quiet (by kernel_rfl) (by kernel_rfl) ?_; conv => whnf) | (refine ArI.in64 (by omega) ?_; conv => whnf) | (refine ArI.inU8 (by omega) ?_; conv => whnf) | (refine ArI.inU64 (by omega) ?_; conv => whnf) | (refine ArI.inU32 (by omega) ?_; conv => whnf) | (refine RetI.one Try.results8 rfl ?_; conv => whnf) | (refine RetI.two Try.results8 rfl rfl ?_; conv => whnf) | (refine RetI.three Try.results8 rfl rfl rfl ?_; conv => whnf) | (refine RetI.none Try.results8 ?_; conv => whnf) | (refine ⟨by first | decide | omega, ?_⟩; conv => whnf))
    exact ⟨_, Sub.refl _, g, hg, by rw [hl], rfl⟩
end Go.Proofs.Ytgodkfaacjllcaa

/- A disk in short; what opening and appending make of it. -/
namespace Go.Proofs.Ytgodkfaacjllcaa
set_option linter.unusedVariables false
set_option linter.unusedSimpArgs false
set_option maxRecDepth 100000
open SL Go.RowKit Go.Maps

/-- A disk in short: its log, its power. -/
structure DA where
  lg : List (Int × ByteArray)
  on : Bool
  l : Int
def DA.wr (a : DA) (i : Int) (s : ByteArray) : DA := if wcode a.on i s = 0 then ⟨a.lg ++ [(i, s)], wOn a.l, wLeft a.l⟩ else a
/-- The blocks behind a place are blanked. -/
def wipeL : List ByteArray → Nat → DA → DA × Bool
  | [], _, a => (a, true)
  | s :: r, i, a => if s.size = 0 then wipeL r (i + 1) a else if wcode a.on (i : Int) nul = 0 then wipeL r (i + 1) (a.wr (i : Int) nul) else (a, false)
abbrev imgA (mf : List (Int × ByteArray)) (a : DA) : List ByteArray := imageL (replay mf a.lg)
noncomputable def wipeA (mf : List (Int × ByteArray)) (a : DA) : DA × Bool := wipeL ((imgA mf a).drop (scanE (imgA mf a))) (scanE (imgA mf a)) a
/-- What opening makes of a disk, and answers. -/
noncomputable def openA (mf : List (Int × ByteArray)) (a : DA) : DA × Option (List ByteArray × Nat) :=
  if a.on = false then (a, none)
  else if (wipeA mf a).2 = false ∨ (wipeA mf a).1.on = false then ((wipeA mf a).1, none)
  else ((wipeA mf a).1, some (scanP (imgA mf a), scanE (imgA mf a)))
/-- Blocks are written, one behind the other, until one fails. -/
def wrAll : List ByteArray → Nat → DA → DA × Bool
  | [], _, a => (a, true)
  | s :: r, i, a => if wcode a.on (i : Int) s = 0 then wrAll r (i + 1) (a.wr (i : Int) s) else (a, false)
/-- A journal in short: how many records, the end, whether it is of no more use. -/
structure JA where
  n : Nat
  e : Nat
  dead : Bool
def appendA (a : DA) (j : JA) (s : ByteArray) : DA × JA × Int :=
  if j.dead = true ∨ a.on = false then (a, { j with dead := true }, 11)
  else if s.size > 5865 then (a, j, 9)
  else if partsI s.size > 2048 - (j.e : Int) ∨ j.n = 65535 then (a, j, 10)
  else
    let w := (wrAll (packF ((j.n : Int) + 1) s).1 j.e a).1
    if w.on = false then (w, { j with dead := true }, 11) else (w, ⟨j.n + 1, j.e + (partsI s.size).toNat, false⟩, 0)
/-- A log so long may have so many writes more. -/
def Room (n k : Nat) : Prop := (n + k) * 24 ≤ 140737488355328
theorem Room.mono {n k m j : Nat} (h : Room n k) (hm : m + j ≤ n + k) : Room m j := Nat.le_trans (Nat.mul_le_mul_right 24 hm) h
/-! ### Facts -/
theorem DA.wr_no {a : DA} {i : Int} {s : ByteArray} (h : ¬ wcode a.on i s = 0) : a.wr i s = a := if_neg h
theorem DA.wr_yes {a : DA} {i : Int} {s : ByteArray} (h : wcode a.on i s = 0) : a.wr i s = ⟨a.lg ++ [(i, s)], wOn a.l, wLeft a.l⟩ := if_pos h
theorem DA.wr_len (a : DA) (i : Int) (s : ByteArray) : (a.wr i s).lg.length ≤ a.lg.length + 1 := by
  unfold DA.wr; split
  · simp
  · omega
theorem wLeft_le {l : Int} (h : l ≤ 9223372036854775807) : wLeft l ≤ 9223372036854775807 := by unfold wLeft; split <;> omega
theorem wcode_in {on : Bool} {i : Int} {s : ByteArray} (h0 : 0 ≤ i) (h1 : i < 2048) (hs : s.size ≤ 32) : wcode on i s = 0 ↔ on = true := by
  unfold wcode
  cases on
  · simp
  · simp; omega
theorem wcode_off {i : Int} {s : ByteArray} : wcode false i s = 11 := rfl
theorem wipe_len : ∀ (l : List ByteArray) (i : Nat) (a : DA), (wipeL l i a).1.lg.length ≤ a.lg.length + l.length
  | [], _, _ => by simp [wipeL]
  | s :: r, i, a => by
    rw [wipeL]
    split
    · have := wipe_len r (i + 1) a; simp; omega
    · split
      · have := wipe_len r (i + 1) (a.wr i nul); have := a.wr_len i nul; simp; omega
      · simp
theorem wrAll_len : ∀ (l : List ByteArray) (i : Nat) (a : DA), (wrAll l i a).1.lg.length ≤ a.lg.length + l.length
  | [], _, _ => by simp [wrAll]
  | s :: r, i, a => by
    rw [wrAll]
    split
    · have := wrAll_len r (i + 1) (a.wr i s); have := a.wr_len i s; simp; omega
    · simp
/-- Every text of a map is short. -/
def SmallM (m : List (Int × ByteArray)) : Prop := ∀ p ∈ m, p.2.size ≤ 32
theorem small_put {m : List (Int × ByteArray)} (h : SmallM m) (a : Int) {s : ByteArray} (hs : s.size ≤ 32) : SmallM (putM m a s) := by
  induction m with
  | nil => intro p hp; simp [putM] at hp; subst hp; exact hs
  | cons q m ih =>
    intro p hp
    unfold putM at hp
    split at hp
    · rcases List.mem_cons.1 hp with rfl | hp
      · exact hs
      · exact h p (by simp [hp])
    · rcases List.mem_cons.1 hp with rfl | hp
      · exact h _ (by simp)
      · exact ih (fun p hp => h p (by simp [hp])) p hp
theorem small_replay : ∀ {lg : List (Int × ByteArray)} (_ : LogOk lg) {m : List (Int × ByteArray)}, SmallM m → SmallM (replay m lg)
  | [], _, _, h => h
  | p :: lg, hl, m, h => by
    show SmallM (replay (putM m p.1 p.2) lg)
    exact small_replay (fun q hq => hl q (by simp [hq])) (small_put h _ (hl p (by simp)).2.2)
theorem look_mem {m : List (Int × ByteArray)} {k : Int} {s : ByteArray} (h : lookM m k = some s) : (k, s) ∈ m := by
  induction m with
  | nil => cases h
  | cons q m ih =>
    unfold lookM at h
    split at h
    · rename_i e
      obtain ⟨a, b⟩ := q
      simp only [Option.some.injEq] at h
      subst h
      simp at e
      subst e
      simp
    · exact List.mem_cons_of_mem _ (ih h)
theorem image_small {m : List (Int × ByteArray)} (h : SmallM m) : ∀ s ∈ imageL m, s.size ≤ 32 := by
  intro s hs
  unfold imageL at hs
  obtain ⟨i, _, rfl⟩ := List.mem_map.1 hs
  cases hl : lookM m (Int.ofNat i) with
  | none => exact Nat.zero_le _
  | some t => exact h _ (look_mem hl)
end Go.Proofs.Ytgodkfaacjllcaa
