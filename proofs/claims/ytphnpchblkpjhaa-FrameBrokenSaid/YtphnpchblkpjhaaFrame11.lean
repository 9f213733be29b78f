/- A payload's pieces: the plain law; the law's own pieces. -/
import Derived.Test.YtphnpchblkpjhaaFrame9
import Derived.Test.YtphnpchblkpjhaaFrame10
import Derived.Test.YtphnpchblkpjhaaFrame6
namespace Go.Proofs.Ytphnpchblkpjhaa
set_option linter.unusedVariables false
set_option linter.unusedSimpArgs false
set_option maxRecDepth 100000
open SL Go.RowKit Go.Maps

theorem chunk_size (s : ByteArray) (i : Nat) : (chunk s i).size = min 23 (s.size - 23 * i) := by
  rw [← txt_length, txt_chunk, List.length_take, List.length_drop, txt_length]
/-- A frame that can be: its number, its payload. -/
def Can (seq : Int) (s : ByteArray) : Prop := 1 ≤ seq ∧ seq ≤ 65535 ∧ s.size ≤ 5865
theorem can_pieces {seq : Int} {s : ByteArray} (h : Can seq s) : piecesF seq s = ((List.range (partsI s.size).toNat).map (pcs seq s), 0) := by
  unfold Can at h
  rw [piecesF, if_neg (by omega), if_neg (by omega)]
theorem can_parts {seq : Int} {s : ByteArray} (h : Can seq s) : ∃ n : Nat, partsI (s.size : Int) = (n : Int) ∧ 1 ≤ n ∧ n ≤ 255 ∧ s.size ≤ 23 * n ∧ (23 * n ≤ s.size + 22 ∨ n = 1) := by
  unfold Can at h
  refine ⟨(partsI s.size).toNat, ?_, ?_, ?_, ?_, ?_⟩ <;> unfold partsI <;> rw [if_neg (by omega)] <;> omega
theorem can_right {seq : Int} {s : ByteArray} (h : Can seq s) : ∀ p ∈ (piecesF seq s).1, rightB p.1 p.2.1 p.2.2.1 p.2.2.2.size = true := by
  rw [can_pieces h]
  obtain ⟨n, hn, n1, n2, n3, n4⟩ := can_parts h
  intro p hp
  dsimp only at hp
  rw [hn, Int.toNat_natCast] at hp
  obtain ⟨i, hi, rfl⟩ := List.mem_map.1 hp
  have hi := List.mem_range.1 hi
  unfold Can at h
  refine decide_eq_true ?_
  unfold RightP pcs
  dsimp only
  rw [hn, chunk_size]
  refine ⟨by omega, by omega, by omega, by omega, by omega, by omega, by omega, ?_⟩
  split <;> omega
theorem pc_unb {p : Pc} (hr : rightB p.1 p.2.1 p.2.2.1 p.2.2.2.size = true) : unbV (unbR (blkP p)) = .tuple #[pieceV p.1 p.2.1 p.2.2.1 p.2.2.2, .int .i64 0] := by
  obtain ⟨a, b, c, d⟩ := p
  dsimp only at hr ⊢
  have hR : RightP a b c d.size := of_decide_eq_true hr
  unfold RightP at hR
  obtain ⟨x, rfl⟩ := Int.eq_ofNat_of_zero_le (show 0 ≤ a by omega)
  obtain ⟨y, rfl⟩ := Int.eq_ofNat_of_zero_le (show 0 ≤ b by omega)
  obtain ⟨z, rfl⟩ := Int.eq_ofNat_of_zero_le (show 0 ≤ c by omega)
  have hb : blkP ((x : Int), (y : Int), (z : Int), d) = strB (blockL x y z d) := by
    unfold blkP
    dsimp only
    rw [blockR, if_pos hr, Int.toNat_natCast, Int.toNat_natCast, Int.toNat_natCast]
  rw [hb, unb_block (by omega) (by omega) (by omega) (by omega) hr]
theorem can_cat {s : ByteArray} (seq : Int) : ∀ n, catL ((List.range n).map (pcs seq s)) = (txt s).take (23 * n)
  | 0 => rfl
  | n + 1 => by
    have ih := can_cat (s := s) seq n
    have e : catL ((List.range (n + 1)).map (pcs seq s)) = catL ((List.range n).map (pcs seq s)) ++ txt (chunk s n) := by
      unfold catL
      rw [List.range_succ, List.map_append, List.flatMap_append]; simp [pcs]
    rw [e, ih, txt_chunk, show 23 * (n + 1) = 23 * n + 23 by omega, List.take_add]
theorem can_whole {seq : Int} {s : ByteArray} (h : Can seq s) : WholeOk (piecesF seq s).1 ∧ wholeR (piecesF seq s).1 = (seq, s, 0) := by
  have hr := can_right h
  obtain ⟨n, hn, n1, n2, n3, n4⟩ := can_parts h
  have hp := can_pieces h
  rw [hn, Int.toNat_natCast] at hp
  rw [hp] at hr ⊢
  dsimp only at hr ⊢
  have hl : ((List.range n).map (pcs seq s)).length = n := by simp
  have hs0 : seq0 ((List.range n).map (pcs seq s)) = seq := by rw [seq0_get (by omega)]; simp [pcs]
  have hW : WholeOk ((List.range n).map (pcs seq s)) := by
    refine ⟨fun e => by rw [e] at hl; simp at hl; omega, fun i hi => ⟨hr _ (List.getElem_mem hi), ?_, ?_, ?_⟩⟩
    · rw [hs0]; simp [pcs]
    · simp [pcs]
    · simp [pcs, hn]
  refine ⟨hW, ?_⟩
  have hls := txt_length s
  rw [whole_yes hW, hs0, can_cat, List.take_of_length_le (by omega), strB_txt]
theorem blkP_size {p : Pc} (hr : rightB p.1 p.2.1 p.2.2.1 p.2.2.2.size = true) : (blkP p).size ≤ 32 := by
  unfold blkP
  rw [blockR, if_pos hr]
  have hR : RightP p.1 p.2.1 p.2.2.1 p.2.2.2.size := of_decide_eq_true hr
  unfold RightP at hR
  rw [strB_size, blockL_length (by omega)]
  exact Nat.le_refl _
set_option maxHeartbeats 4000000 in
theorem pieces_ok (F : Mem) (seq : Int) (s : ByteArray) (hs : s.size ≤ 9223372036854775807) (hR : Can seq s ∨ ¬ (piecesF seq s).2 = 0 ∧ (piecesF seq s).1 = []) :
    FT Try.prog 21 [.int .i64 seq, .string s].toArray F [] (fun e H => ∃ g, (g = none ↔ (piecesF seq s).1 = []) ∧ e = .returned (.tuple #[svOf g (piecesF seq s).1.length, .bool (decide ((piecesF seq s).2 = 0))]) ∧ H = [.own (svOf g (piecesF seq s).1.length) (piecesF seq s).1.length 31 4 ((piecesF seq s).1.flatMap pcF)]) := by
  have hle : (piecesF seq s).1.length ≤ 255 := by have := packF_le seq s; rw [pack_pieces] at this; simpa using this
  have hc := fun (F' : Mem) => fpack_ok F' seq s hs
  rw [pack_pieces] at hc
  have hgood : (piecesF seq s).2 = 0 → (piecesF seq s).1 ≠ [] ∧ ∀ p ∈ (piecesF seq s).1, rightB p.1 p.2.1 p.2.2.1 p.2.2.2.size = true := fun h0 => by
    rcases hR with h | h
    · exact ⟨(can_whole h).1.1, can_right h⟩
    · exact absurd h0 h.1
  have hbad : ¬ (piecesF seq s).2 = 0 → (piecesF seq s).1 = [] := fun h0 => by
    rcases hR with h | h
    · rw [can_pieces h] at h0; exact absurd rfl h0
    · exact h.2
  clear hR
  generalize piecesF seq s = R at hle hc hgood hbad ⊢
  obtain ⟨l, er⟩ := R
  dsimp only at hle hc hgood hbad ⊢
  refine FT.of_body Try.func21 rfl Try.ntmps21 (by simp) fun C hC => ?_
  subst hC
  conv => whnf
  refine CallS.mk Try.call10 ⟨[], _, _, Sub.refl _, fun F' hF' => hc F', ?_⟩
  rintro e A' ⟨g, hg, rfl, rfl⟩
  rw [List.length_map] at *
  by_cases he : er = 0
  · obtain ⟨hne, hri⟩ := hgood he
    subst he
    conv => whnf
    refine cond_of_false (beq_eq_false_iff_ne.2 (by have := List.length_pos_iff.2 hne; omega)) ?_
    conv => whnf
    refine LoopI.by_state (σ := Nat × Option (Nat × Nat)) (fun x => [(8, svOf x.2 x.1), (26, svOf g l.length), (27, .int .i64 (l.length : Int)), (28, .int .i64 (x.1 : Int))])
      (fun x => [.own (svOf x.2 x.1) x.1 31 4 ((l.take x.1).flatMap pcF), .own (svOf g l.length) l.length 9 1 (strs (l.map blkP))]) (fun x => x.1 ≤ l.length ∧ (x.2 = none ↔ x.1 = 0)) (fun x => l.length - x.1) (0, none) ⟨by dsimp only; omega, by simp⟩ ⟨rfl, rfl, rfl, rfl, trivial⟩ (Sub.nil 31 4) ?_
    rintro ⟨i, g2⟩ f0 ⟨hi, hg2⟩
    dsimp only at hi hg2 ⊢
    conv => whnf
    refine cond_dec (fun h => ?_) (fun h => ?_)
    · have hil : i < l.length := by omega
      obtain ⟨gb, gc, rfl⟩ := gsome hg (by simpa using hne)
      conv => whnf
      refine ⟨by omega, ?_⟩
      conv => whnf
      refine LoadV.os rfl (v := .string (blkP l[i])) (by show (strs (l.map blkP))[0 + i]? = _; rw [Nat.zero_add]; simp [hil]) ?_
      conv => whnf
      have hri1 := hri _ (List.getElem_mem hil)
      have hu := fun (F' : Mem) => unblock_ok F' (blkP l[i]) (by have := blkP_size hri1; omega)
      rw [pc_unb hri1] at hu
      have htk : (l.take (i + 1)).flatMap pcF = (l.take i).flatMap pcF ++ pcF l[i] := by rw [← List.take_append_getElem hil, List.flatMap_append]; simp
      generalize l[i] = q at hu htk ⊢
      obtain ⟨q1, q2, q3, q4⟩ := q
      dsimp only at hu
      refine CallS.mk Try.call19 ⟨[], _, _, Sub.refl _, fun F' hF' => hu F', ?_⟩
      rintro e A' ⟨rfl, rfl⟩
      conv => whnf
      intro b3
      conv => whnf
      refine StoreV.c rfl rfl (Nat.le_of_ble_eq_true rfl) rfl ?_
      conv => whnf
      refine LoadV.a _ rfl (Nat.le_of_ble_eq_true rfl) ?_
      conv => whnf
      intro b4
      conv => whnf
      refine BuiltV.append (sv := svOf g2 i) (m := 1) Try.underlying29 rfl rfl rfl rfl (by decide) (Row.cells 4) rfl (by decide) rfl (by show (i + 1) * 40 ≤ _; omega) (by omega) fun g3 c3 => ?_
      conv => whnf
      refine ArI.to64 ((i + 1 : Nat) : Int) (by omega) (by omega) ?_
      conv => whnf
      refine ⟨(i + 1, some (g3, c3)), _, by dsimp only; omega, Sub.sel [2, 3] rfl, ⟨by dsimp only; omega, by simp⟩, ⟨rfl, rfl, rfl, rfl, trivial⟩, ?_⟩
      dsimp only
      rw [htk]
      rfl
    · obtain rfl : i = l.length := by omega
      conv => whnf
      repeat (first | (refine LoadV.s rfl rfl (forceV_of ?_); conv => whnf) | (refine LoadV.s rfl rfl ?_; conv => whnf) | (refine StoreV.c rfl rfl (Nat.le_of_ble_eq_true rfl) rfl ?_; conv => whnf) | (refine LoadV.a _ rfl (Nat.le_of_ble_eq_true rfl) ?_; conv => whnf) | (refine DrawI.quiet (by kernel_rfl) (by kernel_rfl) ?_; conv => whnf) | (refine ArI.in64 (by omega) ?_; conv => whnf) | (refine ArI.inU8 (by omega) ?_; conv => whnf) | (refine ArI.inU64 (by omega) ?_; conv => whnf) | (refine ArI.inU32 (by omega) ?_; conv => whnf) | (refine RetI.one Try.results21 rfl ?_; conv => whnf) | (refine RetI.two Try.results21 rfl rfl ?_; conv => whnf) | (refine RetI.three Try.results21 rfl rfl rfl ?_; conv => whnf) | (refine RetI.none Try.results21 ?_; conv => whnf) | (refine ⟨by first | decide | omega, ?_⟩; conv => whnf))
      refine ⟨_, Sub.sel [0] rfl, g2, ?_, rfl, by rw [List.take_length]⟩
      rw [hg2, List.length_eq_zero_iff]
  · obtain rfl := hbad he
    conv => whnf
    rw [show (er != 0) = true from bne_iff_ne.2 he]
    conv => whnf
    repeat (first | (refine LoadV.s rfl rfl (forceV_of ?_); conv => whnf) | (refine LoadV.s rfl rfl ?_; conv => whnf) | (refine StoreV.c rfl rfl (Nat.le_of_ble_eq_true rfl) rfl ?_; conv => whnf) | (refine LoadV.a _ rfl (Nat.le_of_ble_eq_true rfl) ?_; conv => whnf) | (refine DrawI.quiet (by kernel_rfl) (by kernel_rfl) ?_; conv => whnf) | (refine ArI.in64 (by omega) ?_; conv => whnf) | (refine ArI.inU8 (by omega) ?_; conv => whnf) | (refine ArI.inU64 (by omega) ?_; conv => whnf) | (refine ArI.inU32 (by omega) ?_; conv => whnf) | (refine RetI.one Try.results21 rfl ?_; conv => whnf) | (refine RetI.two Try.results21 rfl rfl ?_; conv => whnf) | (refine RetI.three Try.results21 rfl rfl rfl ?_; conv => whnf) | (refine RetI.none Try.results21 ?_; conv => whnf) | (refine ⟨by first | decide | omega, ?_⟩; conv => whnf))
    exact ⟨_, Sub.trans (Sub.nil 31 4) (Sub.sel [0] rfl), none, by simp, by rw [decide_eq_false he]; rfl, rfl⟩
end Go.Proofs.Ytphnpchblkpjhaa
