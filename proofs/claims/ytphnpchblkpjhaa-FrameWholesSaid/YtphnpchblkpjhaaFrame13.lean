/- The reference's frames put together: the plain law. -/
import Derived.Test.YtphnpchblkpjhaaFrame12
namespace Go.Proofs.Ytphnpchblkpjhaa
set_option linter.unusedVariables false
set_option linter.unusedSimpArgs false
set_option maxRecDepth 100000
open SL Go.RowKit Go.Maps

theorem ok_sizes {l : List Pc} (h : WholeOk l) : ∀ i, ∀ hi : i < l.length, (l[i]).2.2.2.size ≤ 23 ∧ (i + 1 < l.length → (l[i]).2.2.2.size = 23) ∧ (i + 1 = l.length → (l[i]).2.2.2.size = 0 → l.length = 1) := by
  intro i hi
  obtain ⟨h1, h2, h3, h4⟩ := h.2 i hi
  have hR : RightP (l[i]).1 (l[i]).2.1 (l[i]).2.2.1 (l[i]).2.2.2.size := of_decide_eq_true h1
  rw [h3, h4] at hR
  unfold RightP at hR
  obtain ⟨_, _, _, _, _, _, h23, hlast⟩ := hR
  refine ⟨h23, fun hl => ?_, fun hl => ?_⟩
  · rw [if_neg (by omega)] at hlast; exact hlast
  · rw [if_pos (by omega)] at hlast
    intro h0
    have := hlast h0
    omega
theorem ok_cat {l : List Pc} (h : WholeOk l) : ∀ i, i < l.length → (catL (l.take i)).length = 23 * i
  | 0, _ => by simp [catL]
  | i + 1, hi => by
    have ih := ok_cat h i (by omega)
    have hs := (ok_sizes h i (by omega)).2.1 hi
    rw [catL_snoc l i (by omega), List.length_append, ih, txt_length, hs]; omega
theorem cat_split (l : List Pc) (i : Nat) (hi : i < l.length) : catL l = catL (l.take i) ++ (txt (l[i]).2.2.2 ++ catL (l.drop (i + 1))) := by
  unfold catL
  conv => lhs; rw [← List.take_append_drop i l, List.flatMap_append, List.drop_eq_getElem_cons hi, List.flatMap_cons]
theorem ok_total {l : List Pc} (h : WholeOk l) : ∃ k, (catL l).length = 23 * (l.length - 1) + k ∧ k ≤ 23 ∧ (k = 0 → l.length = 1) := by
  have hp := List.length_pos_iff.2 h.1
  obtain ⟨s1, _, s3⟩ := ok_sizes h (l.length - 1) (by omega)
  refine ⟨(l[l.length - 1]).2.2.2.size, ?_, s1, s3 (by omega)⟩
  rw [cat_split l (l.length - 1) (by omega), List.length_append, ok_cat h _ (by omega), List.length_append, txt_length, List.drop_of_length_le (by omega)]
  simp [catL]
theorem ok_len {l : List Pc} (h : WholeOk l) : l.length ≤ 255 := by
  have hp := List.length_pos_iff.2 h.1
  obtain ⟨h1, _, _, h4⟩ := h.2 0 hp
  have := (right_le h1).2
  omega
theorem ok_seq {l : List Pc} (h : WholeOk l) : 1 ≤ seq0 l ∧ seq0 l ≤ 65535 := by
  have hp := List.length_pos_iff.2 h.1
  obtain ⟨h1, h2, _, _⟩ := h.2 0 hp
  have hR : RightP (l[0]).1 (l[0]).2.1 (l[0]).2.2.1 (l[0]).2.2.2.size := of_decide_eq_true h1
  unfold RightP at hR
  rw [h2] at hR
  omega
/-- What can be put together is its text's pieces. -/
theorem ok_pieces {l : List Pc} (h : WholeOk l) : piecesF (seq0 l) (strB (catL l)) = (l, 0) := by
  have hp := List.length_pos_iff.2 h.1
  obtain ⟨k, ht, k1, k2⟩ := ok_total h
  have h255 := ok_len h
  have hq := ok_seq h
  have hsz : (strB (catL l)).size = 23 * (l.length - 1) + k := by rw [strB_size, ht]
  have hC : Can (seq0 l) (strB (catL l)) := ⟨hq.1, hq.2, by omega⟩
  have hn : partsI ((strB (catL l)).size : Int) = (l.length : Int) := by unfold partsI; rw [if_neg (by omega)]; omega
  rw [can_pieces hC, hn, Int.toNat_natCast]
  congr 1
  apply List.ext_getElem
  · simp
  · intro i h1 h2
    simp only [List.getElem_map, List.getElem_range]
    obtain ⟨_, g2, g3, g4⟩ := h.2 i h2
    obtain ⟨s1, s2, _⟩ := ok_sizes h i h2
    have hch : chunk (strB (catL l)) i = (l[i]).2.2.2 := by
      apply txt_inj
      rw [txt_chunk, txt_strB (catL_lt l), cat_split l i h2, List.drop_left' (ok_cat h i h2)]
      have hl := txt_length (l[i]).2.2.2
      by_cases hlast : i + 1 < l.length
      · rw [List.take_left' (by rw [hl]; exact s2 hlast)]
      · rw [List.drop_of_length_le (by omega)]
        simp only [catL, List.flatMap_nil, List.append_nil]
        exact List.take_of_length_le (by omega)
    unfold pcs
    rw [hch, hn, ← g2, ← g3]
    conv => rhs; rw [show l[i] = ((l[i]).1, (l[i]).2.1, (l[i]).2.2.1, (l[i]).2.2.2) from rfl, g4]
/-- The reference's test. -/
theorem pieces_ok_iff {l : List Pc} : WholeOk l ↔ piecesF (seq0 l) (strB (catL l)) = (l, 0) := by
  refine ⟨ok_pieces, fun h => ?_⟩
  have hC : Can (seq0 l) (strB (catL l)) := by
    unfold piecesF at h
    unfold Can
    split at h
    · have := congrArg Prod.snd h; cases this
    · split at h
      · have := congrArg Prod.snd h; cases this
      · omega
  have := (can_whole hC).1
  rwa [h] at this
end Go.Proofs.Ytphnpchblkpjhaa
