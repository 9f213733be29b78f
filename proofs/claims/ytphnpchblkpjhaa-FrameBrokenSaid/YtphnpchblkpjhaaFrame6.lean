/- Spoilt blocks: the plain law. -/
import Derived.Test.YtphnpchblkpjhaaFrame5
import Derived.Test.YtphnpchblkpjhaaWin
namespace Go.Proofs.Ytphnpchblkpjhaa
set_option linter.unusedVariables false
set_option linter.unusedSimpArgs false
set_option maxRecDepth 100000
open SL Go.RowKit Go.Maps

theorem bytesN_inj {n m : Nat} (hn : n < 4294967296) (hm : m < 4294967296) (h : bytesN n = bytesN m) : n = m := by
  simp only [bytesN, List.cons.injEq, and_true] at h
  omega
theorem bytesN_lt {n : Nat} (hn : n < 4294967296) : ∀ x ∈ bytesN n, x < 256 := by
  intro x hx
  simp only [bytesN, List.mem_cons, List.not_mem_nil, or_false] at hx
  omega
theorem blockL_lt {x y z : Nat} {d : ByteArray} (h0 : x < 65536) (h1 : y < 256) (h2 : z < 256) (h : d.size ≤ 23) : ∀ b ∈ blockL x y z d, b < 256 := by
  intro b hb
  rcases List.mem_append.1 hb with hb | hb
  · exact bodyL_lt h0 h1 h2 h b hb
  · exact bytesN_lt (extN_lt _ _) b hb
theorem blockL_length {x y z : Nat} {d : ByteArray} (h : d.size ≤ 23) : (blockL x y z d).length = 32 := by
  rw [blockL, List.length_append, bodyL_length h]; rfl
/-- A block is taken, as its piece. -/
theorem unb_block {x y z : Nat} {d : ByteArray} (h0 : x < 65536) (h1 : y < 256) (h2 : z < 256) (hd : d.size ≤ 23) (hr : rightB (x : Int) (y : Int) (z : Int) d.size = true) :
    unbR (strB (blockL x y z d)) = ((x, y, z, d), 0) := by
  have ht : txt (strB (blockL x y z d)) = blockL x y z d := txt_strB (blockL_lt h0 h1 h2 hd)
  have hs : (strB (blockL x y z d)).size = 32 := by rw [strB_size, blockL_length hd]
  have b0 : byt (strB (blockL x y z d)) 0 = x / 256 := by unfold byt; rw [ht]; rfl
  have b1 : byt (strB (blockL x y z d)) 1 = x % 256 := by unfold byt; rw [ht]; rfl
  have b2 : byt (strB (blockL x y z d)) 2 = y := by unfold byt; rw [ht]; rfl
  have b3 : byt (strB (blockL x y z d)) 3 = z := by unfold byt; rw [ht]; rfl
  have b4 : byt (strB (blockL x y z d)) 4 = d.size := by unfold byt; rw [ht]; rfl
  have hq : rdSeq (strB (blockL x y z d)) = x := by unfold rdSeq; rw [b0, b1]; omega
  have hdd : rdData (strB (blockL x y z d)) = d := by
    apply txt_inj
    unfold rdData
    rw [b4, txt_extract, ht]
    have hl := txt_length d
    have e : (blockL x y z d).drop 5 = txt d ++ (List.replicate (23 - d.size) 0 ++ bytesN (extN 0 (bodyL x y z d))) := by
      unfold blockL bodyL headL
      simp
    rw [e, show 5 + d.size - 5 = d.size by omega, ← hl, List.take_left]
  have hT : Taken (strB (blockL x y z d)) := by
    refine ⟨hs, by omega, ?_⟩
    rw [hq, b2, b3, hdd, blockR, if_pos hr, Int.toNat_natCast, Int.toNat_natCast, Int.toNat_natCast]
  rw [unb_yes hT, hq, b2, b3, hdd]
/-- What is taken is a block. -/
theorem taken_block {s : ByteArray} (h : Taken s) : ∃ (x y z : Nat) (d : ByteArray), x < 65536 ∧ y < 256 ∧ z < 256 ∧ d.size ≤ 23 ∧ s = strB (blockL x y z d) := by
  obtain ⟨h1, h2, h3⟩ := h
  have l0 := byt_lt s 0
  have l1 := byt_lt s 1
  by_cases hr : rightB (rdSeq s : Nat) (byt s 2 : Nat) (byt s 3 : Nat) (rdData s).size = true
  · rw [blockR, if_pos hr, Int.toNat_natCast, Int.toNat_natCast, Int.toNat_natCast] at h3
    refine ⟨rdSeq s, byt s 2, byt s 3, rdData s, by unfold rdSeq; omega, byt_lt s 2, byt_lt s 3, ?_, (congrArg Prod.fst h3).symm⟩
    have : RightP (rdSeq s : Nat) (byt s 2 : Nat) (byt s 3 : Nat) (rdData s).size := of_decide_eq_true hr
    unfold RightP at this
    omega
  · rw [blockR, if_neg hr] at h3
    have := congrArg Prod.snd h3
    cases this
/-- A block that is spoilt within a window is none. -/
theorem turned {x y z x' y' z' : Nat} {d d' : ByteArray} (h0 : x < 65536) (h1 : y < 256) (h2 : z < 256) (hd : d.size ≤ 23) (h0' : x' < 65536) (h1' : y' < 256) (h2' : z' < 256) (hd' : d'.size ≤ 23) {f : Nat}
    (hf : f + 4 ≤ 28 ∨ f = 28) (hW : Win (blockL x y z d) (blockL x' y' z' d') f 4) : blockL x' y' z' d' = blockL x y z d := by
  have hl := bodyL_length (sq := x) (pt := y) (ps := z) hd
  have hl' := bodyL_length (sq := x') (pt := y') (ps := z') hd'
  have hlt := bodyL_lt h0 h1 h2 hd
  have hlt' := bodyL_lt h0' h1' h2' hd'
  unfold blockL at hW ⊢
  generalize bodyL x y z d = B at *
  generalize bodyL x' y' z' d' = B' at *
  have hB : ∀ j, j < 28 → (j < f ∨ f + 4 ≤ j) → B'[j]? = B[j]? := fun j hj ho => by
    have := hW.out j ho
    rwa [List.getElem?_append_left (by omega), List.getElem?_append_left (by omega)] at this
  rcases hf with hf | hf
  · have hN : bytesN (extN 0 B') = bytesN (extN 0 B) := by
      apply List.ext_getElem?
      intro j
      by_cases hj : j < 4
      · have := hW.out (28 + j) (by omega)
        rwa [List.getElem?_append_right (by omega), List.getElem?_append_right (by omega), hl, hl', show 28 + j - 28 = j by omega] at this
      · rw [List.getElem?_eq_none (show (bytesN (extN 0 B')).length ≤ j by show 4 ≤ j; omega), List.getElem?_eq_none (show (bytesN (extN 0 B)).length ≤ j by show 4 ≤ j; omega)]
    have he := bytesN_inj (extN_lt _ _) (extN_lt _ _) hN
    have hs : (strB B).size = 28 := by rw [strB_size, hl]
    have ht : txt (strB B) = B := txt_strB hlt
    have := win_tells (s := strB B) (m := 0) (f := f) (i := 4) (L := B') ⟨by rw [List.replicate_zero, List.append_nil, ht, hl, hl'], hlt', fun j ho => by
      rw [List.replicate_zero, List.append_nil, ht]
      by_cases hj : j < 28
      · exact hB j hj ho
      · rw [List.getElem?_eq_none (by omega), List.getElem?_eq_none (by omega)]⟩ (by omega) (by omega) (by rw [hs, ht, ← hl', List.take_length]; exact he)
    rw [hs, ht, ← hl', List.take_length] at this
    rw [this]
  · have : B' = B := by
      apply List.ext_getElem?
      intro j
      by_cases hj : j < 28
      · exact hB j hj (by omega)
      · rw [List.getElem?_eq_none (by omega), List.getElem?_eq_none (by omega)]
    rw [this]
end Go.Proofs.Ytphnpchblkpjhaa
