/- Texts that differ within a window. -/
import Derived.Test.YtphnpchblkpjhaaSum1
namespace Go.Proofs.Ytphnpchblkpjhaa
set_option linter.unusedVariables false
set_option linter.unusedSimpArgs false
set_option maxRecDepth 100000
open SL Go.RowKit Go.Maps

/-- What the window may turn. -/
structure Win (T L : List Nat) (from_ i : Nat) : Prop where
  len : L.length = T.length
  lt : ∀ x ∈ L, x < 256
  out : ∀ j, j < from_ ∨ from_ + i ≤ j → L[j]? = T[j]?
theorem Win.set {T L : List Nat} {f i x : Nat} (h : Win T L f i) (hx : x < 256) : Win T (L.set (f + i) x) f (i + 1) :=
  ⟨by rw [List.length_set]; exact h.len, fun y hy => (List.mem_or_eq_of_mem_set hy).elim (h.lt y) (fun e => e ▸ hx), fun j hj => by rw [List.getElem?_set_ne (by omega)]; exact h.out j (by omega)⟩
theorem win_tells {s : ByteArray} {m f i : Nat} {L : List Nat} (h : Win (txt s ++ List.replicate m 0) L f i) (h4 : i ≤ 4) (hi : f + i ≤ s.size) (he : extN 0 (L.take s.size) = extN 0 (txt s)) : L.take s.size = txt s := by
  have hl := txt_length s
  have hn : L.length = s.size + m := by rw [h.len]; simp [hl]
  have hT : ∀ j, j < s.size → (txt s ++ List.replicate m 0)[j]? = (txt s)[j]? := fun j hj => List.getElem?_append_left (by omega)
  have e1 : L.take s.size = L.take f ++ (L.drop f).take i ++ ((L.take s.size).drop (f + i)) := by
    conv => lhs; rw [← List.take_append_drop (f + i) (L.take s.size)]
    rw [List.take_take, Nat.min_eq_left hi, List.take_add]
  have e2 : txt s = (txt s).take f ++ ((txt s).drop f).take i ++ ((txt s).drop (f + i)) := by
    conv => lhs; rw [← List.take_append_drop (f + i) (txt s)]
    rw [List.take_add]
  have p : L.take f = (txt s).take f := by
    apply List.ext_getElem?
    intro j
    simp only [List.getElem?_take]
    split
    · rw [h.out j (by omega), hT j (by omega)]
    · rfl
  have q : (L.take s.size).drop (f + i) = (txt s).drop (f + i) := by
    apply List.ext_getElem?
    intro j
    rw [List.getElem?_drop, List.getElem?_drop, List.getElem?_take]
    split
    · rw [h.out _ (by omega), hT _ (by omega)]
    · rw [List.getElem?_eq_none (by omega)]
  have lt := txt_lt s
  have w : (L.drop f).take i = ((txt s).drop f).take i := by
    have hcl : crc 4294967295 (L.take s.size) < 4294967296 := crc_lt _ _ (fun x hx => h.lt x (List.mem_of_mem_take hx)) (by decide)
    have hcr : crc 4294967295 (txt s) < 4294967296 := crc_lt _ _ lt (by decide)
    have hc : crc 4294967295 (L.take s.size) = crc 4294967295 (txt s) := by
      unfold extN at he
      rw [Nat.sub_zero] at he
      generalize crc 4294967295 (L.take s.size) = x at he hcl ⊢
      generalize crc 4294967295 (txt s) = y at he hcr ⊢
      omega
    rw [e1, e2, p, q] at hc
    exact crc_tells (fun x hx => lt x (List.mem_of_mem_take hx)) (fun x hx => h.lt x (List.mem_of_mem_drop (List.mem_of_mem_take hx))) (fun x hx => lt x (List.mem_of_mem_drop (List.mem_of_mem_take hx))) (fun x hx => lt x (List.mem_of_mem_drop hx)) (by simp; omega) (by simp; omega) (by decide) hc
  rw [e1, p, w, q, ← e2]
theorem putAt_byte (L : List Nat) (k x : Nat) (h : k < L.length) : putAt (bytesV L) k [.int .u8 (x : Int)] = bytesV (L.set k x) := by
  have : bytesV (L.set k x) = (bytesV L).set k (.int .u8 (x : Int)) := List.map_set
  rw [this, List.set_eq_take_append_cons_drop, if_pos (by simpa using h)]
  simp [putAt]
end Go.Proofs.Ytphnpchblkpjhaa
