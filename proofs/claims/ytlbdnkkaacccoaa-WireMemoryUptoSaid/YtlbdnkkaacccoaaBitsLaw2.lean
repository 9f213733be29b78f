/- Packing and unpacking undo one another: the plain law. -/
import Derived.Test.YtlbdnkkaacccoaaBits3
namespace Go.Proofs.Ytlbdnkkaacccoaa
set_option linter.unusedVariables false
set_option linter.unusedSimpArgs false
set_option maxRecDepth 100000
open SL Go.RowKit Go.Maps

theorem takeAll_fields (rest : List Bool) : ∀ (fs : List (Nat × Int)) (pre : List Bool), allFit fs = true → takeAll (pre ++ (fieldsBits fs ++ rest)) pre.length (fs.map (·.2)) = some (fs.map (·.1), pre.length + (fieldsBits fs).length)
  | [], pre, _ => by simp [takeAll, fieldsBits]
  | p :: fs, pre, h => by
    simp only [allFit, List.all_cons, Bool.and_eq_true] at h
    have hw := fitsB_width h.1
    have hT : pre ++ (fieldsBits (p :: fs) ++ rest) = (pre ++ bitsOf p.2.toNat p.1) ++ (fieldsBits fs ++ rest) := by simp [fieldsBits]
    have hok : takeOk (pre ++ (fieldsBits (p :: fs) ++ rest)) pre.length p.2 := by
      refine ⟨hw.1, hw.2.1, ?_⟩
      rw [hT]; simp [bitsOf_length]
    have ih := takeAll_fields rest fs (pre ++ bitsOf p.2.toNat p.1) h.2
    simp only [List.map_cons, takeAll, if_pos hok]
    have hlen : (pre ++ bitsOf p.2.toNat p.1).length = pre.length + p.2.toNat := by rw [List.length_append, bitsOf_length]
    rw [hlen] at ih
    rw [hT, ih]
    have htk : ((pre ++ bitsOf p.2.toNat p.1 ++ (fieldsBits fs ++ rest)).drop pre.length).take p.2.toNat = bitsOf p.2.toNat p.1 := by
      rw [List.append_assoc, List.drop_left, List.take_append_of_le_length (by rw [bitsOf_length]; exact Nat.le_refl _), List.take_of_length_le (by rw [bitsOf_length]; exact Nat.le_refl _)]
    rw [htk, num_bitsOf, Nat.mod_eq_of_lt hw.2.2]
    have e3 : (fieldsBits (p :: fs)).length = p.2.toNat + (fieldsBits fs).length := by simp [fieldsBits, bitsOf_length]
    rw [e3, ← Nat.add_assoc]; rfl
theorem takeAll_inv {T : List Bool} : ∀ {ws : List Int} {n : Nat} {l : List Nat} {m : Nat}, n ≤ T.length → takeAll T n ws = some (l, m) → allFit (l.zip ws) = true ∧ fieldsBits (l.zip ws) = (T.drop n).take (m - n)
  | [], n, l, m, hn, h => by simp only [takeAll, Option.some.injEq, Prod.mk.injEq] at h; obtain ⟨rfl, rfl⟩ := h; simp [allFit, fieldsBits]
  | w :: ws, n, l, m, hn, h => by
    simp only [takeAll] at h
    split at h
    · rename_i hok
      obtain ⟨p, hp, he⟩ := Option.map_eq_some_iff.1 h
      simp only [Prod.mk.injEq] at he
      obtain ⟨rfl, rfl⟩ := he
      unfold takeOk at hok
      have hp' : takeAll T (n + w.toNat) ws = some (p.1, p.2) := hp
      have ⟨h1, h2⟩ := takeAll_inv (by omega) hp'
      have ⟨_, _, h3⟩ := takeAll_le (by omega) hp'
      have hlen : ((T.drop n).take w.toNat).length = w.toNat := by rw [List.length_take, List.length_drop]; omega
      refine ⟨?_, ?_⟩
      · simp only [List.zip_cons_cons, allFit, List.all_cons, Bool.and_eq_true]
        refine ⟨decide_eq_true ⟨hok.1, hok.2.1, ?_⟩, h1⟩
        have := num_lt ((T.drop n).take w.toNat)
        rwa [hlen] at this
      · simp only [List.zip_cons_cons, fieldsBits, List.flatMap_cons] at h2 ⊢
        rw [h2]
        have hb := bitsOf_num ((T.drop n).take w.toNat)
        rw [hlen] at hb
        rw [hb, show p.2 - n = w.toNat + (p.2 - (n + w.toNat)) by omega, List.take_add, List.drop_drop]
    · cases h
theorem packB_pad (B : List Bool) : packB (B ++ List.replicate (8 * ((B.length + 7) / 8) - B.length) false) = packB B := by
  rw [← textBits_pack, packB_textBits _ (packB_lt B)]
theorem strB_lt {B : List Bool} : txt (strB (packB B)) = packB B := txt_strB (packB_lt B)
/-- What is packed is unpacked. -/
theorem unpack_pack {fs : List (Nat × Int)} (h : allFit fs = true) : unpackB (textBits (txt (packR fs).1)) (fs.map (·.2)) = some (fs.map (·.1)) := by
  have e : (packR fs).1 = strB (packB (fieldsBits fs)) := by unfold packR; rw [if_pos h]
  rw [e, strB_lt, textBits_pack]
  unfold unpackB
  have := takeAll_fields (List.replicate (8 * (((fieldsBits fs).length + 7) / 8) - (fieldsBits fs).length) false) fs [] h
  simp only [List.nil_append, List.length_nil, Nat.zero_add] at this
  rw [this]
  simp only
  have hd : doneB (fieldsBits fs ++ List.replicate (8 * (((fieldsBits fs).length + 7) / 8) - (fieldsBits fs).length) false) (fieldsBits fs).length = true := by
    unfold doneB
    refine decide_eq_true ⟨by rw [List.length_append, List.length_replicate]; omega, ?_⟩
    rw [List.drop_left]
    exact num_zero.2 fun b hb => (List.mem_replicate.1 hb).2
  rw [hd]; rfl
/-- A byte more is too much. -/
theorem unpack_more {fs : List (Nat × Int)} (h : allFit fs = true) : unpackB (textBits (txt ((packR fs).1 ++ ⟨#[0]⟩))) (fs.map (·.2)) = none := by
  have e : (packR fs).1 = strB (packB (fieldsBits fs)) := by unfold packR; rw [if_pos h]
  have e2 : (⟨#[0]⟩ : ByteArray) = strB [0] := rfl
  rw [e, txt_append, strB_lt, e2, txt_strB (by simp), textBits_append, textBits_pack, List.append_assoc]
  unfold unpackB
  have := takeAll_fields (List.replicate (8 * (((fieldsBits fs).length + 7) / 8) - (fieldsBits fs).length) false ++ textBits [0]) fs [] h
  simp only [List.nil_append, List.length_nil, Nat.zero_add] at this
  rw [this]
  simp only
  have hd : doneB (fieldsBits fs ++ (List.replicate (8 * (((fieldsBits fs).length + 7) / 8) - (fieldsBits fs).length) false ++ textBits [0])) (fieldsBits fs).length = false := by
    unfold doneB
    refine decide_eq_false fun hh => ?_
    have := hh.1
    rw [List.length_append, List.length_append, textBits_length] at this
    simp at this
    omega
  rw [hd]; rfl
/-- What is unpacked was packed so. -/
theorem pack_unpack {s : ByteArray} {ws : List Int} {l : List Nat} (h : unpackB (textBits (txt s)) ws = some l) : l.length = ws.length ∧ packR (l.zip ws) = (s, 0) := by
  unfold unpackB at h
  split at h
  · rename_i l' n hta
    split at h
    · rename_i hd
      simp only [Option.some.injEq] at h
      subst h
      obtain ⟨h1, h2⟩ := takeAll_inv (Nat.zero_le _) hta
      obtain ⟨h3, h4, _⟩ := takeAll_le (Nat.zero_le _) hta
      refine ⟨h4, ?_⟩
      unfold packR
      rw [if_pos h1, h2, List.drop_zero, Nat.sub_zero]
      unfold doneB at hd
      obtain ⟨hd1, hd2⟩ := of_decide_eq_true hd
      have hz := num_zero.1 hd2
      have hT := textBits_length (txt s)
      have htl : ((textBits (txt s)).take n).length = n := by rw [List.length_take]; omega
      have hrep : (textBits (txt s)).drop n = List.replicate (8 * (((textBits (txt s)).take n).length + 7 ) / 8 * 0 + ((textBits (txt s)).length - n)) false := by
        refine List.eq_replicate_iff.2 ⟨by rw [List.length_drop]; omega, hz⟩
      have hpad := packB_pad ((textBits (txt s)).take n)
      rw [htl, show 8 * ((n + 7) / 8) - n = (textBits (txt s)).length - n by omega] at hpad
      have hrep2 : (textBits (txt s)).drop n = List.replicate ((textBits (txt s)).length - n) false := List.eq_replicate_iff.2 ⟨by rw [List.length_drop], hz⟩
      rw [← hrep2, List.take_append_drop, packB_textBits _ (txt_lt s)] at hpad
      rw [← hpad, strB_txt]
    · cases h
  · cases h
end Go.Proofs.Ytlbdnkkaacccoaa
