/- What is read was written so; no strict beginning is taken: plain laws. -/
import Derived.Test.YtlbdnkkaacccoaaWireLaw
namespace Go.Proofs.Ytlbdnkkaacccoaa
set_option linter.unusedVariables false
set_option linter.unusedSimpArgs false
set_option maxRecDepth 100000
open SL Go.RowKit Go.Maps
theorem rd_tk {T : List Bool} {W n : Nat} {p : Nat × Nat} (h : tk T W n = some p) : T.drop n = bitsOf W p.1 ++ T.drop p.2 := by
  unfold tk at h
  split at h
  · rename_i hw
    cases h
    have hl : ((T.drop n).take W).length = W := by rw [List.length_take, List.length_drop]; omega
    have hb := bitsOf_num ((T.drop n).take W)
    rw [hl] at hb
    dsimp only
    rw [hb, ← List.drop_drop, List.take_append_drop]
  · cases h
theorem rd_key {T : List Bool} {n : Nat} {p : (Int × Int) × Nat} (h : tkKey T n = some p) : T.drop n = kBits p.1.1 p.1.2 ++ T.drop p.2 := by
  unfold tkKey at h
  obtain ⟨a, h1, h⟩ := bind_some h
  obtain ⟨b, h2, rfl⟩ := map_some h
  rw [rd_tk h1, rd_tk h2]
  simp [kBits]
theorem rd_box {T : List Bool} {n : Nat} {p : Bx × Nat} (h : tkBox T n = some p) : T.drop n = bBits p.1 ++ T.drop p.2 := by
  unfold tkBox at h
  obtain ⟨a, h1, h⟩ := bind_some h
  obtain ⟨b, h2, rfl⟩ := map_some h
  rw [rd_key h1, rd_key h2]
  simp [bBits]
theorem rd_seat {T : List Bool} {n : Nat} {p : Seat × Nat} (h : tkSeat T n = some p) : T.drop n = sBits p.1 ++ T.drop p.2 := by
  unfold tkSeat at h
  obtain ⟨a, h1, h⟩ := bind_some h
  obtain ⟨b, h2, rfl⟩ := map_some h
  rw [rd_tk h1, rd_tk h2]
  simp [sBits]
theorem rd_item {T : List Bool} {n : Nat} {p : Item × Nat} (h : tkItem T n = some p) : T.drop n = iBits p.1 ++ T.drop p.2 := by
  unfold tkItem at h
  obtain ⟨a, h1, h⟩ := bind_some h
  obtain ⟨b, h2, h⟩ := bind_some h
  obtain ⟨c, h3, rfl⟩ := map_some h
  rw [rd_tk h1, rd_tk h2, rd_box h3]
  simp [iBits]
theorem rd_list {α : Type} {T : List Bool} {f : Nat → Option (α × Nat)} {g : α → List Bool} (hf : ∀ n p, f n = some p → T.drop n = g p.1 ++ T.drop p.2) : ∀ (k n : Nat) (p : List α × Nat), tkList f k n = some p → p.1.length = k ∧ T.drop n = p.1.flatMap g ++ T.drop p.2
  | 0, n, p, h => by cases h; exact ⟨rfl, rfl⟩
  | k + 1, n, p, h => by
    replace h : (tkList f k n).bind (fun p => (f p.2).map fun q => (p.1 ++ [q.1], q.2)) = some p := h
    obtain ⟨a, h1, h⟩ := bind_some h
    obtain ⟨b, h2, rfl⟩ := map_some h
    obtain ⟨i1, i2⟩ := rd_list hf k n a h1
    refine ⟨by simp [i1], ?_⟩
    rw [i2, hf _ _ h2]
    simp
theorem rd_seats {T : List Bool} {n : Nat} {p : List Seat × Nat} (h : tkSeats T n = some p) : T.drop n = ssBits p.1 ++ T.drop p.2 := by
  unfold tkSeats at h
  obtain ⟨a, h1, h⟩ := bind_some h
  obtain ⟨h2, h3⟩ := rd_list (fun n p h => rd_seat h) _ _ _ h
  rw [rd_tk h1, h3]
  simp [ssBits, h2]
theorem list3 {α : Type} {l : List α} (h : l.length = 3) (d : α) : [l.getD 0 d, l.getD 1 d, l.getD 2 d] = l := by
  match l, h with
  | [a, b, c], _ => rfl
theorem num8_lt {T : List Bool} : ∀ (k n : Nat) (p : List Nat × Nat), tkList (tk T 8) k n = some p → ∀ v ∈ p.1, v < 256
  | 0, n, p, h => by cases h; intro v hv; cases hv
  | k + 1, n, p, h => by
    replace h : (tkList (tk T 8) k n).bind (fun p => (tk T 8 p.2).map fun q => (p.1 ++ [q.1], q.2)) = some p := h
    obtain ⟨a, h1, h⟩ := bind_some h
    obtain ⟨b, h2, rfl⟩ := map_some h
    intro v hv
    rcases List.mem_append.1 hv with hv | hv
    · exact num8_lt k n a h1 v hv
    · simp at hv; subst hv; exact (tk_lt h2).1
/-- What is read is what would be written. -/
theorem rd_msg {T : List Bool} {p : Msg × Nat} (h : tkMsg T = some p) : T = mBits p.1 ++ T.drop p.2 ∧ p.2 ≤ T.length := by
  unfold tkMsg at h
  obtain ⟨k, hk, h⟩ := bind_some h
  have hn := tk_le hk (Nat.zero_le _)
  have hk4 : k.1 < 4 := (tk_lt hk).1
  have h0 := rd_tk hk
  rw [List.drop_zero] at h0
  split at h
  · rename_i hk0
    obtain ⟨x, hx, rfl⟩ := map_some h
    have hle := tkRk_le hx hn
    unfold tkRk at hx
    obtain ⟨a, h1, hx⟩ := bind_some hx
    obtain ⟨b, h2, hx⟩ := bind_some hx
    obtain ⟨c, h3, hx⟩ := bind_some hx
    obtain ⟨d, h4, hx⟩ := bind_some hx
    obtain ⟨e, h5, rfl⟩ := map_some hx
    obtain ⟨h6, h7⟩ := rd_list (fun n p h => rd_item h) _ _ _ h5
    refine ⟨?_, hle⟩
    rw [rd_tk h1, rd_seats h2, rd_seats h3, rd_tk h4, h7] at h0
    refine h0.trans ?_
    rw [hk0]
    show _ = bitsOf 2 0 ++ restBits _ ++ _
    unfold restBits
    rw [if_pos rfl]
    simp [isBits, h6]
  · split at h
    · rename_i hk0
      obtain ⟨a, h1, h⟩ := bind_some h
      obtain ⟨b, h2, rfl⟩ := map_some h
      refine ⟨?_, tk_le h2 (tk_le h1 hn)⟩
      rw [rd_tk h1, rd_tk h2] at h0
      refine h0.trans ?_
      rw [hk0]
      show _ = bitsOf 2 1 ++ restBits _ ++ _
      unfold restBits
      rw [if_neg (show ¬ (2 : Int) = 1 by decide), if_pos rfl]
      simp
    · split at h
      · rename_i hk0
        obtain ⟨x, hx, rfl⟩ := map_some h
        have hle := tkRp_le hx hn
        unfold tkRp at hx
        obtain ⟨a, h1, hx⟩ := bind_some hx
        obtain ⟨b, h2, hx⟩ := bind_some hx
        obtain ⟨c, h3, hx⟩ := bind_some hx
        obtain ⟨e, h5, rfl⟩ := map_some hx
        obtain ⟨h6, h7⟩ := rd_list (fun n p h => rd_box h) _ _ _ h5
        refine ⟨?_, hle⟩
        rw [rd_tk h1, rd_tk h2, rd_tk h3, h7, ← list3 h6 zb] at h0
        refine h0.trans ?_
        rw [hk0]
        show _ = bitsOf 2 2 ++ restBits _ ++ _
        unfold restBits
        rw [if_neg (show ¬ (3 : Int) = 1 by decide), if_neg (show ¬ (3 : Int) = 2 by decide), if_pos rfl]
        simp
      · obtain ⟨x, hx, rfl⟩ := map_some h
        have hle := tkSe_le hx hn
        unfold tkSe at hx
        obtain ⟨a, h1, hx⟩ := bind_some hx
        obtain ⟨b, h2, hx⟩ := bind_some hx
        obtain ⟨c, h3, hx⟩ := bind_some hx
        obtain ⟨e, h5, rfl⟩ := map_some hx
        obtain ⟨h6, h7⟩ := rd_list (fun n p h => rd_tk h) _ _ _ h5
        have h8 := num8_lt _ _ _ h5
        refine ⟨?_, hle⟩
        rw [rd_tk h1, rd_key h2, rd_tk h3, h7] at h0
        refine h0.trans ?_
        rw [show k.1 = 3 by omega]
        show _ = bitsOf 2 3 ++ restBits _ ++ _
        unfold restBits
        rw [if_neg (show ¬ (4 : Int) = 1 by decide), if_neg (show ¬ (4 : Int) = 2 by decide), if_neg (show ¬ (4 : Int) = 3 by decide)]
        simp [strB_size, h6, txt_strB h8]
/-- A text that is taken is its message's. -/
theorem enc_dec {t : ByteArray} {x : Msg} (h : decV t = (x, 0)) : goodB x = true ∧ strB (packB (mBits x)) = t := by
  unfold decV at h
  cases hc : (rdRes (Tb t)).2 && goodB (rdRes (Tb t)).1 with
  | false => rw [hc] at h; simp at h
  | true =>
    rw [hc] at h
    simp only [if_true, Prod.mk.injEq, and_true] at h
    rw [Bool.and_eq_true] at hc
    unfold rdRes at hc h
    cases hm : tkMsg (Tb t) with
    | none => rw [hm] at hc; simp at hc
    | some p =>
      rw [hm] at hc h
      dsimp only at hc h
      subst h
      obtain ⟨h1, h2⟩ := rd_msg hm
      refine ⟨hc.2, ?_⟩
      have hd := hc.1
      unfold doneB at hd
      obtain ⟨hd1, hd2⟩ := of_decide_eq_true hd
      have hR : (Tb t).drop p.2 = List.replicate ((Tb t).length - p.2) false := List.eq_replicate_iff.2 ⟨List.length_drop, num_zero.1 hd2⟩
      have hlen : (mBits p.1).length + ((Tb t).length - p.2) = (Tb t).length := by
        have := congrArg List.length h1
        rw [List.length_append, List.length_drop] at this
        omega
      have h8 := Tb_length t
      have hpad : (Tb t).length - p.2 = padN (mBits p.1) := by unfold padN; omega
      rw [hR, hpad] at h1
      have := packB_pad (mBits p.1)
      rw [show mBits p.1 ++ List.replicate (8 * (((mBits p.1).length + 7) / 8) - (mBits p.1).length) false = Tb t from h1.symm] at this
      rw [← this, packB_textBits _ (txt_lt t), strB_txt]
theorem dec_bad {t : ByteArray} (h : (decV t).2 ≠ 0) : decV t = (zMsg, 13) := by
  unfold decV at h ⊢
  split
  · rename_i hc; rw [if_pos hc] at h; exact absurd rfl h
  · rfl
abbrev encT (m : Msg) : ByteArray := strB (packB (mBits m))
/-- Of two right messages' texts none is a beginning of the other, but if they are the same. -/
theorem front_same {m x : Msg} (hm : goodB m = true) (hx : goodB x = true) {R : List Nat} (h : txt (encT m) = txt (encT x) ++ R) : x = m := by
  obtain ⟨n, h1, _⟩ := msg_read hm (List.replicate (padN (mBits m)) false)
  rw [← Tb_enc] at h1
  have h2 : Tb (encT m) = mBits x ++ (List.replicate (padN (mBits x)) false ++ textBits R) := by
    show textBits (txt (encT m)) = _
    rw [h, textBits_append, ← List.append_assoc, ← Tb_enc]
  obtain ⟨n2, h3, _⟩ := msg_read hx (List.replicate (padN (mBits x)) false ++ textBits R)
  rw [h2, h3] at h1
  exact (Prod.mk.inj (Option.some.inj h1)).1
theorem enc_inj {a b : Msg} (ha : goodB a = true) (hb : goodB b = true) (h : encT a = encT b) : a = b := (front_same hb ha (R := []) (by rw [h, List.append_nil]))
/-- A strict beginning of a message's text is not taken. -/
theorem dec_front {m : Msg} (hm : goodB m = true) {t : ByteArray} {R : List Nat} (h : txt (encT m) = txt t ++ R) (hR : R ≠ []) : decV t = (zMsg, 13) := by
  refine dec_bad fun h0 => ?_
  obtain ⟨x, hx⟩ : ∃ x, decV t = (x, 0) := ⟨(decV t).1, Prod.ext rfl h0⟩
  obtain ⟨h1, h2⟩ := enc_dec hx
  rw [← h2] at h
  have := front_same hm h1 h
  subst this
  have := congrArg List.length h
  rw [List.length_append] at this
  dsimp only [encT] at this
  exact hR (List.eq_nil_of_length_eq_zero (by omega))
/-- Nor one with more behind it. -/
theorem dec_more {m : Msg} (hm : goodB m = true) {t : ByteArray} {R : List Nat} (h : txt t = txt (encT m) ++ R) (hR : R ≠ []) : decV t = (zMsg, 13) := by
  refine dec_bad fun h0 => ?_
  obtain ⟨x, hx⟩ : ∃ x, decV t = (x, 0) := ⟨(decV t).1, Prod.ext rfl h0⟩
  obtain ⟨h1, h2⟩ := enc_dec hx
  rw [← h2] at h
  have := front_same h1 hm h
  subst this
  have := congrArg List.length h
  rw [List.length_append] at this
  dsimp only [encT] at this
  exact hR (List.eq_nil_of_length_eq_zero (by omega))
theorem encV_good {m : Msg} (h : goodB m = true) : encV m = (encT m, 0) := by unfold encV; rw [if_pos h]
theorem encV_bad {m : Msg} (h : goodB m = false) : encV m = (⟨#[]⟩, 13) := by unfold encV; rw [if_neg (by simp [h])]
end Go.Proofs.Ytlbdnkkaacccoaa
