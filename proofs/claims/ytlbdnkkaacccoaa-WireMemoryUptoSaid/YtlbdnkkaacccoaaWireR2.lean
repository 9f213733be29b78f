/- The reference's Encode, whole. -/
import Derived.Test.YtlbdnkkaacccoaaWireR1
import Derived.Test.YtlbdnkkaacccoaaWire13
namespace Go.Proofs.Ytlbdnkkaacccoaa
set_option linter.unusedVariables false
set_option linter.unusedSimpArgs false
set_option maxRecDepth 100000
open SL Go.RowKit Go.Maps
def fItems (l : List Item) : FL := ((l.length : Int).toNat, 11) :: l.flatMap fItem
def restF (m : Msg) : FL :=
  if m.kind = 1 then [(m.ep.toNat, 8)] ++ (fSeats m.L ++ (fSeats m.J ++ fItems m.I))
  else if m.kind = 2 then [(m.qw.toNat, 8), (m.qe.toNat, 8)]
  else if m.kind = 3 then [(m.pw.toNat, 8), (m.ps.toNat, 6), (m.pe.toNat, 8)] ++ [m.b0, m.b1, m.b2].flatMap fBox
  else [(m.se.toNat, 8)] ++ (fKey m.sb m.ss ++ (((m.tx.size : Int).toNat, 7) :: (txt m.tx).flatMap fun c => [(c, (8 : Int))]))
def fieldsOf (m : Msg) : FL := ((m.kind - 1).toNat, 2) :: restF m
theorem fb_append (a b : FL) : fieldsBits (a ++ b) = fieldsBits a ++ fieldsBits b := by simp [fieldsBits]
theorem fb_cons (v : Nat) (w : Int) (b : FL) : fieldsBits ((v, w) :: b) = bitsOf w.toNat v ++ fieldsBits b := by simp [fieldsBits]
theorem fb_nil : fieldsBits [] = [] := rfl
theorem fb_flat {α : Type} {f : α → FL} {g : α → List Bool} (h : ∀ x, fieldsBits (f x) = g x) (l : List α) : fieldsBits (l.flatMap f) = l.flatMap g := by
  induction l with
  | nil => rfl
  | cons x l ih => rw [List.flatMap_cons, List.flatMap_cons, fb_append, h, ih]
theorem fb_key (b s : Int) : fieldsBits (fKey b s) = kBits b s := by simp [fKey, fb_cons, fb_nil, kBits]
theorem fb_box (b : Bx) : fieldsBits (fBox b) = bBits b := by rw [fBox, fb_append, fb_key, fb_key]; rfl
theorem fb_seat (b : Seat) : fieldsBits (fSeat b) = sBits b := by simp [fSeat, fb_cons, fb_nil, sBits]
theorem fb_item (b : Item) : fieldsBits (fItem b) = iBits b := by rw [fItem, fb_append, fb_box, fb_cons, fb_cons, fb_nil]; simp [iBits]
theorem fb_seats (l : List Seat) : fieldsBits (fSeats l) = ssBits l := by rw [fSeats, fb_cons, fb_flat fb_seat, Int.toNat_natCast]; rfl
theorem fb_items (l : List Item) : fieldsBits (fItems l) = isBits l := by rw [fItems, fb_cons, fb_flat fb_item, Int.toNat_natCast]; rfl
theorem fb_msg (m : Msg) : fieldsBits (fieldsOf m) = mBits m := by
  unfold fieldsOf mBits
  rw [fb_cons]
  congr 1
  unfold restF restBits
  split
  · rw [fb_append, fb_append, fb_append, fb_seats, fb_seats, fb_items, fb_cons, fb_nil]; simp
  · split
    · rw [fb_cons, fb_cons, fb_nil]; simp
    · split
      · rw [fb_append, fb_flat fb_box, fb_cons, fb_cons, fb_cons, fb_nil]; simp
      · rw [fb_append, fb_append, fb_key, fb_cons, fb_cons, fb_nil, fb_flat (f := fun c : Nat => [(c, (8 : Int))]) (g := bitsOf 8) (fun c => by rw [fb_cons, fb_nil]; simp), Int.toNat_natCast]
        simp
theorem af_append (a b : FL) : allFit (a ++ b) = (allFit a && allFit b) := by simp [allFit]
theorem af_cons {v : Nat} {W : Nat} {b : FL} (h1 : 1 ≤ W) (h2 : W ≤ 64) (h3 : v < 2 ^ W) (hb : allFit b = true) : allFit ((v, (W : Int)) :: b) = true := by
  show (fitsB v (W : Int) && allFit b) = true
  rw [fits_nat h1 h2 h3, hb]; rfl
theorem af_flat {α : Type} {f : α → FL} {ok : α → Bool} (h : ∀ x, ok x = true → allFit (f x) = true) {l : List α} (hl : l.all ok = true) : allFit (l.flatMap f) = true := by
  induction l with
  | nil => rfl
  | cons x l ih =>
    simp only [List.all_cons, Bool.and_eq_true] at hl
    rw [List.flatMap_cons, af_append, h x hl.1, ih hl.2]; rfl
theorem af_key {b s : Int} (h : keyB b s = true) : allFit (fKey b s) = true := by
  obtain ⟨h1, h2, h3, h4⟩ := keyB_spec h
  exact af_cons (W := 16) (by omega) (by omega) (show _ < 65536 by omega) (af_cons (W := 8) (by omega) (by omega) (show _ < 256 by omega) rfl)
theorem af_box {b : Bx} (h : bxB b = true) : allFit (fBox b) = true := by
  have hk' : keyB b.1 b.2.1 = true ∧ keyB b.2.2.1 b.2.2.2 = true := by simpa [bxB] using h
  rw [fBox, af_append, af_key hk'.1, af_key hk'.2]; rfl
theorem af_seat {b : Seat} (h : seatB b = true) : allFit (fSeat b) = true := by
  have hk' : btw b.1 0 255 = true ∧ btw b.2 0 63 = true := by simpa [seatB] using h
  obtain ⟨p0, p1⟩ := btw_spec hk'.1
  obtain ⟨q0, q1⟩ := btw_spec hk'.2
  exact af_cons (W := 8) (by omega) (by omega) (show _ < 256 by omega) (af_cons (W := 6) (by omega) (by omega) (show _ < 64 by omega) rfl)
theorem af_item {b : Item} (h : itemB b = true) : allFit (fItem b) = true := by
  obtain ⟨⟨p0, p1⟩, ⟨q0, q1⟩, hb⟩ := item_spec h
  rw [fItem, af_append, af_box hb]
  rw [show allFit [(b.1.toNat, (5 : Int)), (b.2.1.toNat, 7)] = true from af_cons (W := 5) (by omega) (by omega) (show _ < 32 by omega) (af_cons (W := 7) (by omega) (by omega) (show _ < 128 by omega) rfl)]; rfl
theorem af_msg {m : Msg} (hg : goodB m = true) : allFit (fieldsOf m) = true := by
  unfold fieldsOf
  rcases good_cases hg with ⟨hk, h1, h2, h3, h4⟩ | ⟨hk, h1, h2, h3, h4⟩ | ⟨hk, h1, h2, h3, h4⟩ | ⟨hk, h1, h2, h3, h4⟩
  · simp only [gRk, Bool.and_eq_true, decide_eq_true_eq] at h1
    obtain ⟨⟨⟨q1, q2, q3⟩, q4, q5⟩, q6, q7⟩ := h1
    obtain ⟨q8, q9⟩ := btw_spec q1
    refine af_cons (W := 2) (by omega) (by omega) (show _ < 4 by omega) ?_
    unfold restF fSeats fItems
    rw [if_pos hk, af_append, af_append, af_append]
    rw [show allFit [(m.ep.toNat, (8 : Int))] = true from af_cons (W := 8) (by omega) (by omega) (show _ < 256 by omega) rfl,
      show allFit (((m.L.length : Int).toNat, (7 : Int)) :: m.L.flatMap fSeat) = true from af_cons (W := 7) (by omega) (by omega) (show _ < 128 by omega) (af_flat (fun x h => af_seat h) q2),
      show allFit (((m.J.length : Int).toNat, (7 : Int)) :: m.J.flatMap fSeat) = true from af_cons (W := 7) (by omega) (by omega) (show _ < 128 by omega) (af_flat (fun x h => af_seat h) q4),
      show allFit (((m.I.length : Int).toNat, (11 : Int)) :: m.I.flatMap fItem) = true from af_cons (W := 11) (by omega) (by omega) (show _ < 2048 by omega) (af_flat (fun x h => af_item h) q6)]
    rfl
  · simp only [gRq, seatB, Bool.and_eq_true] at h2
    obtain ⟨⟨q1, _⟩, q2⟩ := h2
    obtain ⟨q3, q4⟩ := btw_spec q1
    obtain ⟨q5, q6⟩ := btw_spec q2
    refine af_cons (W := 2) (by omega) (by omega) (show _ < 4 by omega) ?_
    unfold restF
    rw [if_neg (by omega), if_pos hk]
    exact af_cons (W := 8) (by omega) (by omega) (show _ < 256 by omega) (af_cons (W := 8) (by omega) (by omega) (show _ < 256 by omega) rfl)
  · simp only [gRp, seatB, Bool.and_eq_true] at h3
    obtain ⟨⟨⟨q1, q2⟩, q3⟩, q4⟩ := h3
    obtain ⟨q5, q6⟩ := btw_spec q1
    obtain ⟨q7, q8⟩ := btw_spec q2
    obtain ⟨q9, q10⟩ := btw_spec q3
    refine af_cons (W := 2) (by omega) (by omega) (show _ < 4 by omega) ?_
    unfold restF
    rw [if_neg (by omega), if_neg (by omega), if_pos hk, af_append, af_flat (fun x h => af_box h) q4]
    rw [show allFit [(m.pw.toNat, (8 : Int)), (m.ps.toNat, 6), (m.pe.toNat, 8)] = true from af_cons (W := 8) (by omega) (by omega) (show _ < 256 by omega) (af_cons (W := 6) (by omega) (by omega) (show _ < 64 by omega) (af_cons (W := 8) (by omega) (by omega) (show _ < 256 by omega) rfl))]
    rfl
  · simp only [gSe, Bool.and_eq_true, decide_eq_true_eq] at h4
    obtain ⟨⟨q1, q2⟩, q3⟩ := h4
    obtain ⟨q5, q6⟩ := btw_spec q1
    refine af_cons (W := 2) (by omega) (by omega) (show _ < 4 by omega) ?_
    unfold restF
    rw [if_neg (by omega), if_neg (by omega), if_neg (by omega), af_append, af_append, af_key q2]
    rw [show allFit [(m.se.toNat, (8 : Int))] = true from af_cons (W := 8) (by omega) (by omega) (show _ < 256 by omega) rfl,
      show allFit (((m.tx.size : Int).toNat, (7 : Int)) :: (txt m.tx).flatMap fun c => [(c, (8 : Int))]) = true from af_cons (W := 7) (by omega) (by omega) (show _ < 128 by omega) (af_flat (ok := fun v => decide (v < 256)) (fun x h => af_cons (W := 8) (by omega) (by omega) (of_decide_eq_true h) rfl) (List.all_eq_true.2 fun v hv => decide_eq_true (txt_lt m.tx v hv)))]
    rfl
theorem pack_msg {m : Msg} (hg : goodB m = true) : packR (fieldsOf m) = (encT m, 0) := by
  unfold packR
  rw [if_pos (af_msg hg), fb_msg]
theorem u64_of_fit {fs : FL} (h : allFit fs = true) : U64s fs := by
  intro p hp
  have := List.all_eq_true.1 h p hp
  obtain ⟨h1, h2, h3⟩ := fitsB_width this
  exact u64_nat (W := p.2.toNat) (by omega) h3
theorem fields_len {m : Msg} (hg : goodB m = true) : (fieldsOf m).length ≤ 100000 := by
  unfold fieldsOf restF
  rw [List.length_cons]
  rcases good_cases hg with ⟨hk, h1, h2, h3, h4⟩ | ⟨hk, h1, h2, h3, h4⟩ | ⟨hk, h1, h2, h3, h4⟩ | ⟨hk, h1, h2, h3, h4⟩
  · simp only [gRk, Bool.and_eq_true, decide_eq_true_eq] at h1
    obtain ⟨⟨⟨q1, q2, q3⟩, q4, q5⟩, q6, q7⟩ := h1
    rw [if_pos hk]
    simp only [List.length_append, List.length_cons, List.length_nil, fSeats, fItems, flatF_length fSeat_length, flatF_length fItem_length]
    omega
  · rw [if_neg (by omega), if_pos hk]; simp
  · rw [if_neg (by omega), if_neg (by omega), if_pos hk]; simp [fBox_length]
  · simp only [gSe, Bool.and_eq_true, decide_eq_true_eq] at h4
    have := txt_length m.tx
    rw [if_neg (by omega), if_neg (by omega), if_neg (by omega)]
    simp only [List.length_append, List.length_cons, List.length_nil, fKey_length, flatF_length (f := fun c : Nat => [(c, (8 : Int))]) (n := 1) (fun _ => rfl)]
    omega
end Go.Proofs.Ytlbdnkkaacccoaa
