/- What is written is read back, and what is read was written so: plain laws. -/
import Derived.Test.YtlbdnkkaacccoaaWire9
import Derived.Test.YtlbdnkkaacccoaaBitsLaw2
namespace Go.Proofs.Ytlbdnkkaacccoaa
set_option linter.unusedVariables false
set_option linter.unusedSimpArgs false
set_option maxRecDepth 100000
open SL Go.RowKit Go.Maps
/-- At this place these bits stand. -/
structure At (T : List Bool) (n : Nat) (B : List Bool) : Prop where
  le : n ≤ T.length
  eq : T.drop n = B
theorem at_tk {T : List Bool} {n W v : Nat} {R : List Bool} (h : At T n (bitsOf W v ++ R)) (hv : v < 2 ^ W) : tk T W n = some (v, n + W) ∧ At T (n + W) R := by
  have hl : (T.drop n).length = W + R.length := by rw [h.eq, List.length_append, bitsOf_length]
  rw [List.length_drop] at hl
  have h1 : tk T W n = some (num ((T.drop n).take W), n + W) := by unfold tk; exact if_pos (by omega)
  rw [h.eq, List.take_left' (bitsOf_length W v), num_bitsOf, Nat.mod_eq_of_lt hv] at h1
  refine ⟨h1, by have := h.le; omega, ?_⟩
  rw [← List.drop_drop, h.eq, List.drop_left' (bitsOf_length W v)]
theorem at_key {T : List Bool} {n : Nat} {b s : Int} {R : List Bool} (h : At T n (kBits b s ++ R)) (hk : keyB b s = true) : ∃ n', tkKey T n = some ((b, s), n') ∧ At T n' R := by
  obtain ⟨h1, h2, h3, h4⟩ := keyB_spec hk
  unfold kBits at h
  rw [List.append_assoc] at h
  obtain ⟨t1, a1⟩ := at_tk h (show b.toNat < 65536 by omega)
  obtain ⟨t2, a2⟩ := at_tk a1 (show s.toNat < 256 by omega)
  refine ⟨_, ?_, a2⟩
  unfold tkKey
  rw [t1]
  show (tk T 8 (n + 16)).map _ = _
  rw [t2]
  show some (((b.toNat : Int), (s.toNat : Int)), n + 16 + 8) = _
  rw [Int.toNat_of_nonneg (by omega), Int.toNat_of_nonneg h3]
theorem at_box {T : List Bool} {n : Nat} {b : Bx} {R : List Bool} (h : At T n (bBits b ++ R)) (hk : bxB b = true) : ∃ n', tkBox T n = some (b, n') ∧ At T n' R := by
  have hk' : keyB b.1 b.2.1 = true ∧ keyB b.2.2.1 b.2.2.2 = true := by simpa [bxB] using hk
  unfold bBits at h
  rw [List.append_assoc] at h
  obtain ⟨n1, t1, a1⟩ := at_key h hk'.1
  obtain ⟨n2, t2, a2⟩ := at_key a1 hk'.2
  refine ⟨n2, ?_, a2⟩
  unfold tkBox
  rw [t1]
  show (tkKey T n1).map _ = _
  rw [t2]
  rfl
theorem at_seat {T : List Bool} {n : Nat} {b : Seat} {R : List Bool} (h : At T n (sBits b ++ R)) (hk : seatB b = true) : ∃ n', tkSeat T n = some (b, n') ∧ At T n' R := by
  have hk' : btw b.1 0 255 = true ∧ btw b.2 0 63 = true := by simpa [seatB] using hk
  obtain ⟨p0, p1⟩ := btw_spec hk'.1
  obtain ⟨q0, q1⟩ := btw_spec hk'.2
  unfold sBits at h
  rw [List.append_assoc] at h
  obtain ⟨t1, a1⟩ := at_tk h (show b.1.toNat < 256 by omega)
  obtain ⟨t2, a2⟩ := at_tk a1 (show b.2.toNat < 64 by omega)
  refine ⟨_, ?_, a2⟩
  unfold tkSeat
  rw [t1]
  show (tk T 6 (n + 8)).map _ = _
  rw [t2]
  show some (((b.1.toNat : Int), (b.2.toNat : Int)), n + 8 + 6) = _
  rw [Int.toNat_of_nonneg p0, Int.toNat_of_nonneg q0]
theorem item_spec {x : Item} (h : itemB x = true) : (0 ≤ x.1 ∧ x.1 ≤ 20) ∧ (0 ≤ x.2.1 ∧ x.2.1 < 85) ∧ bxB x.2.2 = true := by
  have hsx : ((btw x.1 0 20 = true ∧ (x.2.1 != x.1) = true) ∧ isBelow x.1 x.2.1 = true) ∧ bxB x.2.2 = true := by simpa only [itemB, Bool.and_eq_true] using h
  obtain ⟨⟨⟨p1, _⟩, p2⟩, p3⟩ := hsx
  refine ⟨btw_spec p1, ?_, p3⟩
  simp only [isBelow, Bool.and_eq_true] at p2
  exact (nodeB_iff _).1 p2.1.2
theorem at_item {T : List Bool} {n : Nat} {b : Item} {R : List Bool} (h : At T n (iBits b ++ R)) (hk : itemB b = true) : ∃ n', tkItem T n = some (b, n') ∧ At T n' R := by
  obtain ⟨⟨p0, p1⟩, ⟨q0, q1⟩, hb⟩ := item_spec hk
  unfold iBits at h
  simp only [List.append_assoc] at h
  obtain ⟨t1, a1⟩ := at_tk h (show b.1.toNat < 32 by omega)
  obtain ⟨t2, a2⟩ := at_tk a1 (show b.2.1.toNat < 128 by omega)
  obtain ⟨n3, t3, a3⟩ := at_box a2 hb
  refine ⟨n3, ?_, a3⟩
  unfold tkItem
  rw [t1]
  show (tk T 7 (n + 5)).bind _ = _
  rw [t2]
  show (tkBox T (n + 5 + 7)).map _ = _
  rw [t3]
  show some (((b.1.toNat : Int), (b.2.1.toNat : Int), b.2.2), n3) = _
  rw [Int.toNat_of_nonneg p0, Int.toNat_of_nonneg q0]
theorem at_list {α : Type} {T : List Bool} {f : Nat → Option (α × Nat)} {g : α → List Bool} {ok : α → Bool} (hf : ∀ n x R, At T n (g x ++ R) → ok x = true → ∃ n', f n = some (x, n') ∧ At T n' R) {n : Nat} {l : List α} {R : List Bool} (h : At T n (l.flatMap g ++ R)) (hl : l.all ok = true) : ∃ n', tkList f l.length n = some (l, n') ∧ At T n' R := by
  have key : ∀ k, k ≤ l.length → ∃ n', tkList f k n = some (l.take k, n') ∧ At T n' ((l.drop k).flatMap g ++ R) := by
    intro k
    induction k with
    | zero => intro _; exact ⟨n, rfl, by simpa using h⟩
    | succ k ih =>
      intro hk
      obtain ⟨n1, t1, a1⟩ := ih (by omega)
      have hkl : k < l.length := by omega
      rw [List.drop_eq_getElem_cons hkl, List.flatMap_cons, List.append_assoc] at a1
      obtain ⟨n2, t2, a2⟩ := hf n1 l[k] _ a1 (List.all_eq_true.1 hl _ (List.getElem_mem hkl))
      refine ⟨n2, ?_, a2⟩
      rw [tkList_step t1]
      dsimp only
      rw [t2, ← List.take_append_getElem hkl]
      rfl
  obtain ⟨n', t, a⟩ := key l.length (Nat.le_refl _)
  rw [List.take_length] at t
  rw [List.drop_length] at a
  exact ⟨n', t, a⟩
theorem at_seats {T : List Bool} {n : Nat} {l : List Seat} {R : List Bool} (h : At T n (ssBits l ++ R)) (hl : l.all seatB = true) (hn : l.length ≤ 64) : ∃ n', tkSeats T n = some (l, n') ∧ At T n' R := by
  unfold ssBits at h
  rw [List.append_assoc] at h
  obtain ⟨t1, a1⟩ := at_tk h (show l.length < 128 by omega)
  obtain ⟨n2, t2, a2⟩ := at_list (fun n x R h hk => at_seat h hk) a1 hl
  exact ⟨n2, by unfold tkSeats; rw [t1]; exact t2, a2⟩
theorem e0_spec {m : Msg} (h : e0 m = true) : m.ep = 0 ∧ m.L = [] ∧ m.J = [] ∧ m.I = [] := by
  unfold e0 at h
  simp only [Bool.and_eq_true, decide_eq_true_eq] at h
  exact ⟨h.1, List.eq_nil_of_length_eq_zero (by omega), List.eq_nil_of_length_eq_zero (by omega), List.eq_nil_of_length_eq_zero (by omega)⟩
theorem e1_spec {m : Msg} (h : e1 m = true) : m.qw = 0 ∧ m.qe = 0 := by
  simpa [e1, rqV, zeros, cellsEq, vEq, List.replicate] using h
theorem bx_zero {b : Bx} (h : b.1 = 0 ∧ b.2.1 = 0 ∧ b.2.2.1 = 0 ∧ b.2.2.2 = 0) : b = zb := by
  obtain ⟨a, b, c, d⟩ := b
  obtain ⟨h1, h2, h3, h4⟩ := h
  dsimp only at h1 h2 h3 h4
  subst h1; subst h2; subst h3; subst h4; rfl
theorem e2_spec {m : Msg} (h : e2 m = true) : m.pw = 0 ∧ m.ps = 0 ∧ m.pe = 0 ∧ m.b0 = zb ∧ m.b1 = zb ∧ m.b2 = zb := by
  simp only [e2, rpV, zeros, cellsEq, vEq, List.replicate, Bool.and_eq_true, beq_iff_eq, and_true] at h
  obtain ⟨h1, h2, h3, a1, a2, a3, a4, b1, b2, b3, b4, c1, c2, c3, c4⟩ := h
  exact ⟨h1, h2, h3, bx_zero ⟨a1, a2, a3, a4⟩, bx_zero ⟨b1, b2, b3, b4⟩, bx_zero ⟨c1, c2, c3, c4⟩⟩
theorem e3_spec {m : Msg} (h : e3 m = true) : m.se = 0 ∧ m.sb = 0 ∧ m.ss = 0 ∧ m.tx = ⟨#[]⟩ := by
  simp only [e3, seV, zeros, cellsEq, vEq, List.replicate, List.cons_append, List.nil_append, Bool.and_eq_true, beq_iff_eq, and_true] at h
  obtain ⟨h1, h2, h3, h4⟩ := h
  exact ⟨h1, h2, h3, toList_inj h4⟩
theorem norm1 {m : Msg} (hk : m.kind = 1) (h1 : e1 m = true) (h2 : e2 m = true) (h3 : e3 m = true) : { zMsg with kind := 1, ep := m.ep, L := m.L, J := m.J, I := m.I } = m := by
  obtain ⟨a1, a2⟩ := e1_spec h1
  obtain ⟨b1, b2, b3, b4, b5, b6⟩ := e2_spec h2
  obtain ⟨c1, c2, c3, c4⟩ := e3_spec h3
  cases m
  dsimp only at *
  subst hk; subst a1; subst a2; subst b1; subst b2; subst b3; subst b4; subst b5; subst b6; subst c1; subst c2; subst c3; subst c4
  rfl
theorem norm2 {m : Msg} (hk : m.kind = 2) (h0 : e0 m = true) (h2 : e2 m = true) (h3 : e3 m = true) : { zMsg with kind := 2, qw := m.qw, qe := m.qe } = m := by
  obtain ⟨a1, a2, a3, a4⟩ := e0_spec h0
  obtain ⟨b1, b2, b3, b4, b5, b6⟩ := e2_spec h2
  obtain ⟨c1, c2, c3, c4⟩ := e3_spec h3
  cases m
  dsimp only at *
  subst hk; subst a1; subst a2; subst a3; subst a4; subst b1; subst b2; subst b3; subst b4; subst b5; subst b6; subst c1; subst c2; subst c3; subst c4
  rfl
theorem norm3 {m : Msg} (hk : m.kind = 3) (h0 : e0 m = true) (h1 : e1 m = true) (h3 : e3 m = true) : { zMsg with kind := 3, pw := m.pw, ps := m.ps, pe := m.pe, b0 := m.b0, b1 := m.b1, b2 := m.b2 } = m := by
  obtain ⟨a1, a2, a3, a4⟩ := e0_spec h0
  obtain ⟨b1, b2⟩ := e1_spec h1
  obtain ⟨c1, c2, c3, c4⟩ := e3_spec h3
  cases m
  dsimp only at *
  subst hk; subst a1; subst a2; subst a3; subst a4; subst b1; subst b2; subst c1; subst c2; subst c3; subst c4
  rfl
theorem norm4 {m : Msg} (hk : m.kind = 4) (h0 : e0 m = true) (h1 : e1 m = true) (h2 : e2 m = true) : { zMsg with kind := 4, se := m.se, sb := m.sb, ss := m.ss, tx := m.tx } = m := by
  obtain ⟨a1, a2, a3, a4⟩ := e0_spec h0
  obtain ⟨b1, b2⟩ := e1_spec h1
  obtain ⟨c1, c2, c3, c4, c5, c6⟩ := e2_spec h2
  cases m
  dsimp only at *
  subst hk; subst a1; subst a2; subst a3; subst a4; subst b1; subst b2; subst c1; subst c2; subst c3; subst c4; subst c5; subst c6
  rfl
/-- A right message is read out of its bits, whatever stands behind. -/
theorem msg_read {m : Msg} (hg : goodB m = true) (R : List Bool) : ∃ n, tkMsg (mBits m ++ R) = some (m, n) ∧ At (mBits m ++ R) n R := by
  have h0 : At (mBits m ++ R) 0 (bitsOf 2 (m.kind - 1).toNat ++ (restBits m ++ R)) := ⟨Nat.zero_le _, by rw [List.drop_zero]; unfold mBits; rw [List.append_assoc]⟩
  generalize mBits m ++ R = T at h0 ⊢
  rcases good_cases hg with ⟨hk, h1, h2, h3, h4⟩ | ⟨hk, h1, h2, h3, h4⟩ | ⟨hk, h1, h2, h3, h4⟩ | ⟨hk, h1, h2, h3, h4⟩
  · obtain ⟨t0, a0⟩ := at_tk h0 (show (m.kind - 1).toNat < 4 by omega)
    rw [show (m.kind - 1).toNat = 0 by omega] at t0
    simp only [gRk, Bool.and_eq_true, decide_eq_true_eq] at h1
    obtain ⟨⟨⟨q1, q2, q3⟩, q4, q5⟩, q6, q7⟩ := h1
    obtain ⟨q8, q9⟩ := btw_spec q1
    unfold restBits at a0
    rw [if_pos hk] at a0
    simp only [List.append_assoc] at a0
    obtain ⟨t1, a1⟩ := at_tk a0 (show m.ep.toNat < 256 by omega)
    obtain ⟨n2, t2, a2⟩ := at_seats a1 q2 (by omega)
    obtain ⟨n3, t3, a3⟩ := at_seats a2 q4 (by omega)
    unfold isBits at a3
    rw [List.append_assoc] at a3
    obtain ⟨t4, a4⟩ := at_tk a3 (show m.I.length < 2048 by omega)
    obtain ⟨n5, t5, a5⟩ := at_list (fun n x R h hk => at_item h hk) a4 q6
    refine ⟨n5, ?_, a5⟩
    have hrk : tkRk T (0 + 2) = some (⟨(m.ep.toNat : Int), m.L, m.J, m.I⟩, n5) := by
      unfold tkRk
      rw [t1]
      show (tkSeats T (0 + 2 + 8)).bind _ = _
      rw [t2]
      show (tkSeats T n2).bind _ = _
      rw [t3]
      show (tk T 11 n3).bind _ = _
      rw [t4]
      show (tkList (tkItem T) m.I.length (n3 + 11)).map _ = _
      rw [t5]
      rfl
    unfold tkMsg
    rw [t0]
    show (tkRk T (0 + 2)).map _ = _
    rw [hrk]
    show some (({ zMsg with kind := 1, ep := (m.ep.toNat : Int), L := m.L, J := m.J, I := m.I } : Msg), n5) = _
    rw [Int.toNat_of_nonneg (by omega), norm1 hk h2 h3 h4]
  · obtain ⟨t0, a0⟩ := at_tk h0 (show (m.kind - 1).toNat < 4 by omega)
    rw [show (m.kind - 1).toNat = 1 by omega] at t0
    simp only [gRq, seatB, Bool.and_eq_true] at h2
    obtain ⟨⟨q1, _⟩, q2⟩ := h2
    obtain ⟨q3, q4⟩ := btw_spec q1
    obtain ⟨q5, q6⟩ := btw_spec q2
    unfold restBits at a0
    rw [if_neg (by omega), if_pos hk, List.append_assoc] at a0
    obtain ⟨t1, a1⟩ := at_tk a0 (show m.qw.toNat < 256 by omega)
    obtain ⟨t2, a2⟩ := at_tk a1 (show m.qe.toNat < 256 by omega)
    refine ⟨_, ?_, a2⟩
    unfold tkMsg
    rw [t0]
    show (tk T 8 (0 + 2)).bind _ = _
    rw [t1]
    show (tk T 8 (0 + 2 + 8)).map _ = _
    rw [t2]
    show some (({ zMsg with kind := 2, qw := (m.qw.toNat : Int), qe := (m.qe.toNat : Int) } : Msg), _) = _
    rw [Int.toNat_of_nonneg (by omega), Int.toNat_of_nonneg (by omega), norm2 hk h1 h3 h4]
  · obtain ⟨t0, a0⟩ := at_tk h0 (show (m.kind - 1).toNat < 4 by omega)
    rw [show (m.kind - 1).toNat = 2 by omega] at t0
    simp only [gRp, seatB, Bool.and_eq_true] at h3
    obtain ⟨⟨⟨q1, q2⟩, q3⟩, q4⟩ := h3
    obtain ⟨q5, q6⟩ := btw_spec q1
    obtain ⟨q7, q8⟩ := btw_spec q2
    obtain ⟨q9, q10⟩ := btw_spec q3
    unfold restBits at a0
    rw [if_neg (by omega), if_neg (by omega), if_pos hk] at a0
    simp only [List.append_assoc] at a0
    obtain ⟨t1, a1⟩ := at_tk a0 (show m.pw.toNat < 256 by omega)
    obtain ⟨t2, a2⟩ := at_tk a1 (show m.ps.toNat < 64 by omega)
    obtain ⟨t3, a3⟩ := at_tk a2 (show m.pe.toNat < 256 by omega)
    obtain ⟨n5, t5, a5⟩ := at_list (f := tkBox T) (g := bBits) (l := [m.b0, m.b1, m.b2]) (R := R) (fun n x R h hk => at_box h hk) (by simpa using a3) q4
    refine ⟨n5, ?_, a5⟩
    have hrk : tkRp T (0 + 2) = some (⟨(m.pw.toNat : Int), (m.ps.toNat : Int), (m.pe.toNat : Int), m.b0, m.b1, m.b2⟩, n5) := by
      unfold tkRp
      rw [t1]
      show (tk T 6 (0 + 2 + 8)).bind _ = _
      rw [t2]
      show (tk T 8 (0 + 2 + 8 + 6)).bind _ = _
      rw [t3]
      show (tkList (tkBox T) 3 _).map _ = _
      rw [show tkList (tkBox T) 3 (0 + 2 + 8 + 6 + 8) = _ from t5]
      rfl
    unfold tkMsg
    rw [t0]
    show (tkRp T (0 + 2)).map _ = _
    rw [hrk]
    show some (({ zMsg with kind := 3, pw := (m.pw.toNat : Int), ps := (m.ps.toNat : Int), pe := (m.pe.toNat : Int), b0 := m.b0, b1 := m.b1, b2 := m.b2 } : Msg), n5) = _
    rw [Int.toNat_of_nonneg (by omega), Int.toNat_of_nonneg (by omega), Int.toNat_of_nonneg (by omega), norm3 hk h1 h2 h4]
  · obtain ⟨t0, a0⟩ := at_tk h0 (show (m.kind - 1).toNat < 4 by omega)
    rw [show (m.kind - 1).toNat = 3 by omega] at t0
    simp only [gSe, Bool.and_eq_true, decide_eq_true_eq] at h4
    obtain ⟨⟨q1, q2⟩, q3⟩ := h4
    obtain ⟨q5, q6⟩ := btw_spec q1
    unfold restBits at a0
    rw [if_neg (by omega), if_neg (by omega), if_neg (by omega)] at a0
    simp only [List.append_assoc] at a0
    obtain ⟨t1, a1⟩ := at_tk a0 (show m.se.toNat < 256 by omega)
    obtain ⟨n2, t2, a2⟩ := at_key a1 q2
    obtain ⟨t3, a3⟩ := at_tk a2 (show m.tx.size < 128 by omega)
    obtain ⟨n5, t5, a5⟩ := at_list (f := tk T 8) (g := bitsOf 8) (ok := fun v => decide (v < 256)) (l := txt m.tx) (R := R) (fun n x R h hk => ⟨_, at_tk h (of_decide_eq_true hk)⟩) a3 (List.all_eq_true.2 fun v hv => decide_eq_true (txt_lt m.tx v hv))
    rw [txt_length] at t5
    refine ⟨n5, ?_, a5⟩
    have hrk : tkSe T (0 + 2) = some (⟨(m.se.toNat : Int), m.sb, m.ss, txt m.tx⟩, n5) := by
      unfold tkSe
      rw [t1]
      show (tkKey T (0 + 2 + 8)).bind _ = _
      rw [t2]
      show (tk T 7 n2).bind _ = _
      rw [t3]
      show (tkList (tk T 8) m.tx.size (n2 + 7)).map _ = _
      rw [t5]
      rfl
    unfold tkMsg
    rw [t0]
    show (tkSe T (0 + 2)).map _ = _
    rw [hrk]
    show some (({ zMsg with kind := 4, se := (m.se.toNat : Int), sb := m.sb, ss := m.ss, tx := strB (txt m.tx) } : Msg), n5) = _
    rw [Int.toNat_of_nonneg (by omega), strB_txt, norm4 hk h1 h2 h3]
/-- The bits that pad. -/
def padN (B : List Bool) : Nat := 8 * ((B.length + 7) / 8) - B.length
theorem Tb_enc (B : List Bool) : Tb (strB (packB B)) = B ++ List.replicate (padN B) false := by
  show textBits (txt (strB (packB B))) = _
  rw [strB_lt, textBits_pack]; rfl
theorem pad_done {T R : List Bool} {n k : Nat} (h : At T n R) (hR : R = List.replicate k false) (hk : k < 8) : doneB T n = true := by
  have hl : T.length - n = R.length := by rw [← h.eq, List.length_drop]
  unfold doneB
  refine decide_eq_true ⟨by rw [hl, hR, List.length_replicate]; exact hk, ?_⟩
  rw [h.eq, hR]
  exact num_zero.2 fun b hb => (List.mem_replicate.1 hb).2
/-- A right message comes back out of its text. -/
theorem dec_enc {m : Msg} (hg : goodB m = true) : decV (strB (packB (mBits m))) = (m, 0) := by
  have hT := Tb_enc (mBits m)
  obtain ⟨n, h1, h2⟩ := msg_read hg (List.replicate (padN (mBits m)) false)
  rw [← hT] at h1 h2
  have hd : doneB (Tb (strB (packB (mBits m)))) n = true := pad_done h2 rfl (by unfold padN; omega)
  have hr : rdRes (Tb (strB (packB (mBits m)))) = (m, true) := by unfold rdRes; rw [h1]; show (m, doneB _ n) = _; rw [hd]
  unfold decV
  rw [hr]
  show (if true && goodB m then (m, (0 : Int)) else (zMsg, 13)) = _
  rw [hg]
  rfl
end Go.Proofs.Ytlbdnkkaacccoaa
