/- The program's reader of messages: numbers, keys, boxes, seats. It gives up by a panic. -/
import Derived.Test.YtlbdnkkaacccoaaWire4
namespace Go.Proofs.Ytlbdnkkaacccoaa
set_option linter.unusedVariables false
set_option linter.unusedSimpArgs false
set_option maxRecDepth 100000
open SL Go.RowKit Go.Maps
/-- So many bits from a place on, as a number, and the place behind. -/
def tk (T : List Bool) (W n : Nat) : Option (Nat × Nat) := if W ≤ T.length - n then some (num ((T.drop n).take W), n + W) else none
def tkKey (T : List Bool) (n : Nat) : Option ((Int × Int) × Nat) := (tk T 16 n).bind fun p => (tk T 8 p.2).map fun q => (((p.1 : Int), (q.1 : Int)), q.2)
def tkBox (T : List Bool) (n : Nat) : Option (Bx × Nat) := (tkKey T n).bind fun p => (tkKey T p.2).map fun q => ((p.1.1, p.1.2, q.1.1, q.1.2), q.2)
def tkSeat (T : List Bool) (n : Nat) : Option (Seat × Nat) := (tk T 8 n).bind fun p => (tk T 6 p.2).map fun q => (((p.1 : Int), (q.1 : Int)), q.2)
def tkList {α : Type} (f : Nat → Option (α × Nat)) : Nat → Nat → Option (List α × Nat)
  | 0, n => some ([], n)
  | k + 1, n => (tkList f k n).bind fun p => (f p.2).map fun q => (p.1 ++ [q.1], q.2)
def tkSeats (T : List Bool) (n : Nat) : Option (List Seat × Nat) := (tk T 7 n).bind fun p => tkList (tkSeat T) p.1 p.2
theorem tkList_none {α : Type} {f : Nat → Option (α × Nat)} {n : Nat} : ∀ {k l : Nat}, k ≤ l → tkList f k n = none → tkList f l n = none
  | k, l, h, h0 => by
    induction l with
    | zero => have : k = 0 := by omega
              subst this; exact h0
    | succ l ih =>
      by_cases e : k = l + 1
      · subst e; exact h0
      · show (tkList f l n).bind _ = none
        rw [ih (by omega)]; rfl
theorem tk_lt {T : List Bool} {W n : Nat} {p : Nat × Nat} (h : tk T W n = some p) : p.1 < 2 ^ W ∧ p.2 = n + W ∧ W ≤ T.length - n := by
  unfold tk at h
  split at h
  · rename_i hw
    cases h
    refine ⟨Nat.lt_of_lt_of_le (num_lt _) (Nat.pow_le_pow_right (by omega) (by simp; omega)), rfl, hw⟩
  · cases h
theorem tk_le {T : List Bool} {W n : Nat} {p : Nat × Nat} (h : tk T W n = some p) (hn : n ≤ T.length) : p.2 ≤ T.length := by
  obtain ⟨_, h1, h2⟩ := tk_lt h; omega
/-- The panic by which a reader gives up. -/
abbrev shortC : List PanicEntry := [{ v := .iface 138 (.agg #[]), recovered := false }]
abbrev Tb (s : ByteArray) : List Bool := textBits (txt s)
theorem Tb_length (s : ByteArray) : (Tb s).length = 8 * s.size := by rw [textBits_length, txt_length]
theorem rnum_ok (F : Mem) (r n W : Nat) (s : ByteArray) (h1 : 1 ≤ W) (h2 : W ≤ 62) (hs : s.size ≤ 140737488355328) (hn : n ≤ 8 * s.size) :
    FT Try.prog 67 [.agg #[.pointer (some ⟨r, 0, none⟩)], .int .i64 (W : Int)].toArray F (rdH r n s)
    (fun e H => (∃ p, tk (Tb s) W n = some p ∧ e = .returned (.int .i64 (p.1 : Int)) ∧ H = rdH r p.2 s) ∨ (tk (Tb s) W n = none ∧ e = .panicked shortC ∧ H = [])) := by
  refine FT.of_body Try.func67 rfl Try.ntmps67 (by simp) fun C hC => ?_
  subst hC
  conv => whnf
  intro b
  conv => whnf
  refine LoadV.s rfl rfl ?_
  conv => whnf
  refine CallS.mk Try.call84 ⟨[_], [], _, Sub.sel [1] rfl, fun F' hF' => bTake_ok F' r n s (W : Int) hs hn, ?_⟩
  rintro e A' ⟨rfl, rfl⟩
  cases ht : tk (Tb s) W n with
  | some p =>
    obtain ⟨q1, q2, q3⟩ := tk_lt ht
    have hB : takeB (textBits (txt s)) n (W : Int) = (p.1, 0, p.2) := by
      unfold takeB
      rw [if_pos ⟨by omega, by omega, by simpa using q3⟩, q2]
      unfold tk at ht
      rw [if_pos q3] at ht
      cases ht; simp
    rw [hB]
    have hp : p.1 < 4611686018427387904 := Nat.lt_of_lt_of_le q1 (by rw [show (4611686018427387904 : Nat) = 2 ^ 62 from rfl]; exact Nat.pow_le_pow_right (by omega) h2)
    conv => whnf
    refine ArI.in64 (by omega) ?_
    conv => whnf
    repeat (first | (refine LoadV.s rfl rfl (forceV_of ?_); conv => whnf) | (refine LoadV.s rfl rfl ?_; conv => whnf) | (refine StoreV.c rfl rfl (Nat.le_of_ble_eq_true rfl) rfl ?_; conv => whnf) | (refine LoadV.a _ rfl (Nat.le_of_ble_eq_true rfl) ?_; conv => whnf) | (refine DrawI.quiet (by kernel_rfl) (by kernel_rfl) ?_; conv => whnf) | (refine ArI.in64 (by omega) ?_; conv => whnf) | (refine ArI.inU8 (by omega) ?_; conv => whnf) | (refine ArI.inU64 (by omega) ?_; conv => whnf) | (refine ArI.inU32 (by omega) ?_; conv => whnf) | (refine RetI.one Try.results67 rfl ?_; conv => whnf) | (refine RetI.two Try.results67 rfl rfl ?_; conv => whnf) | (refine RetI.three Try.results67 rfl rfl rfl ?_; conv => whnf) | (refine RetI.none Try.results67 ?_; conv => whnf) | (refine ⟨by first | decide | omega, ?_⟩; conv => whnf))
    exact ⟨_, Sub.sel [0] rfl, .inl ⟨p, rfl, rfl, rfl⟩⟩
  | none =>
    have hB : takeB (textBits (txt s)) n (W : Int) = (0, 6, n) := by
      unfold takeB
      rw [if_neg]
      intro hh
      unfold tk at ht
      rw [if_pos (by simpa using hh.2.2)] at ht
      cases ht
    rw [hB]
    conv => whnf
    exact ⟨_, Sub.sel [] rfl, .inr ⟨rfl, rfl, rfl⟩⟩
theorem rkey_ok (F : Mem) (r n : Nat) (s : ByteArray) (hs : s.size ≤ 140737488355328) (hn : n ≤ 8 * s.size) :
    FT Try.prog 87 [.agg #[.pointer (some ⟨r, 0, none⟩)]].toArray F (rdH r n s)
    (fun e H => (∃ p, tkKey (Tb s) n = some p ∧ e = .returned (.agg #[.int .i64 p.1.1, .int .i64 p.1.2]) ∧ H = rdH r p.2 s) ∨ (tkKey (Tb s) n = none ∧ e = .panicked shortC ∧ H = [])) := by
  refine FT.of_body Try.func87 rfl Try.ntmps87 (by simp) fun C hC => ?_
  subst hC
  conv => whnf
  intro b
  conv => whnf
  intro c
  conv => whnf
  refine LoadV.a 1 rfl (Nat.le_of_ble_eq_true rfl) ?_
  conv => whnf
  refine CallS.mk Try.call67 ⟨[_], [_, _], _, Sub.sel [2, 0, 1] rfl, fun F' hF' => rnum_ok F' r n 16 s (by omega) (by omega) hs hn, ?_⟩
  rintro e A' (⟨p, hp, rfl, rfl⟩ | ⟨hp, rfl, rfl⟩)
  rotate_left
  · conv => whnf
    exact ⟨_, Sub.sel [] rfl, .inr ⟨by (unfold tkKey; rw [hp]; rfl), rfl, rfl⟩⟩
  have hn1 : p.2 ≤ 8 * s.size := by have := tk_le hp (by rw [Tb_length]; exact hn); rwa [Tb_length] at this
  conv => whnf
  refine LoadV.a 1 rfl (Nat.le_of_ble_eq_true rfl) ?_
  conv => whnf
  refine CallS.mk Try.call67 ⟨[_], [_, _], _, Sub.sel [0, 1, 2] rfl, fun F' hF' => rnum_ok F' r p.2 8 s (by omega) (by omega) hs hn1, ?_⟩
  rintro e A' (⟨q, hq, rfl, rfl⟩ | ⟨hq, rfl, rfl⟩)
  rotate_left
  · conv => whnf
    exact ⟨_, Sub.sel [] rfl, .inr ⟨by (unfold tkKey; rw [hp]; show (tk (Tb s) 8 p.2).map _ = none; rw [hq]; rfl), rfl, rfl⟩⟩
  conv => whnf
  refine StoreV.c rfl rfl (Nat.le_of_ble_eq_true rfl) rfl ?_
  conv => whnf
  refine RetI.cell Try.results87 rfl ?_
  refine LoadV.a 2 rfl (Nat.le_of_ble_eq_true rfl) ?_
  conv => whnf
  exact ⟨_, Sub.sel [0] rfl, .inl ⟨(((p.1 : Int), (q.1 : Int)), q.2), by unfold tkKey; rw [hp]; show (tk (Tb s) 8 p.2).map _ = _; rw [hq]; rfl, rfl, rfl⟩⟩
theorem tkKey_spec {T : List Bool} {n : Nat} {p : (Int × Int) × Nat} (h : tkKey T n = some p) (hn : n ≤ T.length) : (0 ≤ p.1.1 ∧ p.1.1 < 65536) ∧ (0 ≤ p.1.2 ∧ p.1.2 < 256) ∧ p.2 = n + 24 ∧ p.2 ≤ T.length := by
  unfold tkKey at h
  cases h1 : tk T 16 n with
  | none => rw [h1] at h; cases h
  | some a =>
    rw [h1] at h
    replace h : (tk T 8 a.2).map (fun q => (((a.1 : Int), (q.1 : Int)), q.2)) = some p := h
    cases h2 : tk T 8 a.2 with
    | none => rw [h2] at h; cases h
    | some c =>
      rw [h2] at h
      cases h
      obtain ⟨a1, a2, a3⟩ := tk_lt h1
      obtain ⟨c1, c2, c3⟩ := tk_lt h2
      have a4 : a.1 < 65536 := a1
      have c4 : c.1 < 256 := c1
      exact ⟨by dsimp only; omega, by dsimp only; omega, by dsimp only; omega, by dsimp only; omega⟩
theorem rbox_ok (F : Mem) (r n : Nat) (s : ByteArray) (hs : s.size ≤ 140737488355328) (hn : n ≤ 8 * s.size) :
    FT Try.prog 86 [.agg #[.pointer (some ⟨r, 0, none⟩)]].toArray F (rdH r n s)
    (fun e H => (∃ p, tkBox (Tb s) n = some p ∧ e = .returned (.agg (bxF p.1).toArray) ∧ H = rdH r p.2 s) ∨ (tkBox (Tb s) n = none ∧ e = .panicked shortC ∧ H = [])) := by
  refine FT.of_body Try.func86 rfl Try.ntmps86 (by simp) fun C hC => ?_
  subst hC
  conv => whnf
  intro b
  conv => whnf
  intro c
  conv => whnf
  refine LoadV.a 1 rfl (Nat.le_of_ble_eq_true rfl) ?_
  conv => whnf
  refine CallS.mk Try.call87 ⟨[_], [_, _], _, Sub.sel [2, 0, 1] rfl, fun F' hF' => rkey_ok F' r n s hs hn, ?_⟩
  rintro e A' (⟨p, hp, rfl, rfl⟩ | ⟨hp, rfl, rfl⟩)
  rotate_left
  · conv => whnf
    exact ⟨_, Sub.sel [] rfl, .inr ⟨by (unfold tkBox; rw [hp]; rfl), rfl, rfl⟩⟩
  have hn1 : p.2 ≤ 8 * s.size := by have := (tkKey_spec hp (by rw [Tb_length]; exact hn)).2.2.2; rwa [Tb_length] at this
  conv => whnf
  intro d
  conv => whnf
  refine StoreV.c rfl rfl (Nat.le_of_ble_eq_true rfl) rfl ?_
  conv => whnf
  cases hq : tkKey (Tb s) p.2 with
  | none =>
    have hbn : tkBox (Tb s) n = none := by unfold tkBox; rw [hp]; show (tkKey (Tb s) p.2).map _ = none; rw [hq]; rfl
    refine SL.Fail.draw [2, 4] [_, _] (fun c H => c = shortC) (by kernel_rfl) (by kernel_rfl) (by kernel_rfl) (by kernel_rfl) (by kernel_rfl) (Sub.sel [0, 3] rfl) (fun c f' H' _ hc => ⟨[], fun _ _ hs => Sat.drop (A := H') (by simpa using hs), .inr ⟨hbn, by rw [hc], rfl⟩⟩) ?_
    conv => whnf
    refine LoadV.a 2 rfl (Nat.le_of_ble_eq_true rfl) ?_
    conv => whnf
    refine LoadV.a 1 rfl (Nat.le_of_ble_eq_true rfl) ?_
    conv => whnf
    refine SL.Fail.EffG.callp rfl (.agg #[.int .i64 0, .int .i64 0]) ?_ rfl rfl rfl Try.call87 ⟨[_], [_, _, _], _, Sub.sel [1, 0, 2, 3] rfl, fun F' hF' => rkey_ok F' r p.2 s hs hn1, ?_⟩ ?_
    · exact Sub.sel [0, 3] rfl
    · rintro e A' (⟨q, hq2, _⟩ | ⟨_, rfl, rfl⟩)
      · rw [hq] at hq2; cases hq2
      · conv => whnf
    · conv => whnf
      refine SL.Fail.EffG.ghost rfl undef (Sub.sel [0, 3] rfl) ?_
      conv => whnf
      intro h
      cases h
  | some q =>
    refine SL.Fail.draw [2, 4] [_, _] (fun _ _ => False) (by kernel_rfl) (by kernel_rfl) (by kernel_rfl) (by kernel_rfl) (by kernel_rfl) (Sub.sel [0, 3] rfl) (fun _ _ _ _ h => h.elim) ?_
    conv => whnf
    refine LoadV.a 2 rfl (Nat.le_of_ble_eq_true rfl) ?_
    conv => whnf
    refine LoadV.a 1 rfl (Nat.le_of_ble_eq_true rfl) ?_
    conv => whnf
    refine SL.Fail.EffG.call rfl rfl rfl rfl Try.call87 ⟨[_], [_, _, _], _, Sub.sel [1, 0, 2, 3] rfl, fun F' hF' => rkey_ok F' r p.2 s hs hn1, ?_⟩
    rintro e A' (⟨q', hq2, rfl, rfl⟩ | ⟨hq2, _⟩)
    rotate_left
    · rw [hq] at hq2; cases hq2
    rw [hq] at hq2
    cases hq2
    conv => whnf
    refine ⟨Sub.sel [1, 3] rfl, ?_⟩
    conv => whnf
    refine SL.Fail.EffG.ret rfl rfl ?_
    conv => whnf
    refine StoreV.c rfl rfl (Nat.le_of_ble_eq_true rfl) rfl ?_
    conv => whnf
    refine ⟨Sub.sel [1, 3] rfl, ?_⟩
    conv => whnf
    intro _
    conv => whnf
    refine RetI.cell Try.results86 rfl ?_
    refine LoadV.a 4 rfl (Nat.le_of_ble_eq_true rfl) ?_
    conv => whnf
    exact ⟨_, Sub.sel [0] rfl, .inl ⟨((p.1.1, p.1.2, q.1.1, q.1.2), q.2), by unfold tkBox; rw [hp]; show (tkKey (Tb s) p.2).map _ = _; rw [hq]; rfl, rfl, rfl⟩⟩
theorem tkSeat_le {T : List Bool} {n : Nat} {p : Seat × Nat} (h : tkSeat T n = some p) (hn : n ≤ T.length) : p.2 = n + 14 ∧ p.2 ≤ T.length := by
  unfold tkSeat at h
  cases h1 : tk T 8 n with
  | none => rw [h1] at h; cases h
  | some a =>
    rw [h1] at h
    replace h : (tk T 6 a.2).map (fun q => (((a.1 : Int), (q.1 : Int)), q.2)) = some p := h
    cases h2 : tk T 6 a.2 with
    | none => rw [h2] at h; cases h
    | some c =>
      rw [h2] at h
      cases h
      obtain ⟨a1, a2, a3⟩ := tk_lt h1
      obtain ⟨c1, c2, c3⟩ := tk_lt h2
      exact ⟨by dsimp only; omega, by dsimp only; omega⟩
theorem tkList_le {α : Type} {f : Nat → Option (α × Nat)} {N : Nat} (hf : ∀ n p, f n = some p → n ≤ N → p.2 ≤ N) : ∀ (k n : Nat) (p : List α × Nat), tkList f k n = some p → n ≤ N → p.2 ≤ N ∧ p.1.length = k
  | 0, n, p, h, hn => by cases h; exact ⟨hn, rfl⟩
  | k + 1, n, p, h, hn => by
    replace h : (tkList f k n).bind (fun p => (f p.2).map fun q => (p.1 ++ [q.1], q.2)) = some p := h
    cases h1 : tkList f k n with
    | none => rw [h1] at h; cases h
    | some a =>
      rw [h1] at h
      replace h : (f a.2).map (fun q => (a.1 ++ [q.1], q.2)) = some p := h
      obtain ⟨i1, i2⟩ := tkList_le hf k n a h1 hn
      cases h2 : f a.2 with
      | none => rw [h2] at h; cases h
      | some c =>
        rw [h2] at h
        cases h
        exact ⟨hf _ _ h2 i1, by simp [i2]⟩
theorem tkList_step {α : Type} {f : Nat → Option (α × Nat)} {k n : Nat} {p : List α × Nat} (h : tkList f k n = some p) : tkList f (k + 1) n = (f p.2).map fun q => (p.1 ++ [q.1], q.2) := by
  show (tkList f k n).bind _ = _
  rw [h]; rfl
abbrev ownS (g : Option (Nat × Nat)) (xs : List Seat) : HObj := .own (svOf g xs.length) xs.length 57 2 (xs.flatMap seatF)
theorem rseats_ok (F : Mem) (r n : Nat) (s : ByteArray) (hs : s.size ≤ 140737488355328) (hn : n ≤ 8 * s.size) :
    FT Try.prog 85 [.agg #[.pointer (some ⟨r, 0, none⟩)]].toArray F (rdH r n s)
    (fun e H => (∃ p g, tkSeats (Tb s) n = some p ∧ (g = none ↔ p.1 = []) ∧ e = .returned (svOf g p.1.length) ∧ H = [.cells r [.int .i64 p.2, .string s] 119 (0, 0), ownS g p.1]) ∨ (tkSeats (Tb s) n = none ∧ e = .panicked shortC ∧ H = [])) := by
  have hTl := Tb_length s
  refine FT.of_body Try.func85 rfl Try.ntmps85 (by simp) fun C hC => ?_
  subst hC
  conv => whnf
  intro b
  conv => whnf
  refine LoadV.a 1 rfl (Nat.le_of_ble_eq_true rfl) ?_
  conv => whnf
  refine CallS.mk Try.call67 ⟨[_], [_], _, Sub.sel [1, 0] rfl, fun F' hF' => rnum_ok F' r n 7 s (by omega) (by omega) hs hn, ?_⟩
  rintro e A' (⟨c, hc, rfl, rfl⟩ | ⟨hp, rfl, rfl⟩)
  rotate_left
  · conv => whnf
    exact ⟨_, Sub.sel [] rfl, .inr ⟨by (unfold tkSeats; rw [hp]; rfl), rfl, rfl⟩⟩
  have hn1 := tk_le hc (by rw [Tb_length]; exact hn)
  have hc7 : c.1 < 128 := (tk_lt hc).1
  have hlist : tkSeats (Tb s) n = tkList (tkSeat (Tb s)) c.1 c.2 := by unfold tkSeats; rw [hc]; rfl
  conv => whnf
  refine LoopI.by_state (σ := Nat × (List Seat × Nat) × Option (Nat × Nat)) (fun x => [(1, .pointer (some ⟨b, 0, none⟩)), (3, svOf x.2.2 x.2.1.1.length), (6, .int .i64 (c.1 : Int)), (7, .int .i64 (x.1 : Int))])
    (fun x => [.cells r [.int .i64 x.2.1.2, .string s] 119 (0, 0), ownS x.2.2 x.2.1.1, .cells b [.pointer (some ⟨r, 0, none⟩)] 92 (0, 0)])
    (fun x => x.1 ≤ c.1 ∧ tkList (tkSeat (Tb s)) x.1 c.2 = some x.2.1 ∧ (x.2.2 = none ↔ x.2.1.1 = [])) (fun x => c.1 - x.1) (0, ([], c.2), none) ⟨Nat.zero_le _, rfl, by simp⟩ ⟨rfl, rfl, rfl, rfl, trivial⟩ (Sub.trans (Sub.nil 57 2) (Sub.sel [1, 0, 2] rfl)) ?_
  rintro ⟨i, ⟨xs, n2⟩, g⟩ f0 ⟨hi, hx, hg⟩
  dsimp only at hi hx hg ⊢
  obtain ⟨hn2, hxl⟩ := tkList_le (fun n p h hn => (tkSeat_le h hn).2) _ _ _ hx hn1
  dsimp only at hn2 hxl
  have hstep := tkList_step hx
  dsimp only at hstep
  conv => whnf
  refine cond_dec (fun h => ?_) (fun h => ?_)
  · conv => whnf
    refine LoadV.a 1 rfl (Nat.le_of_ble_eq_true rfl) ?_
    conv => whnf
    refine CallS.mk Try.call67 ⟨[_], [_, _], _, Sub.sel [0, 1, 2] rfl, fun F' hF' => rnum_ok F' r n2 8 s (by omega) (by omega) hs (by omega), ?_⟩
    rintro e A' (⟨p, hp, rfl, rfl⟩ | ⟨hp, rfl, rfl⟩)
    rotate_left
    · conv => whnf
      exact ⟨_, Sub.sel [] rfl, .inr ⟨by (rw [hlist]; refine tkList_none (k := i + 1) (by omega) ?_; rw [hstep, show tkSeat (Tb s) n2 = none by unfold tkSeat; rw [hp]; rfl]; rfl), rfl, rfl⟩⟩
    have hn3 := tk_le hp (by omega)
    conv => whnf
    refine LoadV.a 1 rfl (Nat.le_of_ble_eq_true rfl) ?_
    conv => whnf
    refine CallS.mk Try.call67 ⟨[_], [_, _], _, Sub.sel [0, 1, 2] rfl, fun F' hF' => rnum_ok F' r p.2 6 s (by omega) (by omega) hs (by omega), ?_⟩
    rintro e A' (⟨q, hq, rfl, rfl⟩ | ⟨hq, rfl, rfl⟩)
    rotate_left
    · conv => whnf
      exact ⟨_, Sub.sel [] rfl, .inr ⟨by (rw [hlist]; refine tkList_none (k := i + 1) (by omega) ?_; rw [hstep, show tkSeat (Tb s) n2 = none by unfold tkSeat; rw [hp]; show (tk (Tb s) 6 p.2).map _ = none; rw [hq]; rfl]; rfl), rfl, rfl⟩⟩
    have hst : tkSeat (Tb s) n2 = some (((p.1 : Int), (q.1 : Int)), q.2) := by unfold tkSeat; rw [hp]; show (tk (Tb s) 6 p.2).map _ = _; rw [hq]; rfl
    rw [hst] at hstep
    conv => whnf
    intro bl
    conv => whnf
    refine BuiltV.append (sv := svOf g xs.length) (m := 1) Try.underlying22 rfl rfl rfl rfl (by decide) (Row.cells 2) rfl (by decide) rfl (by show (xs.length + 1) * 16 ≤ _; omega) (by omega) fun gb gc => ?_
    conv => whnf
    refine ArI.to64 ((i + 1 : Nat) : Int) (by omega) (by omega) ?_
    conv => whnf
    refine ⟨(i + 1, (xs ++ [((p.1 : Int), (q.1 : Int))], q.2), some (gb, gc)), _, by dsimp only; omega, Sub.sel [1, 2, 3] rfl, ⟨by dsimp only; omega, hstep, by simp⟩, ⟨rfl, ?_, rfl, rfl, trivial⟩, ?_⟩
    · dsimp only; rw [List.length_append]; rfl
    · dsimp only [ownS]; rw [own_snocF seatF]; rfl
  · have hie : i = c.1 := by omega
    conv => whnf
    repeat (first | (refine LoadV.s rfl rfl (forceV_of ?_); conv => whnf) | (refine LoadV.s rfl rfl ?_; conv => whnf) | (refine StoreV.c rfl rfl (Nat.le_of_ble_eq_true rfl) rfl ?_; conv => whnf) | (refine LoadV.a _ rfl (Nat.le_of_ble_eq_true rfl) ?_; conv => whnf) | (refine DrawI.quiet (by kernel_rfl) (by kernel_rfl) ?_; conv => whnf) | (refine ArI.in64 (by omega) ?_; conv => whnf) | (refine ArI.inU8 (by omega) ?_; conv => whnf) | (refine ArI.inU64 (by omega) ?_; conv => whnf) | (refine ArI.inU32 (by omega) ?_; conv => whnf) | (refine RetI.one Try.results85 rfl ?_; conv => whnf) | (refine RetI.two Try.results85 rfl rfl ?_; conv => whnf) | (refine RetI.three Try.results85 rfl rfl rfl ?_; conv => whnf) | (refine RetI.none Try.results85 ?_; conv => whnf) | (refine ⟨by first | decide | omega, ?_⟩; conv => whnf))
    exact ⟨_, Sub.sel [0, 1] rfl, .inl ⟨(xs, n2), g, by rw [hlist, ← hie]; exact hx, hg, rfl, rfl⟩⟩
end Go.Proofs.Ytlbdnkkaacccoaa
