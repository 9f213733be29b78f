/- The program's reader of messages: the parts. -/
import Derived.Test.YtlbdnkkaacccoaaWire5
import Derived.Test.YtlbdnkkaacccoaaLate
namespace Go.Proofs.Ytlbdnkkaacccoaa
set_option linter.unusedVariables false
set_option linter.unusedSimpArgs false
set_option maxRecDepth 100000
open SL Go.RowKit Go.Maps
def tkItem (T : List Bool) (n : Nat) : Option (Item × Nat) := (tk T 5 n).bind fun p => (tk T 7 p.2).bind fun q => (tkBox T q.2).map fun x => (((p.1 : Int), (q.1 : Int), x.1), x.2)
structure Rk where
  ep : Int
  L : List Seat
  J : List Seat
  I : List Item
def tkRk (T : List Bool) (n : Nat) : Option (Rk × Nat) := (tk T 8 n).bind fun a => (tkSeats T a.2).bind fun b => (tkSeats T b.2).bind fun c => (tk T 11 c.2).bind fun d => (tkList (tkItem T) d.1 d.2).map fun e => (⟨(a.1 : Int), b.1, c.1, e.1⟩, e.2)
theorem tkSeats_le {T : List Bool} {n : Nat} {p : List Seat × Nat} (h : tkSeats T n = some p) (hn : n ≤ T.length) : p.2 ≤ T.length ∧ p.1.length < 128 := by
  unfold tkSeats at h
  cases h1 : tk T 7 n with
  | none => rw [h1] at h; cases h
  | some a =>
    rw [h1] at h
    replace h : tkList (tkSeat T) a.1 a.2 = some p := h
    obtain ⟨h2, h3⟩ := tkList_le (fun n p h hn => (tkSeat_le h hn).2) _ _ _ h (tk_le h1 hn)
    have := (tk_lt h1).1
    exact ⟨h2, by rw [h3]; exact this⟩
theorem tkBox_le {T : List Bool} {n : Nat} {p : Bx × Nat} (h : tkBox T n = some p) (hn : n ≤ T.length) : p.2 ≤ T.length := by
  unfold tkBox at h
  cases h1 : tkKey T n with
  | none => rw [h1] at h; cases h
  | some a =>
    rw [h1] at h
    replace h : (tkKey T a.2).map (fun q => ((a.1.1, a.1.2, q.1.1, q.1.2), q.2)) = some p := h
    have ha := (tkKey_spec h1 hn).2.2.2
    cases h2 : tkKey T a.2 with
    | none => rw [h2] at h; cases h
    | some c => rw [h2] at h; cases h; exact (tkKey_spec h2 ha).2.2.2
theorem tkItem_le {T : List Bool} {n : Nat} {p : Item × Nat} (h : tkItem T n = some p) (hn : n ≤ T.length) : p.2 ≤ T.length := by
  unfold tkItem at h
  cases h1 : tk T 5 n with
  | none => rw [h1] at h; cases h
  | some a =>
    rw [h1] at h
    replace h : (tk T 7 a.2).bind (fun q => (tkBox T q.2).map fun x => (((a.1 : Int), (q.1 : Int), x.1), x.2)) = some p := h
    cases h2 : tk T 7 a.2 with
    | none => rw [h2] at h; cases h
    | some b =>
      rw [h2] at h
      replace h : (tkBox T b.2).map (fun x => (((a.1 : Int), (b.1 : Int), x.1), x.2)) = some p := h
      cases h3 : tkBox T b.2 with
      | none => rw [h3] at h; cases h
      | some c => rw [h3] at h; cases h; exact tkBox_le h3 (tk_le h2 (tk_le h1 hn))
abbrev ownI (g : Option (Nat × Nat)) (xs : List Item) : HObj := .own (svOf g xs.length) xs.length 55 6 (xs.flatMap itemF)
/-- A rekey part that was read, and what it owns. -/
structure RkAt (x : Rk) (gL gJ gI : Option (Nat × Nat)) : Prop where
  L : gL = none ↔ x.L = []
  J : gJ = none ↔ x.J = []
  I : gI = none ↔ x.I = []
def rkRet (x : Rk) (gL gJ gI : Option (Nat × Nat)) : Value := .agg #[.int .i64 x.ep, svOf gL x.L.length, svOf gJ x.J.length, svOf gI x.I.length]
set_option maxHeartbeats 4000000 in
theorem rrekey_ok (F : Mem) (r n : Nat) (s : ByteArray) (hs : s.size ≤ 140737488355328) (hn : n ≤ 8 * s.size) :
    FT Try.prog 68 [.agg #[.pointer (some ⟨r, 0, none⟩)]].toArray F (rdH r n s)
    (fun e H => (∃ p gL gJ gI, tkRk (Tb s) n = some p ∧ RkAt p.1 gL gJ gI ∧ e = .returned (rkRet p.1 gL gJ gI) ∧ H = [.cells r [.int .i64 p.2, .string s] 119 (0, 0), ownS gL p.1.L, ownS gJ p.1.J, ownI gI p.1.I]) ∨ (tkRk (Tb s) n = none ∧ e = .panicked shortC ∧ H = [])) := by
  have hTl := Tb_length s
  refine FT.of_body Try.func68 rfl Try.ntmps68 (by simp) fun C hC => ?_
  subst hC
  conv => whnf
  intro b
  conv => whnf
  intro c
  conv => whnf
  cases ha : tk (Tb s) 8 n with
  | none =>
    have hno : tkRk (Tb s) n = none := by unfold tkRk; rw [ha]; rfl
    refine SL.Fail.drawA [1, 3, 5, 7, 8] [_] (fun c H => c = shortC) 7 [.int .i64 0, .slice none 0 0, .slice none 0 0, .slice none 0 0] 25 (by kernel_rfl) (by kernel_rfl) (by kernel_rfl) (by kernel_rfl) (by kernel_rfl) (by kernel_rfl) (by kernel_rfl) (by kernel_rfl) (fun o ho a w => by cases ho; rfl) (Sub.sel [1] rfl) (fun c f' H' _ hc => ⟨[], fun _ _ hs => Sat.drop (A := H') (by simpa using hs), .inr ⟨hno, by rw [hc], rfl⟩⟩) ?_
    conv => whnf
    refine LoadV.a 1 rfl (Nat.le_of_ble_eq_true rfl) ?_
    conv => whnf
    refine SL.Fail.EffG.callp rfl (.int .i64 0) ?_ rfl rfl rfl Try.call67 ⟨[_], [_, _], _, Sub.sel [2, 0, 1] rfl, fun F' hF' => rnum_ok F' r n 8 s (by omega) (by omega) hs hn, ?_⟩ ?_
    · exact Sub.sel [1] rfl
    · rintro e A' (⟨q, hq2, _⟩ | ⟨_, rfl, rfl⟩)
      · rw [ha] at hq2; cases hq2
      · conv => whnf
    · conv => whnf
      refine LoadV.a 1 rfl (Nat.le_of_ble_eq_true rfl) ?_
      conv => whnf
      refine SL.Fail.EffG.ghost rfl (.slice none 0 0) (Sub.sel [1] rfl) ?_
      conv => whnf
      refine LoadV.a 1 rfl (Nat.le_of_ble_eq_true rfl) ?_
      conv => whnf
      refine SL.Fail.EffG.ghost rfl (.slice none 0 0) (Sub.sel [1] rfl) ?_
      conv => whnf
      intro d
      conv => whnf
      refine SL.Fail.EffG.ghost rfl (undef) (Sub.sel [2] rfl) ?_
      conv => whnf
      intro h
      cases h
  | some a =>
    have hn1 : a.2 ≤ 8 * s.size := by have := tk_le ha (by omega); omega
    cases hb : tkSeats (Tb s) a.2 with
    | none =>
      have hno : tkRk (Tb s) n = none := by unfold tkRk; rw [ha]; show (tkSeats (Tb s) a.2).bind _ = none; rw [hb]; rfl
      refine SL.Fail.drawA [1, 3, 5, 7, 8] [_] (fun c H => c = shortC) 7 [.int .i64 0, .slice none 0 0, .slice none 0 0, .slice none 0 0] 25 (by kernel_rfl) (by kernel_rfl) (by kernel_rfl) (by kernel_rfl) (by kernel_rfl) (by kernel_rfl) (by kernel_rfl) (by kernel_rfl) (fun o ho a w => by cases ho; rfl) (Sub.sel [1] rfl) (fun c f' H' _ hc => ⟨[], fun _ _ hs => Sat.drop (A := H') (by simpa using hs), .inr ⟨hno, by rw [hc], rfl⟩⟩) ?_
      conv => whnf
      refine LoadV.a 1 rfl (Nat.le_of_ble_eq_true rfl) ?_
      conv => whnf
      refine SL.Fail.EffG.call rfl rfl rfl rfl Try.call67 ⟨[_], [_, _], _, Sub.sel [2, 0, 1] rfl, fun F' hF' => rnum_ok F' r n 8 s (by omega) (by omega) hs hn, ?_⟩
      rintro e A' (⟨p, hp, rfl, rfl⟩ | ⟨hp, _⟩)
      rotate_left
      · rw [ha] at hp; cases hp
      rw [ha] at hp
      cases hp
      conv => whnf
      refine ⟨Sub.sel [2] rfl, ?_⟩
      conv => whnf
      refine LoadV.a 1 rfl (Nat.le_of_ble_eq_true rfl) ?_
      conv => whnf
      refine SL.Fail.EffG.callp rfl (.slice none 0 0) ?_ rfl rfl rfl Try.call85 ⟨[_], [_, _], _, Sub.sel [0, 1, 2] rfl, fun F' hF' => rseats_ok F' r a.2 s hs hn1, ?_⟩ ?_
      · exact Sub.sel [2] rfl
      · rintro e A' (⟨p, g, hq2, _⟩ | ⟨_, rfl, rfl⟩)
        · rw [hb] at hq2; cases hq2
        · conv => whnf
      · conv => whnf
        refine LoadV.a 1 rfl (Nat.le_of_ble_eq_true rfl) ?_
        conv => whnf
        refine SL.Fail.EffG.ghost rfl (.slice none 0 0) (Sub.sel [2] rfl) ?_
        conv => whnf
        intro d
        conv => whnf
        refine SL.Fail.EffG.ghost rfl (undef) (Sub.sel [3] rfl) ?_
        conv => whnf
        intro h
        cases h
    | some xb =>
      have hn2 : xb.2 ≤ 8 * s.size := by have := (tkSeats_le hb (by omega)).1; omega
      cases hc : tkSeats (Tb s) xb.2 with
      | none =>
        have hno : tkRk (Tb s) n = none := by unfold tkRk; rw [ha]; show (tkSeats (Tb s) a.2).bind _ = none; rw [hb]; show (tkSeats (Tb s) xb.2).bind _ = none; rw [hc]; rfl
        refine SL.Fail.drawA [1, 3, 5, 7, 8] [_] (fun c H => c = shortC) 7 [.int .i64 0, .slice none 0 0, .slice none 0 0, .slice none 0 0] 25 (by kernel_rfl) (by kernel_rfl) (by kernel_rfl) (by kernel_rfl) (by kernel_rfl) (by kernel_rfl) (by kernel_rfl) (by kernel_rfl) (fun o ho a w => by cases ho; rfl) (Sub.sel [1] rfl) (fun c f' H' _ hc => ⟨[], fun _ _ hs => Sat.drop (A := H') (by simpa using hs), .inr ⟨hno, by rw [hc], rfl⟩⟩) ?_
        conv => whnf
        refine LoadV.a 1 rfl (Nat.le_of_ble_eq_true rfl) ?_
        conv => whnf
        refine SL.Fail.EffG.call rfl rfl rfl rfl Try.call67 ⟨[_], [_, _], _, Sub.sel [2, 0, 1] rfl, fun F' hF' => rnum_ok F' r n 8 s (by omega) (by omega) hs hn, ?_⟩
        rintro e A' (⟨p, hp, rfl, rfl⟩ | ⟨hp, _⟩)
        rotate_left
        · rw [ha] at hp; cases hp
        rw [ha] at hp
        cases hp
        conv => whnf
        refine ⟨Sub.sel [2] rfl, ?_⟩
        conv => whnf
        refine LoadV.a 1 rfl (Nat.le_of_ble_eq_true rfl) ?_
        conv => whnf
        refine SL.Fail.EffG.call rfl rfl rfl rfl Try.call85 ⟨[_], [_, _], _, Sub.sel [0, 1, 2] rfl, fun F' hF' => rseats_ok F' r a.2 s hs hn1, ?_⟩
        rintro e A' (⟨p, gL, hp, hgL, rfl, rfl⟩ | ⟨hp, _⟩)
        rotate_left
        · rw [hb] at hp; cases hp
        rw [hb] at hp
        cases hp
        conv => whnf
        refine ⟨Sub.sel [3] rfl, ?_⟩
        conv => whnf
        refine LoadV.a 1 rfl (Nat.le_of_ble_eq_true rfl) ?_
        conv => whnf
        refine SL.Fail.EffG.callp rfl (.slice none 0 0) ?_ rfl rfl rfl Try.call85 ⟨[_], [_, _, _], _, Sub.sel [0, 1, 2, 3] rfl, fun F' hF' => rseats_ok F' r xb.2 s hs hn2, ?_⟩ ?_
        · exact Sub.sel [3] rfl
        · rintro e A' (⟨p, g, hq2, _⟩ | ⟨_, rfl, rfl⟩)
          · rw [hc] at hq2; cases hq2
          · conv => whnf
        · conv => whnf
          intro d
          conv => whnf
          refine SL.Fail.EffG.ghost rfl (undef) (Sub.sel [4] rfl) ?_
          conv => whnf
          intro h
          cases h
      | some xc =>
        have hn3 : xc.2 ≤ 8 * s.size := by have := (tkSeats_le hc (by omega)).1; omega
        refine SL.Fail.drawA [1, 3, 5, 7, 8] [_] (fun _ _ => False) 7 [.int .i64 0, .slice none 0 0, .slice none 0 0, .slice none 0 0] 25 (by kernel_rfl) (by kernel_rfl) (by kernel_rfl) (by kernel_rfl) (by kernel_rfl) (by kernel_rfl) (by kernel_rfl) (by kernel_rfl) (fun o ho a w => by cases ho; rfl) (Sub.sel [1] rfl) (fun _ _ _ _ h => h.elim) ?_
        conv => whnf
        refine LoadV.a 1 rfl (Nat.le_of_ble_eq_true rfl) ?_
        conv => whnf
        refine SL.Fail.EffG.call rfl rfl rfl rfl Try.call67 ⟨[_], [_, _], _, Sub.sel [2, 0, 1] rfl, fun F' hF' => rnum_ok F' r n 8 s (by omega) (by omega) hs hn, ?_⟩
        rintro e A' (⟨p, hp, rfl, rfl⟩ | ⟨hp, _⟩)
        rotate_left
        · rw [ha] at hp; cases hp
        rw [ha] at hp
        cases hp
        conv => whnf
        refine ⟨Sub.sel [2] rfl, ?_⟩
        conv => whnf
        refine LoadV.a 1 rfl (Nat.le_of_ble_eq_true rfl) ?_
        conv => whnf
        refine SL.Fail.EffG.call rfl rfl rfl rfl Try.call85 ⟨[_], [_, _], _, Sub.sel [0, 1, 2] rfl, fun F' hF' => rseats_ok F' r a.2 s hs hn1, ?_⟩
        rintro e A' (⟨p, gL, hp, hgL, rfl, rfl⟩ | ⟨hp, _⟩)
        rotate_left
        · rw [hb] at hp; cases hp
        rw [hb] at hp
        cases hp
        conv => whnf
        refine ⟨Sub.sel [3] rfl, ?_⟩
        conv => whnf
        refine LoadV.a 1 rfl (Nat.le_of_ble_eq_true rfl) ?_
        conv => whnf
        refine SL.Fail.EffG.call rfl rfl rfl rfl Try.call85 ⟨[_], [_, _, _], _, Sub.sel [0, 1, 2, 3] rfl, fun F' hF' => rseats_ok F' r xb.2 s hs hn2, ?_⟩
        rintro e A' (⟨p, gJ, hp, hgJ, rfl, rfl⟩ | ⟨hp, _⟩)
        rotate_left
        · rw [hc] at hp; cases hp
        rw [hc] at hp
        cases hp
        conv => whnf
        refine ⟨Sub.sel [4] rfl, ?_⟩
        conv => whnf
        intro d
        conv => whnf
        refine SL.Fail.EffG.ret rfl rfl ?_
        conv => whnf
        refine StoreV.c rfl rfl (Nat.le_of_ble_eq_true rfl) rfl ?_
        conv => whnf
        refine ⟨Sub.sel [5] rfl, ?_⟩
        conv => whnf
        intro _
        conv => whnf
        refine LoadV.a 1 rfl (Nat.le_of_ble_eq_true rfl) ?_
        conv => whnf
        refine CallS.mk Try.call67 ⟨[_], [_, _, _, _, _], _, Sub.sel [1, 3, 2, 0, 4, 5] rfl, fun F' hF' => rnum_ok F' r xc.2 11 s (by omega) (by omega) hs hn3, ?_⟩
        rintro e A' (⟨xd, hd, rfl, rfl⟩ | ⟨hd, rfl, rfl⟩)
        rotate_left
        · conv => whnf
          exact ⟨_, Sub.sel [] rfl, .inr ⟨by (unfold tkRk; rw [ha]; show (tkSeats (Tb s) a.2).bind _ = none; rw [hb]; show (tkSeats (Tb s) xb.2).bind _ = none; rw [hc]; show (tk (Tb s) 11 xc.2).bind _ = none; rw [hd]; rfl), rfl, rfl⟩⟩
        have hn4 := tk_le hd (by omega)
        have hd11 : xd.1 < 2048 := (tk_lt hd).1
        have hrk : tkRk (Tb s) n = (tkList (tkItem (Tb s)) xd.1 xd.2).map fun e => (⟨(a.1 : Int), xb.1, xc.1, e.1⟩, e.2) := by
          unfold tkRk; rw [ha]; show (tkSeats (Tb s) a.2).bind _ = _; rw [hb]; show (tkSeats (Tb s) xb.2).bind _ = _; rw [hc]; show (tk (Tb s) 11 xc.2).bind _ = _; rw [hd]; rfl
        conv => whnf
        refine LoopI.by_state (σ := Nat × (List Item × Nat) × Option (Nat × Nat)) (fun x => [(1, .pointer (some ⟨b, 0, none⟩)), (2, .pointer (some ⟨c, 0, none⟩)), (3, .pointer (some ⟨d, 0, none⟩)), (14, .int .i64 (xd.1 : Int)), (15, .int .i64 (x.1 : Int))])
          (fun x => [.cells r [.int .i64 x.2.1.2, .string s] 119 (0, 0), ownS gL xb.1, ownS gJ xc.1, ownI x.2.2 x.2.1.1, .cells d [.int .i64 (a.1 : Int), svOf gL xb.1.length, svOf gJ xc.1.length, svOf x.2.2 x.2.1.1.length] 25 (0, 0), .cells b [.pointer (some ⟨r, 0, none⟩)] 92 (0, 0), .cells c [.int .i64 0, .slice none 0 0, .slice none 0 0, .slice none 0 0] 25 (0, 0)])
          (fun x => x.1 ≤ xd.1 ∧ tkList (tkItem (Tb s)) x.1 xd.2 = some x.2.1 ∧ (x.2.2 = none ↔ x.2.1.1 = [])) (fun x => xd.1 - x.1) (0, ([], xd.2), none) ⟨Nat.zero_le _, rfl, by simp⟩ ⟨rfl, rfl, rfl, rfl, rfl, trivial⟩ (Sub.trans (Sub.nil 55 6) (Sub.sel [1, 2, 3, 0, 4, 6, 5] rfl)) ?_
        rintro ⟨i, ⟨xs, n5⟩, g⟩ f0 ⟨hi, hx, hg⟩
        dsimp only at hi hx hg ⊢
        obtain ⟨hn5, hxl⟩ := tkList_le (fun n p h hn => tkItem_le h hn) _ _ _ hx hn4
        dsimp only at hn5 hxl
        have hstep := tkList_step hx
        dsimp only at hstep
        conv => whnf
        refine cond_dec (fun h => ?_) (fun h => ?_)
        · conv => whnf
          refine LoadV.a 1 rfl (Nat.le_of_ble_eq_true rfl) ?_
          conv => whnf
          refine CallS.mk Try.call67 ⟨[_], [_, _, _, _, _, _], _, Sub.sel [0, 1, 2, 3, 4, 5, 6] rfl, fun F' hF' => rnum_ok F' r n5 5 s (by omega) (by omega) hs (by omega), ?_⟩
          rintro e A' (⟨p, hp, rfl, rfl⟩ | ⟨hp, rfl, rfl⟩)
          rotate_left
          · conv => whnf
            exact ⟨_, Sub.sel [] rfl, .inr ⟨by (rw [hrk, tkList_none (k := i + 1) (by omega) (by rw [hstep, show tkItem (Tb s) n5 = none by unfold tkItem; rw [hp]; rfl]; rfl)]; rfl), rfl, rfl⟩⟩
          have hn6 := tk_le hp (by omega)
          conv => whnf
          refine LoadV.a 1 rfl (Nat.le_of_ble_eq_true rfl) ?_
          conv => whnf
          have hno7 : tkItem (Tb s) n5 = none → tkRk (Tb s) n = none := fun e => by
            rw [hrk, tkList_none (k := i + 1) (by omega) (by rw [hstep, e]; rfl)]; rfl
          refine CallS.mk Try.call67 ⟨[_], [_, _, _, _, _, _], _, Sub.sel [0, 1, 2, 3, 4, 5, 6] rfl, fun F' hF' => rnum_ok F' r p.2 7 s (by omega) (by omega) hs (by omega), ?_⟩
          rintro e A' (⟨q, hq, rfl, rfl⟩ | ⟨hq, rfl, rfl⟩)
          rotate_left
          · conv => whnf
            exact ⟨_, Sub.sel [] rfl, .inr ⟨by (refine hno7 ?_; unfold tkItem; rw [hp]; show (tk (Tb s) 7 p.2).bind _ = none; rw [hq]; rfl), rfl, rfl⟩⟩
          have hn7 := tk_le hq (by omega)
          conv => whnf
          cases hx8 : tkBox (Tb s) q.2 with
          | none =>
            have hno : tkRk (Tb s) n = none := hno7 (by unfold tkItem; rw [hp]; show (tk (Tb s) 7 p.2).bind _ = none; rw [hq]; show (tkBox (Tb s) q.2).map _ = none; rw [hx8]; rfl)
            refine SL.Fail.draw [5, 6, 7, 8, 10] [_, _] (fun c H => c = shortC) (by kernel_rfl) (by kernel_rfl) (by kernel_rfl) (by kernel_rfl) (by kernel_rfl) (Sub.sel [4, 5] rfl) (fun c f' H' _ hc => ⟨[], fun _ _ hs => Sat.drop (A := H') (by simpa using hs), .inr ⟨hno, by rw [hc], rfl⟩⟩) ?_
            conv => whnf
            refine LoadV.s rfl rfl (forceV_of ?_)
            conv => whnf
            refine LoadV.a 1 rfl (Nat.le_of_ble_eq_true rfl) ?_
            conv => whnf
            refine SL.Fail.EffG.callp rfl (.agg (bxF (0, 0, 0, 0)).toArray) ?_ rfl rfl rfl Try.call86 ⟨[_], [_, _, _, _, _, _], _, Sub.sel [0, 1, 2, 3, 4, 5, 6] rfl, fun F' hF' => rbox_ok F' r q.2 s hs (by omega), ?_⟩ ?_
            · exact Sub.sel [4, 5] rfl
            · rintro e A' (⟨p', hq2, _⟩ | ⟨_, rfl, rfl⟩)
              · rw [hx8] at hq2; cases hq2
              · conv => whnf
            · conv => whnf
              refine SL.Fail.EffG.ghost rfl (undef) (Sub.sel [4, 5] rfl) ?_
              conv => whnf
              refine SL.Fail.EffG.ghost rfl (.slice none 0 0) (Sub.sel [4, 5] rfl) ?_
              conv => whnf
              refine SL.Fail.EffG.ghost rfl (.slice none 0 0) (Sub.sel [4, 5] rfl) ?_
              conv => whnf
              refine SL.Fail.EffG.ghost rfl (undef) (Sub.sel [4, 5] rfl) ?_
              conv => whnf
              intro h
              cases h
          | some x8 =>
            have hst : tkItem (Tb s) n5 = some (((p.1 : Int), (q.1 : Int), x8.1), x8.2) := by unfold tkItem; rw [hp]; show (tk (Tb s) 7 p.2).bind _ = _; rw [hq]; show (tkBox (Tb s) q.2).map _ = _; rw [hx8]; rfl
            rw [hst] at hstep
            refine SL.Late.drawLate [5, 6, 7, 8, 10] [1] [10] [_] [_] (by kernel_rfl) (by kernel_rfl) (by kernel_rfl) (by kernel_rfl) (by kernel_rfl) (by kernel_rfl) (by kernel_rfl) (Sub.sel [5] rfl) (Sub.sel [4] rfl) ?_
            conv => whnf
            refine LoadV.s rfl rfl (forceV_of ?_)
            conv => whnf
            refine LoadV.a 1 rfl (Nat.le_of_ble_eq_true rfl) ?_
            conv => whnf
            refine CallS.mk Try.call86 ⟨[_], [_, _, _, _, _, _], _, Sub.sel [0, 1, 2, 3, 4, 5, 6] rfl, fun F' hF' => rbox_ok F' r q.2 s hs (by omega), ?_⟩
            rintro e A' (⟨p', hp', rfl, rfl⟩ | ⟨hp', _⟩)
            rotate_left
            · rw [hx8] at hp'; cases hp'
            rw [hx8] at hp'
            cases hp'
            conv => whnf
            refine ⟨⟨Sub.sel [5] rfl, fun _ => Sub.sel [4] rfl⟩, ?_⟩
            conv => whnf
            refine ⟨⟨Sub.sel [5] rfl, fun _ => Sub.sel [4] rfl⟩, ?_⟩
            conv => whnf
            intro bl
            conv => whnf
            refine ⟨⟨Sub.sel [6] rfl, fun _ => Sub.sel [5] rfl⟩, ?_⟩
            conv => whnf
            refine BuiltV.append (sv := svOf g xs.length) (m := 1) Try.underlying23 rfl rfl rfl rfl (by decide) (Row.cells 6) rfl (by decide) rfl (by show (xs.length + 1) * 48 ≤ _; omega) (by omega) fun gb gc => ?_
            conv => whnf
            refine ⟨⟨Sub.sel [6] rfl, fun _ => Sub.sel [5] rfl⟩, ?_⟩
            conv => whnf
            refine StoreV.c rfl rfl (Nat.le_of_ble_eq_true rfl) rfl ?_
            conv => whnf
            refine ⟨⟨Sub.sel [6] rfl, fun h => by cases h⟩, ?_⟩
            conv => whnf
            refine ArI.to64 ((i + 1 : Nat) : Int) (by omega) (by omega) ?_
            conv => whnf
            refine ⟨(i + 1, (xs ++ [((p.1 : Int), (q.1 : Int), x8.1)], x8.2), some (gb, gc)), _, by dsimp only; omega, Sub.sel [1, 2, 3, 4, 5, 6, 7] rfl, ⟨by dsimp only; omega, hstep, by simp⟩, ⟨rfl, rfl, rfl, rfl, rfl, trivial⟩, ?_⟩
            dsimp only [ownI]
            rw [own_snocF itemF]
            simp only [List.length_append]
            rfl
        · have hie : i = xd.1 := by omega
          conv => whnf
          refine LoadV.a 4 rfl (Nat.le_of_ble_eq_true rfl) ?_
          conv => whnf
          refine StoreV.c rfl rfl (Nat.le_of_ble_eq_true rfl) rfl ?_
          conv => whnf
          refine RetI.cell Try.results68 rfl ?_
          refine LoadV.a 4 rfl (Nat.le_of_ble_eq_true rfl) ?_
          conv => whnf
          refine ⟨_, Sub.sel [0, 1, 2, 3] rfl, .inl ⟨(⟨(a.1 : Int), xb.1, xc.1, xs⟩, n5), gL, gJ, g, ?_, ⟨hgL, hgJ, hg⟩, rfl, rfl⟩⟩
          rw [hrk, ← hie, hx]; rfl
end Go.Proofs.Ytlbdnkkaacccoaa
