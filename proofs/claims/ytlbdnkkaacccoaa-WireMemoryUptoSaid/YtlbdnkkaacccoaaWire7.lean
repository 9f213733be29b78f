/- The program's reader of messages: the reply, the sealed text. -/
import Derived.Test.YtlbdnkkaacccoaaWire6
namespace Go.Proofs.Ytlbdnkkaacccoaa
set_option linter.unusedVariables false
set_option linter.unusedSimpArgs false
set_option maxRecDepth 100000
open SL Go.RowKit Go.Maps
def zb : Bx := (0, 0, 0, 0)
structure Rp where
  w : Int
  s : Int
  e : Int
  b0 : Bx
  b1 : Bx
  b2 : Bx
def rpCells (w s e : Int) (x y z : Bx) : List Value := [.int .i64 w, .int .i64 s, .int .i64 e, .int .i64 x.1, .int .i64 x.2.1, .int .i64 x.2.2.1, .int .i64 x.2.2.2, .int .i64 y.1, .int .i64 y.2.1, .int .i64 y.2.2.1, .int .i64 y.2.2.2, .int .i64 z.1, .int .i64 z.2.1, .int .i64 z.2.2.1, .int .i64 z.2.2.2]
def tkRp (T : List Bool) (n : Nat) : Option (Rp × Nat) := (tk T 8 n).bind fun a => (tk T 6 a.2).bind fun b => (tk T 8 b.2).bind fun c => (tkList (tkBox T) 3 c.2).map fun d => (⟨(a.1 : Int), (b.1 : Int), (c.1 : Int), d.1.getD 0 zb, d.1.getD 1 zb, d.1.getD 2 zb⟩, d.2)
theorem len0 {α : Type} {l : List α} (h : l.length = 0) : l = [] := List.eq_nil_of_length_eq_zero h
theorem len1 {α : Type} {l : List α} (h : l.length = 1) : ∃ x, l = [x] := by
  match l, h with
  | [x], _ => exact ⟨x, rfl⟩
theorem len2 {α : Type} {l : List α} (h : l.length = 2) : ∃ x y, l = [x, y] := by
  match l, h with
  | [x, y], _ => exact ⟨x, y, rfl⟩
set_option maxHeartbeats 4000000 in
theorem rreply_ok (F : Mem) (r n : Nat) (s : ByteArray) (hs : s.size ≤ 140737488355328) (hn : n ≤ 8 * s.size) :
    FT Try.prog 69 [.agg #[.pointer (some ⟨r, 0, none⟩)]].toArray F (rdH r n s)
    (fun e H => (∃ p, tkRp (Tb s) n = some p ∧ e = .returned (.agg (rpCells p.1.w p.1.s p.1.e p.1.b0 p.1.b1 p.1.b2).toArray) ∧ H = rdH r p.2 s) ∨ (tkRp (Tb s) n = none ∧ e = .panicked shortC ∧ H = [])) := by
  have hTl := Tb_length s
  refine FT.of_body Try.func69 rfl Try.ntmps69 (by simp) fun C hC => ?_
  subst hC
  conv => whnf
  intro b
  conv => whnf
  intro c
  conv => whnf
  cases ha : tk (Tb s) 8 n with
  | none =>
    have hno : tkRp (Tb s) n = none := by unfold tkRp; rw [ha]; rfl
    refine SL.Fail.drawA [1, 3, 5, 7, 8] [_] (fun c H => c = shortC) 7 (rpCells 0 0 0 zb zb zb) 34 (by kernel_rfl) (by kernel_rfl) (by kernel_rfl) (by kernel_rfl) (by kernel_rfl) (by kernel_rfl) (by kernel_rfl) (by kernel_rfl) (fun o ho a w => by cases ho; rfl) (Sub.sel [1] rfl) (fun c f' H' _ hc => ⟨[], fun _ _ hs => Sat.drop (A := H') (by simpa using hs), .inr ⟨hno, by rw [hc], rfl⟩⟩) ?_
    conv => whnf
    refine LoadV.a 1 rfl (Nat.le_of_ble_eq_true rfl) ?_
    conv => whnf
    refine SL.Fail.EffG.callp rfl (.int .i64 0) ?_ rfl rfl rfl Try.call67 ⟨[_], [_, _], _, Sub.sel [2, 0, 1] rfl, fun F' hF' => rnum_ok F' r n 8 s (by omega) (by omega) hs hn, ?_⟩ ?_
    · exact Sub.sel [1] rfl
    · rintro e A' (⟨q, hq2, _⟩ | ⟨_, rfl, rfl⟩)
      · rw [ha] at hq2; cases hq2
      · conv => whnf
    · conv => whnf
      refine LoadV.a 1 rfl (Nat.le_of_ble_eq_true rfl) ?_
      conv => whnf
      refine SL.Fail.EffG.ghost rfl (.int .i64 0) (Sub.sel [1] rfl) ?_
      conv => whnf
      refine LoadV.a 1 rfl (Nat.le_of_ble_eq_true rfl) ?_
      conv => whnf
      refine SL.Fail.EffG.ghost rfl (.int .i64 0) (Sub.sel [1] rfl) ?_
      conv => whnf
      intro d
      conv => whnf
      refine SL.Fail.EffG.ghost rfl (undef) (Sub.sel [2] rfl) ?_
      conv => whnf
      intro h
      cases h
  | some a =>
    have hn1 : a.2 ≤ 8 * s.size := by have := tk_le ha (by omega); omega
    cases hb : tk (Tb s) 6 a.2 with
    | none =>
      have hno : tkRp (Tb s) n = none := by unfold tkRp; rw [ha]; show (tk (Tb s) 6 a.2).bind _ = none; rw [hb]; rfl
      refine SL.Fail.drawA [1, 3, 5, 7, 8] [_] (fun c H => c = shortC) 7 (rpCells 0 0 0 zb zb zb) 34 (by kernel_rfl) (by kernel_rfl) (by kernel_rfl) (by kernel_rfl) (by kernel_rfl) (by kernel_rfl) (by kernel_rfl) (by kernel_rfl) (fun o ho a w => by cases ho; rfl) (Sub.sel [1] rfl) (fun c f' H' _ hc => ⟨[], fun _ _ hs => Sat.drop (A := H') (by simpa using hs), .inr ⟨hno, by rw [hc], rfl⟩⟩) ?_
      conv => whnf
      refine LoadV.a 1 rfl (Nat.le_of_ble_eq_true rfl) ?_
      conv => whnf
      refine SL.Fail.EffG.call rfl rfl rfl rfl Try.call67 ⟨[_], [_, _], _, Sub.sel [2, 0, 1] rfl, fun F' hF' => rnum_ok F' r n 8 s (by omega) (by omega) hs hn, ?_⟩
      rintro e A' (⟨p, hp, rfl, rfl⟩ | ⟨hp, _⟩)
      rotate_left
      · rw [ha] at hp; cases hp
      rw [ha] at hp
      cases hp
      conv => whnf
      refine ⟨Sub.sel [2] rfl, ?_⟩
      conv => whnf
      refine LoadV.a 1 rfl (Nat.le_of_ble_eq_true rfl) ?_
      conv => whnf
      refine SL.Fail.EffG.callp rfl (.int .i64 0) ?_ rfl rfl rfl Try.call67 ⟨[_], [_, _], _, Sub.sel [0, 1, 2] rfl, fun F' hF' => rnum_ok F' r a.2 6 s (by omega) (by omega) hs hn1, ?_⟩ ?_
      · exact Sub.sel [2] rfl
      · rintro e A' (⟨q, hq2, _⟩ | ⟨_, rfl, rfl⟩)
        · rw [hb] at hq2; cases hq2
        · conv => whnf
      · conv => whnf
        refine LoadV.a 1 rfl (Nat.le_of_ble_eq_true rfl) ?_
        conv => whnf
        refine SL.Fail.EffG.ghost rfl (.int .i64 0) (Sub.sel [2] rfl) ?_
        conv => whnf
        intro d
        conv => whnf
        refine SL.Fail.EffG.ghost rfl (undef) (Sub.sel [3] rfl) ?_
        conv => whnf
        intro h
        cases h
    | some xb =>
      have hn2 : xb.2 ≤ 8 * s.size := by have := tk_le hb (by omega); omega
      cases hc : tk (Tb s) 8 xb.2 with
      | none =>
        have hno : tkRp (Tb s) n = none := by unfold tkRp; rw [ha]; show (tk (Tb s) 6 a.2).bind _ = none; rw [hb]; show (tk (Tb s) 8 xb.2).bind _ = none; rw [hc]; rfl
        refine SL.Fail.drawA [1, 3, 5, 7, 8] [_] (fun c H => c = shortC) 7 (rpCells 0 0 0 zb zb zb) 34 (by kernel_rfl) (by kernel_rfl) (by kernel_rfl) (by kernel_rfl) (by kernel_rfl) (by kernel_rfl) (by kernel_rfl) (by kernel_rfl) (fun o ho a w => by cases ho; rfl) (Sub.sel [1] rfl) (fun c f' H' _ hc => ⟨[], fun _ _ hs => Sat.drop (A := H') (by simpa using hs), .inr ⟨hno, by rw [hc], rfl⟩⟩) ?_
        conv => whnf
        refine LoadV.a 1 rfl (Nat.le_of_ble_eq_true rfl) ?_
        conv => whnf
        refine SL.Fail.EffG.call rfl rfl rfl rfl Try.call67 ⟨[_], [_, _], _, Sub.sel [2, 0, 1] rfl, fun F' hF' => rnum_ok F' r n 8 s (by omega) (by omega) hs hn, ?_⟩
        rintro e A' (⟨p, hp, rfl, rfl⟩ | ⟨hp, _⟩)
        rotate_left
        · rw [ha] at hp; cases hp
        rw [ha] at hp
        cases hp
        conv => whnf
        refine ⟨Sub.sel [2] rfl, ?_⟩
        conv => whnf
        refine LoadV.a 1 rfl (Nat.le_of_ble_eq_true rfl) ?_
        conv => whnf
        refine SL.Fail.EffG.call rfl rfl rfl rfl Try.call67 ⟨[_], [_, _], _, Sub.sel [0, 1, 2] rfl, fun F' hF' => rnum_ok F' r a.2 6 s (by omega) (by omega) hs hn1, ?_⟩
        rintro e A' (⟨p, hp, rfl, rfl⟩ | ⟨hp, _⟩)
        rotate_left
        · rw [hb] at hp; cases hp
        rw [hb] at hp
        cases hp
        conv => whnf
        refine ⟨Sub.sel [2] rfl, ?_⟩
        conv => whnf
        refine LoadV.a 1 rfl (Nat.le_of_ble_eq_true rfl) ?_
        conv => whnf
        refine SL.Fail.EffG.callp rfl (.int .i64 0) ?_ rfl rfl rfl Try.call67 ⟨[_], [_, _], _, Sub.sel [0, 1, 2] rfl, fun F' hF' => rnum_ok F' r xb.2 8 s (by omega) (by omega) hs hn2, ?_⟩ ?_
        · exact Sub.sel [2] rfl
        · rintro e A' (⟨q, hq2, _⟩ | ⟨_, rfl, rfl⟩)
          · rw [hc] at hq2; cases hq2
          · conv => whnf
        · conv => whnf
          intro d
          conv => whnf
          refine SL.Fail.EffG.ghost rfl (undef) (Sub.sel [3] rfl) ?_
          conv => whnf
          intro h
          cases h
      | some xc =>
        have hn3 : xc.2 ≤ 8 * s.size := by have := tk_le hc (by omega); omega
        refine SL.Fail.drawA [1, 3, 5, 7, 8] [_] (fun _ _ => False) 7 (rpCells 0 0 0 zb zb zb) 34 (by kernel_rfl) (by kernel_rfl) (by kernel_rfl) (by kernel_rfl) (by kernel_rfl) (by kernel_rfl) (by kernel_rfl) (by kernel_rfl) (fun o ho a w => by cases ho; rfl) (Sub.sel [1] rfl) (fun _ _ _ _ h => h.elim) ?_
        conv => whnf
        refine LoadV.a 1 rfl (Nat.le_of_ble_eq_true rfl) ?_
        conv => whnf
        refine SL.Fail.EffG.call rfl rfl rfl rfl Try.call67 ⟨[_], [_, _], _, Sub.sel [2, 0, 1] rfl, fun F' hF' => rnum_ok F' r n 8 s (by omega) (by omega) hs hn, ?_⟩
        rintro e A' (⟨p, hp, rfl, rfl⟩ | ⟨hp, _⟩)
        rotate_left
        · rw [ha] at hp; cases hp
        rw [ha] at hp
        cases hp
        conv => whnf
        refine ⟨Sub.sel [2] rfl, ?_⟩
        conv => whnf
        refine LoadV.a 1 rfl (Nat.le_of_ble_eq_true rfl) ?_
        conv => whnf
        refine SL.Fail.EffG.call rfl rfl rfl rfl Try.call67 ⟨[_], [_, _], _, Sub.sel [0, 1, 2] rfl, fun F' hF' => rnum_ok F' r a.2 6 s (by omega) (by omega) hs hn1, ?_⟩
        rintro e A' (⟨p, hp, rfl, rfl⟩ | ⟨hp, _⟩)
        rotate_left
        · rw [hb] at hp; cases hp
        rw [hb] at hp
        cases hp
        conv => whnf
        refine ⟨Sub.sel [2] rfl, ?_⟩
        conv => whnf
        refine LoadV.a 1 rfl (Nat.le_of_ble_eq_true rfl) ?_
        conv => whnf
        refine SL.Fail.EffG.call rfl rfl rfl rfl Try.call67 ⟨[_], [_, _], _, Sub.sel [0, 1, 2] rfl, fun F' hF' => rnum_ok F' r xb.2 8 s (by omega) (by omega) hs hn2, ?_⟩
        rintro e A' (⟨p, hp, rfl, rfl⟩ | ⟨hp, _⟩)
        rotate_left
        · rw [hc] at hp; cases hp
        rw [hc] at hp
        cases hp
        conv => whnf
        refine ⟨Sub.sel [2] rfl, ?_⟩
        conv => whnf
        intro d
        conv => whnf
        refine SL.Fail.EffG.ret rfl rfl ?_
        conv => whnf
        refine StoreV.c rfl rfl (Nat.le_of_ble_eq_true rfl) rfl ?_
        conv => whnf
        refine ⟨Sub.sel [3] rfl, ?_⟩
        conv => whnf
        intro _
        conv => whnf
        have hrk : tkRp (Tb s) n = (tkList (tkBox (Tb s)) 3 xc.2).map fun d => (⟨(a.1 : Int), (xb.1 : Int), (xc.1 : Int), d.1.getD 0 zb, d.1.getD 1 zb, d.1.getD 2 zb⟩, d.2) := by
          unfold tkRp; rw [ha]; show (tk (Tb s) 6 a.2).bind _ = _; rw [hb]; show (tk (Tb s) 8 xb.2).bind _ = _; rw [hc]; rfl
        refine LoopI.by_state (σ := Nat × (List Bx × Nat)) (fun x => [(1, .pointer (some ⟨b, 0, none⟩)), (2, .pointer (some ⟨c, 0, none⟩)), (3, .pointer (some ⟨d, 0, none⟩)), (12, .int .i64 (x.1 : Int))])
          (fun x => [.cells r [.int .i64 x.2.2, .string s] 119 (0, 0), .cells d (rpCells a.1 xb.1 xc.1 (x.2.1.getD 0 zb) (x.2.1.getD 1 zb) (x.2.1.getD 2 zb)) 34 (0, 0), .cells b [.pointer (some ⟨r, 0, none⟩)] 92 (0, 0), .cells c (rpCells 0 0 0 zb zb zb) 34 (0, 0)])
          (fun x => x.1 ≤ 3 ∧ tkList (tkBox (Tb s)) x.1 xc.2 = some x.2) (fun x => 3 - x.1) (0, ([], xc.2)) ⟨Nat.zero_le _, rfl⟩ ⟨rfl, rfl, rfl, rfl, trivial⟩ (Sub.sel [1, 0, 3, 2] rfl) ?_
        rintro ⟨i, ⟨xs, n5⟩⟩ f0 ⟨hi, hx⟩
        dsimp only at hi hx ⊢
        obtain ⟨hn5, hxl⟩ := tkList_le (fun n p h hn => tkBox_le h hn) _ _ _ hx (by omega)
        dsimp only at hn5 hxl
        have hstep := tkList_step hx
        dsimp only at hstep
        conv => whnf
        refine cond_dec (fun h => ?_) (fun h => ?_)
        · conv => whnf
          refine LoadV.a 1 rfl (Nat.le_of_ble_eq_true rfl) ?_
          conv => whnf
          refine CallS.mk Try.call86 ⟨[_], [_, _, _], _, Sub.sel [0, 1, 2, 3] rfl, fun F' hF' => rbox_ok F' r n5 s hs (by omega), ?_⟩
          rintro e A' (⟨p, hp, rfl, rfl⟩ | ⟨hp, rfl, rfl⟩)
          rotate_left
          · conv => whnf
            exact ⟨_, Sub.sel [] rfl, .inr ⟨by (rw [hrk, tkList_none (k := i + 1) (by omega) (by rw [hstep, hp]; rfl)]; rfl), rfl, rfl⟩⟩
          rw [hp] at hstep
          have h3 : i = 0 ∨ i = 1 ∨ i = 2 := by omega
          conv => whnf
          refine ⟨by omega, ?_⟩
          conv => whnf
          rcases h3 with rfl | rfl | rfl
          · obtain rfl := len0 hxl
            refine (show StoreV _ _ _ ⟨d, 3, none⟩ _ _ _ from ?_)
            refine StoreV.c rfl rfl (Nat.le_of_ble_eq_true rfl) rfl ?_
            conv => whnf
            refine ArI.to64 ((0 + 1 : Nat) : Int) (by omega) (by omega) ?_
            conv => whnf
            exact ⟨(0 + 1, ([] ++ [p.1], p.2)), _, by dsimp only; omega, Sub.refl _, ⟨by dsimp only; omega, hstep⟩, ⟨rfl, rfl, rfl, rfl, trivial⟩, rfl⟩
          · obtain ⟨x0, rfl⟩ := len1 hxl
            refine (show StoreV _ _ _ ⟨d, 7, none⟩ _ _ _ from ?_)
            refine StoreV.c rfl rfl (Nat.le_of_ble_eq_true rfl) rfl ?_
            conv => whnf
            refine ArI.to64 ((1 + 1 : Nat) : Int) (by omega) (by omega) ?_
            conv => whnf
            exact ⟨(1 + 1, ([x0] ++ [p.1], p.2)), _, by dsimp only; omega, Sub.refl _, ⟨by dsimp only; omega, hstep⟩, ⟨rfl, rfl, rfl, rfl, trivial⟩, rfl⟩
          · obtain ⟨x0, x1, rfl⟩ := len2 hxl
            refine (show StoreV _ _ _ ⟨d, 11, none⟩ _ _ _ from ?_)
            refine StoreV.c rfl rfl (Nat.le_of_ble_eq_true rfl) rfl ?_
            conv => whnf
            refine ArI.to64 ((2 + 1 : Nat) : Int) (by omega) (by omega) ?_
            conv => whnf
            exact ⟨(2 + 1, ([x0, x1] ++ [p.1], p.2)), _, by dsimp only; omega, Sub.refl _, ⟨by dsimp only; omega, hstep⟩, ⟨rfl, rfl, rfl, rfl, trivial⟩, rfl⟩
        · have hie : i = 3 := by omega
          conv => whnf
          refine LoadV.a 15 rfl (Nat.le_of_ble_eq_true rfl) ?_
          conv => whnf
          refine StoreV.c rfl rfl (Nat.le_of_ble_eq_true rfl) rfl ?_
          conv => whnf
          refine RetI.cell Try.results69 rfl ?_
          refine LoadV.a 15 rfl (Nat.le_of_ble_eq_true rfl) ?_
          conv => whnf
          refine ⟨_, Sub.sel [0] rfl, .inl ⟨(⟨(a.1 : Int), (xb.1 : Int), (xc.1 : Int), xs.getD 0 zb, xs.getD 1 zb, xs.getD 2 zb⟩, n5), ?_, rfl, rfl⟩⟩
          rw [hrk, ← hie, hx]; rfl
structure Se where
  e : Int
  b : Int
  s : Int
  tx : List Nat
def tkSe (T : List Bool) (n : Nat) : Option (Se × Nat) := (tk T 8 n).bind fun a => (tkKey T a.2).bind fun b => (tk T 7 b.2).bind fun c => (tkList (tk T 8) c.1 c.2).map fun d => (⟨(a.1 : Int), b.1.1, b.1.2, d.1⟩, d.2)
theorem bytes_put (A R : List Nat) (x y : Nat) : putAt (bytesV (A ++ x :: R)) (0 + A.length) [.int .u8 (y : Int)] = bytesV (A ++ y :: R) := by
  unfold putAt
  rw [Nat.zero_add]
  have := List.drop_left' (l₁ := bytesV A ++ [.int .u8 (x : Int)]) (l₂ := bytesV R) (i := A.length + 1) (by simp)
  simp at this
  simp [this]
set_option maxHeartbeats 4000000 in
theorem rsealed_ok (F : Mem) (r n : Nat) (s : ByteArray) (hs : s.size ≤ 140737488355328) (hn : n ≤ 8 * s.size) :
    FT Try.prog 70 [.agg #[.pointer (some ⟨r, 0, none⟩)]].toArray F (rdH r n s)
    (fun e H => (∃ p, tkSe (Tb s) n = some p ∧ e = .returned (.agg #[.int .i64 p.1.e, .int .i64 p.1.b, .int .i64 p.1.s, .string (strB p.1.tx)]) ∧ H = rdH r p.2 s) ∨ (tkSe (Tb s) n = none ∧ e = .panicked shortC ∧ H = [])) := by
  have hTl := Tb_length s
  refine FT.of_body Try.func70 rfl Try.ntmps70 (by simp) fun C hC => ?_
  subst hC
  conv => whnf
  intro b
  conv => whnf
  intro c
  conv => whnf
  cases ha : tk (Tb s) 8 n with
  | none =>
    have hno : tkSe (Tb s) n = none := by unfold tkSe; rw [ha]; rfl
    refine SL.Fail.drawA [1, 3, 5, 6] [_] (fun c H => c = shortC) 5 [.int .i64 0, .int .i64 0, .int .i64 0, .string ⟨#[]⟩] 36 (by kernel_rfl) (by kernel_rfl) (by kernel_rfl) (by kernel_rfl) (by kernel_rfl) (by kernel_rfl) (by kernel_rfl) (by kernel_rfl) (fun o ho a w => by cases ho; rfl) (Sub.sel [1] rfl) (fun c f' H' _ hc => ⟨[], fun _ _ hs => Sat.drop (A := H') (by simpa using hs), .inr ⟨hno, by rw [hc], rfl⟩⟩) ?_
    conv => whnf
    refine LoadV.a 1 rfl (Nat.le_of_ble_eq_true rfl) ?_
    conv => whnf
    refine SL.Fail.EffG.callp rfl (.int .i64 0) ?_ rfl rfl rfl Try.call67 ⟨[_], [_, _], _, Sub.sel [2, 0, 1] rfl, fun F' hF' => rnum_ok F' r n 8 s (by omega) (by omega) hs hn, ?_⟩ ?_
    · exact Sub.sel [1] rfl
    · rintro e A' (⟨q, hq2, _⟩ | ⟨_, rfl, rfl⟩)
      · rw [ha] at hq2; cases hq2
      · conv => whnf
    · conv => whnf
      refine LoadV.a 1 rfl (Nat.le_of_ble_eq_true rfl) ?_
      conv => whnf
      refine SL.Fail.EffG.ghost rfl (.agg #[.int .i64 0, .int .i64 0]) (Sub.sel [1] rfl) ?_
      conv => whnf
      intro d
      conv => whnf
      refine SL.Fail.EffG.ghost rfl (undef) (Sub.sel [2] rfl) ?_
      conv => whnf
      intro h
      cases h
  | some a =>
    have hn1 : a.2 ≤ 8 * s.size := by have := tk_le ha (by omega); omega
    cases hb : tkKey (Tb s) a.2 with
    | none =>
      have hno : tkSe (Tb s) n = none := by unfold tkSe; rw [ha]; show (tkKey (Tb s) a.2).bind _ = none; rw [hb]; rfl
      refine SL.Fail.drawA [1, 3, 5, 6] [_] (fun c H => c = shortC) 5 [.int .i64 0, .int .i64 0, .int .i64 0, .string ⟨#[]⟩] 36 (by kernel_rfl) (by kernel_rfl) (by kernel_rfl) (by kernel_rfl) (by kernel_rfl) (by kernel_rfl) (by kernel_rfl) (by kernel_rfl) (fun o ho a w => by cases ho; rfl) (Sub.sel [1] rfl) (fun c f' H' _ hc => ⟨[], fun _ _ hs => Sat.drop (A := H') (by simpa using hs), .inr ⟨hno, by rw [hc], rfl⟩⟩) ?_
      conv => whnf
      refine LoadV.a 1 rfl (Nat.le_of_ble_eq_true rfl) ?_
      conv => whnf
      refine SL.Fail.EffG.call rfl rfl rfl rfl Try.call67 ⟨[_], [_, _], _, Sub.sel [2, 0, 1] rfl, fun F' hF' => rnum_ok F' r n 8 s (by omega) (by omega) hs hn, ?_⟩
      rintro e A' (⟨p, hp, rfl, rfl⟩ | ⟨hp, _⟩)
      rotate_left
      · rw [ha] at hp; cases hp
      rw [ha] at hp
      cases hp
      conv => whnf
      refine ⟨Sub.sel [2] rfl, ?_⟩
      conv => whnf
      refine LoadV.a 1 rfl (Nat.le_of_ble_eq_true rfl) ?_
      conv => whnf
      refine SL.Fail.EffG.callp rfl (.agg #[.int .i64 0, .int .i64 0]) ?_ rfl rfl rfl Try.call87 ⟨[_], [_, _], _, Sub.sel [0, 1, 2] rfl, fun F' hF' => rkey_ok F' r a.2 s hs hn1, ?_⟩ ?_
      · exact Sub.sel [2] rfl
      · rintro e A' (⟨q, hq2, _⟩ | ⟨_, rfl, rfl⟩)
        · rw [hb] at hq2; cases hq2
        · conv => whnf
      · conv => whnf
        intro d
        conv => whnf
        refine SL.Fail.EffG.ghost rfl (undef) (Sub.sel [3] rfl) ?_
        conv => whnf
        intro h
        cases h
    | some xb =>
      have hn2 : xb.2 ≤ 8 * s.size := by have := (tkKey_spec hb (by omega)).2.2.2; omega
      refine SL.Fail.drawA [1, 3, 5, 6] [_] (fun _ _ => False) 5 [.int .i64 0, .int .i64 0, .int .i64 0, .string ⟨#[]⟩] 36 (by kernel_rfl) (by kernel_rfl) (by kernel_rfl) (by kernel_rfl) (by kernel_rfl) (by kernel_rfl) (by kernel_rfl) (by kernel_rfl) (fun o ho a w => by cases ho; rfl) (Sub.sel [1] rfl) (fun _ _ _ _ h => h.elim) ?_
      conv => whnf
      refine LoadV.a 1 rfl (Nat.le_of_ble_eq_true rfl) ?_
      conv => whnf
      refine SL.Fail.EffG.call rfl rfl rfl rfl Try.call67 ⟨[_], [_, _], _, Sub.sel [2, 0, 1] rfl, fun F' hF' => rnum_ok F' r n 8 s (by omega) (by omega) hs hn, ?_⟩
      rintro e A' (⟨p, hp, rfl, rfl⟩ | ⟨hp, _⟩)
      rotate_left
      · rw [ha] at hp; cases hp
      rw [ha] at hp
      cases hp
      conv => whnf
      refine ⟨Sub.sel [2] rfl, ?_⟩
      conv => whnf
      refine LoadV.a 1 rfl (Nat.le_of_ble_eq_true rfl) ?_
      conv => whnf
      refine SL.Fail.EffG.call rfl rfl rfl rfl Try.call87 ⟨[_], [_, _], _, Sub.sel [0, 1, 2] rfl, fun F' hF' => rkey_ok F' r a.2 s hs hn1, ?_⟩
      rintro e A' (⟨p, hp, rfl, rfl⟩ | ⟨hp, _⟩)
      rotate_left
      · rw [hb] at hp; cases hp
      rw [hb] at hp
      cases hp
      conv => whnf
      refine ⟨Sub.sel [2] rfl, ?_⟩
      conv => whnf
      intro d
      conv => whnf
      refine SL.Fail.EffG.ret rfl rfl ?_
      conv => whnf
      refine StoreV.c rfl rfl (Nat.le_of_ble_eq_true rfl) rfl ?_
      conv => whnf
      refine ⟨Sub.sel [3] rfl, ?_⟩
      conv => whnf
      intro _
      conv => whnf
      refine LoadV.a 1 rfl (Nat.le_of_ble_eq_true rfl) ?_
      conv => whnf
      refine CallS.mk Try.call67 ⟨[_], [_, _, _], _, Sub.sel [1, 0, 2, 3] rfl, fun F' hF' => rnum_ok F' r xb.2 7 s (by omega) (by omega) hs hn2, ?_⟩
      rintro e A' (⟨xd, hd, rfl, rfl⟩ | ⟨hd, rfl, rfl⟩)
      rotate_left
      · conv => whnf
        exact ⟨_, Sub.sel [] rfl, .inr ⟨by (unfold tkSe; rw [ha]; show (tkKey (Tb s) a.2).bind _ = none; rw [hb]; show (tk (Tb s) 7 xb.2).bind _ = none; rw [hd]; rfl), rfl, rfl⟩⟩
      have hn4 := tk_le hd (by omega)
      have hd7 : xd.1 < 128 := (tk_lt hd).1
      have hrk : tkSe (Tb s) n = (tkList (tk (Tb s) 8) xd.1 xd.2).map fun d => (⟨(a.1 : Int), xb.1.1, xb.1.2, d.1⟩, d.2) := by
        unfold tkSe; rw [ha]; show (tkKey (Tb s) a.2).bind _ = _; rw [hb]; show (tk (Tb s) 7 xb.2).bind _ = _; rw [hd]; rfl
      conv => whnf
      refine DoV.makeSlice Try.underlying48 rfl rfl rfl rfl (by omega) (by show (1 : Int) * xd.1 ≤ _; omega) (by omega) fun b2 => ?_
      conv => whnf
      refine LoopI.by_state (σ := Nat × (List Nat × Nat)) (fun x => [(1, .pointer (some ⟨b, 0, none⟩)), (2, .pointer (some ⟨c, 0, none⟩)), (3, .pointer (some ⟨d, 0, none⟩)), (4, .slice (some ⟨b2, 0, none⟩) xd.1 xd.1), (15, .int .i64 (xd.1 : Int)), (16, .int .i64 (x.1 : Int))])
        (fun x => [.cells r [.int .i64 x.2.2, .string s] 119 (0, 0), .cells b2 (bytesV (x.2.1 ++ List.replicate (xd.1 - x.1) 0)) 5 (0, 0), .cells d [.int .i64 (a.1 : Int), .int .i64 xb.1.1, .int .i64 xb.1.2, .string ⟨#[]⟩] 36 (0, 0), .cells b [.pointer (some ⟨r, 0, none⟩)] 92 (0, 0), .cells c [.int .i64 0, .int .i64 0, .int .i64 0, .string ⟨#[]⟩] 36 (0, 0)])
        (fun x => x.1 ≤ xd.1 ∧ tkList (tk (Tb s) 8) x.1 xd.2 = some x.2) (fun x => xd.1 - x.1) (0, ([], xd.2)) ⟨Nat.zero_le _, rfl⟩ ⟨rfl, rfl, rfl, rfl, rfl, rfl, trivial⟩ (by simp only [List.nil_append, Nat.sub_zero, bytesV, List.map_replicate]; exact Sub.sel [1, 0, 2, 4, 3] rfl) ?_
      rintro ⟨i, ⟨xs, n5⟩⟩ f0 ⟨hi, hx⟩
      dsimp only at hi hx ⊢
      obtain ⟨hn5, hxl⟩ := tkList_le (fun n p h hn => tk_le h hn) _ _ _ hx (by omega)
      dsimp only at hn5 hxl
      have hstep := tkList_step hx
      dsimp only at hstep
      conv => whnf
      refine cond_dec (fun h => ?_) (fun h => ?_)
      · obtain ⟨k, hk⟩ : ∃ k, xd.1 - i = k + 1 := ⟨xd.1 - i - 1, by omega⟩
        rw [hk, List.replicate_succ]
        conv => whnf
        refine LoadV.a 1 rfl (Nat.le_of_ble_eq_true rfl) ?_
        conv => whnf
        refine CallS.mk Try.call67 ⟨[_], [_, _, _, _], _, Sub.sel [0, 1, 2, 3, 4] rfl, fun F' hF' => rnum_ok F' r n5 8 s (by omega) (by omega) hs (by omega), ?_⟩
        rintro e A' (⟨p, hp, rfl, rfl⟩ | ⟨hp, rfl, rfl⟩)
        rotate_left
        · conv => whnf
          exact ⟨_, Sub.sel [] rfl, .inr ⟨by (rw [hrk, tkList_none (k := i + 1) (by omega) (by rw [hstep, hp]; rfl)]; rfl), rfl, rfl⟩⟩
        rw [hp] at hstep
        have hp8 : p.1 < 256 := (tk_lt hp).1
        conv => whnf
        refine ArI.inU8 (by omega) ?_
        conv => whnf
        refine ⟨by omega, ?_⟩
        conv => whnf
        rw [elemOff_nat]
        rotate_left
        · kernel_rfl
        refine StoreV.c (l := bytesV (xs ++ 0 :: List.replicate k 0)) rfl rfl (by show 0 + i + 1 ≤ _; simp; omega) rfl ?_
        rw [show putAt (bytesV (xs ++ 0 :: List.replicate k 0)) (0 + i) (Value.int .u8 (p.1 : Int)).cells.toList = bytesV (xs ++ p.1 :: List.replicate k 0) by rw [← hxl]; exact bytes_put _ _ _ _]
        conv => whnf
        refine ArI.to64 ((i + 1 : Nat) : Int) (by omega) (by omega) ?_
        conv => whnf
        refine ⟨(i + 1, (xs ++ [p.1], p.2)), _, by dsimp only; omega, Sub.refl _, ⟨by dsimp only; omega, hstep⟩, ⟨rfl, rfl, rfl, rfl, rfl, rfl, trivial⟩, ?_⟩
        dsimp only
        rw [show xd.1 - (i + 1) = k by omega, List.append_assoc]
        rfl
      · have hie : i = xd.1 := by omega
        rw [show xd.1 - i = 0 by omega, List.replicate_zero, List.append_nil]
        conv => whnf
        refine DoV.bytes_string (l := xs) Try.underlying48 Try.underlying5 Try.underlying9 (by omega) (by
          have := Row.cells (C := C) (H := [.cells r [.int .i64 (n5 : Int), .string s] 119 (0, 0), .cells b2 (bytesV xs) 5 (0, 0), .cells d [.int .i64 (a.1 : Int), .int .i64 xb.1.1, .int .i64 xb.1.2, .string ⟨#[]⟩] 36 (0, 0), .cells b [.pointer (some ⟨r, 0, none⟩)] 92 (0, 0), .cells c [.int .i64 0, .int .i64 0, .int .i64 0, .string ⟨#[]⟩] 36 (0, 0)]) (b := b2) (o := 0) xs.length
          rwa [List.drop_zero, List.take_of_length_le (by simp)] at this) ?_
        conv => whnf
        refine StoreV.c rfl rfl (Nat.le_of_ble_eq_true rfl) rfl ?_
        conv => whnf
        refine LoadV.a 4 rfl (Nat.le_of_ble_eq_true rfl) ?_
        conv => whnf
        refine StoreV.c rfl rfl (Nat.le_of_ble_eq_true rfl) rfl ?_
        conv => whnf
        refine RetI.cell Try.results70 rfl ?_
        refine LoadV.a 4 rfl (Nat.le_of_ble_eq_true rfl) ?_
        conv => whnf
        refine ⟨_, Sub.sel [0] rfl, .inl ⟨(⟨(a.1 : Int), xb.1.1, xb.1.2, xs⟩, n5), ?_, rfl, rfl⟩⟩
        rw [hrk, ← hie, hx]; rfl
end Go.Proofs.Ytlbdnkkaacccoaa
