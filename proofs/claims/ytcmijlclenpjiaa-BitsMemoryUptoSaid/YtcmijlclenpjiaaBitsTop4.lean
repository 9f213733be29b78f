/- The laws of the bits, as contracts: what is handed in stays, what is answered is new. -/
import Derived.Test.YtcmijlclenpjiaaBitsTop
namespace Go.Proofs.Ytcmijlclenpjiaa
open SL Go.RowKit Go.Maps

abbrev u64I (l : List Int) : List Value := l.map (Value.int .u64)
theorem u64I_put (L : List Int) (i : Nat) (y : Int) (h : i < L.length) : putAt (u64I L) (0 + i) [.int .u64 y] = u64I (L.set i y) := by
  rw [Nat.zero_add, List.set_eq_take_append_cons_drop, if_pos h]; simp [putAt]
set_option maxHeartbeats 4000000 in
theorem BitsMemory_ok (F : Mem) (s : ByteArray) (ob : Option Addr) (cb : Nat) (ws : List Int) (hs : s.size ≤ 1048576) (hv : SlF F 1 ob ws.length (intsV ws)) (hc : ob = none → cb = 0) (hm : ws.length ≤ 1048576) :
    FT Try.prog 8 [.string s, .slice ob ws.length cb].toArray F [] (Ret (.bool true)) := by
  refine FT.of_body Try.func8 rfl Try.ntmps8 (by simp) fun C hC => ?_
  subst hC
  conv => whnf
  refine CallS.mk Try.call9 ⟨[], _, _, Sub.refl _, fun F' hF' => lives03_ok F', ?_⟩
  rintro e A' ⟨rfl, rfl⟩
  conv => whnf
  intro b0
  conv => whnf
  refine BuiltV.sub (Sub.own (n := 0) (sz := 1) rfl (by decide)) ?_
  refine BuiltV.append_sv (g := some (b0, 0)) (n := 0) (sz := 1) Try.underlying23 rfl rfl rfl rfl (by decide) (Src.foreign hv hc) (by simp) (by simp [Value.oneCell']) (by show (0 + ws.length) * 8 ≤ _; omega) (by omega) fun g hg => ?_
  obtain ⟨g0b, g0c, rfl⟩ : ∃ b c, g = some (b, c) := by
    cases g with
    | none => exact absurd (hg.1 rfl).1 (by simp)
    | some p => exact ⟨p.1, p.2, rfl⟩
  conv => whnf
  intro b1
  conv => whnf
  refine BuiltV.append (sv := svOf (some (g0b, g0c)) (0 + ws.length)) (m := 1) Try.underlying23 rfl rfl rfl rfl (by decide) (Row.cells 1) rfl (by decide) rfl (by show (0 + ws.length + 1) * 8 ≤ _; omega) (by omega) fun gb gc => ?_
  rw [show (([] : List Value) ++ intsV ws) ++ List.take 1 (List.drop 0 [Value.int .i64 (-77)]) = intsV ws ++ [.int .i64 (-77)] from rfl, Nat.zero_add]
  conv => whnf
  refine DoV.slice_own Try.underlying23 rfl (by omega) (by omega) ?_
  conv => whnf
  refine CallS.mk Try.call13 ⟨[], _, _, Sub.refl _, fun F' hF' => rUnpack_ok F' ob cb s ws (hv.ext hF'.F) (by omega) (by omega), ?_⟩
  have hll := unpackR_le (T := textBits (txt s)) (ws := ws)
  have hun := fun (F' : Mem) (h : SlF F' 1 (some ⟨gb, 0, none⟩) ws.length (intsV ws)) => bUnpack_ok F' (some ⟨gb, 0, none⟩) gc s ws h (by omega) (by omega)
  generalize unpackR (unpackB (textBits (txt s)) ws) = R at hll hun ⊢
  obtain ⟨l, er⟩ := R
  dsimp only at hll hun ⊢
  rintro e A' ⟨gw, hgw, rfl, rfl⟩
  have hpre : (intsV ws ++ [Value.int .i64 (-77)]).take (ws.length * 1) = intsV ws := by rw [Nat.mul_one, List.take_append_of_le_length (by simp), List.take_of_length_le (by simp)]
  conv => whnf
  refine CallS.mk Try.call12 ⟨[], _, _, Sub.refl _, fun F' hF' => hun F' (by have := SlF.own_pre (n := ws.length) (sz := 1) (b := gb) hF' (by simp); rwa [hpre] at this), ?_⟩
  rintro e A' ⟨g1, hg1, rfl, rfl⟩
  conv => whnf
  refine CallS.mk Try.call12 ⟨[], _, _, Sub.refl _, fun F' hF' => hun F' (by have := SlF.own_pre (n := ws.length) (sz := 1) (b := gb) hF' (by simp); rwa [hpre] at this), ?_⟩
  rintro e A' ⟨g2, hg2, rfl, rfl⟩
  conv => whnf
  refine cond_of_false (bne_self_eq_false _) ?_
  conv => whnf
  refine cond_of_false (bne_self_eq_false _) ?_
  conv => whnf
  refine CallS.mk Try.call14 ⟨[], _, _, Sub.refl _, fun F' hF' => rSame_ok F' (oaOf g1) (oaOf gw) (capOf g1) (capOf gw) l l (SlF.sv hF' (T := 33) (by simp) (fun e => by rw [hg1.1 e]; rfl)) (SlF.sv hF' (T := 33) (by simp) (fun e => by rw [hgw.1 e]; rfl)) (by omega), ?_⟩
  rw [show decide (l = l) = true from decide_eq_true rfl]
  rintro e A' ⟨rfl, rfl⟩
  conv => whnf
  refine CallS.mk Try.call14 ⟨[], _, _, Sub.refl _, fun F' hF' => rSame_ok F' (oaOf g2) (oaOf gw) (capOf g2) (capOf gw) l l (SlF.sv hF' (T := 33) (by simp) (fun e => by rw [hg2.1 e]; rfl)) (SlF.sv hF' (T := 33) (by simp) (fun e => by rw [hgw.1 e]; rfl)) (by omega), ?_⟩
  rw [show decide (l = l) = true from decide_eq_true rfl]
  rintro e A' ⟨rfl, rfl⟩
  conv => whnf
  refine ⟨by omega, ?_⟩
  conv => whnf
  refine LoadV.os (off := elemOff 0 (ws.length : Int) 1) rfl (v := .int .i64 (-77)) (by show (intsV ws ++ [Value.int .i64 (-77)])[0 + ws.length]? = _; rw [Nat.zero_add]; simp) ?_
  conv => whnf
  refine LoopI.by_state (σ := Nat) (fun i => [(1, .slice ob ws.length cb), (6, .slice (some ⟨gb, 0, none⟩) ws.length gc), (7, svOf gw l.length), (9, svOf g1 l.length), (11, svOf g2 l.length), (73, .int .i64 (ws.length : Int)), (74, .int .i64 (i : Int))])
    (fun _ => [.own (.slice (some ⟨gb, 0, none⟩) (ws.length + 1) gc) (ws.length + 1) 3 1 (intsV ws ++ [.int .i64 (-77)]), .own (svOf g1 l.length) l.length 33 1 (u64V l), .own (svOf g2 l.length) l.length 33 1 (u64V l), .own (svOf gw l.length) l.length 33 1 (u64V l)])
    (fun i => i ≤ ws.length) (fun i => ws.length - i) 0 (Nat.zero_le _) ⟨rfl, rfl, rfl, rfl, rfl, rfl, rfl, trivial⟩ (Sub.sel [4, 1, 0, 2] rfl) ?_
  intro i f0 hi
  conv => whnf
  refine cond_dec (fun h => ?_) (fun h => ?_)
  · have hil : i < ws.length := by omega
    obtain ⟨xa, ya, rfl, hra⟩ := hv.at (i := i) hil
    conv => whnf
    repeat (first | (refine LoadV.s rfl rfl (forceV_of ?_); conv => whnf) | (refine LoadV.s rfl rfl ?_; conv => whnf) | (refine StoreV.c rfl rfl (Nat.le_of_ble_eq_true rfl) rfl ?_; conv => whnf) | (refine LoadV.a _ rfl (Nat.le_of_ble_eq_true rfl) ?_; conv => whnf) | (refine DrawI.quiet (by kernel_rfl) (by kernel_rfl) ?_; conv => whnf) | (refine RetI.one Try.results8 rfl ?_; conv => whnf) | (refine RetI.two Try.results8 rfl rfl ?_; conv => whnf) | (refine RetI.three Try.results8 rfl rfl rfl ?_; conv => whnf) | (refine RetI.none Try.results8 ?_; conv => whnf) | (refine ⟨by first | decide | omega, ?_⟩; conv => whnf))
    refine LoadV.os (off := elemOff 0 (i : Int) 1) rfl (v := .int .i64 ws[i]) (by show (intsV ws ++ [Value.int .i64 (-77)])[0 + i]? = _; rw [Nat.zero_add, List.getElem?_append_left (by simpa using hil), List.getElem?_map, List.getElem?_eq_getElem hil]; rfl) ?_
    conv => whnf
    repeat (first | (refine LoadV.s rfl rfl (forceV_of ?_); conv => whnf) | (refine LoadV.s rfl rfl ?_; conv => whnf) | (refine StoreV.c rfl rfl (Nat.le_of_ble_eq_true rfl) rfl ?_; conv => whnf) | (refine LoadV.a _ rfl (Nat.le_of_ble_eq_true rfl) ?_; conv => whnf) | (refine DrawI.quiet (by kernel_rfl) (by kernel_rfl) ?_; conv => whnf) | (refine RetI.one Try.results8 rfl ?_; conv => whnf) | (refine RetI.two Try.results8 rfl rfl ?_; conv => whnf) | (refine RetI.three Try.results8 rfl rfl rfl ?_; conv => whnf) | (refine RetI.none Try.results8 ?_; conv => whnf) | (refine ⟨by first | decide | omega, ?_⟩; conv => whnf))
    refine LoadV.f (hra i (.int .i64 ws[i]) (by rw [List.getElem?_map, List.getElem?_eq_getElem hil]; rfl)) rfl ?_
    conv => whnf
    refine cond_of_false (bne_self_eq_false _) ?_
    conv => whnf
    refine ArI.to64 ((i + 1 : Nat) : Int) (by omega) (by omega) ?_
    conv => whnf
    exact ⟨i + 1, _, by omega, Sub.refl _, by omega, ⟨rfl, rfl, rfl, rfl, rfl, rfl, rfl, trivial⟩, rfl⟩
  · conv => whnf
    have hu0 : u64V l = u64I (l.map fun (x : Nat) => (x : Int)) := by simp
    refine LoopI.by_state (σ := Nat × List Int) (fun x => [(7, svOf gw l.length), (9, svOf g1 l.length), (11, svOf g2 l.length), (88, .int .i64 (l.length : Int)), (89, .int .i64 (x.1 : Int))])
      (fun x => [.own (svOf g1 l.length) l.length 33 1 (u64I x.2), .own (svOf g2 l.length) l.length 33 1 (u64V l), .own (svOf gw l.length) l.length 33 1 (u64V l)])
      (fun x => x.1 ≤ l.length ∧ x.2.length = l.length) (fun x => l.length - x.1) (0, l.map fun (x : Nat) => (x : Int)) ⟨Nat.zero_le _, by simp⟩ ⟨rfl, rfl, rfl, rfl, rfl, trivial⟩ (by rw [← hu0]; exact Sub.sel [1, 2, 3] rfl) ?_
    rintro ⟨i, L⟩ f1 ⟨hi2, hL⟩
    dsimp only at hi2 hL ⊢
    conv => whnf
    refine cond_dec (fun h2 => ?_) (fun h2 => ?_)
    · have hil : i < L.length := by omega
      obtain ⟨xb, xc, rfl⟩ := gsome hg1 (by intro e; rw [e] at hL; simp only [List.length_nil] at hL; omega)
      conv => whnf
      refine ⟨by omega, ?_⟩
      conv => whnf
      refine LoadV.os (off := elemOff 0 (i : Int) 1) rfl (v := .int .u64 L[i]) (by show (u64I L)[0 + i]? = _; rw [Nat.zero_add, List.getElem?_map, List.getElem?_eq_getElem hil]; rfl) ?_
      conv => whnf
      refine ArI.keep ?_
      conv => whnf
      refine ⟨by omega, ?_⟩
      conv => whnf
      refine StoreV.os (l := u64I L) rfl rfl (by show 0 + i + 1 ≤ _; simp; omega) rfl ?_
      rw [show (Value.int IntKind.u64 (IntKind.u64.wrap (7 - L[i]))).cells.toList = [.int .u64 (IntKind.u64.wrap (7 - L[i]))] from rfl]
      rw [show elemOff 0 (i : Int) (Try.prog.types[33]'(by decide)).size = 0 + i from rfl, u64I_put L i _ hil]
      conv => whnf
      refine ArI.to64 ((i + 1 : Nat) : Int) (by omega) (by omega) ?_
      conv => whnf
      exact ⟨(i + 1, L.set i (IntKind.u64.wrap (7 - L[i]))), _, by dsimp only; omega, Sub.refl _, ⟨by dsimp only; omega, by simp [hL]⟩, ⟨rfl, rfl, rfl, rfl, rfl, trivial⟩, rfl⟩
    · conv => whnf
      intro b3
      conv => whnf
      refine BuiltV.append (sv := svOf g1 l.length) (m := 1) Try.underlying28 rfl rfl rfl rfl (by decide) (Row.cells 1) rfl (by decide) rfl (by show (l.length + 1) * 8 ≤ _; omega) (by omega) fun gb4 gc4 => ?_
      conv => whnf
      refine CallS.mk Try.call14 ⟨[], _, _, Sub.refl _, fun F' hF' => rSame_ok F' (oaOf g2) (oaOf gw) (capOf g2) (capOf gw) l l (SlF.sv hF' (T := 33) (by simp) (fun e => by rw [hg2.1 e]; rfl)) (SlF.sv hF' (T := 33) (by simp) (fun e => by rw [hgw.1 e]; rfl)) (by omega), ?_⟩
      rw [show decide (l = l) = true from decide_eq_true rfl]
      rintro e A' ⟨rfl, rfl⟩
      conv => whnf
      refine ArI.in64 (by omega) ?_
      conv => whnf
      repeat (first | (refine LoadV.s rfl rfl (forceV_of ?_); conv => whnf) | (refine LoadV.s rfl rfl ?_; conv => whnf) | (refine StoreV.c rfl rfl (Nat.le_of_ble_eq_true rfl) rfl ?_; conv => whnf) | (refine LoadV.a _ rfl (Nat.le_of_ble_eq_true rfl) ?_; conv => whnf) | (refine DrawI.quiet (by kernel_rfl) (by kernel_rfl) ?_; conv => whnf) | (refine ArI.in64 (by omega) ?_; conv => whnf) | (refine ArI.inU8 (by omega) ?_; conv => whnf) | (refine ArI.inU64 (by omega) ?_; conv => whnf) | (refine ArI.inU32 (by omega) ?_; conv => whnf) | (refine RetI.one Try.results8 rfl ?_; conv => whnf) | (refine RetI.two Try.results8 rfl rfl ?_; conv => whnf) | (refine RetI.three Try.results8 rfl rfl rfl ?_; conv => whnf) | (refine RetI.none Try.results8 ?_; conv => whnf) | (refine ⟨by first | decide | omega, ?_⟩; conv => whnf))
      exact ⟨_, Sub.sel [] rfl, ret_bool (decide_eq_true (by omega)), rfl⟩
end Go.Proofs.Ytcmijlclenpjiaa
