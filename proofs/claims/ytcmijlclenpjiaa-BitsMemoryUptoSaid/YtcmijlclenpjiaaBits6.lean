/- The bits, by the reference: packing, unpacking; the fixed answers. -/
import Derived.Test.YtcmijlclenpjiaaBits5
namespace Go.Proofs.Ytcmijlclenpjiaa
open SL Go.RowKit Go.Maps

theorem rPack_ok (F : Mem) (oa : Option Addr) (ca : Nat) (fs : List (Nat × Int)) (hw : SlF F 2 oa fs.length (fs.flatMap fldF)) (hu : U64s fs) (hn : fs.length ≤ 549755813887) :
    FT Try.prog 11 [.slice oa fs.length ca].toArray F [] (Ret (.tuple #[.string (packR fs).1, .int .i64 (packR fs).2])) := by
  refine FT.of_body Try.func11 rfl Try.ntmps11 (by simp) fun C hC => ?_
  subst hC
  conv => whnf
  refine LoopI.by_state (σ := Nat × Option (Nat × Nat)) (fun x => [(4, svOf x.2 (fieldsBits (fs.take x.1)).length), (7, .slice oa fs.length ca), (8, .int .i64 (fs.length : Int)), (9, .int .i64 (x.1 : Int))]) (fun x => [bitO x.2 (fieldsBits (fs.take x.1))])
    (fun x => x.1 ≤ fs.length ∧ allFit (fs.take x.1) = true ∧ (x.2 = none ↔ fieldsBits (fs.take x.1) = [])) (fun x => fs.length - x.1) (0, none) ⟨by omega, rfl, by simp [fieldsBits]⟩ ⟨by rw [List.take_zero]; rfl, rfl, rfl, rfl, trivial⟩ (by simp only [List.take_zero]; exact Sub.nil 5 1) ?_
  rintro ⟨i, g⟩ f0 ⟨hi, hfit, hg⟩
  dsimp only at hi hfit hg ⊢
  conv => whnf
  refine cond_dec (fun h => ?_) (fun h => ?_)
  · have hil : i < fs.length := by omega
    obtain ⟨xa, ya, rfl, hra⟩ := hw.at (i := i) hil
    conv => whnf
    refine ⟨by omega, ?_⟩
    conv => whnf
    refine LoadV.fa (cs := fldF fs[i]) (flat_row fldF_length hra hil rfl) rfl ?_
    have hp64 := hu _ (List.getElem_mem hil)
    have hbad := allFit_false hil
    have htk := take_snoc hil
    have hbl := fieldsBits_length hfit
    rw [List.length_take] at hbl
    obtain ⟨p, hp⟩ : ∃ p, fs[i] = p := ⟨_, rfl⟩
    rw [hp] at hp64 hbad htk ⊢
    conv => whnf
    intro b
    conv => whnf
    repeat (first | (refine LoadV.s rfl rfl (forceV_of ?_); conv => whnf) | (refine LoadV.s rfl rfl ?_; conv => whnf) | (refine StoreV.c rfl rfl (Nat.le_of_ble_eq_true rfl) rfl ?_; conv => whnf) | (refine LoadV.a _ rfl (Nat.le_of_ble_eq_true rfl) ?_; conv => whnf) | (refine DrawI.quiet (by kernel_rfl) (by kernel_rfl) ?_; conv => whnf) | (refine ArI.in64 (by omega) ?_; conv => whnf) | (refine ArI.inU8 (by omega) ?_; conv => whnf) | (refine ArI.inU64 (by omega) ?_; conv => whnf) | (refine ArI.inU32 (by omega) ?_; conv => whnf) | (refine RetI.one Try.results11 rfl ?_; conv => whnf) | (refine RetI.two Try.results11 rfl rfl ?_; conv => whnf) | (refine RetI.three Try.results11 rfl rfl rfl ?_; conv => whnf) | (refine RetI.none Try.results11 ?_; conv => whnf) | (refine ⟨by first | decide | omega, ?_⟩; conv => whnf))
    refine CallS.mk Try.call17 ⟨[], _, _, Sub.refl _, fun F' hF' => rRight_ok F' p.1 p.2 hp64, ?_⟩
    rintro e A' ⟨rfl, rfl⟩
    cases hf : fitsB p.1 p.2 with
    | false =>
      conv => whnf
      repeat (first | (refine LoadV.s rfl rfl (forceV_of ?_); conv => whnf) | (refine LoadV.s rfl rfl ?_; conv => whnf) | (refine StoreV.c rfl rfl (Nat.le_of_ble_eq_true rfl) rfl ?_; conv => whnf) | (refine LoadV.a _ rfl (Nat.le_of_ble_eq_true rfl) ?_; conv => whnf) | (refine DrawI.quiet (by kernel_rfl) (by kernel_rfl) ?_; conv => whnf) | (refine ArI.in64 (by omega) ?_; conv => whnf) | (refine ArI.inU8 (by omega) ?_; conv => whnf) | (refine ArI.inU64 (by omega) ?_; conv => whnf) | (refine ArI.inU32 (by omega) ?_; conv => whnf) | (refine RetI.one Try.results11 rfl ?_; conv => whnf) | (refine RetI.two Try.results11 rfl rfl ?_; conv => whnf) | (refine RetI.three Try.results11 rfl rfl rfl ?_; conv => whnf) | (refine RetI.none Try.results11 ?_; conv => whnf) | (refine ⟨by first | decide | omega, ?_⟩; conv => whnf))
      exact ⟨_, Sub.sel [] rfl, by unfold packR; rw [if_neg (by rw [hbad hf]; simp)], rfl⟩
    | true =>
      have hw := fitsB_width hf
      obtain ⟨W, hW⟩ := Int.eq_ofNat_of_zero_le (show 0 ≤ p.2 by omega)
      conv => whnf
      repeat (first | (refine LoadV.s rfl rfl (forceV_of ?_); conv => whnf) | (refine LoadV.s rfl rfl ?_; conv => whnf) | (refine StoreV.c rfl rfl (Nat.le_of_ble_eq_true rfl) rfl ?_; conv => whnf) | (refine LoadV.a _ rfl (Nat.le_of_ble_eq_true rfl) ?_; conv => whnf) | (refine DrawI.quiet (by kernel_rfl) (by kernel_rfl) ?_; conv => whnf) | (refine ArI.in64 (by omega) ?_; conv => whnf) | (refine ArI.inU8 (by omega) ?_; conv => whnf) | (refine ArI.inU64 (by omega) ?_; conv => whnf) | (refine ArI.inU32 (by omega) ?_; conv => whnf) | (refine RetI.one Try.results11 rfl ?_; conv => whnf) | (refine RetI.two Try.results11 rfl rfl ?_; conv => whnf) | (refine RetI.three Try.results11 rfl rfl rfl ?_; conv => whnf) | (refine RetI.none Try.results11 ?_; conv => whnf) | (refine ⟨by first | decide | omega, ?_⟩; conv => whnf))
      rw [hW]
      refine CallS.mk Try.call18 ⟨[_], _, _, Sub.split [1] rfl, fun F' hF' => rAdd_ok F' g (fieldsBits (fs.take i)) p.1 W hg hp64 (by omega) (by omega), ?_⟩
      rintro e A' ⟨g', hg', rfl, rfl⟩
      conv => whnf
      refine ArI.to64 ((i + 1 : Nat) : Int) (by omega) (by omega) ?_
      conv => whnf
      have hbits : fieldsBits (fs.take (i + 1)) = fieldsBits (fs.take i) ++ bitsOf W p.1 := by rw [htk, fieldsBits_snoc, hW]; rfl
      refine ⟨(i + 1, g'), _, by dsimp only; omega, Sub.sel [0] rfl, ⟨by dsimp only; omega, by dsimp only; rw [htk, allFit_snoc, hfit, hf]; rfl, by dsimp only; rw [hbits]; exact hg'⟩, ⟨by dsimp only; rw [hbits]; rfl, rfl, rfl, rfl, trivial⟩, ?_⟩
      dsimp only
      rw [hbits]
  · have hie : i = fs.length := by omega
    subst hie
    rw [List.take_length] at hfit hg ⊢
    have hbl := fieldsBits_length hfit
    conv => whnf
    refine CallS.mk Try.call21 ⟨[], _, _, Sub.refl _, fun F' hF' => rBytes_ok F' (oaOf g) (capOf g) (fieldsBits fs) (SlF.sv hF' (T := 5) (by simp) (fun e => by rw [hg.1 e]; rfl)) (by omega), ?_⟩
    rintro e A' ⟨rfl, rfl⟩
    conv => whnf
    repeat (first | (refine LoadV.s rfl rfl (forceV_of ?_); conv => whnf) | (refine LoadV.s rfl rfl ?_; conv => whnf) | (refine StoreV.c rfl rfl (Nat.le_of_ble_eq_true rfl) rfl ?_; conv => whnf) | (refine LoadV.a _ rfl (Nat.le_of_ble_eq_true rfl) ?_; conv => whnf) | (refine DrawI.quiet (by kernel_rfl) (by kernel_rfl) ?_; conv => whnf) | (refine ArI.in64 (by omega) ?_; conv => whnf) | (refine ArI.inU8 (by omega) ?_; conv => whnf) | (refine ArI.inU64 (by omega) ?_; conv => whnf) | (refine ArI.inU32 (by omega) ?_; conv => whnf) | (refine RetI.one Try.results11 rfl ?_; conv => whnf) | (refine RetI.two Try.results11 rfl rfl ?_; conv => whnf) | (refine RetI.three Try.results11 rfl rfl rfl ?_; conv => whnf) | (refine RetI.none Try.results11 ?_; conv => whnf) | (refine ⟨by first | decide | omega, ?_⟩; conv => whnf))
    exact ⟨_, Sub.sel [] rfl, by unfold packR; rw [if_pos hfit], rfl⟩
theorem rUnpack_ok (F : Mem) (oa : Option Addr) (ca : Nat) (s : ByteArray) (ws : List Int) (hw : SlF F 1 oa ws.length (intsV ws)) (hs : s.size ≤ 4398046511104) (hn : ws.length ≤ 1099511627776) :
    FT Try.prog 13 [.string s, .slice oa ws.length ca].toArray F []
    (fun e H => ∃ g, (g = none ↔ (unpackR (unpackB (textBits (txt s)) ws)).1 = []) ∧ e = .returned (.tuple #[svOf g (unpackR (unpackB (textBits (txt s)) ws)).1.length, .int .i64 (unpackR (unpackB (textBits (txt s)) ws)).2]) ∧
      H = [.own (svOf g (unpackR (unpackB (textBits (txt s)) ws)).1.length) (unpackR (unpackB (textBits (txt s)) ws)).1.length 33 1 (u64V (unpackR (unpackB (textBits (txt s)) ws)).1)]) := by
  refine FT.of_body Try.func13 rfl Try.ntmps13 (by simp) fun C hC => ?_
  subst hC
  conv => whnf
  have hT : (textBits (txt s)).length = 8 * s.size := by rw [textBits_length, txt_length]
  refine CallS.mk Try.call23 ⟨[], _, _, Sub.refl _, fun F' hF' => rRead_ok F' s hs, ?_⟩
  rintro e A' ⟨r, gt, hgt, rfl, rfl⟩
  generalize hTT : textBits (txt s) = T at hT hgt ⊢
  conv => whnf
  refine LoopI.by_state (σ := Nat × Nat × List Nat × Option (Nat × Nat)) (fun x => [(6, .pointer (some ⟨r, 0, none⟩)), (7, svOf x.2.2.2 x.2.2.1.length), (14, .slice oa ws.length ca), (15, .int .i64 (ws.length : Int)), (16, .int .i64 (x.1 : Int))])
    (fun x => [.cells r [svOf gt T.length, .int .i64 (x.2.1 : Int)] 68 (0, 0), bitO gt T, .own (svOf x.2.2.2 x.2.2.1.length) x.2.2.1.length 33 1 (u64V x.2.2.1)])
    (fun x => x.1 ≤ ws.length ∧ takeAll T 0 (ws.take x.1) = some (x.2.2.1, x.2.1) ∧ (x.2.2.2 = none ↔ x.2.2.1 = [])) (fun x => ws.length - x.1) (0, 0, [], none) ⟨by omega, rfl, by simp⟩ ⟨rfl, rfl, rfl, rfl, rfl, trivial⟩ (Sub.trans (Sub.nil 33 1) (Sub.sel [1, 2, 0] rfl)) ?_
  rintro ⟨i, n, l, g⟩ f0 ⟨hi, hta, hg⟩
  dsimp only at hi hta hg ⊢
  obtain ⟨hn8, hll, -⟩ := takeAll_le (Nat.zero_le _) hta
  rw [List.length_take] at hll
  conv => whnf
  refine cond_dec (fun h => ?_) (fun h => ?_)
  · have hil : i < ws.length := by omega
    obtain ⟨xa, ya, rfl, hra⟩ := hw.at (i := i) hil
    conv => whnf
    refine ⟨by omega, ?_⟩
    conv => whnf
    refine LoadV.f (hra i (.int .i64 ws[i]) (by simp [intsV])) rfl ?_
    have htk := take_snoc hil
    obtain ⟨p, hp⟩ : ∃ p, ws[i] = p := ⟨_, rfl⟩
    rw [hp] at htk ⊢
    have hsplit : ws = ws.take i ++ (p :: ws.drop (i + 1)) := by
      rw [← hp, List.getElem_cons_drop, List.take_append_drop]
    conv => whnf
    refine CallS.mk Try.call25 ⟨[_, _], _, _, Sub.split [0, 1] rfl, fun F' hF' => rTake_ok F' r n gt T p hgt (by omega) (by omega), ?_⟩
    rintro e A' ⟨rfl, rfl⟩
    by_cases hok : takeOk T n p
    · rw [takeB_ok hok]
      conv => whnf
      intro b
      conv => whnf
      refine BuiltV.append (sv := svOf g l.length) (m := 1) Try.underlying28 rfl rfl rfl rfl (by decide) (Row.cells 1) rfl (by decide) rfl (by show (l.length + 1) * 8 ≤ _; omega) (by omega) fun gb gc => ?_
      conv => whnf
      refine ArI.to64 ((i + 1 : Nat) : Int) (by omega) (by omega) ?_
      conv => whnf
      refine ⟨(i + 1, n + p.toNat, l ++ [num ((T.drop n).take p.toNat)], some (gb, gc)), _, by dsimp only; omega, Sub.sel [1, 2, 3] rfl, ⟨by dsimp only; omega, ?_, by simp⟩, ⟨rfl, ?_, rfl, rfl, rfl, trivial⟩, ?_⟩
      · dsimp only
        rw [htk, takeAll_append, hta]
        simp only [Option.bind_some, takeAll, if_pos hok, Option.map_some]
      · dsimp only
        rw [List.length_append]; rfl
      · dsimp only
        rw [own_snoc]; rfl
    · rw [takeB_no hok]
      conv => whnf
      repeat (first | (refine LoadV.s rfl rfl (forceV_of ?_); conv => whnf) | (refine LoadV.s rfl rfl ?_; conv => whnf) | (refine StoreV.c rfl rfl (Nat.le_of_ble_eq_true rfl) rfl ?_; conv => whnf) | (refine LoadV.a _ rfl (Nat.le_of_ble_eq_true rfl) ?_; conv => whnf) | (refine DrawI.quiet (by kernel_rfl) (by kernel_rfl) ?_; conv => whnf) | (refine ArI.in64 (by omega) ?_; conv => whnf) | (refine ArI.inU8 (by omega) ?_; conv => whnf) | (refine ArI.inU64 (by omega) ?_; conv => whnf) | (refine ArI.inU32 (by omega) ?_; conv => whnf) | (refine RetI.one Try.results13 rfl ?_; conv => whnf) | (refine RetI.two Try.results13 rfl rfl ?_; conv => whnf) | (refine RetI.three Try.results13 rfl rfl rfl ?_; conv => whnf) | (refine RetI.none Try.results13 ?_; conv => whnf) | (refine ⟨by first | decide | omega, ?_⟩; conv => whnf))
      have hnone : unpackB T ws = none := by
        unfold unpackB
        rw [hsplit, takeAll_append, hta]
        simp only [Option.bind_some, takeAll, if_neg hok, Option.map_none]
      rw [hnone]
      exact ⟨_, Sub.trans (Sub.nil 33 1) (Sub.sel [0] rfl), none, by simp [unpackR], rfl, rfl⟩
  · have hie : i = ws.length := by omega
    subst hie
    rw [List.take_length] at hta
    conv => whnf
    refine CallS.mk Try.call29 ⟨[_, _], _, _, Sub.split [0, 1] rfl, fun F' hF' => rDone_ok F' r n gt T hgt (by omega) (by omega), ?_⟩
    rintro e A' ⟨rfl, rfl⟩
    cases hd : doneB T n with
    | true =>
      conv => whnf
      have hsome : unpackB T ws = some l := by unfold unpackB; rw [hta]; simp only [hd, if_true]
      rw [hsome]
      repeat (first | (refine LoadV.s rfl rfl (forceV_of ?_); conv => whnf) | (refine LoadV.s rfl rfl ?_; conv => whnf) | (refine StoreV.c rfl rfl (Nat.le_of_ble_eq_true rfl) rfl ?_; conv => whnf) | (refine LoadV.a _ rfl (Nat.le_of_ble_eq_true rfl) ?_; conv => whnf) | (refine DrawI.quiet (by kernel_rfl) (by kernel_rfl) ?_; conv => whnf) | (refine ArI.in64 (by omega) ?_; conv => whnf) | (refine ArI.inU8 (by omega) ?_; conv => whnf) | (refine ArI.inU64 (by omega) ?_; conv => whnf) | (refine ArI.inU32 (by omega) ?_; conv => whnf) | (refine RetI.one Try.results13 rfl ?_; conv => whnf) | (refine RetI.two Try.results13 rfl rfl ?_; conv => whnf) | (refine RetI.three Try.results13 rfl rfl rfl ?_; conv => whnf) | (refine RetI.none Try.results13 ?_; conv => whnf) | (refine ⟨by first | decide | omega, ?_⟩; conv => whnf))
      exact ⟨_, Sub.sel [2] rfl, g, hg, rfl, rfl⟩
    | false =>
      conv => whnf
      repeat (first | (refine LoadV.s rfl rfl (forceV_of ?_); conv => whnf) | (refine LoadV.s rfl rfl ?_; conv => whnf) | (refine StoreV.c rfl rfl (Nat.le_of_ble_eq_true rfl) rfl ?_; conv => whnf) | (refine LoadV.a _ rfl (Nat.le_of_ble_eq_true rfl) ?_; conv => whnf) | (refine DrawI.quiet (by kernel_rfl) (by kernel_rfl) ?_; conv => whnf) | (refine ArI.in64 (by omega) ?_; conv => whnf) | (refine ArI.inU8 (by omega) ?_; conv => whnf) | (refine ArI.inU64 (by omega) ?_; conv => whnf) | (refine ArI.inU32 (by omega) ?_; conv => whnf) | (refine RetI.one Try.results13 rfl ?_; conv => whnf) | (refine RetI.two Try.results13 rfl rfl ?_; conv => whnf) | (refine RetI.three Try.results13 rfl rfl rfl ?_; conv => whnf) | (refine RetI.none Try.results13 ?_; conv => whnf) | (refine ⟨by first | decide | omega, ?_⟩; conv => whnf))
      have hnone : unpackB T ws = none := by unfold unpackB; rw [hta]; simp only [hd]; rfl
      rw [hnone]
      exact ⟨_, Sub.trans (Sub.nil 33 1) (Sub.sel [0] rfl), none, by simp [unpackR], rfl, rfl⟩
theorem take_eq_step {α : Type} [DecidableEq α] {a b : List α} {i : Nat} (h : a.take i = b.take i) (ha : i < a.length) (hb : i < b.length) (he : a[i] = b[i]) : a.take (i + 1) = b.take (i + 1) := by
  rw [← List.take_append_getElem ha, ← List.take_append_getElem hb, h, he]
theorem rSame_ok (F : Mem) (oa ob : Option Addr) (ca cb : Nat) (a b : List Nat) (ha : SlF F 1 oa a.length (u64V a)) (hb : SlF F 1 ob b.length (u64V b)) (hn : a.length ≤ 9223372036854775807) :
    FT Try.prog 14 [.slice oa a.length ca, .slice ob b.length cb].toArray F [] (Ret (.bool (decide (a = b)))) := by
  refine FT.of_body Try.func14 rfl Try.ntmps14 (by simp) fun C hC => ?_
  subst hC
  conv => whnf
  conv => whnf
  refine cond_split ?_ ?_
  · intro hne
    conv => whnf
    repeat (first | (refine LoadV.s rfl rfl (forceV_of ?_); conv => whnf) | (refine LoadV.s rfl rfl ?_; conv => whnf) | (refine StoreV.c rfl rfl (Nat.le_of_ble_eq_true rfl) rfl ?_; conv => whnf) | (refine LoadV.a _ rfl (Nat.le_of_ble_eq_true rfl) ?_; conv => whnf) | (refine DrawI.quiet (by kernel_rfl) (by kernel_rfl) ?_; conv => whnf) | (refine ArI.in64 (by omega) ?_; conv => whnf) | (refine ArI.inU8 (by omega) ?_; conv => whnf) | (refine ArI.inU64 (by omega) ?_; conv => whnf) | (refine ArI.inU32 (by omega) ?_; conv => whnf) | (refine RetI.one Try.results14 rfl ?_; conv => whnf) | (refine RetI.two Try.results14 rfl rfl ?_; conv => whnf) | (refine RetI.three Try.results14 rfl rfl rfl ?_; conv => whnf) | (refine RetI.none Try.results14 ?_; conv => whnf) | (refine ⟨by first | decide | omega, ?_⟩; conv => whnf))
    refine ⟨_, Sub.refl _, ret_bool ?_, rfl⟩
    have hne : ((a.length : Nat) : Int) ≠ ((b.length : Nat) : Int) := by simpa using hne
    rw [decide_eq_false]
    intro e; subst e; exact hne rfl
  · intro he
    have he : a.length = b.length := by have : ((a.length : Nat) : Int) = ((b.length : Nat) : Int) := by simpa using he
                                        omega
    conv => whnf
    refine LoopI.by_state (σ := Nat) (fun i => [(0, .slice oa a.length ca), (1, .slice ob b.length cb), (12, .int .i64 (a.length : Int)), (13, .int .i64 (i : Int))]) (fun _ => []) (fun i => i ≤ a.length ∧ a.take i = b.take i) (fun i => a.length - i) 0 (by simp) ⟨rfl, rfl, rfl, rfl, trivial⟩ (Sub.refl _) ?_
    rintro i f0 ⟨hi, ht⟩
    conv => whnf
    refine cond_dec (fun h => ?_) (fun h => ?_)
    · obtain ⟨xa, ya, rfl, hra⟩ := ha.at (i := i) (by omega)
      obtain ⟨xb, yb, rfl, hrb⟩ := hb.at (i := i) (by omega)
      have hia : i < a.length := by omega
      have hib : i < b.length := by omega
      conv => whnf
      repeat (first | (refine LoadV.s rfl rfl (forceV_of ?_); conv => whnf) | (refine LoadV.s rfl rfl ?_; conv => whnf) | (refine StoreV.c rfl rfl (Nat.le_of_ble_eq_true rfl) rfl ?_; conv => whnf) | (refine LoadV.a _ rfl (Nat.le_of_ble_eq_true rfl) ?_; conv => whnf) | (refine DrawI.quiet (by kernel_rfl) (by kernel_rfl) ?_; conv => whnf) | (refine RetI.one Try.results14 rfl ?_; conv => whnf) | (refine RetI.two Try.results14 rfl rfl ?_; conv => whnf) | (refine RetI.three Try.results14 rfl rfl rfl ?_; conv => whnf) | (refine RetI.none Try.results14 ?_; conv => whnf) | (refine ⟨by first | decide | omega, ?_⟩; conv => whnf))
      refine LoadV.f (hra i ((fun (x : Nat) => Value.int .u64 (x : Int)) a[i]) (by rw [List.getElem?_map, List.getElem?_eq_getElem hia]; rfl)) rfl ?_
      conv => whnf
      repeat (first | (refine LoadV.s rfl rfl (forceV_of ?_); conv => whnf) | (refine LoadV.s rfl rfl ?_; conv => whnf) | (refine StoreV.c rfl rfl (Nat.le_of_ble_eq_true rfl) rfl ?_; conv => whnf) | (refine LoadV.a _ rfl (Nat.le_of_ble_eq_true rfl) ?_; conv => whnf) | (refine DrawI.quiet (by kernel_rfl) (by kernel_rfl) ?_; conv => whnf) | (refine RetI.one Try.results14 rfl ?_; conv => whnf) | (refine RetI.two Try.results14 rfl rfl ?_; conv => whnf) | (refine RetI.three Try.results14 rfl rfl rfl ?_; conv => whnf) | (refine RetI.none Try.results14 ?_; conv => whnf) | (refine ⟨by first | decide | omega, ?_⟩; conv => whnf))
      refine LoadV.f (hrb i ((fun (x : Nat) => Value.int .u64 (x : Int)) b[i]) (by rw [List.getElem?_map, List.getElem?_eq_getElem hib]; rfl)) rfl ?_
      conv => whnf
      by_cases hq : a[i] = b[i]
      · rw [hq]
        rw [show (((b[i] : Nat) : Int) != ((b[i] : Nat) : Int)) = false from bne_self_eq_false _]
        conv => whnf
        refine ArI.to64 ((i + 1 : Nat) : Int) (by omega) (by omega) ?_
        conv => whnf
        exact ⟨i + 1, [], by omega, Sub.refl _, ⟨by omega, take_eq_step ht (by omega) (by omega) hq⟩, ⟨rfl, rfl, rfl, rfl, trivial⟩, rfl⟩
      · rw [show (((a[i] : Nat) : Int) != ((b[i] : Nat) : Int)) = true from bne_iff_ne.2 (fun e => hq (by omega))]
        conv => whnf
        repeat (first | (refine LoadV.s rfl rfl (forceV_of ?_); conv => whnf) | (refine LoadV.s rfl rfl ?_; conv => whnf) | (refine StoreV.c rfl rfl (Nat.le_of_ble_eq_true rfl) rfl ?_; conv => whnf) | (refine LoadV.a _ rfl (Nat.le_of_ble_eq_true rfl) ?_; conv => whnf) | (refine DrawI.quiet (by kernel_rfl) (by kernel_rfl) ?_; conv => whnf) | (refine ArI.in64 (by omega) ?_; conv => whnf) | (refine ArI.inU8 (by omega) ?_; conv => whnf) | (refine ArI.inU64 (by omega) ?_; conv => whnf) | (refine ArI.inU32 (by omega) ?_; conv => whnf) | (refine RetI.one Try.results14 rfl ?_; conv => whnf) | (refine RetI.two Try.results14 rfl rfl ?_; conv => whnf) | (refine RetI.three Try.results14 rfl rfl rfl ?_; conv => whnf) | (refine RetI.none Try.results14 ?_; conv => whnf) | (refine ⟨by first | decide | omega, ?_⟩; conv => whnf))
        refine ⟨_, Sub.refl _, ret_bool ?_, rfl⟩
        rw [decide_eq_false]
        intro e; subst e; exact hq rfl
    · conv => whnf
      repeat (first | (refine LoadV.s rfl rfl (forceV_of ?_); conv => whnf) | (refine LoadV.s rfl rfl ?_; conv => whnf) | (refine StoreV.c rfl rfl (Nat.le_of_ble_eq_true rfl) rfl ?_; conv => whnf) | (refine LoadV.a _ rfl (Nat.le_of_ble_eq_true rfl) ?_; conv => whnf) | (refine DrawI.quiet (by kernel_rfl) (by kernel_rfl) ?_; conv => whnf) | (refine ArI.in64 (by omega) ?_; conv => whnf) | (refine ArI.inU8 (by omega) ?_; conv => whnf) | (refine ArI.inU64 (by omega) ?_; conv => whnf) | (refine ArI.inU32 (by omega) ?_; conv => whnf) | (refine RetI.one Try.results14 rfl ?_; conv => whnf) | (refine RetI.two Try.results14 rfl rfl ?_; conv => whnf) | (refine RetI.three Try.results14 rfl rfl rfl ?_; conv => whnf) | (refine RetI.none Try.results14 ?_; conv => whnf) | (refine ⟨by first | decide | omega, ?_⟩; conv => whnf))
      refine ⟨_, Sub.refl _, ret_bool ?_, rfl⟩
      have : i = a.length := by omega
      subst this
      rw [decide_eq_true]
      have h1 : a.take a.length = a := List.take_length
      have h2 : b.take a.length = b := by rw [he]; exact List.take_length
      rw [← h1, ht, h2]
end Go.Proofs.Ytcmijlclenpjiaa
