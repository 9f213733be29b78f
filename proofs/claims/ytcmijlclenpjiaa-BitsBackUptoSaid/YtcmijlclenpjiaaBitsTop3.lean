/- The laws of the bits, as contracts: there and back. -/
import Derived.Test.YtcmijlclenpjiaaBitsTop
namespace Go.Proofs.Ytcmijlclenpjiaa
open SL Go.RowKit Go.Maps

theorem packR_size {fs : List (Nat × Int)} : (packR fs).1.size ≤ 8 * fs.length := by
  unfold packR
  split
  · rename_i h
    have := fieldsBits_length h
    rw [strB_size, packB_length]; omega
  · exact Nat.zero_le _
theorem U64s_of_fit {fs : List (Nat × Int)} (h : allFit fs = true) : U64s fs := by
  intro p hp
  have h1 := fitsB_width (List.all_eq_true.1 h p hp)
  have := Nat.pow_le_pow_right (n := 2) (by decide) (show p.2.toNat ≤ 64 by omega)
  omega
theorem zip_fit {s : ByteArray} {ws : List Int} {l : List Nat} (h : unpackB (textBits (txt s)) ws = some l) : allFit (l.zip ws) = true := by
  have := (pack_unpack h).2
  unfold packR at this
  split at this
  · assumption
  · cases this
theorem zip_take_snoc {l : List Nat} {ws : List Int} {i : Nat} (h1 : i < l.length) (h2 : i < ws.length) : (l.zip ws).take (i + 1) = (l.zip ws).take i ++ [(l[i], ws[i])] := by
  rw [take_snoc (by rw [List.length_zip]; omega), List.getElem_zip]
theorem rSame_n (F : Mem) (oa ob : Option Addr) (na nb ca cb : Nat) (a b : List Nat) (ea : na = a.length) (eb : nb = b.length) (ha : SlF F 1 oa na (u64V a)) (hb : SlF F 1 ob nb (u64V b)) (hn : na ≤ 9223372036854775807) :
    FT Try.prog 14 [.slice oa na ca, .slice ob nb cb].toArray F [] (Ret (.bool (decide (a = b)))) := by
  subst ea; subst eb; exact rSame_ok F oa ob ca cb a b ha hb hn
set_option maxHeartbeats 4000000 in
theorem BitsBack_ok (F : Mem) (oa ob : Option Addr) (ca cb : Nat) (fs : List (Nat × Int)) (s : ByteArray) (ws : List Int) (hw : SlF F 2 oa fs.length (fs.flatMap fldF)) (hu : U64s fs) (hn : fs.length ≤ 1048576) (hs : s.size ≤ 1048576) (hv : SlF F 1 ob ws.length (intsV ws)) (hm : ws.length ≤ 1048576) :
    FT Try.prog 4 [.slice oa fs.length ca, .string s, .slice ob ws.length cb].toArray F [] (Ret (.bool true)) := by
  refine FT.of_body Try.func4 rfl Try.ntmps4 (by simp) fun C hC => ?_
  subst hC
  conv => whnf
  refine CallS.mk Try.call9 ⟨[], _, _, Sub.refl _, fun F' hF' => lives03_ok F', ?_⟩
  rintro e A' ⟨rfl, rfl⟩
  conv => whnf
  refine CallS.mk Try.call10 ⟨[], _, _, Sub.refl _, fun F' hF' => bPack_ok F' oa ca fs (hw.ext hF'.F) hu (by omega), ?_⟩
  cases hfit : allFit fs with
  | false =>
    rw [show packR fs = (⟨#[]⟩, 6) from if_neg (by rw [hfit]; simp)]
    rintro e A' ⟨rfl, rfl⟩
    conv => whnf
    refine CallS.mk Try.call12 ⟨[], [], _, Sub.sel [] rfl, fun F' hF' => bUnpack_ok F' ob cb s ws (hv.ext hF'.F) (by omega) (by omega), ?_⟩
    cases hU : unpackB (textBits (txt s)) ws with
    | none =>
      rintro e A' ⟨g, hg, rfl, rfl⟩
      conv => whnf
      repeat (first | (refine LoadV.s rfl rfl (forceV_of ?_); conv => whnf) | (refine LoadV.s rfl rfl ?_; conv => whnf) | (refine StoreV.c rfl rfl (Nat.le_of_ble_eq_true rfl) rfl ?_; conv => whnf) | (refine LoadV.a _ rfl (Nat.le_of_ble_eq_true rfl) ?_; conv => whnf) | (refine DrawI.quiet (by kernel_rfl) (by kernel_rfl) ?_; conv => whnf) | (refine ArI.in64 (by omega) ?_; conv => whnf) | (refine ArI.inU8 (by omega) ?_; conv => whnf) | (refine ArI.inU64 (by omega) ?_; conv => whnf) | (refine ArI.inU32 (by omega) ?_; conv => whnf) | (refine RetI.one Try.results4 rfl ?_; conv => whnf) | (refine RetI.two Try.results4 rfl rfl ?_; conv => whnf) | (refine RetI.three Try.results4 rfl rfl rfl ?_; conv => whnf) | (refine RetI.none Try.results4 ?_; conv => whnf) | (refine ⟨by first | decide | omega, ?_⟩; conv => whnf))
      exact ⟨_, Sub.sel [] rfl, rfl, rfl⟩
    | some l =>
      have hll := (pack_unpack hU).1
      have hfit := zip_fit hU
      have hpk := (pack_unpack hU).2
      have hzl : (l.zip ws).length = ws.length := by rw [List.length_zip]; omega
      rintro e A' ⟨g, hg, rfl, rfl⟩
      simp only [unpackR] at hg ⊢
      conv => whnf
      refine cond_of_false (bne_eq_false_iff_eq.2 (by omega)) ?_
      conv => whnf
      refine LoopI.by_state (σ := Nat × Option (Nat × Nat)) (fun x => [(1, .string s), (15, svOf g l.length), (16, svOf x.2 ((l.zip ws).take x.1).length), (84, .slice ob ws.length cb), (85, .int .i64 (ws.length : Int)), (86, .int .i64 (x.1 : Int))])
        (fun x => [.own (svOf g l.length) l.length 33 1 (u64V l), .own (svOf x.2 ((l.zip ws).take x.1).length) ((l.zip ws).take x.1).length 35 2 (((l.zip ws).take x.1).flatMap fldF)])
        (fun x => x.1 ≤ ws.length ∧ (x.2 = none → x.1 = 0)) (fun x => ws.length - x.1) (0, none) ⟨by omega, by simp⟩ ⟨rfl, rfl, by rw [List.take_zero]; rfl, rfl, rfl, rfl, trivial⟩ (by simp only [List.take_zero]; exact Sub.trans (Sub.nil 35 2) (Sub.sel [1, 0] rfl)) ?_
      rintro ⟨i, gf⟩ f0 ⟨hi, hgf⟩
      dsimp only at hi hgf ⊢
      conv => whnf
      refine cond_dec (fun h => ?_) (fun h => ?_)
      · have hil : i < ws.length := by omega
        have hil2 : i < l.length := by omega
        obtain ⟨xa, ya, rfl, hra⟩ := hv.at (i := i) hil
        obtain ⟨gb, gc, rfl⟩ := gsome hg (by intro e; subst e; simp at hil2)
        conv => whnf
        refine ⟨by omega, ?_⟩
        conv => whnf
        refine LoadV.f (hra i (.int .i64 ws[i]) (by rw [List.getElem?_map, List.getElem?_eq_getElem hil]; rfl)) rfl ?_
        conv => whnf
        refine ⟨by omega, ?_⟩
        conv => whnf
        refine LoadV.os (off := elemOff 0 (i : Int) 1) rfl (v := .int .u64 ((l[i] : Nat) : Int)) (by show (u64V l)[0 + i]? = _; rw [Nat.zero_add, List.getElem?_map, List.getElem?_eq_getElem hil2]; rfl) ?_
        have htk := zip_take_snoc hil2 hil
        have hlt : ((l.zip ws).take i).length ≤ ws.length := by rw [List.length_take, hzl]; omega
        conv => whnf
        intro b
        conv => whnf
        refine BuiltV.append (sv := svOf gf ((l.zip ws).take i).length) (m := 1) Try.underlying22 rfl rfl rfl rfl (by decide) (Row.cells 2) rfl (by decide) rfl (by show (((l.zip ws).take i).length + 1) * 16 ≤ _; omega) (by omega) fun gb2 gc2 => ?_
        conv => whnf
        refine ArI.to64 ((i + 1 : Nat) : Int) (by omega) (by omega) ?_
        conv => whnf
        refine ⟨(i + 1, some (gb2, gc2)), _, by dsimp only; omega, Sub.sel [1, 2] rfl, ⟨by dsimp only; omega, by simp⟩, ⟨rfl, rfl, ?_, rfl, rfl, rfl, trivial⟩, ?_⟩
        · dsimp only; rw [htk, List.length_append]; rfl
        · dsimp only; rw [htk, own_snocF]; rfl
      · have hie : i = ws.length := by omega
        subst hie
        have hfull : (l.zip ws).take ws.length = l.zip ws := List.take_of_length_le (by omega)
        rw [hfull]
        conv => whnf
        refine CallS.mk Try.call10 ⟨[], _, _, Sub.refl _, fun F' hF' => bPack_ok F' (oaOf gf) (capOf gf) (l.zip ws) (SlF.sv hF' (T := 35) (flat_length fldF_length _) (fun e => by rw [hzl]; exact hgf e)) (U64s_of_fit hfit) (by omega), ?_⟩
        rw [hpk]
        rintro e A' ⟨rfl, rfl⟩
        conv => whnf
        repeat (first | (refine LoadV.s rfl rfl (forceV_of ?_); conv => whnf) | (refine LoadV.s rfl rfl ?_; conv => whnf) | (refine StoreV.c rfl rfl (Nat.le_of_ble_eq_true rfl) rfl ?_; conv => whnf) | (refine LoadV.a _ rfl (Nat.le_of_ble_eq_true rfl) ?_; conv => whnf) | (refine DrawI.quiet (by kernel_rfl) (by kernel_rfl) ?_; conv => whnf) | (refine ArI.in64 (by omega) ?_; conv => whnf) | (refine ArI.inU8 (by omega) ?_; conv => whnf) | (refine ArI.inU64 (by omega) ?_; conv => whnf) | (refine ArI.inU32 (by omega) ?_; conv => whnf) | (refine RetI.one Try.results4 rfl ?_; conv => whnf) | (refine RetI.two Try.results4 rfl rfl ?_; conv => whnf) | (refine RetI.three Try.results4 rfl rfl rfl ?_; conv => whnf) | (refine RetI.none Try.results4 ?_; conv => whnf) | (refine ⟨by first | decide | omega, ?_⟩; conv => whnf))
        exact ⟨_, Sub.sel [] rfl, ret_bool (beq_self_eq_true _), rfl⟩
  | true =>
    have h2 : (packR fs).2 = 0 := by unfold packR; rw [if_pos hfit]
    have hsz := packR_size (fs := fs)
    have hup := unpack_pack hfit
    have hum := unpack_more hfit
    rw [h2]
    generalize (packR fs).1 = q at hsz hup hum ⊢
    rintro e A' ⟨rfl, rfl⟩
    conv => whnf
    refine LoopI.by_state (σ := Nat × Option (Nat × Nat) × Option (Nat × Nat)) (fun x => [(1, .string s), (2, .slice ob ws.length cb), (7, .string q), (9, svOf x.2.1 x.1), (10, svOf x.2.2 x.1), (28, .slice oa fs.length ca), (29, .int .i64 (fs.length : Int)), (30, .int .i64 (x.1 : Int))])
      (fun x => [.own (svOf x.2.1 x.1) x.1 3 1 (intsV ((fs.take x.1).map (·.2))), .own (svOf x.2.2 x.1) x.1 33 1 (u64V ((fs.take x.1).map (·.1)))])
      (fun x => x.1 ≤ fs.length ∧ (x.2.1 = none → x.1 = 0) ∧ (x.2.2 = none → x.1 = 0)) (fun x => fs.length - x.1) (0, none, none) ⟨by omega, by simp, by simp⟩ ⟨rfl, rfl, rfl, rfl, rfl, rfl, rfl, rfl, trivial⟩ (by simp only [List.take_zero]; exact Sub.trans (Sub.nil 33 1) (Sub.nil 3 1)) ?_
    rintro ⟨i, gw, gv⟩ f0 ⟨hi, hgw, hgv⟩
    dsimp only at hi hgw hgv ⊢
    conv => whnf
    refine cond_dec (fun h => ?_) (fun h => ?_)
    · have hil : i < fs.length := by omega
      obtain ⟨xa, ya, rfl, hra⟩ := hw.at (i := i) hil
      conv => whnf
      refine ⟨by omega, ?_⟩
      conv => whnf
      refine LoadV.fa (cs := fldF fs[i]) (flat_row fldF_length hra hil rfl) rfl ?_
      have htk := take_snoc hil
      obtain ⟨p, hp⟩ : ∃ p, fs[i] = p := ⟨_, rfl⟩
      rw [hp] at htk ⊢
      conv => whnf
      intro b
      conv => whnf
      repeat (first | (refine LoadV.s rfl rfl (forceV_of ?_); conv => whnf) | (refine LoadV.s rfl rfl ?_; conv => whnf) | (refine StoreV.c rfl rfl (Nat.le_of_ble_eq_true rfl) rfl ?_; conv => whnf) | (refine LoadV.a _ rfl (Nat.le_of_ble_eq_true rfl) ?_; conv => whnf) | (refine DrawI.quiet (by kernel_rfl) (by kernel_rfl) ?_; conv => whnf) | (refine ArI.in64 (by omega) ?_; conv => whnf) | (refine ArI.inU8 (by omega) ?_; conv => whnf) | (refine ArI.inU64 (by omega) ?_; conv => whnf) | (refine ArI.inU32 (by omega) ?_; conv => whnf) | (refine RetI.one Try.results4 rfl ?_; conv => whnf) | (refine RetI.two Try.results4 rfl rfl ?_; conv => whnf) | (refine RetI.three Try.results4 rfl rfl rfl ?_; conv => whnf) | (refine RetI.none Try.results4 ?_; conv => whnf) | (refine ⟨by first | decide | omega, ?_⟩; conv => whnf))
      intro b2
      conv => whnf
      refine BuiltV.append (sv := svOf gw i) (m := 1) Try.underlying23 rfl rfl rfl rfl (by decide) (Row.cells 1) rfl (by decide) rfl (by show (i + 1) * 8 ≤ _; omega) (by omega) fun gb gc => ?_
      conv => whnf
      repeat (first | (refine LoadV.s rfl rfl (forceV_of ?_); conv => whnf) | (refine LoadV.s rfl rfl ?_; conv => whnf) | (refine StoreV.c rfl rfl (Nat.le_of_ble_eq_true rfl) rfl ?_; conv => whnf) | (refine LoadV.a _ rfl (Nat.le_of_ble_eq_true rfl) ?_; conv => whnf) | (refine DrawI.quiet (by kernel_rfl) (by kernel_rfl) ?_; conv => whnf) | (refine ArI.in64 (by omega) ?_; conv => whnf) | (refine ArI.inU8 (by omega) ?_; conv => whnf) | (refine ArI.inU64 (by omega) ?_; conv => whnf) | (refine ArI.inU32 (by omega) ?_; conv => whnf) | (refine RetI.one Try.results4 rfl ?_; conv => whnf) | (refine RetI.two Try.results4 rfl rfl ?_; conv => whnf) | (refine RetI.three Try.results4 rfl rfl rfl ?_; conv => whnf) | (refine RetI.none Try.results4 ?_; conv => whnf) | (refine ⟨by first | decide | omega, ?_⟩; conv => whnf))
      intro b3
      conv => whnf
      refine BuiltV.append (sv := svOf gv i) (m := 1) Try.underlying28 rfl rfl rfl rfl (by decide) (Row.cells 1) rfl (by decide) rfl (by show (i + 1) * 8 ≤ _; omega) (by omega) fun gb2 gc2 => ?_
      conv => whnf
      refine ArI.to64 ((i + 1 : Nat) : Int) (by omega) (by omega) ?_
      conv => whnf
      refine ⟨(i + 1, some (gb, gc), some (gb2, gc2)), _, by dsimp only; omega, Sub.sel [3, 4] rfl, ⟨by dsimp only; omega, by simp, by simp⟩, ⟨rfl, rfl, rfl, rfl, rfl, rfl, rfl, rfl, trivial⟩, ?_⟩
      dsimp only
      have e1 : intsV ((fs.take (i + 1)).map (·.2)) = intsV ((fs.take i).map (·.2)) ++ [.int .i64 p.2] := by rw [htk]; simp
      have e2 : u64V ((fs.take (i + 1)).map (·.1)) = u64V ((fs.take i).map (·.1)) ++ [.int .u64 (p.1 : Int)] := by rw [htk]; simp
      rw [e1, e2]; rfl
    · have hie : i = fs.length := by omega
      subst hie
      rw [List.take_length]
      conv => whnf
      refine CallS.mk Try.call12 ⟨[], _, _, Sub.refl _, fun F' hF' => bUnpack_lit F' (oaOf gw) fs.length (capOf gw) q (fs.map (fun (p : Nat × Int) => p.2)) (by simp) (SlF.sv hF' (T := 3) (by simp) hgw) (by omega) (by omega) (show unpackR (unpackB (textBits (txt q)) (fs.map (fun (p : Nat × Int) => p.2))) = (fs.map (fun (p : Nat × Int) => p.1), 0) by rw [hup]; rfl), ?_⟩
      rintro e A' ⟨g, hg, rfl, rfl⟩
      have hln : (fs.map (fun (p : Nat × Int) => p.1)).length = fs.length := by simp
      rw [hln]
      conv => whnf
      refine CallS.mk Try.call14 ⟨[], _, _, Sub.refl _, fun F' hF' => rSame_n F' (oaOf g) (oaOf gv) fs.length fs.length (capOf g) (capOf gv) (fs.map (fun (p : Nat × Int) => p.1)) (fs.map (fun (p : Nat × Int) => p.1)) (by simp) (by simp) (SlF.sv hF' (T := 33) (by simp) (fun e => by simpa using congrArg List.length (hg.1 e))) (SlF.sv hF' (T := 33) (by simp) hgv) (by omega), ?_⟩
      rw [show decide (fs.map (fun (p : Nat × Int) => p.1) = fs.map (fun (p : Nat × Int) => p.1)) = true from decide_eq_true rfl]
      rintro e A' ⟨rfl, rfl⟩
      conv => whnf
      refine ⟨by show q.size + 1 ≤ _; omega, ?_⟩
      have hq2 : ∃ q2, q2 = q ++ (⟨#[0]⟩ : ByteArray) := ⟨_, rfl⟩
      obtain ⟨q2, hq2⟩ := hq2
      rw [← hq2]
      have hsz2 : q2.size = q.size + 1 := by rw [hq2, ByteArray.size_append]; rfl
      rw [← hq2] at hum
      clear hq2
      conv => whnf
      refine CallS.mk Try.call12 ⟨[], _, _, Sub.refl _, fun F' hF' => bUnpack_lit F' (oaOf gw) fs.length (capOf gw) q2 (fs.map (fun (p : Nat × Int) => p.2)) (by simp) (SlF.sv hF' (T := 3) (by simp) hgw) (by omega) (by omega) (show unpackR (unpackB (textBits (txt q2)) (fs.map (fun (p : Nat × Int) => p.2))) = ([], 6) by rw [hum]; rfl), ?_⟩
      rintro e A' ⟨g3, hg3, rfl, rfl⟩
      conv => whnf
      refine CallS.mk Try.call12 ⟨[], [], _, Sub.sel [] rfl, fun F' hF' => bUnpack_ok F' ob cb s ws (hv.ext hF'.F) (by omega) (by omega), ?_⟩
      cases hU : unpackB (textBits (txt s)) ws with
      | none =>
        rintro e A' ⟨g, hg, rfl, rfl⟩
        conv => whnf
        repeat (first | (refine LoadV.s rfl rfl (forceV_of ?_); conv => whnf) | (refine LoadV.s rfl rfl ?_; conv => whnf) | (refine StoreV.c rfl rfl (Nat.le_of_ble_eq_true rfl) rfl ?_; conv => whnf) | (refine LoadV.a _ rfl (Nat.le_of_ble_eq_true rfl) ?_; conv => whnf) | (refine DrawI.quiet (by kernel_rfl) (by kernel_rfl) ?_; conv => whnf) | (refine ArI.in64 (by omega) ?_; conv => whnf) | (refine ArI.inU8 (by omega) ?_; conv => whnf) | (refine ArI.inU64 (by omega) ?_; conv => whnf) | (refine ArI.inU32 (by omega) ?_; conv => whnf) | (refine RetI.one Try.results4 rfl ?_; conv => whnf) | (refine RetI.two Try.results4 rfl rfl ?_; conv => whnf) | (refine RetI.three Try.results4 rfl rfl rfl ?_; conv => whnf) | (refine RetI.none Try.results4 ?_; conv => whnf) | (refine ⟨by first | decide | omega, ?_⟩; conv => whnf))
        exact ⟨_, Sub.sel [] rfl, rfl, rfl⟩
      | some l =>
        have hll := (pack_unpack hU).1
        have hfit := zip_fit hU
        have hpk := (pack_unpack hU).2
        have hzl : (l.zip ws).length = ws.length := by rw [List.length_zip]; omega
        rintro e A' ⟨g, hg, rfl, rfl⟩
        simp only [unpackR] at hg ⊢
        conv => whnf
        refine cond_of_false (bne_eq_false_iff_eq.2 (by omega)) ?_
        conv => whnf
        refine LoopI.by_state (σ := Nat × Option (Nat × Nat)) (fun x => [(1, .string s), (15, svOf g l.length), (16, svOf x.2 ((l.zip ws).take x.1).length), (84, .slice ob ws.length cb), (85, .int .i64 (ws.length : Int)), (86, .int .i64 (x.1 : Int))])
          (fun x => [.own (svOf g l.length) l.length 33 1 (u64V l), .own (svOf x.2 ((l.zip ws).take x.1).length) ((l.zip ws).take x.1).length 35 2 (((l.zip ws).take x.1).flatMap fldF)])
          (fun x => x.1 ≤ ws.length ∧ (x.2 = none → x.1 = 0)) (fun x => ws.length - x.1) (0, none) ⟨by omega, by simp⟩ ⟨rfl, rfl, by rw [List.take_zero]; rfl, rfl, rfl, rfl, trivial⟩ (by simp only [List.take_zero]; exact Sub.trans (Sub.nil 35 2) (Sub.sel [1, 0] rfl)) ?_
        rintro ⟨i, gf⟩ f0 ⟨hi, hgf⟩
        dsimp only at hi hgf ⊢
        conv => whnf
        refine cond_dec (fun h => ?_) (fun h => ?_)
        · have hil : i < ws.length := by omega
          have hil2 : i < l.length := by omega
          obtain ⟨xa, ya, rfl, hra⟩ := hv.at (i := i) hil
          obtain ⟨gb, gc, rfl⟩ := gsome hg (by intro e; subst e; simp at hil2)
          conv => whnf
          refine ⟨by omega, ?_⟩
          conv => whnf
          refine LoadV.f (hra i (.int .i64 ws[i]) (by rw [List.getElem?_map, List.getElem?_eq_getElem hil]; rfl)) rfl ?_
          conv => whnf
          refine ⟨by omega, ?_⟩
          conv => whnf
          refine LoadV.os (off := elemOff 0 (i : Int) 1) rfl (v := .int .u64 ((l[i] : Nat) : Int)) (by show (u64V l)[0 + i]? = _; rw [Nat.zero_add, List.getElem?_map, List.getElem?_eq_getElem hil2]; rfl) ?_
          have htk := zip_take_snoc hil2 hil
          have hlt : ((l.zip ws).take i).length ≤ ws.length := by rw [List.length_take, hzl]; omega
          conv => whnf
          intro b
          conv => whnf
          refine BuiltV.append (sv := svOf gf ((l.zip ws).take i).length) (m := 1) Try.underlying22 rfl rfl rfl rfl (by decide) (Row.cells 2) rfl (by decide) rfl (by show (((l.zip ws).take i).length + 1) * 16 ≤ _; omega) (by omega) fun gb2 gc2 => ?_
          conv => whnf
          refine ArI.to64 ((i + 1 : Nat) : Int) (by omega) (by omega) ?_
          conv => whnf
          refine ⟨(i + 1, some (gb2, gc2)), _, by dsimp only; omega, Sub.sel [1, 2] rfl, ⟨by dsimp only; omega, by simp⟩, ⟨rfl, rfl, ?_, rfl, rfl, rfl, trivial⟩, ?_⟩
          · dsimp only; rw [htk, List.length_append]; rfl
          · dsimp only; rw [htk, own_snocF]; rfl
        · have hie : i = ws.length := by omega
          subst hie
          have hfull : (l.zip ws).take ws.length = l.zip ws := List.take_of_length_le (by omega)
          rw [hfull]
          conv => whnf
          refine CallS.mk Try.call10 ⟨[], _, _, Sub.refl _, fun F' hF' => bPack_ok F' (oaOf gf) (capOf gf) (l.zip ws) (SlF.sv hF' (T := 35) (flat_length fldF_length _) (fun e => by rw [hzl]; exact hgf e)) (U64s_of_fit hfit) (by omega), ?_⟩
          rw [hpk]
          rintro e A' ⟨rfl, rfl⟩
          conv => whnf
          repeat (first | (refine LoadV.s rfl rfl (forceV_of ?_); conv => whnf) | (refine LoadV.s rfl rfl ?_; conv => whnf) | (refine StoreV.c rfl rfl (Nat.le_of_ble_eq_true rfl) rfl ?_; conv => whnf) | (refine LoadV.a _ rfl (Nat.le_of_ble_eq_true rfl) ?_; conv => whnf) | (refine DrawI.quiet (by kernel_rfl) (by kernel_rfl) ?_; conv => whnf) | (refine ArI.in64 (by omega) ?_; conv => whnf) | (refine ArI.inU8 (by omega) ?_; conv => whnf) | (refine ArI.inU64 (by omega) ?_; conv => whnf) | (refine ArI.inU32 (by omega) ?_; conv => whnf) | (refine RetI.one Try.results4 rfl ?_; conv => whnf) | (refine RetI.two Try.results4 rfl rfl ?_; conv => whnf) | (refine RetI.three Try.results4 rfl rfl rfl ?_; conv => whnf) | (refine RetI.none Try.results4 ?_; conv => whnf) | (refine ⟨by first | decide | omega, ?_⟩; conv => whnf))
          exact ⟨_, Sub.sel [] rfl, ret_bool (beq_self_eq_true _), rfl⟩
end Go.Proofs.Ytcmijlclenpjiaa
