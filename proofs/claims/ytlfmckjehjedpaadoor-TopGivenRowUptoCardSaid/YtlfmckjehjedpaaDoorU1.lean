/- What the laws' proofs stand on, in one row: laws in numbers and lists, contracts of functions. No condition. -/
import Derived.Test.YtlfmckjehjedpaaDoorQ4
import Derived.Test.YtlfmckjehjedpaaDoorRows
import Derived.ProofKit
import Derived.OpenShut
import Derived.LaidMore
import Derived.Lay
import Derived.Stop.Joined
/- TopGivenRow walked. -/
namespace Go.Proofs.YtlfmckjehjedpaaDoor
set_option linter.unusedVariables false
set_option linter.unusedSimpArgs false
set_option maxRecDepth 100000
open SL Go.RowKit Go.Maps
set_option maxHeartbeats 8000000 in
theorem given_ok (F : Mem) (htab : TabA F) (oa ob : Option Addr) (ca cb : Nat) (sc : List BatI) (hS : ScrF F oa sc) (seen : List (Int × Int)) (hs : SlF F 2 ob seen.length (seen.flatMap seatF)) (hns : seen.length ≤ 10000000) :
    FT Tryd.prog 4 [.slice oa sc.length ca, .slice ob seen.length cb].toArray F [] (Ret (.bool true)) := by
  refine FT.of_body Tryd.func4 rfl Tryd.ntmps4 (by simp) fun C hC => ?_
  subst hC
  conv => whnf
  refine CallS.mk Tryd.call6 ⟨[], _, _, Sub.refl _, fun F' hF' => lives12_ok F' (htab.ext hF'), ?_⟩
  rintro e A' ⟨rfl, rfl⟩
  conv => whnf
  refine CallS.mk Tryd.call7 ⟨[], _, _, Sub.refl _, fun F' hF' => steps_ok F' (htab.ext hF') oa ca sc (hS.ext hF'), ?_⟩
  rintro e A' ⟨row, ms, ⟨gb, gc⟩, gm, hI, rfl, rfl⟩
  have hR := hI.ok
  obtain ⟨hl1, hl2⟩ := hI.len
  have htp : ∀ m ∈ ms, ∃ Y, (tailH ms).Perm (ownIt m.2.2.2 (itemsM m) :: Y) := fun m hm => tail_item hm
  have hbl := boxL_len fun m hm => hI.items hm
  have hrl : (row.flatMap treeF).length = row.length * 236 := flat_length treeF_length row
  rw [List.append_nil]
  generalize tailH ms = X at htp ⊢
  conv => whnf
  try (show forceH X _; rw [forceH_eq]; conv => whnf)
  refine LoopI.by_state (σ := Nat × Option (Nat × Nat)) (fun s => [(1, .slice ob seen.length cb), (5, svOf (some (gb, gc)) row.length), (8, svOf s.2 (boxL (ms.take s.1)).length), (29, svOf gm ms.length), (30, .int .i64 (ms.length : Int)), (31, .int .i64 (s.1 : Int))])
    (fun s => ownR (gb, gc) row :: ownM gm ms :: ownX s.2 (boxL (ms.take s.1)) :: X) (fun s => s.1 ≤ ms.length ∧ (s.2 = none ↔ boxL (ms.take s.1) = [])) (fun s => ms.length - s.1)
    (0, none) ⟨Nat.zero_le _, by simp [boxL]⟩ ⟨rfl, rfl, rfl, rfl, rfl, rfl, trivial⟩ ?_ ?_
  · exact Sub.trans (Sub.nil 37 4) (Sub.selX (A := [_, _, _]) [1, 2, 0] rfl)
  rintro ⟨i, gx⟩ f0 ⟨hi, hgx⟩
  dsimp only at hi hgx ⊢
  conv => whnf
  try (show forceH X _; rw [forceH_eq]; conv => whnf)
  refine cond_dec (fun h => ?_) (fun h => ?_)
  · have hil : i < ms.length := by omega
    obtain ⟨its, g3, Y, ep, g1, n1, g2, n2, hY, hni, hgi, hsn, hpart, hbi, mb, mc, rfl⟩ := msg_at hI htp hil
    generalize boxL (ms.take i) = bx at hgx hsn hbi ⊢
    conv => whnf
    try (show forceH X _; rw [forceH_eq]; conv => whnf)
    refine ⟨by omega, ?_⟩
    conv => whnf
    try (show forceH X _; rw [forceH_eq]; conv => whnf)
    refine LoadV.eq (b := mb) (o := 0 + i * 4) (by exact congrArg (fun o => (⟨mb, o, none⟩ : Addr)) (elem_off2 (o := 0) (n := 4) (by kernel_rfl) rfl)) ?_
    refine LoadV.op 4 [.int .i64 ep, svOf g1 n1, svOf g2 n2, svOf g3 its.length] rfl rfl (by rw [Nat.zero_add]; exact hpart) ?_
    conv => whnf
    try (show forceH X _; rw [forceH_eq]; conv => whnf)
    intro b10
    conv => whnf
    try (show forceH X _; rw [forceH_eq]; conv => whnf)
    refine StoreV.c rfl rfl (Nat.le_of_ble_eq_true rfl) rfl ?_
    conv => whnf
    try (show forceH X _; rw [forceH_eq]; conv => whnf)
    refine LoadV.s rfl rfl ?_
    conv => whnf
    try (show forceH X _; rw [forceH_eq]; conv => whnf)
    refine LoopI.by_state (σ := Nat × Option (Nat × Nat)) (fun s => [(1, .slice ob seen.length cb), (5, svOf (some (gb, gc)) row.length), (8, svOf s.2 (bx ++ (its.take s.1).map (·.2.2)).length), (29, svOf (some (mb, mc)) ms.length), (30, .int .i64 (ms.length : Int)), (31, .int .i64 (i : Int)), (36, svOf g3 its.length), (37, .int .i64 (its.length : Int)), (38, .int .i64 (s.1 : Int))])
      (fun s => ownIt g3 its :: ownR (gb, gc) row :: ownM (some (mb, mc)) ms :: ownX s.2 (bx ++ (its.take s.1).map (·.2.2)) :: Y) (fun s => s.1 ≤ its.length ∧ (s.2 = none ↔ bx ++ (its.take s.1).map (·.2.2) = [])) (fun s => its.length - s.1)
      (0, gx) ⟨Nat.zero_le _, by simpa using hgx⟩ ⟨rfl, rfl, by simp; rfl, rfl, rfl, rfl, rfl, rfl, rfl, trivial⟩ (by simpa using tail_in hY) ?_
    rintro ⟨j, g8⟩ f1 ⟨hj, hg8⟩
    dsimp only at hj hg8 ⊢
    conv => whnf
    try (show forceH Y _; rw [forceH_eq]; conv => whnf)
    refine cond_dec (fun h1 => ?_) (fun h1 => ?_)
    · have hjl : j < its.length := by omega
      have hpt := flat_drop itemF_length its j hjl
      have hsj : (its.take (j + 1)).map (·.2.2) = (its.take j).map (·.2.2) ++ [its[j].2.2] := by rw [take_snoc hjl, List.map_append]; rfl
      have hlj : ((its.take j).map (·.2.2)).length = j := by simp; omega
      obtain ⟨ib, ic, rfl⟩ : ∃ ib ic, g3 = some (ib, ic) := by
        cases g3 with
        | none => have := hgi.1 rfl; subst this; simp at hjl
        | some g => exact ⟨g.1, g.2, rfl⟩
      obtain ⟨it, hit⟩ : ∃ it, it = its[j] := ⟨_, rfl⟩
      rw [← hit] at hpt hsj
      generalize (its.take j).map (·.2.2) = bj at hg8 hsj hlj ⊢
      have hbj : (bx ++ bj).length ≤ 100000 := by rw [List.length_append]; omega
      have hsb : bx ++ (its.take (j + 1)).map (·.2.2) = (bx ++ bj) ++ [it.2.2] := by rw [hsj, List.append_assoc]
      generalize bx ++ bj = bb at hg8 hbj hsb ⊢
      rw [show itemF it = [.int .i64 it.1, .int .i64 it.2.1, .int .i64 it.2.2.1, .int .i64 it.2.2.2.1, .int .i64 it.2.2.2.2.1, .int .i64 it.2.2.2.2.2] from rfl] at hpt
      conv => whnf
      try (show forceH Y _; rw [forceH_eq]; conv => whnf)
      refine ⟨by omega, ?_⟩
      conv => whnf
      try (show forceH Y _; rw [forceH_eq]; conv => whnf)
      refine LoadV.eq (b := ib) (o := 0 + j * 6) (by exact congrArg (fun o => (⟨ib, o, none⟩ : Addr)) (elem_off2 (o := 0) (n := 6) (by kernel_rfl) rfl)) ?_
      refine LoadV.op 6 [.int .i64 it.1, .int .i64 it.2.1, .int .i64 it.2.2.1, .int .i64 it.2.2.2.1, .int .i64 it.2.2.2.2.1, .int .i64 it.2.2.2.2.2] rfl rfl (by rw [Nat.zero_add]; exact hpt) ?_
      conv => whnf
      try (show forceH Y _; rw [forceH_eq]; conv => whnf)
      intro b12
      conv => whnf
      try (show forceH Y _; rw [forceH_eq]; conv => whnf)
      refine StoreV.c rfl rfl (Nat.le_of_ble_eq_true rfl) rfl ?_
      conv => whnf
      try (show forceH Y _; rw [forceH_eq]; conv => whnf)
      refine LoadV.a 4 rfl (Nat.le_of_ble_eq_true rfl) ?_
      conv => whnf
      try (show forceH Y _; rw [forceH_eq]; conv => whnf)
      intro bl
      conv => whnf
      try (show forceH Y _; rw [forceH_eq]; conv => whnf)
      refine BuiltV.append (sv := svOf g8 bb.length) (m := 1) Tryd.underlying29 rfl rfl rfl rfl (by decide) (Row.cells 4) rfl (by decide) rfl (by show (bb.length + 1) * 32 ≤ _; omega) (by omega) fun hb hc => ?_
      conv => whnf
      try (show forceH Y _; rw [forceH_eq]; conv => whnf)
      refine ArI.to64 ((j + 1 : Nat) : Int) (by omega) (by omega) ?_
      conv => whnf
      try (show forceH Y _; rw [forceH_eq]; conv => whnf)
      refine ⟨(j + 1, some (hb, hc)), _, by dsimp only; omega, Sub.selX (A := [_, _, _, _, _, _]) [2, 3, 4, 5] rfl, ⟨by dsimp only; omega, by dsimp only; rw [hsb]; simp⟩, ⟨rfl, rfl, ?_, rfl, rfl, rfl, rfl, rfl, rfl, trivial⟩, ?_⟩
      · dsimp only; rw [hsb, (own_box bb it hb hc).1]; rfl
      · dsimp only; rw [hsb, (own_box bb it hb hc).2]; rfl
    · obtain rfl : j = its.length := by omega
      rw [List.take_length] at hg8 ⊢
      rw [← hsn] at hg8 ⊢
      conv => whnf
      try (show forceH Y _; rw [forceH_eq]; conv => whnf)
      refine ArI.to64 ((i + 1 : Nat) : Int) (by omega) (by omega) ?_
      conv => whnf
      try (show forceH Y _; rw [forceH_eq]; conv => whnf)
      exact ⟨(i + 1, g8), _, by dsimp only; omega, tail_out hY, ⟨by dsimp only; omega, hg8⟩, ⟨rfl, rfl, rfl, rfl, rfl, rfl, trivial⟩, rfl⟩
  · obtain rfl : i = ms.length := by omega
    rw [List.take_length] at hgx ⊢
    have hbox := hI.boxes
    have hks := opened_small hR (seen := seen)
    have hol := opK_len row seen
    have hml := metL_len row seen
    have hlaw := fun m (hm : ClosedM (opK row seen) (boxL ms) m) (i : Nat) (t : TreeS) (v : Nat) (h1 : row[i]? = some t) (h2 : v < 21) => given_law hI hm h1 h2
    have hbs : BoxesIn (boxL ms) := fun b hb => (hbox b hb).small hR
    generalize boxL ms = bs at hgx hbl hlaw hbs ⊢
    have hbsl : (bs.flatMap bxF).length = bs.length * 4 := flat_length bxF_length bs
    conv => whnf
    try (show forceH X _; rw [forceH_eq]; conv => whnf)
    refine CallS.mk Tryd.call8 ⟨[], _, _, Sub.refl _, fun F' hF' => opened_ok F' (some ⟨gb, 0, none⟩) ob gc cb row (SlF.sv (g := some (gb, gc)) hF' hrl (by intro h; cases h)) hR seen (hs.ext hF'.F) hns, ?_⟩
    rintro e A' ⟨g1, g2, hg1, hg2, rfl, rfl⟩
    generalize opK row seen = ks at hg1 hol hks hlaw ⊢
    generalize metL row seen = mt at hg2 hml hlaw ⊢
    have hksl : (ks.flatMap keyF).length = ks.length * 2 := flat_length keyF_length ks
    have hmtl : (mt.flatMap seatF).length = mt.length * 2 := flat_length seatF_length mt
    conv => whnf
    try (show forceH X _; rw [forceH_eq]; conv => whnf)
    refine CallS.mk Tryd.call10 ⟨[], _, _, Sub.refl _, fun F' hF' => closed_ok F' (oaOf g1) (oaOf gx) (capOf g1) (capOf gx) ks bs (SlF.sv hF' hksl (fun e => by rw [hg1.1 e]; rfl)) (SlF.sv hF' hbsl (fun e => by rw [hgx.1 e]; rfl)) (by omega) (by omega) hks hbs, ?_⟩
    rintro e A' ⟨r, es, cl, m, rfl, rfl, M, hC⟩
    have hG := hlaw m hC
    have hmt0 : mt.length ≤ 10000000 := Nat.le_trans hml hns
    conv => whnf
    try (show forceH X _; rw [forceH_eq]; conv => whnf)
    refine LoopI.by_state (σ := Nat) (fun i => [(5, svOf (some (gb, gc)) row.length), (14, svOf g2 mt.length), (15, .map (some r)), (58, svOf (some (gb, gc)) row.length), (59, .int .i64 (row.length : Int)), (60, .int .i64 (i : Int))])
      (fun _ => [.obj r (.map es cl), ownV g2 mt, ownR (gb, gc) row]) (fun i => i ≤ row.length) (fun i => row.length - i) 0 (Nat.zero_le _) ⟨rfl, rfl, rfl, rfl, rfl, rfl, trivial⟩ (Sub.sel [0, 2, 3] rfl) ?_
    rintro i f0 hi
    conv => whnf
    refine cond_dec (fun h => ?_) (fun h => ?_)
    · have hil : i < row.length := by omega
      have hget : row[i]? = some row[i] := List.getElem?_eq_getElem hil
      have hT := (hR.tree i _ hget).1
      have hpart := flat_drop treeF_length row i hil
      have hfl := treeF_length row[i]
      have hnk : ∀ v, v < 21 → ((treeF row[i]).drop (2 + v * 2)).take 2 = [.int .i64 (nodeK row[i].1 v).1, .int .i64 (nodeK row[i].1 v).2] := fun v hv => nodeK_at hT hv
      have hk6 : ∀ v, v < 21 → I64 (nodeK row[i].1 v).1 := fun v hv => nodeK_i64 hT hv
      have hla : (treeF row[i]).all Value.oneCell' = true := treeF_all row[i]
      generalize row[i] = t at hget hpart hT hfl hnk hk6 hla
      generalize treeF t = TF at hpart hfl hnk hla
      conv => whnf
      refine ⟨by omega, ?_⟩
      conv => whnf
      refine LoadV.eq (b := gb) (o := 0 + i * 236) (by exact congrArg (fun o => (⟨gb, o, none⟩ : Addr)) (elem_off2 (o := 0) (n := 236) (by kernel_rfl) rfl)) ?_
      refine LoadV.op 236 TF rfl hfl (by rw [Nat.zero_add]; exact hpart) ?_
      conv => whnf
      intro b8
      conv => whnf
      refine StoreV.p 236 TF TF rfl hfl rfl (Nat.le_of_ble_eq_true rfl) hla (by exact putAt_all (by rw [hfl]; rfl)) ?_
      conv => whnf
      refine LoopI.by_state (σ := Nat) (fun v => [(5, svOf (some (gb, gc)) row.length), (14, svOf g2 mt.length), (15, .map (some r)), (16, .int .i64 (i : Int)), (17, .pointer (some ⟨b8, 0, none⟩)), (18, .int .i64 (v : Int)), (58, svOf (some (gb, gc)) row.length), (59, .int .i64 (row.length : Int)), (60, .int .i64 (i : Int))])
        (fun _ => [.cells b8 TF 54 (0, 0), .obj r (.map es cl), ownV g2 mt, ownR (gb, gc) row]) (fun v => v ≤ 21) (fun v => 21 - v) 0 (by omega) ⟨rfl, rfl, rfl, rfl, rfl, rfl, rfl, rfl, rfl, trivial⟩ (Sub.refl _) ?_
      rintro v f1 hv
      conv => whnf
      refine cond_dec (fun h1 => ?_) (fun h1 => ?_)
      · have hv21 : v < 21 := by omega
        have hpart := hnk v hv21
        have hki := hk6 v hv21
        have hfo := fun F' (hm' : RdO F' r (.map es cl)) => follows_ok F' r es cl m hm' M (nodeK t.1 v) hki
        have hGv := hG i t v hget hv21
        generalize nodeK t.1 v = k at hpart hki hfo hGv
        conv => whnf
        refine CallS.mk Tryd.call11 ⟨[], _, _, Sub.refl _, fun F' hF' => rowExc_ok F' (some ⟨gb, 0, none⟩) (oaOf g2) gc (capOf g2) row (SlF.sv (g := some (gb, gc)) hF' hrl (by intro h; cases h)) (by omega) mt (SlF.sv hF' hmtl (fun e => by rw [hg2.1 e]; rfl)) (by omega) i v hil hv21, ?_⟩
        rintro e A' ⟨rfl, rfl⟩
        cases hx : excB row mt i v with
        | false =>
          conv => whnf
          refine ArI.to64 ((v + 1 : Nat) : Int) (by omega) (by omega) ?_
          conv => whnf
          exact ⟨v + 1, _, by omega, Sub.refl _, by show v + 1 ≤ 21; omega, ⟨rfl, rfl, rfl, rfl, rfl, rfl, rfl, rfl, rfl, trivial⟩, rfl⟩
        | true =>
          have hhk := hGv hx
          conv => whnf
          refine ⟨by omega, ?_⟩
          conv => whnf
          refine LoadV.eq (b := b8) (o := 2 + v * 2) (by exact congrArg (fun o => (⟨b8, o, none⟩ : Addr)) (elem_off2 (o := 2) (n := 2) (by kernel_rfl) rfl)) ?_
          refine LoadV.p 2 [.int .i64 k.1, .int .i64 k.2] rfl rfl (by show 2 + v * 2 + 2 ≤ TF.length; omega) hpart ?_
          conv => whnf
          refine CallS.mk Tryd.call12 ⟨[], _, _, Sub.refl _, fun F' hF' => hfo F' (RdO.obj hF' (by simp)), ?_⟩
          rintro e A' ⟨rfl, rfl⟩
          rw [hhk]
          conv => whnf
          refine ArI.to64 ((v + 1 : Nat) : Int) (by omega) (by omega) ?_
          conv => whnf
          exact ⟨v + 1, _, by omega, Sub.refl _, by show v + 1 ≤ 21; omega, ⟨rfl, rfl, rfl, rfl, rfl, rfl, rfl, rfl, rfl, trivial⟩, rfl⟩
      · conv => whnf
        refine ArI.to64 ((i + 1 : Nat) : Int) (by omega) (by omega) ?_
        conv => whnf
        exact ⟨i + 1, _, by omega, Sub.sel [1, 2, 3] rfl, by show i + 1 ≤ row.length; omega, ⟨rfl, rfl, rfl, rfl, rfl, rfl, trivial⟩, rfl⟩
    · conv => whnf
      refine RetI.one Tryd.results4 rfl ?_
      conv => whnf
      exact ⟨_, Sub.sel [] rfl, rfl, rfl⟩
end Go.Proofs.YtlfmckjehjedpaaDoor

/- What the listed variables give: the table of trailing noughts. -/
namespace Go.Proofs.YtlfmckjehjedpaaDoor
set_option linter.unusedVariables false
set_option linter.unusedSimpArgs false
set_option maxRecDepth 100000
open SL Go.RowKit Go.ChangeShapes Go.WideShapes Go.ChangeAt Go.Lib

theorem tabG_cell {W : World} (h : laidMetH Tryd.prog Rows.topGivenRowUptoRow.laid W) (j : Nat) (hj : j < 64) : W.cell? ⟨0, j, none⟩ = some (.int .u8 (deBruijn64tab.getD j 0)) := by
  rw [MakeChecks.laidMetH_plain _ _ _ (by kernel_rfl)] at h
  obtain ⟨ps, ⟨g1, t1, cs1, f1, p1, q1, hg1, ht1, hv1, hd1, _, _⟩, _, _⟩ := h
  obtain rfl : g1 = 0 := Option.some.inj (hg1.symm.trans (by kernel_rfl))
  obtain rfl : t1 = 149 := Option.some.inj (ht1.symm.trans (by kernel_rfl))
  obtain ⟨xs, m, _, ex, _, hl, hel⟩ := DataW.trod_array Tryd.underlying149 hd1
  have c5 : Tryd.prog.cellsOf 5 = 1 := by kernel_rfl
  have hE := hel j hj
  rw [c5, Nat.mul_one, List.getElem?_eq_getElem (by omega)] at hE
  obtain ⟨z, e1, e2, _⟩ := DataW.trod_int Tryd.underlying5 hE
  have e3 := (DataW.agg.inj (Prod.mk.inj ex).1).symm
  have e4 : (xs.map (·.1))[j]? = some (.lit (.int .u8 (deBruijn64tab.getD j 0))) := by
    rw [e3]
    show (deBruijn64tab.map fun (n : Nat) => DataW.lit (Lit.int .u8 (n : Int)))[j]? = _
    rw [List.getElem?_map, List.getD_eq_getElem?_getD, List.getElem?_eq_getElem (show j < deBruijn64tab.length from hj)]; rfl
  rw [List.getElem?_map, List.getElem?_eq_getElem (by omega : j < xs.length), e2] at e4
  have hz : z = (deBruijn64tab.getD j 0 : Nat) := by simpa using e4
  rw [World.var?_cell hg1 hv1 j, ← hz]
  have : cs1.toList[j]? = some (.int .u8 z) := by
    have h0 : ((cs1.toList.drop j).take 1)[0]? = some (.int .u8 z) := by rw [e1]; rfl
    simpa using h0
  simpa using this
theorem tabG_of {W : World} (h : laidMetH Tryd.prog Rows.topGivenRowUptoRow.laid W) : TabA (fun r => W.heap[r]?) := fun j hj => rd_of_cell (tabG_cell h j hj)
end Go.Proofs.YtlfmckjehjedpaaDoor
