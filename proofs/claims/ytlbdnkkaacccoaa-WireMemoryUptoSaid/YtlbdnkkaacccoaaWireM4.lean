/- The law of messages: memory. -/
import Derived.Test.YtlbdnkkaacccoaaWireM3
namespace Go.Proofs.Ytlbdnkkaacccoaa
set_option linter.unusedVariables false
set_option linter.unusedSimpArgs false
set_option maxRecDepth 100000
open SL Go.RowKit Go.Maps
theorem pre_flat {τ : Type} {f : τ → List Value} {sz : Nat} (hf : ∀ x, (f x).length = sz) (l r : List τ) : ((l ++ r).flatMap f).take (l.length * sz) = l.flatMap f := by
  rw [List.flatMap_append]
  exact List.take_left' (SL.flat_length hf l)
theorem all_flat {τ : Type} {f : τ → List Value} {sz : Nat} (hf : ∀ x, (f x).length = sz) (l : List τ) (x : τ) : ((l ++ [x]).flatMap f).take ((l.length + 1) * sz) = (l ++ [x]).flatMap f :=
  List.take_of_length_le (by rw [SL.flat_length hf]; simp)
theorem flat_le {τ : Type} {f : τ → List Value} {sz : Nat} (hf : ∀ x, (f x).length = sz) (l : List τ) (x : τ) : l.length * sz ≤ ((l ++ [x]).flatMap f).length := by
  rw [SL.flat_length hf]; exact Nat.mul_le_mul_right _ (by simp)
theorem flat_le1 {τ : Type} {f : τ → List Value} {sz : Nat} (hf : ∀ x, (f x).length = sz) (l : List τ) (x : τ) : (l.length + 1) * sz ≤ ((l ++ [x]).flatMap f).length := by
  rw [SL.flat_length hf]; exact Nat.mul_le_mul_right _ (by simp)
section
variable {F F' : Mem} {B : Heap} {m : Msg} {gl cl gj cj gi ci nL nJ nI : Nat} (hF : Ext F B F') [hfL : FindOwn B gl nL cl 57 2 ((m.L ++ [(-7, 0)]).flatMap seatF)] [hfJ : FindOwn B gj nJ cj 57 2 ((m.J ++ [(-8, 0)]).flatMap seatF)] [hfI : FindOwn B gi nI ci 55 6 ((m.I ++ [(-9, 0, 0, 0, 0, 0)]).flatMap itemF)]
include hF hfL hfJ hfI
theorem lent_rows : Rows14 F' m ⟨some ⟨gl, 0, none⟩, cl, some ⟨gj, 0, none⟩, cj, some ⟨gi, 0, none⟩, ci⟩ :=
  ⟨by have := SlF.own_pre (b := gl) (n' := nL) (c := cl) (T := 57) (n := m.L.length) (sz := 2) (l := (m.L ++ [(-7, 0)]).flatMap seatF) hF (flat_le seatF_length _ _); rwa [pre_flat seatF_length] at this,
   by have := SlF.own_pre (b := gj) (n' := nJ) (c := cj) (T := 57) (n := m.J.length) (sz := 2) (l := (m.J ++ [(-8, 0)]).flatMap seatF) hF (flat_le seatF_length _ _); rwa [pre_flat seatF_length] at this,
   by have := SlF.own_pre (b := gi) (n' := nI) (c := ci) (T := 55) (n := m.I.length) (sz := 6) (l := (m.I ++ [(-9, 0, 0, 0, 0, 0)]).flatMap itemF) hF (flat_le itemF_length _ _); rwa [pre_flat itemF_length] at this⟩
theorem lent_more : SlF F' 2 (some ⟨gl, 0, none⟩) (m.L.length + 1) ((m.L ++ [(-7, 0)]).flatMap seatF) ∧ SlF F' 2 (some ⟨gj, 0, none⟩) (m.J.length + 1) ((m.J ++ [(-8, 0)]).flatMap seatF) ∧ SlF F' 6 (some ⟨gi, 0, none⟩) (m.I.length + 1) ((m.I ++ [(-9, 0, 0, 0, 0, 0)]).flatMap itemF) :=
  ⟨by have := SlF.own_pre (b := gl) (n' := nL) (c := cl) (T := 57) (n := m.L.length + 1) (sz := 2) (l := (m.L ++ [(-7, 0)]).flatMap seatF) hF (flat_le1 seatF_length _ _); rwa [all_flat seatF_length] at this,
   by have := SlF.own_pre (b := gj) (n' := nJ) (c := cj) (T := 57) (n := m.J.length + 1) (sz := 2) (l := (m.J ++ [(-8, 0)]).flatMap seatF) hF (flat_le1 seatF_length _ _); rwa [all_flat seatF_length] at this,
   by have := SlF.own_pre (b := gi) (n' := nI) (c := ci) (T := 55) (n := m.I.length + 1) (sz := 6) (l := (m.I ++ [(-9, 0, 0, 0, 0, 0)]).flatMap itemF) hF (flat_le1 itemF_length _ _); rwa [all_flat itemF_length] at this⟩
end
theorem own_bx {F F' : Mem} {B : Heap} {g : Option (Nat × Nat)} {l : List Bx} (hF : Ext F B F') {G : HObj → Heap} [OwnHole B (svOf g l.length) l.length 31 4 (l.flatMap bxF) G] (h : g = none ↔ l = []) : SlF F' 4 (oaOf g) l.length (l.flatMap bxF) := SlF.sv (g := g) hF (T := 31) (SL.flat_length bxF_length _) (at_nil h)
theorem flat_put {τ : Type} {f : τ → List Value} {sz : Nat} (hf : ∀ x, (f x).length = sz) : ∀ (l : List τ) (i : Nat) (x : τ), i < l.length → putAt (l.flatMap f) (i * sz) (f x) = (l.set i x).flatMap f
  | [], _, _, h => by simp at h
  | q :: l, 0, p, _ => by
    have h1 := hf q
    have h2 := hf p
    simp only [List.flatMap_cons, List.set_cons_zero, putAt, Nat.zero_mul, List.take_zero, List.nil_append, Nat.zero_add]
    rw [h2, List.drop_left' h1]
  | q :: l, i + 1, p, h => by
    have ih := flat_put hf l i p (by simpa using h)
    have h1 := hf q
    have e : putAt ((q :: l).flatMap f) ((i + 1) * sz) (f p) = f q ++ putAt (l.flatMap f) (i * sz) (f p) := by
      have h3 : (i + 1) * sz = (f q).length + i * sz := by rw [h1, Nat.succ_mul, Nat.add_comm]
      unfold putAt
      rw [h3, List.flatMap_cons, List.take_length_add_append, Nat.add_assoc, List.drop_length_add_append]
      simp
    rw [e, ih]; simp
theorem dec_small (t : ByteArray) : (decV t).1.L.length ≤ 1048576 ∧ (decV t).1.J.length ≤ 1048576 ∧ (decV t).1.I.length ≤ 1048576 := by
  unfold decV
  split
  · unfold rdRes
    split
    · rename_i p hp
      have := tkMsg_sz hp
      dsimp only
      omega
    · exact ⟨Nat.zero_le _, Nat.zero_le _, Nat.zero_le _⟩
  · exact ⟨Nat.zero_le _, Nat.zero_le _, Nat.zero_le _⟩
theorem boxes_len {m : Msg} (hI : m.I.length ≤ 1048576) : (boxesOf m).length ≤ 1048576 := by
  unfold boxesOf
  split
  · simpa using hI
  · split
    · show 3 ≤ 1048576; decide
    · exact Nat.zero_le _
/-- A message's cells, with any values in place of its lists. -/
def msgC (x : Msg) (vL vJ vI : Value) : List Value := .int .i64 x.kind :: ([.int .i64 x.ep, vL, vJ, vI] ++ rqV x ++ rpV x ++ seV x)
abbrev memT (x : Msg) (a2 a3 : Nat) (h2 h3 : Option (Nat × Nat) × Option (Nat × Nat) × Option (Nat × Nat)) (X : Heap) : Heap := .cells a3 (msgL x (slsOf h3.1 h3.2.1 h3.2.2)) 38 (0, 0) :: ownS h3.1 x.L :: ownS h3.2.1 x.J :: ownI h3.2.2 x.I :: .cells a2 (msgL x (slsOf h2.1 h2.2.1 h2.2.2)) 38 (0, 0) :: ownS h2.1 x.L :: ownS h2.2.1 x.J :: ownI h2.2.2 x.I :: X
theorem seat_at : ∀ (l : List Seat) (i : Nat) (h : i < l.length), (l.flatMap seatF)[i * 2]? = some (.int .i64 (l[i]).1)
  | q :: l, 0, _ => rfl
  | q :: l, i + 1, h => by
    have ih := seat_at l i (by simpa using h)
    have e : (i + 1) * 2 = (seatF q).length + i * 2 := by show (i + 1) * 2 = 2 + i * 2; omega
    rw [List.flatMap_cons, e, List.getElem?_append_right (by omega), Nat.add_sub_cancel_left, ih]
    rfl
theorem neg_row {l : List Seat} {n : Nat} (hl : l.length = n) (h : ∀ j v, j < n → l[j]? = some v → v.1 < 0) : ∀ i, i < n + 1 → ∃ v : Int, (l.flatMap seatF ++ seatF (-4, 0))[0 + i * 2]? = some (.int .i64 v) ∧ v < 0 := by
  intro i hi
  have hf := SL.flat_length seatF_length l
  by_cases hin : i < n
  · have h1 : (l.flatMap seatF)[0 + i * 2]? = some (.int .i64 (l[i]).1) := by rw [Nat.zero_add]; exact seat_at l i (by omega)
    refine ⟨(l[i]).1, ?_, h i _ hin (List.getElem?_eq_getElem (by omega))⟩
    rw [List.getElem?_append_left (by omega)]
    exact h1
  · have : i = n := by omega
    subst this
    refine ⟨-4, ?_, by decide⟩
    rw [List.getElem?_append_right (by omega), hf, hl]
    simp [seatF]
theorem neg_step {l : List Seat} {i : Nat} (h : ∀ j v, j < i → l[j]? = some v → v.1 < 0) (hi : i < l.length) : ∀ j v, j < i + 1 → (l.set i (-2, 0))[j]? = some v → v.1 < 0 := by
  intro j v hj hv
  rw [List.getElem?_set] at hv
  split at hv
  · cases hv; decide
  · exact h j v (by omega) hv
set_option maxHeartbeats 4000000 in
theorem memory_ok14 (F : Mem) (m : Msg) (s : Sls) (text : ByteArray) (hr : Rows14 F m s) (hz : Sz m) (hL : m.L.length ≤ 1048576) (hJ : m.J.length ≤ 1048576) (hI : m.I.length ≤ 1048576) (hc : (s.oL = none → s.cL = 0) ∧ (s.oJ = none → s.cJ = 0) ∧ (s.oI = none → s.cI = 0)) (hs : text.size ≤ 4398046511104) : FT Try.prog 7 [.agg (msgL m s).toArray, .string text].toArray F [] (Ret (.bool true)) := by
  refine FT.of_body Try.func7 rfl Try.ntmps7 (by simp) fun C hC => ?_
  subst hC
  conv => whnf
  intro p
  conv => whnf
  refine CallS.mk Try.call8 ⟨[], _, _, Sub.refl _, fun F' hF' => lives14_ok F', ?_⟩
  rintro e A' ⟨rfl, rfl⟩
  conv => whnf
  refine LoadV.a 26 rfl (Nat.le_of_ble_eq_true rfl) ?_
  conv => whnf
  refine CallS.mk Try.call16 ⟨[], [_], _, Sub.sel [0] rfl, fun F' hF' => lent_ok F' m s (hr.ext hF'.F) hL hJ hI hc, ?_⟩
  rintro e A' ⟨gl, cl, gj, cj, gi, ci, hcl, hcj, hci, rfl, rfl⟩
  conv => whnf
  intro q
  conv => whnf
  refine StoreV.c rfl rfl (Nat.le_of_ble_eq_true rfl) rfl ?_
  conv => whnf
  refine DrawI.mixed [1, 3, 5] [_, _, _, _, _] (by kernel_rfl) (by kernel_rfl) (by kernel_rfl) (by kernel_rfl) (by kernel_rfl) (Sub.refl _) ?_
  conv => whnf
  refine LoadV.a 26 rfl (Nat.le_of_ble_eq_true rfl) ?_
  conv => whnf
  have hXn := boxes_len hI
  refine CallS.mk Try.call17 ⟨[], [_, _, _, _, _], _, Sub.sel [0, 1, 2, 3, 4] rfl, fun F' hF' => wboxes_ok F' m ⟨some ⟨gl, 0, none⟩, cl, some ⟨gj, 0, none⟩, cj, some ⟨gi, 0, none⟩, ci⟩ (lent_rows hF') hI, ?_⟩
  obtain ⟨X, hX⟩ : ∃ X, X = boxesOf m := ⟨_, rfl⟩
  rw [← hX] at hXn ⊢
  rintro e A' ⟨g1, hg1, rfl, rfl⟩
  conv => whnf
  refine ⟨Sub.sel [1, 2, 3, 4, 5] rfl, ?_⟩
  conv => whnf
  refine LoadV.a 26 rfl (Nat.le_of_ble_eq_true rfl) ?_
  conv => whnf
  refine CallS.mk Try.call17 ⟨[], [_, _, _, _, _, _], _, Sub.sel [0, 1, 2, 3, 4, 5] rfl, fun F' hF' => wboxes_ok F' m ⟨some ⟨gl, 0, none⟩, cl, some ⟨gj, 0, none⟩, cj, some ⟨gi, 0, none⟩, ci⟩ (lent_rows hF') hI, ?_⟩
  rw [← hX]
  rintro e A' ⟨g2, hg2, rfl, rfl⟩
  conv => whnf
  refine ⟨Sub.sel [2, 3, 4, 5, 6] rfl, ?_⟩
  conv => whnf
  refine LoadV.a 26 rfl (Nat.le_of_ble_eq_true rfl) ?_
  conv => whnf
  refine CallS.mk Try.call18 ⟨[], [_, _, _, _, _, _, _], _, Sub.sel [0, 1, 2, 3, 4, 5, 6] rfl, fun F' hF' => rboxes_ok F' m s (hr.ext hF'.F) hI, ?_⟩
  rw [← hX]
  rintro e A' ⟨g3, hg3, rfl, rfl⟩
  conv => whnf
  refine ⟨Sub.sel [3, 4, 5, 6, 7] rfl, ?_⟩
  conv => whnf
  refine CallS.mk Try.call19 ⟨[], [_, _, _, _, _, _, _, _], _, Sub.sel [0, 1, 2, 3, 4, 5, 6, 7] rfl, fun F' hF' => sameX_ok F' (oaOf g1) (oaOf g3) (capOf g1) (capOf g3) X X (own_bx hF' hg1) (own_bx hF' hg3) (by omega), ?_⟩
  rw [show decide (X = X) = true from decide_eq_true rfl]
  rintro e A' ⟨rfl, rfl⟩
  conv => whnf
  refine CallS.mk Try.call19 ⟨[], [_, _, _, _, _, _, _, _], _, Sub.sel [0, 1, 2, 3, 4, 5, 6, 7] rfl, fun F' hF' => sameX_ok F' (oaOf g2) (oaOf g3) (capOf g2) (capOf g3) X X (own_bx hF' hg2) (own_bx hF' hg3) (by omega), ?_⟩
  rw [show decide (X = X) = true from decide_eq_true rfl]
  rintro e A' ⟨rfl, rfl⟩
  conv => whnf
  refine LoopI.by_state (σ := Nat × List Bx) (fun y => [(1, .string text), (2, .pointer (some ⟨p, 0, none⟩)), (5, .pointer (some ⟨q, 0, none⟩)), (6, svOf g1 X.length), (7, svOf g2 X.length), (8, svOf g3 X.length), (45, .int .i64 (X.length : Int)), (46, .int .i64 (y.1 : Int))])
    (fun y => [ownX g3 X, ownX g2 X, .own (svOf g1 X.length) X.length 31 4 (y.2.flatMap bxF), .cells q (msgL m (slsOf (some (gl, cl)) (some (gj, cj)) (some (gi, ci)))) 38 (0, 0), ownS (some (gl, cl)) (m.L ++ [(-7, 0)]), ownS (some (gj, cj)) (m.J ++ [(-8, 0)]), ownI (some (gi, ci)) (m.I ++ [(-9, 0, 0, 0, 0, 0)]), .cells p (msgL m s) 38 (0, 0)])
    (fun y => y.1 ≤ X.length ∧ y.2.length = X.length) (fun y => X.length - y.1) (0, X) ⟨Nat.zero_le _, rfl⟩ ⟨rfl, rfl, rfl, rfl, rfl, rfl, rfl, rfl, trivial⟩ (Sub.refl _) ?_
  rintro ⟨i, xs⟩ f0 ⟨hi, hxl⟩
  dsimp only at hi hxl ⊢
  conv => whnf
  refine cond_dec (fun h => ?_) (fun h => ?_)
  · obtain ⟨b1, c1, rfl⟩ : ∃ b c, g1 = some (b, c) := by
      cases g1 with
      | none => have := hg1.1 rfl; subst this; exact absurd h (by simp)
      | some p => exact ⟨p.1, p.2, rfl⟩
    conv => whnf
    refine ⟨by omega, ?_⟩
    conv => whnf
    refine StoreV.os (l := xs.flatMap bxF) rfl rfl (by show 0 + i * 4 + 4 ≤ _; rw [SL.flat_length bxF_length]; omega) rfl ?_
    rw [show putAt (xs.flatMap bxF) (elemOff 0 (i : Int) Try.prog.types[31].size) (Value.agg #[.int .i64 0, .int .i64 0, .int .i64 0, .int .i64 0]).cells.toList = (xs.set i (0, 0, 0, 0)).flatMap bxF by
      show putAt (xs.flatMap bxF) (0 + i * 4) (bxF (0, 0, 0, 0)) = _; rw [Nat.zero_add]; exact flat_put bxF_length _ _ _ (by omega)]
    conv => whnf
    refine ArI.to64 ((i + 1 : Nat) : Int) (by omega) (by omega) ?_
    conv => whnf
    exact ⟨(i + 1, xs.set i (0, 0, 0, 0)), _, by dsimp only; omega, Sub.refl _, ⟨by dsimp only; omega, by dsimp only; rw [List.length_set]; exact hxl⟩, ⟨rfl, rfl, rfl, rfl, rfl, rfl, rfl, rfl, trivial⟩, rfl⟩
  · conv => whnf
    intro bb
    conv => whnf
    refine BuiltV.append (sv := svOf g1 X.length) (m := 1) Try.underlying51 rfl rfl rfl rfl (by decide) (Row.cells 4) rfl (by decide) rfl (by show (X.length + 1) * 32 ≤ _; omega) (by omega) fun gb gc => ?_
    conv => whnf
    refine LoadV.a 26 rfl (Nat.le_of_ble_eq_true rfl) ?_
    conv => whnf
    refine CallS.mk Try.call11 ⟨[], [_, _, _, _, _, _, _], _, Sub.sel [1, 2, 4, 5, 6, 7, 8] rfl, fun F' hF' => enc_ok F' m (slsOf (some (gl, cl)) (some (gj, cj)) (some (gi, ci))) (lent_rows hF') hz, ?_⟩
    obtain ⟨y, hy⟩ : ∃ y, y = encV m := ⟨_, rfl⟩
    rw [← hy]
    rintro e A' ⟨rfl, rfl⟩
    conv => whnf
    refine LoadV.a 26 rfl (Nat.le_of_ble_eq_true rfl) ?_
    conv => whnf
    refine CallS.mk Try.call12 ⟨[], [_, _, _, _, _, _, _], _, Sub.sel [0, 1, 2, 3, 4, 5, 6] rfl, fun F' hF' => renc_ok F' m s (hr.ext hF'.F) hz, ?_⟩
    rw [← hy]
    rintro e A' ⟨rfl, rfl⟩
    conv => whnf
    rw [show (y.1.toList == y.1.toList) = true from beq_self_eq_true _]
    conv => whnf
    rw [show (y.2 != y.2) = false by simp]
    conv => whnf
    refine LoadV.a 26 rfl (Nat.le_of_ble_eq_true rfl) ?_
    conv => whnf
    refine LoadV.a 26 rfl (Nat.le_of_ble_eq_true rfl) ?_
    conv => whnf
    refine CallS.mk Try.call15 ⟨[], [_, _, _, _, _, _, _], _, Sub.sel [0, 1, 2, 3, 4, 5, 6] rfl, fun F' hF' => same14_ok F' m m (slsOf (some (gl, cl)) (some (gj, cj)) (some (gi, ci))) s (lent_rows hF') (hr.ext hF'.F) hz, ?_⟩
    rw [sameB_iff.2 rfl]
    rintro e A' ⟨rfl, rfl⟩
    conv => whnf
    refine LoadV.a 26 rfl (Nat.le_of_ble_eq_true rfl) ?_
    conv => whnf
    refine CallS.mk Try.call20 ⟨[], [_, _, _, _, _, _, _], _, Sub.sel [0, 1, 2, 3, 4, 5, 6] rfl, fun F' hF' => kept_ok F' m (slsOf (some (gl, cl)) (some (gj, cj)) (some (gi, ci))) (lent_more (m := m) (gl := gl) (gj := gj) (gi := gi) (cl := cl) (cj := cj) (ci := ci) hF').1 (lent_more (m := m) (gl := gl) (gj := gj) (gi := gi) (cl := cl) (cj := cj) (ci := ci) hF').2.1 (lent_more (m := m) (gl := gl) (gj := gj) (gi := gi) (cl := cl) (cj := cj) (ci := ci) hF').2.2 hcl hcj hci hL hJ hI, ?_⟩
    rintro e A' ⟨rfl, rfl⟩
    conv => whnf
    refine CallS.mk Try.call19 ⟨[], [_, _], _, Sub.sel [0, 1] rfl, fun F' hF' => sameX_ok F' (oaOf g2) (oaOf g3) (capOf g2) (capOf g3) X X (own_bx hF' hg2) (own_bx hF' hg3) (by omega), ?_⟩
    rw [show decide (X = X) = true from decide_eq_true rfl]
    rintro e A' ⟨rfl, rfl⟩
    conv => whnf
    refine ArI.to64 ((X.length + 1 : Nat) : Int) (by omega) (by omega) ?_
    conv => whnf
    rw [show ((((X.length + 1 : Nat) : Int)) != ((X.length + 1 : Nat) : Int)) = false by simp]
    conv => whnf
    refine CallS.mk Try.call13 ⟨[], [], _, Sub.sel [] rfl, fun F' hF' => dec_ok F' text (by omega), ?_⟩
    have hdz := dec_sz text
    have hdl : (decV text).1.L.length ≤ 1048576 ∧ (decV text).1.J.length ≤ 1048576 ∧ (decV text).1.I.length ≤ 1048576 := dec_small text
    obtain ⟨d, hd⟩ : ∃ d, d = decV text := ⟨_, rfl⟩
    rw [← hd] at hdz hdl ⊢
    obtain ⟨x, ex⟩ := d
    rintro e A' ⟨gL, gJ, gI, hat, rfl, rfl⟩
    dsimp only at hat hdz hdl
    obtain ⟨dL, dJ, dI⟩ := hdl
    conv => whnf
    intro a1
    conv => whnf
    refine StoreV.c rfl rfl (Nat.le_of_ble_eq_true rfl) rfl ?_
    conv => whnf
    refine CallS.mk Try.call13 ⟨[], [_, _, _, _], _, Sub.sel [0, 1, 2, 3] rfl, fun F' hF' => dec_ok F' text (by omega), ?_⟩
    rw [← hd]
    rintro e A' ⟨hL2, hJ2, hI2, hat2, rfl, rfl⟩
    dsimp only at hat2
    conv => whnf
    intro a2
    conv => whnf
    refine StoreV.c rfl rfl (Nat.le_of_ble_eq_true rfl) rfl ?_
    conv => whnf
    refine CallS.mk Try.call14 ⟨[], [_, _, _, _, _, _, _, _], _, Sub.sel [0, 1, 2, 3, 4, 5, 6, 7] rfl, fun F' hF' => rdec_ok F' text hs, ?_⟩
    rw [← hd]
    rintro e A' ⟨hL3, hJ3, hI3, hat3, rfl, rfl⟩
    dsimp only at hat3
    conv => whnf
    intro a3
    conv => whnf
    refine StoreV.c rfl rfl (Nat.le_of_ble_eq_true rfl) rfl ?_
    conv => whnf
    refine (show LoadV _ _ _ ⟨a1, 4, none⟩ _ _ from ?_)
    refine LoadV.s rfl rfl (forceV_of ?_)
    conv => whnf
    refine LoopI.by_state (σ := Nat × List Item) (fun y => [(14, .pointer (some ⟨a1, 0, none⟩)), (16, .pointer (some ⟨a2, 0, none⟩)), (18, .pointer (some ⟨a3, 0, none⟩)), (120, .int .i64 (x.I.length : Int)), (121, .int .i64 (y.1 : Int))])
      (fun y => memT x a2 a3 (hL2, hJ2, hI2) (hL3, hJ3, hI3) [.cells a1 (msgL x (slsOf gL gJ gI)) 38 (0, 0), .own (svOf gL x.L.length) x.L.length 57 2 ((x.L).flatMap seatF), .own (svOf gJ x.J.length) x.J.length 57 2 ((x.J).flatMap seatF), .own (svOf gI x.I.length) x.I.length 55 6 ((y.2).flatMap itemF)])
      (fun y => y.1 ≤ x.I.length ∧ y.2.length = x.I.length ∧ (fun _ => True) y) (fun y => x.I.length - y.1) (0, x.I) ⟨Nat.zero_le _, rfl, trivial⟩ ⟨rfl, rfl, rfl, rfl, rfl, trivial⟩ (Sub.refl _) ?_
    rintro ⟨i3, l3⟩ f3 ⟨hi3, hl3, hq3⟩
    dsimp only at hi3 hl3 hq3 ⊢
    conv => whnf
    refine cond_dec (fun h3 => ?_) (fun h3 => ?_)
    · obtain ⟨b1, c1, rfl⟩ : ∃ b c, gI = some (b, c) := by
        cases gI with
        | none => have := hat.I.1 rfl; rw [this] at h3; exact absurd h3 (by simp)
        | some p => exact ⟨p.1, p.2, rfl⟩
      conv => whnf
      refine (show LoadV _ _ _ ⟨a1, 4, none⟩ _ _ from ?_)
      refine LoadV.s rfl rfl (forceV_of ?_)
      conv => whnf
      refine ⟨by omega, ?_⟩
      conv => whnf
      refine StoreV.os (l := l3.flatMap itemF) rfl rfl (by show 0 + i3 * 6 + 6 ≤ _; rw [SL.flat_length itemF_length]; omega) rfl ?_
      rw [show putAt (l3.flatMap itemF) (elemOff 0 (i3 : Int) Try.prog.types[55].size) (Value.agg #[.int .i64 (-1), .int .i64 0, .int .i64 0, .int .i64 0, .int .i64 0, .int .i64 0]).cells.toList = (l3.set i3 (-1, 0, 0, 0, 0, 0)).flatMap itemF by
        show putAt (l3.flatMap itemF) (0 + i3 * 6) (itemF (-1, 0, 0, 0, 0, 0)) = _; rw [Nat.zero_add]; exact flat_put itemF_length _ _ _ (by omega)]
      conv => whnf
      refine ArI.to64 ((i3 + 1 : Nat) : Int) (by omega) (by omega) ?_
      conv => whnf
      exact ⟨(i3 + 1, l3.set i3 (-1, 0, 0, 0, 0, 0)), _, by dsimp only; omega, Sub.refl _, ⟨by dsimp only; omega, by dsimp only; rw [List.length_set]; exact hl3, trivial⟩, ⟨rfl, rfl, rfl, rfl, rfl, trivial⟩, rfl⟩
    conv => whnf
    refine (show LoadV _ _ _ ⟨a1, 2, none⟩ _ _ from ?_)
    refine LoadV.s rfl rfl (forceV_of ?_)
    conv => whnf
    refine LoopI.by_state (σ := Nat × List Seat) (fun y => [(14, .pointer (some ⟨a1, 0, none⟩)), (16, .pointer (some ⟨a2, 0, none⟩)), (18, .pointer (some ⟨a3, 0, none⟩)), (134, .int .i64 (x.L.length : Int)), (135, .int .i64 (y.1 : Int))])
      (fun y => memT x a2 a3 (hL2, hJ2, hI2) (hL3, hJ3, hI3) [.cells a1 (msgL x (slsOf gL gJ gI)) 38 (0, 0), .own (svOf gL x.L.length) x.L.length 57 2 ((y.2).flatMap seatF), .own (svOf gJ x.J.length) x.J.length 57 2 ((x.J).flatMap seatF), .own (svOf gI x.I.length) x.I.length 55 6 ((l3).flatMap itemF)])
      (fun y => y.1 ≤ x.L.length ∧ y.2.length = x.L.length ∧ (fun y => ∀ j v, j < y.1 → y.2[j]? = some v → v.1 < 0) y) (fun y => x.L.length - y.1) (0, x.L) ⟨Nat.zero_le _, rfl, (fun j v h => absurd h (Nat.not_lt_zero _))⟩ ⟨rfl, rfl, rfl, rfl, rfl, trivial⟩ (Sub.refl _) ?_
    rintro ⟨i4, l4⟩ f4 ⟨hi4, hl4, hq4⟩
    dsimp only at hi4 hl4 hq4 ⊢
    conv => whnf
    refine cond_dec (fun h4 => ?_) (fun h4 => ?_)
    · obtain ⟨b1, c1, rfl⟩ : ∃ b c, gL = some (b, c) := by
        cases gL with
        | none => have := hat.L.1 rfl; rw [this] at h4; exact absurd h4 (by simp)
        | some p => exact ⟨p.1, p.2, rfl⟩
      conv => whnf
      refine (show LoadV _ _ _ ⟨a1, 2, none⟩ _ _ from ?_)
      refine LoadV.s rfl rfl (forceV_of ?_)
      conv => whnf
      refine ⟨by omega, ?_⟩
      conv => whnf
      refine StoreV.os (l := l4.flatMap seatF) rfl rfl (by show 0 + i4 * 2 + 2 ≤ _; rw [SL.flat_length seatF_length]; omega) rfl ?_
      rw [show putAt (l4.flatMap seatF) (elemOff 0 (i4 : Int) Try.prog.types[57].size) (Value.agg #[.int .i64 (-2), .int .i64 0]).cells.toList = (l4.set i4 (-2, 0)).flatMap seatF by
        show putAt (l4.flatMap seatF) (0 + i4 * 2) (seatF (-2, 0)) = _; rw [Nat.zero_add]; exact flat_put seatF_length _ _ _ (by omega)]
      conv => whnf
      refine ArI.to64 ((i4 + 1 : Nat) : Int) (by omega) (by omega) ?_
      conv => whnf
      exact ⟨(i4 + 1, l4.set i4 (-2, 0)), _, by dsimp only; omega, Sub.refl _, ⟨by dsimp only; omega, by dsimp only; rw [List.length_set]; exact hl4, neg_step hq4 (by omega)⟩, ⟨rfl, rfl, rfl, rfl, rfl, trivial⟩, rfl⟩
    conv => whnf
    refine (show LoadV _ _ _ ⟨a1, 3, none⟩ _ _ from ?_)
    refine LoadV.s rfl rfl (forceV_of ?_)
    conv => whnf
    refine LoopI.by_state (σ := Nat × List Seat) (fun y => [(14, .pointer (some ⟨a1, 0, none⟩)), (16, .pointer (some ⟨a2, 0, none⟩)), (18, .pointer (some ⟨a3, 0, none⟩)), (148, .int .i64 (x.J.length : Int)), (149, .int .i64 (y.1 : Int))])
      (fun y => memT x a2 a3 (hL2, hJ2, hI2) (hL3, hJ3, hI3) [.cells a1 (msgL x (slsOf gL gJ gI)) 38 (0, 0), .own (svOf gL x.L.length) x.L.length 57 2 ((l4).flatMap seatF), .own (svOf gJ x.J.length) x.J.length 57 2 ((y.2).flatMap seatF), .own (svOf gI x.I.length) x.I.length 55 6 ((l3).flatMap itemF)])
      (fun y => y.1 ≤ x.J.length ∧ y.2.length = x.J.length ∧ (fun _ => True) y) (fun y => x.J.length - y.1) (0, x.J) ⟨Nat.zero_le _, rfl, trivial⟩ ⟨rfl, rfl, rfl, rfl, rfl, trivial⟩ (Sub.refl _) ?_
    rintro ⟨i5, l5⟩ f5 ⟨hi5, hl5, hq5⟩
    dsimp only at hi5 hl5 hq5 ⊢
    conv => whnf
    refine cond_dec (fun h5 => ?_) (fun h5 => ?_)
    · obtain ⟨b1, c1, rfl⟩ : ∃ b c, gJ = some (b, c) := by
        cases gJ with
        | none => have := hat.J.1 rfl; rw [this] at h5; exact absurd h5 (by simp)
        | some p => exact ⟨p.1, p.2, rfl⟩
      conv => whnf
      refine (show LoadV _ _ _ ⟨a1, 3, none⟩ _ _ from ?_)
      refine LoadV.s rfl rfl (forceV_of ?_)
      conv => whnf
      refine ⟨by omega, ?_⟩
      conv => whnf
      refine StoreV.os (l := l5.flatMap seatF) rfl rfl (by show 0 + i5 * 2 + 2 ≤ _; rw [SL.flat_length seatF_length]; omega) rfl ?_
      rw [show putAt (l5.flatMap seatF) (elemOff 0 (i5 : Int) Try.prog.types[57].size) (Value.agg #[.int .i64 (-3), .int .i64 0]).cells.toList = (l5.set i5 (-3, 0)).flatMap seatF by
        show putAt (l5.flatMap seatF) (0 + i5 * 2) (seatF (-3, 0)) = _; rw [Nat.zero_add]; exact flat_put seatF_length _ _ _ (by omega)]
      conv => whnf
      refine ArI.to64 ((i5 + 1 : Nat) : Int) (by omega) (by omega) ?_
      conv => whnf
      exact ⟨(i5 + 1, l5.set i5 (-3, 0)), _, by dsimp only; omega, Sub.refl _, ⟨by dsimp only; omega, by dsimp only; rw [List.length_set]; exact hl5, trivial⟩, ⟨rfl, rfl, rfl, rfl, rfl, trivial⟩, rfl⟩
    conv => whnf
    refine (show LoadV _ _ _ ⟨a1, 2, none⟩ _ _ from ?_)
    refine LoadV.s rfl rfl (forceV_of ?_)
    conv => whnf
    intro bl
    conv => whnf
    refine BuiltV.append (sv := svOf gL x.L.length) (m := 1) Try.underlying22 rfl rfl rfl rfl (by decide) (Row.cells 2) rfl (by decide) rfl (by show (x.L.length + 1) * 16 ≤ _; omega) (by omega) fun gb1 gc1 => ?_
    conv => whnf
    refine (show StoreV _ _ _ ⟨a1, 2, none⟩ _ _ _ from ?_)
    refine StoreV.c rfl rfl (Nat.le_of_ble_eq_true rfl) rfl ?_
    conv => whnf
    refine (show LoadV _ _ _ ⟨a1, 3, none⟩ _ _ from ?_)
    refine LoadV.s rfl rfl (forceV_of ?_)
    conv => whnf
    intro bl
    conv => whnf
    refine BuiltV.append (sv := svOf gJ x.J.length) (m := 1) Try.underlying22 rfl rfl rfl rfl (by decide) (Row.cells 2) rfl (by decide) rfl (by show (x.J.length + 1) * 16 ≤ _; omega) (by omega) fun gb2 gc2 => ?_
    conv => whnf
    refine (show StoreV _ _ _ ⟨a1, 3, none⟩ _ _ _ from ?_)
    refine StoreV.c rfl rfl (Nat.le_of_ble_eq_true rfl) rfl ?_
    conv => whnf
    refine (show LoadV _ _ _ ⟨a1, 4, none⟩ _ _ from ?_)
    refine LoadV.s rfl rfl (forceV_of ?_)
    conv => whnf
    intro bl
    conv => whnf
    refine BuiltV.append (sv := svOf gI x.I.length) (m := 1) Try.underlying23 rfl rfl rfl rfl (by decide) (Row.cells 6) rfl (by decide) rfl (by show (x.I.length + 1) * 48 ≤ _; omega) (by omega) fun gb3 gc3 => ?_
    conv => whnf
    refine (show StoreV _ _ _ ⟨a1, 4, none⟩ _ _ _ from ?_)
    refine StoreV.c rfl rfl (Nat.le_of_ble_eq_true rfl) rfl ?_
    conv => whnf
    refine (show LoadV _ _ _ ⟨a1, 2, none⟩ _ _ from ?_)
    refine LoadV.s rfl rfl (forceV_of ?_)
    conv => whnf
    have hneg := neg_row (l := l4) (n := x.L.length) hl4 (fun j v hj => hq4 j v (by omega))
    refine LoopI.by_state (σ := Nat) (fun y => [(14, .pointer (some ⟨a1, 0, none⟩)), (16, .pointer (some ⟨a2, 0, none⟩)), (18, .pointer (some ⟨a3, 0, none⟩)), (186, .int .i64 ((x.L.length : Int) + 1)), (187, .int .i64 (y : Int))])
      (fun y => memT x a2 a3 (hL2, hJ2, hI2) (hL3, hJ3, hI3) [.cells a1 (msgC x (.slice (some ⟨gb1, 0, none⟩) (x.L.length + 1) gc1) (.slice (some ⟨gb2, 0, none⟩) (x.J.length + 1) gc2) (.slice (some ⟨gb3, 0, none⟩) (x.I.length + 1) gc3)) 38 (0, 0), .own (.slice (some ⟨gb1, 0, none⟩) (x.L.length + 1) gc1) (x.L.length + 1) 57 2 (l4.flatMap seatF ++ seatF (-4, 0))])
      (fun y => y ≤ x.L.length + 1) (fun y => x.L.length + 1 - y) 0 (Nat.zero_le _) ⟨rfl, rfl, rfl, rfl, rfl, trivial⟩ (Sub.sel [3, 4, 5, 6, 7, 8, 9, 10, 11, 12] rfl) ?_
    rintro i6 f6 hi6
    conv => whnf
    refine cond_dec (fun h6 => ?_) (fun h6 => ?_)
    · conv => whnf
      refine (show LoadV _ _ _ ⟨a1, 2, none⟩ _ _ from ?_)
      refine LoadV.s rfl rfl (forceV_of ?_)
      conv => whnf
      refine ⟨by omega, ?_⟩
      conv => whnf
      obtain ⟨v6, hv6, hn6⟩ := hneg i6 (by omega)
      refine (show LoadV _ _ _ ⟨gb1, 0 + i6 * 2, none⟩ _ _ from ?_)
      refine LoadV.os rfl hv6 ?_
      conv => whnf
      refine cond_dec (fun h7 => ?_) (fun h7 => ?_)
      · omega
      · conv => whnf
        refine ArI.to64 ((i6 + 1 : Nat) : Int) (by omega) (by omega) ?_
        conv => whnf
        exact ⟨i6 + 1, _, by omega, Sub.refl _, by omega, ⟨rfl, rfl, rfl, rfl, rfl, trivial⟩, rfl⟩
    · conv => whnf
      refine LoadV.a 26 rfl (Nat.le_of_ble_eq_true rfl) ?_
      conv => whnf
      refine LoadV.a 26 rfl (Nat.le_of_ble_eq_true rfl) ?_
      conv => whnf
      refine CallS.mk Try.call15 ⟨[], [_, _, _, _, _, _, _, _], _, Sub.sel [0, 1, 2, 3, 4, 5, 6, 7] rfl, fun F' hF' => same14_ok F' x x (slsOf hL2 hJ2 hI2) (slsOf hL3 hJ3 hI3) (own_rows hF' hat2) (own_rows hF' hat3) hdz, ?_⟩
      rw [sameB_iff.2 rfl]
      rintro e A' ⟨rfl, rfl⟩
      conv => whnf
      repeat (first | (refine LoadV.s rfl rfl (forceV_of ?_); conv => whnf) | (refine LoadV.s rfl rfl ?_; conv => whnf) | (refine StoreV.c rfl rfl (Nat.le_of_ble_eq_true rfl) rfl ?_; conv => whnf) | (refine LoadV.a _ rfl (Nat.le_of_ble_eq_true rfl) ?_; conv => whnf) | (refine DrawI.quiet (by kernel_rfl) (by kernel_rfl) ?_; conv => whnf) | (refine ArI.in64 (by omega) ?_; conv => whnf) | (refine ArI.inU8 (by omega) ?_; conv => whnf) | (refine ArI.inU64 (by omega) ?_; conv => whnf) | (refine ArI.inU32 (by omega) ?_; conv => whnf) | (refine RetI.one Try.results7 rfl ?_; conv => whnf) | (refine RetI.two Try.results7 rfl rfl ?_; conv => whnf) | (refine RetI.three Try.results7 rfl rfl rfl ?_; conv => whnf) | (refine RetI.none Try.results7 ?_; conv => whnf) | (refine ⟨by first | decide | omega, ?_⟩; conv => whnf))
      exact ⟨_, Sub.sel [] rfl, rfl, rfl⟩
end Go.Proofs.Ytlbdnkkaacccoaa
