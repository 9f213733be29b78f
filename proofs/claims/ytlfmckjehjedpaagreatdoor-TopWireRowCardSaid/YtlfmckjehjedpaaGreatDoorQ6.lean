/- What the laws' proofs stand on, in one row: laws in numbers and lists, contracts of functions. No condition. -/
import Derived.Test.YtlfmckjehjedpaaGreatDoorQ5
import Derived.Test.YtlfmckjehjedpaaGreatDoorQ4
import Derived.SizedLaws
import Derived.Test.YtlfmckjehjedpaaGreatDoorRows
import Derived.Test.YtlfmckjehjedpaaGreatDoorQ1
import Derived.ProofKit
import Derived.OpenShut
import Derived.LaidMore
import Derived.Lay
import Derived.Stop.Joined
/- The laws of messages: lives, unlike messages, messages that come back. -/
namespace Go.Proofs.YtlfmckjehjedpaaGreatDoor
set_option linter.unusedVariables false
set_option linter.unusedSimpArgs false
set_option maxRecDepth 100000
open SL Go.RowKit Go.Maps
end Go.Proofs.YtlfmckjehjedpaaGreatDoor

/- The laws of messages: they come back. -/
namespace Go.Proofs.YtlfmckjehjedpaaGreatDoor
set_option linter.unusedVariables false
set_option linter.unusedSimpArgs false
set_option maxRecDepth 100000
open SL Go.RowKit Go.Maps
theorem own_rows {F F' : Mem} {B : Heap} {m : Msg} {gL gJ gI : Option (Nat × Nat)} (hF : Ext F B F') {G1 G2 G3 : HObj → Heap} [OwnHole B (svOf gL m.L.length) m.L.length 97 2 (m.L.flatMap seatF) G1] [OwnHole B (svOf gJ m.J.length) m.J.length 97 2 (m.J.flatMap seatF) G2] [OwnHole B (svOf gI m.I.length) m.I.length 75 6 (m.I.flatMap itemF) G3] (h : MsgAt m gL gJ gI) : Rows14 F' m (slsOf gL gJ gI) :=
  ⟨SlF.sv (g := gL) hF (T := 97) (SL.flat_length seatF_length _) (at_nil h.L), SlF.sv (g := gJ) hF (T := 97) (SL.flat_length seatF_length _) (at_nil h.J), SlF.sv (g := gI) hF (T := 75) (SL.flat_length itemF_length _) (at_nil h.I)⟩
theorem mBits_len {m : Msg} (h : goodB m = true) : (mBits m).length ≤ 100000 := by
  unfold mBits restBits
  rw [List.length_append, bitsOf_length]
  rcases good_cases h with ⟨hk, h1, h2, h3, h4⟩ | ⟨hk, h1, h2, h3, h4⟩ | ⟨hk, h1, h2, h3, h4⟩ | ⟨hk, h1, h2, h3, h4⟩
  · simp only [gRk, Bool.and_eq_true, decide_eq_true_eq] at h1
    obtain ⟨⟨⟨q1, q2, q3⟩, q4, q5⟩, q6, q7⟩ := h1
    rw [if_pos hk]
    simp only [List.length_append, bitsOf_length, ssBits, isBits, flat_length sBits_length, flat_length iBits_length]
    omega
  · rw [if_neg (by omega), if_pos hk]
    simp only [List.length_append, bitsOf_length]
    omega
  · rw [if_neg (by omega), if_neg (by omega), if_pos hk]
    simp only [List.length_append, bitsOf_length, bBits_length]
    omega
  · simp only [gSe, Bool.and_eq_true, decide_eq_true_eq] at h4
    obtain ⟨_, q3⟩ := h4
    have := txt_length m.tx
    rw [if_neg (by omega), if_neg (by omega), if_neg (by omega)]
    simp only [List.length_append, bitsOf_length, kBits_length, flat_length (bitsOf_length 8)]
    omega
theorem enc_size {m : Msg} (h : goodB m = true) : (encT m).size ≤ 100000 := by
  have := mBits_len h
  show (strB _).size ≤ _
  rw [strB_size, packB_length]
  omega
end Go.Proofs.YtlfmckjehjedpaaGreatDoor

/- Rekey messages are right, and small: plain laws. -/
namespace Go.Proofs.YtlfmckjehjedpaaGreatDoor
set_option linter.unusedVariables false
set_option linter.unusedSimpArgs false
set_option maxRecDepth 100000
open SL Go.RowKit Go.Maps
theorem itA_cnt (t : TreeI) (p : Nat → Bool) : ∀ j, j ≤ 21 → (itA t p j).length + 4 * cntN p (21 - j) ≤ 4 * cntN p 21
  | 0, _ => by simp [itA]
  | j + 1, hj => by
    have ih := itA_cnt t p j (by omega)
    have hv := itV_len t (20 - j) 4
    have hs := cntN_succ p (20 - j)
    rw [show 20 - j + 1 = 21 - j by omega] at hs
    unfold itA
    rw [List.length_append, show 21 - (j + 1) = 20 - j by omega]
    by_cases hp : p (20 - j) = true
    · rw [if_pos hp] at hs ⊢; omega
    · rw [if_neg hp] at hs ⊢; simp only [List.length_nil]; omega
theorem cnt_under {q : Nat} (h : q < 64) : cntN (fun v => under v q) 21 = 3 := by
  have : ∀ q : Fin 64, cntN (fun v => under v q.1) 21 = 3 := by decide +kernel
  exact this ⟨q, h⟩
theorem cnt_or (p q : Nat → Bool) (n : Nat) : cntN (fun v => p v || q v) n ≤ cntN p n + cntN q n := by
  induction n with
  | zero => simp [cntN]
  | succ n ih =>
    rw [cntN_succ, cntN_succ, cntN_succ]
    cases p n <;> cases q n <;> simp <;> omega
theorem cnt_rep : ∀ (l : List Seat), SlotsOk l → cntN (repP l) 21 ≤ 3 * l.length
  | [], _ => by
    have : cntN (repP []) 21 = cntN (fun _ => false) 21 := cntN_congr fun v _ => rfl
    rw [this]; simp [cntN]
  | x :: l, h => by
    have ih := cnt_rep l fun y hy => h y (by simp [hy])
    have hx := h x (by simp)
    have h1 := cnt_or (fun v => under v x.2.toNat) (repP l) 21
    have h2 : cntN (repP (x :: l)) 21 = cntN (fun v => under v x.2.toNat || repP l v) 21 := cntN_congr fun v _ => by simp [repP]
    rw [h2, List.length_cons]
    rw [cnt_under (by omega)] at h1
    omega
/-- At most twelve sealed keys for each who leaves or joins. -/
theorem items_few (t : TreeI) (L J : List Int) (h : SlotsOk (leftL t.rs L)) : (itemsN t L J).length ≤ 12 * ((leftL t.rs L).length + (joinedL t.rs L J).length) := by
  have h1 := itA_cnt (nextT t L J) (repT t L) 21 (Nat.le_refl _)
  have h2 := itB_len (nextT t L J) (repT t L) (joinedL t.rs L J)
  have h3 := cnt_rep _ h
  have h4 : cntN (repT t L) 21 ≤ 3 * (leftL t.rs L).length := h3
  unfold itemsN itemsT
  rw [List.length_append]
  omega
def rkM (t : TreeI) (L J : List Int) : Msg := { zMsg with kind := 1, ep := t.ep + 1, L := leftL t.rs L, J := joinedL t.rs L J, I := itemsN t L J }
theorem item_good {t : TreeI} (T : TreeOk t) {L J : List Int} (he : t.ep ≠ 200) (hf : Fit t.rs L J) : ∀ it ∈ itemsN t L J, itemB it = true := fun it h => by
  have U := nextT_ok T he hf
  unfold itemsN itemsT at h
  have key : ∀ (v c : Nat), v < 21 → HasK (nextT t L J) c → (c : Int) ≠ (v : Int) → isBelow (v : Int) (c : Int) = true → itemB (itemT (nextT t L J) v c) = true := fun v c hv hc hne hb => by
    have k1 := hc.key U
    have k2 := HasK.key U (v := v) (.inl hv)
    unfold itemB itemT bxB
    dsimp only
    rw [hb, k1, k2]
    have : btw (v : Int) 0 20 = true := by unfold btw; rw [decide_eq_true (by omega), decide_eq_true (by omega)]; rfl
    rw [this, show ((c : Int) != (v : Int)) = true from bne_iff_ne.2 hne]; rfl
  rcases List.mem_append.1 h with h | h
  · obtain ⟨v, j, _, hv, hj, _, hh, rfl⟩ := (itA_mem 21 (Nat.le_refl _)).1 h
    have hb : ∀ v : Fin 21, ∀ j : Fin 4, isBelow (v.1 : Int) ((4 * v.1 + 1 + j.1 : Nat) : Int) = true := by decide +kernel
    exact key v _ hv (held_has U (by omega) hh) (by omega) (hb ⟨v, hv⟩ ⟨j, hj⟩)
  · obtain ⟨x, hx, v, hv, rfl⟩ := itB_mem h
    obtain ⟨_, hl, ht⟩ := joined_seated T hf x hx
    have h64 : x.2.toNat < 64 := by have := U.R.len; omega
    obtain ⟨u1, u2, u3⟩ := path_under h64
    simp only [pathL, List.mem_cons, List.not_mem_nil, or_false] at hv
    have hv2 : v < 21 ∧ under v x.2.toNat = true := by
      rcases hv with rfl | rfl | rfl
      · exact ⟨by omega, u1⟩
      · exact ⟨by omega, u2⟩
      · exact ⟨by omega, u3⟩
    exact key v _ hv2.1 (.inr ⟨_, hl, rfl, ht⟩) (by omega) hv2.2
theorem left_slots {t : TreeI} (T : TreeOk t) {L J : List Int} (hf : Fit t.rs L J) : SlotsOk (leftL t.rs L) ∧ (leftL t.rs L).all seatB = true := by
  have key : ∀ x ∈ leftL t.rs L, (0 ≤ x.2 ∧ x.2 < 64) ∧ 0 ≤ x.1 ∧ x.1 < 256 := fun x hx => by
    obtain ⟨w, hw, rfl⟩ := List.mem_map.1 hx
    obtain ⟨q, hq, hs⟩ := Sits.of (hf.on w hw)
    have h64 := hs.lt T
    have := hf.rL w hw
    dsimp only
    rw [hq]; omega
  refine ⟨fun x hx => (key x hx).1, List.all_eq_true.2 fun x hx => ?_⟩
  obtain ⟨⟨h1, h2⟩, h3, h4⟩ := key x hx
  unfold seatB btw
  rw [decide_eq_true h3, decide_eq_true (show x.1 ≤ 255 by omega), decide_eq_true h1, decide_eq_true (show x.2 ≤ 63 by omega)]; rfl
theorem joined_good {t : TreeI} (T : TreeOk t) {L J : List Int} (he : t.ep ≠ 200) (hf : Fit t.rs L J) : (joinedL t.rs L J).all seatB = true := List.all_eq_true.2 fun x hx => by
  obtain ⟨h0, hl, ht⟩ := joined_seated T hf x hx
  have h64 : x.2.toNat < 64 := by
    have : (nextT t L J).rs.length = 64 := (nextT_ok T he hf).R.len
    omega
  obtain ⟨j, hj, _, rfl⟩ := joinedL_at hx
  have hr := hf.rJ _ (List.getElem_mem hj)
  dsimp only at h0 h64
  unfold seatB btw
  dsimp only
  rw [decide_eq_true hr.1, decide_eq_true (show J[j] ≤ 255 by omega), decide_eq_true h0, decide_eq_true (by omega)]; rfl
theorem rk_good {t : TreeI} (T : TreeOk t) {L J : List Int} (he : t.ep ≠ 200) (hf : Fit t.rs L J) : goodB (rkM t L J) = true := by
  have h1 := (left_slots T hf).2
  have h2 := joined_good T he hf
  have h3 : (itemsN t L J).all itemB = true := List.all_eq_true.2 (item_good T he hf)
  have h4 := hf.lenL T.R
  have h5 := hf.lenJ T.R
  have h6 := itemsN_len T hf
  have h7 := joinedL_length T.R hf
  have h8 : (leftL t.rs L).length = L.length := by unfold leftL; rw [List.length_map]
  have hep := T.ep
  unfold goodB
  rw [if_pos (show (rkM t L J).kind = 1 from rfl)]
  have e1' : e1 (rkM t L J) = true := rfl
  have e2' : e2 (rkM t L J) = true := by kernel_rfl
  have e3' : e3 (rkM t L J) = true := by kernel_rfl
  rw [e1', e2', e3']
  have : gRk (rkM t L J) = true := by
    unfold gRk
    show (btw (t.ep + 1) 1 200 && ((leftL t.rs L).all seatB && decide (((leftL t.rs L).length : Int) ≤ 64)) && ((joinedL t.rs L J).all seatB && decide (((joinedL t.rs L J).length : Int) ≤ 64)) && ((itemsN t L J).all itemB && decide (((itemsN t L J).length : Int) ≤ 1536))) = true
    rw [h1, h2, h3, decide_eq_true (show ((leftL t.rs L).length : Int) ≤ 64 by omega), decide_eq_true (show ((joinedL t.rs L J).length : Int) ≤ 64 by omega), decide_eq_true (show ((itemsN t L J).length : Int) ≤ 1536 by omega)]
    unfold btw
    rw [decide_eq_true (by omega), decide_eq_true (by omega)]; rfl
  rw [this]; rfl
theorem rk_sz {t : TreeI} (T : TreeOk t) {L J : List Int} (hf : Fit t.rs L J) : Sz (rkM t L J) := by
  have h4 := hf.lenL T.R
  have h5 := hf.lenJ T.R
  have h6 := itemsN_len T hf
  have h7 := joinedL_length T.R hf
  have h8 : (leftL t.rs L).length = L.length := by unfold leftL; rw [List.length_map]
  exact ⟨by show (leftL t.rs L).length ≤ _; omega, by show (joinedL t.rs L J).length ≤ _; omega, by show (itemsN t L J).length ≤ _; omega, Nat.zero_le _⟩
end Go.Proofs.YtlfmckjehjedpaaGreatDoor

/- Batches as an argument. -/
namespace Go.Proofs.YtlfmckjehjedpaaGreatDoor
set_option linter.unusedVariables false
set_option linter.unusedSimpArgs false
set_option maxRecDepth 100000
open SL Go.RowKit
/-- How a slice is read. -/
def DnB {H : Type} (d : DataW H) (n : Nat) : Prop := (d = .nil ∧ n = 0) ∨ ∃ els spare, d = .slice els spare ∧ els.length = n
theorem take_drop_catB {cs : List Value} (a b : Nat) : cs.drop a = (cs.drop a).take b ++ cs.drop (a + b) := by rw [← List.drop_drop]; exact (List.take_append_drop _ _).symm
theorem view_intR : ∀ row, okCells [.i .i64] row = true → row.all wfCell = true → ∃ x : Int, I64 x ∧ row = [.int .i64 x] := fun row h hw => by
  obtain ⟨x, hx, rfl⟩ := view_int row h hw
  refine ⟨x, ?_, rfl⟩
  simp [Lit.wf, IntKind.min, IntKind.max, IntKind.signed, IntKind.bits] at hx
  unfold I64; omega
theorem mapM2 {α β : Type} {f : α → Option β} {a b : α} {ys : List β} (h : [a, b].mapM f = some ys) : ∃ w x, f a = some w ∧ f b = some x ∧ ys = [w, x] := by
  simp only [List.mapM_cons, List.mapM_nil, bind, Option.bind_eq_some_iff, pure, Option.some.injEq] at h
  obtain ⟨w, hw, _, ⟨x, hx, _, rfl, rfl⟩, rfl⟩ := h
  exact ⟨w, x, hw, hx, rfl⟩
section
variable {H : Type} {enc : TypeId × Value → H} {W : World} {base b0 : Nat} {sp : Nat → Bool} {held : Bool} {r : Reach} {v : Value} {d : DataW H} {ps : List MemPlace}
theorem open_bat {fuel : Nat} {cs : List Value} {x : DataW H × List MemPlace} (h : DataW.trod enc Tryz.prog W base sp held fuel 54 cs = some x) :
    ∃ (y : BatI) (dL dJ : DataW H), cs = batF y ∧ SlF (fun r => W.heap[r]?) 1 y.2.2.oL y.1.length (intsV y.1) ∧ SlF (fun r => W.heap[r]?) 1 y.2.2.oJ y.2.1.length (intsV y.2.1) ∧ (∀ w ∈ y.1, I64 w) ∧ (∀ w ∈ y.2.1, I64 w) ∧ x.1 = .agg [dL, dJ] ∧ DnB dL y.1.length ∧ DnB dJ y.2.1.length := by
  cases fuel with
  | zero => simp [DataW.trod] at h
  | succ m =>
    rw [DataW.trod_step] at h
    unfold DataW.trodStep at h
    simp only [Tryz.underlying54] at h
    split at h
    · rename_i hl
      obtain ⟨ys, hy, rfl⟩ := Option.map_eq_some_iff.1 h
      obtain ⟨y1, y2, h1, h2, rfl⟩ := mapM2 hy
      dsimp only at h1 h2
      rw [show Tryz.prog.cellsOf 52 = 1 by kernel_rfl] at h1 h2
      rw [show Tryz.prog.cellsOf 54 = 2 by kernel_rfl] at hl
      obtain ⟨oL, nL, cL, vL, e1, SL, kL, wL, DL⟩ := open_rows (e := 3) (d := 4) (ks := [.i .i64]) Tryz.underlying52 (by kernel_rfl) (by kernel_rfl) (by decide) h1
      obtain ⟨oJ, nJ, cJ, vJ, e2, SJ, kJ, wJ, DJ⟩ := open_rows (e := 3) (d := 4) (ks := [.i .i64]) Tryz.underlying52 (by kernel_rfl) (by kernel_rfl) (by decide) h2
      obtain ⟨L, rfl, rfl, qL⟩ := rows_viewQ (f := fun x => [Value.int .i64 x]) view_intR nL vL kL wL
      obtain ⟨J, rfl, rfl, qJ⟩ := rows_viewQ (f := fun x => [Value.int .i64 x]) view_intR nJ vJ kJ wJ
      rw [flatMap_one] at SL SJ
      refine ⟨(L, J, ⟨oL, cL, oJ, cJ⟩), y1.1, y2.1, ?_, SL, SJ, qL, qJ, rfl, DL, DJ⟩
      rw [show cs = cs.drop 0 from rfl, take_drop_catB 0 1, take_drop_catB (0 + 1) 1, e1, e2, List.drop_of_length_le (by omega)]
      rfl
    · cases h
end
end Go.Proofs.YtlfmckjehjedpaaGreatDoor

/- A slice of batches as an argument. -/
namespace Go.Proofs.YtlfmckjehjedpaaGreatDoor
set_option linter.unusedVariables false
set_option linter.unusedSimpArgs false
set_option maxRecDepth 100000
open SL Go.RowKit
section
variable {H : Type} {enc : TypeId × Value → H} {W : World} {base b0 : Nat} {sp : Nat → Bool} {held : Bool} {r : Reach} {v : Value} {d : DataW H} {ps : List MemPlace}
instance : Inhabited BatI := ⟨([], [], ⟨none, 0, none, 0⟩)⟩
/-- A batch whose lists read so. -/
def BatR {H : Type} (W : World) (y : BatI) (d : DataW H) : Prop := SlF (fun r => W.heap[r]?) 1 y.2.2.oL y.1.length (intsV y.1) ∧ SlF (fun r => W.heap[r]?) 1 y.2.2.oJ y.2.1.length (intsV y.2.1) ∧ (∀ w ∈ y.1, I64 w) ∧ (∀ w ∈ y.2.1, I64 w) ∧ ∃ dL dJ, d = .agg [dL, dJ] ∧ DnB dL y.1.length ∧ DnB dJ y.2.1.length
theorem open_bats (hval : Value.okWide Tryz.prog W r b0 22 v) (hd : DataW.Trod enc Tryz.prog W base sp held 22 v d ps) :
    ∃ (oa : Option Addr) (sc : List BatI) (ca : Nat), v = .slice oa sc.length ca ∧ SlF (fun r => W.heap[r]?) 2 oa sc.length (sc.flatMap batF) ∧
      ((d = .nil ∧ sc = []) ∨ ∃ els spare, d = .slice els spare ∧ els.length = sc.length ∧ ∀ (i : Nat) y e, sc[i]? = some y → els[i]? = some e → BatR W y e) := by
  obtain ⟨a, len, cap, rfl⟩ := Go.WideShapes.okWide_slice Tryz.underlying22 hval
  obtain ⟨fuel, hf'⟩ := hd
  rcases Go.Deep.open_slice Tryz.underlying22 hf' with ⟨h1, h2⟩ | ⟨a', len', cap', m, n, D, Pl, h1, hb, hl, hm, hmm, h2, hx⟩
  · obtain ⟨rfl, rfl, rfl⟩ : a = none ∧ len = 0 ∧ cap = 0 := by simpa [Value.cells] using h1
    exact ⟨none, [], 0, rfl, ⟨by simp, fun h => by simp at h⟩, .inl ⟨by cases h2; rfl, rfl⟩⟩
  · obtain ⟨rfl, rfl, rfl⟩ : a = some a' ∧ len = len' ∧ cap = cap' := by simpa [Value.cells] using h1
    have hle : len ≤ m := by rw [hmm]; split <;> omega
    rw [show Tryz.prog.cellsOf 54 = 2 by kernel_rfl] at hx
    obtain ⟨V, hV⟩ := Go.Deep.choose_lt (α := List Value) (p := fun i cs' => W.cells? base (a'.add (i * 2)) 2 = some cs' ∧ DataW.trod enc Tryz.prog W base sp held n 54 cs' = some (D i, Pl i)) hx
    have hY : ∀ i, i < m → ∃ y : BatI, V i = batF y ∧ BatR W y (D i) := fun i hi => by
      obtain ⟨y, dL, dJ, e1, e2, e3, e4, e5, e6, e7, e8⟩ := open_bat (hV i hi).2
      exact ⟨y, e1, e2, e3, e4, e5, dL, dJ, e6, e7, e8⟩
    obtain ⟨Y, hY2⟩ := Go.Deep.choose_lt (α := BatI) (p := fun i y => V i = batF y ∧ BatR W y (D i)) hY
    have hln : ∀ i, i < len → (V i).length = 2 := fun i hi => by rw [(hY2 i (by omega)).1]; rfl
    obtain ⟨f1, f2⟩ := flatten_view hln len (Nat.le_refl _)
    have hVY : (List.range len).flatMap V = ((List.range len).map Y).flatMap batF := by
      rw [List.flatMap_map]
      have key : ∀ l : List Nat, (∀ i ∈ l, i < m) → l.flatMap V = l.flatMap fun i => batF (Y i) := by
        intro l
        induction l with
        | nil => intro _; rfl
        | cons i l ih =>
          intro h
          rw [List.flatMap_cons, List.flatMap_cons, ih fun j hj => h j (by simp [hj]), (hY2 i (h i (by simp))).1]
      exact key _ fun i hi => by have := List.mem_range.1 hi; omega
    have hl2 : ((List.range len).map Y).length = len := by simp
    have hw : ∃ (oa : Option Addr), some a' = oa ∧ SlF (fun r => W.heap[r]?) 2 oa len ((List.range len).flatMap V) := by
      refine ⟨_, rfl, f1, fun hn => ?_⟩
      have hspot : a'.spot = none := by
        obtain ⟨_, hl0, hc⟩ := World.cells?_some (hV 0 (by omega)).1
        have h1 := hc 0 (by decide)
        rw [Nat.zero_mul] at h1
        have h2 : (V 0)[0]? = some ((V 0)[0]'(by rw [hl0]; decide)) := List.getElem?_eq_getElem _
        rw [h2] at h1
        exact World.cell?_spot (by simpa [Addr.add] using h1)
      obtain ⟨ab, ao, asp⟩ := a'
      simp only at hspot
      subst hspot
      have hcell : ∀ j v, ((List.range len).flatMap V)[j]? = some v → W.cell? ⟨ab, ao + j, none⟩ = some v := fun j v hj => by
        have hjl : j < len * 2 := by rw [← f1]; exact (List.getElem?_eq_some_iff.1 hj).1
        have hdm : j / 2 * 2 + j % 2 = j := Nat.div_add_mod' j 2
        have hi : j / 2 < len := by omega
        have hr : j % 2 < 2 := Nat.mod_lt _ (by decide)
        have h1 := f2 (j / 2) (j % 2) hi hr
        rw [hdm, hj] at h1
        obtain ⟨_, _, hc⟩ := World.cells?_some (hV (j / 2) (by omega)).1
        have h2 := hc (j % 2) hr
        rw [Addr_add, Addr_add, ← h1, Nat.add_assoc, hdm] at h2
        exact h2
      exact ⟨ab, ao, rfl, fun j v hj => rd_of_cell (hcell j v hj)⟩
    obtain ⟨oa, ho, hS⟩ := hw
    refine ⟨oa, (List.range len).map Y, cap, by rw [ho, hl2], by rw [hl2, ← hVY]; exact hS, .inr ?_⟩
    have h3 := congrArg Prod.fst h2
    dsimp only at h3
    refine ⟨_, _, h3, by simp, fun i y e hy he => ?_⟩
    have hi : i < len := by have := (List.getElem?_eq_some_iff.1 hy).1; rw [hl2] at this; exact this
    rw [List.getElem?_map, List.getElem?_range hi] at hy
    simp only [Option.map_some, Option.some.injEq] at hy
    subst hy
    have he2 : e = D i := by
      rw [List.getElem?_map, List.getElem?_range hi] at he
      simpa using he.symm
    rw [he2]; exact (hY2 i (by omega)).2
end
end Go.Proofs.YtlfmckjehjedpaaGreatDoor

/- Batches of an argument's reach. -/
namespace Go.Proofs.YtlfmckjehjedpaaGreatDoor
set_option linter.unusedVariables false
set_option linter.unusedSimpArgs false
set_option maxRecDepth 100000
open SL Go.RowKit
theorem weights_all {H : Type} {t : TypeId} : ∀ (els : List (DataW H)) (i : Nat) (e : DataW H), els[i]? = some e → ∀ n ∈ e.weights Tryz.prog t, n ∈ DataW.weightsAll Tryz.prog t els
  | [], i, e, h, _, _ => by simp at h
  | x :: l, 0, e, h, n, hn => by simp at h; subst h; simp only [DataW.weightsAll]; exact List.mem_append_left _ hn
  | x :: l, i + 1, e, h, n, hn => by
    have := weights_all l i e (by simpa using h) n hn
    simp only [DataW.weightsAll]; exact List.mem_append_right _ this
theorem ints_small {H : Type} {tys : List TypeId} {ds : List (DataW H)} (h : ∀ n ∈ DataW.weightsEach Tryz.prog tys ds, n ≤ reachBytes) {j : Nat} {d : DataW H} {n : Nat} (ht : tys[j]? = some 52) (hd : ds[j]? = some d) (hn : DnB d n) : n ≤ 140737488355328 := by
  rcases hn with ⟨_, rfl⟩ | ⟨els, spare, rfl, rfl⟩
  · exact Nat.zero_le _
  · have h1 := h _ (DataW.weights_mem_each ht hd ((els.length + spare.length) * Tryz.prog.bytesOf 3) (by simp [DataW.weights, Tryz.underlying52]))
    rw [show Tryz.prog.bytesOf 3 = 8 by kernel_rfl] at h1
    have hlt := reachBytes_lt
    simp only [reachBytes] at h1
    omega
theorem bats_sz {H : Type} {W : World} {tys : List TypeId} {ds : List (DataW H)} (h : (DataW.weightsEach Tryz.prog tys ds).all (· ≤ reachBytes) = true) {j : Nat} {oa : Option Addr} {sc : List BatI} {d : DataW H} (ht : tys[j]? = some 22) (hj : ds[j]? = some d)
    (hS : SlF (fun r => W.heap[r]?) 2 oa sc.length (sc.flatMap batF)) (hd : (d = .nil ∧ sc = []) ∨ ∃ els spare, d = .slice els spare ∧ els.length = sc.length ∧ ∀ (i : Nat) y e, sc[i]? = some y → els[i]? = some e → BatR W y e) : ScrF (fun r => W.heap[r]?) oa sc := by
  have h0 : ∀ n ∈ DataW.weightsEach Tryz.prog tys ds, n ≤ reachBytes := fun n hn => by simpa using List.all_eq_true.1 h n hn
  rcases hd with ⟨_, rfl⟩ | ⟨els, spare, rfl, hl, hy⟩
  · exact ⟨hS, by simp, by simp⟩
  · have hw : ∀ n ∈ (DataW.slice els spare).weights Tryz.prog 22, n ≤ reachBytes := fun n hn => h0 n (DataW.weights_mem_each ht hj n hn)
    simp only [DataW.weights, Tryz.underlying22] at hw
    have hn := hw ((els.length + spare.length) * Tryz.prog.bytesOf 54) (List.mem_cons_self ..)
    rw [show Tryz.prog.bytesOf 54 = 48 by kernel_rfl] at hn
    have hlt := reachBytes_lt
    simp only [reachBytes] at hn
    refine ⟨hS, fun x hx => ?_, by omega⟩
    obtain ⟨i, hi, rfl⟩ := List.getElem_of_mem hx
    have he : els[i]? = some els[i] := List.getElem?_eq_getElem (by omega)
    obtain ⟨a, b, c, e, dL, dJ, h2, h3, h4⟩ := hy i _ _ (List.getElem?_eq_getElem hi) he
    have h5 : ∀ n ∈ DataW.weightsEach Tryz.prog [52, 52] [dL, dJ], n ≤ reachBytes := fun n hn => hw n (List.mem_cons_of_mem _ (List.mem_append_left _ (weights_all els i _ he n (by rw [h2]; simpa [DataW.weights, Tryz.underlying54] using hn))))
    exact ⟨a, b, c, e, ints_small (j := 0) h5 rfl rfl h3, ints_small (j := 1) h5 rfl rfl h4⟩
end Go.Proofs.YtlfmckjehjedpaaGreatDoor

/- What the listed variables give: the table of trailing noughts. -/
namespace Go.Proofs.YtlfmckjehjedpaaGreatDoor
set_option linter.unusedVariables false
set_option linter.unusedSimpArgs false
set_option maxRecDepth 100000
open SL Go.RowKit Go.ChangeShapes Go.WideShapes Go.ChangeAt Go.Lib

theorem tabW_cell {W : World} (h : laidMetH Tryz.prog Rows.topWireRowRow.laid W) (j : Nat) (hj : j < 64) : W.cell? ⟨0, j, none⟩ = some (.int .u8 (deBruijn64tab.getD j 0)) := by
  rw [MakeChecks.laidMetH_plain _ _ _ (by kernel_rfl)] at h
  obtain ⟨ps, ⟨g1, t1, cs1, f1, p1, q1, hg1, ht1, hv1, hd1, _, _⟩, _, _⟩ := h
  obtain rfl : g1 = 0 := Option.some.inj (hg1.symm.trans (by kernel_rfl))
  obtain rfl : t1 = 183 := Option.some.inj (ht1.symm.trans (by kernel_rfl))
  obtain ⟨xs, m, _, ex, _, hl, hel⟩ := DataW.trod_array Tryz.underlying183 hd1
  have c5 : Tryz.prog.cellsOf 5 = 1 := by kernel_rfl
  have hE := hel j hj
  rw [c5, Nat.mul_one, List.getElem?_eq_getElem (by omega)] at hE
  obtain ⟨z, e1, e2, _⟩ := DataW.trod_int Tryz.underlying5 hE
  have e3 := (DataW.agg.inj (Prod.mk.inj ex).1).symm
  have e4 : (xs.map (·.1))[j]? = some (.lit (.int .u8 (deBruijn64tab.getD j 0))) := by
    rw [e3]
    show (deBruijn64tab.map fun (n : Nat) => DataW.lit (Lit.int .u8 (n : Int)))[j]? = _
    rw [List.getElem?_map, List.getD_eq_getElem?_getD, List.getElem?_eq_getElem (show j < deBruijn64tab.length from hj)]; rfl
  rw [List.getElem?_map, List.getElem?_eq_getElem (by omega : j < xs.length), e2] at e4
  have hz : z = (deBruijn64tab.getD j 0 : Nat) := by simpa using e4
  rw [World.var?_cell hg1 hv1 j, ← hz]
  have : cs1.toList[j]? = some (.int .u8 z) := by
    have h0 : ((cs1.toList.drop j).take 1)[0]? = some (.int .u8 z) := by rw [e1]; rfl
    simpa using h0
  simpa using this
theorem tabW_of {W : World} (h : laidMetH Tryz.prog Rows.topWireRowRow.laid W) : TabA (fun r => W.heap[r]?) := fun j hj => rd_of_cell (tabW_cell h j hj)
end Go.Proofs.YtlfmckjehjedpaaGreatDoor

/- TopWireRow walked. -/
namespace Go.Proofs.YtlfmckjehjedpaaGreatDoor
set_option linter.unusedVariables false
set_option linter.unusedSimpArgs false
set_option maxRecDepth 100000
open SL Go.RowKit Go.Maps
def rkMsg (ep : Int) (l1 l2 : List Seat) (l3 : List Item) : Msg := { zMsg with kind := 1, ep := ep, L := l1, J := l2, I := l3 }
theorem tail_item3 {ms : List MsgG} {m : MsgG} (h : m ∈ ms) : ∃ Y, (tailH ms).Perm (mgH m ++ Y) := by
  obtain ⟨A, B, e⟩ := List.append_of_mem (List.mem_reverse.2 h)
  refine ⟨A.flatMap mgH ++ B.flatMap mgH, ?_⟩
  unfold tailH
  rw [e, List.flatMap_append, List.flatMap_cons, ← List.append_assoc, ← List.append_assoc]
  exact List.perm_append_comm.append_right _
/-- What the loop needs of a message, its lists made opaque. -/
theorem msg_atW {sc : List BatI} {row : List TreeS} {ms : List MsgG} {gm : Option (Nat × Nat)} (hI : StepsI sc row ms gm) {X : Heap} (hX : ∀ m ∈ ms, ∃ Y, X.Perm (mgH m ++ Y)) {i : Nat} (h : i < ms.length) :
    ∃ (ep : Int) (l1 l2 : List Seat) (l3 : List Item) (g1 g2 g3 : Option (Nat × Nat)) (Y : Heap), X.Perm (ownT g1 l1 :: ownT g2 l2 :: ownIt g3 l3 :: Y) ∧ MsgAt (rkMsg ep l1 l2 l3) g1 g2 g3 ∧
      ((ms.flatMap mgL).drop (i * 4)).take 4 = [.int .i64 ep, svOf g1 l1.length, svOf g2 l2.length, svOf g3 l3.length] ∧ goodB (rkMsg ep l1 l2 l3) = true ∧ Sz (rkMsg ep l1 l2 l3) ∧ ep = (i : Int) + 1 ∧
      (l1.length ≤ 64 ∧ l2.length ≤ 64 ∧ l3.length ≤ 300 ∧ l3.length ≤ 12 * (l1.length + l2.length)) ∧ ∃ mb mc, gm = some (mb, mc) := by
  have hget := List.getElem?_eq_getElem h
  have hmem := List.mem_of_getElem? hget
  obtain ⟨Y, hY⟩ := hX _ hmem
  have hgs := hI.gs _ hmem
  have hp := flat_drop mgL_length ms i h
  obtain ⟨t, u, h1, h2, h3, h4, h5⟩ := hI.msg hget
  have T := (hI.ok.tree _ _ h1).1
  have hep := (hI.ok.tree _ _ h1).2
  obtain ⟨h6, hf⟩ := stepE_zero.1 h4
  generalize ms[i] = m at hY hgs hp h3 h4 h5 hf
  obtain ⟨⟨t', L, J⟩, g1, g2, g3⟩ := m
  dsimp only at h3 h4 h5 hf
  subst h3
  have hg := rk_good T h6 hf
  have hz := rk_sz T hf
  have hlL := hf.lenL T.R
  have hlJ := hf.lenJ T.R
  have h8 : (leftL t.1.rs L).length = L.length := by unfold leftL; rw [List.length_map]
  have h7 := joinedL_length T.R hf
  refine ⟨t.1.ep + 1, leftL t.1.rs L, joinedL t.1.rs L J, itemsN t.1 L J, g1, g2, g3, Y, hY, ⟨hgs.left, hgs.joined, hgs.items⟩, hp, hg, hz, by rw [hep], ⟨by omega, by omega, itemsN_len T hf, items_few _ L J (left_slots T hf).1⟩, ?_⟩
  cases gm with
  | none => have := hI.gm.1 rfl; subst this; simp at h
  | some g => exact ⟨g.1, g.2, rfl⟩
theorem w_in {X Y : Heap} {p q a b c : HObj} (hp : X.Perm (a :: b :: c :: Y)) : Sub (p :: q :: X) (p :: q :: a :: b :: c :: Y) := Sub.of_perm (X := []) (hp.append_left [p, q])
theorem w_out {D X Y : Heap} {a b c d : HObj} (hp : X.Perm (a :: b :: c :: Y)) : Sub (D ++ d :: a :: b :: c :: Y) (d :: X) := Sub.of_perm (X := D) ((hp.symm.cons d).append_left D)
set_option maxHeartbeats 8000000 in
theorem wire_ok (F : Mem) (htab : TabA F) (oa : Option Addr) (ca : Nat) (sc : List BatI) (hS : ScrF F oa sc) :
    FT Tryz.prog 3 [.slice oa sc.length ca].toArray F [] (Ret (.bool true)) := by
  refine FT.of_body Tryz.func3 rfl Tryz.ntmps3 (by simp) fun C hC => ?_
  subst hC
  conv => whnf
  refine CallS.mk Tryz.call4 ⟨[], _, _, Sub.refl _, fun F' hF' => lives12_ok F' (htab.ext hF'), ?_⟩
  rintro e A' ⟨rfl, rfl⟩
  conv => whnf
  refine CallS.mk Tryz.call5 ⟨[], _, _, Sub.refl _, fun F' hF' => steps_ok F' (htab.ext hF') oa ca sc (hS.ext hF'), ?_⟩
  rintro e A' ⟨row, ms, ⟨gb, gc⟩, gm, hI, rfl, rfl⟩
  obtain ⟨hl1, hl2⟩ := hI.len
  have htp : ∀ m ∈ ms, ∃ Y, (tailH ms).Perm (mgH m ++ Y) := fun m hm => tail_item3 hm
  rw [List.append_nil]
  generalize tailH ms = X at htp ⊢
  conv => whnf
  try (show forceH X _; rw [forceH_eq]; conv => whnf)
  refine ArI.to64 ((ms.length + 1 : Nat) : Int) (by omega) (by omega) ?_
  conv => whnf
  try (show forceH X _; rw [forceH_eq]; conv => whnf)
  rw [show (((row.length : Nat) : Int) != ((ms.length + 1 : Nat) : Int)) = false from by rw [hl1]; exact bne_self_eq_false _]
  conv => whnf
  try (show forceH X _; rw [forceH_eq]; conv => whnf)
  refine LoopI.by_state (σ := Nat) (fun i => [(30, svOf gm ms.length), (31, .int .i64 (ms.length : Int)), (32, .int .i64 (i : Int))]) (fun _ => ownM gm ms :: X) (fun i => i ≤ ms.length) (fun i => ms.length - i)
    0 (Nat.zero_le _) ⟨rfl, rfl, rfl, trivial⟩ (Sub.selX (A := [_, _]) [1] rfl) ?_
  rintro i f0 hi
  conv => whnf
  try (show forceH X _; rw [forceH_eq]; conv => whnf)
  refine cond_dec (fun h => ?_) (fun h => ?_)
  · have hil : i < ms.length := by omega
    obtain ⟨ep, l1, l2, l3, g1, g2, g3, Y, hY, hat, hpart, hg, hz, hep, ⟨n1, n2, n3, n4⟩, mb, mc, rfl⟩ := msg_atW hI htp hil
    conv => whnf
    try (show forceH X _; rw [forceH_eq]; conv => whnf)
    refine ⟨by omega, ?_⟩
    conv => whnf
    try (show forceH X _; rw [forceH_eq]; conv => whnf)
    refine LoadV.eq (b := mb) (o := 0 + i * 4) (by exact congrArg (fun o => (⟨mb, o, none⟩ : Addr)) (elem_off2 (o := 0) (n := 4) (by kernel_rfl) rfl)) ?_
    refine LoadV.op 4 [.int .i64 ep, svOf g1 l1.length, svOf g2 l2.length, svOf g3 l3.length] rfl rfl (by rw [Nat.zero_add]; exact hpart) ?_
    conv => whnf
    try (show forceH X _; rw [forceH_eq]; conv => whnf)
    intro b7
    conv => whnf
    try (show forceH X _; rw [forceH_eq]; conv => whnf)
    refine StoreV.c rfl rfl (Nat.le_of_ble_eq_true rfl) rfl ?_
    conv => whnf
    try (show forceH X _; rw [forceH_eq]; conv => whnf)
    refine LoadV.a 4 rfl (Nat.le_of_ble_eq_true rfl) ?_
    conv => whnf
    try (show forceH X _; rw [forceH_eq]; conv => whnf)
    have hgL : g1 = none → l1.length = 0 := at_nil hat.L
    have hgJ : g2 = none → l2.length = 0 := at_nil hat.J
    have hgI : g3 = none → l3.length = 0 := at_nil hat.I
    have hfL : (l1.flatMap seatF).length = l1.length * 2 := SL.flat_length seatF_length _
    have hfJ : (l2.flatMap seatF).length = l2.length * 2 := SL.flat_length seatF_length _
    have hfI : (l3.flatMap itemF).length = l3.length * 6 := SL.flat_length itemF_length _
    refine CallS.mk Tryz.call6 ⟨[], _, _, w_in hY, fun F' hF' => enc_ok F' (rkMsg ep l1 l2 l3) (slsOf g1 g2 g3) ⟨SlF.sv (g := g1) (n := l1.length) hF' (T := 97) hfL hgL, SlF.sv (g := g2) (n := l2.length) hF' (T := 97) hfJ hgJ, SlF.sv (g := g3) (n := l3.length) hF' (T := 75) hfI hgI⟩ hz, ?_⟩
    rw [encV_good hg]
    have hdm : decV (encT (rkMsg ep l1 l2 l3)) = (rkMsg ep l1 l2 l3, 0) := dec_enc hg
    have hsz : (encT (rkMsg ep l1 l2 l3)).size ≤ 140737488355328 := by have := enc_size hg; omega
    obtain ⟨y, hy⟩ : ∃ y, y = encT (rkMsg ep l1 l2 l3) := ⟨_, rfl⟩
    rw [← hy] at hsz hdm ⊢
    rintro e A' ⟨rfl, rfl⟩
    conv => whnf
    try (show forceH Y _; rw [forceH_eq]; conv => whnf)
    refine CallS.mk Tryz.call7 ⟨[], _, _, Sub.refl _, fun F' hF' => dec_ok F' y hsz, ?_⟩
    rw [hdm]
    rintro e A' ⟨hL, hJ, hI2, hat2, rfl, rfl⟩
    conv => whnf
    try (show forceH Y _; rw [forceH_eq]; conv => whnf)
    intro b10
    conv => whnf
    try (show forceH Y _; rw [forceH_eq]; conv => whnf)
    refine StoreV.c rfl rfl (Nat.le_of_ble_eq_true rfl) rfl ?_
    conv => whnf
    try (show forceH Y _; rw [forceH_eq]; conv => whnf)
    refine LoadV.a 26 rfl (Nat.le_of_ble_eq_true rfl) ?_
    conv => whnf
    try (show forceH Y _; rw [forceH_eq]; conv => whnf)
    refine LoadV.a 4 rfl (Nat.le_of_ble_eq_true rfl) ?_
    conv => whnf
    try (show forceH Y _; rw [forceH_eq]; conv => whnf)
    refine CallS.mk Tryz.call8 ⟨[], _, _, Sub.refl _, fun F' hF' => same14_ok F' (rkMsg ep l1 l2 l3) (rkMsg ep l1 l2 l3) (slsOf hL hJ hI2) (slsOf g1 g2 g3) (own_rows hF' hat2) ⟨SlF.sv (g := g1) (n := l1.length) hF' (T := 97) hfL hgL, SlF.sv (g := g2) (n := l2.length) hF' (T := 97) hfJ hgJ, SlF.sv (g := g3) (n := l3.length) hF' (T := 75) hfI hgI⟩ hz, ?_⟩
    rw [sameB_iff.2 rfl]
    rintro e A' ⟨rfl, rfl⟩
    conv => whnf
    try (show forceH Y _; rw [forceH_eq]; conv => whnf)
    refine LoadV.s rfl rfl ?_
    conv => whnf
    try (show forceH Y _; rw [forceH_eq]; conv => whnf)
    refine ArI.to64 ((i : Int) + 1) rfl (by omega) ?_
    conv => whnf
    try (show forceH Y _; rw [forceH_eq]; conv => whnf)
    rw [show (ep != (i : Int) + 1) = false from by rw [hep]; exact bne_self_eq_false _]
    conv => whnf
    try (show forceH Y _; rw [forceH_eq]; conv => whnf)
    refine LoadV.s rfl rfl ?_
    conv => whnf
    try (show forceH Y _; rw [forceH_eq]; conv => whnf)
    refine LoadV.s rfl rfl ?_
    conv => whnf
    try (show forceH Y _; rw [forceH_eq]; conv => whnf)
    refine LoadV.s rfl rfl ?_
    conv => whnf
    try (show forceH Y _; rw [forceH_eq]; conv => whnf)
    refine ArI.to64 ((l1.length + l2.length : Nat) : Int) (by omega) (by omega) ?_
    conv => whnf
    try (show forceH Y _; rw [forceH_eq]; conv => whnf)
    refine ArI.to64 ((12 * (l1.length + l2.length) : Nat) : Int) (by omega) (by omega) ?_
    conv => whnf
    try (show forceH Y _; rw [forceH_eq]; conv => whnf)
    refine cond_f (by omega) ?_
    conv => whnf
    try (show forceH Y _; rw [forceH_eq]; conv => whnf)
    refine ArI.to64 ((i + 1 : Nat) : Int) (by omega) (by omega) ?_
    conv => whnf
    try (show forceH Y _; rw [forceH_eq]; conv => whnf)
    exact ⟨i + 1, _, by omega, w_out (D := [_, _, _, _, _]) hY, by show i + 1 ≤ ms.length; omega, ⟨rfl, rfl, rfl, trivial⟩, rfl⟩
  · conv => whnf
    try (show forceH X _; rw [forceH_eq]; conv => whnf)
    refine RetI.one Tryz.results3 rfl ?_
    conv => whnf
    exact ⟨_, Sub.sel [] rfl, rfl, rfl⟩
end Go.Proofs.YtlfmckjehjedpaaGreatDoor
