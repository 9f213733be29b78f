/- A message as an argument. -/
import Derived.Test.YtlbdnkkaacccoaaWire1
import Derived.Test.YtlbdnkkaacccoaaWire2
import Derived.SizedLaws
namespace Go.Proofs.Ytlbdnkkaacccoaa
set_option linter.unusedVariables false
set_option linter.unusedSimpArgs false
set_option maxRecDepth 100000
open SL Go.RowKit
theorem ok_int {a : Value} (h : okCell (.i .i64) a = true) : ∃ n : Int, a = .int .i64 n := by
  cases a <;> simp [okCell] at h
  subst h
  exact ⟨_, rfl⟩
theorem ok_str {a : Value} (h : okCell .s a = true) : ∃ s : ByteArray, a = .string s := by
  cases a <;> simp [okCell] at h
  exact ⟨_, rfl⟩
theorem view_ints : ∀ (n : Nat) (row : List Value), okCells (List.replicate n (.i .i64)) row = true → ∃ l : List Int, l.length = n ∧ row = l.map (fun x => .int .i64 x)
  | 0, [], _ => ⟨[], rfl, rfl⟩
  | 0, a :: row, h => by simp [okCells, List.replicate] at h
  | n + 1, [], h => by simp [okCells, List.replicate] at h
  | n + 1, a :: row, h => by
    simp only [List.replicate, okCells, Bool.and_eq_true] at h
    obtain ⟨x, rfl⟩ := ok_int h.1
    obtain ⟨l, hl, rfl⟩ := view_ints n row h.2
    exact ⟨x :: l, by simp [hl], rfl⟩
theorem view_seat : ∀ row, okCells [.i .i64, .i .i64] row = true → row.all wfCell = true → ∃ x : Seat, row = seatF x := by
  intro row h _
  obtain ⟨l, hl, rfl⟩ := view_ints 2 row h
  match l, hl with
  | [a, b], _ => exact ⟨(a, b), rfl⟩
theorem view_item : ∀ row, okCells [.i .i64, .i .i64, .i .i64, .i .i64, .i .i64, .i .i64] row = true → row.all wfCell = true → ∃ x : Item, row = itemF x := by
  intro row h _
  obtain ⟨l, hl, rfl⟩ := view_ints 6 row h
  match l, hl with
  | [a, b, c, d, e, f], _ => exact ⟨(a, b, c, d, e, f), rfl⟩
/-- How a slice is read. -/
def Dn {H : Type} (d : DataW H) (n : Nat) : Prop := (d = .nil ∧ n = 0) ∨ ∃ els spare, d = .slice els spare ∧ els.length = n
theorem take_drop_cat {cs : List Value} (a b : Nat) : cs.drop a = (cs.drop a).take b ++ cs.drop (a + b) := by rw [← List.drop_drop]; exact (List.take_append_drop _ _).symm
theorem mapM4 {α β : Type} {f : α → Option β} {a b c d : α} {ys : List β} (h : [a, b, c, d].mapM f = some ys) : ∃ w x y z, f a = some w ∧ f b = some x ∧ f c = some y ∧ f d = some z ∧ ys = [w, x, y, z] := by
  simp only [List.mapM_cons, List.mapM_nil, bind, Option.bind_eq_some_iff, pure, Option.some.injEq] at h
  obtain ⟨w, hw, _, ⟨x, hx, _, ⟨y, hy, _, ⟨z, hz, _, rfl, rfl⟩, rfl⟩, rfl⟩, rfl⟩ := h
  exact ⟨w, x, y, z, hw, hx, hy, hz, rfl⟩
theorem mapM5 {α β : Type} {f : α → Option β} {a b c d e : α} {ys : List β} (h : [a, b, c, d, e].mapM f = some ys) : ∃ v w x y z, f a = some v ∧ f b = some w ∧ f c = some x ∧ f d = some y ∧ f e = some z ∧ ys = [v, w, x, y, z] := by
  simp only [List.mapM_cons, List.mapM_nil, bind, Option.bind_eq_some_iff, pure, Option.some.injEq] at h
  obtain ⟨v, hv, _, ⟨w, hw, _, ⟨x, hx, _, ⟨y, hy, _, ⟨z, hz, _, rfl, rfl⟩, rfl⟩, rfl⟩, rfl⟩, rfl⟩ := h
  exact ⟨v, w, x, y, z, hv, hw, hx, hy, hz, rfl⟩
section
variable {H : Type} {enc : TypeId × Value → H} {W : World} {base b0 : Nat} {sp : Nat → Bool} {held : Bool} {r : Reach} {v : Value} {d : DataW H} {ps : List MemPlace}
theorem open_rk {fuel : Nat} {cs : List Value} {x : DataW H × List MemPlace} (h : DataW.trod enc Try.prog W base sp held fuel 25 cs = some x) :
    ∃ (ep : Int) (oL : Option Addr) (L : List Seat) (cL : Nat) (oJ : Option Addr) (J : List Seat) (cJ : Nat) (oI : Option Addr) (I : List Item) (cI : Nat) (de dL dJ dI : DataW H), cs = [.int .i64 ep, .slice oL L.length cL, .slice oJ J.length cJ, .slice oI I.length cI] ∧
      SlF (fun r => W.heap[r]?) 2 oL L.length (L.flatMap seatF) ∧ SlF (fun r => W.heap[r]?) 2 oJ J.length (J.flatMap seatF) ∧ SlF (fun r => W.heap[r]?) 6 oI I.length (I.flatMap itemF) ∧ x.1 = .agg [de, dL, dJ, dI] ∧ Dn dL L.length ∧ Dn dJ J.length ∧ Dn dI I.length ∧ (oL = none → cL = 0) ∧ (oJ = none → cJ = 0) ∧ (oI = none → cI = 0) := by
  cases fuel with
  | zero => simp [DataW.trod] at h
  | succ m =>
    rw [DataW.trod_step] at h
    unfold DataW.trodStep at h
    simp only [Try.underlying25] at h
    split at h
    · rename_i hl
      obtain ⟨ys, hy, rfl⟩ := Option.map_eq_some_iff.1 h
      obtain ⟨y0, y1, y2, y3, h0, h1, h2, h3, rfl⟩ := mapM4 hy
      dsimp only at h0 h1 h2 h3
      rw [show Try.prog.cellsOf 3 = 1 by kernel_rfl] at h0
      rw [show Try.prog.cellsOf 22 = 1 by kernel_rfl] at h1 h2
      rw [show Try.prog.cellsOf 23 = 1 by kernel_rfl] at h3
      rw [show Try.prog.cellsOf 25 = 4 by kernel_rfl] at hl
      obtain ⟨f0, _⟩ := trod_flat 3 3 [.i .i64] (by kernel_rfl) m _ _ (by kernel_rfl) h0
      obtain ⟨l0, hl0, e0⟩ := view_ints 1 _ f0
      obtain ⟨oL, nL, cL, vL, e1, SL, kL, wL, DL⟩ := open_rows (e := 57) (d := 4) (ks := [.i .i64, .i .i64]) Try.underlying22 (by kernel_rfl) (by kernel_rfl) (by decide) h1
      obtain ⟨oJ, nJ, cJ, vJ, e2, SJ, kJ, wJ, DJ⟩ := open_rows (e := 57) (d := 4) (ks := [.i .i64, .i .i64]) Try.underlying22 (by kernel_rfl) (by kernel_rfl) (by decide) h2
      obtain ⟨oI, nI, cI, vI, e3, SI, kI, wI, DI⟩ := open_rows (e := 55) (d := 6) (ks := [.i .i64, .i .i64, .i .i64, .i .i64, .i .i64, .i .i64]) Try.underlying23 (by kernel_rfl) (by kernel_rfl) (by decide) h3
      have qL : oL = none → cL = 0 := by
        rintro rfl
        rcases Go.Deep.open_slice Try.underlying22 h1 with ⟨h, _⟩ | ⟨a', len2, cap2, _, _, _, _, h, _⟩
        · rw [e1] at h; simp at h; exact h.2
        · rw [e1] at h; simp at h
      have qJ : oJ = none → cJ = 0 := by
        rintro rfl
        rcases Go.Deep.open_slice Try.underlying22 h2 with ⟨h, _⟩ | ⟨a', len2, cap2, _, _, _, _, h, _⟩
        · rw [e2] at h; simp at h; exact h.2
        · rw [e2] at h; simp at h
      have qI : oI = none → cI = 0 := by
        rintro rfl
        rcases Go.Deep.open_slice Try.underlying23 h3 with ⟨h, _⟩ | ⟨a', len2, cap2, _, _, _, _, h, _⟩
        · rw [e3] at h; simp at h; exact h.2
        · rw [e3] at h; simp at h
      obtain ⟨L, rfl, rfl⟩ := rows_view view_seat nL vL kL wL
      obtain ⟨J, rfl, rfl⟩ := rows_view view_seat nJ vJ kJ wJ
      obtain ⟨I, rfl, rfl⟩ := rows_view view_item nI vI kI wI
      match l0, hl0 with
      | [ep], _ =>
        refine ⟨ep, oL, L, cL, oJ, J, cJ, oI, I, cI, y0.1, y1.1, y2.1, y3.1, ?_, SL, SJ, SI, rfl, DL, DJ, DI, qL, qJ, qI⟩
        rw [show cs = cs.drop 0 from rfl, take_drop_cat 0 1, take_drop_cat (0 + 1) 1, take_drop_cat (0 + 1 + 1) 1, take_drop_cat (0 + 1 + 1 + 1) 1, e0, e1, e2, e3, List.drop_of_length_le (by omega)]
        rfl
    · cases h
theorem open_msg (hval : Value.okWide Try.prog W r b0 38 v) (hd : DataW.Trod enc Try.prog W base sp held 38 v d ps) :
    ∃ (m : Msg) (s : Sls), v = .agg (msgL m s).toArray ∧ Rows14 (fun r => W.heap[r]?) m s ∧ m.tx.size ≤ maxLen ∧ ∃ (dk de dL dJ dI dq dr ds : DataW H), d = .agg [dk, .agg [de, dL, dJ, dI], dq, dr, ds] ∧ Dn dL m.L.length ∧ Dn dJ m.J.length ∧ Dn dI m.I.length ∧ (s.oL = none → s.cL = 0) ∧ (s.oJ = none → s.cJ = 0) ∧ (s.oI = none → s.cI = 0) := by
  obtain ⟨cs, rfl, _⟩ := Go.WideShapes.okWide_struct Try.underlying38 hval
  obtain ⟨fuel, h⟩ := hd
  replace h : DataW.trod enc Try.prog W base sp held fuel 38 cs.toList = some (d, ps) := h
  obtain ⟨cs⟩ := cs
  dsimp only at h
  cases fuel with
  | zero => simp [DataW.trod] at h
  | succ n =>
    rw [DataW.trod_step] at h
    unfold DataW.trodStep at h
    simp only [Try.underlying38] at h
    split at h
    · rename_i hl
      obtain ⟨ys, hy, hdp⟩ := Option.map_eq_some_iff.1 h
      obtain ⟨y0, y1, y2, y3, y4, h0, h1, h2, h3, h4, rfl⟩ := mapM5 hy
      dsimp only at h0 h1 h2 h3 h4
      rw [show Try.prog.cellsOf 3 = 1 by kernel_rfl] at h0
      rw [show Try.prog.cellsOf 25 = 4 by kernel_rfl] at h1
      rw [show Try.prog.cellsOf 27 = 2 by kernel_rfl] at h2
      rw [show Try.prog.cellsOf 34 = 15 by kernel_rfl] at h3
      rw [show Try.prog.cellsOf 36 = 4 by kernel_rfl] at h4
      rw [show Try.prog.cellsOf 38 = 26 by kernel_rfl] at hl
      obtain ⟨f0, _⟩ := trod_flat 3 3 [.i .i64] (by kernel_rfl) n _ _ (by kernel_rfl) h0
      obtain ⟨f2, _⟩ := trod_flat 5 27 [.i .i64, .i .i64] (by kernel_rfl) n _ _ (by kernel_rfl) h2
      obtain ⟨f3, _⟩ := trod_flat 8 34 (List.replicate 15 (.i .i64)) (by kernel_rfl) n _ _ (by kernel_rfl) h3
      obtain ⟨f4, w4⟩ := trod_flat 6 36 [.i .i64, .i .i64, .i .i64, .s] (by kernel_rfl) n _ _ (by kernel_rfl) h4
      obtain ⟨ep, oL, L, cL, oJ, J, cJ, oI, I, cI, de, dL, dJ, dI, e1, SL, SJ, SI, ed, DL, DJ, DI, qq⟩ := open_rk h1
      obtain ⟨l0, hl0, e0⟩ := view_ints 1 _ f0
      obtain ⟨l2, hl2, e2⟩ := view_ints 2 _ f2
      obtain ⟨l3, hl3, e3⟩ := view_ints 15 _ f3
      obtain ⟨a, b, c, t, e4, ht⟩ : ∃ (a b c : Int) (t : ByteArray), (cs.drop 22).take 4 = [.int .i64 a, .int .i64 b, .int .i64 c, .string t] ∧ t.size ≤ maxLen := by
        match hrow : (cs.drop 22).take 4, okCells_length f4, f4, w4 with
        | [p, q, r, s], _, f4, w4 =>
          simp only [okCells, Bool.and_eq_true] at f4
          obtain ⟨a, rfl⟩ := ok_int f4.1
          obtain ⟨b, rfl⟩ := ok_int f4.2.1
          obtain ⟨c, rfl⟩ := ok_int f4.2.2.1
          obtain ⟨t, rfl⟩ := ok_str f4.2.2.2.1
          refine ⟨a, b, c, t, rfl, ?_⟩
          simp only [List.all_cons, Bool.and_eq_true] at w4
          exact of_decide_eq_true w4.2.2.2.1
      have hcat : cs = (cs.drop 0).take 1 ++ ((cs.drop 1).take 4 ++ ((cs.drop 5).take 2 ++ ((cs.drop 7).take 15 ++ ((cs.drop 22).take 4 ++ cs.drop 26)))) := by
        rw [← take_drop_cat 22 4, ← take_drop_cat 7 15, ← take_drop_cat 5 2, ← take_drop_cat 1 4, ← take_drop_cat 0 1]; rfl
      rw [e0, e1, e2, e3, e4, List.drop_of_length_le (by omega)] at hcat
      match l0, hl0, l2, hl2, l3, hl3 with
      | [k], _, [q1, q2], _, [r1, r2, r3, x1, x2, x3, x4, y1', y2', y3', y4', z1, z2, z3, z4], _ =>
        refine ⟨⟨k, ep, L, J, I, q1, q2, r1, r2, r3, (x1, x2, x3, x4), (y1', y2', y3', y4'), (z1, z2, z3, z4), a, b, c, t⟩, ⟨oL, cL, oJ, cJ, oI, cI⟩, ?_, ⟨SL, SJ, SI⟩, ht, y0.1, de, dL, dJ, dI, y2.1, y3.1, y4.1, ?_, DL, DJ, DI, qq⟩
        · rw [hcat]; rfl
        · have := congrArg Prod.fst hdp
          dsimp only [List.map] at this
          rw [ed] at this
          exact this.symm
    · cases h
theorem slice_small {tys : List TypeId} {ds : List (DataW H)} (h : ∀ n ∈ DataW.weightsEach Try.prog tys ds, n ≤ reachBytes) {j : Nat} {t e : TypeId} {d : DataW H} {n b : Nat} (ht : tys[j]? = some t) (hd : ds[j]? = some d) (hu : Try.prog.underlying t = some (.slice e)) (hb : Try.prog.bytesOf e = b + 1) (hn : Dn d n) : n ≤ 140737488355328 := by
  rcases hn with ⟨_, rfl⟩ | ⟨els, spare, rfl, rfl⟩
  · exact Nat.zero_le _
  · have h1 := h _ (DataW.weights_mem_each ht hd ((els.length + spare.length) * Try.prog.bytesOf e) (by simp [DataW.weights, hu]))
    rw [hb, Nat.mul_add] at h1
    have hlt := reachBytes_lt
    simp only [reachBytes] at h1
    omega
theorem msg_sz {tys : List TypeId} {ds : List (DataW H)} (h : (DataW.weightsEach Try.prog tys ds).all (· ≤ reachBytes) = true) {j : Nat} {m : Msg} {dk de dL dJ dI dq dr ds' : DataW H} (ht : tys[j]? = some 38) (hd : ds[j]? = some (.agg [dk, .agg [de, dL, dJ, dI], dq, dr, ds'])) (htx : m.tx.size ≤ maxLen) (hL : Dn dL m.L.length) (hJ : Dn dJ m.J.length) (hI : Dn dI m.I.length) : Sz m := by
  have h0 : ∀ n ∈ DataW.weightsEach Try.prog tys ds, n ≤ reachBytes := fun n hn => by simpa using List.all_eq_true.1 h n hn
  have h1 : ∀ n ∈ DataW.weightsEach Try.prog [3, 25, 27, 34, 36] [dk, .agg [de, dL, dJ, dI], dq, dr, ds'], n ≤ reachBytes := fun n hn => h0 n (DataW.weights_mem_each ht hd n (by simpa [DataW.weights, Try.underlying38] using hn))
  have h2 : ∀ n ∈ DataW.weightsEach Try.prog [3, 22, 22, 23] [de, dL, dJ, dI], n ≤ reachBytes := fun n hn => h1 n (DataW.weights_mem_each (j := 1) rfl rfl n (by simpa [DataW.weights, Try.underlying25] using hn))
  exact ⟨slice_small (j := 1) (b := 15) h2 rfl rfl Try.underlying22 (by kernel_rfl) hL, slice_small (j := 2) (b := 15) h2 rfl rfl Try.underlying22 (by kernel_rfl) hJ, slice_small (j := 3) (b := 47) h2 rfl rfl Try.underlying23 (by kernel_rfl) hI, htx⟩
end
end Go.Proofs.Ytlbdnkkaacccoaa
