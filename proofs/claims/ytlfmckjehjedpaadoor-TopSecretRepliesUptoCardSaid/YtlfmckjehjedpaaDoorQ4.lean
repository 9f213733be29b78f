/- What the laws' proofs stand on, in one row: laws in numbers and lists, contracts of functions. No condition. -/
import Derived.Test.YtlfmckjehjedpaaDoorQ3
import Derived.ProofKit
import Derived.JoinedCond
import Derived.LaidMore
import Derived.Lay
import Derived.Handed
import Derived.LaidLaws
import Derived.SizedLaws
import Derived.Test.YtlfmckjehjedpaaDoorRows
import Derived.Test.YtlfmckjehjedpaaDoorQ1
import Derived.OpenShut
import Derived.Stop.Joined
/- Who is opened; what follows. -/
namespace Go.Proofs.YtlfmckjehjedpaaDoor
set_option linter.unusedVariables false
set_option linter.unusedSimpArgs false
set_option maxRecDepth 100000
open SL Go.RowKit Go.Maps
/-- Did somebody stand where it was opened? -/
def stB (row : List TreeS) (x : Int × Int) : Bool := match row[x.2.toNat]? with | some t => decide (0 ≤ x.2 ∧ 0 ≤ findI t.1.rs x.1 0) | none => false
def stK (row : List TreeS) (x : Int × Int) : List KeyI := match row[x.2.toNat]? with
  | some t => [leafK (t.1.rs.getD (findI t.1.rs x.1 0).toNat (0, 0, 0)) t.1.ep, nodeK t.1 ((findI t.1.rs x.1 0).toNat / 4 + 5), nodeK t.1 ((findI t.1.rs x.1 0).toNat / 16 + 1), nodeK t.1 0]
  | none => []
def metL (row : List TreeS) (seen : List (Int × Int)) : List (Int × Int) := seen.filter fun x => stB row x
def opK (row : List TreeS) (seen : List (Int × Int)) : List KeyI := (metL row seen).flatMap fun x => stK row x
theorem metL_snoc (row : List TreeS) (seen : List (Int × Int)) {i : Nat} (h : i < seen.length) : metL row (seen.take (i + 1)) = metL row (seen.take i) ++ (if stB row seen[i] = true then [seen[i]] else []) := by
  unfold metL
  rw [take_snoc h, List.filter_append]
  congr 1
  by_cases hc : stB row seen[i] = true
  · rw [if_pos hc, List.filter_cons_of_pos hc]; rfl
  · rw [if_neg hc, List.filter_cons_of_neg hc]; rfl
theorem opK_snoc (row : List TreeS) (seen : List (Int × Int)) {i : Nat} (h : i < seen.length) : opK row (seen.take (i + 1)) = opK row (seen.take i) ++ (if stB row seen[i] = true then stK row seen[i] else []) := by
  unfold opK
  rw [metL_snoc row seen h, List.flatMap_append]
  congr 1
  by_cases hc : stB row seen[i] = true
  · rw [if_pos hc, if_pos hc]; simp
  · rw [if_neg hc, if_neg hc]; rfl
theorem stK_len (row : List TreeS) (x : Int × Int) : (stK row x).length ≤ 4 := by unfold stK; split <;> simp
theorem metL_len (row : List TreeS) (seen : List (Int × Int)) : (metL row seen).length ≤ seen.length := List.length_filter_le _ _
theorem opK_len (row : List TreeS) (seen : List (Int × Int)) : (opK row seen).length ≤ 4 * seen.length := by
  have key : ∀ (l : List (Int × Int)), (l.flatMap fun x => stK row x).length ≤ 4 * l.length := by
    intro l
    induction l with
    | nil => simp
    | cons x l ih =>
      have := stK_len row x
      rw [List.flatMap_cons, List.length_append, List.length_cons]; omega
  have h1 := key (metL row seen)
  have h2 := metL_len row seen
  unfold opK; omega
/-- A list of keys that owns its row. -/
abbrev ownK (g : Option (Nat × Nat)) (xs : List KeyI) : HObj := .own (svOf g xs.length) xs.length 35 2 (xs.flatMap keyF)
abbrev ownV (g : Option (Nat × Nat)) (xs : List (Int × Int)) : HObj := .own (svOf g xs.length) xs.length 73 2 (xs.flatMap seatF)
theorem own_cat {τ : Type} (f : τ → List Value) (l ys : List τ) (gb gc T sz : Nat) :
    HObj.own (svOf (some (gb, gc)) (l ++ ys).length) (l ++ ys).length T sz ((l ++ ys).flatMap f) = .own (.slice (some ⟨gb, 0, none⟩) (l.length + ys.length) gc) (l.length + ys.length) T sz (l.flatMap f ++ ys.flatMap f) := by simp
theorem own_key (ks : List KeyI) (m : MemI) (gb gc : Nat) :
    svOf (some (gb, gc)) (ks ++ [m.leaf, m.path.a, m.path.b, m.path.c]).length = .slice (some ⟨gb, 0, none⟩) (ks.length + 1 + 3) gc ∧
    ownK (some (gb, gc)) (ks ++ [m.leaf, m.path.a, m.path.b, m.path.c]) = .own (.slice (some ⟨gb, 0, none⟩) (ks.length + 1 + 3) gc) (ks.length + 1 + 3) 35 2 (ks.flatMap keyF ++ [.int .i64 m.leaf.1, .int .i64 m.leaf.2] ++ pathV m.path) := by
  have e : (ks ++ [m.leaf, m.path.a, m.path.b, m.path.c]).length = ks.length + 1 + 3 := by simp
  have e2 : (ks ++ [m.leaf, m.path.a, m.path.b, m.path.c]).flatMap keyF = ks.flatMap keyF ++ [.int .i64 m.leaf.1, .int .i64 m.leaf.2] ++ pathV m.path := by
    rw [List.flatMap_append, List.append_assoc]; rfl
  constructor
  · rw [e]
  · unfold ownK; rw [e, e2]
theorem own_met (mt : List (Int × Int)) (xw n : Int) (gb gc : Nat) :
    svOf (some (gb, gc)) (mt ++ [(xw, n)]).length = .slice (some ⟨gb, 0, none⟩) (mt.length + 1) gc ∧
    ownV (some (gb, gc)) (mt ++ [(xw, n)]) = .own (.slice (some ⟨gb, 0, none⟩) (mt.length + 1) gc) (mt.length + 1) 73 2 (mt.flatMap seatF ++ [.int .i64 xw, .int .i64 n]) := by
  have e : (mt ++ [(xw, n)]).length = mt.length + 1 := by simp
  have e2 : (mt ++ [(xw, n)]).flatMap seatF = mt.flatMap seatF ++ [.int .i64 xw, .int .i64 n] := by
    rw [List.flatMap_append]; rfl
  constructor
  · rw [e]
  · unfold ownV; rw [e, e2]
theorem stand_met {row : List TreeS} {x : Int × Int} {t : TreeS} (h0 : 0 ≤ x.2) (ht : row[x.2.toNat]? = some t) {s : Nat} (hs : s < t.1.rs.length) (hf : findI t.1.rs x.1 0 = (s : Int)) :
    stB row x = true ∧ stK row x = [leafK t.1.rs[s] t.1.ep, (pathK t.1 s).a, (pathK t.1 s).b, (pathK t.1 s).c] := by
  unfold stB stK
  rw [ht]
  dsimp only
  rw [hf, Int.toNat_natCast, List.getD_eq_getElem?_getD, List.getElem?_eq_getElem hs]
  exact ⟨decide_eq_true ⟨h0, by omega⟩, rfl⟩
theorem stand_not {row : List TreeS} {x : Int × Int} (h : x.2 < 0 ∨ (row.length : Int) ≤ x.2 ∨ ∃ t, row[x.2.toNat]? = some t ∧ findI t.1.rs x.1 0 < 0) : stB row x = false := by
  unfold stB
  split
  · rename_i t ht
    refine decide_eq_false fun hh => ?_
    have hlt := (List.getElem?_eq_some_iff.1 ht).1
    rcases h with h | h | ⟨u, hu, h⟩
    · omega
    · omega
    · rw [hu] at ht; cases ht; omega
  · rfl
abbrev opT : SL.Late.Tree.Tr := (.q 0 (.q 1 (.q 2 (.q 3 (.q 4 (.q 5 (.q 6 (.b 7 (.q 8 (.q 9 (.q 10 (.b 11 (.b 12 (.q 13 .done) .nil) .nil)))) (.b 11 (.b 7 (.q 8 (.q 9 (.q 10 (.b 12 (.q 13 .done) .nil)))) .nil) .nil)))))))))
set_option maxHeartbeats 4000000 in
theorem opened_ok (F : Mem) (oa ob : Option Addr) (ca cb : Nat) (row : List TreeS) (hr : SlF F 236 oa row.length (row.flatMap treeF)) (R : RowOk row) (seen : List (Int × Int)) (hs : SlF F 2 ob seen.length (seen.flatMap seatF)) (hns : seen.length ≤ 10000000) :
    FT Tryd.prog 8 [.slice oa row.length ca, .slice ob seen.length cb].toArray F []
    (fun e H => ∃ g1 g2, (g1 = none ↔ opK row seen = []) ∧ (g2 = none ↔ metL row seen = []) ∧ e = .returned (.tuple #[svOf g1 (opK row seen).length, svOf g2 (metL row seen).length]) ∧ H = [ownK g1 (opK row seen), ownV g2 (metL row seen)]) := by
  obtain ⟨hlen, hlen2⟩ := R.len
  have hx := hr.at (show 0 < row.length by omega)
  obtain ⟨xb, xo, rfl, hrow⟩ := hx
  have hld : ∀ i (hi : i < row.length), ∀ j v, (treeF row[i])[j]? = some v → RdC F ((⟨xb, elemOff xo (i : Int) 236, none⟩ : Addr).add j) v := fun i hi => flat_row treeF_length hrow hi rfl
  refine FT.of_body Tryd.func8 rfl Tryd.ntmps8 (by simp) fun C hC => ?_
  subst hC
  conv => whnf
  refine LoopI.by_state (σ := Nat × Option (Nat × Nat) × Option (Nat × Nat)) (fun s => [(0, .slice (some ⟨xb, xo, none⟩) row.length ca), (6, svOf s.2.1 (opK row (seen.take s.1)).length), (7, svOf s.2.2 (metL row (seen.take s.1)).length), (12, .slice ob seen.length cb), (13, .int .i64 (seen.length : Int)), (14, .int .i64 (s.1 : Int))])
    (fun s => [ownK s.2.1 (opK row (seen.take s.1)), ownV s.2.2 (metL row (seen.take s.1))]) (fun s => s.1 ≤ seen.length ∧ (s.2.1 = none ↔ opK row (seen.take s.1) = []) ∧ (s.2.2 = none ↔ metL row (seen.take s.1) = [])) (fun s => seen.length - s.1)
    (0, none, none) ⟨Nat.zero_le _, by simp [opK, metL], by simp [metL]⟩ ⟨rfl, rfl, rfl, rfl, rfl, rfl, trivial⟩ (Sub.trans (Sub.nil 35 2) (Sub.trans (Sub.nil 73 2) (Sub.sel [1, 0] rfl))) ?_
  rintro ⟨i, g1, g2⟩ f0 ⟨hi, hg1, hg2⟩
  dsimp only at hi hg1 hg2 ⊢
  conv => whnf
  refine cond_dec (fun h => ?_) (fun h => ?_)
  · have hil : i < seen.length := by omega
    have hy := hs.at hil
    obtain ⟨yb, yo, rfl, hrow2⟩ := hy
    have hrd := flat_row seatF_length hrow2 hil rfl
    have hmst := metL_snoc row seen hil
    have hkst := opK_snoc row seen hil
    have hml := metL_len row (seen.take i)
    have hkl := opK_len row (seen.take i)
    rw [List.length_take] at hml hkl
    generalize seen[i] = x at hrd hmst hkst
    generalize metL row (seen.take i) = mt at hg2 hmst hml ⊢
    generalize opK row (seen.take i) = ks at hg1 hkst hkl ⊢
    obtain ⟨xw, xe⟩ := x
    rw [show seatF (xw, xe) = [.int .i64 xw, .int .i64 xe] from rfl] at hrd
    have hskip : stB row (xw, xe) = false → (g1 = none ↔ opK row (seen.take (i + 1)) = []) ∧ (g2 = none ↔ metL row (seen.take (i + 1)) = []) ∧ opK row (seen.take (i + 1)) = ks ∧ metL row (seen.take (i + 1)) = mt := fun hb => by
      rw [hkst, hmst, hb]; simpa using ⟨hg1, hg2⟩
    conv => whnf
    refine ⟨by omega, ?_⟩
    conv => whnf
    refine LoadV.fa hrd rfl ?_
    conv => whnf
    intro b9
    conv => whnf
    refine StoreV.c rfl rfl (Nat.le_of_ble_eq_true rfl) rfl ?_
    conv => whnf
    refine LoadV.s rfl rfl ?_
    conv => whnf
    refine cond_dec (fun h1 => ?_) (fun h1 => ?_)
    · obtain ⟨k1, k2, k3, k4⟩ := hskip (stand_not (.inl h1))
      conv => whnf
      refine ArI.to64 ((i + 1 : Nat) : Int) (by omega) (by omega) ?_
      conv => whnf
      exact ⟨(i + 1, g1, g2), _, by dsimp only; omega, Sub.sel [1, 2] rfl, ⟨by dsimp only; omega, k1, k2⟩, ⟨rfl, by dsimp only; rw [k3]; rfl, by dsimp only; rw [k4]; rfl, rfl, rfl, rfl, trivial⟩, by dsimp only; rw [k3, k4]⟩
    · conv => whnf
      refine LoadV.s rfl rfl ?_
      conv => whnf
      refine cond_dec (fun h2 => ?_) (fun h2 => ?_)
      · obtain ⟨k1, k2, k3, k4⟩ := hskip (stand_not (.inr (.inl h2)))
        conv => whnf
        refine ArI.to64 ((i + 1 : Nat) : Int) (by omega) (by omega) ?_
        conv => whnf
        exact ⟨(i + 1, g1, g2), _, by dsimp only; omega, Sub.sel [1, 2] rfl, ⟨by dsimp only; omega, k1, k2⟩, ⟨rfl, by dsimp only; rw [k3]; rfl, by dsimp only; rw [k4]; rfl, rfl, rfl, rfl, trivial⟩, by dsimp only; rw [k3, k4]⟩
      · obtain ⟨n, rfl⟩ : ∃ n : Nat, xe = (n : Int) := ⟨xe.toNat, by omega⟩
        have hnl : n < row.length := by omega
        have hget : row[n]? = some row[n] := List.getElem?_eq_getElem hnl
        obtain ⟨hT, _⟩ := R.tree n _ hget
        have hl0 := hld n hnl
        have hk0 : kind Tryd.prog 54 = some (some (treeF row[n]).length) := by rw [treeF_length]; rfl
        generalize row[n] = t at hget hT hl0 hk0
        conv => whnf
        refine SL.Late.Tree.drawTC opT [7, 11, 12] [] [] [_] [] (fun y : Nat × MemI × Int => [(0, .slice (some ⟨xb, xo, none⟩) row.length ca), (6, svOf g1 ks.length), (7, svOf g2 mt.length), (9, .pointer (some ⟨b9, 0, none⟩)), (10, .pointer (some ⟨y.1, 0, none⟩)), (11, .int .i64 y.2.2), (12, .slice (some ⟨yb, yo, none⟩) seen.length cb), (13, .int .i64 (seen.length : Int)), (14, .int .i64 (i : Int))])
          (fun y => [.cells y.1 (memL y.2.1) 77 (0, 0), .cells b9 [.int .i64 xw, .int .i64 (n : Int)] 73 (0, 0), ownK g1 ks, ownV g2 mt]) (fun y => (y.2.2 = 0 ∧ stB row (xw, (n : Int)) = true ∧ stK row (xw, (n : Int)) = [y.2.1.leaf, y.2.1.path.a, y.2.1.path.b, y.2.1.path.c]) ∨ (y.2.2 = 16 ∧ stB row (xw, (n : Int)) = false))
          (by kernel_rfl) (by kernel_rfl) (by kernel_rfl) (by kernel_rfl) (by kernel_rfl) (by kernel_rfl) (by kernel_rfl) (by kernel_rfl) (by kernel_rfl) (Sub.sel [0] rfl) (Sub.sel [] rfl) ?_ ?_
        · conv => whnf
          refine LoadV.s rfl rfl ?_
          conv => whnf
          refine ⟨by omega, ?_⟩
          conv => whnf
          refine LoadV.fa (cs := treeF t) hl0 hk0 ?_
          conv => whnf
          refine LoadV.s rfl rfl ?_
          conv => whnf
          have hyes : ∀ s (hs : s < t.1.rs.length), findI t.1.rs xw 0 = (s : Int) → ((0 : Int) = 0 ∧ stB row (xw, (n : Int)) = true ∧ stK row (xw, (n : Int)) = [leafK t.1.rs[s] t.1.ep, (pathK t.1 s).a, (pathK t.1 s).b, (pathK t.1 s).c]) := fun s hs hf => ⟨rfl, stand_met (show (0 : Int) ≤ (n : Int) by omega) (by rw [Int.toNat_natCast]; exact hget) hs hf⟩
          have hno : findI t.1.rs xw 0 < 0 → ((16 : Int) = 16 ∧ stB row (xw, (n : Int)) = false) := fun hf => ⟨rfl, stand_not (.inr (.inr ⟨t, by rw [Int.toNat_natCast]; exact hget, hf⟩))⟩
          have hso := fun F' => rstand_ok F' t.1 hT xw
          rw [show treeL t.1 = treeF t from rfl] at hso
          unfold StandR at hso
          refine ⟨?_, ?_, trivial⟩
          · refine CallS.mk Tryd.call19 ⟨[], [_, _, _], _, Sub.sel [0, 1, 2] rfl, fun F' hF' => hso F', ?_⟩
            rintro ed A' ⟨rfl, (⟨s, hs, _, _, hf, rfl⟩ | ⟨hf, rfl⟩)⟩
            · have hyes := hyes s hs hf
              generalize hMM : standM t.1 xw s t.1.rs[s] = M
              have hy2 : (0 : Int) = 0 ∧ stB row (xw, (n : Int)) = true ∧ stK row (xw, (n : Int)) = [M.leaf, M.path.a, M.path.b, M.path.c] := by rw [← hMM]; exact hyes
              conv => whnf
              refine ⟨⟨Sub.sel [0] rfl, fun _ => Sub.sel [] rfl⟩, ?_⟩
              conv => whnf
              refine ⟨?_, trivial⟩
              intro b10
              conv => whnf
              refine ⟨⟨Sub.sel [1] rfl, fun _ => Sub.sel [] rfl⟩, ?_⟩
              conv => whnf
              refine ⟨?_, trivial⟩
              refine StoreV.p 14 (memL M) (memL M) rfl rfl rfl (Nat.le_of_ble_eq_true rfl) rfl (by exact putAt_all rfl) ?_
              conv => whnf
              refine ⟨⟨Sub.sel [1] rfl, fun _ => Sub.sel [] rfl⟩, ?_⟩
              conv => whnf
              exact ⟨(b10, M, 0), .inl hy2, ⟨rfl, rfl, rfl, rfl, rfl, rfl, rfl, rfl, rfl, trivial⟩, Sub.sel [0, 1, 2, 3] rfl⟩
            · conv => whnf
              refine ⟨⟨Sub.sel [0] rfl, fun _ => Sub.sel [] rfl⟩, ?_⟩
              conv => whnf
              refine ⟨?_, trivial⟩
              intro b10
              conv => whnf
              refine ⟨⟨Sub.sel [1] rfl, fun _ => Sub.sel [] rfl⟩, ?_⟩
              conv => whnf
              refine ⟨?_, trivial⟩
              refine StoreV.p 14 (memL zeroM) (memL zeroM) rfl rfl rfl (Nat.le_of_ble_eq_true rfl) rfl (by exact putAt_all rfl) ?_
              conv => whnf
              refine ⟨⟨Sub.sel [1] rfl, fun _ => Sub.sel [] rfl⟩, ?_⟩
              conv => whnf
              exact ⟨(b10, zeroM, 16), .inr (hno hf), ⟨rfl, rfl, rfl, rfl, rfl, rfl, rfl, rfl, rfl, trivial⟩, Sub.sel [0, 1, 2, 3] rfl⟩
          · intro b10
            conv => whnf
            refine ⟨⟨Sub.sel [1] rfl, fun _ => Sub.sel [] rfl⟩, ?_⟩
            conv => whnf
            refine ⟨?_, trivial⟩
            refine CallS.mk Tryd.call19 ⟨[], [_, _, _, _], _, Sub.sel [0, 1, 2, 3] rfl, fun F' hF' => hso F', ?_⟩
            rintro ed A' ⟨rfl, (⟨s, hs, _, _, hf, rfl⟩ | ⟨hf, rfl⟩)⟩
            · have hyes := hyes s hs hf
              generalize hMM : standM t.1 xw s t.1.rs[s] = M
              have hy2 : (0 : Int) = 0 ∧ stB row (xw, (n : Int)) = true ∧ stK row (xw, (n : Int)) = [M.leaf, M.path.a, M.path.b, M.path.c] := by rw [← hMM]; exact hyes
              conv => whnf
              refine ⟨⟨Sub.sel [1] rfl, fun _ => Sub.sel [] rfl⟩, ?_⟩
              conv => whnf
              refine ⟨?_, trivial⟩
              refine StoreV.p 14 (memL M) (memL M) rfl rfl rfl (Nat.le_of_ble_eq_true rfl) rfl (by exact putAt_all rfl) ?_
              conv => whnf
              refine ⟨⟨Sub.sel [1] rfl, fun _ => Sub.sel [] rfl⟩, ?_⟩
              conv => whnf
              exact ⟨(b10, M, 0), .inl hy2, ⟨rfl, rfl, rfl, rfl, rfl, rfl, rfl, rfl, rfl, trivial⟩, Sub.sel [0, 1, 2, 3] rfl⟩
            · conv => whnf
              refine ⟨⟨Sub.sel [1] rfl, fun _ => Sub.sel [] rfl⟩, ?_⟩
              conv => whnf
              refine ⟨?_, trivial⟩
              refine StoreV.p 14 (memL zeroM) (memL zeroM) rfl rfl rfl (Nat.le_of_ble_eq_true rfl) rfl (by exact putAt_all rfl) ?_
              conv => whnf
              refine ⟨⟨Sub.sel [1] rfl, fun _ => Sub.sel [] rfl⟩, ?_⟩
              conv => whnf
              exact ⟨(b10, zeroM, 16), .inr (hno hf), ⟨rfl, rfl, rfl, rfl, rfl, rfl, rfl, rfl, rfl, trivial⟩, Sub.sel [0, 1, 2, 3] rfl⟩
        rintro ⟨b10, m, er⟩ f1 hin
        dsimp only at hin ⊢
        rcases hin with ⟨rfl, hb, hk⟩ | ⟨rfl, hb⟩
        · rw [hb, if_pos rfl] at hmst hkst
          rw [hk] at hkst
          conv => whnf
          refine LoadV.a 2 rfl (Nat.le_of_ble_eq_true rfl) ?_
          conv => whnf
          intro bl
          conv => whnf
          refine BuiltV.append (sv := svOf g1 ks.length) (m := 1) Tryd.underlying40 rfl rfl rfl rfl (by decide) (Row.cells 2) rfl (by decide) rfl (by show (ks.length + 1) * 16 ≤ _; omega) (by omega) fun gb gc => ?_
          conv => whnf
          refine DoV.slice_arr Tryd.underlying75 rfl ?_
          conv => whnf
          refine BuiltV.append (sv := .slice (some ⟨gb, 0, none⟩) (ks.length + 1) gc) (m := 3) Tryd.underlying40 rfl rfl rfl rfl (by decide) (Row.cells 6) rfl (by decide) rfl (by show (ks.length + 1 + 3) * 16 ≤ _; omega) (by omega) fun gb2 gc2 => ?_
          conv => whnf
          refine LoadV.a 2 rfl (Nat.le_of_ble_eq_true rfl) ?_
          conv => whnf
          intro bl2
          conv => whnf
          refine BuiltV.append (sv := svOf g2 mt.length) (m := 1) Tryd.underlying23 rfl rfl rfl rfl (by decide) (Row.cells 2) rfl (by decide) rfl (by show (mt.length + 1) * 16 ≤ _; omega) (by omega) fun gb3 gc3 => ?_
          conv => whnf
          refine ArI.to64 ((i + 1 : Nat) : Int) (by omega) (by omega) ?_
          conv => whnf
          refine ⟨(i + 1, some (gb2, gc2), some (gb3, gc3)), _, by dsimp only; omega, Sub.sel [4, 5] rfl, ⟨by dsimp only; omega, by dsimp only; rw [hkst]; simp, by dsimp only; rw [hmst]; simp⟩, ⟨rfl, ?_, ?_, rfl, rfl, rfl, trivial⟩, ?_⟩
          · dsimp only; rw [hkst]; rw [(own_key ks m gb2 gc2).1]; rfl
          · dsimp only; rw [hmst]; rw [(own_met mt xw n gb3 gc3).1]; rfl
          · dsimp only; rw [hkst, hmst]; rw [(own_key ks m gb2 gc2).2, (own_met mt xw n gb3 gc3).2]; rfl
        · obtain ⟨k1, k2, k3, k4⟩ := hskip hb
          conv => whnf
          refine ArI.to64 ((i + 1 : Nat) : Int) (by omega) (by omega) ?_
          conv => whnf
          exact ⟨(i + 1, g1, g2), _, by dsimp only; omega, Sub.sel [2, 3] rfl, ⟨by dsimp only; omega, k1, k2⟩, ⟨rfl, by dsimp only; rw [k3]; rfl, by dsimp only; rw [k4]; rfl, rfl, rfl, rfl, trivial⟩, by dsimp only; rw [k3, k4]⟩
  · obtain rfl : i = seen.length := by omega
    rw [List.take_length] at hg1 hg2 ⊢
    conv => whnf
    refine RetI.two Tryd.results8 rfl rfl ?_
    conv => whnf
    exact ⟨_, Sub.refl _, g1, g2, hg1, hg2, rfl, rfl⟩
end Go.Proofs.YtlfmckjehjedpaaDoor

/- What follows; what is kept. -/
namespace Go.Proofs.YtlfmckjehjedpaaDoor
set_option linter.unusedVariables false
set_option linter.unusedSimpArgs false
set_option maxRecDepth 100000
open SL Go.RowKit Go.Maps
/-- The foreign memory reads so: an object whole. -/
def RdO (F : Mem) (r : Nat) (o : Obj) : Prop := ∀ w : World, (∀ r o, F r = some o → w.heap[r]? = some o) → w.heap[r]? = some o
theorem RdO.at {C : Ctx} {H : Heap} {w : World} {r : Nat} {o : Obj} (h : RdO C.F r o) (hs : Sat C H w) : w.heap[r]? = some o := h w fun _ _ hF => hs.foreign hF
theorem RdO.ext {F F' : Mem} {r : Nat} {o : Obj} (h : RdO F r o) (hF : ∀ r o, F r = some o → F' r = some o) : RdO F' r o := fun w hw => h w fun r o hr => hw r o (hF r o hr)
theorem RdO.obj {F F' : Mem} {B : Heap} {r : Nat} {o : Obj} (he : Ext F B F') (hm : HObj.obj r o ∈ B) : RdO F' r o := fun w hw => he.H _ hm w hw
section
variable {C : Ctx} {P : Program} {H : Heap} {KV : Value → Heap → Prop} {α β : Type} {k e t : TypeId} {fk : α → Value} {fv : β → Value} {es : Array MapEntry} {clock : Nat} {m : List (α × β)} {r : Nat} {a : α}
theorem DoV.lookup_okF [DecidableEq α] (hr : RdO C.F r (.map es clock)) (M : MapOk P k fk fv es clock m) (K : Keyed P k) (hinj : ∀ a b, fk a = fk b → a = b) (ht : P.underlying t = some (.map k e)) {i : TypeInfo} {z : Value} (hi : P.info? e = some i) (hz : i.zero = some z) {l : Lit}
    (hl : keyOf P k (fk a) = some l) {u : Value} (hu : (lookM m a).elim z fv = u) (kk : KV (.tuple #[u, .bool (lookM m a).isSome]) H) : DoV C P (Instr.lookup t (.map (some r)) (fk a) true) H KV :=
  ⟨fun v H' => v = .tuple #[(lookM m a).elim z fv, .bool (lookM m a).isSome] ∧ H' = H, fun w hs => by
    have hb : w.heap[r]? = some (.map es clock) := hr.at hs
    have hzv : (zeroValue e).run P w = .ok z w := by simp [zeroValue, typeInfo, hi, hz]
    refine ⟨_, w, H, ?_, ⟨rfl, rfl⟩, hs⟩
    rcases K.find w hl es.toList M.key with ⟨h1, h2⟩ | ⟨j, e0, h1, h2, h3⟩
    · have : lookM m a = none := lookM_none.2 fun p hp e1 => by
        obtain ⟨x, hx, hx1, _⟩ := M.of_mem hp
        exact h2 x hx (by rw [hx1, e1])
      simp [Instr.lookup, run_underlying ht, MapKept.run_getObj_map hb, K.check w _ hl, h1, hzv, Result.andThen, this]
    · obtain ⟨p, hp, hp1, hp2⟩ := M.at j e0 h2
      have hpa : p.1 = a := hinj _ _ (by rw [← hp1, h3])
      have : lookM m a = some p.2 := by rw [← hpa]; exact lookM_of_mem M.nodup (List.mem_of_getElem? hp)
      simp [Instr.lookup, run_underlying ht, MapKept.run_getObj_map hb, K.check w _ hl, h1, Result.andThen, this, hp2],
   fun v H' ⟨h1, h2⟩ => by subst h1; subst h2; rw [hu]; exact kk⟩
end
theorem lookupI_f {C : Ctx} {H : Heap} {KV : Value → Heap → Prop} {r : Nat} {es : Array MapEntry} {clock : Nat} {m : List (Int × Int)} {a : Int} (hr : RdO C.F r (.map es clock)) (M : MapI es clock m) (ha : I64 a) (kk : KV (.tuple #[.int .i64 (lookI m a), .bool (lookM m a).isSome]) H) :
    DoV C Tryd.prog (Instr.lookup 44 (.map (some r)) (.int .i64 a) true) H KV :=
  DoV.lookup_okF (fk := intI) (fv := intI) hr M keyedI intI_inj Tryd.underlying44 rfl rfl (keyI_wf ha) (by unfold lookI; cases lookM m a <;> rfl) kk
/-- The key follows. -/
def hasB (m : List (Int × Int)) (k : KeyI) : Bool := match lookM m k.1 with | some s => decide (s ≤ k.2) | none => false
theorem hasB_iff {m : List (Int × Int)} {k : KeyI} : hasB m k = true ↔ HasBy m k.1 k.2 := by
  unfold hasB HasBy
  cases lookM m k.1 with
  | none => simp
  | some s => simp
theorem follows_ok (F : Mem) (r : Nat) (es : Array MapEntry) (cl : Nat) (m : List (Int × Int)) (hr : RdO F r (.map es cl)) (M : MapI es cl m) (k : KeyI) (hk : I64 k.1) :
    FT Tryd.prog 12 [.map (some r), .agg #[.int .i64 k.1, .int .i64 k.2]].toArray F [] (Ret (.bool (hasB m k))) := by
  obtain ⟨a, s⟩ := k
  dsimp only at hk ⊢
  refine FT.of_body Tryd.func12 rfl Tryd.ntmps12 (by simp) fun C hC => ?_
  subst hC
  conv => whnf
  intro b3
  conv => whnf
  refine LoadV.s rfl rfl ?_
  conv => whnf
  refine lookupI_f hr M hk ?_
  cases hl : lookM m a with
  | none =>
    conv => whnf
    repeat (first | (refine LoadV.s rfl rfl (forceV_of ?_); conv => whnf) | (refine LoadV.s rfl rfl ?_; conv => whnf) | (refine StoreV.c rfl rfl (Nat.le_of_ble_eq_true rfl) rfl ?_; conv => whnf) | (refine LoadV.a _ rfl (Nat.le_of_ble_eq_true rfl) ?_; conv => whnf) | (refine DrawI.quiet (by kernel_rfl) (by kernel_rfl) ?_; conv => whnf) | (refine ArI.in64 (by omega) ?_; conv => whnf) | (refine ArI.inU8 (by omega) ?_; conv => whnf) | (refine ArI.inU64 (by omega) ?_; conv => whnf) | (refine ArI.inU32 (by omega) ?_; conv => whnf) | (refine RetI.one Tryd.results12 rfl ?_; conv => whnf) | (refine RetI.two Tryd.results12 rfl rfl ?_; conv => whnf) | (refine RetI.three Tryd.results12 rfl rfl rfl ?_; conv => whnf) | (refine RetI.none Tryd.results12 ?_; conv => whnf) | (refine ⟨by first | decide | omega, ?_⟩; conv => whnf))
    exact ⟨_, Sub.sel [] rfl, ret_bool (show hasB m (a, s) = false by unfold hasB; rw [hl]).symm, rfl⟩
  | some s' =>
    rw [lookI_some hl]
    conv => whnf
    refine LoadV.s rfl rfl ?_
    conv => whnf
    repeat (first | (refine LoadV.s rfl rfl (forceV_of ?_); conv => whnf) | (refine LoadV.s rfl rfl ?_; conv => whnf) | (refine StoreV.c rfl rfl (Nat.le_of_ble_eq_true rfl) rfl ?_; conv => whnf) | (refine LoadV.a _ rfl (Nat.le_of_ble_eq_true rfl) ?_; conv => whnf) | (refine DrawI.quiet (by kernel_rfl) (by kernel_rfl) ?_; conv => whnf) | (refine ArI.in64 (by omega) ?_; conv => whnf) | (refine ArI.inU8 (by omega) ?_; conv => whnf) | (refine ArI.inU64 (by omega) ?_; conv => whnf) | (refine ArI.inU32 (by omega) ?_; conv => whnf) | (refine RetI.one Tryd.results12 rfl ?_; conv => whnf) | (refine RetI.two Tryd.results12 rfl rfl ?_; conv => whnf) | (refine RetI.three Tryd.results12 rfl rfl rfl ?_; conv => whnf) | (refine RetI.none Tryd.results12 ?_; conv => whnf) | (refine ⟨by first | decide | omega, ?_⟩; conv => whnf))
    exact ⟨_, Sub.sel [] rfl, ret_bool (show hasB m (a, s) = decide (s' ≤ s) by unfold hasB; rw [hl]).symm, rfl⟩
end Go.Proofs.YtlfmckjehjedpaaDoor

/- The row is kept. -/
namespace Go.Proofs.YtlfmckjehjedpaaDoor
set_option linter.unusedVariables false
set_option linter.unusedSimpArgs false
set_option maxRecDepth 100000
open SL Go.RowKit Go.Maps
/-- What follows is excused. -/
def Kept (row : List TreeS) (m : List (Int × Int)) (met : List (Int × Int)) : Prop := ∀ (i : Nat) (t : TreeS) (v : Nat), row[i]? = some t → v < 21 → hasB m (nodeK t.1 v) = true → excB row met i v = true
open Classical in
noncomputable def keptB (row : List TreeS) (m : List (Int × Int)) (met : List (Int × Int)) : Bool := decide (Kept row m met)
theorem keptB_iff {row : List TreeS} {m met : List (Int × Int)} : keptB row m met = true ↔ Kept row m met := by unfold keptB; simp
theorem keptB_not {row : List TreeS} {m met : List (Int × Int)} (h : ¬ Kept row m met) : keptB row m met = false := by unfold keptB; simp [h]
theorem nodeK_i64 {t : TreeI} (T : TreeOk t) {v : Nat} (h : v < 21) : I64 (nodeK t v).1 := by
  have hl : v < t.ks.length := by rw [T.K.len]; exact h
  rw [nodeK_inner hl h]
  have := T.K.rng _ (List.getElem_mem hl)
  have := T.top
  unfold I64; omega
set_option maxHeartbeats 4000000 in
theorem kept_ok (F : Mem) (oa ob : Option Addr) (ca cb : Nat) (row : List TreeS) (hr : SlF F 236 oa row.length (row.flatMap treeF)) (R : RowOk row) (r : Nat) (es : Array MapEntry) (cl : Nat) (m : List (Int × Int)) (hm : RdO F r (.map es cl)) (M : MapI es cl m)
    (met : List (Int × Int)) (hs : SlF F 2 ob met.length (met.flatMap seatF)) (hns : met.length ≤ 140737488355328) :
    FT Tryd.prog 9 [.slice oa row.length ca, .map (some r), .slice ob met.length cb].toArray F [] (Ret (.bool (keptB row m met))) := by
  obtain ⟨hlen, hlen2⟩ := R.len
  have hrf := hr
  have hx := hr.at (show 0 < row.length by omega)
  obtain ⟨xb, xo, rfl, hrow⟩ := hx
  have hld : ∀ i (hi : i < row.length), ∀ j v, (treeF row[i])[j]? = some v → RdC F ((⟨xb, elemOff xo (i : Int) 236, none⟩ : Addr).add j) v := fun i hi => flat_row treeF_length hrow hi rfl
  refine FT.of_body Tryd.func9 rfl Tryd.ntmps9 (by simp) fun C hC => ?_
  subst hC
  conv => whnf
  refine LoopI.by_state (σ := Nat) (fun i => [(0, .slice (some ⟨xb, xo, none⟩) row.length ca), (1, .map (some r)), (2, .slice ob met.length cb), (10, .slice (some ⟨xb, xo, none⟩) row.length ca), (11, .int .i64 (row.length : Int)), (12, .int .i64 (i : Int))])
    (fun _ => []) (fun i => i ≤ row.length ∧ ∀ (k : Nat) (t : TreeS) (v : Nat), k < i → row[k]? = some t → v < 21 → hasB m (nodeK t.1 v) = true → excB row met k v = true) (fun i => row.length - i)
    0 ⟨Nat.zero_le _, fun k t v hk => by omega⟩ ⟨rfl, rfl, rfl, rfl, rfl, rfl, trivial⟩ (Sub.refl _) ?_
  rintro i f0 ⟨hi, hall⟩
  conv => whnf
  refine cond_dec (fun h => ?_) (fun h => ?_)
  · have hil : i < row.length := by omega
    have hl0 := hld i hil
    have hget : row[i]? = some row[i] := List.getElem?_eq_getElem hil
    have hT := (R.tree i _ hget).1
    have hfl := treeF_length row[i]
    have hnk : ∀ v, v < 21 → ((treeF row[i]).drop (2 + v * 2)).take 2 = [.int .i64 (nodeK row[i].1 v).1, .int .i64 (nodeK row[i].1 v).2] := fun v hv => nodeK_at hT hv
    have hk6 : ∀ v, v < 21 → I64 (nodeK row[i].1 v).1 := fun v hv => nodeK_i64 hT hv
    have hla : (treeF row[i]).all Value.oneCell' = true := treeF_all row[i]
    have hk0 : kind Tryd.prog 54 = some (some (treeF row[i]).length) := by rw [treeF_length]; rfl
    generalize row[i] = t at hget hl0 hT hfl hnk hk6 hla hk0
    generalize treeF t = TF at hl0 hfl hnk hla hk0
    conv => whnf
    refine ⟨by omega, ?_⟩
    conv => whnf
    refine LoadV.fa (cs := TF) hl0 hk0 ?_
    conv => whnf
    intro b8
    conv => whnf
    refine StoreV.p 236 TF TF rfl hfl rfl (Nat.le_of_ble_eq_true rfl) hla (by exact putAt_all (by rw [hfl]; rfl)) ?_
    conv => whnf
    refine LoopI.by_state (σ := Nat) (fun v => [(0, .slice (some ⟨xb, xo, none⟩) row.length ca), (1, .map (some r)), (2, .slice ob met.length cb), (7, .int .i64 (i : Int)), (8, .pointer (some ⟨b8, 0, none⟩)), (9, .int .i64 (v : Int)), (10, .slice (some ⟨xb, xo, none⟩) row.length ca), (11, .int .i64 (row.length : Int)), (12, .int .i64 (i : Int))])
      (fun _ => [.cells b8 TF 54 (0, 0)]) (fun v => v ≤ 21 ∧ ∀ (u : Nat), u < v → hasB m (nodeK t.1 u) = true → excB row met i u = true) (fun v => 21 - v)
      0 ⟨by omega, fun u hu => by omega⟩ ⟨rfl, rfl, rfl, rfl, rfl, rfl, rfl, rfl, rfl, trivial⟩ (Sub.refl _) ?_
    rintro v f1 ⟨hv, hall2⟩
    conv => whnf
    refine cond_dec (fun h1 => ?_) (fun h1 => ?_)
    · have hv21 : v < 21 := by omega
      have hpart := hnk v hv21
      have hki := hk6 v hv21
      have hfo := fun F' (hm' : RdO F' r (.map es cl)) => follows_ok F' r es cl m hm' M (nodeK t.1 v) hki
      have hnx : ∀ b, (hasB m (nodeK t.1 v) = true → excB row met i v = b) → True := fun _ _ => trivial
      generalize hkk : nodeK t.1 v = k at hpart hki hfo
      conv => whnf
      refine ⟨by omega, ?_⟩
      conv => whnf
      refine LoadV.eq (b := b8) (o := 2 + v * 2) (by exact congrArg (fun o => (⟨b8, o, none⟩ : Addr)) (elem_off2 (o := 2) (n := 2) (by kernel_rfl) rfl)) ?_
      refine LoadV.p 2 [.int .i64 k.1, .int .i64 k.2] rfl rfl (by show 2 + v * 2 + 2 ≤ TF.length; omega) hpart ?_
      conv => whnf
      refine CallS.mk Tryd.call12 ⟨[], _, _, Sub.refl _, fun F' hF' => hfo F' (hm.ext hF'.F), ?_⟩
      rintro e A' ⟨rfl, rfl⟩
      cases hb : hasB m k with
      | false =>
        conv => whnf
        refine ArI.to64 ((v + 1 : Nat) : Int) (by omega) (by omega) ?_
        conv => whnf
        refine ⟨v + 1, _, by omega, Sub.sel [0] rfl, ⟨by omega, fun u hu hh => ?_⟩, ⟨rfl, rfl, rfl, rfl, rfl, rfl, rfl, rfl, rfl, trivial⟩, rfl⟩
        by_cases e : u = v
        · subst e; rw [hkk, hb] at hh; cases hh
        · exact hall2 u (by omega) hh
      | true =>
        conv => whnf
        refine CallS.mk Tryd.call11 ⟨[], _, _, Sub.refl _, fun F' hF' => rowExc_ok F' (some ⟨xb, xo, none⟩) ob ca cb row (hrf.ext hF'.F) (by omega) met (hs.ext hF'.F) hns i v hil hv21, ?_⟩
        rintro e A' ⟨rfl, rfl⟩
        cases hx : excB row met i v with
        | false =>
          conv => whnf
          repeat (first | (refine LoadV.s rfl rfl (forceV_of ?_); conv => whnf) | (refine LoadV.s rfl rfl ?_; conv => whnf) | (refine StoreV.c rfl rfl (Nat.le_of_ble_eq_true rfl) rfl ?_; conv => whnf) | (refine LoadV.a _ rfl (Nat.le_of_ble_eq_true rfl) ?_; conv => whnf) | (refine DrawI.quiet (by kernel_rfl) (by kernel_rfl) ?_; conv => whnf) | (refine ArI.in64 (by omega) ?_; conv => whnf) | (refine ArI.inU8 (by omega) ?_; conv => whnf) | (refine ArI.inU64 (by omega) ?_; conv => whnf) | (refine ArI.inU32 (by omega) ?_; conv => whnf) | (refine RetI.one Tryd.results9 rfl ?_; conv => whnf) | (refine RetI.two Tryd.results9 rfl rfl ?_; conv => whnf) | (refine RetI.three Tryd.results9 rfl rfl rfl ?_; conv => whnf) | (refine RetI.none Tryd.results9 ?_; conv => whnf) | (refine ⟨by first | decide | omega, ?_⟩; conv => whnf))
          exact ⟨_, Sub.sel [] rfl, ret_bool (keptB_not fun hh => by have := hh i t v hget hv21 (by rw [hkk]; exact hb); rw [hx] at this; cases this).symm, rfl⟩
        | true =>
          conv => whnf
          refine ArI.to64 ((v + 1 : Nat) : Int) (by omega) (by omega) ?_
          conv => whnf
          refine ⟨v + 1, _, by omega, Sub.sel [0] rfl, ⟨by omega, fun u hu hh => ?_⟩, ⟨rfl, rfl, rfl, rfl, rfl, rfl, rfl, rfl, rfl, trivial⟩, rfl⟩
          by_cases e : u = v
          · subst e; exact hx
          · exact hall2 u (by omega) hh
    · conv => whnf
      refine ArI.to64 ((i + 1 : Nat) : Int) (by omega) (by omega) ?_
      conv => whnf
      refine ⟨i + 1, _, by omega, Sub.sel [] rfl, ⟨by omega, fun k u v' hk hku hv' hh => ?_⟩, ⟨rfl, rfl, rfl, rfl, rfl, rfl, trivial⟩, rfl⟩
      by_cases e : k = i
      · subst e; rw [hget] at hku; cases hku; exact hall2 v' (by omega) hh
      · exact hall k u v' (by omega) hku hv' hh
  · conv => whnf
    repeat (first | (refine LoadV.s rfl rfl (forceV_of ?_); conv => whnf) | (refine LoadV.s rfl rfl ?_; conv => whnf) | (refine StoreV.c rfl rfl (Nat.le_of_ble_eq_true rfl) rfl ?_; conv => whnf) | (refine LoadV.a _ rfl (Nat.le_of_ble_eq_true rfl) ?_; conv => whnf) | (refine DrawI.quiet (by kernel_rfl) (by kernel_rfl) ?_; conv => whnf) | (refine ArI.in64 (by omega) ?_; conv => whnf) | (refine ArI.inU8 (by omega) ?_; conv => whnf) | (refine ArI.inU64 (by omega) ?_; conv => whnf) | (refine ArI.inU32 (by omega) ?_; conv => whnf) | (refine RetI.one Tryd.results9 rfl ?_; conv => whnf) | (refine RetI.two Tryd.results9 rfl rfl ?_; conv => whnf) | (refine RetI.three Tryd.results9 rfl rfl rfl ?_; conv => whnf) | (refine RetI.none Tryd.results9 ?_; conv => whnf) | (refine ⟨by first | decide | omega, ?_⟩; conv => whnf))
    exact ⟨_, Sub.sel [] rfl, ret_bool (keptB_iff.2 fun k t v hk hv hh => hall k t v (by have := (List.getElem?_eq_some_iff.1 hk).1; omega) hk hv hh).symm, rfl⟩
end Go.Proofs.YtlfmckjehjedpaaDoor

/- A script's row of trees and its messages: plain. -/
namespace Go.Proofs.YtlfmckjehjedpaaDoor
set_option linter.unusedVariables false
set_option linter.unusedSimpArgs false
set_option maxRecDepth 100000
open SL Go.RowKit Go.Maps
/-- A batch that was taken: the tree ahead of it, who left, who joined. -/
abbrev MsgT := TreeI × List Int × List Int
def stepF (s : List TreeI × List MsgT) (x : List Int × List Int) : List TreeI × List MsgT := match s.1.getLast? with
  | none => s
  | some t => if stepE t x.1 x.2 = 0 then (s.1 ++ [nextT t x.1 x.2], s.2 ++ [(t, x.1, x.2)]) else s
def runF (sc : List (List Int × List Int)) : List TreeI × List MsgT := sc.foldl stepF ([startT], [])
theorem runF_snoc {sc : List (List Int × List Int)} {i : Nat} (h : i < sc.length) : runF (sc.take (i + 1)) = stepF (runF (sc.take i)) sc[i] := by
  unfold runF; rw [take_snoc h, List.foldl_append]; rfl
/-- Each message stands between two trees. -/
structure RunOk (s : List TreeI × List MsgT) : Prop where
  len : s.1.length = s.2.length + 1
  first : s.1[0]? = some startT
  msg : ∀ (i : Nat) (m : MsgT), s.2[i]? = some m → s.1[i]? = some m.1 ∧ stepE m.1 m.2.1 m.2.2 = 0 ∧ s.1[i + 1]? = some (nextT m.1 m.2.1 m.2.2)
theorem RunOk.step {s : List TreeI × List MsgT} (h : RunOk s) (x : List Int × List Int) : RunOk (stepF s x) := by
  unfold stepF
  split
  · exact h
  · rename_i t ht
    by_cases hz : stepE t x.1 x.2 = 0
    · rw [if_pos hz]
      have h1 := h.len
      have hlast : s.1[s.2.length]? = some t := by rw [List.getLast?_eq_getElem?, h1, Nat.add_sub_cancel] at ht; exact ht
      refine ⟨by simp [h1], ?_, fun i m hm => ?_⟩
      · rw [List.getElem?_append_left (by omega)]; exact h.first
      · by_cases hi : i < s.2.length
        · rw [List.getElem?_append_left hi] at hm
          obtain ⟨h2, h3, h4⟩ := h.msg i m hm
          exact ⟨by rw [List.getElem?_append_left (by omega)]; exact h2, h3, by rw [List.getElem?_append_left (by omega)]; exact h4⟩
        · have hlt := (List.getElem?_eq_some_iff.1 hm).1
          simp only [List.length_append, List.length_cons, List.length_nil] at hlt
          obtain rfl : i = s.2.length := by omega
          rw [List.getElem?_append_right (Nat.le_refl _), Nat.sub_self] at hm
          simp only [List.getElem?_cons_zero, Option.some.injEq] at hm
          subst hm
          exact ⟨by rw [List.getElem?_append_left (by omega)]; exact hlast, hz, by rw [List.getElem?_append_right (by omega), show s.2.length + 1 - s.1.length = 0 by omega]; rfl⟩
    · rw [if_neg hz]; exact h
theorem runF_ok (sc : List (List Int × List Int)) : RunOk (runF sc) := by
  have key : ∀ (l : List (List Int × List Int)) (s : List TreeI × List MsgT), RunOk s → RunOk (l.foldl stepF s) := by
    intro l
    induction l with
    | nil => intro s h; exact h
    | cons x l ih => intro s h; exact ih _ (h.step x)
  exact key sc _ ⟨rfl, rfl, fun i m hm => by simp at hm⟩
/-- The row of a run's trees. -/
theorem RowOk.of_run {row : List TreeS} {s : List TreeI × List MsgT} (h : RunOk s) (e : row.map (·.1) = s.1) : RowOk row := by
  have hl : row.length = s.1.length := by rw [← e, List.length_map]
  have hat : ∀ (i : Nat) (t : TreeS), row[i]? = some t → s.1[i]? = some t.1 := fun i t ht => by rw [← e, List.getElem?_map, ht]; rfl
  have h1 := h.len
  refine ⟨?_, fun i t u ht hu => ?_⟩
  · have h0 : 0 < row.length := by omega
    refine ⟨row[0], List.getElem?_eq_getElem h0, ?_⟩
    have := hat 0 _ (List.getElem?_eq_getElem h0)
    rw [h.first] at this; exact (Option.some.inj this).symm
  · have hlt := (List.getElem?_eq_some_iff.1 hu).1
    have hi : i < s.2.length := by omega
    obtain ⟨h2, h3, h4⟩ := h.msg i _ (List.getElem?_eq_getElem hi)
    rw [hat i t ht] at h2
    rw [hat (i + 1) u hu] at h4
    have e1 := Option.some.inj h2
    have e2 := Option.some.inj h4
    obtain ⟨h5, h6⟩ := stepE_zero.1 h3
    rw [← e1] at e2 h5 h6
    exact ⟨_, _, h5, h6, e2⟩
abbrev Gs := Option (Nat × Nat) × Option (Nat × Nat) × Option (Nat × Nat)
abbrev MsgG := MsgT × Gs
def mgL (m : MsgG) : List Value := rekL (m.1.1.ep + 1) m.2.1 m.2.2.1 m.2.2.2 (leftL m.1.1.rs m.1.2.1).length (joinedL m.1.1.rs m.1.2.1 m.1.2.2).length (itemsN m.1.1 m.1.2.1 m.1.2.2).length
def mgH (m : MsgG) : Heap := [ownT m.2.1 (leftL m.1.1.rs m.1.2.1), ownT m.2.2.1 (joinedL m.1.1.rs m.1.2.1 m.1.2.2), ownIt m.2.2.2 (itemsN m.1.1 m.1.2.1 m.1.2.2)]
theorem mgL_length (m : MsgG) : (mgL m).length = 4 := rfl
/-- What a message's lists own, the newest first. -/
def tailH (ms : List MsgG) : Heap := ms.reverse.flatMap mgH
theorem tailH_snoc (ms : List MsgG) (m : MsgG) : tailH (ms ++ [m]) = mgH m ++ tailH ms := by unfold tailH; simp
structure GsOk (m : MsgG) : Prop where
  left : m.2.1 = none ↔ leftL m.1.1.rs m.1.2.1 = []
  joined : m.2.2.1 = none ↔ joinedL m.1.1.rs m.1.2.1 m.1.2.2 = []
  items : m.2.2.2 = none ↔ itemsN m.1.1 m.1.2.1 m.1.2.2 = []
abbrev BatI := List Int × List Int × BatS
def batI (x : BatI) : List Int × List Int := (x.1, x.2.1)
def batF (x : BatI) : List Value := batL x.1 x.2.1 x.2.2
theorem batF_length (x : BatI) : (batF x).length = 2 := rfl
structure ScrF (F : Mem) (oa : Option Addr) (sc : List BatI) : Prop where
  sl : SlF F 2 oa sc.length (sc.flatMap batF)
  bat : ∀ x ∈ sc, BatF F x.1 x.2.1 x.2.2
  n : sc.length ≤ 140737488355328
theorem ScrF.ext {F F' : Mem} {B : Heap} {oa : Option Addr} {sc : List BatI} (h : ScrF F oa sc) (he : Ext F B F') : ScrF F' oa sc := ⟨h.sl.ext he.F, fun x hx => (h.bat x hx).ext he, h.n⟩
/-- The row of trees, owned; the messages, owned. -/
abbrev ownR (g : Nat × Nat) (row : List TreeS) : HObj := .own (svOf (some g) row.length) row.length 54 236 (row.flatMap treeF)
abbrev ownM (g : Option (Nat × Nat)) (ms : List MsgG) : HObj := .own (svOf g ms.length) ms.length 33 4 (ms.flatMap mgL)
structure StepsI (sc : List BatI) (row : List TreeS) (ms : List MsgG) (gm : Option (Nat × Nat)) : Prop where
  hrow : row.map (·.1) = (runF (sc.map batI)).1
  hms : ms.map Prod.fst = (runF (sc.map batI)).2
  gs : ∀ m ∈ ms, GsOk m
  gm : gm = none ↔ ms = []
theorem StepsI.ok {sc : List BatI} {row : List TreeS} {ms : List MsgG} {gm : Option (Nat × Nat)} (h : StepsI sc row ms gm) : RowOk row := .of_run (runF_ok _) h.hrow
theorem StepsI.len {sc : List BatI} {row : List TreeS} {ms : List MsgG} {gm : Option (Nat × Nat)} (h : StepsI sc row ms gm) : row.length = ms.length + 1 ∧ row.length ≤ 201 := by
  have h1 := (runF_ok (sc.map batI)).len
  rw [← h.hrow, ← h.hms, List.length_map, List.length_map] at h1
  exact ⟨h1, h.ok.len.2⟩
theorem StepsI.nil {s : TreeS} (h : s.1 = startT) : StepsI [] [s] [] none := ⟨by simp [runF, h], rfl, by simp, by simp⟩
theorem StepsI.step {sc : List BatI} {i : Nat} {row : List TreeS} {ms : List MsgG} {gm : Option (Nat × Nat)} (hi : i < sc.length) (h : StepsI (sc.take i) row ms gm) (ts : TreeS) (hts : row[row.length - 1]? = some ts) :
    (stepE ts.1 sc[i].1 sc[i].2.1 = 0 → ∀ (u : TreeS) (gs : Gs) (g : Nat × Nat), u.1 = nextT ts.1 sc[i].1 sc[i].2.1 → GsOk ((ts.1, sc[i].1, sc[i].2.1), gs) → StepsI (sc.take (i + 1)) (row ++ [u]) (ms ++ [((ts.1, sc[i].1, sc[i].2.1), gs)]) (some g)) ∧
    (stepE ts.1 sc[i].1 sc[i].2.1 ≠ 0 → StepsI (sc.take (i + 1)) row ms gm) := by
  have hl : (runF ((sc.take i).map batI)).1.getLast? = some ts.1 := by
    rw [← h.hrow, List.getLast?_eq_getElem?, List.getElem?_map, List.length_map, hts]; rfl
  have hi2 : i < (sc.map batI).length := by rw [List.length_map]; exact hi
  have hr : runF ((sc.take (i + 1)).map batI) = stepF (runF ((sc.take i).map batI)) (sc[i].1, sc[i].2.1) := by
    have := runF_snoc hi2
    rw [← List.map_take, ← List.map_take, List.getElem_map] at this; exact this
  unfold stepF at hr
  rw [hl] at hr
  dsimp only at hr
  refine ⟨fun hz u gs g hu hg => ?_, fun hz => ?_⟩
  · rw [if_pos hz] at hr
    refine ⟨by rw [hr, List.map_append, h.hrow]; simp [hu], by rw [hr, List.map_append, h.hms]; rfl, fun m hm => ?_, by simp⟩
    rcases List.mem_append.1 hm with hm | hm
    · exact h.gs m hm
    · simp only [List.mem_singleton] at hm; subst hm; exact hg
  · rw [if_neg hz] at hr
    exact ⟨by rw [hr]; exact h.hrow, by rw [hr]; exact h.hms, h.gs, h.gm⟩
def StepsR (sc : List BatI) (e : Ending) (H : Heap) : Prop := ∃ row ms gr gm, StepsI sc row ms gm ∧ e = .returned (.tuple #[svOf (some gr) row.length, svOf gm ms.length, .bool true]) ∧ H = ownR gr row :: ownM gm ms :: tailH ms
theorem lives_row : (runF [([], [1, 2])]).1.length = 2 := by decide +kernel
theorem lives_items : (runF [([], [1, 2])]).2.map (fun m => (itemsN m.1 m.2.1 m.2.2).length) = [6] := by decide +kernel
end Go.Proofs.YtlfmckjehjedpaaDoor

/- A script is played. -/
namespace Go.Proofs.YtlfmckjehjedpaaDoor
set_option linter.unusedVariables false
set_option linter.unusedSimpArgs false
set_option maxRecDepth 100000
open SL Go.RowKit Go.Maps
theorem Sub.selX {A B X : Heap} (is : List Nat) (h : SL.sel is A = some B) : SL.Sub (A ++ X) (B ++ X) := by
  unfold SL.sel at h
  obtain ⟨⟨ys, l'⟩, h1, rfl⟩ := Option.map_eq_some_iff.1 h
  have := pulls_perm h1
  rw [List.filterMap_map] at this
  have h2 : List.filterMap (id ∘ some) A = A := by simp
  rw [h2] at this
  refine SL.Sub.of_perm (X := l'.filterMap id) ((this.append_right X).trans ?_)
  rw [← List.append_assoc]
  exact List.perm_append_comm.append_right X
theorem lit_one {sz : Nat} {cs : List Value} (h : cs.length = sz) : litCells sz [(0, .agg cs.toArray)] 0 = some cs := by
  subst h; simp [litCells, Value.cells]
theorem row_own {C : Ctx} {H : Heap} {b : Nat} {l : List Value} {T : TypeId} {fr : Nat × Nat} [hf : Find H b l T fr] : Row C H ⟨b, 0, none⟩ l := by
  have h := Row.cells (C := C) (H := H) (b := b) (o := 0) (l := l) l.length
  rwa [List.drop_zero, List.take_of_length_le (Nat.le_refl _)] at h
abbrev stT : SL.Late.Tree.Tr := (.q 0 (.q 1 (.q 2 (.q 3 (.q 4 (.q 5 (.q 6 (.b 7 (.q 8 (.q 9 (.q 10 (.q 11 (.b 12 (.b 13 (.b 14 (.b 15 (.q 16 .done) .nil) .nil) .nil) (.b 13 (.b 12 (.b 14 (.b 15 (.q 16 .done) .nil) .nil) .nil) .nil)))))) (.b 12 (.b 7 (.q 8 (.q 9 (.q 10 (.q 11 (.b 13 (.b 14 (.b 15 (.q 16 .done) .nil) .nil) .nil))))) (.b 13 (.b 7 (.q 8 (.q 9 (.q 10 (.q 11 (.b 14 (.b 15 (.q 16 .done) .nil) .nil))))) .nil) .nil)) (.b 13 (.b 7 (.q 8 (.q 9 (.q 10 (.q 11 (.b 12 (.b 14 (.b 15 (.q 16 .done) .nil) .nil) .nil))))) (.b 12 (.b 7 (.q 8 (.q 9 (.q 10 (.q 11 (.b 14 (.b 15 (.q 16 .done) .nil) .nil))))) .nil) .nil)) .nil))))))))))
theorem own_row (row : List TreeS) (u : TreeS) {NT : List Value} (h : treeF u = NT) (gb gc : Nat) :
    svOf (some (gb, gc)) (row ++ [u]).length = .slice (some ⟨gb, 0, none⟩) (row.length + 1) gc ∧ ownR (gb, gc) (row ++ [u]) = .own (.slice (some ⟨gb, 0, none⟩) (row.length + 1) gc) (row.length + 1) 54 236 (row.flatMap treeF ++ NT) := by
  have e : (row ++ [u]).length = row.length + 1 := by simp
  have e2 : (row ++ [u]).flatMap treeF = row.flatMap treeF ++ NT := by rw [List.flatMap_append, ← h]; simp
  constructor
  · rw [e]
  · unfold ownR; rw [e, e2]
theorem own_msg (ms : List MsgG) (m : MsgG) {c : List Value} (h : mgL m = c) (gb gc : Nat) :
    svOf (some (gb, gc)) (ms ++ [m]).length = .slice (some ⟨gb, 0, none⟩) (ms.length + 1) gc ∧ ownM (some (gb, gc)) (ms ++ [m]) = .own (.slice (some ⟨gb, 0, none⟩) (ms.length + 1) gc) (ms.length + 1) 33 4 (ms.flatMap mgL ++ c) := by
  have e : (ms ++ [m]).length = ms.length + 1 := by simp
  have e2 : (ms ++ [m]).flatMap mgL = ms.flatMap mgL ++ c := by rw [List.flatMap_append, ← h]; simp
  constructor
  · rw [e]
  · unfold ownM; rw [e, e2]
/-- A step that is taken, what it gives made opaque. -/
theorem next_yes (t : TreeI) (T : TreeOk t) (L J : List Int) (s0 : BatS) (hz : stepE t L J = 0) : ∃ (u : TreeS) (NT : List Value) (ep : Int) (l1 l2 : List (Int × Int)) (l3 : List Item), u.1 = nextT t L J ∧ treeF u = NT ∧ NT.length = 236 ∧ NT.all Value.oneCell' = true ∧
    (∀ g1 g2 g3, mgL ((t, L, J), (g1, g2, g3)) = [.int .i64 ep, svOf g1 l1.length, svOf g2 l2.length, svOf g3 l3.length] ∧ mgH ((t, L, J), (g1, g2, g3)) = [ownT g1 l1, ownT g2 l2, ownIt g3 l3]) ∧
    ∀ F', TabA F' → BatF F' L J s0 → FT Tryd.prog 17 [.agg (treeL t).toArray, .agg (batL L J s0).toArray].toArray F' [] (fun e H => ∃ g1 g2 g3, GsOk ((t, L, J), (g1, g2, g3)) ∧
      e = .returned (.tuple #[.agg NT.toArray, .agg #[.int .i64 ep, svOf g1 l1.length, svOf g2 l2.length, svOf g3 l3.length], .int .i64 0]) ∧ H = [ownT g1 l1, ownT g2 l2, ownIt g3 l3]) := by
  obtain ⟨h1, h2⟩ := stepE_zero.1 hz
  have T2 := nextT_ok T h1 h2
  refine ⟨⟨nextT t L J, T2.shaped⟩, treeL (nextT t L J), t.ep + 1, leftL t.rs L, joinedL t.rs L J, itemsN t L J, rfl, rfl, treeL_length T2.shaped, treeL_all _, fun _ _ _ => ⟨rfl, rfl⟩, fun F' ht hb => ?_⟩
  refine (next_ok12 F' ht t T L J s0 hb).mono fun e H h => ?_
  rcases h with ⟨_, g1, g2, g3, k1, k2, k3, rfl, rfl⟩ | ⟨hx, _⟩
  · exact ⟨g1, g2, g3, ⟨k1, k2, k3⟩, rfl, rfl⟩
  · exact absurd hz hx
theorem next_no (t : TreeI) (T : TreeOk t) (L J : List Int) (s0 : BatS) (hz : stepE t L J ≠ 0) : ∃ (ZT : List Value) (er : Int), er ≠ 0 ∧ ZT.length = 236 ∧ ZT.all Value.oneCell' = true ∧
    ∀ F', TabA F' → BatF F' L J s0 → FT Tryd.prog 17 [.agg (treeL t).toArray, .agg (batL L J s0).toArray].toArray F' [] (fun e H => e = .returned (.tuple #[.agg ZT.toArray, .agg rk0.toArray, .int .i64 er]) ∧ H = []) := by
  refine ⟨treeL zeroT, stepE t L J, hz, treeL_length ⟨by decide, by decide⟩, treeL_all _, fun F' ht hb => ?_⟩
  refine (next_ok12 F' ht t T L J s0 hb).mono fun e H h => ?_
  rcases h with ⟨hx, _⟩ | ⟨_, rfl, rfl⟩
  · exact absurd hx hz
  · exact ⟨rfl, rfl⟩
set_option maxHeartbeats 8000000 in
theorem steps_ok (F : Mem) (htab : TabA F) (oa : Option Addr) (ca : Nat) (sc : List BatI) (hS : ScrF F oa sc) :
    FT Tryd.prog 7 [.slice oa sc.length ca].toArray F [] (StepsR sc) := by
  have hex : ∃ (ts0 : TreeS) (TF : List Value), StepsI [] [ts0] [] none ∧ treeF ts0 = TF ∧ TF.length = 236 ∧ ∀ F', FT Tryd.prog 16 [].toArray F' [] (Ret (.agg TF.toArray)) :=
    ⟨⟨startT, startT_ok.shaped⟩, treeL startT, .nil rfl, rfl, treeL_length startT_ok.shaped, rstart_ok⟩
  obtain ⟨ts0, TF, hnil, hTF, hsl, hst⟩ := hex
  have hone : [ts0].flatMap treeF = TF := by simp [hTF]
  have hsn := hS.n
  refine FT.of_body Tryd.func7 rfl Tryd.ntmps7 (by simp) fun C hC => ?_
  subst hC
  conv => whnf
  refine CallS.mk Tryd.call16 ⟨[], _, _, Sub.refl _, fun F' hF' => hst F', ?_⟩
  rintro e A' ⟨rfl, rfl⟩
  conv => whnf
  generalize hD : litCells _ _ _ = D
  obtain rfl : D = some TF := hD.symm.trans (lit_one hsl)
  conv => whnf
  show forceL TF _
  rw [forceL_eq]
  intro bl
  conv => whnf
  have hsub : Sub [.cells bl TF 54 (0, 0)] (ownR (bl, 1) [ts0] :: ownM none [] :: tailH []) := by
    unfold ownR
    rw [hone]
    exact (Sub.own (n := 1) hsl (by decide)).trans (Sub.trans (Sub.nil 33 4) (Sub.sel [1, 0] rfl))
  refine LoopI.by_state (σ := Nat × List TreeS × List MsgG × (Nat × Nat) × Option (Nat × Nat)) (fun s => [(5, svOf (some s.2.2.2.1) s.2.1.length), (6, svOf s.2.2.2.2 s.2.2.1.length), (14, .slice oa sc.length ca), (15, .int .i64 (sc.length : Int)), (16, .int .i64 (s.1 : Int))])
    (fun s => ownR s.2.2.2.1 s.2.1 :: ownM s.2.2.2.2 s.2.2.1 :: tailH s.2.2.1) (fun s => s.1 ≤ sc.length ∧ StepsI (sc.take s.1) s.2.1 s.2.2.1 s.2.2.2.2) (fun s => sc.length - s.1)
    (0, [ts0], [], (bl, 1), none) ⟨Nat.zero_le _, hnil⟩ ⟨rfl, rfl, rfl, rfl, rfl, trivial⟩ hsub ?_
  rintro ⟨i, row, ms, ⟨gb0, gc0⟩, gm⟩ f0 ⟨hi, hI⟩
  dsimp only at hi hI ⊢
  have hR := hI.ok
  obtain ⟨hl1, hl2⟩ := hI.len
  generalize htl : tailH ms = X
  conv => whnf
  refine cond_dec (fun h => ?_) (fun h => ?_)
  · have hil : i < sc.length := by omega
    have hy := hS.sl.at hil
    obtain ⟨yb, yo, rfl, hrow2⟩ := hy
    have hrd := flat_row batF_length hrow2 hil rfl
    have hb := hS.bat _ (List.getElem_mem hil)
    have hlast : row[row.length - 1]? = some (row[row.length - 1]'(by omega)) := List.getElem?_eq_getElem (by omega)
    obtain ⟨hyes, hno⟩ := hI.step hil _ hlast
    have hT := (hR.tree _ _ hlast).1
    have hpart := flat_drop treeF_length row (row.length - 1) (by omega)
    generalize row[row.length - 1]'(by omega) = ts at hlast hyes hno hT hpart
    generalize sc[i] = x at hrd hb hyes hno
    obtain ⟨L, J, s0⟩ := x
    dsimp only at hb hyes hno
    rw [show batF (L, J, s0) = batL L J s0 from rfl] at hrd
    conv => whnf
    refine ⟨by omega, ?_⟩
    conv => whnf
    refine LoadV.fa hrd rfl ?_
    conv => whnf
    intro b8
    conv => whnf
    refine StoreV.c rfl rfl (Nat.le_of_ble_eq_true rfl) rfl ?_
    rcases Decidable.em (stepE ts.1 L J = 0) with hz | hz
    · obtain ⟨u, NT, ep, l1, l2, l3, hu, hNT, hNl, hNa, hmg, hN⟩ := next_yes ts.1 hT L J s0 hz
      refine SL.Late.Tree.drawTC stT [7, 12, 13, 14, 15] [] [] [_, _] [] (fun y : Nat × Nat × Gs => [(5, svOf (some (gb0, gc0)) row.length), (6, svOf gm ms.length), (9, .pointer (some ⟨y.1, 0, none⟩)), (10, .pointer (some ⟨y.2.1, 0, none⟩)), (11, .int .i64 0), (14, .slice (some ⟨yb, yo, none⟩) sc.length ca), (15, .int .i64 (sc.length : Int)), (16, .int .i64 (i : Int))])
        (fun y => ownT y.2.2.1 l1 :: ownT y.2.2.2.1 l2 :: ownIt y.2.2.2.2 l3 :: .cells y.2.1 [.int .i64 ep, svOf y.2.2.1 l1.length, svOf y.2.2.2.1 l2.length, svOf y.2.2.2.2 l3.length] 33 (0, 0) :: .cells y.1 NT 54 (0, 0) :: ownR (gb0, gc0) row :: ownM gm ms :: X) (fun y => GsOk ((ts.1, L, J), y.2.2))
        (by kernel_rfl) (by kernel_rfl) (by kernel_rfl) (by kernel_rfl) (by kernel_rfl) (by kernel_rfl) (by kernel_rfl) (by kernel_rfl) (by kernel_rfl) (Sub.sel [1, 0] rfl) (Sub.sel [] rfl) ?_ ?_
      · conv => whnf
        refine ArI.to64 ((row.length - 1 : Nat) : Int) (by omega) (by omega) ?_
        conv => whnf
        refine ⟨by omega, ?_⟩
        conv => whnf
        refine LoadV.eq (b := gb0) (o := 0 + (row.length - 1) * 236) (by exact congrArg (fun o => (⟨gb0, o, none⟩ : Addr)) (elem_off2 (o := 0) (n := 236) (by kernel_rfl) rfl)) ?_
        refine LoadV.op 236 (treeF ts) rfl (treeF_length ts) (by rw [Nat.zero_add]; exact hpart) ?_
        conv => whnf
        refine LoadV.p 2 (batL L J s0) rfl rfl (Nat.le_of_ble_eq_true rfl) rfl ?_
        conv => whnf
        refine ⟨?_, ?_, ?_, trivial⟩
        · refine CallS.mk Tryd.call17 ⟨[], _, _, Sub.refl _, fun F' hF' => hN F' (htab.ext hF') (hb.ext hF'), ?_⟩
          rintro e A' ⟨g1, g2, g3, hgs, rfl, rfl⟩
          conv => whnf
          try (show forceH X _; rw [forceH_eq]; conv => whnf)
          refine ⟨⟨Sub.sel [4, 3] rfl, fun _ => Sub.sel [] rfl⟩, ?_⟩
          conv => whnf
          refine ⟨?_, ?_, trivial⟩
          · intro b9
            conv => whnf
            try (show forceH X _; rw [forceH_eq]; conv => whnf)
            refine ⟨⟨Sub.sel [5, 4] rfl, fun _ => Sub.sel [] rfl⟩, ?_⟩
            conv => whnf
            refine ⟨?_, trivial⟩
            intro b10
            conv => whnf
            try (show forceH X _; rw [forceH_eq]; conv => whnf)
            refine ⟨⟨Sub.sel [6, 5] rfl, fun _ => Sub.sel [] rfl⟩, ?_⟩
            conv => whnf
            refine ⟨?_, trivial⟩
            refine StoreV.p 236 NT NT rfl hNl rfl (Nat.le_of_ble_eq_true rfl) hNa (by exact putAt_all (by rw [hNl]; rfl)) ?_
            conv => whnf
            try (show forceH X _; rw [forceH_eq]; conv => whnf)
            refine ⟨⟨Sub.sel [6, 5] rfl, fun _ => Sub.sel [] rfl⟩, ?_⟩
            conv => whnf
            refine ⟨?_, trivial⟩
            refine StoreV.c rfl rfl (Nat.le_of_ble_eq_true rfl) rfl ?_
            conv => whnf
            try (show forceH X _; rw [forceH_eq]; conv => whnf)
            refine ⟨⟨Sub.sel [6, 5] rfl, fun _ => Sub.sel [] rfl⟩, ?_⟩
            conv => whnf
            exact ⟨(b9, b10, (g1, g2, g3)), hgs, ⟨rfl, rfl, rfl, rfl, rfl, rfl, rfl, rfl, trivial⟩, Sub.selX (A := [_, _, _, _, _, _, _, _]) [2, 3, 4, 0, 1, 6, 7] rfl⟩
          · intro b10
            conv => whnf
            try (show forceH X _; rw [forceH_eq]; conv => whnf)
            refine ⟨⟨Sub.sel [5, 4] rfl, fun _ => Sub.sel [] rfl⟩, ?_⟩
            conv => whnf
            refine ⟨?_, trivial⟩
            intro b9
            conv => whnf
            try (show forceH X _; rw [forceH_eq]; conv => whnf)
            refine ⟨⟨Sub.sel [6, 5] rfl, fun _ => Sub.sel [] rfl⟩, ?_⟩
            conv => whnf
            refine ⟨?_, trivial⟩
            refine StoreV.p 236 NT NT rfl hNl rfl (Nat.le_of_ble_eq_true rfl) hNa (by exact putAt_all (by rw [hNl]; rfl)) ?_
            conv => whnf
            try (show forceH X _; rw [forceH_eq]; conv => whnf)
            refine ⟨⟨Sub.sel [6, 5] rfl, fun _ => Sub.sel [] rfl⟩, ?_⟩
            conv => whnf
            refine ⟨?_, trivial⟩
            refine StoreV.c rfl rfl (Nat.le_of_ble_eq_true rfl) rfl ?_
            conv => whnf
            try (show forceH X _; rw [forceH_eq]; conv => whnf)
            refine ⟨⟨Sub.sel [6, 5] rfl, fun _ => Sub.sel [] rfl⟩, ?_⟩
            conv => whnf
            exact ⟨(b9, b10, (g1, g2, g3)), hgs, ⟨rfl, rfl, rfl, rfl, rfl, rfl, rfl, rfl, trivial⟩, Sub.selX (A := [_, _, _, _, _, _, _, _]) [2, 3, 4, 1, 0, 6, 7] rfl⟩
        · intro b9
          conv => whnf
          try (show forceH X _; rw [forceH_eq]; conv => whnf)
          refine ⟨⟨Sub.sel [2, 1] rfl, fun _ => Sub.sel [] rfl⟩, ?_⟩
          conv => whnf
          refine ⟨?_, ?_, trivial⟩
          · refine CallS.mk Tryd.call17 ⟨[], _, _, Sub.refl _, fun F' hF' => hN F' (htab.ext hF') (hb.ext hF'), ?_⟩
            rintro e A' ⟨g1, g2, g3, hgs, rfl, rfl⟩
            conv => whnf
            try (show forceH X _; rw [forceH_eq]; conv => whnf)
            refine ⟨⟨Sub.sel [5, 4] rfl, fun _ => Sub.sel [] rfl⟩, ?_⟩
            conv => whnf
            refine ⟨?_, trivial⟩
            intro b10
            conv => whnf
            try (show forceH X _; rw [forceH_eq]; conv => whnf)
            refine ⟨⟨Sub.sel [6, 5] rfl, fun _ => Sub.sel [] rfl⟩, ?_⟩
            conv => whnf
            refine ⟨?_, trivial⟩
            refine StoreV.p 236 NT NT rfl hNl rfl (Nat.le_of_ble_eq_true rfl) hNa (by exact putAt_all (by rw [hNl]; rfl)) ?_
            conv => whnf
            try (show forceH X _; rw [forceH_eq]; conv => whnf)
            refine ⟨⟨Sub.sel [6, 5] rfl, fun _ => Sub.sel [] rfl⟩, ?_⟩
            conv => whnf
            refine ⟨?_, trivial⟩
            refine StoreV.c rfl rfl (Nat.le_of_ble_eq_true rfl) rfl ?_
            conv => whnf
            try (show forceH X _; rw [forceH_eq]; conv => whnf)
            refine ⟨⟨Sub.sel [6, 5] rfl, fun _ => Sub.sel [] rfl⟩, ?_⟩
            conv => whnf
            exact ⟨(b9, b10, (g1, g2, g3)), hgs, ⟨rfl, rfl, rfl, rfl, rfl, rfl, rfl, rfl, trivial⟩, Sub.selX (A := [_, _, _, _, _, _, _, _]) [1, 2, 3, 0, 4, 6, 7] rfl⟩
          · intro b10
            conv => whnf
            try (show forceH X _; rw [forceH_eq]; conv => whnf)
            refine ⟨⟨Sub.sel [3, 2] rfl, fun _ => Sub.sel [] rfl⟩, ?_⟩
            conv => whnf
            refine ⟨?_, trivial⟩
            refine CallS.mk Tryd.call17 ⟨[], _, _, Sub.refl _, fun F' hF' => hN F' (htab.ext hF') (hb.ext hF'), ?_⟩
            rintro e A' ⟨g1, g2, g3, hgs, rfl, rfl⟩
            conv => whnf
            try (show forceH X _; rw [forceH_eq]; conv => whnf)
            refine ⟨⟨Sub.sel [6, 5] rfl, fun _ => Sub.sel [] rfl⟩, ?_⟩
            conv => whnf
            refine ⟨?_, trivial⟩
            refine StoreV.p 236 NT NT rfl hNl rfl (Nat.le_of_ble_eq_true rfl) hNa (by exact putAt_all (by rw [hNl]; rfl)) ?_
            conv => whnf
            try (show forceH X _; rw [forceH_eq]; conv => whnf)
            refine ⟨⟨Sub.sel [6, 5] rfl, fun _ => Sub.sel [] rfl⟩, ?_⟩
            conv => whnf
            refine ⟨?_, trivial⟩
            refine StoreV.c rfl rfl (Nat.le_of_ble_eq_true rfl) rfl ?_
            conv => whnf
            try (show forceH X _; rw [forceH_eq]; conv => whnf)
            refine ⟨⟨Sub.sel [6, 5] rfl, fun _ => Sub.sel [] rfl⟩, ?_⟩
            conv => whnf
            exact ⟨(b9, b10, (g1, g2, g3)), hgs, ⟨rfl, rfl, rfl, rfl, rfl, rfl, rfl, rfl, trivial⟩, Sub.selX (A := [_, _, _, _, _, _, _, _]) [0, 1, 2, 3, 4, 6, 7] rfl⟩
        · intro b10
          conv => whnf
          try (show forceH X _; rw [forceH_eq]; conv => whnf)
          refine ⟨⟨Sub.sel [2, 1] rfl, fun _ => Sub.sel [] rfl⟩, ?_⟩
          conv => whnf
          refine ⟨?_, ?_, trivial⟩
          · refine CallS.mk Tryd.call17 ⟨[], _, _, Sub.refl _, fun F' hF' => hN F' (htab.ext hF') (hb.ext hF'), ?_⟩
            rintro e A' ⟨g1, g2, g3, hgs, rfl, rfl⟩
            conv => whnf
            try (show forceH X _; rw [forceH_eq]; conv => whnf)
            refine ⟨⟨Sub.sel [5, 4] rfl, fun _ => Sub.sel [] rfl⟩, ?_⟩
            conv => whnf
            refine ⟨?_, trivial⟩
            intro b9
            conv => whnf
            try (show forceH X _; rw [forceH_eq]; conv => whnf)
            refine ⟨⟨Sub.sel [6, 5] rfl, fun _ => Sub.sel [] rfl⟩, ?_⟩
            conv => whnf
            refine ⟨?_, trivial⟩
            refine StoreV.p 236 NT NT rfl hNl rfl (Nat.le_of_ble_eq_true rfl) hNa (by exact putAt_all (by rw [hNl]; rfl)) ?_
            conv => whnf
            try (show forceH X _; rw [forceH_eq]; conv => whnf)
            refine ⟨⟨Sub.sel [6, 5] rfl, fun _ => Sub.sel [] rfl⟩, ?_⟩
            conv => whnf
            refine ⟨?_, trivial⟩
            refine StoreV.c rfl rfl (Nat.le_of_ble_eq_true rfl) rfl ?_
            conv => whnf
            try (show forceH X _; rw [forceH_eq]; conv => whnf)
            refine ⟨⟨Sub.sel [6, 5] rfl, fun _ => Sub.sel [] rfl⟩, ?_⟩
            conv => whnf
            exact ⟨(b9, b10, (g1, g2, g3)), hgs, ⟨rfl, rfl, rfl, rfl, rfl, rfl, rfl, rfl, trivial⟩, Sub.selX (A := [_, _, _, _, _, _, _, _]) [1, 2, 3, 4, 0, 6, 7] rfl⟩
          · intro b9
            conv => whnf
            try (show forceH X _; rw [forceH_eq]; conv => whnf)
            refine ⟨⟨Sub.sel [3, 2] rfl, fun _ => Sub.sel [] rfl⟩, ?_⟩
            conv => whnf
            refine ⟨?_, trivial⟩
            refine CallS.mk Tryd.call17 ⟨[], _, _, Sub.refl _, fun F' hF' => hN F' (htab.ext hF') (hb.ext hF'), ?_⟩
            rintro e A' ⟨g1, g2, g3, hgs, rfl, rfl⟩
            conv => whnf
            try (show forceH X _; rw [forceH_eq]; conv => whnf)
            refine ⟨⟨Sub.sel [6, 5] rfl, fun _ => Sub.sel [] rfl⟩, ?_⟩
            conv => whnf
            refine ⟨?_, trivial⟩
            refine StoreV.p 236 NT NT rfl hNl rfl (Nat.le_of_ble_eq_true rfl) hNa (by exact putAt_all (by rw [hNl]; rfl)) ?_
            conv => whnf
            try (show forceH X _; rw [forceH_eq]; conv => whnf)
            refine ⟨⟨Sub.sel [6, 5] rfl, fun _ => Sub.sel [] rfl⟩, ?_⟩
            conv => whnf
            refine ⟨?_, trivial⟩
            refine StoreV.c rfl rfl (Nat.le_of_ble_eq_true rfl) rfl ?_
            conv => whnf
            try (show forceH X _; rw [forceH_eq]; conv => whnf)
            refine ⟨⟨Sub.sel [6, 5] rfl, fun _ => Sub.sel [] rfl⟩, ?_⟩
            conv => whnf
            exact ⟨(b9, b10, (g1, g2, g3)), hgs, ⟨rfl, rfl, rfl, rfl, rfl, rfl, rfl, rfl, trivial⟩, Sub.selX (A := [_, _, _, _, _, _, _, _]) [0, 1, 2, 4, 3, 6, 7] rfl⟩
      · rintro ⟨b9, b10, g1, g2, g3⟩ f1 hgs
        dsimp only at hgs ⊢
        have hst2 := hyes hz u (g1, g2, g3)
        obtain ⟨hmg1, hmg2⟩ := hmg g1 g2 g3
        conv => whnf
        refine LoadV.p 236 NT rfl hNl (by show 0 + 236 ≤ NT.length; omega) (take_all0 hNl) ?_
        conv => whnf
        generalize hD : litCells _ _ _ = D
        obtain rfl : D = some NT := hD.symm.trans (lit_one hNl)
        clear hD
        conv => whnf
        show forceL NT _
        rw [forceL_eq]
        intro bl2
        conv => whnf
        try (show forceH X _; rw [forceH_eq]; conv => whnf)
        refine BuiltV.append (sv := svOf (some (gb0, gc0)) row.length) (m := 1) Tryd.underlying25 rfl rfl rfl rfl (by decide) row_own hNl (by decide) hNa (by show (row.length + 1) * 1888 ≤ _; omega) (by omega) fun gb gc => ?_
        conv => whnf
        try (show forceH X _; rw [forceH_eq]; conv => whnf)
        refine LoadV.p 4 [.int .i64 ep, svOf g1 l1.length, svOf g2 l2.length, svOf g3 l3.length] rfl rfl (Nat.le_of_ble_eq_true rfl) rfl ?_
        conv => whnf
        intro bl3
        conv => whnf
        try (show forceH X _; rw [forceH_eq]; conv => whnf)
        refine BuiltV.append (sv := svOf gm ms.length) (m := 1) Tryd.underlying26 rfl rfl rfl rfl (by decide) (Row.cells 4) rfl (by decide) rfl (by show (ms.length + 1) * 80 ≤ _; omega) (by omega) fun gb2 gc2 => ?_
        conv => whnf
        try (show forceH X _; rw [forceH_eq]; conv => whnf)
        refine ArI.to64 ((i + 1 : Nat) : Int) (by omega) (by omega) ?_
        conv => whnf
        refine ⟨(i + 1, row ++ [u], ms ++ [((ts.1, L, J), (g1, g2, g3))], (gb, gc), some (gb2, gc2)), _, by dsimp only; omega, Sub.selX (A := [_, _, _, _, _, _, _, _, _]) [7, 8, 2, 3, 4] rfl, ⟨by dsimp only; omega, hst2 (gb2, gc2) hu hgs⟩, ⟨?_, ?_, rfl, rfl, rfl, trivial⟩, ?_⟩
        · dsimp only; rw [(own_row row u hNT gb gc).1]; rfl
        · dsimp only; rw [(own_msg ms _ hmg1 gb2 gc2).1]; rfl
        · dsimp only; rw [(own_row row u hNT gb gc).2, (own_msg ms _ hmg1 gb2 gc2).2, tailH_snoc, hmg2, htl]; rfl
    · obtain ⟨NT, er, her, hNl, hNa, hN⟩ := next_no ts.1 hT L J s0 hz
      have hst2 := hno hz
      rw [show rk0 = [.int .i64 0, .slice none 0 0, .slice none 0 0, .slice none 0 0] from rfl] at hN
      refine SL.Late.Tree.drawTC stT [7, 12, 13, 14, 15] [] [] [_, _] [] (fun y : Nat × Nat => [(5, svOf (some (gb0, gc0)) row.length), (6, svOf gm ms.length), (9, .pointer (some ⟨y.1, 0, none⟩)), (10, .pointer (some ⟨y.2, 0, none⟩)), (11, .int .i64 er), (14, .slice (some ⟨yb, yo, none⟩) sc.length ca), (15, .int .i64 (sc.length : Int)), (16, .int .i64 (i : Int))])
        (fun _ => ownR (gb0, gc0) row :: ownM gm ms :: X) (fun _ => True)
        (by kernel_rfl) (by kernel_rfl) (by kernel_rfl) (by kernel_rfl) (by kernel_rfl) (by kernel_rfl) (by kernel_rfl) (by kernel_rfl) (by kernel_rfl) (Sub.sel [1, 0] rfl) (Sub.sel [] rfl) ?_ ?_
      · conv => whnf
        refine ArI.to64 ((row.length - 1 : Nat) : Int) (by omega) (by omega) ?_
        conv => whnf
        refine ⟨by omega, ?_⟩
        conv => whnf
        refine LoadV.eq (b := gb0) (o := 0 + (row.length - 1) * 236) (by exact congrArg (fun o => (⟨gb0, o, none⟩ : Addr)) (elem_off2 (o := 0) (n := 236) (by kernel_rfl) rfl)) ?_
        refine LoadV.op 236 (treeF ts) rfl (treeF_length ts) (by rw [Nat.zero_add]; exact hpart) ?_
        conv => whnf
        refine LoadV.p 2 (batL L J s0) rfl rfl (Nat.le_of_ble_eq_true rfl) rfl ?_
        conv => whnf
        refine ⟨?_, ?_, ?_, trivial⟩
        · refine CallS.mk Tryd.call17 ⟨[], _, _, Sub.refl _, fun F' hF' => hN F' (htab.ext hF') (hb.ext hF'), ?_⟩
          rintro e A' ⟨rfl, rfl⟩
          conv => whnf
          try (show forceH X _; rw [forceH_eq]; conv => whnf)
          refine ⟨⟨Sub.sel [1, 0] rfl, fun _ => Sub.sel [] rfl⟩, ?_⟩
          conv => whnf
          refine ⟨?_, ?_, trivial⟩
          · intro b9
            conv => whnf
            try (show forceH X _; rw [forceH_eq]; conv => whnf)
            refine ⟨⟨Sub.sel [2, 1] rfl, fun _ => Sub.sel [] rfl⟩, ?_⟩
            conv => whnf
            refine ⟨?_, trivial⟩
            intro b10
            conv => whnf
            try (show forceH X _; rw [forceH_eq]; conv => whnf)
            refine ⟨⟨Sub.sel [3, 2] rfl, fun _ => Sub.sel [] rfl⟩, ?_⟩
            conv => whnf
            refine ⟨?_, trivial⟩
            refine StoreV.p 236 NT NT rfl hNl rfl (Nat.le_of_ble_eq_true rfl) hNa (by exact putAt_all (by rw [hNl]; rfl)) ?_
            conv => whnf
            try (show forceH X _; rw [forceH_eq]; conv => whnf)
            refine ⟨⟨Sub.sel [3, 2] rfl, fun _ => Sub.sel [] rfl⟩, ?_⟩
            conv => whnf
            refine ⟨?_, trivial⟩
            refine StoreV.c rfl rfl (Nat.le_of_ble_eq_true rfl) rfl ?_
            conv => whnf
            try (show forceH X _; rw [forceH_eq]; conv => whnf)
            refine ⟨⟨Sub.sel [3, 2] rfl, fun _ => Sub.sel [] rfl⟩, ?_⟩
            conv => whnf
            exact ⟨(b9, b10), trivial, ⟨rfl, rfl, rfl, rfl, rfl, rfl, rfl, rfl, trivial⟩, Sub.selX (A := [_, _, _, _, _]) [3, 4] rfl⟩
          · intro b10
            conv => whnf
            try (show forceH X _; rw [forceH_eq]; conv => whnf)
            refine ⟨⟨Sub.sel [2, 1] rfl, fun _ => Sub.sel [] rfl⟩, ?_⟩
            conv => whnf
            refine ⟨?_, trivial⟩
            intro b9
            conv => whnf
            try (show forceH X _; rw [forceH_eq]; conv => whnf)
            refine ⟨⟨Sub.sel [3, 2] rfl, fun _ => Sub.sel [] rfl⟩, ?_⟩
            conv => whnf
            refine ⟨?_, trivial⟩
            refine StoreV.p 236 NT NT rfl hNl rfl (Nat.le_of_ble_eq_true rfl) hNa (by exact putAt_all (by rw [hNl]; rfl)) ?_
            conv => whnf
            try (show forceH X _; rw [forceH_eq]; conv => whnf)
            refine ⟨⟨Sub.sel [3, 2] rfl, fun _ => Sub.sel [] rfl⟩, ?_⟩
            conv => whnf
            refine ⟨?_, trivial⟩
            refine StoreV.c rfl rfl (Nat.le_of_ble_eq_true rfl) rfl ?_
            conv => whnf
            try (show forceH X _; rw [forceH_eq]; conv => whnf)
            refine ⟨⟨Sub.sel [3, 2] rfl, fun _ => Sub.sel [] rfl⟩, ?_⟩
            conv => whnf
            exact ⟨(b9, b10), trivial, ⟨rfl, rfl, rfl, rfl, rfl, rfl, rfl, rfl, trivial⟩, Sub.selX (A := [_, _, _, _, _]) [3, 4] rfl⟩
        · intro b9
          conv => whnf
          try (show forceH X _; rw [forceH_eq]; conv => whnf)
          refine ⟨⟨Sub.sel [2, 1] rfl, fun _ => Sub.sel [] rfl⟩, ?_⟩
          conv => whnf
          refine ⟨?_, ?_, trivial⟩
          · refine CallS.mk Tryd.call17 ⟨[], _, _, Sub.refl _, fun F' hF' => hN F' (htab.ext hF') (hb.ext hF'), ?_⟩
            rintro e A' ⟨rfl, rfl⟩
            conv => whnf
            try (show forceH X _; rw [forceH_eq]; conv => whnf)
            refine ⟨⟨Sub.sel [2, 1] rfl, fun _ => Sub.sel [] rfl⟩, ?_⟩
            conv => whnf
            refine ⟨?_, trivial⟩
            intro b10
            conv => whnf
            try (show forceH X _; rw [forceH_eq]; conv => whnf)
            refine ⟨⟨Sub.sel [3, 2] rfl, fun _ => Sub.sel [] rfl⟩, ?_⟩
            conv => whnf
            refine ⟨?_, trivial⟩
            refine StoreV.p 236 NT NT rfl hNl rfl (Nat.le_of_ble_eq_true rfl) hNa (by exact putAt_all (by rw [hNl]; rfl)) ?_
            conv => whnf
            try (show forceH X _; rw [forceH_eq]; conv => whnf)
            refine ⟨⟨Sub.sel [3, 2] rfl, fun _ => Sub.sel [] rfl⟩, ?_⟩
            conv => whnf
            refine ⟨?_, trivial⟩
            refine StoreV.c rfl rfl (Nat.le_of_ble_eq_true rfl) rfl ?_
            conv => whnf
            try (show forceH X _; rw [forceH_eq]; conv => whnf)
            refine ⟨⟨Sub.sel [3, 2] rfl, fun _ => Sub.sel [] rfl⟩, ?_⟩
            conv => whnf
            exact ⟨(b9, b10), trivial, ⟨rfl, rfl, rfl, rfl, rfl, rfl, rfl, rfl, trivial⟩, Sub.selX (A := [_, _, _, _, _]) [3, 4] rfl⟩
          · intro b10
            conv => whnf
            try (show forceH X _; rw [forceH_eq]; conv => whnf)
            refine ⟨⟨Sub.sel [3, 2] rfl, fun _ => Sub.sel [] rfl⟩, ?_⟩
            conv => whnf
            refine ⟨?_, trivial⟩
            refine CallS.mk Tryd.call17 ⟨[], _, _, Sub.refl _, fun F' hF' => hN F' (htab.ext hF') (hb.ext hF'), ?_⟩
            rintro e A' ⟨rfl, rfl⟩
            conv => whnf
            try (show forceH X _; rw [forceH_eq]; conv => whnf)
            refine ⟨⟨Sub.sel [3, 2] rfl, fun _ => Sub.sel [] rfl⟩, ?_⟩
            conv => whnf
            refine ⟨?_, trivial⟩
            refine StoreV.p 236 NT NT rfl hNl rfl (Nat.le_of_ble_eq_true rfl) hNa (by exact putAt_all (by rw [hNl]; rfl)) ?_
            conv => whnf
            try (show forceH X _; rw [forceH_eq]; conv => whnf)
            refine ⟨⟨Sub.sel [3, 2] rfl, fun _ => Sub.sel [] rfl⟩, ?_⟩
            conv => whnf
            refine ⟨?_, trivial⟩
            refine StoreV.c rfl rfl (Nat.le_of_ble_eq_true rfl) rfl ?_
            conv => whnf
            try (show forceH X _; rw [forceH_eq]; conv => whnf)
            refine ⟨⟨Sub.sel [3, 2] rfl, fun _ => Sub.sel [] rfl⟩, ?_⟩
            conv => whnf
            exact ⟨(b9, b10), trivial, ⟨rfl, rfl, rfl, rfl, rfl, rfl, rfl, rfl, trivial⟩, Sub.selX (A := [_, _, _, _, _]) [3, 4] rfl⟩
        · intro b10
          conv => whnf
          try (show forceH X _; rw [forceH_eq]; conv => whnf)
          refine ⟨⟨Sub.sel [2, 1] rfl, fun _ => Sub.sel [] rfl⟩, ?_⟩
          conv => whnf
          refine ⟨?_, ?_, trivial⟩
          · refine CallS.mk Tryd.call17 ⟨[], _, _, Sub.refl _, fun F' hF' => hN F' (htab.ext hF') (hb.ext hF'), ?_⟩
            rintro e A' ⟨rfl, rfl⟩
            conv => whnf
            try (show forceH X _; rw [forceH_eq]; conv => whnf)
            refine ⟨⟨Sub.sel [2, 1] rfl, fun _ => Sub.sel [] rfl⟩, ?_⟩
            conv => whnf
            refine ⟨?_, trivial⟩
            intro b9
            conv => whnf
            try (show forceH X _; rw [forceH_eq]; conv => whnf)
            refine ⟨⟨Sub.sel [3, 2] rfl, fun _ => Sub.sel [] rfl⟩, ?_⟩
            conv => whnf
            refine ⟨?_, trivial⟩
            refine StoreV.p 236 NT NT rfl hNl rfl (Nat.le_of_ble_eq_true rfl) hNa (by exact putAt_all (by rw [hNl]; rfl)) ?_
            conv => whnf
            try (show forceH X _; rw [forceH_eq]; conv => whnf)
            refine ⟨⟨Sub.sel [3, 2] rfl, fun _ => Sub.sel [] rfl⟩, ?_⟩
            conv => whnf
            refine ⟨?_, trivial⟩
            refine StoreV.c rfl rfl (Nat.le_of_ble_eq_true rfl) rfl ?_
            conv => whnf
            try (show forceH X _; rw [forceH_eq]; conv => whnf)
            refine ⟨⟨Sub.sel [3, 2] rfl, fun _ => Sub.sel [] rfl⟩, ?_⟩
            conv => whnf
            exact ⟨(b9, b10), trivial, ⟨rfl, rfl, rfl, rfl, rfl, rfl, rfl, rfl, trivial⟩, Sub.selX (A := [_, _, _, _, _]) [3, 4] rfl⟩
          · intro b9
            conv => whnf
            try (show forceH X _; rw [forceH_eq]; conv => whnf)
            refine ⟨⟨Sub.sel [3, 2] rfl, fun _ => Sub.sel [] rfl⟩, ?_⟩
            conv => whnf
            refine ⟨?_, trivial⟩
            refine CallS.mk Tryd.call17 ⟨[], _, _, Sub.refl _, fun F' hF' => hN F' (htab.ext hF') (hb.ext hF'), ?_⟩
            rintro e A' ⟨rfl, rfl⟩
            conv => whnf
            try (show forceH X _; rw [forceH_eq]; conv => whnf)
            refine ⟨⟨Sub.sel [3, 2] rfl, fun _ => Sub.sel [] rfl⟩, ?_⟩
            conv => whnf
            refine ⟨?_, trivial⟩
            refine StoreV.p 236 NT NT rfl hNl rfl (Nat.le_of_ble_eq_true rfl) hNa (by exact putAt_all (by rw [hNl]; rfl)) ?_
            conv => whnf
            try (show forceH X _; rw [forceH_eq]; conv => whnf)
            refine ⟨⟨Sub.sel [3, 2] rfl, fun _ => Sub.sel [] rfl⟩, ?_⟩
            conv => whnf
            refine ⟨?_, trivial⟩
            refine StoreV.c rfl rfl (Nat.le_of_ble_eq_true rfl) rfl ?_
            conv => whnf
            try (show forceH X _; rw [forceH_eq]; conv => whnf)
            refine ⟨⟨Sub.sel [3, 2] rfl, fun _ => Sub.sel [] rfl⟩, ?_⟩
            conv => whnf
            exact ⟨(b9, b10), trivial, ⟨rfl, rfl, rfl, rfl, rfl, rfl, rfl, rfl, trivial⟩, Sub.selX (A := [_, _, _, _, _]) [3, 4] rfl⟩
      · rintro ⟨b9, b10⟩ f1 -
        dsimp only
        have hne : (er != 0) = true := bne_iff_ne.2 her
        conv => whnf
        rw [hne]
        conv => whnf
        refine ArI.to64 ((i + 1 : Nat) : Int) (by omega) (by omega) ?_
        conv => whnf
        exact ⟨(i + 1, row, ms, (gb0, gc0), gm), _, by dsimp only; omega, Sub.refl _, ⟨by dsimp only; omega, hst2⟩, ⟨rfl, rfl, rfl, rfl, rfl, trivial⟩, by dsimp only; rw [htl]⟩
  · obtain rfl : i = sc.length := by omega
    rw [List.take_length] at hI
    conv => whnf
    have hrr := fun F' (h : SlF F' 236 (oaOf (some (gb0, gc0))) row.length (row.flatMap treeF)) => rowRight_ok F' _ gc0 row h hR
    have hrl : (row.flatMap treeF).length = row.length * 236 := flat_length treeF_length row
    refine CallS.mk Tryd.call18 ⟨[], _, _, Sub.refl _, fun F' hF' => hrr F' (SlF.sv hF' hrl (by intro h; cases h)), ?_⟩
    rintro e A' ⟨rfl, rfl⟩
    conv => whnf
    try (show forceH X _; rw [forceH_eq]; conv => whnf)
    refine RetI.three Tryd.results7 rfl rfl rfl ?_
    conv => whnf
    exact ⟨_, Sub.refl _, row, ms, (gb0, gc0), gm, hI, rfl, by rw [htl]⟩
end Go.Proofs.YtlfmckjehjedpaaDoor

/- The script that lives. -/
namespace Go.Proofs.YtlfmckjehjedpaaDoor
set_option linter.unusedVariables false
set_option linter.unusedSimpArgs false
set_option maxRecDepth 100000
open SL Go.RowKit Go.Maps
theorem lives_run {x : BatI} (hx : batI x = ([], [1, 2])) {row : List TreeS} {ms : List MsgG} {gm : Option (Nat × Nat)} (h : StepsI [x] row ms gm) : row.length = 2 ∧ ∃ m g, ms = [m] ∧ gm = some g ∧ (itemsN m.1.1 m.1.2.1 m.1.2.2).length = 6 := by
  have h1 := h.hrow
  have h2 := h.hms
  rw [show [x].map batI = [([], [1, 2])] by rw [← hx]; rfl] at h1 h2
  have e1 := congrArg List.length h1
  rw [List.length_map, lives_row] at e1
  have e2 := h.len.1
  match ms, e2, h2, h.gm with
  | [m], _, h2, hg =>
    have e3 := lives_items
    rw [← h2] at e3
    simp only [List.map_cons, List.map_nil, List.cons.injEq, and_true] at e3
    refine ⟨e1, m, ?_⟩
    cases gm with
    | none => exact absurd (hg.1 rfl) (by simp)
    | some g => exact ⟨g, rfl, rfl, e3⟩
  | [], e2, _, _ => simp at e2; omega
  | _ :: _ :: _, e2, _, _ => simp at e2; omega
set_option maxHeartbeats 2000000 in
theorem lives12_ok (F : Mem) (htab : TabA F) : FT Tryd.prog 6 [].toArray F [] (Ret (.bool true)) := by
  refine FT.of_body Tryd.func6 rfl Tryd.ntmps6 (by simp) fun C hC => ?_
  subst hC
  conv => whnf
  intro bj
  conv => whnf
  intro bs
  conv => whnf
  refine CallS.mk Tryd.call7 ⟨[], _, _, Sub.refl _, fun F' hF' => steps_ok F' (htab.ext hF') (some ⟨bs, 0, none⟩) 1 [([], [1, 2], ⟨none, 0, some ⟨bj, 0, none⟩, 2⟩)] ?_, ?_⟩
  · refine ⟨SlF.cells hF' rfl, fun x hx => ?_, by show 1 ≤ 140737488355328; decide⟩
    simp only [List.mem_singleton] at hx
    subst hx
    exact ⟨SlF.nil, SlF.cells hF' rfl, by simp, by intro w hw; simp at hw; unfold I64; omega, by show 0 ≤ 140737488355328; decide, by show 2 ≤ 140737488355328; decide⟩
  rintro e A' ⟨row, ms, gr, gm, hI, rfl, rfl⟩
  obtain ⟨hl, m, ⟨gb, gc⟩, rfl, rfl, h6⟩ := lives_run rfl hI
  unfold ownR
  rw [hl]
  generalize row.flatMap treeF = RL
  conv => whnf
  refine ⟨⟨by decide, by show (0 : Int) < 1; decide⟩, ?_⟩
  conv => whnf
  refine LoadV.os rfl rfl ?_
  conv => whnf
  rw [show svOf m.2.2.2 (itemsN m.1.1 m.1.2.1 m.1.2.2).length = svOf m.2.2.2 6 by rw [h6]]
  conv => whnf
  repeat (first | (refine LoadV.s rfl rfl (forceV_of ?_); conv => whnf) | (refine LoadV.s rfl rfl ?_; conv => whnf) | (refine StoreV.c rfl rfl (Nat.le_of_ble_eq_true rfl) rfl ?_; conv => whnf) | (refine LoadV.a _ rfl (Nat.le_of_ble_eq_true rfl) ?_; conv => whnf) | (refine DrawI.quiet (by kernel_rfl) (by kernel_rfl) ?_; conv => whnf) | (refine ArI.in64 (by omega) ?_; conv => whnf) | (refine ArI.inU8 (by omega) ?_; conv => whnf) | (refine ArI.inU64 (by omega) ?_; conv => whnf) | (refine ArI.inU32 (by omega) ?_; conv => whnf) | (refine RetI.one Tryd.results6 rfl ?_; conv => whnf) | (refine RetI.two Tryd.results6 rfl rfl ?_; conv => whnf) | (refine RetI.three Tryd.results6 rfl rfl rfl ?_; conv => whnf) | (refine RetI.none Tryd.results6 ?_; conv => whnf) | (refine ⟨by first | decide | omega, ?_⟩; conv => whnf))
  exact ⟨_, Sub.sel [] rfl, ret_bool (by rw [h6]; rfl), rfl⟩
end Go.Proofs.YtlfmckjehjedpaaDoor

/- Keys along a row: plain laws. -/
namespace Go.Proofs.YtlfmckjehjedpaaDoor
set_option linter.unusedVariables false
set_option linter.unusedSimpArgs false
set_option maxRecDepth 100000
open SL Go.RowKit Go.Maps
/-- The person sits there. -/
def Sits (t : TreeI) (w : Int) (q : Nat) : Prop := ∃ h : q < t.rs.length, tk t.rs[q] ∧ t.rs[q].1 = w
theorem Sits.find {t : TreeI} (T : TreeOk t) {w : Int} {q : Nat} (h : Sits t w q) : findI t.rs w 0 = (q : Int) := by
  obtain ⟨hq, ht, rfl⟩ := h
  exact find_at T.R.who hq ht
theorem Sits.of {t : TreeI} {w : Int} (h : 0 ≤ findI t.rs w 0) : ∃ q : Nat, findI t.rs w 0 = (q : Int) ∧ Sits t w q := by
  obtain ⟨i, hi, h1, h2, h3⟩ := find_on h
  exact ⟨i, h1, hi, h2, h3⟩
theorem Sits.lt {t : TreeI} (T : TreeOk t) {w : Int} {q : Nat} (h : Sits t w q) : q < 64 := by
  obtain ⟨hq, _⟩ := h
  have := T.R.len
  omega
/-- Who is not among those who leave stays. -/
theorem Sits.stay {t : TreeI} (T : TreeOk t) {L J : List Int} (hep : t.ep ≠ 200) (hf : Fit t.rs L J) {w : Int} {q : Nat} (h : Sits t w q) (hw : w ∉ L) : Sits (nextT t L J) w q ∧ (nextT t L J).rs[q]? = t.rs[q]? := by
  have hq64 := h.lt T
  obtain ⟨hq, ht, he⟩ := h
  have hq2 : q < (leaveR t.rs L).length := by rw [leaveR_length]; exact hq
  have hat : (leaveR t.rs L)[q] = t.rs[q] := by
    rw [leaveR_at _ _ q hq, if_neg fun hh => hw (by rw [← he]; exact hh.2)]
  have hml : (nextT t L J).rs.length = 64 := (nextT_ok T hep hf).R.len
  rcases moveR_at T.R hf (t.ep + 1) (t.fr + (cntN (repT t L) 21 : Nat)) q hq64 with ⟨h1, _⟩ | ⟨j, hj, h1, _⟩
  · have h2 : (nextT t L J).rs[q]? = t.rs[q]? := by
      show (moveR t.rs L J _ _)[q]? = _
      rw [h1, List.getElem?_eq_getElem hq2, hat, List.getElem?_eq_getElem hq]
    refine ⟨⟨by omega, ?_⟩, h2⟩
    rw [List.getElem?_eq_getElem (by omega), List.getElem?_eq_getElem hq] at h2
    have h3 := Option.some.inj h2
    rw [h3]; exact ⟨ht, he⟩
  · have hm := List.mem_of_getElem? h1
    obtain ⟨_, hnt⟩ := (mem_free (by rw [leaveR_length]; exact T.R.len)).1 hm
    exact absurd (by rw [hat]; exact ht) hnt
theorem HasK.base {t : TreeI} (T : TreeOk t) {n : Nat} (h : HasK t n) : (nodeK t n).1 < t.fr ∧ n < 85 := by
  rcases h with h | ⟨s, hs, rfl, ht⟩
  · have hl : n < t.ks.length := by rw [T.K.len]; exact h
    rw [nodeK_inner hl h]
    exact ⟨(T.K.rng _ (List.getElem_mem hl)).2.1, by omega⟩
  · rw [nodeK_leaf hs]
    have := T.R.len
    exact ⟨(T.R.tk_rng (List.getElem_mem hs) ht).2.1.2, by omega⟩
theorem HasK.same {t : TreeI} (T : TreeOk t) {n m : Nat} (h : HasK t n) (k : HasK t m) (e : (nodeK t n).1 = (nodeK t m).1) : n = m := by
  rcases h with h | ⟨s, hs, rfl, ht⟩ <;> rcases k with k | ⟨r, hr, rfl, hu⟩
  · have hl : n < t.ks.length := by rw [T.K.len]; exact h
    have hl2 : m < t.ks.length := by rw [T.K.len]; exact k
    rw [nodeK_inner hl h, nodeK_inner hl2 k] at e
    exact T.K.dist n m hl hl2 trivial trivial e
  · have hl : n < t.ks.length := by rw [T.K.len]; exact h
    rw [nodeK_inner hl h, nodeK_leaf hr] at e
    exact absurd e (T.kr _ (List.getElem_mem hl) _ (List.getElem_mem hr))
  · have hl : m < t.ks.length := by rw [T.K.len]; exact k
    rw [nodeK_inner hl k, nodeK_leaf hs] at e
    exact absurd e.symm (T.kr _ (List.getElem_mem hl) _ (List.getElem_mem hs))
  · rw [nodeK_leaf hs, nodeK_leaf hr] at e
    rw [T.R.base s r hs hr ht hu e]
/-- An old base: the node was not replaced, and who sits below it stays. -/
theorem base_old {t : TreeI} (T : TreeOk t) {L J : List Int} (he : t.ep ≠ 200) (hf : Fit t.rs L J) {n : Nat} (h : HasK (nextT t L J) n) (hb : (nodeK (nextT t L J) n).1 < t.fr) :
    HasK t n ∧ (nodeK t n).1 = (nodeK (nextT t L J) n).1 ∧ (nodeK (nextT t L J) n).2 = (nodeK t n).2 + 1 ∧ ∀ w q, under n q = true → Sits t w q → Sits (nextT t L J) w q := by
  have T2 := nextT_ok T he hf
  rcases h with h | ⟨s, hs, rfl, ht⟩
  · have hl : n < t.ks.length := by rw [T.K.len]; exact h
    have hl2 : n < (nextT t L J).ks.length := by rw [T2.K.len]; exact h
    rw [nodeK_inner hl2 h] at hb ⊢
    rw [nodeK_inner hl h]
    have e : (nextT t L J).ks[n] = newKey (repT t L) t.fr n t.ks[n] := turnK_at _ _ _ n hl
    rw [e] at hb ⊢
    unfold newKey at hb ⊢
    by_cases hp : repT t L n = true
    · rw [if_pos hp] at hb; dsimp only at hb; omega
    · rw [if_neg hp]
      refine ⟨.inl h, rfl, rfl, fun w q hu hs => (hs.stay T he hf fun hw => hp ?_).1⟩
      have hfi := hs.find T
      unfold repT repP
      rw [List.any_eq_true]
      refine ⟨(w, findI t.rs w 0), List.mem_map.2 ⟨w, hw, rfl⟩, ?_⟩
      dsimp only
      rw [hfi, Int.toNat_natCast]; exact hu
  · have hs64 : s < 64 := by have := T2.R.len; omega
    have hst : s < t.rs.length := by have := T.R.len; omega
    rw [nodeK_leaf hs] at hb ⊢
    have hq2 : s < (leaveR t.rs L).length := by rw [leaveR_length]; exact hst
    rcases moveR_at T.R hf (t.ep + 1) (t.fr + (cntN (repT t L) 21 : Nat)) s hs64 with ⟨h1, _⟩ | ⟨j, hj, _, h1⟩
    · have h2 : (nextT t L J).rs[s]? = (leaveR t.rs L)[s]? := h1
      rw [List.getElem?_eq_getElem hs, List.getElem?_eq_getElem hq2] at h2
      have h3 := Option.some.inj h2
      rw [leaveR_at _ _ s hst] at h3
      by_cases hc : tkB t.rs[s] = true ∧ t.rs[s].1 ∈ L
      · rw [if_pos hc] at h3; rw [h3] at ht; exact absurd rfl ht
      · rw [if_neg hc] at h3
        have ht' : tk t.rs[s] := by rw [← h3]; exact ht
        rw [nodeK_leaf hst, h3]
        refine ⟨.inr ⟨s, hst, rfl, ht'⟩, rfl, ?_, fun w q hu hsit => ?_⟩
        · show t.ep + 1 - t.rs[s].2.2 = t.ep - t.rs[s].2.2 + 1
          omega
        · have hq64 := hsit.lt T
          rw [under_leaf hs64 hq64] at hu
          obtain rfl : s = q := of_decide_eq_true hu
          obtain ⟨_, _, hw⟩ := hsit
          exact ⟨hs, by rw [h3]; exact ⟨ht', hw⟩⟩
    · have h2 : (nextT t L J).rs[s]? = some (J[j], t.fr + (cntN (repT t L) 21 : Nat) + (j : Nat), t.ep + 1) := h1
      rw [List.getElem?_eq_getElem hs] at h2
      have h3 := Option.some.inj h2
      rw [h3] at hb
      have : t.fr + (cntN (repT t L) 21 : Nat) + (j : Nat) < t.fr := hb
      omega
theorem fr_mono {row : List TreeS} (R : RowOk row) {i : Nat} {t : TreeS} (h : row[i]? = some t) : ∀ (d : Nat) (u : TreeS), row[i + d]? = some u → t.1.fr ≤ u.1.fr
  | 0, u, hu => by rw [Nat.add_zero, h] at hu; cases hu; exact Int.le_refl _
  | d + 1, u, hu => by
    have hlt := (List.getElem?_eq_some_iff.1 hu).1
    have hm : row[i + d]? = some row[i + d] := List.getElem?_eq_getElem (by omega)
    have h1 := fr_mono R h d _ hm
    obtain ⟨L, J, _, _, h4⟩ := R.step (i + d) _ u hm hu
    rw [h4]
    show t.1.fr ≤ row[i + d].1.fr + (cntN _ 21 : Nat) + (J.length : Nat)
    omega
theorem keep_key {row : List TreeS} (R : RowOk row) {i : Nat} {t : TreeS} (h : row[i]? = some t) : ∀ (d : Nat) (u : TreeS), row[i + d]? = some u → ∀ n, HasK u.1 n → (nodeK u.1 n).1 < t.1.fr →
    HasK t.1 n ∧ (nodeK t.1 n).1 = (nodeK u.1 n).1 ∧ (nodeK u.1 n).2 = (nodeK t.1 n).2 + (d : Int) ∧ ∀ w q, under n q = true → Sits t.1 w q → ∀ (l : Nat) (tl : TreeS), i ≤ l → l ≤ i + d → row[l]? = some tl → Sits tl.1 w q
  | 0, u, hu, n, hk, hb => by
    rw [Nat.add_zero, h] at hu; cases hu
    refine ⟨hk, rfl, by omega, fun w q _ hs l tl h1 h2 h3 => ?_⟩
    obtain rfl : l = i := by omega
    rw [h] at h3; cases h3; exact hs
  | d + 1, u, hu, n, hk, hb => by
    have hlt := (List.getElem?_eq_some_iff.1 hu).1
    have hm : row[i + d]? = some row[i + d] := List.getElem?_eq_getElem (by omega)
    have hfr := fr_mono R h d _ hm
    have Tm := (R.tree _ _ hm).1
    obtain ⟨L, J, h2, h3, h4⟩ := R.step (i + d) _ u hm hu
    rw [h4] at hk hb
    obtain ⟨k1, k2, k3, k4⟩ := base_old Tm h2 h3 hk (by omega)
    obtain ⟨j1, j2, j3, j4⟩ := keep_key R h d _ hm n k1 (by omega)
    rw [h4]
    refine ⟨j1, j2.trans k2, by rw [k3, j3]; omega, fun w q hu2 hs l tl h5 h6 h7 => ?_⟩
    by_cases e : l = i + (d + 1)
    · subst e
      rw [hu] at h7; cases h7
      rw [h4]
      exact k4 w q hu2 (j4 w q hu2 hs (i + d) _ (by omega) (by omega) hm)
    · exact j4 w q hu2 hs l tl h5 (by omega) h7
/-- The same base, no earlier step: the same node, no earlier epoch, and who sat below it stayed. -/
theorem same_key {row : List TreeS} (R : RowOk row) {i j n m : Nat} {t u : TreeS} (hi : row[i]? = some t) (hj : row[j]? = some u) (hn : HasK t.1 n) (hm : HasK u.1 m) (hb : (nodeK u.1 m).1 = (nodeK t.1 n).1) (hs : (nodeK t.1 n).2 ≤ (nodeK u.1 m).2) :
    n = m ∧ i ≤ j ∧ ∀ w q, under n q = true → Sits t.1 w q → ∀ (l : Nat) (tl : TreeS), i ≤ l → l ≤ j → row[l]? = some tl → Sits tl.1 w q := by
  have T := (R.tree _ _ hi).1
  have U := (R.tree _ _ hj).1
  by_cases hij : i ≤ j
  · obtain ⟨d, rfl⟩ : ∃ d, j = i + d := ⟨j - i, by omega⟩
    obtain ⟨k1, k2, k3, k4⟩ := keep_key R hi d u hj m hm (by rw [hb]; exact (hn.base T).1)
    obtain rfl : n = m := hn.same T k1 (by rw [k2, hb])
    exact ⟨rfl, hij, k4⟩
  · obtain ⟨d, rfl⟩ : ∃ d, i = j + d := ⟨i - j, by omega⟩
    obtain ⟨k1, k2, k3, _⟩ := keep_key R hj d t hi n hn (by rw [← hb]; exact (hm.base U).1)
    obtain rfl : n = m := k1.same U hm (by rw [k2, hb])
    omega
end Go.Proofs.YtlfmckjehjedpaaDoor

/- What was sealed leads only to what is excused. -/
namespace Go.Proofs.YtlfmckjehjedpaaDoor
set_option linter.unusedVariables false
set_option linter.unusedSimpArgs false
set_option maxRecDepth 100000
open SL Go.RowKit Go.Maps
/-- Somebody who was opened has been on since, and sits below the node. -/
def Held (row : List TreeS) (met : List (Int × Int)) (i n : Nat) : Prop := ∃ x ∈ met, On row x.1 x.2 (i : Int) ∧ ∃ t q, row[i]? = some t ∧ Sits t.1 x.1 q ∧ under n q = true
theorem Held.exc {row : List TreeS} (R : RowOk row) {met : List (Int × Int)} {i n : Nat} (h : Held row met i n) : Exc row met i n := by
  obtain ⟨x, hx, hon, t, q, ht, hs, hu⟩ := h
  have T := (R.tree _ _ ht).1
  have hq := hs.lt T
  refine ⟨x, hx, hon, t, ht, ?_⟩
  rw [hs.find T, leafI_in (by omega) (by omega), show (21 + (q : Int)) = ((21 + q : Nat) : Int) by omega]
  exact hu
/-- As the node's key goes on, so does who holds it. -/
theorem Held.on {row : List TreeS} (R : RowOk row) {met : List (Int × Int)} {i n : Nat} (h : Held row met i n) {t : TreeS} (hi : row[i]? = some t) (hn : HasK t.1 n) {j m : Nat} {u : TreeS} (hj : row[j]? = some u) (hm : HasK u.1 m)
    (hb : (nodeK u.1 m).1 = (nodeK t.1 n).1) (hs : (nodeK t.1 n).2 ≤ (nodeK u.1 m).2) : Held row met j m := by
  obtain ⟨rfl, hij, hk⟩ := same_key R hi hj hn hm hb hs
  obtain ⟨x, hx, hon, t', q, ht', hsit, hu⟩ := h
  rw [hi] at ht'; cases ht'
  have hlt := (List.getElem?_eq_some_iff.1 hj).1
  refine ⟨x, hx, ⟨hon.1, by omega, by have := hon.2.2.1; omega, fun l tl h1 h2 h3 => ?_⟩, u, q, hj, hk x.1 q hu hsit j u hij (Nat.le_refl _) hj, hu⟩
  by_cases e : l ≤ i
  · exact hon.2.2.2 l tl h1 (by omega) h3
  · have := (hk x.1 q hu hsit l tl (by omega) (by omega) h3).find (R.tree _ _ h3).1
    omega
/-- A base from a step on is only at nodes that are held. -/
def HeldBy (row : List TreeS) (met : List (Int × Int)) (a s : Int) : Prop := ∀ (j m : Nat) (u : TreeS), row[j]? = some u → HasK u.1 m → (nodeK u.1 m).1 = a → s ≤ (nodeK u.1 m).2 → Held row met j m
theorem Held.by {row : List TreeS} (R : RowOk row) {met : List (Int × Int)} {i n : Nat} (h : Held row met i n) {t : TreeS} (hi : row[i]? = some t) (hn : HasK t.1 n) : HeldBy row met (nodeK t.1 n).1 (nodeK t.1 n).2 := fun _ _ _ hj hm hb hs => h.on R hi hn hj hm hb hs
/-- A box that a tree's keys make: a node's key under that of one below it. -/
def BoxOf (row : List TreeS) (b : Bx) : Prop := ∃ (i : Nat) (t : TreeS) (n c : Nat), row[i]? = some t ∧ HasK t.1 n ∧ HasK t.1 c ∧ (∀ q, q < 64 → under c q = true → under n q = true) ∧ b = ((nodeK t.1 c).1, (nodeK t.1 c).2, (nodeK t.1 n).1, (nodeK t.1 n).2)
theorem BoxOf.held {row : List TreeS} (R : RowOk row) {met : List (Int × Int)} {b : Bx} (h : BoxOf row b) {s : Int} (hs : s ≤ b.2.1) (hp : HeldBy row met b.1 s) : HeldBy row met b.2.2.1 b.2.2.2 := by
  obtain ⟨i, t, n, c, hi, hn, hc, hu, rfl⟩ := h
  dsimp only at hs hp ⊢
  obtain ⟨x, hx, hon, t', q, ht', hsit, hq⟩ := hp i c t hi hc rfl hs
  have hq64 := hsit.lt (R.tree _ _ ht').1
  exact Held.by R ⟨x, hx, hon, t', q, ht', hsit, hu q hq64 hq⟩ hi hn
/-- The nodes above a seat. -/
theorem path_under {s : Nat} (h : s < 64) : under (s / 4 + 5) s = true ∧ under (s / 16 + 1) s = true ∧ under 0 s = true := by
  have : ∀ s : Fin 64, under (s.1 / 4 + 5) s.1 = true ∧ under (s.1 / 16 + 1) s.1 = true ∧ under 0 s.1 = true := by decide +kernel
  exact this ⟨s, h⟩
/-- A key that was opened: of a node above where somebody sat. -/
theorem opened_key {row : List TreeS} (R : RowOk row) {seen : List (Int × Int)} {k : KeyI} (h : k ∈ opK row seen) : ∃ x ∈ metL row seen, ∃ (i : Nat) (t : TreeS) (n q : Nat), x.2 = (i : Int) ∧ row[i]? = some t ∧ Sits t.1 x.1 q ∧ HasK t.1 n ∧ under n q = true ∧ k = nodeK t.1 n := by
  obtain ⟨x, hx, hk⟩ := List.mem_flatMap.1 h
  refine ⟨x, hx, ?_⟩
  have hb : stB row x = true := (List.mem_filter.1 hx).2
  unfold stB at hb
  unfold stK at hk
  split at hb
  · rename_i t ht
    rw [ht] at hk
    obtain ⟨h0, hf⟩ := of_decide_eq_true hb
    have T := (R.tree _ _ ht).1
    obtain ⟨q, hq, hs⟩ := Sits.of hf
    have hq64 := hs.lt T
    dsimp only at hk
    rw [hq, Int.toNat_natCast] at hk
    obtain ⟨hql, htk, _⟩ := hs
    have hs : Sits t.1 x.1 q := ⟨hql, htk, by assumption⟩
    obtain ⟨u1, u2, u3⟩ := path_under hq64
    have hle : leafK (t.1.rs.getD q (0, 0, 0)) t.1.ep = nodeK t.1 (21 + q) := by
      rw [nodeK_leaf hql, List.getD_eq_getElem?_getD, List.getElem?_eq_getElem hql]; rfl
    rw [hle] at hk
    simp only [List.mem_cons, List.not_mem_nil, or_false] at hk
    rcases hk with rfl | rfl | rfl | rfl
    · exact ⟨x.2.toNat, t, 21 + q, q, by omega, ht, hs, .inr ⟨q, hql, rfl, htk⟩, by rw [under_leaf hq64 hq64]; simp, rfl⟩
    · exact ⟨x.2.toNat, t, q / 4 + 5, q, by omega, ht, hs, .inl (by omega), u1, rfl⟩
    · exact ⟨x.2.toNat, t, q / 16 + 1, q, by omega, ht, hs, .inl (by omega), u2, rfl⟩
    · exact ⟨x.2.toNat, t, 0, q, by omega, ht, hs, .inl (by omega), u3, rfl⟩
  · cases hb
theorem opened_held {row : List TreeS} (R : RowOk row) {seen : List (Int × Int)} {k : KeyI} (h : k ∈ opK row seen) : HeldBy row (metL row seen) k.1 k.2 := by
  obtain ⟨x, hx, i, t, n, q, hxi, hi, hs, hn, hu, rfl⟩ := opened_key R h
  have T := (R.tree _ _ hi).1
  have hlt := (List.getElem?_eq_some_iff.1 hi).1
  refine Held.by R ⟨x, hx, ⟨by omega, by omega, by omega, fun l tl h1 h2 h3 => ?_⟩, t, q, hi, hs, hu⟩ hi hn
  obtain rfl : l = i := by omega
  rw [hi] at h3; cases h3
  have := hs.find T
  omega
/-- What follows is excused. -/
theorem kept_law {row : List TreeS} (R : RowOk row) {seen : List (Int × Int)} {bs : List Bx} {m : List (Int × Int)} (hb : ∀ b ∈ bs, BoxOf row b) (hm : Snd (opK row seen) bs m) : Kept row m (metL row seen) := fun i t v hi hv hh => by
  obtain ⟨s, h1, h2⟩ := hasB_iff.1 hh
  have := hm.snd (HeldBy row (metL row seen)) (fun k hk => opened_held R hk) (fun b hbm s hs hp => (hb b hbm).held R hs hp) _ _ h1
  exact excB_iff.2 ((this i v t hi (.inl hv) rfl h2).exc R)
end Go.Proofs.YtlfmckjehjedpaaDoor

/- The boxes of a row's messages: plain laws. -/
namespace Go.Proofs.YtlfmckjehjedpaaDoor
set_option linter.unusedVariables false
set_option linter.unusedSimpArgs false
set_option maxRecDepth 100000
open SL Go.RowKit Go.Maps
def itemsM (m : MsgG) : List Item := itemsN m.1.1 m.1.2.1 m.1.2.2
def boxL (ms : List MsgG) : List Bx := ms.flatMap fun m => (itemsM m).map (·.2.2)
theorem child_under {v j q : Nat} (hv : v < 21) (hj : j < 4) (hq : q < 64) (h : under (4 * v + 1 + j) q = true) : under v q = true := by
  have : ∀ v : Fin 21, ∀ j : Fin 4, ∀ q : Fin 64, under (4 * v.1 + 1 + j.1) q.1 = true → under v.1 q.1 = true := by decide +kernel
  exact this ⟨v, hv⟩ ⟨j, hj⟩ ⟨q, hq⟩ h
theorem itA_mem {t : TreeI} {p : Nat → Bool} {it : Item} : ∀ n, n ≤ 21 → (it ∈ itA t p n ↔ ∃ v j, 21 - n ≤ v ∧ v < 21 ∧ j < 4 ∧ p v = true ∧ heldB t (4 * v + 1 + j) = true ∧ it = itemT t v (4 * v + 1 + j))
  | 0, _ => by
    constructor
    · intro h; simp [itA] at h
    · rintro ⟨v, j, h1, h2, _⟩; omega
  | n + 1, hn => by
    have ih := itA_mem (t := t) (p := p) (it := it) n (by omega)
    unfold itA
    rw [List.mem_append, ih]
    constructor
    · rintro (⟨v, j, h1, h2⟩ | h)
      · exact ⟨v, j, by omega, h2⟩
      · by_cases hp : p (20 - n) = true
        · rw [if_pos hp] at h
          unfold itV at h
          obtain ⟨j, hj, rfl⟩ := List.mem_map.1 h
          obtain ⟨h1, h2⟩ := List.mem_filter.1 hj
          exact ⟨20 - n, j, by omega, by omega, List.mem_range.1 h1, hp, h2, rfl⟩
        · rw [if_neg hp] at h; simp at h
    · rintro ⟨v, j, h1, h2, h3, h4, h5, rfl⟩
      by_cases e : v = 20 - n
      · subst e
        rw [if_pos h4]
        exact .inr (List.mem_map.2 ⟨j, List.mem_filter.2 ⟨List.mem_range.2 h3, h5⟩, rfl⟩)
      · exact .inl ⟨v, j, by omega, h2, h3, h4, h5, rfl⟩
theorem itB_mem {t : TreeI} {p : Nat → Bool} {J : List Seat} {it : Item} (h : it ∈ itB t p J) : ∃ x ∈ J, ∃ v ∈ pathL x.2.toNat, it = itemT t v (21 + x.2.toNat) := by
  obtain ⟨x, hx, h2⟩ := List.mem_flatMap.1 h
  obtain ⟨v, hv, rfl⟩ := List.mem_map.1 h2
  exact ⟨x, hx, v, (List.mem_filter.1 hv).1, rfl⟩
theorem itemsN_len {t : TreeI} (T : TreeOk t) {L J : List Int} (hf : Fit t.rs L J) : (itemsN t L J).length ≤ 300 := by
  have h1 := itA_len (nextT t L J) (repT t L) 21
  have h2 := itB_len (nextT t L J) (repT t L) (joinedL t.rs L J)
  have h3 := joinedL_length T.R hf
  have h4 := hf.lenJ T.R
  unfold itemsN itemsT
  rw [List.length_append]; omega
theorem item_box {row : List TreeS} (R : RowOk row) {i : Nat} {t u : TreeS} {L J : List Int} (hi : row[i]? = some t) (hu : row[i + 1]? = some u) (hz : stepE t.1 L J = 0) (e : u.1 = nextT t.1 L J) {it : Item} (h : it ∈ itemsN t.1 L J) : BoxOf row it.2.2 := by
  have T := (R.tree _ _ hi).1
  have U := (R.tree _ _ hu).1
  obtain ⟨h200, hf⟩ := stepE_zero.1 hz
  unfold itemsN itemsT at h
  rw [← e] at h
  rcases List.mem_append.1 h with h | h
  · obtain ⟨v, j, _, hv, hj, _, hh, rfl⟩ := (itA_mem 21 (Nat.le_refl _)).1 h
    exact ⟨i + 1, u, v, 4 * v + 1 + j, hu, .inl hv, held_has U (by omega) hh, fun q hq hq2 => child_under hv hj hq hq2, rfl⟩
  · obtain ⟨x, hx, v, hv, rfl⟩ := itB_mem h
    have hse := joined_seated T hf x hx
    rw [← e] at hse
    obtain ⟨_, hl, ht⟩ := hse
    have h64 : x.2.toNat < 64 := by have := U.R.len; omega
    obtain ⟨u1, u2, u3⟩ := path_under h64
    simp only [pathL, List.mem_cons, List.not_mem_nil, or_false] at hv
    refine ⟨i + 1, u, v, 21 + x.2.toNat, hu, .inl (by omega), .inr ⟨_, hl, rfl, ht⟩, fun q hq hq2 => ?_, rfl⟩
    rw [under_leaf h64 hq] at hq2
    rw [← of_decide_eq_true hq2]
    rcases hv with rfl | rfl | rfl
    · exact u1
    · exact u2
    · exact u3
/-- Each message stands between two trees of the row. -/
theorem StepsI.msg {sc : List BatI} {row : List TreeS} {ms : List MsgG} {gm : Option (Nat × Nat)} (h : StepsI sc row ms gm) {i : Nat} {m : MsgG} (hm : ms[i]? = some m) : ∃ t u : TreeS, row[i]? = some t ∧ row[i + 1]? = some u ∧ t.1 = m.1.1 ∧ stepE t.1 m.1.2.1 m.1.2.2 = 0 ∧ u.1 = nextT t.1 m.1.2.1 m.1.2.2 := by
  have h1 := (runF_ok (sc.map batI)).msg i m.1 (by rw [← h.hms, List.getElem?_map, hm]; rfl)
  rw [← h.hrow, List.getElem?_map, List.getElem?_map] at h1
  obtain ⟨h2, h3, h4⟩ := h1
  obtain ⟨t, ht, e1⟩ := Option.map_eq_some_iff.1 h2
  obtain ⟨u, hu, e2⟩ := Option.map_eq_some_iff.1 h4
  refine ⟨t, u, ht, hu, e1, ?_, ?_⟩
  · rw [e1]; exact h3
  · rw [e2, e1]
theorem StepsI.boxes {sc : List BatI} {row : List TreeS} {ms : List MsgG} {gm : Option (Nat × Nat)} (h : StepsI sc row ms gm) : ∀ b ∈ boxL ms, BoxOf row b := fun b hb => by
  obtain ⟨m, hm, h2⟩ := List.mem_flatMap.1 hb
  obtain ⟨it, hit, rfl⟩ := List.mem_map.1 h2
  obtain ⟨i, hi, rfl⟩ := List.getElem_of_mem hm
  obtain ⟨t, u, h3, h4, h5, h6, h7⟩ := h.msg (List.getElem?_eq_getElem hi)
  unfold itemsM at hit
  rw [← h5] at hit
  exact item_box h.ok h3 h4 h6 h7 hit
theorem StepsI.items {sc : List BatI} {row : List TreeS} {ms : List MsgG} {gm : Option (Nat × Nat)} (h : StepsI sc row ms gm) {m : MsgG} (hm : m ∈ ms) : (itemsM m).length ≤ 300 := by
  obtain ⟨i, hi, rfl⟩ := List.getElem_of_mem hm
  obtain ⟨t, u, h3, _, h5, h6, _⟩ := h.msg (List.getElem?_eq_getElem hi)
  have := itemsN_len (h.ok.tree _ _ h3).1 (stepE_zero.1 h6).2
  rw [h5] at this; exact this
/-- Steps and names of a row's keys are small. -/
theorem BoxOf.small {row : List TreeS} (R : RowOk row) {b : Bx} (h : BoxOf row b) : I64 b.1 ∧ I64 b.2.2.1 ∧ 0 ≤ b.2.2.2 ∧ b.2.2.2 ≤ 255 := by
  obtain ⟨i, t, n, c, hi, hn, hc, _, rfl⟩ := h
  have T := (R.tree _ _ hi).1
  have h1 := hn.key T
  have h2 := hc.key T
  simp only [keyB, Bool.and_eq_true, decide_eq_true_eq] at h1 h2
  unfold I64
  dsimp only
  omega
theorem opened_small {row : List TreeS} (R : RowOk row) {seen : List (Int × Int)} : KeysIn (opK row seen) := fun k hk => by
  obtain ⟨x, _, i, t, n, q, _, hi, _, hn, _, rfl⟩ := opened_key R hk
  have h1 := hn.key (R.tree _ _ hi).1
  simp only [keyB, Bool.and_eq_true, decide_eq_true_eq] at h1
  unfold I64
  omega
end Go.Proofs.YtlfmckjehjedpaaDoor

/- A narrowed form whose row lays a table: the frame. -/
namespace Go.Proofs.YtlfmckjehjedpaaDoor
set_option linter.unusedVariables false
set_option linter.unusedSimpArgs false
set_option maxRecDepth 100000
open Go.ChangeShapes
theorem cond_and {H : Type} {enc : TypeId × Value → H} {a : Assume} {C : Checked} {os : Os} {f : FuncId} {fn : Func} {s : OpenSpec} {k : (H : Type) → List (DataW H) → Bool} (hk : s.cond = some k) {F : Stop.Interp} {conds : List PathCond} {apart fresh handsOn again : Bool} {X : World → Array Value → Prop}
    (hX : ∀ (w w' : World) (args : Array Value), w.heap = w'.heap → X w args → X w' args)
    (own : ownKnob C.prog.godebug = none) (started : os.Started) (noInit : C.prog.inits.idxOf? f = none) (hfn : C.prog.funcs[f]? = some fn)
    (witness : ∃ (w : World) (tape : Tape) (i : Input), w.os = os ∧ (w.forCall tape i).Shaped C.prog ∧ i.vars = [] ∧ Input.okWide C.prog (w.forCall tape i) .any w.heap.size f i ∧
      ((s.pre enc C.prog fn conds apart (w.forCall tape i).memory i.args ∧ X (w.forCall tape i).memory i.args) ∧ sizedMet enc C.prog fn s apart (w.forCall tape i).memory i.args) ∧ a.holds C.prog (lone (Frame.enter C.prog f i.args .normal) [] (w.forCall tape i)))
    (contract : ∀ (W : World) (base : Nat) (args : Array Value) (ds gs : List (DataW H)) (before : List MemPlace),
      (∀ (j : Nat) t v, fn.params[j]? = some t → args[j]? = some v → Value.okWide C.prog W .any base t v) →
      DataW.Whole enc C.prog fn.params.toList s.vars apart W args.toList ds gs before →
      conds.all (PathCond.test C.prog ⟨fn.params.toList, ds, s.bare.plain.varTypes C.prog, gs⟩) = true → k H (ds ++ gs) = true → X W args →
      a.holds C.prog (lone (Frame.enter C.prog f args .normal) [] W) →
      Calls C.prog f args W fun e W' => ∃ v, e = .returned v ∧ (s.at F).post enc C.prog fn apart fresh handsOn again W args v W') :
    ReturnsInHanded a C os f .any (fun w args => (s.pre enc C.prog fn conds apart w args ∧ X w args) ∧ sizedMet enc C.prog fn s apart w args) ((s.at F).post enc C.prog fn apart fresh handsOn again) := by
  refine returnsInHanded_of_calls own started noInit witness ?_
  intro w tape i _ _ _ hok hpre hholds
  obtain ⟨_, _, _, fn', hfn', _, _, _, _, hval⟩ := hok
  have e : fn' = fn := Option.some.inj (hfn'.symm.trans hfn)
  subst e
  obtain ⟨⟨hp, hx⟩, _⟩ := hpre
  obtain ⟨ds, gs, before, hw, hc, hkk⟩ := (OpenSpec.pre_some hk conds apart _ _).1 hp
  have hw' := DataW.Whole.of_heap (w' := w.forCall tape i) (by rfl) hw
  refine (contract (w.forCall tape i) w.heap.size i.args ds gs before hval hw' hc hkk (hX _ _ _ (by rfl) hx) hholds).mono fun e W' ⟨v, he, hp⟩ => ?_
  subst he
  exact ChangeSpec.post_blind hp
theorem cond_wit {H : Type} {enc : TypeId × Value → H} {C : Checked} {os : Os} {f : FuncId} {fn : Func} {s : OpenSpec} {k : (H : Type) → List (DataW H) → Bool} (hk : s.cond = some k) {conds : List PathCond} {apart : Bool} {X : World → Array Value → Prop} (modest : Bool) (w0 : World) (args : Array Value) (fuel : Nat) (hos : w0.os = os)
    (hsh : (w0.forCall (fun _ _ => 0) ⟨#[], args, []⟩).Shaped C.prog)
    (hok : Input.okWideB C.prog (w0.forCall (fun _ _ => 0) ⟨#[], args, []⟩) f ⟨#[], args, []⟩ = true)
    {x : List (DataW H) × List (DataW H) × List MemPlace} (hx : DataW.whole enc C.prog (w0.forCall (fun _ _ => 0) ⟨#[], args, []⟩).memory fn.params.toList s.vars apart args.toList fuel = some x)
    (hconds : conds.all (PathCond.test C.prog ⟨fn.params.toList, x.1, s.bare.plain.varTypes C.prog, x.2.1⟩) = true) (hkk : k H (x.1 ++ x.2.1) = true)
    (hsz : s.bare.sizedB enc C.prog fn apart (w0.forCall (fun _ _ => 0) ⟨#[], args, []⟩).memory args fuel = true)
    (hX : X (w0.forCall (fun _ _ => 0) ⟨#[], args, []⟩).memory args) :
    ∃ (w : World) (tape : Tape) (i : Input), w.os = os ∧ (w.forCall tape i).Shaped C.prog ∧ i.vars = [] ∧ Input.okWide C.prog (w.forCall tape i) .any w.heap.size f i ∧
      ((s.pre enc C.prog fn conds apart (w.forCall tape i).memory i.args ∧ X (w.forCall tape i).memory i.args) ∧ sizedMet enc C.prog fn s apart (w.forCall tape i).memory i.args) ∧ ({ modest := modest } : Assume).holds C.prog (lone (Frame.enter C.prog f i.args .normal) [] (w.forCall tape i)) :=
  ⟨w0, fun _ _ => 0, ⟨#[], args, []⟩, hos, hsh, (Input.okWide_of_okWideB (base := 0) hok).1, (Input.okWide_of_okWideB hok).2,
    ⟨⟨(OpenSpec.pre_some hk conds apart _ _).2 ⟨x.1, x.2.1, x.2.2, DataW.Whole_of_whole hx, hconds, hkk⟩, hX⟩, sizedMet_of_sizedB hsz⟩, by
    simp only [Assume.holds]
    exact ⟨by simp, by simp, fun _ => Modest.zero, by simp, by simp⟩⟩
end Go.Proofs.YtlfmckjehjedpaaDoor

/- Batches as an argument. -/
namespace Go.Proofs.YtlfmckjehjedpaaDoor
set_option linter.unusedVariables false
set_option linter.unusedSimpArgs false
set_option maxRecDepth 100000
open SL Go.RowKit
theorem ok_intB {a : Value} (h : okCell (.i .i64) a = true) : ∃ n : Int, a = .int .i64 n := by
  cases a <;> simp [okCell] at h
  subst h
  exact ⟨_, rfl⟩
theorem view_intsB : ∀ (n : Nat) (row : List Value), okCells (List.replicate n (.i .i64)) row = true → ∃ l : List Int, l.length = n ∧ row = l.map (fun x => .int .i64 x)
  | 0, [], _ => ⟨[], rfl, rfl⟩
  | 0, a :: row, h => by simp [okCells, List.replicate] at h
  | n + 1, [], h => by simp [okCells, List.replicate] at h
  | n + 1, a :: row, h => by
    simp only [List.replicate, okCells, Bool.and_eq_true] at h
    obtain ⟨x, rfl⟩ := ok_intB h.1
    obtain ⟨l, hl, rfl⟩ := view_intsB n row h.2
    exact ⟨x :: l, by simp [hl], rfl⟩
theorem view_seatB : ∀ row, okCells [.i .i64, .i .i64] row = true → row.all wfCell = true → ∃ x : Seat, row = seatF x := by
  intro row h _
  obtain ⟨l, hl, rfl⟩ := view_intsB 2 row h
  match l, hl with
  | [a, b], _ => exact ⟨(a, b), rfl⟩
/-- How a slice is read. -/
def DnB {H : Type} (d : DataW H) (n : Nat) : Prop := (d = .nil ∧ n = 0) ∨ ∃ els spare, d = .slice els spare ∧ els.length = n
theorem take_drop_catB {cs : List Value} (a b : Nat) : cs.drop a = (cs.drop a).take b ++ cs.drop (a + b) := by rw [← List.drop_drop]; exact (List.take_append_drop _ _).symm
theorem view_intR : ∀ row, okCells [.i .i64] row = true → row.all wfCell = true → ∃ x : Int, I64 x ∧ row = [.int .i64 x] := fun row h hw => by
  obtain ⟨x, hx, rfl⟩ := view_int row h hw
  refine ⟨x, ?_, rfl⟩
  simp [Lit.wf, IntKind.min, IntKind.max, IntKind.signed, IntKind.bits] at hx
  unfold I64; omega
theorem mapM2 {α β : Type} {f : α → Option β} {a b : α} {ys : List β} (h : [a, b].mapM f = some ys) : ∃ w x, f a = some w ∧ f b = some x ∧ ys = [w, x] := by
  simp only [List.mapM_cons, List.mapM_nil, bind, Option.bind_eq_some_iff, pure, Option.some.injEq] at h
  obtain ⟨w, hw, _, ⟨x, hx, _, rfl, rfl⟩, rfl⟩ := h
  exact ⟨w, x, hw, hx, rfl⟩
section
variable {H : Type} {enc : TypeId × Value → H} {W : World} {base b0 : Nat} {sp : Nat → Bool} {held : Bool} {r : Reach} {v : Value} {d : DataW H} {ps : List MemPlace}
theorem open_bat {fuel : Nat} {cs : List Value} {x : DataW H × List MemPlace} (h : DataW.trod enc Tryd.prog W base sp held fuel 69 cs = some x) :
    ∃ (y : BatI) (dL dJ : DataW H), cs = batF y ∧ SlF (fun r => W.heap[r]?) 1 y.2.2.oL y.1.length (intsV y.1) ∧ SlF (fun r => W.heap[r]?) 1 y.2.2.oJ y.2.1.length (intsV y.2.1) ∧ (∀ w ∈ y.1, I64 w) ∧ (∀ w ∈ y.2.1, I64 w) ∧ x.1 = .agg [dL, dJ] ∧ DnB dL y.1.length ∧ DnB dJ y.2.1.length := by
  cases fuel with
  | zero => simp [DataW.trod] at h
  | succ m =>
    rw [DataW.trod_step] at h
    unfold DataW.trodStep at h
    simp only [Tryd.underlying69] at h
    split at h
    · rename_i hl
      obtain ⟨ys, hy, rfl⟩ := Option.map_eq_some_iff.1 h
      obtain ⟨y1, y2, h1, h2, rfl⟩ := mapM2 hy
      dsimp only at h1 h2
      rw [show Tryd.prog.cellsOf 57 = 1 by kernel_rfl] at h1 h2
      rw [show Tryd.prog.cellsOf 69 = 2 by kernel_rfl] at hl
      obtain ⟨oL, nL, cL, vL, e1, SL, kL, wL, DL⟩ := open_rows (e := 3) (d := 4) (ks := [.i .i64]) Tryd.underlying57 (by kernel_rfl) (by kernel_rfl) (by decide) h1
      obtain ⟨oJ, nJ, cJ, vJ, e2, SJ, kJ, wJ, DJ⟩ := open_rows (e := 3) (d := 4) (ks := [.i .i64]) Tryd.underlying57 (by kernel_rfl) (by kernel_rfl) (by decide) h2
      obtain ⟨L, rfl, rfl, qL⟩ := rows_viewQ (f := fun x => [Value.int .i64 x]) view_intR nL vL kL wL
      obtain ⟨J, rfl, rfl, qJ⟩ := rows_viewQ (f := fun x => [Value.int .i64 x]) view_intR nJ vJ kJ wJ
      rw [flatMap_one] at SL SJ
      refine ⟨(L, J, ⟨oL, cL, oJ, cJ⟩), y1.1, y2.1, ?_, SL, SJ, qL, qJ, rfl, DL, DJ⟩
      rw [show cs = cs.drop 0 from rfl, take_drop_catB 0 1, take_drop_catB (0 + 1) 1, e1, e2, List.drop_of_length_le (by omega)]
      rfl
    · cases h
end
end Go.Proofs.YtlfmckjehjedpaaDoor

/- A slice of batches as an argument. -/
namespace Go.Proofs.YtlfmckjehjedpaaDoor
set_option linter.unusedVariables false
set_option linter.unusedSimpArgs false
set_option maxRecDepth 100000
open SL Go.RowKit
section
variable {H : Type} {enc : TypeId × Value → H} {W : World} {base b0 : Nat} {sp : Nat → Bool} {held : Bool} {r : Reach} {v : Value} {d : DataW H} {ps : List MemPlace}
instance : Inhabited BatI := ⟨([], [], ⟨none, 0, none, 0⟩)⟩
/-- A batch whose lists read so. -/
def BatR {H : Type} (W : World) (y : BatI) (d : DataW H) : Prop := SlF (fun r => W.heap[r]?) 1 y.2.2.oL y.1.length (intsV y.1) ∧ SlF (fun r => W.heap[r]?) 1 y.2.2.oJ y.2.1.length (intsV y.2.1) ∧ (∀ w ∈ y.1, I64 w) ∧ (∀ w ∈ y.2.1, I64 w) ∧ ∃ dL dJ, d = .agg [dL, dJ] ∧ DnB dL y.1.length ∧ DnB dJ y.2.1.length
theorem open_bats (hval : Value.okWide Tryd.prog W r b0 22 v) (hd : DataW.Trod enc Tryd.prog W base sp held 22 v d ps) :
    ∃ (oa : Option Addr) (sc : List BatI) (ca : Nat), v = .slice oa sc.length ca ∧ SlF (fun r => W.heap[r]?) 2 oa sc.length (sc.flatMap batF) ∧
      ((d = .nil ∧ sc = []) ∨ ∃ els spare, d = .slice els spare ∧ els.length = sc.length ∧ ∀ (i : Nat) y e, sc[i]? = some y → els[i]? = some e → BatR W y e) := by
  obtain ⟨a, len, cap, rfl⟩ := Go.WideShapes.okWide_slice Tryd.underlying22 hval
  obtain ⟨fuel, hf'⟩ := hd
  rcases Go.Deep.open_slice Tryd.underlying22 hf' with ⟨h1, h2⟩ | ⟨a', len', cap', m, n, D, Pl, h1, hb, hl, hm, hmm, h2, hx⟩
  · obtain ⟨rfl, rfl, rfl⟩ : a = none ∧ len = 0 ∧ cap = 0 := by simpa [Value.cells] using h1
    exact ⟨none, [], 0, rfl, ⟨by simp, fun h => by simp at h⟩, .inl ⟨by cases h2; rfl, rfl⟩⟩
  · obtain ⟨rfl, rfl, rfl⟩ : a = some a' ∧ len = len' ∧ cap = cap' := by simpa [Value.cells] using h1
    have hle : len ≤ m := by rw [hmm]; split <;> omega
    rw [show Tryd.prog.cellsOf 69 = 2 by kernel_rfl] at hx
    obtain ⟨V, hV⟩ := Go.Deep.choose_lt (α := List Value) (p := fun i cs' => W.cells? base (a'.add (i * 2)) 2 = some cs' ∧ DataW.trod enc Tryd.prog W base sp held n 69 cs' = some (D i, Pl i)) hx
    have hY : ∀ i, i < m → ∃ y : BatI, V i = batF y ∧ BatR W y (D i) := fun i hi => by
      obtain ⟨y, dL, dJ, e1, e2, e3, e4, e5, e6, e7, e8⟩ := open_bat (hV i hi).2
      exact ⟨y, e1, e2, e3, e4, e5, dL, dJ, e6, e7, e8⟩
    obtain ⟨Y, hY2⟩ := Go.Deep.choose_lt (α := BatI) (p := fun i y => V i = batF y ∧ BatR W y (D i)) hY
    have hln : ∀ i, i < len → (V i).length = 2 := fun i hi => by rw [(hY2 i (by omega)).1]; rfl
    obtain ⟨f1, f2⟩ := flatten_view hln len (Nat.le_refl _)
    have hVY : (List.range len).flatMap V = ((List.range len).map Y).flatMap batF := by
      rw [List.flatMap_map]
      have key : ∀ l : List Nat, (∀ i ∈ l, i < m) → l.flatMap V = l.flatMap fun i => batF (Y i) := by
        intro l
        induction l with
        | nil => intro _; rfl
        | cons i l ih =>
          intro h
          rw [List.flatMap_cons, List.flatMap_cons, ih fun j hj => h j (by simp [hj]), (hY2 i (h i (by simp))).1]
      exact key _ fun i hi => by have := List.mem_range.1 hi; omega
    have hl2 : ((List.range len).map Y).length = len := by simp
    have hw : ∃ (oa : Option Addr), some a' = oa ∧ SlF (fun r => W.heap[r]?) 2 oa len ((List.range len).flatMap V) := by
      refine ⟨_, rfl, f1, fun hn => ?_⟩
      have hspot : a'.spot = none := by
        obtain ⟨_, hl0, hc⟩ := World.cells?_some (hV 0 (by omega)).1
        have h1 := hc 0 (by decide)
        rw [Nat.zero_mul] at h1
        have h2 : (V 0)[0]? = some ((V 0)[0]'(by rw [hl0]; decide)) := List.getElem?_eq_getElem _
        rw [h2] at h1
        exact World.cell?_spot (by simpa [Addr.add] using h1)
      obtain ⟨ab, ao, asp⟩ := a'
      simp only at hspot
      subst hspot
      have hcell : ∀ j v, ((List.range len).flatMap V)[j]? = some v → W.cell? ⟨ab, ao + j, none⟩ = some v := fun j v hj => by
        have hjl : j < len * 2 := by rw [← f1]; exact (List.getElem?_eq_some_iff.1 hj).1
        have hdm : j / 2 * 2 + j % 2 = j := Nat.div_add_mod' j 2
        have hi : j / 2 < len := by omega
        have hr : j % 2 < 2 := Nat.mod_lt _ (by decide)
        have h1 := f2 (j / 2) (j % 2) hi hr
        rw [hdm, hj] at h1
        obtain ⟨_, _, hc⟩ := World.cells?_some (hV (j / 2) (by omega)).1
        have h2 := hc (j % 2) hr
        rw [Addr_add, Addr_add, ← h1, Nat.add_assoc, hdm] at h2
        exact h2
      exact ⟨ab, ao, rfl, fun j v hj => rd_of_cell (hcell j v hj)⟩
    obtain ⟨oa, ho, hS⟩ := hw
    refine ⟨oa, (List.range len).map Y, cap, by rw [ho, hl2], by rw [hl2, ← hVY]; exact hS, .inr ?_⟩
    have h3 := congrArg Prod.fst h2
    dsimp only at h3
    refine ⟨_, _, h3, by simp, fun i y e hy he => ?_⟩
    have hi : i < len := by have := (List.getElem?_eq_some_iff.1 hy).1; rw [hl2] at this; exact this
    rw [List.getElem?_map, List.getElem?_range hi] at hy
    simp only [Option.map_some, Option.some.injEq] at hy
    subst hy
    have he2 : e = D i := by
      rw [List.getElem?_map, List.getElem?_range hi] at he
      simpa using he.symm
    rw [he2]; exact (hY2 i (by omega)).2
end
end Go.Proofs.YtlfmckjehjedpaaDoor

/- What the bound on the arguments' bulk gives. -/
namespace Go.Proofs.YtlfmckjehjedpaaDoor.bulks
set_option linter.unusedVariables false
set_option linter.unusedSimpArgs false
set_option maxRecDepth 100000
theorem one_le {H : Type} (d : DataW H) : 1 ≤ Rows.uptoBulk d := by
  cases d with
  | lit l => cases l <;> simp [Rows.uptoBulk]
  | nil => simp [Rows.uptoBulk]
  | ptr d => simp [Rows.uptoBulk]
  | slice elems spare => simp [Rows.uptoBulk]
  | agg parts => simp [Rows.uptoBulk]
  | iface t d => simp [Rows.uptoBulk]
  | map entries => simp [Rows.uptoBulk]
  | held h => simp [Rows.uptoBulk]
theorem length_le {H : Type} (l : List (DataW H)) : l.length ≤ Rows.uptoBulkAll l := by
  induction l with
  | nil => simp [Rows.uptoBulkAll]
  | cons x r ih => have := one_le x; simp only [Rows.uptoBulkAll, List.length_cons]; omega
theorem slice {H : Type} {d : DataW H} {n : Nat} (h : (d = .nil ∧ n = 0) ∨ ∃ els spare, d = .slice els spare ∧ els.length = n) : n + 1 ≤ Rows.uptoBulk d := by
  rcases h with ⟨rfl, rfl⟩ | ⟨els, spare, rfl, rfl⟩
  · simp [Rows.uptoBulk]
  · have := length_le els; simp only [Rows.uptoBulk]; omega
theorem str {H : Type} (s : ByteArray) : Rows.uptoBulk (DataW.lit (H := H) (.string s.data.toList)) = s.size + 1 := by
  simp only [Rows.uptoBulk]; rw [Array.length_toList]; rfl
end Go.Proofs.YtlfmckjehjedpaaDoor.bulks

/- Batches of a small bulk. -/
namespace Go.Proofs.YtlfmckjehjedpaaDoor
set_option linter.unusedVariables false
set_option linter.unusedSimpArgs false
set_option maxRecDepth 100000
open SL Go.RowKit
theorem bulk_at {H : Type} : ∀ (els : List (DataW H)) (i : Nat) (e : DataW H), els[i]? = some e → Rows.uptoBulk e ≤ Rows.uptoBulkAll els
  | [], i, e, h => by simp at h
  | x :: l, 0, e, h => by simp at h; subst h; simp only [Rows.uptoBulkAll]; omega
  | x :: l, i + 1, e, h => by
    have := bulk_at l i e (by simpa using h)
    simp only [Rows.uptoBulkAll]; omega
theorem bats_up {H : Type} {W : World} {oa : Option Addr} {sc : List BatI} {d : DataW H} (hS : SlF (fun r => W.heap[r]?) 2 oa sc.length (sc.flatMap batF)) (hd : (d = .nil ∧ sc = []) ∨ ∃ els spare, d = .slice els spare ∧ els.length = sc.length ∧ ∀ (i : Nat) y e, sc[i]? = some y → els[i]? = some e → BatR W y e) (hb : Rows.uptoBulk d ≤ 1048576) : ScrF (fun r => W.heap[r]?) oa sc := by
  rcases hd with ⟨_, rfl⟩ | ⟨els, spare, rfl, hl, hy⟩
  · exact ⟨hS, by simp, by simp⟩
  · simp only [Rows.uptoBulk] at hb
    have h1 := bulks.length_le els
    refine ⟨hS, fun x hx => ?_, by omega⟩
    obtain ⟨i, hi, rfl⟩ := List.getElem_of_mem hx
    have he : els[i]? = some els[i] := List.getElem?_eq_getElem (by omega)
    obtain ⟨a, b, c, e, dL, dJ, h2, h3, h4⟩ := hy i _ _ (List.getElem?_eq_getElem hi) he
    have h5 := bulk_at els i _ he
    rw [h2] at h5
    have h6 := bulks.slice h3
    have h7 := bulks.slice h4
    simp only [Rows.uptoBulk, Rows.uptoBulkAll] at h5
    exact ⟨a, b, c, e, by omega, by omega⟩
end Go.Proofs.YtlfmckjehjedpaaDoor

/- What the listed variables give: the table of trailing noughts. -/
namespace Go.Proofs.YtlfmckjehjedpaaDoor
set_option linter.unusedVariables false
set_option linter.unusedSimpArgs false
set_option maxRecDepth 100000
open SL Go.RowKit Go.ChangeShapes Go.WideShapes Go.ChangeAt Go.Lib

theorem tab_cell {W : World} (h : laidMetH Tryd.prog Rows.topSecretRowUptoRow.laid W) (j : Nat) (hj : j < 64) : W.cell? ⟨0, j, none⟩ = some (.int .u8 (deBruijn64tab.getD j 0)) := by
  rw [MakeChecks.laidMetH_plain _ _ _ (by kernel_rfl)] at h
  obtain ⟨ps, ⟨g1, t1, cs1, f1, p1, q1, hg1, ht1, hv1, hd1, _, _⟩, _, _⟩ := h
  obtain rfl : g1 = 0 := Option.some.inj (hg1.symm.trans (by kernel_rfl))
  obtain rfl : t1 = 149 := Option.some.inj (ht1.symm.trans (by kernel_rfl))
  obtain ⟨xs, m, _, ex, _, hl, hel⟩ := DataW.trod_array Tryd.underlying149 hd1
  have c5 : Tryd.prog.cellsOf 5 = 1 := by kernel_rfl
  have hE := hel j hj
  rw [c5, Nat.mul_one, List.getElem?_eq_getElem (by omega)] at hE
  obtain ⟨z, e1, e2, _⟩ := DataW.trod_int Tryd.underlying5 hE
  have e3 := (DataW.agg.inj (Prod.mk.inj ex).1).symm
  have e4 : (xs.map (·.1))[j]? = some (.lit (.int .u8 (deBruijn64tab.getD j 0))) := by
    rw [e3]
    show (deBruijn64tab.map fun (n : Nat) => DataW.lit (Lit.int .u8 (n : Int)))[j]? = _
    rw [List.getElem?_map, List.getD_eq_getElem?_getD, List.getElem?_eq_getElem (show j < deBruijn64tab.length from hj)]; rfl
  rw [List.getElem?_map, List.getElem?_eq_getElem (by omega : j < xs.length), e2] at e4
  have hz : z = (deBruijn64tab.getD j 0 : Nat) := by simpa using e4
  rw [World.var?_cell hg1 hv1 j, ← hz]
  have : cs1.toList[j]? = some (.int .u8 z) := by
    have h0 : ((cs1.toList.drop j).take 1)[0]? = some (.int .u8 z) := by rw [e1]; rfl
    simpa using h0
  simpa using this
theorem tab_of {W : World} (h : laidMetH Tryd.prog Rows.topSecretRowUptoRow.laid W) : TabA (fun r => W.heap[r]?) := fun j hj => rd_of_cell (tab_cell h j hj)
end Go.Proofs.YtlfmckjehjedpaaDoor

/- TopSecretRow walked. -/
namespace Go.Proofs.YtlfmckjehjedpaaDoor
set_option linter.unusedVariables false
set_option linter.unusedSimpArgs false
set_option maxRecDepth 100000
open SL Go.RowKit Go.Maps
abbrev ownX (g : Option (Nat × Nat)) (xs : List Bx) : HObj := .own (svOf g xs.length) xs.length 37 4 (xs.flatMap bxF)
theorem tail_item {ms : List MsgG} {m : MsgG} (h : m ∈ ms) : ∃ Y, (tailH ms).Perm (ownIt m.2.2.2 (itemsM m) :: Y) := by
  have hm : ownIt m.2.2.2 (itemsM m) ∈ tailH ms := List.mem_flatMap.2 ⟨m, List.mem_reverse.2 h, by unfold mgH itemsM; simp⟩
  obtain ⟨A, B, e⟩ := List.append_of_mem hm
  exact ⟨A ++ B, by rw [e]; exact List.perm_middle⟩
theorem tail_in {I a b c d : HObj} {X Y : Heap} (hp : X.Perm (I :: Y)) : Sub (d :: a :: b :: c :: X) (I :: a :: b :: c :: Y) :=
  Sub.of_perm (X := [d]) (((hp.append_left [a, b, c]).trans List.perm_middle).cons d)
theorem tail_out {I a b c : HObj} {X Y : Heap} (hp : X.Perm (I :: Y)) : Sub (I :: a :: b :: c :: Y) (a :: b :: c :: X) :=
  Sub.of_perm (X := []) (((hp.append_left [a, b, c]).trans List.perm_middle).symm)
theorem boxL_snoc {ms : List MsgG} {i : Nat} {m : MsgG} (h : ms[i]? = some m) : boxL (ms.take (i + 1)) = boxL (ms.take i) ++ (itemsM m).map (·.2.2) := by
  obtain ⟨hi, rfl⟩ := List.getElem?_eq_some_iff.1 h
  unfold boxL; rw [take_snoc hi, List.flatMap_append]; simp
theorem boxL_len {ms : List MsgG} (h : ∀ m ∈ ms, (itemsM m).length ≤ 300) : (boxL ms).length ≤ 300 * ms.length := by
  induction ms with
  | nil => simp [boxL]
  | cons m ms ih =>
    have h1 := ih fun x hx => h x (by simp [hx])
    have h2 := h m (by simp)
    unfold boxL at h1 ⊢
    rw [List.flatMap_cons, List.length_append, List.length_map, List.length_cons]; omega
theorem mgL_at {ms : List MsgG} {i : Nat} {m : MsgG} (h : ms[i]? = some m) : ∃ ep g1 n1 g2 n2, ((ms.flatMap mgL).drop (i * 4)).take 4 = [.int .i64 ep, svOf g1 n1, svOf g2 n2, svOf m.2.2.2 (itemsM m).length] := by
  obtain ⟨hi, rfl⟩ := List.getElem?_eq_some_iff.1 h
  exact ⟨_, _, _, _, _, (flat_drop mgL_length ms i hi).trans (by unfold mgL rekL itemsM; rfl)⟩
/-- What the loop needs of a message, its items made opaque. -/
theorem msg_at {sc : List BatI} {row : List TreeS} {ms : List MsgG} {gm : Option (Nat × Nat)} (hI : StepsI sc row ms gm) {X : Heap} (hX : ∀ m ∈ ms, ∃ Y, X.Perm (ownIt m.2.2.2 (itemsM m) :: Y)) {i : Nat} (h : i < ms.length) :
    ∃ (its : List Item) (g3 : Option (Nat × Nat)) (Y : Heap) (ep : Int) (g1 : Option (Nat × Nat)) (n1 : Nat) (g2 : Option (Nat × Nat)) (n2 : Nat), X.Perm (ownIt g3 its :: Y) ∧ its.length ≤ 300 ∧ (g3 = none ↔ its = []) ∧ boxL (ms.take (i + 1)) = boxL (ms.take i) ++ its.map (·.2.2) ∧
      ((ms.flatMap mgL).drop (i * 4)).take 4 = [.int .i64 ep, svOf g1 n1, svOf g2 n2, svOf g3 its.length] ∧ (boxL (ms.take i)).length ≤ 300 * i ∧ ∃ mb mc, gm = some (mb, mc) := by
  have hget := List.getElem?_eq_getElem h
  have hmem := List.mem_of_getElem? hget
  obtain ⟨Y, hY⟩ := hX _ hmem
  obtain ⟨ep, g1, n1, g2, n2, hp⟩ := mgL_at hget
  have hb := boxL_len (ms := ms.take i) fun m hm => hI.items (List.mem_of_mem_take hm)
  have hl : (ms.take i).length = i := by rw [List.length_take]; omega
  rw [hl] at hb
  refine ⟨itemsM ms[i], ms[i].2.2.2, Y, ep, g1, n1, g2, n2, hY, hI.items hmem, (hI.gs _ hmem).items, boxL_snoc hget, hp, hb, ?_⟩
  cases gm with
  | none => have := hI.gm.1 rfl; subst this; simp at h
  | some g => exact ⟨g.1, g.2, rfl⟩
theorem own_box (bs : List Bx) (it : Item) (gb gc : Nat) :
    svOf (some (gb, gc)) (bs ++ [it.2.2]).length = .slice (some ⟨gb, 0, none⟩) (bs.length + 1) gc ∧ ownX (some (gb, gc)) (bs ++ [it.2.2]) = .own (.slice (some ⟨gb, 0, none⟩) (bs.length + 1) gc) (bs.length + 1) 37 4 (bs.flatMap bxF ++ [.int .i64 it.2.2.1, .int .i64 it.2.2.2.1, .int .i64 it.2.2.2.2.1, .int .i64 it.2.2.2.2.2]) := by
  have e : (bs ++ [it.2.2]).length = bs.length + 1 := by simp
  have e2 : (bs ++ [it.2.2]).flatMap bxF = bs.flatMap bxF ++ [.int .i64 it.2.2.1, .int .i64 it.2.2.2.1, .int .i64 it.2.2.2.2.1, .int .i64 it.2.2.2.2.2] := by
    rw [List.flatMap_append]; simp [bxF]
  constructor
  · rw [e]
  · unfold ownX; rw [e, e2]
set_option maxHeartbeats 8000000 in
theorem secret_ok (F : Mem) (htab : TabA F) (oa ob : Option Addr) (ca cb : Nat) (sc : List BatI) (hS : ScrF F oa sc) (seen : List (Int × Int)) (hs : SlF F 2 ob seen.length (seen.flatMap seatF)) (hns : seen.length ≤ 10000000) :
    FT Tryd.prog 3 [.slice oa sc.length ca, .slice ob seen.length cb].toArray F [] (Ret (.bool true)) := by
  refine FT.of_body Tryd.func3 rfl Tryd.ntmps3 (by simp) fun C hC => ?_
  subst hC
  conv => whnf
  refine CallS.mk Tryd.call6 ⟨[], _, _, Sub.refl _, fun F' hF' => lives12_ok F' (htab.ext hF'), ?_⟩
  rintro e A' ⟨rfl, rfl⟩
  conv => whnf
  refine CallS.mk Tryd.call7 ⟨[], _, _, Sub.refl _, fun F' hF' => steps_ok F' (htab.ext hF') oa ca sc (hS.ext hF'), ?_⟩
  rintro e A' ⟨row, ms, ⟨gb, gc⟩, gm, hI, rfl, rfl⟩
  have hR := hI.ok
  obtain ⟨hl1, hl2⟩ := hI.len
  have htp : ∀ m ∈ ms, ∃ Y, (tailH ms).Perm (ownIt m.2.2.2 (itemsM m) :: Y) := fun m hm => tail_item hm
  have hbl := boxL_len fun m hm => hI.items hm
  have hrl : (row.flatMap treeF).length = row.length * 236 := flat_length treeF_length row
  rw [List.append_nil]
  generalize tailH ms = X at htp ⊢
  conv => whnf
  try (show forceH X _; rw [forceH_eq]; conv => whnf)
  refine LoopI.by_state (σ := Nat × Option (Nat × Nat)) (fun s => [(1, .slice ob seen.length cb), (5, svOf (some (gb, gc)) row.length), (8, svOf s.2 (boxL (ms.take s.1)).length), (25, svOf gm ms.length), (26, .int .i64 (ms.length : Int)), (27, .int .i64 (s.1 : Int))])
    (fun s => ownR (gb, gc) row :: ownM gm ms :: ownX s.2 (boxL (ms.take s.1)) :: X) (fun s => s.1 ≤ ms.length ∧ (s.2 = none ↔ boxL (ms.take s.1) = [])) (fun s => ms.length - s.1)
    (0, none) ⟨Nat.zero_le _, by simp [boxL]⟩ ⟨rfl, rfl, rfl, rfl, rfl, rfl, trivial⟩ ?_ ?_
  · exact Sub.trans (Sub.nil 37 4) (Sub.selX (A := [_, _, _]) [1, 2, 0] rfl)
  rintro ⟨i, gx⟩ f0 ⟨hi, hgx⟩
  dsimp only at hi hgx ⊢
  conv => whnf
  try (show forceH X _; rw [forceH_eq]; conv => whnf)
  refine cond_dec (fun h => ?_) (fun h => ?_)
  · have hil : i < ms.length := by omega
    obtain ⟨its, g3, Y, ep, g1, n1, g2, n2, hY, hni, hgi, hsn, hpart, hbi, mb, mc, rfl⟩ := msg_at hI htp hil
    generalize boxL (ms.take i) = bx at hgx hsn hbi ⊢
    conv => whnf
    try (show forceH X _; rw [forceH_eq]; conv => whnf)
    refine ⟨by omega, ?_⟩
    conv => whnf
    try (show forceH X _; rw [forceH_eq]; conv => whnf)
    refine LoadV.eq (b := mb) (o := 0 + i * 4) (by exact congrArg (fun o => (⟨mb, o, none⟩ : Addr)) (elem_off2 (o := 0) (n := 4) (by kernel_rfl) rfl)) ?_
    refine LoadV.op 4 [.int .i64 ep, svOf g1 n1, svOf g2 n2, svOf g3 its.length] rfl rfl (by rw [Nat.zero_add]; exact hpart) ?_
    conv => whnf
    try (show forceH X _; rw [forceH_eq]; conv => whnf)
    intro b10
    conv => whnf
    try (show forceH X _; rw [forceH_eq]; conv => whnf)
    refine StoreV.c rfl rfl (Nat.le_of_ble_eq_true rfl) rfl ?_
    conv => whnf
    try (show forceH X _; rw [forceH_eq]; conv => whnf)
    refine LoadV.s rfl rfl ?_
    conv => whnf
    try (show forceH X _; rw [forceH_eq]; conv => whnf)
    refine LoopI.by_state (σ := Nat × Option (Nat × Nat)) (fun s => [(1, .slice ob seen.length cb), (5, svOf (some (gb, gc)) row.length), (8, svOf s.2 (bx ++ (its.take s.1).map (·.2.2)).length), (25, svOf (some (mb, mc)) ms.length), (26, .int .i64 (ms.length : Int)), (27, .int .i64 (i : Int)), (32, svOf g3 its.length), (33, .int .i64 (its.length : Int)), (34, .int .i64 (s.1 : Int))])
      (fun s => ownIt g3 its :: ownR (gb, gc) row :: ownM (some (mb, mc)) ms :: ownX s.2 (bx ++ (its.take s.1).map (·.2.2)) :: Y) (fun s => s.1 ≤ its.length ∧ (s.2 = none ↔ bx ++ (its.take s.1).map (·.2.2) = [])) (fun s => its.length - s.1)
      (0, gx) ⟨Nat.zero_le _, by simpa using hgx⟩ ⟨rfl, rfl, by simp; rfl, rfl, rfl, rfl, rfl, rfl, rfl, trivial⟩ (by simpa using tail_in hY) ?_
    rintro ⟨j, g8⟩ f1 ⟨hj, hg8⟩
    dsimp only at hj hg8 ⊢
    conv => whnf
    try (show forceH Y _; rw [forceH_eq]; conv => whnf)
    refine cond_dec (fun h1 => ?_) (fun h1 => ?_)
    · have hjl : j < its.length := by omega
      have hpt := flat_drop itemF_length its j hjl
      have hsj : (its.take (j + 1)).map (·.2.2) = (its.take j).map (·.2.2) ++ [its[j].2.2] := by rw [take_snoc hjl, List.map_append]; rfl
      have hlj : ((its.take j).map (·.2.2)).length = j := by simp; omega
      obtain ⟨ib, ic, rfl⟩ : ∃ ib ic, g3 = some (ib, ic) := by
        cases g3 with
        | none => have := hgi.1 rfl; subst this; simp at hjl
        | some g => exact ⟨g.1, g.2, rfl⟩
      obtain ⟨it, hit⟩ : ∃ it, it = its[j] := ⟨_, rfl⟩
      rw [← hit] at hpt hsj
      generalize (its.take j).map (·.2.2) = bj at hg8 hsj hlj ⊢
      have hbj : (bx ++ bj).length ≤ 100000 := by rw [List.length_append]; omega
      have hsb : bx ++ (its.take (j + 1)).map (·.2.2) = (bx ++ bj) ++ [it.2.2] := by rw [hsj, List.append_assoc]
      generalize bx ++ bj = bb at hg8 hbj hsb ⊢
      rw [show itemF it = [.int .i64 it.1, .int .i64 it.2.1, .int .i64 it.2.2.1, .int .i64 it.2.2.2.1, .int .i64 it.2.2.2.2.1, .int .i64 it.2.2.2.2.2] from rfl] at hpt
      conv => whnf
      try (show forceH Y _; rw [forceH_eq]; conv => whnf)
      refine ⟨by omega, ?_⟩
      conv => whnf
      try (show forceH Y _; rw [forceH_eq]; conv => whnf)
      refine LoadV.eq (b := ib) (o := 0 + j * 6) (by exact congrArg (fun o => (⟨ib, o, none⟩ : Addr)) (elem_off2 (o := 0) (n := 6) (by kernel_rfl) rfl)) ?_
      refine LoadV.op 6 [.int .i64 it.1, .int .i64 it.2.1, .int .i64 it.2.2.1, .int .i64 it.2.2.2.1, .int .i64 it.2.2.2.2.1, .int .i64 it.2.2.2.2.2] rfl rfl (by rw [Nat.zero_add]; exact hpt) ?_
      conv => whnf
      try (show forceH Y _; rw [forceH_eq]; conv => whnf)
      intro b12
      conv => whnf
      try (show forceH Y _; rw [forceH_eq]; conv => whnf)
      refine StoreV.c rfl rfl (Nat.le_of_ble_eq_true rfl) rfl ?_
      conv => whnf
      try (show forceH Y _; rw [forceH_eq]; conv => whnf)
      refine LoadV.a 4 rfl (Nat.le_of_ble_eq_true rfl) ?_
      conv => whnf
      try (show forceH Y _; rw [forceH_eq]; conv => whnf)
      intro bl
      conv => whnf
      try (show forceH Y _; rw [forceH_eq]; conv => whnf)
      refine BuiltV.append (sv := svOf g8 bb.length) (m := 1) Tryd.underlying29 rfl rfl rfl rfl (by decide) (Row.cells 4) rfl (by decide) rfl (by show (bb.length + 1) * 32 ≤ _; omega) (by omega) fun hb hc => ?_
      conv => whnf
      try (show forceH Y _; rw [forceH_eq]; conv => whnf)
      refine ArI.to64 ((j + 1 : Nat) : Int) (by omega) (by omega) ?_
      conv => whnf
      try (show forceH Y _; rw [forceH_eq]; conv => whnf)
      refine ⟨(j + 1, some (hb, hc)), _, by dsimp only; omega, Sub.selX (A := [_, _, _, _, _, _]) [2, 3, 4, 5] rfl, ⟨by dsimp only; omega, by dsimp only; rw [hsb]; simp⟩, ⟨rfl, rfl, ?_, rfl, rfl, rfl, rfl, rfl, rfl, trivial⟩, ?_⟩
      · dsimp only; rw [hsb, (own_box bb it hb hc).1]; rfl
      · dsimp only; rw [hsb, (own_box bb it hb hc).2]; rfl
    · obtain rfl : j = its.length := by omega
      rw [List.take_length] at hg8 ⊢
      rw [← hsn] at hg8 ⊢
      conv => whnf
      try (show forceH Y _; rw [forceH_eq]; conv => whnf)
      refine ArI.to64 ((i + 1 : Nat) : Int) (by omega) (by omega) ?_
      conv => whnf
      try (show forceH Y _; rw [forceH_eq]; conv => whnf)
      exact ⟨(i + 1, g8), _, by dsimp only; omega, tail_out hY, ⟨by dsimp only; omega, hg8⟩, ⟨rfl, rfl, rfl, rfl, rfl, rfl, trivial⟩, rfl⟩
  · obtain rfl : i = ms.length := by omega
    rw [List.take_length] at hgx ⊢
    have hbox := hI.boxes
    have hks := opened_small hR (seen := seen)
    have hol := opK_len row seen
    have hml := metL_len row seen
    have hlaw := fun m hm => kept_law hR (seen := seen) (bs := boxL ms) (m := m) hbox hm
    have hbs : BoxesIn (boxL ms) := fun b hb => (hbox b hb).small hR
    generalize boxL ms = bs at hgx hbl hlaw hbs ⊢
    have hbsl : (bs.flatMap bxF).length = bs.length * 4 := flat_length bxF_length bs
    conv => whnf
    try (show forceH X _; rw [forceH_eq]; conv => whnf)
    refine CallS.mk Tryd.call8 ⟨[], _, _, Sub.refl _, fun F' hF' => opened_ok F' (some ⟨gb, 0, none⟩) ob gc cb row (SlF.sv (g := some (gb, gc)) hF' hrl (by intro h; cases h)) hR seen (hs.ext hF'.F) hns, ?_⟩
    rintro e A' ⟨g1, g2, hg1, hg2, rfl, rfl⟩
    generalize opK row seen = ks at hg1 hol hks hlaw ⊢
    generalize metL row seen = mt at hg2 hml hlaw ⊢
    have hksl : (ks.flatMap keyF).length = ks.length * 2 := flat_length keyF_length ks
    have hmtl : (mt.flatMap seatF).length = mt.length * 2 := flat_length seatF_length mt
    conv => whnf
    try (show forceH X _; rw [forceH_eq]; conv => whnf)
    refine CallS.mk Tryd.call10 ⟨[], _, _, Sub.refl _, fun F' hF' => closed_ok F' (oaOf g1) (oaOf gx) (capOf g1) (capOf gx) ks bs (SlF.sv hF' hksl (fun e => by rw [hg1.1 e]; rfl)) (SlF.sv hF' hbsl (fun e => by rw [hgx.1 e]; rfl)) (by omega) (by omega) hks hbs, ?_⟩
    rintro e A' ⟨r, es, cl, m, rfl, rfl, M, hC⟩
    have hK := keptB_iff.2 (hlaw m hC.snd)
    conv => whnf
    try (show forceH X _; rw [forceH_eq]; conv => whnf)
    refine CallS.mk Tryd.call9 ⟨[], _, _, Sub.refl _, fun F' hF' => kept_ok F' (some ⟨gb, 0, none⟩) (oaOf g2) gc (capOf g2) row (SlF.sv (g := some (gb, gc)) hF' hrl (by intro h; cases h)) hR r es cl m (RdO.obj hF' (by simp)) M mt (SlF.sv hF' hmtl (fun e => by rw [hg2.1 e]; rfl)) (by omega), ?_⟩
    rintro e A' ⟨rfl, rfl⟩
    rw [hK]
    conv => whnf
    try (show forceH X _; rw [forceH_eq]; conv => whnf)
    refine RetI.one Tryd.results3 rfl ?_
    conv => whnf
    exact ⟨_, Sub.sel [] rfl, rfl, rfl⟩
end Go.Proofs.YtlfmckjehjedpaaDoor

/- Opened keys lead to all node keys of the path, as long as the member stays: plain laws. -/
namespace Go.Proofs.YtlfmckjehjedpaaDoor
set_option linter.unusedVariables false
set_option linter.unusedSimpArgs false
set_option maxRecDepth 100000
open SL Go.RowKit Go.Maps
theorem HasBy.le {m : List (Int × Int)} {a s s' : Int} (h : HasBy m a s) (hs : s ≤ s') : HasBy m a s' := by
  obtain ⟨u, h1, h2⟩ := h; exact ⟨u, h1, by omega⟩
theorem under_path {n q : Nat} (hn : n < 85) (hq : q < 64) (h : under n q = true) : n = 21 + q ∨ n = q / 4 + 5 ∨ n = q / 16 + 1 ∨ n = 0 := by
  have : ∀ n : Fin 85, ∀ q : Fin 64, under n.1 q.1 = true → n.1 = 21 + q.1 ∨ n.1 = q.1 / 4 + 5 ∨ n.1 = q.1 / 16 + 1 ∨ n.1 = 0 := by decide +kernel
  exact this ⟨n, hn⟩ ⟨q, hq⟩ h
theorem Sits.held {t : TreeI} (T : TreeOk t) {w : Int} {q c : Nat} (h : Sits t w q) (hc : c < 85) (hu : under c q = true) : heldB t c = true := by
  have hq := h.lt T
  obtain ⟨hl, ht, _⟩ := h
  refine (hits_iff hc (takenN_lt T.R.len)).2 ⟨q, hq, ?_, hu⟩
  rw [takenN_bit _ _ hl]; exact (tkB_iff _).2 ht
/-- All keys of a seat's path are known. -/
def PathKn (m : List (Int × Int)) (t : TreeI) (q : Nat) : Prop := HasBy m (nodeK t (21 + q)).1 (nodeK t (21 + q)).2 ∧ HasBy m (nodeK t (q / 4 + 5)).1 (nodeK t (q / 4 + 5)).2 ∧ HasBy m (nodeK t (q / 16 + 1)).1 (nodeK t (q / 16 + 1)).2 ∧ HasBy m (nodeK t 0).1 (nodeK t 0).2
/-- The items of the step are read by those who hold what they are sealed under. -/
def Reads (m : List (Int × Int)) (its : List Item) : Prop := ∀ it ∈ its, HasBy m it.2.2.1 it.2.2.2.1 → HasBy m it.2.2.2.2.1 it.2.2.2.2.2
theorem up_key {m : List (Int × Int)} {t : TreeI} (T : TreeOk t) {L J : List Int} (he : t.ep ≠ 200) (hf : Fit t.rs L J) (hr : Reads m (itemsN t L J)) {w : Int} {q : Nat} (hs : Sits (nextT t L J) w q) {v j : Nat} (hv : v < 21) (hj : j < 4) (hu : under (4 * v + 1 + j) q = true)
    (h1 : HasBy m (nodeK t v).1 (nodeK t v).2) (h2 : HasBy m (nodeK (nextT t L J) (4 * v + 1 + j)).1 (nodeK (nextT t L J) (4 * v + 1 + j)).2) : HasBy m (nodeK (nextT t L J) v).1 (nodeK (nextT t L J) v).2 := by
  have T2 := nextT_ok T he hf
  by_cases hp : repT t L v = true
  · have hm : itemT (nextT t L J) v (4 * v + 1 + j) ∈ itemsN t L J := List.mem_append_left _ ((itA_mem 21 (Nat.le_refl _)).2 ⟨v, j, by omega, hv, hj, hp, hs.held T2 (by omega) hu, rfl⟩)
    exact hr _ hm h2
  · have hl : v < t.ks.length := by rw [T.K.len]; exact hv
    have hl2 : v < (nextT t L J).ks.length := by rw [T2.K.len]; exact hv
    rw [nodeK_inner hl hv] at h1
    rw [nodeK_inner hl2 hv]
    have e : (nextT t L J).ks[v] = newKey (repT t L) t.fr v t.ks[v] := turnK_at _ _ _ v hl
    rw [e]; unfold newKey; rw [if_neg hp]
    exact h1.le (by dsimp only; omega)
theorem PathKn.next {m : List (Int × Int)} {t : TreeI} (T : TreeOk t) {L J : List Int} (he : t.ep ≠ 200) (hf : Fit t.rs L J) (hr : Reads m (itemsN t L J)) {w : Int} {q : Nat} (hs : Sits t w q) (hw : w ∉ L) (h : PathKn m t q) : PathKn m (nextT t L J) q := by
  have T2 := nextT_ok T he hf
  have hq := hs.lt T
  obtain ⟨hs2, hat⟩ := hs.stay T he hf hw
  obtain ⟨h1, h2, h3, h4⟩ := h
  obtain ⟨hl, ht, _⟩ := hs
  have hs2' := hs2
  obtain ⟨hl2, ht2, _⟩ := hs2'
  have e1 : HasBy m (nodeK (nextT t L J) (21 + q)).1 (nodeK (nextT t L J) (21 + q)).2 := by
    rw [List.getElem?_eq_getElem hl, List.getElem?_eq_getElem hl2] at hat
    rw [nodeK_leaf hl] at h1
    rw [nodeK_leaf hl2, Option.some.inj hat]
    refine h1.le ?_
    show t.ep - t.rs[q].2.2 ≤ t.ep + 1 - t.rs[q].2.2
    omega
  obtain ⟨u1, u2, u3⟩ := path_under hq
  have e2 : HasBy m (nodeK (nextT t L J) (q / 4 + 5)).1 (nodeK (nextT t L J) (q / 4 + 5)).2 := by
    have e : 4 * (q / 4 + 5) + 1 + q % 4 = 21 + q := by omega
    refine up_key T he hf hr hs2 (j := q % 4) (by omega) (by omega) ?_ h2 ?_
    · rw [e, under_leaf hq hq]; simp
    · rw [e]; exact e1
  have e3 : HasBy m (nodeK (nextT t L J) (q / 16 + 1)).1 (nodeK (nextT t L J) (q / 16 + 1)).2 := by
    have e : 4 * (q / 16 + 1) + 1 + q / 4 % 4 = q / 4 + 5 := by omega
    refine up_key T he hf hr hs2 (j := q / 4 % 4) (by omega) (by omega) ?_ h3 ?_
    · rw [e]; exact u1
    · rw [e]; exact e2
  have e4 : HasBy m (nodeK (nextT t L J) 0).1 (nodeK (nextT t L J) 0).2 := by
    have e : 4 * 0 + 1 + q / 16 = q / 16 + 1 := by omega
    refine up_key T he hf hr hs2 (j := q / 16) (by omega) (by omega) ?_ h4 ?_
    · rw [e]; exact u2
    · rw [e]; exact e3
  exact ⟨e1, e2, e3, e4⟩
/-- Who leaves is gone. -/
theorem leave_gone {t : TreeI} (T : TreeOk t) {L J : List Int} (he : t.ep ≠ 200) (hf : Fit t.rs L J) {w : Int} (hw : w ∈ L) {q : Nat} (h : Sits (nextT t L J) w q) : False := by
  have T2 := nextT_ok T he hf
  have hq64 := h.lt T2
  obtain ⟨hl, ht, hn⟩ := h
  have hst : q < t.rs.length := by have := T.R.len; omega
  have hq2 : q < (leaveR t.rs L).length := by rw [leaveR_length]; exact hst
  rcases moveR_at T.R hf (t.ep + 1) (t.fr + (cntN (repT t L) 21 : Nat)) q hq64 with ⟨h1, _⟩ | ⟨j, hj, _, h1⟩
  · have h2 : (nextT t L J).rs[q]? = (leaveR t.rs L)[q]? := h1
    rw [List.getElem?_eq_getElem hl, List.getElem?_eq_getElem hq2] at h2
    have h3 := Option.some.inj h2
    rw [h3] at ht hn
    have h4 := (leaveR_tk hst).1 ht
    rw [leaveR_at _ _ q hst, if_neg (fun hc => h4.2 hc.2)] at hn
    exact h4.2 (hn ▸ hw)
  · have h2 : (nextT t L J).rs[q]? = some (J[j], t.fr + (cntN (repT t L) 21 : Nat) + (j : Nat), t.ep + 1) := h1
    rw [List.getElem?_eq_getElem hl] at h2
    have h3 := Option.some.inj h2
    rw [h3] at hn
    exact hf.dJ _ (List.getElem_mem hj) (by have h5 : J[j] = w := hn; rw [h5]; exact hw)
theorem mem_boxL {ms : List MsgG} {m : MsgG} (hm : m ∈ ms) {it : Item} (h : it ∈ itemsM m) : it.2.2 ∈ boxL ms := List.mem_flatMap.2 ⟨m, hm, List.mem_map.2 ⟨it, h, rfl⟩⟩
theorem StepsI.reads {sc : List BatI} {row : List TreeS} {ms : List MsgG} {gm : Option (Nat × Nat)} (h : StepsI sc row ms gm) {ks : List KeyI} {cm : List (Int × Int)} (hC : ClosedM ks (boxL ms) cm) {i : Nat} {u : TreeS} (hu : row[i + 1]? = some u) :
    ∃ (t : TreeS) (L J : List Int), row[i]? = some t ∧ t.1.ep ≠ 200 ∧ Fit t.1.rs L J ∧ u.1 = nextT t.1 L J ∧ Reads cm (itemsN t.1 L J) := by
  have hlt := (List.getElem?_eq_some_iff.1 hu).1
  have hl := h.len.1
  have hi : i < ms.length := by omega
  have hmg := List.getElem?_eq_getElem hi
  have hmm := List.getElem_mem hi
  generalize ms[i] = mi at hmg hmm
  obtain ⟨t, u', h1, h2, h3, h4, h5⟩ := h.msg hmg
  rw [hu] at h2; cases h2
  obtain ⟨h6, h7⟩ := stepE_zero.1 h4
  refine ⟨t, _, _, h1, h6, h7, h5, fun it hit hh => hC.boxes it.2.2 (mem_boxL hmm ?_) hh⟩
  unfold itemsM; rw [← h3]; exact hit
/-- Whom somebody was opened at knows the path's keys as long as it stays. -/
theorem path_known {sc : List BatI} {row : List TreeS} {ms : List MsgG} {gm : Option (Nat × Nat)} (h : StepsI sc row ms gm) {seen : List (Int × Int)} {cm : List (Int × Int)} (hC : ClosedM (opK row seen) (boxL ms) cm) {x : Int × Int} (hx : x ∈ metL row seen) :
    ∀ (d : Nat) (i : Nat), x.2 = (i : Int) → On row x.1 x.2 ((i + d : Nat) : Int) → ∃ t q, row[i + d]? = some t ∧ Sits t.1 x.1 q ∧ PathKn cm t.1 q := by
  intro d
  have R := h.ok
  induction d with
  | zero =>
    intro i hi hon
    obtain ⟨_, h2, _, h4⟩ := hon
    have hlt : i < row.length := by omega
    have hg := List.getElem?_eq_getElem hlt
    generalize row[i] = t at hg
    have hf := h4 i t (by omega) (by omega) hg
    have T := (R.tree _ _ hg).1
    obtain ⟨q, hq, hs⟩ := Sits.of hf
    have hin : ∀ k ∈ stK row x, HasBy cm k.1 k.2 := fun k hk => hC.keys k (List.mem_flatMap.2 ⟨x, hx, hk⟩)
    unfold stK at hin
    rw [hi, Int.toNat_natCast, hg] at hin
    dsimp only at hin
    rw [hq, Int.toNat_natCast] at hin
    refine ⟨t, q, hg, hs, ?_⟩
    obtain ⟨hql, htk, _⟩ := hs
    have hle : leafK (t.1.rs.getD q (0, 0, 0)) t.1.ep = nodeK t.1 (21 + q) := by
      rw [nodeK_leaf hql, List.getD_eq_getElem?_getD, List.getElem?_eq_getElem hql]; rfl
    rw [hle] at hin
    exact ⟨hin _ (by simp), hin _ (by simp), hin _ (by simp), hin _ (by simp)⟩
  | succ d ih =>
    intro i hi hon
    have hon' : On row x.1 x.2 ((i + d : Nat) : Int) := ⟨hon.1, by have := hon.2.1; omega, by omega, fun l t h1 h2 h3 => hon.2.2.2 l t h1 (by omega) h3⟩
    obtain ⟨t, q, hg, hs, hp⟩ := ih i hi hon'
    have hlt : i + (d + 1) < row.length := by have := hon.2.1; omega
    have hu := List.getElem?_eq_getElem hlt
    generalize row[i + (d + 1)] = u at hu
    have hf := hon.2.2.2 (i + (d + 1)) u (by omega) (by omega) hu
    obtain ⟨t', L, J, h1, h2, h3, h4, h5⟩ := h.reads hC (i := i + d) (u := u) hu
    rw [hg] at h1; cases h1
    have T := (R.tree _ _ hg).1
    have U := (R.tree _ _ hu).1
    have hw : x.1 ∉ L := fun hw => by
      obtain ⟨q2, hq2, hs2⟩ := Sits.of hf
      rw [h4] at hs2
      exact leave_gone T h2 h3 hw hs2
    refine ⟨u, q, hu, ?_, ?_⟩
    · rw [h4]; exact (hs.stay T h2 h3 hw).1
    · rw [h4]; exact hp.next T h2 h3 h5 hs hw
theorem given_law {sc : List BatI} {row : List TreeS} {ms : List MsgG} {gm : Option (Nat × Nat)} (h : StepsI sc row ms gm) {seen : List (Int × Int)} {cm : List (Int × Int)} (hC : ClosedM (opK row seen) (boxL ms) cm) {i v : Nat} {t : TreeS} (hi : row[i]? = some t) (hv : v < 21) (he : excB row (metL row seen) i v = true) : hasB cm (nodeK t.1 v) = true := by
  have R := h.ok
  obtain ⟨x, hx, hon, t', ht', hb⟩ := excB_iff.1 he
  rw [hi] at ht'; cases ht'
  obtain ⟨a, d, ha, hd⟩ : ∃ a d : Nat, x.2 = (a : Int) ∧ a + d = i := by
    have h1 := hon.1; have h2 := hon.2.2.1
    exact ⟨x.2.toNat, i - x.2.toNat, by omega, by omega⟩
  obtain ⟨t2, q, h1, h2, h3, h4, h5, h6⟩ := path_known h hC hx d a ha (by rw [hd]; exact hon)
  rw [hd, hi] at h1; cases h1
  have T := (R.tree _ _ hi).1
  have hq := h2.lt T
  rw [h2.find T, leafI_in (by omega) (by omega), show (21 + (q : Int)) = ((21 + q : Nat) : Int) by omega] at hb
  refine hasB_iff.2 ?_
  rcases under_path (by omega) hq hb with rfl | rfl | rfl | rfl
  · exact h3
  · exact h4
  · exact h5
  · exact h6
end Go.Proofs.YtlfmckjehjedpaaDoor
