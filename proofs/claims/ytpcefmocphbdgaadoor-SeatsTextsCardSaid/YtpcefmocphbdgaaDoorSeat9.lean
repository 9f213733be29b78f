/- The laws of the seats, as contracts: lists, the walk, the calls. -/
import Derived.Test.YtpcefmocphbdgaaDoorSeat8
namespace Go.Proofs.YtpcefmocphbdgaaDoor
set_option linter.unusedVariables false
set_option linter.unusedSimpArgs false
set_option maxRecDepth 100000
open SL Go.RowKit Go.Maps Go.Lib

theorem exact_ok (F : Mem) (ht : TabA F) (s : Nat) (hs : s < 18446744073709551616) (n : Int) : FT Tryd.prog 7 [.int .u64 (s : Int), .int .i64 n].toArray F [] (Ret (.bool true)) := by
  refine FT.of_body Tryd.func7 rfl Tryd.ntmps7 (by simp) fun C hC => ?_
  subst hC
  conv => whnf
  refine CallS.mk Tryd.call9 ⟨[], _, _, Sub.refl _, fun F' hF' => lives08_ok F' (ht.ext hF'), ?_⟩
  rintro e A' ⟨rfl, rfl⟩
  conv => whnf
  refine CallS.mk Tryd.call10 ⟨[], _, _, Sub.refl _, fun F' hF' => put_ok F' s hs n, ?_⟩
  rintro e A' ⟨rfl, rfl⟩
  conv => whnf
  refine CallS.mk Tryd.call23 ⟨[], _, _, Sub.refl _, fun F' hF' => set_ok F' s hs n true, ?_⟩
  rintro e A' ⟨rfl, rfl⟩
  rw [show setN s n true = putN s n from rfl]
  conv => whnf
  refine CallS.mk Tryd.call11 ⟨[], _, _, Sub.refl _, fun F' hF' => drop_ok F' s hs n, ?_⟩
  rintro e A' ⟨rfl, rfl⟩
  conv => whnf
  refine CallS.mk Tryd.call23 ⟨[], _, _, Sub.refl _, fun F' hF' => set_ok F' s hs n false, ?_⟩
  rintro e A' ⟨rfl, rfl⟩
  rw [show setN s n false = dropN s n from rfl]
  conv => whnf
  refine cond_of_false (bne_self_eq_false _) ?_
  conv => whnf
  refine cond_of_false (bne_self_eq_false _) ?_
  conv => whnf
  refine cond_of_false (bne_self_eq_false _) ?_
  conv => whnf
  refine cond_of_false (bne_self_eq_false _) ?_
  conv => whnf
  refine CallS.mk Tryd.call12 ⟨[], _, _, Sub.refl _, fun F' hF' => has_ok F' s hs n, ?_⟩
  rintro e A' ⟨rfl, rfl⟩
  conv => whnf
  refine CallS.mk Tryd.call24 ⟨[], _, _, Sub.refl _, fun F' hF' => rhas_ok F' s hs n, ?_⟩
  rintro e A' ⟨rfl, rfl⟩
  conv => whnf
  refine cond_of_true (beq_self_eq_true _) ?_
  conv => whnf
  refine CallS.mk Tryd.call13 ⟨[], _, _, Sub.refl _, fun F' hF' => count_ok F' s hs, ?_⟩
  rintro e A' ⟨rfl, rfl⟩
  conv => whnf
  refine CallS.mk Tryd.call25 ⟨[], _, _, Sub.refl _, fun F' hF' => rcount_ok F' s hs, ?_⟩
  rintro e A' ⟨rfl, rfl⟩
  conv => whnf
  refine cond_of_true (beq_self_eq_true _) ?_
  conv => whnf
  refine CallS.mk Tryd.call17 ⟨[], _, _, Sub.refl _, fun F' hF' => lowest_ok F' (ht.ext hF') s hs, ?_⟩
  rintro e A' ⟨rfl, rfl⟩
  conv => whnf
  refine CallS.mk Tryd.call26 ⟨[], _, _, Sub.refl _, fun F' hF' => rlowest_ok F' s hs, ?_⟩
  rintro e A' ⟨rfl, rfl⟩
  conv => whnf
  refine cond_of_true (beq_self_eq_true _) ?_
  conv => whnf
  refine CallS.mk Tryd.call22 ⟨[], _, _, Sub.refl _, fun F' hF' => next_ok F' (ht.ext hF') s hs n, ?_⟩
  rintro e A' ⟨rfl, rfl⟩
  conv => whnf
  refine CallS.mk Tryd.call27 ⟨[], _, _, Sub.refl _, fun F' hF' => rnext_ok F' s hs n, ?_⟩
  rintro e A' ⟨rfl, rfl⟩
  conv => whnf
  repeat (first | (refine LoadV.s rfl rfl (forceV_of ?_); conv => whnf) | (refine LoadV.s rfl rfl ?_; conv => whnf) | (refine StoreV.c rfl rfl (Nat.le_of_ble_eq_true rfl) rfl ?_; conv => whnf) | (refine LoadV.a _ rfl (Nat.le_of_ble_eq_true rfl) ?_; conv => whnf) | (refine DrawI.quiet (by kernel_rfl) (by kernel_rfl) ?_; conv => whnf) | (refine ArI.in64 (by omega) ?_; conv => whnf) | (refine ArI.inU8 (by omega) ?_; conv => whnf) | (refine ArI.inU64 (by omega) ?_; conv => whnf) | (refine ArI.inU32 (by omega) ?_; conv => whnf) | (refine RetI.one Tryd.results7 rfl ?_; conv => whnf) | (refine RetI.two Tryd.results7 rfl rfl ?_; conv => whnf) | (refine RetI.three Tryd.results7 rfl rfl rfl ?_; conv => whnf) | (refine RetI.none Tryd.results7 ?_; conv => whnf) | (refine ⟨by first | decide | omega, ?_⟩; conv => whnf))
  exact ⟨_, Sub.sel [] rfl, ret_bool (beq_self_eq_true _), rfl⟩
theorem walk_ok (F : Mem) (ht : TabA F) (s : Nat) (hs : s < 18446744073709551616) : FT Tryd.prog 6 [.int .u64 (s : Int)].toArray F [] (Ret (.bool true)) := by
  have hlen := slots_length_le s
  have hmem : ∀ x ∈ slots s, x < 64 ∧ s.testBit x = true := fun x hx => mem_slots.1 hx
  have hwn := @walk_next s
  have hwm := @walk_more s
  have hcnt := fun F' => count_ok F' s hs
  refine FT.of_body Tryd.func6 rfl Tryd.ntmps6 (by simp) fun C hC => ?_
  subst hC
  conv => whnf
  refine CallS.mk Tryd.call9 ⟨[], _, _, Sub.refl _, fun F' hF' => lives08_ok F' (ht.ext hF'), ?_⟩
  rintro e A' ⟨rfl, rfl⟩
  conv => whnf
  refine CallS.mk Tryd.call20 ⟨[], _, _, Sub.refl _, fun F' hF' => list_ok F' (ht.ext hF') s hs, ?_⟩
  rintro e A' ⟨g, hg, rfl, rfl⟩
  generalize slots s = L at *
  conv => whnf
  refine LoopI.by_state (σ := Nat × Nat) (fun x => [(0, .int .u64 (s : Int)), (3, svOf g L.length), (4, .int .i64 (x.2 : Int)), (5, .int .i64 (x.1 : Int))]) (fun _ => [ownL g L]) (fun x => x.1 ≤ L.length ∧ x.2 ≤ 64 ∧ (∀ y ∈ L.take x.1, y < x.2) ∧ (∀ y ∈ L.drop x.1, x.2 ≤ y)) (fun x => L.length + 1 - x.1) (0, 0)
    ⟨Nat.zero_le _, Nat.zero_le _, by simp, by simp⟩ ⟨rfl, rfl, rfl, rfl, trivial⟩ (Sub.refl _) ?_
  rintro ⟨i, k⟩ f0 ⟨hi, hk, h1, h2⟩
  dsimp only at hi hk h1 h2 ⊢
  have hnx : nextI s (k : Int) = optI (L.drop i).head? := by
    unfold nextI
    rw [show (max (k : Int) 0).toNat = k by omega, hwn h1 h2]
  conv => whnf
  refine cond_dec (fun h => ?_) (fun h => absurd h (by omega))
  conv => whnf
  refine CallS.mk Tryd.call22 ⟨[], _, _, Sub.refl _, fun F' hF' => next_ok F' (ht.ext hF') s hs (k : Int), ?_⟩
  rw [hnx]
  rintro e A' ⟨rfl, rfl⟩
  conv => whnf
  by_cases he : i = L.length
  · subst he
    rw [List.drop_of_length_le (Nat.le_refl _)]
    rw [show ((L.length : Int) == (L.length : Int)) = true from beq_self_eq_true _]
    conv => whnf
    refine CallS.mk Tryd.call13 ⟨[], _, _, Sub.refl _, fun F' hF' => hcnt F', ?_⟩
    rintro e A' ⟨rfl, rfl⟩
    conv => whnf
    repeat (first | (refine LoadV.s rfl rfl (forceV_of ?_); conv => whnf) | (refine LoadV.s rfl rfl ?_; conv => whnf) | (refine StoreV.c rfl rfl (Nat.le_of_ble_eq_true rfl) rfl ?_; conv => whnf) | (refine LoadV.a _ rfl (Nat.le_of_ble_eq_true rfl) ?_; conv => whnf) | (refine DrawI.quiet (by kernel_rfl) (by kernel_rfl) ?_; conv => whnf) | (refine ArI.in64 (by omega) ?_; conv => whnf) | (refine ArI.inU8 (by omega) ?_; conv => whnf) | (refine ArI.inU64 (by omega) ?_; conv => whnf) | (refine ArI.inU32 (by omega) ?_; conv => whnf) | (refine RetI.one Tryd.results6 rfl ?_; conv => whnf) | (refine RetI.two Tryd.results6 rfl rfl ?_; conv => whnf) | (refine RetI.three Tryd.results6 rfl rfl rfl ?_; conv => whnf) | (refine RetI.none Tryd.results6 ?_; conv => whnf) | (refine ⟨by first | decide | omega, ?_⟩; conv => whnf))
    exact ⟨_, Sub.sel [] rfl, ret_bool (beq_self_eq_true _), rfl⟩
  · rw [show ((i : Int) == (L.length : Int)) = false from beq_eq_false_iff_ne.2 (by omega)]
    have hil : i < L.length := by omega
    obtain ⟨m1, m2⟩ := hwm hil
    have hget : (natsV L)[i]? = some (.int .i64 (L[i] : Int)) := by rw [List.getElem?_map, List.getElem?_eq_getElem hil]; rfl
    obtain ⟨l64, lbit⟩ := hmem L[i] (List.getElem_mem hil)
    have hki : k ≤ L[i] := h2 _ (by rw [List.drop_eq_getElem_cons hil]; exact List.mem_cons_self)
    rw [show (L.drop i).head? = some L[i] by rw [List.drop_eq_getElem_cons hil]; rfl]
    obtain ⟨xb, xc, rfl⟩ := gsome hg (by intro e; rw [e] at hil; simp at hil)
    generalize L[i] = y at *
    conv => whnf
    refine ⟨by omega, ?_⟩
    conv => whnf
    rw [elemOff_nat]
    rotate_left
    · kernel_rfl
    rw [Nat.zero_add]
    refine LoadV.os rfl hget ?_
    conv => whnf
    refine cond_of_false (bne_self_eq_false _) ?_
    conv => whnf
    rw [show decide (optI (some y) < (k : Int)) = false from decide_eq_false (by show ¬ (y : Int) < k; omega)]
    conv => whnf
    refine CallS.mk Tryd.call12 ⟨[], _, _, Sub.refl _, fun F' hF' => has_ok F' s hs (y : Int), ?_⟩
    rw [show hasN s (y : Int) = true by unfold hasN; rw [decide_eq_true (by omega), Int.toNat_natCast, lbit]; rfl]
    rintro e A' ⟨rfl, rfl⟩
    conv => whnf
    refine ArI.to64 ((y + 1 : Nat) : Int) (by show (y : Int) + 1 = _; omega) (by omega) ?_
    conv => whnf
    refine ArI.to64 ((i + 1 : Nat) : Int) (by omega) (by omega) ?_
    conv => whnf
    exact ⟨(i + 1, y + 1), _, by dsimp only; omega, Sub.refl _, ⟨by dsimp only; omega, by dsimp only; omega, m1, m2⟩, ⟨rfl, rfl, rfl, rfl, trivial⟩, rfl⟩
theorem foldS_slots {s : Nat} (hs : s < 18446744073709551616) : ofS (ints (slots s)) = s ∧ errO (ints (slots s)) = 0 := by
  have hall : allOk (ints (slots s)) = true := by
    unfold allOk
    rw [List.all_eq_true]
    intro x hx
    obtain ⟨y, hy, rfl⟩ := List.mem_map.1 hx
    have := (mem_slots.1 hy).1
    exact decide_eq_true ⟨by omega, by omega⟩
  have hf : ∀ (l : List Nat) (t : Nat), (∀ x ∈ l, x < 64) → foldS t (ints l) = putL t l := by
    intro l
    induction l with
    | nil => intro t _; rfl
    | cons x l ih =>
      intro t h
      have hx := h x (by simp)
      show foldS (putN t (x : Int)) (ints l) = _
      rw [ih _ fun y hy => h y (by simp [hy])]
      unfold putN
      rw [if_pos ⟨by omega, by omega⟩, Int.toNat_natCast]; rfl
  refine ⟨?_, if_pos hall⟩
  unfold ofS
  rw [if_pos hall, hf _ _ fun x hx => (mem_slots.1 hx).1, putL_slots hs]
theorem lists_ok (F : Mem) (ht : TabA F) (s : Nat) (hs : s < 18446744073709551616) (ob : Option Addr) (cb : Nat) (ws : List Int) (hv : SlF F 1 ob ws.length (intsV ws)) (hc : ob = none → cb = 0) (hm : ws.length * 8 + 2048 ≤ 140737488355328) :
    FT Tryd.prog 5 [.int .u64 (s : Int), .slice ob ws.length cb].toArray F [] (Ret (.bool true)) := by
  have hlen := slots_length_le s
  obtain ⟨hback, hberr⟩ := foldS_slots hs
  refine FT.of_body Tryd.func5 rfl Tryd.ntmps5 (by simp) fun C hC => ?_
  subst hC
  conv => whnf
  refine CallS.mk Tryd.call9 ⟨[], _, _, Sub.refl _, fun F' hF' => lives08_ok F' (ht.ext hF'), ?_⟩
  rintro e A' ⟨rfl, rfl⟩
  conv => whnf
  intro b0
  conv => whnf
  refine BuiltV.sub (Sub.own (n := 0) (sz := 1) rfl (by decide)) ?_
  refine BuiltV.append_sv (g := some (b0, 0)) (n := 0) (sz := 1) Tryd.underlying30 rfl rfl rfl rfl (by decide) (Src.foreign hv hc) (by simp) (by simp [Value.oneCell']) (by show (0 + ws.length) * 8 ≤ _; omega) (by omega) fun g hg => ?_
  obtain ⟨g0b, g0c, rfl⟩ : ∃ b c, g = some (b, c) := by
    cases g with
    | none => exact absurd (hg.1 rfl).1 (by simp)
    | some p => exact ⟨p.1, p.2, rfl⟩
  conv => whnf
  intro b1
  conv => whnf
  refine BuiltV.append (sv := svOf (some (g0b, g0c)) (0 + ws.length)) (m := 1) Tryd.underlying30 rfl rfl rfl rfl (by decide) (Row.cells 1) rfl (by decide) rfl (by show (0 + ws.length + 1) * 8 ≤ _; omega) (by omega) fun gb gc => ?_
  rw [show (([] : List Value) ++ intsV ws) ++ List.take 1 (List.drop 0 [Value.int .i64 (-77)]) = intsV ws ++ [.int .i64 (-77)] from rfl, Nat.zero_add]
  conv => whnf
  refine DoV.slice_own Tryd.underlying30 rfl (by omega) (by omega) ?_
  conv => whnf
  have hpre : (intsV ws ++ [Value.int .i64 (-77)]).take (ws.length * 1) = intsV ws := by rw [Nat.mul_one, List.take_append_of_le_length (by simp), List.take_of_length_le (by simp)]
  refine CallS.mk Tryd.call18 ⟨[], _, _, Sub.refl _, fun F' hF' => of_ok F' (some ⟨gb, 0, none⟩) gc ws (by have := SlF.own_pre (n := ws.length) (sz := 1) (b := gb) hF' (by simp); rwa [hpre] at this) (by omega), ?_⟩
  rintro e A' ⟨rfl, rfl⟩
  conv => whnf
  refine CallS.mk Tryd.call19 ⟨[], _, _, Sub.refl _, fun F' hF' => rof_ok F' ob cb ws (hv.ext hF'.F) (by omega), ?_⟩
  rintro e A' ⟨rfl, rfl⟩
  conv => whnf
  refine cond_of_false (bne_self_eq_false _) ?_
  conv => whnf
  refine cond_of_false (bne_self_eq_false _) ?_
  conv => whnf
  refine ⟨by omega, ?_⟩
  conv => whnf
  rw [elemOff_nat]
  rotate_left
  · kernel_rfl
  rw [Nat.zero_add]
  refine LoadV.os rfl (v := .int .i64 (-77)) (by simp) ?_
  conv => whnf
  refine DoV.slice_own Tryd.underlying30 rfl (by omega) (by omega) ?_
  conv => whnf
  refine CallS.mk Tryd.call16 ⟨[], _, _, Sub.refl _, fun F' hF' => same_ok F' (some ⟨gb, 0, none⟩) ob gc cb ws ws (by have := SlF.own_pre (n := ws.length) (sz := 1) (b := gb) hF' (by simp); rwa [hpre] at this) (hv.ext hF'.F) (by omega), ?_⟩
  rw [show decide (ws = ws) = true from decide_eq_true rfl]
  rintro e A' ⟨rfl, rfl⟩
  conv => whnf
  refine CallS.mk Tryd.call20 ⟨[], [], _, Sub.sel [] rfl, fun F' hF' => list_ok F' (ht.ext hF') s hs, ?_⟩
  rintro e A' ⟨g1, hg1, rfl, rfl⟩
  conv => whnf
  refine CallS.mk Tryd.call20 ⟨[], _, _, Sub.refl _, fun F' hF' => list_ok F' (ht.ext hF') s hs, ?_⟩
  rintro e A' ⟨g3, hg3, rfl, rfl⟩
  conv => whnf
  refine CallS.mk Tryd.call21 ⟨[], _, _, Sub.refl _, fun F' hF' => rlist_ok F' s hs, ?_⟩
  rintro e A' ⟨g2, hg2, rfl, rfl⟩
  generalize slots s = L at *
  conv => whnf
  refine CallS.mk Tryd.call16 ⟨[], _, _, Sub.refl _, fun F' hF' => same_own hF' g1 g2 L hg1 hg2 (by omega), ?_⟩
  rintro e A' ⟨rfl, rfl⟩
  conv => whnf
  refine CallS.mk Tryd.call16 ⟨[], _, _, Sub.refl _, fun F' hF' => same_own hF' g3 g2 L hg3 hg2 (by omega), ?_⟩
  rintro e A' ⟨rfl, rfl⟩
  conv => whnf
  refine LoopI.by_state (σ := Nat × List Int) (fun x => [(0, .int .u64 (s : Int)), (10, svOf g1 L.length), (11, svOf g3 L.length), (12, svOf g2 L.length), (77, svOf g1 L.length), (78, .int .i64 (L.length : Int)), (79, .int .i64 (x.1 : Int))]) (fun x => [.own (svOf g1 L.length) L.length 3 1 (intsV x.2), ownL g3 L, ownL g2 L])
    (fun x => x.1 ≤ L.length ∧ x.2.length = L.length) (fun x => L.length - x.1) (0, ints L) ⟨Nat.zero_le _, by simp⟩ ⟨rfl, rfl, rfl, rfl, rfl, rfl, rfl, trivial⟩ (by rw [← natsV_ints]; exact Sub.sel [2, 1, 0] rfl) ?_
  rintro ⟨i, Q⟩ f1 ⟨hi2, hQ⟩
  dsimp only at hi2 hQ ⊢
  conv => whnf
  refine cond_dec (fun h2 => ?_) (fun h2 => ?_)
  · have hil : i < Q.length := by omega
    obtain ⟨xb, xc, rfl⟩ := gsome hg1 (by intro e; rw [e] at hQ; simp only [List.length_nil] at hQ; omega)
    conv => whnf
    refine ⟨by omega, ?_⟩
    conv => whnf
    rw [elemOff_nat]
    rotate_left
    · kernel_rfl
    rw [Nat.zero_add]
    refine StoreV.os (l := intsV Q) rfl rfl (by show i + 1 ≤ _; simp; omega) rfl ?_
    rw [show (Value.int IntKind.i64 (-1)).cells.toList = [.int .i64 (-1)] from rfl, intsV_put Q i _ hil]
    conv => whnf
    refine ArI.to64 ((i + 1 : Nat) : Int) (by omega) (by omega) ?_
    conv => whnf
    exact ⟨(i + 1, Q.set i (-1)), _, by dsimp only; omega, Sub.refl _, ⟨by dsimp only; omega, by simp [hQ]⟩, ⟨rfl, rfl, rfl, rfl, rfl, rfl, rfl, trivial⟩, rfl⟩
  · conv => whnf
    intro b3
    conv => whnf
    refine BuiltV.append (sv := svOf g1 L.length) (m := 1) Tryd.underlying30 rfl rfl rfl rfl (by decide) (Row.cells 1) rfl (by decide) rfl (by show (L.length + 1) * 8 ≤ _; omega) (by omega) fun gb4 gc4 => ?_
    conv => whnf
    have hof := fun (F' : Mem) (h : SlF F' 1 (oaOf g3) L.length (natsV L)) => of_ok F' (oaOf g3) (capOf g3) (ints L) (by rw [← natsV_ints, List.length_map]; exact h) (by rw [List.length_map]; omega)
    rw [hback, hberr, List.length_map] at hof
    refine CallS.mk Tryd.call18 ⟨[], _, _, Sub.refl _, fun F' hF' => hof F' (SlF.sv hF' (T := 3) (by simp) (fun e => by rw [hg3.1 e]; rfl)), ?_⟩
    rintro e A' ⟨rfl, rfl⟩
    conv => whnf
    refine CallS.mk Tryd.call16 ⟨[], _, _, Sub.refl _, fun F' hF' => same_own hF' g3 g2 L hg3 hg2 (by omega), ?_⟩
    rintro e A' ⟨rfl, rfl⟩
    conv => whnf
    rw [show ((s : Int) == (s : Int)) = true from beq_self_eq_true _]
    conv => whnf
    refine ArI.in64 (by omega) ?_
    conv => whnf
    rw [show (((L.length + 1 : Nat) : Int) == (L.length : Int) + 1) = true from beq_iff_eq.2 (by omega)]
    conv => whnf
    repeat (first | (refine LoadV.s rfl rfl (forceV_of ?_); conv => whnf) | (refine LoadV.s rfl rfl ?_; conv => whnf) | (refine StoreV.c rfl rfl (Nat.le_of_ble_eq_true rfl) rfl ?_; conv => whnf) | (refine LoadV.a _ rfl (Nat.le_of_ble_eq_true rfl) ?_; conv => whnf) | (refine DrawI.quiet (by kernel_rfl) (by kernel_rfl) ?_; conv => whnf) | (refine ArI.in64 (by omega) ?_; conv => whnf) | (refine ArI.inU8 (by omega) ?_; conv => whnf) | (refine ArI.inU64 (by omega) ?_; conv => whnf) | (refine ArI.inU32 (by omega) ?_; conv => whnf) | (refine RetI.one Tryd.results5 rfl ?_; conv => whnf) | (refine RetI.two Tryd.results5 rfl rfl ?_; conv => whnf) | (refine RetI.three Tryd.results5 rfl rfl rfl ?_; conv => whnf) | (refine RetI.none Tryd.results5 ?_; conv => whnf) | (refine ⟨by first | decide | omega, ?_⟩; conv => whnf))
    exact ⟨_, Sub.sel [] rfl, rfl, rfl⟩
end Go.Proofs.YtpcefmocphbdgaaDoor
