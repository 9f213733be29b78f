/- The law of broken frames, as a contract. -/
import Derived.Test.YtphnpchblkpjhaaFrame12
namespace Go.Proofs.Ytphnpchblkpjhaa
set_option linter.unusedVariables false
set_option linter.unusedSimpArgs false
set_option maxRecDepth 100000
open SL Go.RowKit Go.Maps

theorem pcs_one (l : List Pc) : (l.flatMap pcF).all Value.oneCell' = true := by
  rw [List.all_eq_true]
  intro v hv
  obtain ⟨p, _, hp⟩ := List.mem_flatMap.1 hv
  simp only [pcF, List.mem_cons, List.not_mem_nil, or_false] at hp
  rcases hp with rfl | rfl | rfl | rfl <;> rfl
theorem Row.sub {C : Ctx} {H H0 : Heap} {a : Addr} {vs : List Value} (h : Sub H H0) (r : Row C H0 a vs) : Row C H a vs := fun w hs => r w (h.sat hs)
theorem pcs_take (l : List Pc) (k : Nat) (h : k ≤ l.length) : (l.flatMap pcF).take (k * 4) = (l.take k).flatMap pcF := by
  conv => lhs; rw [← List.take_append_drop k l, List.flatMap_append]
  rw [List.take_left' (by rw [flat_length pcF_length, List.length_take, Nat.min_eq_left h])]
theorem pcs_drop (l : List Pc) (k : Nat) (h : k ≤ l.length) : (l.flatMap pcF).drop (k * 4) = (l.drop k).flatMap pcF := by
  conv => lhs; rw [← List.take_append_drop k l, List.flatMap_append]
  rw [List.drop_left' (by rw [flat_length pcF_length, List.length_take, Nat.min_eq_left h])]
theorem row_pre {C : Ctx} {H : Heap} {b n c T k : Nat} {l : List Pc} [hf : FindOwn H b n c T 4 (l.flatMap pcF)] (hk : k ≤ l.length) : Row C H ⟨b, 0, none⟩ ((l.take k).flatMap pcF) := by
  have := Row.own (C := C) (H := H) (b := b) (o := 0) (hf := hf) (k * 4)
  rwa [List.drop_zero, pcs_take l k hk] at this
theorem row_whole {C : Ctx} {H : Heap} {b n c T : Nat} {l : List Pc} [hf : FindOwn H b n c T 4 (l.flatMap pcF)] : Row C H ⟨b, 0, none⟩ (l.flatMap pcF) := by
  have := row_pre (C := C) (H := H) (b := b) (hf := hf) (Nat.le_refl l.length)
  rwa [List.take_length] at this
theorem pcs_put : ∀ (l : List Pc) (i : Nat) (p : Pc), i < l.length → putAt (l.flatMap pcF) (i * 4) (pcF p) = (l.set i p).flatMap pcF
  | [], _, _, h => by simp at h
  | q :: l, 0, p, _ => by simp [putAt]
  | q :: l, i + 1, p, h => by
    have ih := pcs_put l i p (by simpa using h)
    have e : putAt ((q :: l).flatMap pcF) ((i + 1) * 4) (pcF p) = pcF q ++ putAt (l.flatMap pcF) (i * 4) (pcF p) := by
      simp [putAt, Nat.succ_mul]
    rw [e, ih]; simp
/-- A list of another length than its pieces tell is no frame. -/
theorem whole_len {l m : List Pc} (h : WholeOk l) (hm : ∀ p ∈ m, p ∈ l) (hl : m.length ≠ l.length) : (wholeR m).2.2 = 7 := by
  rw [whole_no]
  intro k
  have hp := List.length_pos_iff.2 k.1
  obtain ⟨_, _, _, h4⟩ := k.2 0 hp
  obtain ⟨i, hi, hq⟩ := List.mem_iff_getElem.1 (hm _ (List.getElem_mem hp))
  obtain ⟨_, _, _, g4⟩ := h.2 i hi
  rw [hq, h4] at g4
  omega
/-- Two pieces that change their places. -/
theorem whole_turn {l : List Pc} (h : WholeOk l) {a b : Nat} (ha : a < l.length) (hb : b < l.length) : ((wholeR ((l.set a l[b]).set b l[a])).2.2 = 0) ↔ a = b := by
  constructor
  · intro h0
    apply Classical.byContradiction
    intro hne
    rw [whole_no] at h0
    · cases h0
    · intro k
      obtain ⟨_, _, k3, _⟩ := k.2 b (by simpa using hb)
      obtain ⟨_, _, g3, _⟩ := h.2 a ha
      rw [List.getElem_set_self, g3] at k3
      omega
  · rintro rfl
    have e : (l.set a l[a]).set a l[a] = l := by rw [List.set_set, List.set_getElem_self]
    rw [e, whole_yes h]
set_option maxHeartbeats 8000000 in
theorem broken_ok (F : Mem) (s : ByteArray) (i j : Int) (hs : s.size ≤ 9223372036854775807) : FT Try.prog 8 [.string s, .int .i64 i, .int .i64 j].toArray F [] (Ret (.bool true)) := by
  have hcan : s.size ≤ 5865 → Can 5 s := fun h => ⟨by decide, by decide, h⟩
  have hR : Can 5 s ∨ ¬ (piecesF 5 s).2 = 0 ∧ (piecesF 5 s).1 = [] := by
    by_cases h : s.size ≤ 5865
    · exact .inl (hcan h)
    · refine .inr ?_
      have e : piecesF 5 s = ([], 9) := by rw [piecesF, if_neg (by omega), if_pos (by omega)]
      rw [e]; exact ⟨by decide, rfl⟩
  have hok : decide ((piecesF 5 s).2 = 0) = decide (s.size ≤ 5865) := by
    by_cases h : s.size ≤ 5865
    · rw [can_pieces (hcan h), decide_eq_true h]; rfl
    · have e : piecesF 5 s = ([], 9) := by rw [piecesF, if_neg (by omega), if_pos (by omega)]
      rw [e, decide_eq_false h]; rfl
  have hp := fun (F' : Mem) => pieces_ok F' 5 s hs hR
  have hW : s.size ≤ 5865 → WholeOk (piecesF 5 s).1 := fun h => (can_whole (hcan h)).1
  have hl2 : s.size ≤ 5865 → ¬ s.size ≤ 23 → 2 ≤ (piecesF 5 s).1.length := fun h h23 => by
    rw [can_pieces (hcan h)]
    simp only [List.length_map, List.length_range]
    unfold partsI; rw [if_neg (by omega)]; omega
  have hle : (piecesF 5 s).1.length ≤ 255 := by have := packF_le 5 s; rw [pack_pieces] at this; simpa using this
  rw [hok] at hp
  generalize (piecesF 5 s).1 = l at hp hW hl2 hle
  clear hR hok
  refine FT.of_body Try.func8 rfl Try.ntmps8 (by simp) fun C hC => ?_
  subst hC
  conv => whnf
  refine CallS.mk Try.call9 ⟨[], _, _, Sub.refl _, fun F' hF' => lives06_ok F', ?_⟩
  rintro e A' ⟨rfl, rfl⟩
  conv => whnf
  refine CallS.mk Try.call21 ⟨[], _, _, Sub.refl _, fun F' hF' => hp F', ?_⟩
  rintro e A' ⟨g, hg, rfl, rfl⟩
  conv => whnf
  refine cond_dec (fun h1 => ?_) (fun h1 => ?_)
  · conv => whnf
    repeat (first | (refine LoadV.s rfl rfl (forceV_of ?_); conv => whnf) | (refine LoadV.s rfl rfl ?_; conv => whnf) | (refine StoreV.c rfl rfl (Nat.le_of_ble_eq_true rfl) rfl ?_; conv => whnf) | (refine LoadV.a _ rfl (Nat.le_of_ble_eq_true rfl) ?_; conv => whnf) | (refine DrawI.quiet (by kernel_rfl) (by kernel_rfl) ?_; conv => whnf) | (refine ArI.in64 (by omega) ?_; conv => whnf) | (refine ArI.inU8 (by omega) ?_; conv => whnf) | (refine ArI.inU64 (by omega) ?_; conv => whnf) | (refine ArI.inU32 (by omega) ?_; conv => whnf) | (refine RetI.one Try.results8 rfl ?_; conv => whnf) | (refine RetI.two Try.results8 rfl rfl ?_; conv => whnf) | (refine RetI.three Try.results8 rfl rfl rfl ?_; conv => whnf) | (refine RetI.none Try.results8 ?_; conv => whnf) | (refine ⟨by first | decide | omega, ?_⟩; conv => whnf))
    refine ⟨_, Sub.sel [] rfl, ret_bool ?_, rfl⟩
    rw [decide_eq_false (show ¬ s.size ≤ 5865 by omega), decide_eq_false (show ¬ ((s.size : Int) ≤ 23) by omega)]; rfl
  conv => whnf
  refine cond_dec (fun h2 => ?_) (fun h2 => ?_)
  · conv => whnf
    repeat (first | (refine LoadV.s rfl rfl (forceV_of ?_); conv => whnf) | (refine LoadV.s rfl rfl ?_; conv => whnf) | (refine StoreV.c rfl rfl (Nat.le_of_ble_eq_true rfl) rfl ?_; conv => whnf) | (refine LoadV.a _ rfl (Nat.le_of_ble_eq_true rfl) ?_; conv => whnf) | (refine DrawI.quiet (by kernel_rfl) (by kernel_rfl) ?_; conv => whnf) | (refine ArI.in64 (by omega) ?_; conv => whnf) | (refine ArI.inU8 (by omega) ?_; conv => whnf) | (refine ArI.inU64 (by omega) ?_; conv => whnf) | (refine ArI.inU32 (by omega) ?_; conv => whnf) | (refine RetI.one Try.results8 rfl ?_; conv => whnf) | (refine RetI.two Try.results8 rfl rfl ?_; conv => whnf) | (refine RetI.three Try.results8 rfl rfl rfl ?_; conv => whnf) | (refine RetI.none Try.results8 ?_; conv => whnf) | (refine ⟨by first | decide | omega, ?_⟩; conv => whnf))
    refine ⟨_, Sub.sel [] rfl, ret_bool ?_, rfl⟩
    rw [decide_eq_true (show s.size ≤ 5865 by omega), decide_eq_true h2]; rfl
  have hWl := hW (by omega)
  have hl2 := hl2 (by omega) (by omega)
  obtain ⟨gb, gc, rfl⟩ := gsome hg hWl.1
  rw [decide_eq_true (show s.size ≤ 5865 by omega)]
  conv => whnf
  refine cond_of_false (decide_eq_false (by omega)) ?_
  obtain ⟨a, hav, ha⟩ := u64_mod i (l.length : Int) (by omega)
  obtain ⟨b, hbv, hb⟩ := u64_mod j (l.length : Int) (by omega)
  have ha : a < l.length := by omega
  have hb : b < l.length := by omega
  conv => whnf
  refine DrawI.quiet (by kernel_rfl) (by kernel_rfl) ?_
  conv => whnf
  refine ArI.keep ?_
  conv => whnf
  refine ArI.inU64 (by omega) ?_
  conv => whnf
  refine ⟨⟨rfl, by omega⟩, ?_⟩
  conv => whnf
  rw [hav]
  refine ArI.in64 (by omega) ?_
  conv => whnf
  refine ArI.keep ?_
  conv => whnf
  refine ArI.inU64 (by omega) ?_
  conv => whnf
  refine ⟨⟨rfl, by omega⟩, ?_⟩
  conv => whnf
  rw [hbv]
  refine ArI.in64 (by omega) ?_
  conv => whnf
  refine DrawI.mixed [0, 4, 9] [_] (by kernel_rfl) (by kernel_rfl) (by kernel_rfl) (by kernel_rfl) (by kernel_rfl) (Sub.sel [0] rfl) ?_
  conv => whnf
  intro b0
  conv => whnf
  refine ⟨Sub.sel [1] rfl, ?_⟩
  conv => whnf
  refine QuietV.slice_own Try.underlying29 rfl (by omega) (by omega) ?_
  rw [Int.toNat_natCast]
  conv => whnf
  refine BuiltV.sub (Sub.own (n := 0) (sz := 4) rfl (by decide)) ?_
  refine BuiltV.append_sv (oa := some ⟨gb, 0, none⟩) (m := a) (news := (l.take (a)).flatMap pcF) (g := some (b0, 0)) (n := 0) (sz := 4) Try.underlying29 rfl rfl rfl rfl (by decide) (.inr ⟨_, rfl, row_pre (by omega)⟩) (by rw [flat_length pcF_length, List.length_take, Nat.min_eq_left (by omega)]) (pcs_one _) (by show (0 + (a)) * 40 ≤ _; omega) (by omega) fun g0 hg0 => ?_
  obtain ⟨x0, y0, rfl⟩ : ∃ b c, g0 = some (b, c) := by
    cases g0 with
    | none => exact absurd (hg0.1 rfl).1 (by simp)
    | some p => exact ⟨p.1, p.2, rfl⟩
  rw [Nat.zero_add, List.nil_append]
  conv => whnf
  refine ⟨Sub.sel [1] rfl, ?_⟩
  conv => whnf
  refine ArI.to64 ((a + 1 : Nat) : Int) (by omega) (by omega) ?_
  conv => whnf
  refine QuietV.slice_own_l (sz := 4) Try.underlying29 rfl rfl (by omega) (by omega) fun ad cc hr1 => ?_
  rw [Int.toNat_natCast] at hr1 ⊢
  rw [pcs_drop l (a + 1) (by omega)] at hr1
  conv => whnf
  refine BuiltV.append_sv (oa := some ad) (m := l.length - (a + 1)) (news := (l.drop (a + 1)).flatMap pcF) (g := some (x0, y0)) (n := a) (sz := 4) Try.underlying29 rfl rfl rfl rfl (by decide) (.inr ⟨_, rfl, Row.sub (Sub.sel [1] rfl) hr1⟩) (by rw [flat_length pcF_length, List.length_drop]) (pcs_one _) (by show (a + (l.length - (a + 1))) * 40 ≤ _; omega) (by omega) fun g1 hg1 => ?_
  obtain ⟨x1, y1, rfl⟩ : ∃ b c, g1 = some (b, c) := by
    cases g1 with
    | none => exact absurd (hg1.1 rfl).1 (by simp)
    | some p => exact ⟨p.1, p.2, rfl⟩
  rw [← List.flatMap_append, show a + (l.length - (a + 1)) = (l.take a ++ l.drop (a + 1)).length by simp; omega]
  have hL1 := whole_len hWl (m := l.take a ++ l.drop (a + 1)) (fun p hp => (List.mem_append.1 hp).elim List.mem_of_mem_take List.mem_of_mem_drop) (by simp; omega)
  have hN1 : (l.take a ++ l.drop (a + 1)).length ≤ 1000 := by simp; omega
  generalize hL1e : l.take a ++ l.drop (a + 1) = L1 at hL1 hN1 ⊢
  conv => whnf
  refine ⟨Sub.sel [1] rfl, ?_⟩
  conv => whnf
  refine DrawI.mixed [0, 5, 9] [_] (by kernel_rfl) (by kernel_rfl) (by kernel_rfl) (by kernel_rfl) (by kernel_rfl) (Sub.sel [1] rfl) ?_
  conv => whnf
  intro b2
  conv => whnf
  refine ⟨Sub.sel [2] rfl, ?_⟩
  conv => whnf
  refine ArI.to64 ((a + 1 : Nat) : Int) (by omega) (by omega) ?_
  conv => whnf
  refine QuietV.slice_own Try.underlying29 rfl (by omega) (by omega) ?_
  rw [Int.toNat_natCast]
  conv => whnf
  refine BuiltV.sub (Sub.own (n := 0) (sz := 4) rfl (by decide)) ?_
  refine BuiltV.append_sv (oa := some ⟨gb, 0, none⟩) (m := a + 1) (news := (l.take (a + 1)).flatMap pcF) (g := some (b2, 0)) (n := 0) (sz := 4) Try.underlying29 rfl rfl rfl rfl (by decide) (.inr ⟨_, rfl, row_pre (by omega)⟩) (by rw [flat_length pcF_length, List.length_take, Nat.min_eq_left (by omega)]) (pcs_one _) (by show (0 + (a + 1)) * 40 ≤ _; omega) (by omega) fun g2 hg2 => ?_
  obtain ⟨x2, y2, rfl⟩ : ∃ b c, g2 = some (b, c) := by
    cases g2 with
    | none => exact absurd (hg2.1 rfl).1 (by simp)
    | some p => exact ⟨p.1, p.2, rfl⟩
  rw [Nat.zero_add, List.nil_append]
  conv => whnf
  refine ⟨Sub.sel [2] rfl, ?_⟩
  conv => whnf
  refine QuietV.slice_own_l (sz := 4) Try.underlying29 rfl rfl (by omega) (by omega) fun ad2 cc2 hr2 => ?_
  rw [Int.toNat_natCast] at hr2 ⊢
  rw [pcs_drop l a (by omega)] at hr2
  conv => whnf
  refine BuiltV.append_sv (oa := some ad2) (m := l.length - a) (news := (l.drop a).flatMap pcF) (g := some (x2, y2)) (n := a + 1) (sz := 4) Try.underlying29 rfl rfl rfl rfl (by decide) (.inr ⟨_, rfl, Row.sub (Sub.sel [2] rfl) hr2⟩) (by rw [flat_length pcF_length, List.length_drop]) (pcs_one _) (by show (a + 1 + (l.length - a)) * 40 ≤ _; omega) (by omega) fun g3 hg3 => ?_
  obtain ⟨x3, y3, rfl⟩ : ∃ b c, g3 = some (b, c) := by
    cases g3 with
    | none => exact absurd (hg3.1 rfl).1 (by simp)
    | some p => exact ⟨p.1, p.2, rfl⟩
  rw [← List.flatMap_append, show a + 1 + (l.length - a) = (l.take (a + 1) ++ l.drop a).length by simp; omega]
  have hL2 := whole_len hWl (m := l.take (a + 1) ++ l.drop a) (fun p hp => (List.mem_append.1 hp).elim List.mem_of_mem_take List.mem_of_mem_drop) (by simp; omega)
  have hN2 : (l.take (a + 1) ++ l.drop a).length ≤ 1000 := by simp; omega
  generalize hL2e : l.take (a + 1) ++ l.drop a = L2 at hL2 hN2 ⊢
  conv => whnf
  refine ⟨Sub.sel [2] rfl, ?_⟩
  conv => whnf
  intro b4
  conv => whnf
  refine BuiltV.sub (Sub.own (n := 0) (sz := 4) rfl (by decide)) ?_
  refine BuiltV.append_sv (oa := some ⟨gb, 0, none⟩) (m := l.length) (news := l.flatMap pcF) (g := some (b4, 0)) (n := 0) (sz := 4) Try.underlying29 rfl rfl rfl rfl (by decide) (.inr ⟨_, rfl, row_whole⟩) (by rw [flat_length pcF_length]) (pcs_one _) (by show (0 + l.length) * 40 ≤ _; omega) (by omega) fun g4 hg4 => ?_
  obtain ⟨x4, y4, rfl⟩ : ∃ b c, g4 = some (b, c) := by
    cases g4 with
    | none => exact absurd (hg4.1 rfl).1 (by simp)
    | some p => exact ⟨p.1, p.2, rfl⟩
  rw [Nat.zero_add, List.nil_append]
  conv => whnf
  have hfl := flat_length pcF_length l
  refine DrawI.early [13, 15] [7, 11] [] _ (by kernel_rfl) (by kernel_rfl) (by kernel_rfl) (by kernel_rfl) (by kernel_rfl) (by kernel_rfl) (by kernel_rfl) (Sub.sel [] rfl) (Sub.refl _) ?_
  conv => whnf
  refine ⟨by omega, ?_⟩
  conv => whnf
  refine LoadV.oa 4 rfl (by show 0 + b * 4 + 4 ≤ (l.flatMap pcF).length; omega) ?_
  rw [show ((l.flatMap pcF).drop (elemOff 0 (b : Int) Try.prog.types[31].size)).take 4 = pcF (l[b]) by show ((l.flatMap pcF).drop (0 + b * 4)).take 4 = _; rw [Nat.zero_add]; exact pc_row l b hb]
  conv => whnf
  refine ⟨by omega, ?_⟩
  conv => whnf
  refine LoadV.oa 4 rfl (by show 0 + a * 4 + 4 ≤ (l.flatMap pcF).length; omega) ?_
  rw [show ((l.flatMap pcF).drop (elemOff 0 (a : Int) Try.prog.types[31].size)).take 4 = pcF (l[a]) by show ((l.flatMap pcF).drop (0 + a * 4)).take 4 = _; rw [Nat.zero_add]; exact pc_row l a ha]
  conv => whnf
  refine ⟨by omega, ?_⟩
  conv => whnf
  refine StoreV.os (l := l.flatMap pcF) rfl rfl (by show 0 + a * 4 + 4 ≤ _; omega) rfl ?_
  rw [show elemOff 0 (a : Int) (Try.prog.types[31]'(by decide)).size = a * 4 by show 0 + a * 4 = _; omega, show (Value.agg (pcF l[b]).toArray).cells.toList = pcF l[b] from rfl, pcs_put l a _ ha]
  refine ⟨Sub.sel [] rfl, ?_⟩
  conv => whnf
  refine ⟨by omega, ?_⟩
  conv => whnf
  refine StoreV.os (l := (l.set a l[b]).flatMap pcF) rfl rfl (by show 0 + b * 4 + 4 ≤ _; rw [flat_length pcF_length, List.length_set]; omega) rfl ?_
  rw [show elemOff 0 (b : Int) (Try.prog.types[31]'(by decide)).size = b * 4 by show 0 + b * 4 = _; omega, show (Value.agg (pcF l[a]).toArray).cells.toList = pcF l[a] from rfl, pcs_put (l.set a l[b]) b _ (by simpa using hb)]
  refine ⟨Sub.sel [] rfl, ?_⟩
  have hL3 := whole_turn hWl ha hb
  have hN3 : ((l.set a l[b]).set b l[a]).length = l.length := by simp
  generalize (l.set a l[b]).set b l[a] = L3 at hL3 hN3 ⊢
  rw [← hN3]
  have hw1 := fun (F' : Mem) (oa : Option Addr) (ca : Nat) (h : SlF F' 4 oa L1.length (L1.flatMap pcF)) => whole_ok F' oa ca L1 h (by omega)
  have hw2 := fun (F' : Mem) (oa : Option Addr) (ca : Nat) (h : SlF F' 4 oa L2.length (L2.flatMap pcF)) => whole_ok F' oa ca L2 h (by omega)
  have hw3 := fun (F' : Mem) (oa : Option Addr) (ca : Nat) (h : SlF F' 4 oa L3.length (L3.flatMap pcF)) => whole_ok F' oa ca L3 h (by omega)
  generalize wholeR L1 = W1 at hL1 hw1
  generalize wholeR L2 = W2 at hL2 hw2
  generalize wholeR L3 = W3 at hL3 hw3
  obtain ⟨p1, q1, r1⟩ := W1
  obtain ⟨p2, q2, r2⟩ := W2
  obtain ⟨p3, q3, r3⟩ := W3
  dsimp only at hL1 hL2 hL3 hw1 hw2 hw3
  subst hL1 hL2
  conv => whnf
  refine CallS.mk Try.call13 ⟨[], _, _, Sub.refl _, fun F' hF' => hw1 F' (some ⟨x1, 0, none⟩) y1 (SlF.sv (g := some (x1, y1)) hF' (T := 31) (by rw [flat_length pcF_length]) (by simp)), ?_⟩
  rintro e A' ⟨rfl, rfl⟩
  conv => whnf
  refine CallS.mk Try.call13 ⟨[], _, _, Sub.refl _, fun F' hF' => hw2 F' (some ⟨x3, 0, none⟩) y3 (SlF.sv (g := some (x3, y3)) hF' (T := 31) (by rw [flat_length pcF_length]) (by simp)), ?_⟩
  rintro e A' ⟨rfl, rfl⟩
  conv => whnf
  refine CallS.mk Try.call13 ⟨[], _, _, Sub.refl _, fun F' hF' => hw3 F' (some ⟨x4, 0, none⟩) y4 (SlF.sv (g := some (x4, y4)) hF' (T := 31) (by rw [flat_length pcF_length]) (by simp)), ?_⟩
  rintro e A' ⟨rfl, rfl⟩
  conv => whnf
  repeat (first | (refine LoadV.s rfl rfl (forceV_of ?_); conv => whnf) | (refine LoadV.s rfl rfl ?_; conv => whnf) | (refine StoreV.c rfl rfl (Nat.le_of_ble_eq_true rfl) rfl ?_; conv => whnf) | (refine LoadV.a _ rfl (Nat.le_of_ble_eq_true rfl) ?_; conv => whnf) | (refine DrawI.quiet (by kernel_rfl) (by kernel_rfl) ?_; conv => whnf) | (refine ArI.in64 (by omega) ?_; conv => whnf) | (refine ArI.inU8 (by omega) ?_; conv => whnf) | (refine ArI.inU64 (by omega) ?_; conv => whnf) | (refine ArI.inU32 (by omega) ?_; conv => whnf) | (refine RetI.one Try.results8 rfl ?_; conv => whnf) | (refine RetI.two Try.results8 rfl rfl ?_; conv => whnf) | (refine RetI.three Try.results8 rfl rfl rfl ?_; conv => whnf) | (refine RetI.none Try.results8 ?_; conv => whnf) | (refine ⟨by first | decide | omega, ?_⟩; conv => whnf))
  refine ⟨_, Sub.sel [] rfl, ret_bool ?_, rfl⟩
  clear hw1 hw2 hw3 hg4 hr1 hr2
  have e1 : (r3 == (0 : Int)) = decide (a = b) := by
    show (r3 == (0 : Int)) = decide (a = b)
    exact Bool.eq_iff_iff.2 (by rw [beq_iff_eq, decide_eq_true_iff]; exact hL3)
  have e2 : ((a : Int) == (b : Int)) = decide (a = b) := by
    exact Bool.eq_iff_iff.2 (by rw [beq_iff_eq, decide_eq_true_iff]; exact ⟨fun h => by omega, fun h => by omega⟩)
  rw [e1, e2]
  exact beq_self_eq_true _
end Go.Proofs.Ytphnpchblkpjhaa
