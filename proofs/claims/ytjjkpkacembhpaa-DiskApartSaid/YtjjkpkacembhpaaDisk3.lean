/- The disk: the log's copy, the image, cutting. -/
import Derived.Test.YtjjkpkacembhpaaDisk2
namespace Go.Proofs.Ytjjkpkacembhpaa
set_option linter.unusedVariables false
set_option linter.unusedSimpArgs false
open SL Go.RowKit Go.Maps

theorem logCells_one (lg : List (Int × ByteArray)) : ∀ x ∈ logCells lg, x.oneCell' = true := by
  intro x hx
  obtain ⟨p, _, hp⟩ := List.mem_flatMap.1 hx
  simp only [List.mem_cons, List.not_mem_nil, or_false] at hp
  rcases hp with rfl | rfl <;> rfl
/-- A copy of a row of writes: nil of none. -/
theorem sclone_ok (F : Mem) (g : Option (Nat × Nat)) (lg : List (Int × ByteArray)) (hg : g = none → lg = []) (hg2 : g ≠ none → lg ≠ []) (hlog : lg.length * 24 ≤ 140737488355328) :
    FT Try.prog 28 [svOf g lg.length].toArray F [.own (svOf g lg.length) lg.length 29 2 (logCells lg)]
    (fun e H => ∃ g', (g' = none ↔ g = none) ∧ e = .returned (svOf g' lg.length) ∧ H = [.own (svOf g' lg.length) lg.length 29 2 (logCells lg), .own (svOf g lg.length) lg.length 29 2 (logCells lg)]) := by
  cases g with
  | none =>
    obtain rfl := hg rfl
    refine FT.of_body Try.func28 rfl Try.ntmps28 (by simp) fun C hC => ?_
    conv => whnf
    refine RetI.one Try.results28 rfl ?_
    conv => whnf
    exact ⟨_, Sub.nil 29 2, none, by simp, rfl, rfl⟩
  | some p =>
    obtain ⟨b, cap⟩ := p
    have hpos : 0 < lg.length := List.length_pos_iff.2 (hg2 (by simp))
    rw [show svOf (some (b, cap)) lg.length = .slice (some ⟨b, 0, none⟩) lg.length cap from rfl]
    refine FT.of_body Try.func28 rfl Try.ntmps28 (by simp) fun C hC => ?_
    conv => whnf
    intro b2
    conv => whnf
    refine BuiltV.sub (Sub.own (n := 0) (sz := 2) rfl (by decide)) ?_
    have hrow : ((logCells lg).take (lg.length * 2)).length = lg.length * 2 := by rw [List.length_take, logCells_length]; omega
    have hone : ((logCells lg).take (lg.length * 2)).all Value.oneCell' = true := List.all_eq_true.2 fun x hx => logCells_one lg x (List.mem_of_mem_take hx)
    refine BuiltV.append (news := (logCells lg).take (lg.length * 2)) (sv := .slice (some ⟨b2, 0, none⟩) 0 0) (m := lg.length) (sz := 2) Try.underlying22 rfl rfl rfl rfl (by decide) (Row.own (l := logCells lg) (lg.length * 2)) hrow hpos hone (by rw [Nat.zero_add]; exact hlog) (by omega) fun g cap => ?_
    conv => whnf
    refine RetI.one Try.results28 rfl ?_
    conv => whnf
    refine ⟨_, Sub.refl _, some (g, cap), by simp, ?_, ?_⟩
    · simp [svOf]
    · have e1 : (logCells lg).take (lg.length * 2) = logCells lg := List.take_of_length_le (by rw [logCells_length]; omega)
      show [HObj.own (.slice (some ⟨g, 0, none⟩) (0 + lg.length) cap) (0 + lg.length) 29 2 ((logCells lg).take (lg.length * 2)), _] = _
      rw [e1, Nat.zero_add]
theorem writes_ok (F : Mem) (d rf rb : Nat) (o1 o2 : Obj) (g : Option (Nat × Nat)) (lg : List (Int × ByteArray)) (on : Bool) (l : Int) (hg : g = none → lg = []) (hg2 : g ≠ none → lg ≠ []) (hlog : lg.length * 24 ≤ 140737488355328) :
    FT Try.prog 10 [.pointer (some ⟨d, 0, none⟩)].toArray F (diskH d rf rb o1 o2 (svOf g lg.length) lg on l)
    (fun e H => ∃ g', (g' = none ↔ g = none) ∧ e = .returned (svOf g' lg.length) ∧ H = .own (svOf g' lg.length) lg.length 29 2 (logCells lg) :: diskH d rf rb o1 o2 (svOf g lg.length) lg on l) := by
  refine FT.of_body Try.func10 rfl Try.ntmps10 (by simp) fun C hC => ?_
  conv => whnf
  refine LoadV.s rfl rfl ?_
  refine forceV_of ?_
  conv => whnf
  refine CallS.mk Try.call28 ⟨[_], _, _, Sub.split [3] rfl, fun F' _ => sclone_ok F' g lg hg hg2 hlog, ?_⟩
  rintro e A' ⟨g', hgg, rfl, rfl⟩
  cases g' with
  | none =>
    conv => whnf
    refine RetI.one Try.results10 rfl ?_
    conv => whnf
    exact ⟨_, Sub.sel [0, 2, 3, 4, 1] rfl, none, hgg, rfl, rfl⟩
  | some p =>
    conv => whnf
    refine RetI.one Try.results10 rfl ?_
    conv => whnf
    exact ⟨_, Sub.sel [0, 2, 3, 4, 1] rfl, some p, hgg, rfl, rfl⟩
/-! ### The image -/
theorem filter_lt {α : Type} {p q : α → Bool} (hpq : ∀ y, q y = true → p y = true) {x : α} : ∀ (l : List α), x ∈ l → p x = true → q x = false → (l.filter q).length < (l.filter p).length
  | [], h, _, _ => by cases h
  | y :: l, h, hp, hq => by
    have hle : (l.filter q).length ≤ (l.filter p).length := by
      clear h
      induction l with
      | nil => simp
      | cons z l ih =>
        cases h1 : q z with
        | true => simp [h1, hpq z h1, ih]
        | false => cases h2 : p z <;> simp [h1, h2] <;> omega
    rcases List.mem_cons.1 h with rfl | h
    · simp [hp, hq]; omega
    · have ih := filter_lt hpq l h hp hq
      cases h1 : q y with
      | true => simp [h1, hpq y h1, ih]
      | false => cases h2 : p y <;> simp [h1, h2] <;> omega
theorem born_inj : ∀ {l : List MapEntry}, (l.map (·.born)).Nodup → ∀ {e x : MapEntry}, e ∈ l → x ∈ l → e.born = x.born → e = x
  | [], _, _, _, h, _, _ => by cases h
  | y :: l, hn, e, x, he, hx, h => by
    have hn1 := List.nodup_cons.1 hn
    rcases List.mem_cons.1 he with h1 | h1
    · rcases List.mem_cons.1 hx with h2 | h2
      · rw [h1, h2]
      · exact absurd (List.mem_map.2 ⟨x, h2, by rw [← h, h1]⟩) hn1.1
    · rcases List.mem_cons.1 hx with h2 | h2
      · exact absurd (List.mem_map.2 ⟨e, h1, by rw [h, h2]⟩) hn1.1
      · exact born_inj hn1.2 h1 h2 h
abbrev nul : ByteArray := ⟨#[]⟩
theorem size_nul {s : ByteArray} : (s.toList == (⟨#[]⟩ : ByteArray).toList) = true ↔ s.size = 0 := by
  rw [beq_iff_eq, ByteArray.toList_eq, ByteArray.toList_eq]
  constructor
  · intro h; have := congrArg List.length h; simpa using this
  · intro h; exact List.eq_nil_of_length_eq_zero (by simpa using h)
/-- One more than the greatest place of a text that isn't empty. -/
def topM : List (Int × ByteArray) → Int
  | [] => 0
  | p :: m => if p.2.size = 0 then topM m else max (topM m) (p.1 + 1)
theorem topM_nonneg (m : List (Int × ByteArray)) : 0 ≤ topM m := by
  induction m with
  | nil => simp [topM]
  | cons p m ih => unfold topM; split <;> omega
theorem le_topM {m : List (Int × ByteArray)} {p : Int × ByteArray} (h : p ∈ m) (hs : p.2.size ≠ 0) : p.1 + 1 ≤ topM m := by
  induction m with
  | nil => cases h
  | cons q m ih =>
    unfold topM
    rcases List.mem_cons.1 h with rfl | h
    · rw [if_neg hs]; omega
    · have := ih h; split <;> omega
theorem topM_le {m : List (Int × ByteArray)} {k : Int} (h0 : 0 ≤ k) (h : ∀ p ∈ m, p.2.size ≠ 0 → p.1 + 1 ≤ k) : topM m ≤ k := by
  induction m with
  | nil => simpa [topM] using h0
  | cons q m ih =>
    have := ih fun p hp => h p (by simp [hp])
    unfold topM
    split
    · exact this
    · have := h q (by simp) (by assumption); omega
theorem topM_eq {m m' : List (Int × ByteArray)} (h : ∀ p ∈ m, p ∈ m') (h' : ∀ p ∈ m', p ∈ m) : topM m = topM m' :=
  Int.le_antisymm (topM_le (topM_nonneg _) fun p hp hs => le_topM (h p hp) hs) (topM_le (topM_nonneg _) fun p hp hs => le_topM (h' p hp) hs)
def imageL (m : List (Int × ByteArray)) : List ByteArray := (List.range (topM m).toNat).map fun i => (lookM m (Int.ofNat i)).getD nul
theorem imageL_length (m : List (Int × ByteArray)) : (imageL m).length = (topM m).toNat := by simp [imageL]
/-- The places are those of a disk. -/
def InDisk (m : List (Int × ByteArray)) : Prop := ∀ p ∈ m, 0 ≤ p.1 ∧ p.1 < 2048
theorem topM_small {m : List (Int × ByteArray)} (h : InDisk m) : topM m ≤ 2048 := topM_le (by omega) fun p hp _ => by have := h p hp; omega
def imgRow (m : List (Int × ByteArray)) (i : Nat) : List Value := (List.range (topM m).toNat).map fun j => if j < i then .string ((lookM m (Int.ofNat j)).getD nul) else .string nul
theorem imgRow_zero (m : List (Int × ByteArray)) : imgRow m 0 = List.replicate (topM m).toNat (.string nul) := by
  simp [imgRow, List.map_const']
theorem imgRow_end (m : List (Int × ByteArray)) : imgRow m (topM m).toNat = (imageL m).map .string := by
  simp only [imgRow, imageL, List.map_map]
  refine List.map_congr_left fun j hj => ?_
  rw [if_pos (by simpa using hj)]; rfl
theorem putAt_one (l : List Value) (i : Nat) (v : Value) (h : i < l.length) : putAt l i [v] = l.set i v := by
  rw [List.set_eq_take_append_cons_drop, if_pos h]; simp [putAt]
theorem imgRow_put (m : List (Int × ByteArray)) (i : Nat) (h : i < (topM m).toNat) : putAt (imgRow m i) i [.string ((lookM m (Int.ofNat i)).getD nul)] = imgRow m (i + 1) := by
  rw [putAt_one _ _ _ (by simpa [imgRow] using h)]
  apply List.ext_getElem
  · simp [imgRow]
  · intro j h1 h2
    simp only [imgRow, List.getElem_set, List.getElem_map, List.getElem_range]
    by_cases hj : i = j
    · subst hj; simp
    · rw [if_neg hj]
      by_cases h3 : j < i
      · rw [if_pos h3, if_pos (by omega)]
      · rw [if_neg h3, if_neg (by omega)]
theorem image_ok (F : Mem) (d rf rb : Nat) (o1 : Obj) (es : Array MapEntry) (c : Nat) (m : List (Int × ByteArray)) (M : MapS es c m) (hm : InDisk m) (sv : Value) (lg : List (Int × ByteArray)) (on : Bool) (l : Int) :
    FT Try.prog 9 [.pointer (some ⟨d, 0, none⟩)].toArray F (diskH d rf rb o1 (.map es c) sv lg on l)
    (fun e H => ∃ b, e = .returned (.slice (some ⟨b, 0, none⟩) (imageL m).length (imageL m).length) ∧ H = .cells b ((imageL m).map .string) 9 (0, 0) :: diskH d rf rb o1 (.map es c) sv lg on l) := by
  refine FT.of_body Try.func9 rfl Try.ntmps9 (by simp) fun C hC => ?_
  conv => whnf
  refine LoadV.s rfl rfl ?_
  conv => whnf
  refine DoV.range Try.underlying57 fun b => ?_
  conv => whnf
  refine LoopI.by_state (σ := Array Nat × List (Int × ByteArray)) (fun x => [(0, .pointer (some ⟨d, 0, none⟩)), (3, .int .i64 (topM x.2)), (12, .pointer (some ⟨b, 0, none⟩))]) (fun x => .obj b (.mapIter (some rb) c x.1 c) :: diskH d rf rb o1 (.map es c) sv lg on l)
    (fun x => (∀ p ∈ x.2, p ∈ m) ∧ ∀ e ∈ es.toList, e.born ∈ x.1.toList → ∃ p ∈ x.2, e.key = fkI p.1 ∧ e.val = fvS p.2) (fun x => (es.toList.filter fun e => !x.1.toList.contains e.born).length) (#[], []) ⟨by simp, by simp⟩ ⟨rfl, rfl, rfl, trivial⟩ (Sub.refl _) ?_
  rintro ⟨seen, done⟩ f0 ⟨hd, hs⟩
  dsimp only at *
  conv => whnf
  refine DoV.next M.stamped (fun hov => ?_) (fun x hx hnx => ?_)
  · have htop : topM done = topM m := topM_eq hd fun p hp => by
      obtain ⟨e, he, h1, h2⟩ := M.of_mem hp
      obtain ⟨q, hq, h3, h4⟩ := hs e he (hov e he)
      have e1 : q.1 = p.1 := fkI_inj _ _ (by rw [← h3, h1])
      have e2 : fvS q.2 = fvS p.2 := by rw [← h4, h2]
      have e3 : q.2 = p.2 := Value.string.inj e2
      have : q = p := Prod.ext e1 e3
      rwa [← this]
    have ht0 := topM_nonneg m
    have ht1 := topM_small hm
    conv => whnf
    rw [htop]
    refine DoV.makeSlice Try.underlying27 rfl rfl rfl rfl ht0 (by show (16 : Int) * topM m ≤ _; omega) (by omega) fun b2 => ?_
    conv => whnf
    refine LoopI.by_state (σ := Nat) (fun i => [(0, .pointer (some ⟨d, 0, none⟩)), (6, .slice (some ⟨b2, 0, none⟩) (topM m).toNat (topM m).toNat), (27, .int .i64 ((topM m).toNat : Int)), (28, .int .i64 (i : Int))])
      (fun i => .cells b2 (imgRow m i) 9 (0, 0) :: diskH d rf rb o1 (.map es c) sv lg on l) (fun i => i ≤ (topM m).toNat) (fun i => (topM m).toNat - i) 0 (by omega) ⟨rfl, rfl, rfl, rfl, trivial⟩ ?_ ?_
    · rw [imgRow_zero]; exact Sub.sel [0, 2, 3, 4, 5] rfl
    · rintro i f1 hi
      conv => whnf
      refine cond_dec (fun h => ?_) (fun h => ?_)
      · conv => whnf
        refine LoadV.s rfl rfl ?_
        conv => whnf
        refine DoV.lookup (fk := fkI) (fv := fvS) (a := (i : Int)) M keyed3 fkI_inj Try.underlying57 rfl rfl (key_wf (by omega) (by omega)) (u := .string ((lookM m (Int.ofNat i)).getD nul)) (by show (lookM m (Int.ofNat i)).elim _ _ = _; cases lookM m (Int.ofNat i) <;> rfl) ?_
        conv => whnf
        refine ⟨by omega, ?_⟩
        conv => whnf
        refine StoreV.c rfl rfl (by show 0 + i + 1 ≤ (imgRow m i).length; simp only [imgRow, List.length_map, List.length_range]; omega) rfl ?_
        conv => whnf
        refine ArI.to64 ((i + 1 : Nat) : Int) (by omega) (by omega) ?_
        conv => whnf
        refine ⟨i + 1, _, by omega, Sub.refl _, by omega, ⟨rfl, rfl, rfl, rfl, trivial⟩, ?_⟩
        · rw [← imgRow_put m i (by omega)]
          show HObj.cells b2 (putAt (imgRow m i) (0 + i) [.string ((lookM m (Int.ofNat i)).getD nul)]) 9 (0, 0) :: _ = _
          rw [Nat.zero_add]
      · conv => whnf
        refine RetI.one Try.results9 rfl ?_
        conv => whnf
        have : i = (topM m).toNat := by omega
        subst this
        refine ⟨_, Sub.refl _, b2, by rw [imageL_length], by rw [← imgRow_end]⟩
  · obtain ⟨p, hp, hk, hv⟩ := M.mem hx
    rw [hk, hv]
    conv => whnf
    refine DoV.entry M.stamped hx ?_
    rw [hk, hv]
    have hb := hm p hp
    have ht0 := topM_nonneg done
    have ht1 := topM_small fun q hq => hm q (hd q hq)
    have hlt : (es.toList.filter fun e => !(seen.push x.born).toList.contains e.born).length < (es.toList.filter fun e => !seen.toList.contains e.born).length := by
      refine filter_lt (x := x) ?_ _ hx (by simpa using hnx) (by simp)
      intro y hy
      simp only [Array.toList_push, Bool.not_eq_true', List.contains_eq_mem, decide_eq_false_iff_not, List.mem_append, List.mem_singleton, not_or] at hy ⊢
      exact hy.1
    have hd' : ∀ q ∈ p :: done, q ∈ m := fun q hq => by
      rcases List.mem_cons.1 hq with rfl | hq
      · exact hp
      · exact hd q hq
    have hs' : ∀ e ∈ es.toList, e.born ∈ (seen.push x.born).toList → ∃ q ∈ p :: done, e.key = fkI q.1 ∧ e.val = fvS q.2 := fun e he hb => by
      simp only [Array.toList_push, List.mem_append, List.mem_singleton] at hb
      rcases hb with hb | hb
      · obtain ⟨q, hq, h⟩ := hs e he hb
        exact ⟨q, by simp [hq], h⟩
      · have : e = x := born_inj M.stamped.2.1 he hx hb
        subst this
        exact ⟨p, by simp, hk, hv⟩
    conv => whnf
    cases hz : (p.2.toList == (⟨#[]⟩ : ByteArray).toList) with
    | true =>
      conv => whnf
      refine ⟨(seen.push x.born, p :: done), _, hlt, Sub.refl _, ⟨hd', hs'⟩, ⟨rfl, ?_, rfl, trivial⟩, rfl⟩
      have : topM (p :: done) = topM done := by rw [topM, if_pos (size_nul.1 hz)]
      exact congrArg (Value.int .i64) this.symm
    | false =>
      conv => whnf
      refine ArI.in64 (by omega) ?_
      conv => whnf
      have hsz : ¬ p.2.size = 0 := fun h => by rw [size_nul.2 h] at hz; cases hz
      have e2 : topM (p :: done) = max (topM done) (p.1 + 1) := by rw [topM, if_neg hsz]
      refine ⟨(seen.push x.born, p :: done), _, hlt, Sub.refl _, ⟨hd', hs'⟩, ⟨rfl, ?_, rfl, trivial⟩, rfl⟩
      dsimp only
      rw [e2]; rfl
end Go.Proofs.Ytjjkpkacembhpaa
