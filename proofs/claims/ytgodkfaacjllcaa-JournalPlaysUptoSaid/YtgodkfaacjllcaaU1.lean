/- What the laws' proofs stand on, in one row: laws in numbers and lists, contracts of functions. No condition. -/
import Derived.Test.YtgodkfaacjllcaaQ3
/- Power that ends in the midst of an appending or an opening. -/
namespace Go.Proofs.Ytgodkfaacjllcaa
set_option linter.unusedVariables false
set_option linter.unusedSimpArgs false
set_option maxRecDepth 100000
open SL Go.RowKit Go.Maps

theorem nul_of {s : ByteArray} (h : s.size = 0) : s = nul := by
  obtain ⟨a⟩ := s
  have : a = #[] := Array.eq_empty_of_size_eq_zero h
  subst this; rfl
/-- How many blocks aren't blank. -/
def nb : List ByteArray → Nat
  | [] => 0
  | b :: t => (if b.size = 0 then 0 else 1) + nb t
theorem nb_cons (b : ByteArray) (t : List ByteArray) : nb (b :: t) = (if b.size = 0 then 0 else 1) + nb t := rfl
theorem nb_append : ∀ (a b : List ByteArray), nb (a ++ b) = nb a + nb b
  | [], b => by simp [nb]
  | x :: a, b => by rw [List.cons_append, nb_cons, nb_cons, nb_append a b]; omega
theorem nb_le : ∀ (t : List ByteArray), nb t ≤ t.length
  | [] => Nat.le_refl _
  | b :: t => by have := nb_le t; rw [nb_cons, List.length_cons]; split <;> omega
theorem nb_zero {t : List ByteArray} (h : nb t = 0) : t = blank t.length := by
  induction t with
  | nil => rfl
  | cons b t ih =>
    rw [nb_cons] at h
    by_cases hb : b.size = 0
    · rw [if_pos hb] at h
      show b :: t = List.replicate (t.length + 1) nul
      rw [List.replicate_succ, show List.replicate t.length nul = t from (ih (by omega)).symm, nul_of hb]
    · rw [if_neg hb] at h; omega
theorem nb_blank : ∀ {t : List ByteArray}, (∀ b ∈ t, b.size = 0) → nb t = 0
  | [], _ => rfl
  | b :: t, h => by rw [nb_cons, if_pos (h b (by simp)), nb_blank fun b hb => h b (by simp [hb])]
/-- One list of blocks comes of another one by blanking. -/
def Blanked (t u : List ByteArray) : Prop := u.length = t.length ∧ ∀ i, ∀ h : i < u.length, (u[i]).size = 0 ∨ some u[i] = t[i]?
theorem Blanked.refl (t : List ByteArray) : Blanked t t := ⟨rfl, fun i h => .inr (List.getElem?_eq_getElem h).symm⟩
theorem Blanked.cons {t u : List ByteArray} (h : Blanked t u) (b c : ByteArray) (hc : c.size = 0 ∨ c = b) : Blanked (b :: t) (c :: u) := by
  refine ⟨by simp [h.1], fun i hi => ?_⟩
  cases i with
  | zero => rcases hc with hc | hc
            · exact .inl hc
            · exact .inr (by simp [hc])
  | succ i => exact h.2 i (by simpa using hi)
theorem Blanked.append {t u : List ByteArray} (h : Blanked t u) (r : List ByteArray) : Blanked (t ++ r) (u ++ r) := by
  refine ⟨by simp [h.1], fun i hi => ?_⟩
  by_cases hu : i < u.length
  · rw [List.getElem_append_left hu, List.getElem?_append_left (by rw [← h.1]; exact hu)]; exact h.2 i hu
  · right
    rw [List.getElem_append_right (by omega), List.getElem?_append_right (by rw [← h.1]; omega), ← h.1, List.getElem?_eq_getElem]
theorem wipe_off : ∀ (u : List ByteArray) (e : Nat) (a : DA), a.on = false → (wipeL u e a).1 = a
  | [], _, _, _ => rfl
  | s :: r, e, a, h => by
    rw [wipeL]
    split
    · exact wipe_off r (e + 1) a h
    · rw [if_neg (by rw [h]; unfold wcode; simp)]
theorem wipe_gen : ∀ (u : List ByteArray) (e : Nat) (a : DA), a.on = true → e + u.length ≤ 2048 → ∃ v W, (wipeL u e a).1.lg = a.lg ++ W ∧ Blanked u v ∧ LogOk W ∧ (∀ P Q : List ByteArray, P.length = e → setAll (P ++ (u ++ Q)) W = P ++ (v ++ Q)) ∧ W.length + nb v = nb u ∧
    ((a.l ≤ 0 ∧ (wipeL u e a).2 = true ∧ (wipeL u e a).1.on = true ∧ nb v = 0) ∨ (0 < a.l ∧ (nb u : Int) < a.l ∧ (wipeL u e a).2 = true ∧ (wipeL u e a).1.on = true ∧ nb v = 0) ∨ (0 < a.l ∧ a.l ≤ nb u ∧ (wipeL u e a).1.on = false ∧ (nb v : Int) + a.l = nb u))
  | [], e, a, ho, _ => by
    refine ⟨[], [], by simp [wipeL], Blanked.refl [], (fun p hp => by cases hp), fun P Q _ => rfl, rfl, ?_⟩
    by_cases h : a.l ≤ 0
    · exact .inl ⟨h, rfl, ho, rfl⟩
    · exact .inr (.inl ⟨by omega, by simp [nb]; omega, rfl, ho, rfl⟩)
  | s :: r, e, a, ho, he => by
    simp only [List.length_cons] at he
    by_cases hs : s.size = 0
    · obtain ⟨v, W, h1, h2, h3, h4, h5, h6⟩ := wipe_gen r (e + 1) a ho (by omega)
      rw [wipeL, if_pos hs]
      have n1 : nb (s :: r) = nb r := by rw [nb_cons, if_pos hs, Nat.zero_add]
      have n2 : nb (s :: v) = nb v := by rw [nb_cons, if_pos hs, Nat.zero_add]
      refine ⟨s :: v, W, h1, h2.cons s s (.inr rfl), h3, fun P Q hP => ?_, by rw [n1, n2]; exact h5, by rw [n1, n2]; exact h6⟩
      have := h4 (P ++ [s]) Q (by rw [List.length_append, hP]; rfl)
      simpa using this
    · have hc : wcode a.on (e : Int) nul = 0 := (wcode_in (by omega) (by omega) (by decide)).2 ho
      rw [wipeL, if_neg hs, if_pos hc]
      have ha1 : a.wr (e : Int) nul = ⟨a.lg ++ [((e : Int), nul)], wOn a.l, wLeft a.l⟩ := DA.wr_yes hc
      have n1 : nb (s :: r) = 1 + nb r := by rw [nb_cons, if_neg hs]
      have n2 : ∀ v, nb (nul :: v) = nb v := fun v => by rw [nb_cons, if_pos (show nul.size = 0 from rfl), Nat.zero_add]
      have hfirst : ∀ (P Q : List ByteArray), P.length = e → (P ++ (s :: r ++ Q)).set e nul = (P ++ [nul]) ++ (r ++ Q) := fun P Q hP => by
        rw [← hP, List.set_append_right _ _ (Nat.le_refl _), Nat.sub_self, List.cons_append, List.set_cons_zero]; simp
      rw [ha1]
      by_cases hl : a.l > 0 ∧ a.l = 1
      · have e1 : wOn a.l = false := by unfold wOn; rw [if_pos hl.1]; exact decide_eq_false (by omega)
        rw [e1]
        have hoff := wipe_off r (e + 1) ⟨a.lg ++ [((e : Int), nul)], false, wLeft a.l⟩ rfl
        rw [hoff]
        refine ⟨nul :: r, [((e : Int), nul)], rfl, (Blanked.refl r).cons s nul (.inl rfl), fun p hp => ?_, fun P Q hP => ?_, by rw [n1, n2]; simp, .inr (.inr ⟨hl.1, by omega, rfl, by rw [n2]; omega⟩)⟩
        · rw [List.mem_singleton] at hp; subst hp; exact ⟨by dsimp only; omega, by dsimp only; omega, by show nul.size ≤ 32; decide⟩
        · show (P ++ (s :: r ++ Q)).set (e : Int).toNat nul = _
          rw [Int.toNat_natCast, hfirst P Q hP]; simp
      · have e1 : wOn a.l = true := by
          unfold wOn
          split
          · exact decide_eq_true (by omega)
          · rfl
        rw [e1]
        obtain ⟨v, W, h1, h2, h3, h4, h5, h6⟩ := wipe_gen r (e + 1) ⟨a.lg ++ [((e : Int), nul)], true, wLeft a.l⟩ rfl (by omega)
        refine ⟨nul :: v, ((e : Int), nul) :: W, by rw [h1]; simp, h2.cons s nul (.inl rfl), fun p hp => ?_, fun P Q hP => ?_, by rw [n1, n2, List.length_cons]; omega, ?_⟩
        · rcases List.mem_cons.1 hp with rfl | hp
          · exact ⟨by dsimp only; omega, by dsimp only; omega, by show nul.size ≤ 32; decide⟩
          · exact h3 p hp
        · show setAll ((P ++ (s :: r ++ Q)).set (e : Int).toNat nul) W = _
          rw [Int.toNat_natCast, hfirst P Q hP, h4 (P ++ [nul]) Q (by rw [List.length_append, hP]; rfl)]; simp
        · have hwl : (a.l ≤ 0 ∧ wLeft a.l = a.l) ∨ (1 < a.l ∧ wLeft a.l = a.l - 1) := by
            unfold wLeft
            by_cases h0 : a.l > 0
            · right; rw [if_pos h0]; exact ⟨by omega, rfl⟩
            · left; rw [if_neg h0]; exact ⟨by omega, rfl⟩
          dsimp only at h6
          rw [n1, n2]
          rcases hwl with ⟨q1, q2⟩ | ⟨q1, q2⟩ <;> rw [q2] at h6 ⊢
          · rcases h6 with ⟨k1, k2, k3, k4⟩ | ⟨k1, _⟩ | ⟨k1, _⟩
            · exact .inl ⟨q1, k2, k3, k4⟩
            · omega
            · omega
          · rcases h6 with ⟨k1, _⟩ | ⟨k1, k2, k3, k4, k5⟩ | ⟨k1, k2, k3, k4⟩
            · omega
            · exact .inr (.inl ⟨by omega, by omega, k3, k4, k5⟩)
            · exact .inr (.inr ⟨by omega, by omega, k3, by omega⟩)
end Go.Proofs.Ytgodkfaacjllcaa

/- Records, and a part of another one: opening, appending, whatever the power. -/
namespace Go.Proofs.Ytgodkfaacjllcaa
set_option linter.unusedVariables false
set_option linter.unusedSimpArgs false
set_option maxRecDepth 100000
open SL Go.RowKit Go.Maps

/-- A disk that bears records, and behind them a part of another one, some of it blanked. -/
structure Half (a : DA) (l t : List ByteArray) (n : Nat) : Prop where
  fit : Fit l
  ok : LogOk a.lg
  c : cont a.lg = blocksOf 0 l ++ (t ++ blank n)
  part : ∃ s, s.size ≤ 5865 ∧ t.length ≤ (fr l.length s).length ∧ (∀ i, ∀ h : i < t.length, (t[i]).size = 0 ∨ some t[i] = (fr l.length s)[i]?) ∧ t ≠ fr l.length s
theorem Half.len {a : DA} {l t : List ByteArray} {n : Nat} (h : Half a l t n) : (blocksOf 0 l).length + t.length + n = 2048 := by
  have := congrArg List.length h.c
  rw [cont_length, List.length_append, List.length_append, List.length_replicate] at this; omega
theorem Half.small {a : DA} {l t : List ByteArray} {n : Nat} (h : Half a l t n) : nb t ≤ 255 := by
  obtain ⟨s, hs, h2, _⟩ := h.part
  have hcount := h.fit.count
  have := (fr_pos (k := l.length) (s := s) ⟨by omega, by omega, hs⟩).2.1
  have := nb_le t
  omega
/-- Records and nothing else. -/
theorem half_clean {a : DA} {l : List ByteArray} {n : Nat} (hf : Fit l) (ho : LogOk a.lg) (h : cont a.lg = blocksOf 0 l ++ blank n) : Half a l [] n := by
  have hcount := hf.count
  refine ⟨hf, ho, h, nul, by decide, Nat.zero_le _, fun i hi => by simp at hi, fun e => ?_⟩
  have := (fr_pos (k := l.length) (s := nul) ⟨by omega, by omega, by decide⟩).1
  rw [← e] at this; simp at this
theorem Half.clean {a : DA} {l t : List ByteArray} {n : Nat} (h : Half a l t n) (h0 : nb t = 0) : cont a.lg = blocksOf 0 l ++ blank (t.length + n) := by
  rw [h.c]
  conv => lhs; rw [nb_zero h0]
  rw [List.replicate_append_replicate]
theorem Half.power {a : DA} {l t : List ByteArray} {n : Nat} (h : Half a l t n) (on : Bool) (p : Int) : Half ⟨a.lg, on, p⟩ l t n := ⟨h.fit, h.ok, h.c, h.part⟩
theorem part_blanked {k : Nat} {s : ByteArray} {t u : List ByteArray} (hc : Can ((k : Int) + 1) s) (hb : Blanked t u) (h1 : t.length ≤ (fr k s).length) (h2 : ∀ i, ∀ h : i < t.length, (t[i]).size = 0 ∨ some t[i] = (fr k s)[i]?) (h3 : t ≠ fr k s) :
    u.length ≤ (fr k s).length ∧ (∀ i, ∀ h : i < u.length, (u[i]).size = 0 ∨ some u[i] = (fr k s)[i]?) ∧ u ≠ fr k s := by
  have hfs := fr_size hc
  refine ⟨by rw [hb.1]; exact h1, fun i hi => ?_, fun e => h3 ?_⟩
  · have hit : i < t.length := by rw [← hb.1]; exact hi
    rcases hb.2 i hi with h | h
    · exact .inl h
    · rw [List.getElem?_eq_getElem hit] at h
      rw [Option.some.inj h]; exact h2 i hit
  · rw [← e]
    refine List.ext_getElem hb.1.symm fun i hi1 hi2 => ?_
    rcases hb.2 i hi2 with h | h
    · have := hfs u[i] (by rw [← e]; exact List.getElem_mem hi2); omega
    · rw [List.getElem?_eq_getElem hi1] at h; exact (Option.some.inj h).symm
theorem trim_split (t : List ByteArray) : ∃ r, t = trimB t ++ r ∧ ∀ b ∈ r, b.size = 0 := by
  refine ⟨t.drop (topB t t.length), (List.take_append_drop _ _).symm, fun b hb => ?_⟩
  obtain ⟨i, hi, rfl⟩ := List.getElem_of_mem hb
  rw [List.getElem_drop]
  rw [List.length_drop] at hi
  by_cases h : (t[topB t t.length + i]'(by omega)).size = 0
  · exact h
  · have := topB_ge t t.length (topB t t.length + i) (by omega) (by rw [List.getElem?_eq_getElem (by omega)]; exact h)
    omega
/-- Opening, whatever the power. -/
theorem open_half {a : DA} {l t : List ByteArray} {n : Nat} (h : Half a l t n) : ∃ u, Half (openA [] a).1 l u n ∧ (openA [] a).1.lg.length + nb u = a.lg.length + nb t ∧
    ((a.on = false ∧ (openA [] a).2 = none ∧ nb u = nb t) ∨
     (a.on = true ∧ (a.l ≤ 0 ∨ (nb t : Int) < a.l) ∧ (openA [] a).2 = some (l, (blocksOf 0 l).length) ∧ (openA [] a).1.on = true ∧ nb u = 0) ∨
     (a.on = true ∧ 0 < a.l ∧ a.l ≤ nb t ∧ (openA [] a).2 = none ∧ (nb u : Int) + a.l = nb t)) := by
  cases hon : a.on with
  | false =>
    have : openA [] a = (a, none) := if_pos hon
    rw [this]
    exact ⟨t, h, rfl, .inl ⟨rfl, rfl, rfl⟩⟩
  | true =>
    obtain ⟨s, p1, p2, p3, p4⟩ := h.part
    have hcount := h.fit.count
    have hlen := h.len
    have hc : Can ((l.length : Int) + 1) s := ⟨by omega, by omega, p1⟩
    have him : imgA [] a = blocksOf 0 l ++ trimB t := img_blank h.ok h.c h.fit.blank
    obtain ⟨r, hr1, hr2⟩ := trim_split t
    have htl : (trimB t).length + r.length = t.length := by have := congrArg List.length hr1; rw [List.length_append] at this; omega
    have hsc := scan_tail (t := trimB t) (s := s) h.fit rfl p1 (by omega) (fun i hi => by
      have hit : i < t.length := by omega
      have e : (trimB t)[i] = t[i] := by
        have := List.getElem?_append_left (l₁ := trimB t) (l₂ := r) hi
        rw [← hr1, List.getElem?_eq_getElem hi, List.getElem?_eq_getElem hit] at this
        exact (Option.some.inj this).symm
      rw [e]; exact p3 i hit) (fun e => by
      have hl0 : r = [] := List.eq_nil_of_length_eq_zero (by have := congrArg List.length e; omega)
      rw [hl0, List.append_nil] at hr1
      exact p4 (hr1.trans e))
    obtain ⟨v, W, w1, w2, w3, w4, w5, w6⟩ := wipe_gen (trimB t) (blocksOf 0 l).length a hon (by omega)
    have hop : openA [] a = if (wipeL (trimB t) (blocksOf 0 l).length a).2 = false ∨ (wipeL (trimB t) (blocksOf 0 l).length a).1.on = false then ((wipeL (trimB t) (blocksOf 0 l).length a).1, none) else ((wipeL (trimB t) (blocksOf 0 l).length a).1, some (l, (blocksOf 0 l).length)) := by
      unfold openA
      rw [if_neg (by rw [hon]; simp)]
      unfold wipeA
      rw [him, hsc.1, hsc.2, List.drop_left]
    have hnr : nb r = 0 := nb_blank hr2
    have hnt : nb t = nb (trimB t) := by conv => lhs; rw [hr1]
                                         rw [nb_append, hnr]; rfl
    have hnu : nb (v ++ r) = nb v := by rw [nb_append, hnr]; rfl
    have hbl : Blanked t (v ++ r) := by have := w2.append r; rwa [← hr1] at this
    have hhalf : Half (wipeL (trimB t) (blocksOf 0 l).length a).1 l (v ++ r) n := by
      refine ⟨h.fit, ?_, ?_, s, p1, part_blanked hc hbl p2 p3 p4⟩
      · rw [w1]
        intro p hp
        rcases List.mem_append.1 hp with hp | hp
        · exact h.ok p hp
        · exact w3 p hp
      · rw [w1]
        have hcc : cont a.lg = blocksOf 0 l ++ (trimB t ++ (r ++ blank n)) := by
          rw [h.c]
          conv => lhs; rw [hr1]
          rw [List.append_assoc]
        unfold cont at *
        rw [setAll_append, hcc, w4 _ _ rfl, List.append_assoc]
    rw [hop]
    generalize wipeL (trimB t) (blocksOf 0 l).length a = w at *
    refine ⟨v ++ r, ?_, ?_, ?_⟩
    · split
      · exact hhalf
      · exact hhalf
    · have : (if w.2 = false ∨ w.1.on = false then (w.1, none) else (w.1, some (l, (blocksOf 0 l).length))).1 = w.1 := by split <;> rfl
      rw [this, w1, List.length_append, hnu, hnt]; omega
    · rw [hnu, hnt]
      rcases w6 with ⟨k1, k2, k3, k4⟩ | ⟨k1, k2, k3, k4, k5⟩ | ⟨k1, k2, k3, k4⟩
      · rw [if_neg (by rw [k2, k3]; simp)]
        exact .inr (.inl ⟨rfl, .inl k1, rfl, k3, k4⟩)
      · rw [if_neg (by rw [k3, k4]; simp)]
        exact .inr (.inl ⟨rfl, .inr k2, rfl, k4, k5⟩)
      · rw [if_pos (.inr k3)]
        exact .inr (.inr ⟨rfl, k1, k2, rfl, k4⟩)
/-- Writing with any power. -/
theorem wrAll_gen : ∀ (L : List ByteArray) (e : Nat) (a : DA), a.on = true → e + L.length ≤ 2048 → (∀ b ∈ L, b.size ≤ 32) → ((a.l ≤ 0 ∨ (L.length : Int) < a.l) ∧ (wrAll L e a).1.lg = a.lg ++ idxL e L ∧ (wrAll L e a).1.on = true) ∨
    (0 < a.l ∧ a.l ≤ L.length ∧ (wrAll L e a).1.lg = a.lg ++ idxL e (L.take a.l.toNat) ∧ (wrAll L e a).1.on = false)
  | [], e, a, ho, _, _ => by
    left
    refine ⟨?_, by simp [wrAll, idxL], ho⟩
    by_cases h : a.l ≤ 0
    · exact .inl h
    · exact .inr (by simp; omega)
  | b :: L, e, a, ho, he, hb => by
    simp only [List.length_cons] at he
    have hc : wcode a.on (e : Int) b = 0 := (wcode_in (by omega) (by omega) (hb b (by simp))).2 ho
    rw [wrAll, if_pos hc, DA.wr_yes hc]
    by_cases hl : a.l = 1
    · have e1 : wOn a.l = false := by unfold wOn; rw [if_pos (by omega)]; exact decide_eq_false (by omega)
      rw [e1]
      have hoff : ∀ (L : List ByteArray) (e : Nat) (x : DA), x.on = false → (wrAll L e x).1 = x := by
        intro L e x hx
        cases L with
        | nil => rfl
        | cons c L => rw [wrAll, if_neg (by rw [hx]; unfold wcode; simp)]
      rw [hoff _ _ _ rfl]
      exact .inr ⟨by omega, by simp; omega, by rw [hl]; simp [idxL], rfl⟩
    · have e1 : wOn a.l = true := by
        unfold wOn
        split
        · exact decide_eq_true (by omega)
        · rfl
      rw [e1]
      have ih := wrAll_gen L (e + 1) ⟨a.lg ++ [((e : Int), b)], true, wLeft a.l⟩ rfl (by omega) (fun b hb2 => hb b (by simp [hb2]))
      have hwl : (a.l ≤ 0 ∧ wLeft a.l = a.l) ∨ (1 < a.l ∧ wLeft a.l = a.l - 1) := by
        unfold wLeft
        by_cases h0 : a.l > 0
        · right; rw [if_pos h0]; exact ⟨by omega, rfl⟩
        · left; rw [if_neg h0]; exact ⟨by omega, rfl⟩
      dsimp only at ih
      rcases ih with ⟨k1, k2, k3⟩ | ⟨k1, k2, k3, k4⟩
      · refine .inl ⟨?_, by rw [k2]; simp [idxL], k3⟩
        rcases hwl with ⟨q1, q2⟩ | ⟨q1, q2⟩
        · exact .inl q1
        · rw [q2] at k1
          rcases k1 with k1 | k1
          · omega
          · right; simp; omega
      · rcases hwl with ⟨q1, q2⟩ | ⟨q1, q2⟩
        · omega
        · rw [q2] at k1 k2 k3
          refine .inr ⟨by omega, by simp; omega, ?_, k4⟩
          obtain ⟨m, hm⟩ : ∃ m : Nat, a.l = (m : Int) + 1 := ⟨(a.l - 1).toNat, by omega⟩
          rw [q2, k3, hm, show ((m : Int) + 1 - 1).toNat = m by omega, show ((m : Int) + 1).toNat = m + 1 by omega, List.take_succ_cons]
          simp [idxL]
end Go.Proofs.Ytgodkfaacjllcaa

/- Appending with any power. -/
namespace Go.Proofs.Ytgodkfaacjllcaa
set_option linter.unusedVariables false
set_option linter.unusedSimpArgs false
set_option maxRecDepth 100000
open SL Go.RowKit Go.Maps

/-- What appending comes to, whatever the power. -/
inductive AppK (a : DA) (l : List ByteArray) (s : ByteArray) (a' : DA) (J' : JA) (c : Int) : Prop where
  | no (h1 : c = 9 ∨ c = 10) (h2 : a' = a) (h3 : J' = ⟨l.length, (blocksOf 0 l).length, false⟩) (h4 : a.on = true)
  | ok (n : Nat) (h1 : c = 0) (h2 : Fit (l ++ [s])) (h3 : J' = ⟨(l ++ [s]).length, (blocksOf 0 (l ++ [s])).length, false⟩) (h4 : a'.on = true) (h5 : LogOk a'.lg) (h6 : cont a'.lg = blocksOf 0 (l ++ [s]) ++ blank n) (h7 : a'.lg.length ≤ a.lg.length + 255)
  | down (l2 t : List ByteArray) (n : Nat) (h1 : c = 11) (h2 : Half a' l2 t n) (h3 : l2 = if s.size ≤ 5865 ∧ (a'.lg.length : Int) - a.lg.length = partsI s.size then l ++ [s] else l) (h7 : a'.lg.length ≤ a.lg.length + 255)
theorem append_any {a : DA} {l : List ByteArray} {n : Nat} (hf : Fit l) (ho : LogOk a.lg) (h : cont a.lg = blocksOf 0 l ++ blank n) (s : ByteArray) :
    ∃ a' J' c, appendA a ⟨l.length, (blocksOf 0 l).length, false⟩ s = (a', J', c) ∧ AppK a l s a' J' c := by
  have hcount := hf.count
  have hn : (blocksOf 0 l).length + n = 2048 := by have := congrArg List.length h; rw [cont_length, List.length_append, List.length_replicate] at this; omega
  cases hon : a.on with
  | false =>
    refine ⟨a, ⟨l.length, (blocksOf 0 l).length, true⟩, 11, if_pos (.inr hon), .down l [] n rfl (half_clean hf ho h) ?_ (by omega)⟩
    rw [if_neg]
    rintro ⟨h1, h2⟩
    have := mt parts_zero.1 (show ¬ s.size > 5865 by omega)
    omega
  | true =>
    have hA : appendA a ⟨l.length, (blocksOf 0 l).length, false⟩ s = if s.size > 5865 then (a, ⟨l.length, (blocksOf 0 l).length, false⟩, 9) else if partsI s.size > 2048 - ((blocksOf 0 l).length : Int) ∨ l.length = 65535 then (a, ⟨l.length, (blocksOf 0 l).length, false⟩, 10) else
        if (wrAll (packF ((l.length : Int) + 1) s).1 (blocksOf 0 l).length a).1.on = false then ((wrAll (packF ((l.length : Int) + 1) s).1 (blocksOf 0 l).length a).1, ⟨l.length, (blocksOf 0 l).length, true⟩, 11) else ((wrAll (packF ((l.length : Int) + 1) s).1 (blocksOf 0 l).length a).1, ⟨l.length + 1, (blocksOf 0 l).length + (partsI s.size).toNat, false⟩, 0) := by
      unfold appendA
      rw [if_neg (by rw [hon]; simp)]
    rw [hA]
    by_cases hbig : s.size > 5865
    · rw [if_pos hbig]; exact ⟨_, _, _, rfl, .no (.inl rfl) rfl rfl hon⟩
    rw [if_neg hbig]
    have hc : Can ((l.length : Int) + 1) s := ⟨by omega, by omega, by omega⟩
    obtain ⟨p1, p2, p3, p4⟩ := fr_pos hc
    by_cases hfull : partsI s.size > 2048 - ((blocksOf 0 l).length : Int) ∨ l.length = 65535
    · rw [if_pos hfull]; exact ⟨_, _, _, rfl, .no (.inr rfl) rfl rfl hon⟩
    rw [if_neg hfull]
    have hroom : (blocksOf 0 l).length + (fr l.length s).length ≤ 2048 := by omega
    have hw := wrAll_gen (fr l.length s) (blocksOf 0 l).length a hon hroom p4
    have hsn : blocksOf 0 (l ++ [s]) = blocksOf 0 l ++ fr l.length s := by rw [blocksOf_snoc, Nat.zero_add]
    have hf2 : Fit (l ++ [s]) := ⟨fun x hx => by
      rcases List.mem_append.1 hx with hx | hx
      · exact hf.small x hx
      · rw [List.mem_singleton] at hx; subst hx; omega, by rw [hsn, List.length_append]; exact hroom⟩
    rw [show (packF ((l.length : Int) + 1) s).1 = fr l.length s from rfl]
    generalize (wrAll (fr l.length s) (blocksOf 0 l).length a).1 = w at *
    have hok : ∀ L : List ByteArray, L.length ≤ (fr l.length s).length → (∀ b ∈ L, b.size ≤ 32) → w.lg = a.lg ++ idxL (blocksOf 0 l).length L → LogOk w.lg ∧ cont w.lg = blocksOf 0 l ++ (L ++ blank (n - L.length)) ∧ w.lg.length = a.lg.length + L.length := by
      intro L hL hs hlg
      rw [hlg]
      refine ⟨fun p hp => ?_, ?_, by rw [List.length_append, idxL_length]⟩
      · rcases List.mem_append.1 hp with hp | hp
        · exact ho p hp
        · exact idxL_ok _ L (by omega) hs p hp
      · rw [cont_idx h L (by omega), List.append_assoc]
    rcases hw with ⟨k1, k2, k3⟩ | ⟨k1, k2, k3, k4⟩
    · rw [k3, if_neg (by simp)]
      obtain ⟨q1, q2, q3⟩ := hok _ (Nat.le_refl _) p4 k2
      refine ⟨_, _, _, rfl, .ok (n - (fr l.length s).length) rfl hf2 ?_ k3 q1 ?_ (by omega)⟩
      · rw [hsn, List.length_append, List.length_append, ← p3, Int.toNat_natCast]; rfl
      · rw [q2, hsn, List.append_assoc]
    · rw [k4, if_pos rfl]
      obtain ⟨q1, q2, q3⟩ := hok ((fr l.length s).take a.l.toNat) (by rw [List.length_take]; omega) (fun b hb => p4 b (List.mem_of_mem_take hb)) k3
      have htl : ((fr l.length s).take a.l.toNat).length = a.l.toNat := by rw [List.length_take]; omega
      rw [htl] at q3
      by_cases hall : a.l = (fr l.length s).length
      · have hte : (fr l.length s).take a.l.toNat = fr l.length s := List.take_of_length_le (by omega)
        rw [hte] at q2
        refine ⟨_, _, _, rfl, .down (l ++ [s]) [] (n - (fr l.length s).length) rfl (half_clean hf2 q1 ?_) ?_ (by omega)⟩
        · rw [q2, hsn, List.append_assoc]
        · rw [if_pos ⟨by omega, by omega⟩]
      · refine ⟨_, _, _, rfl, .down l ((fr l.length s).take a.l.toNat) (n - ((fr l.length s).take a.l.toNat).length) rfl ⟨hf, q1, q2, s, by omega, by rw [htl]; omega, fun i hi => ?_, fun e => ?_⟩ ?_ (by omega)⟩
        · right
          rw [List.getElem_take, List.getElem?_eq_getElem]
        · have := congrArg List.length e
          omega
        · rw [if_neg]
          rintro ⟨_, h2⟩
          omega
end Go.Proofs.Ytgodkfaacjllcaa

/- The law of histories, as a contract. -/
namespace Go.Proofs.Ytgodkfaacjllcaa
set_option linter.unusedVariables false
set_option linter.unusedSimpArgs false
set_option maxRecDepth 100000
open SL Go.RowKit Go.Maps

theorem JOk.up {es1 : Array MapEntry} {c1 : Nat} {mf : List (Int × ByteArray)} {x : JS} (h : JOk es1 c1 mf x) (b : Bool) {p : Int} (hp : p ≤ 9223372036854775807) : JOk es1 c1 mf ⟨x.es, x.c, x.g, ⟨x.a.lg, b, p⟩⟩ := ⟨h.M1, h.M, h.i, h.sm, h.ok, h.hg, hp⟩
/-- Two lists of texts of one's own, alike. -/
theorem same_two {F F' : Mem} {B : Heap} (hF' : Ext F B F') (g1 g2 : Option (Nat × Nat)) (L : List ByteArray) (h1 : g1 = none ↔ L = []) (h2 : g2 = none ↔ L = []) (hn : L.length ≤ 9223372036854775807) {G1 G2 : HObj → Heap}
    [o1 : OwnHole B (svOf g1 L.length) L.length 9 1 (strs L) G1] [o2 : OwnHole B (svOf g2 L.length) L.length 9 1 (strs L) G2] :
    FT Try.prog 10 [svOf g1 L.length, svOf g2 L.length].toArray F' [] (Ret (.bool true)) := by
  have := same_sn F' (oaOf g1) (oaOf g2) (capOf g1) (capOf g2) L.length L.length L L rfl rfl (SlF.sv hF' (ho := o1) (by simp) (fun e => by rw [h1.1 e]; rfl)) (SlF.sv hF' (ho := o2) (by simp) (fun e => by rw [h2.1 e]; rfl)) hn
  rwa [show decide (L = L) = true from decide_eq_true rfl] at this
abbrev stF (s : ByteArray × Int × Int) : List Value := [.string s.1, .int .i64 s.2.1, .int .i64 s.2.2]
theorem stF_length (s : ByteArray × Int × Int) : (stF s).length = 3 := rfl
theorem AppK.len {a : DA} {l : List ByteArray} {s : ByteArray} {a' : DA} {J' : JA} {c : Int} (h : AppK a l s a' J' c) : a'.lg.length ≤ a.lg.length + 255 := by
  rcases h with ⟨_, h2, _, _⟩ | ⟨_, _, _, _, _, _, _, h7⟩ | ⟨_, _, _, _, _, _, h7⟩
  · rw [h2]; omega
  · exact h7
  · exact h7
set_option maxHeartbeats 4000000 in
theorem jhist_ok (F : Mem) (oa : Option Addr) (ca : Nat) (ss : List (ByteArray × Int × Int)) (hb : SlF F 3 oa ss.length (ss.flatMap stF)) (hsz : ∀ s ∈ ss, s.1.size ≤ 9223372036854775807 ∧ s.2.1 ≤ 9223372036854775807) (hn : ss.length ≤ 1048576) :
    FT Try.prog 4 [.slice oa ss.length ca].toArray F [] (Ret (.bool true)) := by
  refine FT.of_body Try.func4 rfl Try.ntmps4 (by simp) fun C hC => ?_
  subst hC
  conv => whnf
  refine CallS.mk Try.call7 ⟨[], _, _, Sub.refl _, fun F' hF' => lives07_ok F', ?_⟩
  rintro e A' ⟨rfl, rfl⟩
  conv => whnf
  refine CallS.mk Try.call11 ⟨[], _, _, Sub.refl _, fun F' hF' => new_ok F', ?_⟩
  rintro e A' ⟨d, r, rb, rfl, rfl⟩
  conv => whnf
  refine CallS.mk Try.call12 ⟨[_, _, _, _], _, _, Sub.split [0, 1, 2, 3] rfl, fun F' hF' => open_ok F' d r rb #[] 0 [] newS newS_ok (show Room 0 2048 by unfold Room; omega), ?_⟩
  rintro e A' ⟨y, Y, hy, hO⟩
  rw [open_new] at hy hO
  rcases hO with ⟨h, -, -⟩ | ⟨pl, en, j, g0, h, _, -, _, rfl, rfl⟩
  · cases h
  obtain ⟨rfl, rfl⟩ := Prod.mk.inj (Option.some.inj h)
  dsimp only at hy
  conv => whnf
  refine LoopI.by_state (σ := Nat × Nat × List ByteArray × JS × Option (Nat × Nat)) (fun x => [(3, .pointer (some ⟨d, 0, none⟩)), (4, .pointer (some ⟨x.2.1, 0, none⟩)), (7, svOf x.2.2.2.2 x.2.2.1.length), (34, .slice oa ss.length ca), (35, .int .i64 (ss.length : Int)), (36, .int .i64 (x.1 : Int))])
    (fun x => jCell x.2.1 d ⟨x.2.2.1.length, (blocksOf 0 x.2.2.1).length, false⟩ :: ownS x.2.2.2.2 x.2.2.1 :: JH d r rb #[] 0 x.2.2.2.1)
    (fun x => x.1 ≤ ss.length ∧ Fit x.2.2.1 ∧ JOk #[] 0 [] x.2.2.2.1 ∧ (∃ n, cont x.2.2.2.1.a.lg = blocksOf 0 x.2.2.1 ++ blank n) ∧ (x.2.2.2.2 = none ↔ x.2.2.1 = []) ∧ x.2.2.2.1.a.lg.length ≤ 512 * x.1) (fun x => ss.length - x.1) (0, j, [], y, none)
    ⟨Nat.zero_le _, fit_nil, Y, ⟨2048, by dsimp only; rw [hy]; exact cont_nil⟩, by simp, by dsimp only; rw [hy]; exact Nat.zero_le _⟩ ⟨rfl, rfl, rfl, rfl, rfl, rfl, trivial⟩ ((Sub.nil 9 1).trans (Sub.sel [1, 0, 3, 4, 5, 6] rfl)) ?_
  rintro ⟨i, j, l, z, gk⟩ f0 ⟨hi, hf, Z, ⟨n, hc⟩, hgk, hlg⟩
  dsimp only at hi hf Z hc hgk hlg ⊢
  have hcount := hf.count
  have hroom := hf.room
  conv => whnf
  refine cond_dec (fun h => ?_) (fun h => ?_)
  · have hil : i < ss.length := by omega
    have hx := hb.at (i := i) hil
    obtain ⟨xb, yb, rfl, hrb⟩ := hx
    have hss := hsz _ (List.getElem_mem hil)
    have hfr := flat_row stF_length hrb hil rfl
    generalize ss[i] = st at hss hfr
    obtain ⟨s, p, q⟩ := st
    dsimp only at hss hfr
    conv => whnf
    refine ⟨by omega, ?_⟩
    conv => whnf
    refine LoadV.fa (cs := stF (s, p, q)) hfr rfl ?_
    conv => whnf
    intro b
    conv => whnf
    repeat (first | (refine LoadV.s rfl rfl (forceV_of ?_); conv => whnf) | (refine LoadV.s rfl rfl ?_; conv => whnf) | (refine StoreV.c rfl rfl (Nat.le_of_ble_eq_true rfl) rfl ?_; conv => whnf) | (refine LoadV.a _ rfl (Nat.le_of_ble_eq_true rfl) ?_; conv => whnf) | (refine DrawI.quiet (by kernel_rfl) (by kernel_rfl) ?_; conv => whnf) | (refine ArI.in64 (by omega) ?_; conv => whnf) | (refine ArI.inU8 (by omega) ?_; conv => whnf) | (refine ArI.inU64 (by omega) ?_; conv => whnf) | (refine ArI.inU32 (by omega) ?_; conv => whnf) | (refine RetI.one Try.results4 rfl ?_; conv => whnf) | (refine RetI.two Try.results4 rfl rfl ?_; conv => whnf) | (refine RetI.three Try.results4 rfl rfl rfl ?_; conv => whnf) | (refine RetI.none Try.results4 ?_; conv => whnf) | (refine ⟨by first | decide | omega, ?_⟩; conv => whnf))
    refine CallS.mk Try.call13 ⟨[_], [_, _, _, _, _, _], _, Sub.sel [3, 0, 1, 2, 4, 5, 6] rfl, fun F' hF' => up_ok F' d _ _ _ z.a.on z.a.l p, ?_⟩
    rintro e A' ⟨rfl, rfl⟩
    conv => whnf
    obtain ⟨x, hx⟩ : ∃ x : JS, x = ⟨z.es, z.c, z.g, ⟨z.a.lg, p != 0, p⟩⟩ := ⟨_, rfl⟩
    have X : JOk #[] 0 [] x := hx ▸ Z.up _ hss.2
    have hxl : x.a.lg = z.a.lg := by rw [hx]
    refine CallS.mk Try.call14 ⟨[_, _, _, _], [_, _, _], _, Sub.sel [0, 4, 5, 6, 1, 2, 3] rfl, fun F' hF' => writes_cp F' d r rb _ _ z.g z.a.lg (p != 0) p Z.hg (by omega), ?_⟩
    rintro e A' ⟨g5, lk, rfl, -, rfl, rfl⟩
    conv => whnf
    obtain ⟨a2, J2, c, hap, hk⟩ := append_any (a := x.a) hf (by rw [hxl]; exact Z.ok) (by rw [hxl]; exact hc) s
    have hao := fun F' => append_ok F' j d r rb #[] 0 [] x X ⟨l.length, (blocksOf 0 l).length, false⟩ (by dsimp only; omega) (by dsimp only; omega) s hss.1 (by rw [hxl]; unfold Room; omega)
    rw [hap] at hao
    dsimp only at hao
    subst hx
    refine LoadV.s rfl rfl ?_
    conv => whnf
    refine CallS.mk Try.call15 ⟨[_, _, _, _, _], [_, _], _, Sub.sel [6, 1, 2, 3, 4, 5, 7] rfl, fun F' hF' => hao F', ?_⟩
    rintro e A' ⟨u, U, hu, rfl, rfl⟩
    dsimp only at hap hk
    have hal := hk.len
    dsimp only at hal
    rw [← hu] at hal
    conv => whnf
    refine CallS.mk Try.call14 ⟨[_, _, _, _], [_, _, _], _, Sub.sel [1, 2, 3, 4, 0, 5, 6] rfl, fun F' hF' => writes_cp F' d r rb _ _ u.g u.a.lg u.a.on u.a.l U.hg (by omega), ?_⟩
    rintro e A' ⟨g6, lk6, rfl, -, rfl, rfl⟩
    conv => whnf
    refine ArI.to64 ((u.a.lg.length : Int) - z.a.lg.length) (by omega) (by omega) ?_
    conv => whnf
    rcases hk with ⟨h1, h2, h3, h4⟩ | ⟨n2, h1, h2, h3, h4, h5, h6, h7⟩ | ⟨l2, t, n2, h1, h2, h3, h7⟩
    · have hz : u.a.lg = z.a.lg := by rw [hu, h2]
      have h4 : a2.on = true := by rw [h2]; exact h4
      subst h3
      rcases h1 with rfl | rfl
      · conv => whnf
        refine CallS.mk Try.call17 ⟨[_], [_, _, _, _, _], _, Sub.sel [1, 2, 3, 4, 5, 7] rfl, fun F' hF' => on_ok F' d _ _ _ _ _, ?_⟩
        rintro e A' ⟨rfl, rfl⟩
        rw [hu, h4]
        conv => whnf
        refine ArI.to64 ((i + 1 : Nat) : Int) (by omega) (by omega) ?_
        conv => whnf
        exact ⟨(i + 1, j, l, u, gk), _, by dsimp only; omega, Sub.sel [4, 5, 0, 1, 2, 3] rfl, ⟨by dsimp only; omega, hf, U, ⟨n, by dsimp only; rw [hz]; exact hc⟩, hgk, by dsimp only; rw [hz]; omega⟩, ⟨rfl, rfl, rfl, rfl, rfl, rfl, trivial⟩, by unfold JH; rw [hu, h4]⟩
      · conv => whnf
        refine CallS.mk Try.call17 ⟨[_], [_, _, _, _, _], _, Sub.sel [1, 2, 3, 4, 5, 7] rfl, fun F' hF' => on_ok F' d _ _ _ _ _, ?_⟩
        rintro e A' ⟨rfl, rfl⟩
        rw [hu, h4]
        conv => whnf
        refine ArI.to64 ((i + 1 : Nat) : Int) (by omega) (by omega) ?_
        conv => whnf
        exact ⟨(i + 1, j, l, u, gk), _, by dsimp only; omega, Sub.sel [4, 5, 0, 1, 2, 3] rfl, ⟨by dsimp only; omega, hf, U, ⟨n, by dsimp only; rw [hz]; exact hc⟩, hgk, by dsimp only; rw [hz]; omega⟩, ⟨rfl, rfl, rfl, rfl, rfl, rfl, trivial⟩, by unfold JH; rw [hu, h4]⟩
    · subst h1
      conv => whnf
      refine LoadV.s rfl rfl ?_
      conv => whnf
      intro bl
      conv => whnf
      subst h3
      refine (show BuiltV _ _ _ #[22, 22] _ _ [svOf gk l.length, .slice (some ⟨bl, 0, none⟩) 1 1] _ _ from ?_)
      refine BuiltV.append (m := 1) Try.underlying22 rfl rfl rfl rfl (by decide) (Row.cells 1) rfl (by decide) rfl (by show (l.length + 1) * 16 ≤ _; omega) (by omega) fun gb gc => ?_
      conv => whnf
      refine CallS.mk Try.call17 ⟨[_], [_, _, _, _, _], _, Sub.sel [2, 3, 4, 5, 6, 8] rfl, fun F' hF' => on_ok F' d _ _ _ _ _, ?_⟩
      rintro e A' ⟨rfl, rfl⟩
      rw [hu, h4]
      conv => whnf
      refine ArI.to64 ((i + 1 : Nat) : Int) (by omega) (by omega) ?_
      conv => whnf
      refine ⟨(i + 1, j, l ++ [s], u, some (gb, gc)), _, by dsimp only; omega, Sub.sel [4, 5, 0, 1, 2, 3] rfl, ⟨by dsimp only; omega, h2, U, ⟨n2, by dsimp only; rw [hu]; exact h6⟩, by simp, by dsimp only; rw [hu]; dsimp only at h7; omega⟩,
        ⟨rfl, rfl, by dsimp only; rw [List.length_append]; rfl, rfl, rfl, rfl, trivial⟩, ?_⟩
      unfold JH ownS
      rw [hu, h4]
      simp only [List.length_append, List.map_append]
      rfl
    · subst h1
      conv => whnf
      refine LoadV.s rfl rfl ?_
      conv => whnf
      dsimp only at h3 h7
      by_cases h9 : s.size ≤ 5865
      · rw [show decide (((s, p, q).fst.size : Int) ≤ 5865) = true from decide_eq_true (show (s.size : Int) ≤ 5865 by omega)]
        conv => whnf
        refine LoadV.s rfl rfl ?_
        conv => whnf
        refine CallS.mk Try.call16 ⟨[], [_, _, _, _, _, _], _, Sub.sel [1, 2, 3, 4, 6, 7] rfl, fun F' hF' => rparts_ok F' (s.size : Int), ?_⟩
        rintro e A' ⟨rfl, rfl⟩
        conv => whnf
        by_cases h10 : (u.a.lg.length : Int) - z.a.lg.length = partsI s.size
        · rw [show ((u.a.lg.length : Int) - z.a.lg.length == partsI s.size) = true from beq_iff_eq.2 h10]
          rw [if_pos ⟨h9, by rw [← hu]; exact h10⟩] at h3
          replace h3 := h3.symm
          subst h3
          conv => whnf
          refine LoadV.s rfl rfl ?_
          conv => whnf
          intro bl
          conv => whnf
          refine (show BuiltV _ _ _ #[22, 22] _ _ [svOf gk l.length, .slice (some ⟨bl, 0, none⟩) 1 1] _ _ from ?_)
          refine BuiltV.append (m := 1) Try.underlying22 rfl rfl rfl rfl (by decide) (Row.cells 1) rfl (by decide) rfl (by show (l.length + 1) * 16 ≤ _; omega) (by omega) fun gb gc => ?_
          conv => whnf
          conv => whnf
          refine LoadV.s rfl rfl ?_
          conv => whnf
          obtain ⟨k0, hkv, hk1⟩ := u64_mod q 4 (by omega)
          refine ArI.keep ?_
          conv => whnf
          refine ⟨⟨rfl, by omega⟩, ?_⟩
          rw [hkv]
          conv => whnf
          refine ArI.in64 (by omega) ?_
          conv => whnf
          have hnt := h2.small
          refine LoopI.by_state (σ := Nat × JS × List ByteArray × Nat) (fun x => [(3, .pointer (some ⟨d, 0, none⟩)), (7, svOf (some (gb, gc)) (l ++ [s]).length), (13, .int .i64 (x.1 : Int)), (34, .slice (some ⟨xb, yb, none⟩) ss.length ca), (35, .int .i64 (ss.length : Int)), (36, .int .i64 (i : Int))])
            (fun x => ownS (some (gb, gc)) (l ++ [s]) :: JH d r rb #[] 0 x.2.1) (fun x => JOk #[] 0 [] x.2.1 ∧ Half x.2.1.a (l ++ [s]) x.2.2.1 x.2.2.2 ∧ x.1 + nb x.2.2.1 ≤ 258 ∧ x.2.1.a.lg.length + nb x.2.2.1 ≤ 512 * i + 510) (fun x => 300 - x.1) (k0, u, t, n2)
            ⟨U, by dsimp only; rw [hu]; exact h2, by dsimp only; omega, by dsimp only; omega⟩ ⟨rfl, by dsimp only; rw [List.length_append]; rfl, rfl, rfl, rfl, rfl, trivial⟩ (by dsimp only [ownS]; simp only [List.length_append, List.map_append]; exact Sub.sel [6, 1, 2, 3, 4] rfl) ?_
          rintro ⟨k, v, t, n2⟩ f1 ⟨V, hh, hk, hvl⟩
          dsimp only at V hh hk hvl ⊢
          conv => whnf
          refine CallS.mk Try.call13 ⟨[_], [_, _, _, _], _, Sub.sel [1, 0, 2, 3, 4] rfl, fun F' hF' => up_ok F' d _ _ _ v.a.on v.a.l (k : Int), ?_⟩
          rintro e A' ⟨rfl, rfl⟩
          conv => whnf
          refine CallS.mk Try.call12 ⟨[_, _, _, _], [_], _, Sub.sel [0, 2, 3, 4, 1] rfl, fun F' hF' => open_ok F' d r rb #[] 0 [] ⟨v.es, v.c, v.g, ⟨v.a.lg, (k : Int) != 0, (k : Int)⟩⟩ (V.up _ (by omega)) (by show Room v.a.lg.length 2048; unfold Room; omega), ?_⟩
          rintro e A' ⟨w, W, hw, hO⟩
          obtain ⟨t2, K1, K2, K3⟩ := open_half (hh.power ((k : Int) != 0) (k : Int))
          rw [← hw] at K1 K2 K3
          dsimp only at K2 K3 hO
          rcases hO with ⟨o1, rfl, rfl⟩ | ⟨pl, en, j2, g2, o1, _, hg2, _, rfl, rfl⟩
          · conv => whnf
            refine ArI.to64 ((k + 1 : Nat) : Int) (by omega) (by omega) ?_
            conv => whnf
            rw [decide_eq_false (show ¬ ((k + 1 : Nat) : Int) > 600 by omega)]
            conv => whnf
            have hK : nb t2 + k ≤ nb t ∨ (k = 0 ∧ nb t2 = nb t) := by
              rcases K3 with ⟨q1, _, q3⟩ | ⟨q1, _, q3, _⟩ | ⟨q1, q2, _, _, q5⟩
              · exact .inr ⟨by simpa using q1, q3⟩
              · rw [o1] at q3; cases q3
              · exact .inl (by omega)
            have := K1.small
            exact ⟨(k + 1, w, t2, n2), _, by dsimp only; omega, Sub.sel [4, 0, 1, 2, 3] rfl, ⟨W, K1, by dsimp only; omega, by dsimp only; omega⟩, ⟨rfl, rfl, rfl, rfl, rfl, rfl, trivial⟩, rfl⟩
          · rcases K3 with ⟨_, q2, _⟩ | ⟨_, _, q3, q4, q5⟩ | ⟨_, _, _, q2, _⟩
            · rw [o1] at q2; cases q2
            · obtain ⟨rfl, rfl⟩ := Prod.mk.inj (Option.some.inj (q3.symm.trans o1))
              conv => whnf
              refine CallS.mk Try.call10 ⟨[], _, _, Sub.refl _, fun F' hF' => same_two hF' g2 (some (gb, gc)) (l ++ [s]) hg2 ((show some (gb, gc) = none ↔ l ++ [s] = [] by simp)) (by have := h2.fit.count; omega), ?_⟩
              rintro e A' ⟨rfl, rfl⟩
              conv => whnf
              refine ArI.to64 ((i + 1 : Nat) : Int) (by omega) (by omega) ?_
              conv => whnf
              exact ⟨(i + 1, j2, l ++ [s], w, some (gb, gc)), _, by dsimp only; omega, Sub.sel [0, 6, 2, 3, 4, 5] rfl, ⟨by dsimp only; omega, h2.fit, W, ⟨_, K1.clean q5⟩, (show some (gb, gc) = none ↔ l ++ [s] = [] by simp), by dsimp only; omega⟩, ⟨rfl, rfl, rfl, rfl, rfl, rfl, trivial⟩, rfl⟩
            · rw [o1] at q2; cases q2
        · rw [show ((u.a.lg.length : Int) - z.a.lg.length == partsI s.size) = false from beq_eq_false_iff_ne.2 h10]
          rw [if_neg (fun e => h10 (by rw [hu]; exact e.2))] at h3
          replace h3 := h3.symm
          subst h3
          conv => whnf
          conv => whnf
          refine LoadV.s rfl rfl ?_
          conv => whnf
          obtain ⟨k0, hkv, hk1⟩ := u64_mod q 4 (by omega)
          refine ArI.keep ?_
          conv => whnf
          refine ⟨⟨rfl, by omega⟩, ?_⟩
          rw [hkv]
          conv => whnf
          refine ArI.in64 (by omega) ?_
          conv => whnf
          have hnt := h2.small
          refine LoopI.by_state (σ := Nat × JS × List ByteArray × Nat) (fun x => [(3, .pointer (some ⟨d, 0, none⟩)), (7, svOf (gk) (l).length), (13, .int .i64 (x.1 : Int)), (34, .slice (some ⟨xb, yb, none⟩) ss.length ca), (35, .int .i64 (ss.length : Int)), (36, .int .i64 (i : Int))])
            (fun x => ownS (gk) (l) :: JH d r rb #[] 0 x.2.1) (fun x => JOk #[] 0 [] x.2.1 ∧ Half x.2.1.a (l) x.2.2.1 x.2.2.2 ∧ x.1 + nb x.2.2.1 ≤ 258 ∧ x.2.1.a.lg.length + nb x.2.2.1 ≤ 512 * i + 510) (fun x => 300 - x.1) (k0, u, t, n2)
            ⟨U, by dsimp only; rw [hu]; exact h2, by dsimp only; omega, by dsimp only; omega⟩ ⟨rfl, rfl, rfl, rfl, rfl, rfl, trivial⟩ (Sub.sel [5, 0, 1, 2, 3] rfl) ?_
          rintro ⟨k, v, t, n2⟩ f1 ⟨V, hh, hk, hvl⟩
          dsimp only at V hh hk hvl ⊢
          conv => whnf
          refine CallS.mk Try.call13 ⟨[_], [_, _, _, _], _, Sub.sel [1, 0, 2, 3, 4] rfl, fun F' hF' => up_ok F' d _ _ _ v.a.on v.a.l (k : Int), ?_⟩
          rintro e A' ⟨rfl, rfl⟩
          conv => whnf
          refine CallS.mk Try.call12 ⟨[_, _, _, _], [_], _, Sub.sel [0, 2, 3, 4, 1] rfl, fun F' hF' => open_ok F' d r rb #[] 0 [] ⟨v.es, v.c, v.g, ⟨v.a.lg, (k : Int) != 0, (k : Int)⟩⟩ (V.up _ (by omega)) (by show Room v.a.lg.length 2048; unfold Room; omega), ?_⟩
          rintro e A' ⟨w, W, hw, hO⟩
          obtain ⟨t2, K1, K2, K3⟩ := open_half (hh.power ((k : Int) != 0) (k : Int))
          rw [← hw] at K1 K2 K3
          dsimp only at K2 K3 hO
          rcases hO with ⟨o1, rfl, rfl⟩ | ⟨pl, en, j2, g2, o1, _, hg2, _, rfl, rfl⟩
          · conv => whnf
            refine ArI.to64 ((k + 1 : Nat) : Int) (by omega) (by omega) ?_
            conv => whnf
            rw [decide_eq_false (show ¬ ((k + 1 : Nat) : Int) > 600 by omega)]
            conv => whnf
            have hK : nb t2 + k ≤ nb t ∨ (k = 0 ∧ nb t2 = nb t) := by
              rcases K3 with ⟨q1, _, q3⟩ | ⟨q1, _, q3, _⟩ | ⟨q1, q2, _, _, q5⟩
              · exact .inr ⟨by simpa using q1, q3⟩
              · rw [o1] at q3; cases q3
              · exact .inl (by omega)
            have := K1.small
            exact ⟨(k + 1, w, t2, n2), _, by dsimp only; omega, Sub.sel [4, 0, 1, 2, 3] rfl, ⟨W, K1, by dsimp only; omega, by dsimp only; omega⟩, ⟨rfl, rfl, rfl, rfl, rfl, rfl, trivial⟩, rfl⟩
          · rcases K3 with ⟨_, q2, _⟩ | ⟨_, _, q3, q4, q5⟩ | ⟨_, _, _, q2, _⟩
            · rw [o1] at q2; cases q2
            · obtain ⟨rfl, rfl⟩ := Prod.mk.inj (Option.some.inj (q3.symm.trans o1))
              conv => whnf
              refine CallS.mk Try.call10 ⟨[], _, _, Sub.refl _, fun F' hF' => same_two hF' g2 (gk) (l) hg2 (hgk) (by have := h2.fit.count; omega), ?_⟩
              rintro e A' ⟨rfl, rfl⟩
              conv => whnf
              refine ArI.to64 ((i + 1 : Nat) : Int) (by omega) (by omega) ?_
              conv => whnf
              exact ⟨(i + 1, j2, l, w, gk), _, by dsimp only; omega, Sub.sel [0, 6, 2, 3, 4, 5] rfl, ⟨by dsimp only; omega, h2.fit, W, ⟨_, K1.clean q5⟩, hgk, by dsimp only; omega⟩, ⟨rfl, rfl, rfl, rfl, rfl, rfl, trivial⟩, rfl⟩
            · rw [o1] at q2; cases q2
      · rw [show decide (((s, p, q).fst.size : Int) ≤ 5865) = false from decide_eq_false (show ¬ (s.size : Int) ≤ 5865 by omega)]
        rw [if_neg (fun e => h9 e.1)] at h3
        replace h3 := h3.symm
        subst h3
        conv => whnf
        conv => whnf
        refine LoadV.s rfl rfl ?_
        conv => whnf
        obtain ⟨k0, hkv, hk1⟩ := u64_mod q 4 (by omega)
        refine ArI.keep ?_
        conv => whnf
        refine ⟨⟨rfl, by omega⟩, ?_⟩
        rw [hkv]
        conv => whnf
        refine ArI.in64 (by omega) ?_
        conv => whnf
        have hnt := h2.small
        refine LoopI.by_state (σ := Nat × JS × List ByteArray × Nat) (fun x => [(3, .pointer (some ⟨d, 0, none⟩)), (7, svOf (gk) (l).length), (13, .int .i64 (x.1 : Int)), (34, .slice (some ⟨xb, yb, none⟩) ss.length ca), (35, .int .i64 (ss.length : Int)), (36, .int .i64 (i : Int))])
          (fun x => ownS (gk) (l) :: JH d r rb #[] 0 x.2.1) (fun x => JOk #[] 0 [] x.2.1 ∧ Half x.2.1.a (l) x.2.2.1 x.2.2.2 ∧ x.1 + nb x.2.2.1 ≤ 258 ∧ x.2.1.a.lg.length + nb x.2.2.1 ≤ 512 * i + 510) (fun x => 300 - x.1) (k0, u, t, n2)
          ⟨U, by dsimp only; rw [hu]; exact h2, by dsimp only; omega, by dsimp only; omega⟩ ⟨rfl, rfl, rfl, rfl, rfl, rfl, trivial⟩ (Sub.sel [7, 1, 2, 3, 4] rfl) ?_
        rintro ⟨k, v, t, n2⟩ f1 ⟨V, hh, hk, hvl⟩
        dsimp only at V hh hk hvl ⊢
        conv => whnf
        refine CallS.mk Try.call13 ⟨[_], [_, _, _, _], _, Sub.sel [1, 0, 2, 3, 4] rfl, fun F' hF' => up_ok F' d _ _ _ v.a.on v.a.l (k : Int), ?_⟩
        rintro e A' ⟨rfl, rfl⟩
        conv => whnf
        refine CallS.mk Try.call12 ⟨[_, _, _, _], [_], _, Sub.sel [0, 2, 3, 4, 1] rfl, fun F' hF' => open_ok F' d r rb #[] 0 [] ⟨v.es, v.c, v.g, ⟨v.a.lg, (k : Int) != 0, (k : Int)⟩⟩ (V.up _ (by omega)) (by show Room v.a.lg.length 2048; unfold Room; omega), ?_⟩
        rintro e A' ⟨w, W, hw, hO⟩
        obtain ⟨t2, K1, K2, K3⟩ := open_half (hh.power ((k : Int) != 0) (k : Int))
        rw [← hw] at K1 K2 K3
        dsimp only at K2 K3 hO
        rcases hO with ⟨o1, rfl, rfl⟩ | ⟨pl, en, j2, g2, o1, _, hg2, _, rfl, rfl⟩
        · conv => whnf
          refine ArI.to64 ((k + 1 : Nat) : Int) (by omega) (by omega) ?_
          conv => whnf
          rw [decide_eq_false (show ¬ ((k + 1 : Nat) : Int) > 600 by omega)]
          conv => whnf
          have hK : nb t2 + k ≤ nb t ∨ (k = 0 ∧ nb t2 = nb t) := by
            rcases K3 with ⟨q1, _, q3⟩ | ⟨q1, _, q3, _⟩ | ⟨q1, q2, _, _, q5⟩
            · exact .inr ⟨by simpa using q1, q3⟩
            · rw [o1] at q3; cases q3
            · exact .inl (by omega)
          have := K1.small
          exact ⟨(k + 1, w, t2, n2), _, by dsimp only; omega, Sub.sel [4, 0, 1, 2, 3] rfl, ⟨W, K1, by dsimp only; omega, by dsimp only; omega⟩, ⟨rfl, rfl, rfl, rfl, rfl, rfl, trivial⟩, rfl⟩
        · rcases K3 with ⟨_, q2, _⟩ | ⟨_, _, q3, q4, q5⟩ | ⟨_, _, _, q2, _⟩
          · rw [o1] at q2; cases q2
          · obtain ⟨rfl, rfl⟩ := Prod.mk.inj (Option.some.inj (q3.symm.trans o1))
            conv => whnf
            refine CallS.mk Try.call10 ⟨[], _, _, Sub.refl _, fun F' hF' => same_two hF' g2 (gk) (l) hg2 (hgk) (by have := h2.fit.count; omega), ?_⟩
            rintro e A' ⟨rfl, rfl⟩
            conv => whnf
            refine ArI.to64 ((i + 1 : Nat) : Int) (by omega) (by omega) ?_
            conv => whnf
            exact ⟨(i + 1, j2, l, w, gk), _, by dsimp only; omega, Sub.sel [0, 6, 2, 3, 4, 5] rfl, ⟨by dsimp only; omega, h2.fit, W, ⟨_, K1.clean q5⟩, hgk, by dsimp only; omega⟩, ⟨rfl, rfl, rfl, rfl, rfl, rfl, trivial⟩, rfl⟩
          · rw [o1] at q2; cases q2
  · conv => whnf
    refine CallS.mk Try.call13 ⟨[_], [_, _, _, _, _], _, Sub.sel [2, 0, 1, 3, 4, 5] rfl, fun F' hF' => up_ok F' d _ _ _ z.a.on z.a.l (-1), ?_⟩
    rintro e A' ⟨rfl, rfl⟩
    conv => whnf
    obtain ⟨t2, K1, K2, K3⟩ := open_half ((half_clean hf Z.ok hc).power true (-1))
    refine CallS.mk Try.call12 ⟨[_, _, _, _], [_], _, Sub.sel [0, 3, 4, 5, 2] rfl, fun F' hF' => open_ok F' d r rb #[] 0 [] ⟨z.es, z.c, z.g, ⟨z.a.lg, true, -1⟩⟩ (Z.up _ (by decide)) (by show Room z.a.lg.length 2048; unfold Room; omega), ?_⟩
    rintro e A' ⟨w, W, hw, hO⟩
    dsimp only at K2 K3 hO
    rcases K3 with ⟨q2, _, _⟩ | ⟨_, _, q3, _⟩ | ⟨_, q2, _⟩
    · cases q2
    · rcases hO with ⟨o1, rfl, rfl⟩ | ⟨pl, en, j2, g2, o1, _, hg2, _, rfl, rfl⟩
      · rw [q3] at o1; cases o1
      · obtain ⟨rfl, rfl⟩ := Prod.mk.inj (Option.some.inj (q3.symm.trans o1))
        conv => whnf
        refine CallS.mk Try.call10 ⟨[], _, _, Sub.refl _, fun F' hF' => same_two hF' g2 gk l hg2 hgk (by omega), ?_⟩
        rintro e A' ⟨rfl, rfl⟩
        conv => whnf
        repeat (first | (refine LoadV.s rfl rfl (forceV_of ?_); conv => whnf) | (refine LoadV.s rfl rfl ?_; conv => whnf) | (refine StoreV.c rfl rfl (Nat.le_of_ble_eq_true rfl) rfl ?_; conv => whnf) | (refine LoadV.a _ rfl (Nat.le_of_ble_eq_true rfl) ?_; conv => whnf) | (refine DrawI.quiet (by kernel_rfl) (by kernel_rfl) ?_; conv => whnf) | (refine ArI.in64 (by omega) ?_; conv => whnf) | (refine ArI.inU8 (by omega) ?_; conv => whnf) | (refine ArI.inU64 (by omega) ?_; conv => whnf) | (refine ArI.inU32 (by omega) ?_; conv => whnf) | (refine RetI.one Try.results4 rfl ?_; conv => whnf) | (refine RetI.two Try.results4 rfl rfl ?_; conv => whnf) | (refine RetI.three Try.results4 rfl rfl rfl ?_; conv => whnf) | (refine RetI.none Try.results4 ?_; conv => whnf) | (refine ⟨by first | decide | omega, ?_⟩; conv => whnf))
        exact ⟨_, Sub.sel [] rfl, rfl, rfl⟩
    · omega
end Go.Proofs.Ytgodkfaacjllcaa
