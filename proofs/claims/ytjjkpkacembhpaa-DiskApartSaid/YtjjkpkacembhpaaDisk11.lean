/- The reference's cutting; one step of both. -/
import Derived.Test.YtjjkpkacembhpaaDisk10
namespace Go.Proofs.Ytjjkpkacembhpaa
set_option linter.unusedVariables false
set_option linter.unusedSimpArgs false
open SL Go.RowKit Go.Maps

theorem wPow_neg : wPow (-1) = -1 := rfl
theorem cut_nil (n : Int) (lg : List (Int × ByteArray)) : cutN n lg.length = 0 ↔ lg.take (cutN n lg.length) = [] := by
  rw [List.take_eq_nil_iff]
  constructor
  · exact .inl
  · rintro (h | h)
    · exact h
    · rw [h]; simp [cutN]
theorem r5cut_ok (F : Mem) (d : Nat) (g0 : Option (Nat × Nat)) (fi : List ByteArray) (rb : Nat) (bl : List ByteArray) (gl : Option (Nat × Nat)) (lg : List (Int × ByteArray)) (p n : Int)
    (hg0 : g0 = none → fi = []) (hg : gl = none → lg = []) (hfi : fromC fi = 0) (hlo : LogOk lg) (hlog : lg.length * 24 ≤ 140737488355328) :
    FT Try.prog 26 [.pointer (some ⟨d, 0, none⟩), .int .i64 n].toArray F (refH d g0 fi rb bl gl lg p)
    (fun e H => ∃ d2 g2 rb2 bl2 gl2, BlkF fi bl2 ∧ g2 ≠ none ∧ (gl2 = none ↔ lg.take (cutN n lg.length) = []) ∧ e = .returned (.pointer (some ⟨d2, 0, none⟩)) ∧
      H = [.cells d2 [svOf g2 fi.length, .slice (some ⟨rb2, 0, none⟩) 2048 2048, svOf gl2 (lg.take (cutN n lg.length)).length, .int .i64 (-1)] 47 (0, 0), .own (svOf g2 fi.length) fi.length 9 1 (strs fi), .cells rb2 (strs (setAll bl2 (lg.take (cutN n lg.length)))) 9 (0, 0), .own (svOf gl2 (lg.take (cutN n lg.length)).length) (lg.take (cutN n lg.length)).length 29 2 (logCells (lg.take (cutN n lg.length))),
        .cells d [svOf g0 fi.length, .slice (some ⟨rb, 0, none⟩) 2048 2048, svOf gl lg.length, .int .i64 p] 47 (0, 0), .own (svOf g0 fi.length) fi.length 9 1 (strs fi), .cells rb (strs bl) 9 (0, 0), .own (svOf gl lg.length) lg.length 29 2 (logCells lg)]) := by
  refine FT.of_body Try.func26 rfl Try.ntmps26 (by simp) fun C hC => ?_
  subst hC
  conv => whnf
  refine LoadV.s rfl rfl (forceV_of ?_)
  conv => whnf
  refine CallS.mk Try.call20 ⟨[], _, _, Sub.refl _, fun F' hF' => r5from_ok F' (oaOf g0) (capOf g0) fi (SlF.sv hF' (T := 9) (by simp) (fun e => by rw [hg0 e]; rfl)) (by cases g0 <;> simp), ?_⟩
  rintro e A' (⟨h0, -, -⟩ | ⟨-, d2, g2, rb2, bl2, hB, hg2, rfl, rfl⟩)
  · exact absurd hfi h0
  obtain ⟨g2b, g2c, rfl⟩ : ∃ b c, g2 = some (b, c) := by
    cases g2 with
    | none => exact absurd rfl hg2
    | some p => exact ⟨p.1, p.2, rfl⟩
  conv => whnf
  have hkl : cutN n lg.length ≤ lg.length := by unfold cutN; omega
  have hbl2 := hB.1
  refine LoopI.by_state (σ := Nat × Option (Nat × Nat)) (fun x => [(0, .pointer (some ⟨d, 0, none⟩)), (1, .int .i64 n), (5, .pointer (some ⟨d2, 0, none⟩)), (7, .int .i64 (x.1 : Int))])
    (fun x => [.cells d2 [svOf (some (g2b, g2c)) fi.length, .slice (some ⟨rb2, 0, none⟩) 2048 2048, svOf x.2 (lg.take x.1).length, .int .i64 (-1)] 47 (0, 0), .own (svOf (some (g2b, g2c)) fi.length) fi.length 9 1 (strs fi), .cells rb2 (strs (setAll bl2 (lg.take x.1))) 9 (0, 0), .own (svOf x.2 (lg.take x.1).length) (lg.take x.1).length 29 2 (logCells (lg.take x.1)),
      .cells d [svOf g0 fi.length, .slice (some ⟨rb, 0, none⟩) 2048 2048, svOf gl lg.length, .int .i64 p] 47 (0, 0), .own (svOf g0 fi.length) fi.length 9 1 (strs fi), .cells rb (strs bl) 9 (0, 0), .own (svOf gl lg.length) lg.length 29 2 (logCells lg)])
    (fun x => x.1 ≤ cutN n lg.length ∧ (x.2 = none ↔ x.1 = 0)) (fun x => cutN n lg.length - x.1) (0, none) ⟨by simp, by simp⟩ ⟨rfl, rfl, rfl, rfl, trivial⟩ (Sub.refl _) ?_
  rintro ⟨i, g'⟩ f0 ⟨hi, hg'⟩
  dsimp only at hi hg' ⊢
  conv => whnf
  refine cond_dec (fun h1 => ?_) (fun h1 => ?_)
  · conv => whnf
    refine LoadV.s rfl rfl (forceV_of ?_)
    conv => whnf
    refine cond_dec (fun h2 => ?_) (fun h2 => ?_)
    · have hil : i < lg.length := by omega
      have hic : i < cutN n lg.length := by unfold cutN; omega
      obtain ⟨gb, gc, rfl⟩ : ∃ b c, gl = some (b, c) := by
        cases gl with
        | none => rw [hg rfl] at hil; simp at hil
        | some p => exact ⟨p.1, p.2, rfl⟩
      conv => whnf
      refine DrawI.tail 17 (by kernel_rfl) (by kernel_rfl) ?_
      conv => whnf
      refine LoadV.s rfl rfl ?_
      conv => whnf
      refine ⟨by omega, ?_⟩
      conv => whnf
      obtain ⟨q1, q2⟩ := logCells_at lg i hil
      refine LoadV.os (v := .int .i64 (lg[i]).1) rfl (by show (logCells lg)[0 + i * 2 + 0]? = _; rw [Nat.zero_add]; exact q1) ?_
      conv => whnf
      refine LoadV.s rfl rfl ?_
      conv => whnf
      refine ⟨by omega, ?_⟩
      conv => whnf
      refine LoadV.os (v := .string (lg[i]).2) rfl (by show (logCells lg)[0 + i * 2 + 1]? = _; rw [Nat.zero_add]; exact q2) ?_
      have hent := hlo (lg[i]) (List.getElem_mem _)
      have htake := take_snoc hil
      have hlen : (lg.take i).length = i := by simp; omega
      obtain ⟨q, hq⟩ : ∃ q, lg[i] = q := ⟨_, rfl⟩
      rw [hq] at hent htake ⊢
      conv => whnf
      refine CallS.mk Try.call21 ⟨[_, _, _], [_, _, _, _, _], _, Sub.sel [0, 2, 3, 1, 4, 5, 6, 7] rfl, fun F' hF' => r5write_ok F' d2 _ rb2 (setAll bl2 (lg.take i)) g' (lg.take i) (-1) q.1 q.2 (by rw [setAll_length]; exact hbl2) (by rw [hlen]; omega) (by omega), ?_⟩
      rintro e A' ⟨rfl, hA⟩
      rcases hA with ⟨h3, _⟩ | ⟨_, g3, hg3, rfl⟩
      · exact absurd (wcode_ok hent) h3
      obtain ⟨g3b, g3c, rfl⟩ : ∃ b c, g3 = some (b, c) := by
        cases g3 with
        | none => exact absurd rfl hg3
        | some p => exact ⟨p.1, p.2, rfl⟩
      conv => whnf
      refine ArI.to64 ((i + 1 : Nat) : Int) (by omega) (by omega) ?_
      conv => whnf
      refine ⟨(i + 1, some (g3b, g3c)), _, by dsimp only; omega, Sub.sel [0, 3, 1, 2, 4, 5, 6, 7] rfl, ⟨by dsimp only; omega, by simp⟩, ⟨rfl, rfl, rfl, rfl, trivial⟩, ?_⟩
      dsimp only
      rw [htake, setAll_push]; rfl
    · have : i = cutN n lg.length := by unfold cutN; unfold cutN at hi; omega
      subst this
      conv => whnf
      repeat (first | (refine LoadV.s rfl rfl (forceV_of ?_); conv => whnf) | (refine LoadV.s rfl rfl ?_; conv => whnf) | (refine StoreV.c rfl rfl (Nat.le_of_ble_eq_true rfl) rfl ?_; conv => whnf) | (refine LoadV.a _ rfl (Nat.le_of_ble_eq_true rfl) ?_; conv => whnf) | (refine DrawI.quiet (by kernel_rfl) (by kernel_rfl) ?_; conv => whnf) | (refine ArI.in64 (by omega) ?_; conv => whnf) | (refine ArI.inU8 (by omega) ?_; conv => whnf) | (refine ArI.inU64 (by omega) ?_; conv => whnf) | (refine ArI.inU32 (by omega) ?_; conv => whnf) | (refine RetI.one Try.results26 rfl ?_; conv => whnf) | (refine RetI.two Try.results26 rfl rfl ?_; conv => whnf) | (refine RetI.three Try.results26 rfl rfl rfl ?_; conv => whnf) | (refine RetI.none Try.results26 ?_; conv => whnf) | (refine ⟨by first | decide | omega, ?_⟩; conv => whnf))
      exact ⟨_, Sub.refl _, d2, some (g2b, g2c), rb2, bl2, g', hB, by simp, hg'.trans (cut_nil n lg), rfl, rfl⟩
  · have : i = cutN n lg.length := by unfold cutN; unfold cutN at hi; omega
    subst this
    conv => whnf
    repeat (first | (refine LoadV.s rfl rfl (forceV_of ?_); conv => whnf) | (refine LoadV.s rfl rfl ?_; conv => whnf) | (refine StoreV.c rfl rfl (Nat.le_of_ble_eq_true rfl) rfl ?_; conv => whnf) | (refine LoadV.a _ rfl (Nat.le_of_ble_eq_true rfl) ?_; conv => whnf) | (refine DrawI.quiet (by kernel_rfl) (by kernel_rfl) ?_; conv => whnf) | (refine ArI.in64 (by omega) ?_; conv => whnf) | (refine ArI.inU8 (by omega) ?_; conv => whnf) | (refine ArI.inU64 (by omega) ?_; conv => whnf) | (refine ArI.inU32 (by omega) ?_; conv => whnf) | (refine RetI.one Try.results26 rfl ?_; conv => whnf) | (refine RetI.two Try.results26 rfl rfl ?_; conv => whnf) | (refine RetI.three Try.results26 rfl rfl rfl ?_; conv => whnf) | (refine RetI.none Try.results26 ?_; conv => whnf) | (refine ⟨by first | decide | omega, ?_⟩; conv => whnf))
    exact ⟨_, Sub.refl _, d2, some (g2b, g2c), rb2, bl2, g', hB, by simp, hg'.trans (cut_nil n lg), rfl, rfl⟩
end Go.Proofs.Ytjjkpkacembhpaa
