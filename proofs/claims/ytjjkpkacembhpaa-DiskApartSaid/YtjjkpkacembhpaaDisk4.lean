/- The disk: cutting. -/
import Derived.Test.YtjjkpkacembhpaaDisk3
namespace Go.Proofs.Ytjjkpkacembhpaa
set_option linter.unusedVariables false
set_option linter.unusedSimpArgs false
open SL Go.RowKit Go.Maps

/-- What a log makes of the first blocks. -/
def replay (m : List (Int × ByteArray)) (l : List (Int × ByteArray)) : List (Int × ByteArray) := l.foldl (fun m p => putM m p.1 p.2) m
def LogOk (lg : List (Int × ByteArray)) : Prop := ∀ p ∈ lg, 0 ≤ p.1 ∧ p.1 < 2048 ∧ p.2.size ≤ 32
/-- How many writes are played again. -/
def cutN (n : Int) (k : Nat) : Nat := min n.toNat k
theorem wcode_ok {p : Int × ByteArray} (h : 0 ≤ p.1 ∧ p.1 < 2048 ∧ p.2.size ≤ 32) : wcode true p.1 p.2 = 0 := by
  unfold wcode; rw [if_neg (by simp), if_neg (by omega), if_neg (by omega)]
theorem logCells_at (lg : List (Int × ByteArray)) (i : Nat) (h : i < lg.length) : (logCells lg)[i * 2]? = some (.int .i64 lg[i].1) ∧ (logCells lg)[i * 2 + 1]? = some (.string lg[i].2) := by
  induction lg generalizing i with
  | nil => simp at h
  | cons p lg ih =>
    cases i with
    | zero => simp [logCells]
    | succ i =>
      have := ih i (by simpa using h)
      rw [show (i + 1) * 2 = i * 2 + 1 + 1 by omega]
      simpa [logCells] using this
theorem logCells_row (lg : List (Int × ByteArray)) (i : Nat) (h : i < lg.length) : ((logCells lg).drop (i * 2)).take 2 = [.int .i64 lg[i].1, .string lg[i].2] := by
  obtain ⟨h1, h2⟩ := logCells_at lg i h
  have hl : i * 2 + 1 < (logCells lg).length := by rw [logCells_length]; omega
  apply List.ext_getElem?
  intro j
  rw [List.getElem?_take]
  match j with
  | 0 => simp [h1]
  | 1 => simp [h2]
  | j + 2 => simp only [List.getElem?_cons_succ, List.getElem?_nil]; rw [if_neg (by omega)]
/-- Two disks. -/
abbrev diskHH (d rf rb : Nat) (o1 o2 : Obj) (sv : Value) (lg : List (Int × ByteArray)) (on : Bool) (left : Int) (d' rf' rb' : Nat) (o1' o2' : Obj) (sv' : Value) (lg' : List (Int × ByteArray)) (on' : Bool) (left' : Int) : Heap :=
  [.cells d [.map (some rf), .map (some rb), sv, .bool on, .int .i64 left] 59 (0, 0), .obj rf o1, .obj rb o2, .own sv lg.length 29 2 (logCells lg),
   .cells d' [.map (some rf'), .map (some rb'), sv', .bool on', .int .i64 left'] 59 (0, 0), .obj rf' o1', .obj rb' o2', .own sv' lg'.length 29 2 (logCells lg')]
theorem cut_ok (F : Mem) (d rf rb : Nat) (es1 : Array MapEntry) (c1 : Nat) (mf : List (Int × ByteArray)) (M1 : MapS es1 c1 mf) (o2 : Obj) (g : Option (Nat × Nat)) (lg : List (Int × ByteArray)) (on : Bool) (l n : Int)
    (hg : g = none → lg = []) (hlo : LogOk lg) (hlog : lg.length * 24 ≤ 140737488355328) :
    FT Try.prog 12 [.pointer (some ⟨d, 0, none⟩), .int .i64 n].toArray F (diskH d rf rb (.map es1 c1) o2 (svOf g lg.length) lg on l)
    (fun e H => ∃ d2 r2 rb2 es' c' g', MapS es' c' (replay mf (lg.take (cutN n lg.length))) ∧ (g' = none ↔ cutN n lg.length = 0) ∧ e = .returned (.pointer (some ⟨d2, 0, none⟩)) ∧
      H = diskHH d rf rb (.map es1 c1) o2 (svOf g lg.length) lg on l d2 r2 rb2 (.map es1 c1) (.map es' c') (svOf g' (lg.take (cutN n lg.length)).length) (lg.take (cutN n lg.length)) true (-1)) := by
  cases g with
  | none =>
    obtain rfl := hg rfl
    rw [show svOf none ([] : List (Int × ByteArray)).length = .slice none 0 0 from rfl]
    refine FT.of_body Try.func12 rfl Try.ntmps12 (by simp) fun C hC => ?_
    have hc0 : cutN n ([] : List (Int × ByteArray)).length = 0 := by simp [cutN]
    rw [hc0]
    conv => whnf
    refine LoadV.s rfl rfl ?_
    conv => whnf
    refine CallS.mk Try.call29 ⟨[_], _, _, Sub.split [1] rfl, fun F' _ => clone_ok F' rf es1 c1, ?_⟩
    rintro e A' ⟨r2, rfl, rfl⟩
    conv => whnf
    refine CallS.mk Try.call27 ⟨[_], _, _, Sub.split [0] rfl, fun F' _ => with_ok F' r2 es1 c1, ?_⟩
    rintro e A' ⟨d2, rb2, rfl, rfl⟩
    conv => whnf
    refine DrawI.quiet (by kernel_rfl) (by kernel_rfl) ?_
    conv => whnf
    refine LoadV.s rfl rfl ?_
    conv => whnf
    refine LoadV.s rfl rfl ?_
    conv => whnf
    have hk : (min (max n 0) ((0 : Nat) : Int)).toNat = 0 := by omega
    refine QuietV.slice_to Try.underlying22 rfl (by omega) (by omega) ?_
    conv => whnf
    rw [hk]
    refine LoopI.by_state (σ := Unit) (fun x => [(5, .pointer (some ⟨d2, 0, none⟩)), (27, .int .i64 0), (28, .int .i64 0)])
      (fun x => diskHH d rf rb (.map es1 c1) o2 (.slice none 0 0) [] on l d2 r2 rb2 (.map es1 c1) (.map es1 c1) (.slice none 0 0) [] true (-1))
      (fun x => True) (fun x => 0) () trivial ⟨rfl, rfl, rfl, trivial⟩ (Sub.sel [5, 4, 6, 7, 0, 1, 2, 3] rfl) ?_
    rintro ⟨⟩ f0 -
    conv => whnf
    refine RetI.one Try.results12 rfl ?_
    conv => whnf
    exact ⟨_, Sub.refl _, d2, r2, rb2, es1, c1, none, M1, by simp, rfl, rfl⟩
  | some p =>
    obtain ⟨b, cap⟩ := p
    rw [show svOf (some (b, cap)) lg.length = .slice (some ⟨b, 0, none⟩) lg.length cap from rfl]
    refine FT.of_body Try.func12 rfl Try.ntmps12 (by simp) fun C hC => ?_
    conv => whnf
    refine LoadV.s rfl rfl ?_
    conv => whnf
    refine CallS.mk Try.call29 ⟨[_], _, _, Sub.split [1] rfl, fun F' _ => clone_ok F' rf es1 c1, ?_⟩
    rintro e A' ⟨r2, rfl, rfl⟩
    conv => whnf
    refine CallS.mk Try.call27 ⟨[_], _, _, Sub.split [0] rfl, fun F' _ => with_ok F' r2 es1 c1, ?_⟩
    rintro e A' ⟨d2, rb2, rfl, rfl⟩
    conv => whnf
    refine DrawI.quiet (by kernel_rfl) (by kernel_rfl) ?_
    conv => whnf
    refine LoadV.s rfl rfl ?_
    conv => whnf
    refine LoadV.s rfl rfl ?_
    conv => whnf
    have hk : (min (max n 0) ((lg.length : Nat) : Int)).toNat = cutN n lg.length := by unfold cutN; omega
    refine QuietV.slice_own Try.underlying22 rfl (by omega) (by omega) ?_
    conv => whnf
    rw [hk]
    have hkl : cutN n lg.length ≤ lg.length := by unfold cutN; omega
    generalize cutN n lg.length = k at hkl ⊢
    refine LoopI.by_state (σ := Nat × Array MapEntry × Nat × Option (Nat × Nat)) (fun x => [(5, .pointer (some ⟨d2, 0, none⟩)), (26, .slice (some ⟨b, 0, none⟩) k cap), (27, .int .i64 (k : Int)), (28, .int .i64 (x.1 : Int))])
      (fun x => diskHH d rf rb (.map es1 c1) o2 (.slice (some ⟨b, 0, none⟩) lg.length cap) lg on l d2 r2 rb2 (.map es1 c1) (.map x.2.1 x.2.2.1) (svOf x.2.2.2 (lg.take x.1).length) (lg.take x.1) true (-1))
      (fun x => x.1 ≤ k ∧ MapS x.2.1 x.2.2.1 (replay mf (lg.take x.1)) ∧ (x.2.2.2 = none ↔ x.1 = 0)) (fun x => k - x.1) (0, es1, c1, none) ⟨by omega, M1, by simp⟩ ⟨rfl, rfl, rfl, rfl, trivial⟩ (Sub.sel [5, 4, 6, 7, 0, 1, 2, 3] rfl) ?_
    rintro ⟨i, es', c', g'⟩ f0 ⟨hi, M', hg'⟩
    dsimp only at *
    conv => whnf
    refine cond_dec (fun h => ?_) (fun h => ?_)
    · conv => whnf
      refine ⟨by omega, ?_⟩
      conv => whnf
      refine LoadV.oa 2 rfl (by show 0 + i * 2 + 2 ≤ (logCells lg).length; rw [logCells_length]; omega) ?_
      have hrow : ((logCells lg).drop (0 + i * 2)).take 2 = [.int .i64 (lg[i]'(by omega)).1, .string (lg[i]'(by omega)).2] := by rw [Nat.zero_add]; exact logCells_row lg i (by omega)
      have hrow' : ((logCells lg).drop (elemOff 0 (i : Int) Try.prog.types[29].size)).take 2 = [.int .i64 (lg[i]'(by omega)).1, .string (lg[i]'(by omega)).2] := hrow
      rw [hrow']
      have hent := hlo (lg[i]'(by omega)) (List.getElem_mem _)
      have htake : lg.take (i + 1) = lg.take i ++ [lg[i]'(by omega)] := (List.take_append_getElem (by omega)).symm
      have hlen : (lg.take i).length = i := by simp; omega
      generalize lg[i]'(by omega) = p at hent htake ⊢
      conv => whnf
      intro b3
      conv => whnf
      refine StoreV.c rfl rfl (Nat.le_of_ble_eq_true rfl) rfl ?_
      conv => whnf
      refine LoadV.s rfl rfl ?_
      conv => whnf
      refine LoadV.s rfl rfl ?_
      conv => whnf
      refine CallS.mk Try.call11 ⟨[_, _, _, _], _, _, Sub.split [5, 6, 7, 8] rfl, fun F' _ => write_ok F' d2 r2 rb2 (.map es1 c1) es' c' _ M' _ (lg.take i) true (-1) p.1 p.2 (by rw [hlen]; omega) (by omega), ?_⟩
      rintro e A' ⟨rfl, hA⟩
      rcases hA with ⟨h1, _⟩ | ⟨_, _, es'', c'', g3, cap3, M'', rfl⟩
      · exact absurd (wcode_ok hent) h1
      · conv => whnf
        refine ArI.to64 ((i + 1 : Nat) : Int) (by omega) (by omega) ?_
        conv => whnf
        refine ⟨(i + 1, es'', c'', some (g3, cap3)), _, by dsimp only; omega, Sub.sel [5, 6, 7, 8, 0, 1, 2, 3] rfl, ⟨by dsimp only; omega, ?_, by simp⟩, ⟨rfl, rfl, rfl, rfl, trivial⟩, ?_⟩
        · dsimp only
          rw [htake]; unfold replay; rw [List.foldl_append]; exact M''
        · dsimp only
          have e1 : svOf (some (g3, cap3)) (lg.take i ++ [p]).length = .slice (some ⟨g3, 0, none⟩) ((lg.take i).length + 1) cap3 := by simp [svOf]
          rw [htake, e1]; rfl
    · conv => whnf
      refine RetI.one Try.results12 rfl ?_
      conv => whnf
      have : i = k := by omega
      subst this
      exact ⟨_, Sub.refl _, d2, r2, rb2, es', c', g', M', hg', rfl, rfl⟩
end Go.Proofs.Ytjjkpkacembhpaa
