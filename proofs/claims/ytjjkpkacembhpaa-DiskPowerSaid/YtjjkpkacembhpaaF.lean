/- The disk lives; power. -/
import Derived.Test.YtjjkpkacembhpaaE
namespace Go.Proofs.Ytjjkpkacembhpaa
open SL Go.RowKit Go.Maps

theorem modIn (v : Int) (n : Int) (h0 : 0 < n) (h1 : n ≤ 1000) : 0 ≤ IntKind.i64.wrap ((IntKind.u64.wrap v).tmod n) ∧ IntKind.i64.wrap ((IntKind.u64.wrap v).tmod n) < n := by
  have h : 0 ≤ IntKind.u64.wrap v := by simp [IntKind.wrap, IntKind.signed]; omega
  have h2 := Int.tmod_nonneg n h
  have h3 := Int.tmod_lt_of_pos (IntKind.u64.wrap v) h0
  rw [IntWalk.i64_in _ (by omega)]
  exact ⟨h2, h3⟩
theorem i64_up (i n : Nat) (h : i < n) (hn : n ≤ 9223372036854775807) : IntKind.i64.wrap ((i : Int) + 1) = ((i + 1 : Nat) : Int) := by rw [IntWalk.i64_in _ (by omega)]; omega
theorem inDisk_put {m : List (Int × ByteArray)} (h : InDisk m) {a : Int} {s : ByteArray} (ha : 0 ≤ a ∧ a < 2048) : InDisk (putM m a s) := by
  induction m with
  | nil => intro p hp; simp [putM] at hp; subst hp; exact ha
  | cons q m ih =>
    intro p hp
    unfold putM at hp
    split at hp
    · rcases List.mem_cons.1 hp with rfl | hp
      · exact ha
      · exact h p (by simp [hp])
    · rcases List.mem_cons.1 hp with rfl | hp
      · exact h _ (by simp)
      · exact ih (fun p hp => h p (by simp [hp])) p hp
theorem wcode_at {on : Bool} {a : Int} {s : ByteArray} (h : wcode on a s = 0) : 0 ≤ a ∧ a < 2048 ∧ s.size ≤ 32 := by
  unfold wcode at h
  split at h
  · cases h
  · split at h
    · cases h
    · split at h
      · cases h
      · omega
theorem lives_ok (F : Mem) : FT Try.prog 7 [].toArray F [] (Ret (.bool true)) := by
  refine FT.of_body Try.func7 rfl Try.ntmps7 (by simp) fun C hC => ?_
  conv => whnf
  refine CallS.mk Try.call8 ⟨[], _, _, Sub.split [] rfl, fun F' _ => new_ok F', ?_⟩
  rintro e A' ⟨d, r, rb, rfl, rfl⟩
  conv => whnf
  refine CallS.mk Try.call11 ⟨[_, _, _, _], _, _, Sub.split [0, 1, 2, 3] rfl, fun F' _ => write_ok F' d r rb (.map #[] 0) #[] 0 [] MapOk.empty (.slice none 0 0) [] true (-1) 3 ⟨#[97, 98]⟩ (by simp) (by omega), ?_⟩
  rintro e A' ⟨rfl, hA⟩
  rcases hA with ⟨h1, _⟩ | ⟨_, _, es', c', g, cap, M', rfl⟩
  · exact absurd rfl h1
  conv => whnf
  refine CallS.mk Try.call18 ⟨[_, _], _, _, Sub.split [0, 2] rfl, fun F' _ => read_ok F' d r rb es' c' _ M' _ _ _ 3, ?_⟩
  rintro e A' ⟨rfl, rfl⟩
  conv => whnf
  rw [show (readV (wOn (-1)) (putM [] 3 ⟨#[97, 98]⟩) 3).1 = ⟨#[97, 98]⟩ from rfl, beq_self_eq_true]
  conv => whnf
  refine CallS.mk Try.call9 ⟨[_, _, _, _], _, _, Sub.split [0, 2, 1, 3] rfl, fun F' _ => image_ok F' d r rb (.map #[] 0) es' c' _ M' (inDisk_put (by intro p hp; cases hp) (by omega)) (.slice (some ⟨g, 0, none⟩) (([] : List (Int × ByteArray)).length + 1) cap) ([] ++ [((3 : Int), (⟨#[97, 98]⟩ : ByteArray))]) (wOn (-1)) (wLeft (-1)), ?_⟩
  rintro e A' ⟨b, rfl, rfl⟩
  conv => whnf
  have e0 : svOf (some (g, cap)) ([] ++ [((3 : Int), (⟨#[97, 98]⟩ : ByteArray))]).length = .slice (some ⟨g, 0, none⟩) (([] : List (Int × ByteArray)).length + 1) cap := rfl
  rw [← e0]
  refine CallS.mk Try.call10 ⟨[_, _, _, _], _, _, Sub.split [1, 2, 3, 4] rfl, fun F' _ => writes_ok F' d r rb (.map #[] 0) (.map es' c') (some (g, cap)) ([] ++ [((3 : Int), (⟨#[97, 98]⟩ : ByteArray))]) (wOn (-1)) (wLeft (-1)) (by simp) (by simp) (by simp), ?_⟩
  rintro e A' ⟨g', hg', rfl, rfl⟩
  cases g' with
  | none => exact absurd (hg'.1 rfl) (by simp)
  | some q =>
    conv => whnf
    refine CallS.mk Try.call12 ⟨[_, _, _, _], _, _, Sub.split [1, 2, 3, 4] rfl, fun F' _ => cut_ok F' d r rb #[] 0 [] MapOk.empty (.map es' c') (some (g, cap)) ([] ++ [((3 : Int), (⟨#[97, 98]⟩ : ByteArray))]) (wOn (-1)) (wLeft (-1)) 0 (by simp) (by intro p hp; simp at hp; subst hp; exact ⟨by decide, by decide, by decide⟩) (by simp), ?_⟩
    rintro e A' ⟨d2, r2, rb2, es2, c2, g2, M2, hg2, rfl, rfl⟩
    conv => whnf
    refine RetI.one Try.results7 rfl ?_
    conv => whnf
    exact ⟨_, Sub.sel [] rfl, rfl, rfl⟩
/-! ### Power -/
theorem power_ok (F : Mem) (oa : Option Addr) (ca : Nat) (ws : List (Int × ByteArray)) (n : Int) (hw : SlF F 2 oa ws.length (logCells ws)) (hlog : (ws.length + 1) * 24 ≤ 140737488355328) :
    FT Try.prog 4 [.slice oa ws.length ca, .int .i64 n].toArray F [] (Ret (.bool true)) := by
  refine FT.of_body Try.func4 rfl Try.ntmps4 (by simp) fun C hC => ?_
  subst hC
  conv => whnf
  refine CallS.mk Try.call7 ⟨[], _, _, Sub.split [] rfl, fun F' _ => lives_ok F', ?_⟩
  rintro e A' ⟨rfl, rfl⟩
  conv => whnf
  refine ⟨by decide, ?_⟩
  conv => whnf
  have hx := modIn n 9 (by omega) (by omega)
  generalize IntKind.i64.wrap ((IntKind.u64.wrap n).tmod 9) = x at hx ⊢
  obtain ⟨k, rfl⟩ := Int.eq_ofNat_of_zero_le hx.1
  refine CallS.mk Try.call8 ⟨[], _, _, Sub.split [] rfl, fun F' _ => new_ok F', ?_⟩
  rintro e A' ⟨d, r, rb, rfl, rfl⟩
  conv => whnf
  refine CallS.mk Try.call17 ⟨[_], _, _, Sub.split [0] rfl, fun F' _ => up_ok F' d _ _ _ _ _ k, ?_⟩
  rintro e A' ⟨rfl, rfl⟩
  conv => whnf
  refine LoopI.by_state (σ := Nat × Array MapEntry × Nat × List (Int × ByteArray) × Option (Nat × Nat) × List (Int × ByteArray)) (fun x => [(0, .slice oa ws.length ca), (5, .int .i64 (k : Int)), (6, .pointer (some ⟨d, 0, none⟩)), (7, .int .i64 (x.2.2.2.2.2.length : Int)), (23, .slice oa ws.length ca), (24, .int .i64 (ws.length : Int)), (25, .int .i64 (x.1 : Int))])
    (fun x => diskH d r rb (.map #[] 0) (.map x.2.1 x.2.2.1) (svOf x.2.2.2.2.1 x.2.2.2.2.2.length) x.2.2.2.2.2 (decide (x.2.2.2.2.2.length < k)) ((k : Int) - x.2.2.2.2.2.length))
    (fun x => x.1 ≤ ws.length ∧ MapS x.2.1 x.2.2.1 x.2.2.2.1 ∧ x.2.2.2.2.2.length ≤ k ∧ x.2.2.2.2.2.length ≤ x.1 ∧ (x.2.2.2.2.1 = none ↔ x.2.2.2.2.2 = [])) (fun x => ws.length - x.1) (0, #[], 0, [], none, []) ⟨by simp, MapOk.empty, by simp, by simp, by simp⟩ ⟨rfl, rfl, rfl, rfl, rfl, rfl, rfl, trivial⟩ ?_ ?_
  · have e1 : (((k : Nat) : Int) != 0) = decide (([] : List (Int × ByteArray)).length < k) := by
      rw [Bool.eq_iff_iff]; simp; omega
    have e2 : ((k : Nat) : Int) = (k : Int) - (([] : List (Int × ByteArray)).length : Nat) := by simp
    dsimp only
    rw [← e1, ← e2]
    exact Sub.refl _
  rintro ⟨i, es, c, m, g, lg⟩ f0 ⟨hi, M, hk, hli, hg⟩
  dsimp only at *
  conv => whnf
  refine cond_dec (fun h => ?_) (fun h => ?_)
  · obtain ⟨xa, ya, rfl, hra⟩ := hw.at (i := i) (by omega)
    conv => whnf
    refine ⟨by omega, ?_⟩
    conv => whnf
    refine LoadV.fa (cs := [.int .i64 (ws[i]'(by omega)).1, .string (ws[i]'(by omega)).2]) (row_at hra (i := i) (by omega)) rfl ?_
    generalize ws[i]'(by omega) = p
    conv => whnf
    intro b
    conv => whnf
    refine StoreV.c rfl rfl (Nat.le_of_ble_eq_true rfl) rfl ?_
    conv => whnf
    refine LoadV.s rfl rfl ?_
    conv => whnf
    refine LoadV.s rfl rfl ?_
    conv => whnf
    refine CallS.mk Try.call11 ⟨[_, _, _, _], _, _, Sub.split [1, 2, 3, 4] rfl, fun F' _ => write_ok F' d r rb (.map #[] 0) es c m M (svOf g lg.length) lg (decide (lg.length < k)) ((k : Int) - lg.length) p.1 p.2 (by omega) (by omega), ?_⟩
    rintro e A' ⟨rfl, hA⟩
    have hc : (decide (((lg.length : Nat) : Int) ≥ (k : Int)) == (wcode (decide (lg.length < k)) p.1 p.2 == 11)) = true := by
      rw [beq_iff_eq, Bool.eq_iff_iff]
      simp only [decide_eq_true_eq, beq_iff_eq]
      unfold wcode
      by_cases h1 : lg.length < k
      · simp only [h1, decide_true, Bool.true_eq_false, if_false]
        constructor
        · intro h2; omega
        · intro h2; split at h2 <;> first | omega | (split at h2 <;> omega)
      · simp [h1]; omega
    rcases hA with ⟨h1, rfl⟩ | ⟨h1, h2, es', c', g3, cap3, M', rfl⟩
    · conv => whnf
      rw [hc]
      conv => whnf
      rw [show (wcode (decide (lg.length < k)) p.1 p.2 == 0) = false from beq_eq_false_iff_ne.2 h1]
      conv => whnf
      refine CallS.mk Try.call13 ⟨[_], _, _, Sub.split [0] rfl, fun F' _ => on_ok F' d _ _ _ _ _, ?_⟩
      rintro e A' ⟨rfl, rfl⟩
      conv => whnf
      rw [show (decide (lg.length < k) == decide (((lg.length : Nat) : Int) < (k : Int))) = true from by rw [beq_iff_eq, Bool.eq_iff_iff]; simp]
      conv => whnf
      refine ⟨(i + 1, es, c, m, g, lg), _, by dsimp only; omega, Sub.sel [0, 1, 2, 3] rfl, ⟨by dsimp only; omega, M, hk, by dsimp only; omega, hg⟩, ⟨rfl, rfl, rfl, rfl, rfl, rfl, ?_, trivial⟩, rfl⟩
      exact congrArg (Value.int .i64) (i64_up i ws.length (by omega) (by omega))
    · have hlt : lg.length < k := by simpa using h2
      have e3 : wLeft ((k : Int) - lg.length) = (k : Int) - ((lg ++ [(p.1, p.2)]).length : Nat) := by unfold wLeft; rw [if_pos (by omega)]; simp; omega
      have e4 : wOn ((k : Int) - lg.length) = decide ((lg ++ [(p.1, p.2)]).length < k) := by
        unfold wOn; rw [if_pos (by omega), Bool.eq_iff_iff]; simp; omega
      have e5 : svOf (some (g3, cap3)) (lg ++ [(p.1, p.2)]).length = .slice (some ⟨g3, 0, none⟩) (lg.length + 1) cap3 := by simp [svOf]
      have e6 : IntKind.i64.wrap (((lg.length : Nat) : Int) + 1) = (((lg ++ [(p.1, p.2)]).length : Nat) : Int) := by rw [IntWalk.i64_in _ (by omega)]; simp
      conv => whnf
      rw [hc]
      conv => whnf
      rw [show (wcode (decide (lg.length < k)) p.1 p.2 == 0) = true from beq_iff_eq.2 h1]
      conv => whnf
      refine CallS.mk Try.call13 ⟨[_], _, _, Sub.split [0] rfl, fun F' _ => on_ok F' d _ _ _ _ _, ?_⟩
      rintro e A' ⟨rfl, rfl⟩
      conv => whnf
      rw [show (wOn ((k : Int) - lg.length) == decide (IntKind.i64.wrap (((lg.length : Nat) : Int) + 1) < (k : Int))) = true from by
        rw [e4, e6, beq_iff_eq, Bool.eq_iff_iff]; simp; omega]
      conv => whnf
      refine ⟨(i + 1, es', c', putM m p.1 p.2, some (g3, cap3), lg ++ [(p.1, p.2)]), _, by dsimp only; omega, Sub.sel [0, 1, 2, 3] rfl, ⟨by dsimp only; omega, M', by simp; omega, by simp; omega, by simp⟩, ⟨rfl, rfl, rfl, ?_, rfl, rfl, ?_, trivial⟩, ?_⟩
      · exact congrArg (Value.int .i64) e6
      · exact congrArg (Value.int .i64) (i64_up i ws.length (by omega) (by omega))
      · dsimp only
        rw [e5, ← e3, ← e4]
  · conv => whnf
    have hgn : g = none → lg = [] := hg.1
    have hgs : g ≠ none → lg ≠ [] := fun h e => h (hg.2 e)
    refine CallS.mk Try.call10 ⟨[_, _, _, _], _, _, Sub.split [0, 1, 2, 3] rfl, fun F' _ => writes_ok F' d r rb (.map #[] 0) (.map es c) g lg (decide (lg.length < k)) ((k : Int) - lg.length) hgn hgs (by omega), ?_⟩
    rintro e A' ⟨g', hg', rfl, rfl⟩
    obtain ⟨oa', cap', hv⟩ : ∃ oa' cap', svOf g' lg.length = .slice oa' lg.length cap' := by
      cases g' with
      | none => rw [hgn (hg'.1 rfl)]; exact ⟨none, 0, rfl⟩
      | some q => exact ⟨_, _, rfl⟩
    rw [hv]
    conv => whnf
    rw [show (((lg.length : Nat) : Int) != ((lg.length : Nat) : Int)) = false from bne_self_eq_false _]
    conv => whnf
    refine CallS.mk Try.call18 ⟨[_, _], _, _, Sub.split [1, 3] rfl, fun F' _ => read_ok F' d r rb es c m M _ _ _ 0, ?_⟩
    rintro e A' ⟨rfl, rfl⟩
    conv => whnf
    have hr : (((readV (decide (lg.length < k)) m 0).2 == 11) == decide (((lg.length : Nat) : Int) < (k : Int))) = false := by
      rw [beq_eq_false_iff_ne, ne_eq, Bool.eq_iff_iff]
      unfold readV
      by_cases h1 : lg.length < k <;> simp [h1] <;> omega
    rw [hr]
    conv => whnf
    refine CallS.mk Try.call17 ⟨[_], _, _, Sub.split [0] rfl, fun F' _ => up_ok F' d _ _ _ _ _ (-1), ?_⟩
    rintro e A' ⟨rfl, rfl⟩
    conv => whnf
    refine CallS.mk Try.call13 ⟨[_], _, _, Sub.split [0] rfl, fun F' _ => on_ok F' d _ _ _ _ _, ?_⟩
    rintro e A' ⟨rfl, rfl⟩
    conv => whnf
    refine CallS.mk Try.call11 ⟨[_, _, _, _], _, _, Sub.split [0, 3, 1, 4] rfl, fun F' _ => write_ok F' d r rb (.map #[] 0) es c m M (svOf g lg.length) lg ((-1 : Int) != 0) (-1) 0 ⟨#[122]⟩ (by omega) (by omega), ?_⟩
    rintro e A' ⟨rfl, hA⟩
    rcases hA with ⟨h1, rfl⟩ | ⟨h1, h2, es', c', g3, cap3, M', rfl⟩
    · exact absurd rfl h1
    · conv => whnf
      refine CallS.mk Try.call13 ⟨[_], _, _, Sub.split [0] rfl, fun F' _ => on_ok F' d _ _ _ _ _, ?_⟩
      rintro e A' ⟨rfl, rfl⟩
      conv => whnf
      refine RetI.one Try.results4 rfl ?_
      conv => whnf
      exact ⟨_, Sub.sel [] rfl, rfl, rfl⟩
end Go.Proofs.Ytjjkpkacembhpaa
