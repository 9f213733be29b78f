/- The disk lives; power. -/
import Derived.Test.YtjjkpkacembhpaaDisk5
namespace Go.Proofs.Ytjjkpkacembhpaa
set_option linter.unusedVariables false
set_option linter.unusedSimpArgs false
open SL Go.RowKit Go.Maps

theorem modIn (v : Int) (n : Int) (h0 : 0 < n) (h1 : n ≤ 1000) : 0 ≤ IntKind.i64.wrap ((IntKind.u64.wrap v).tmod n) ∧ IntKind.i64.wrap ((IntKind.u64.wrap v).tmod n) < n := by
  have h : 0 ≤ IntKind.u64.wrap v := by simp [IntKind.wrap, IntKind.signed]; omega
  have h2 := Int.tmod_nonneg n h
  have h3 := Int.tmod_lt_of_pos (IntKind.u64.wrap v) h0
  rw [IntWalk.i64_in _ (by omega)]
  exact ⟨h2, h3⟩
theorem i64_up (i n : Nat) (h : i < n) (hn : n ≤ 9223372036854775807) : IntKind.i64.wrap ((i : Int) + 1) = ((i + 1 : Nat) : Int) := by rw [IntWalk.i64_in _ (by omega)]; omega
theorem inDisk_put {m : List (Int × ByteArray)} (h : InDisk m) {a : Int} {s : ByteArray} (ha : 0 ≤ a ∧ a < 2048) : InDisk (putM m a s) := by
  induction m with
  | nil => intro p hp; simp [putM] at hp; subst hp; exact ha
  | cons q m ih =>
    intro p hp
    unfold putM at hp
    split at hp
    · rcases List.mem_cons.1 hp with rfl | hp
      · exact ha
      · exact h p (by simp [hp])
    · rcases List.mem_cons.1 hp with rfl | hp
      · exact h _ (by simp)
      · exact ih (fun p hp => h p (by simp [hp])) p hp
theorem wcode_at {on : Bool} {a : Int} {s : ByteArray} (h : wcode on a s = 0) : 0 ≤ a ∧ a < 2048 ∧ s.size ≤ 32 := by
  unfold wcode at h
  split at h
  · cases h
  · split at h
    · cases h
    · split at h
      · cases h
      · omega
/-- The copies, their contents under names of their own. -/
theorem writes_cp (F : Mem) (d rf rb : Nat) (o1 o2 : Obj) (g : Option (Nat × Nat)) (lg : List (Int × ByteArray)) (on : Bool) (l : Int) (hg : g = none ↔ lg = []) (hlog : lg.length * 24 ≤ 140737488355328) :
    FT Try.prog 10 [.pointer (some ⟨d, 0, none⟩)].toArray F (diskH d rf rb o1 o2 (svOf g lg.length) lg on l)
    (fun e H => ∃ g' lk, lk = lg ∧ (g' = none ↔ lk = []) ∧ e = .returned (svOf g' lk.length) ∧ H = .own (svOf g' lk.length) lk.length 29 2 (logCells lk) :: diskH d rf rb o1 o2 (svOf g lg.length) lg on l) :=
  (writes_ok F d rf rb o1 o2 g lg on l hg.1 (fun h e => h (hg.2 e)) hlog).mono fun e H ⟨g', h1, h2, h3⟩ => ⟨g', lg, rfl, h1.trans hg, h2, h3⟩
theorem image_cp (F : Mem) (d rf rb : Nat) (o1 : Obj) (es : Array MapEntry) (c : Nat) (m : List (Int × ByteArray)) (M : MapS es c m) (hm : InDisk m) (sv : Value) (lg : List (Int × ByteArray)) (on : Bool) (l : Int) :
    FT Try.prog 9 [.pointer (some ⟨d, 0, none⟩)].toArray F (diskH d rf rb o1 (.map es c) sv lg on l)
    (fun e H => ∃ b im, im = imageL m ∧ e = .returned (.slice (some ⟨b, 0, none⟩) im.length im.length) ∧ H = .cells b (strs im) 9 (0, 0) :: diskH d rf rb o1 (.map es c) sv lg on l) :=
  (image_ok F d rf rb o1 es c m M hm sv lg on l).mono fun e H ⟨b, h1, h2⟩ => ⟨b, _, rfl, h1, h2⟩
/-- A writing with all the power, of a right place and text. -/
theorem go_ok (F : Mem) (d rf rb : Nat) (o1 : Obj) (es : Array MapEntry) (c : Nat) (m : List (Int × ByteArray)) (M : MapS es c m) (g : Option (Nat × Nat)) (lg : List (Int × ByteArray)) (at_ : Int) (s : ByteArray)
    (hlog : (lg.length + 1) * 24 ≤ 140737488355328) (h : 0 ≤ at_ ∧ at_ < 2048 ∧ s.size ≤ 32) :
    FT Try.prog 11 [.pointer (some ⟨d, 0, none⟩), .int .i64 at_, .string s].toArray F (diskH d rf rb o1 (.map es c) (svOf g lg.length) lg true (-1))
    (fun e H => e = .returned (.int .i64 0) ∧ ∃ es' c' g', MapS es' c' (putM m at_ s) ∧ g' ≠ none ∧ H = diskH d rf rb o1 (.map es' c') (svOf g' (lg ++ [(at_, s)]).length) (lg ++ [(at_, s)]) true (-1)) := by
  refine (write_ok F d rf rb o1 es c m M (svOf g lg.length) lg true (-1) at_ s hlog (by omega)).mono ?_
  rintro e H ⟨rfl, hA⟩
  have h0 : wcode true at_ s = 0 := wcode_ok (p := (at_, s)) h
  rcases hA with ⟨h1, _⟩ | ⟨_, _, es', c', g3, cap3, M', rfl⟩
  · exact absurd h0 h1
  · refine ⟨by rw [h0], es', c', some (g3, cap3), M', by simp, ?_⟩
    have e1 : svOf (some (g3, cap3)) (lg ++ [(at_, s)]).length = .slice (some ⟨g3, 0, none⟩) (lg.length + 1) cap3 := by simp
    rw [diskH, e1]; rfl
theorem lives_ok (F : Mem) : FT Try.prog 7 [].toArray F [] (Ret (.bool true)) := by
  refine FT.of_body Try.func7 rfl Try.ntmps7 (by simp) fun C hC => ?_
  conv => whnf
  refine CallS.mk Try.call8 ⟨[], _, _, Sub.split [] rfl, fun F' _ => new_ok F', ?_⟩
  rintro e A' ⟨d, r, rb, rfl, rfl⟩
  conv => whnf
  refine CallS.mk Try.call11 ⟨[_, _, _, _], _, _, Sub.split [0, 1, 2, 3] rfl, fun F' _ => write_ok F' d r rb (.map #[] 0) #[] 0 [] MapOk.empty (.slice none 0 0) [] true (-1) 3 ⟨#[97, 98]⟩ (by simp) (by omega), ?_⟩
  rintro e A' ⟨rfl, hA⟩
  rcases hA with ⟨h1, _⟩ | ⟨_, _, es', c', g, cap, M', rfl⟩
  · exact absurd rfl h1
  conv => whnf
  refine CallS.mk Try.call18 ⟨[_, _], _, _, Sub.split [0, 2] rfl, fun F' _ => read_ok F' d r rb es' c' _ M' _ _ _ 3, ?_⟩
  rintro e A' ⟨rfl, rfl⟩
  conv => whnf
  rw [show (readV (wOn (-1)) (putM [] 3 ⟨#[97, 98]⟩) 3).1 = ⟨#[97, 98]⟩ from rfl, beq_self_eq_true]
  conv => whnf
  refine CallS.mk Try.call9 ⟨[_, _, _, _], _, _, Sub.split [0, 2, 1, 3] rfl, fun F' _ => image_ok F' d r rb (.map #[] 0) es' c' _ M' (inDisk_put (by intro p hp; cases hp) (by omega)) (.slice (some ⟨g, 0, none⟩) (([] : List (Int × ByteArray)).length + 1) cap) ([] ++ [((3 : Int), (⟨#[97, 98]⟩ : ByteArray))]) (wOn (-1)) (wLeft (-1)), ?_⟩
  rintro e A' ⟨b, rfl, rfl⟩
  conv => whnf
  have e0 : svOf (some (g, cap)) ([] ++ [((3 : Int), (⟨#[97, 98]⟩ : ByteArray))]).length = .slice (some ⟨g, 0, none⟩) (([] : List (Int × ByteArray)).length + 1) cap := rfl
  rw [← e0]
  refine CallS.mk Try.call10 ⟨[_, _, _, _], _, _, Sub.split [1, 2, 3, 4] rfl, fun F' _ => writes_ok F' d r rb (.map #[] 0) (.map es' c') (some (g, cap)) ([] ++ [((3 : Int), (⟨#[97, 98]⟩ : ByteArray))]) (wOn (-1)) (wLeft (-1)) (by simp) (by simp) (by simp), ?_⟩
  rintro e A' ⟨g', hg', rfl, rfl⟩
  cases g' with
  | none => exact absurd (hg'.1 rfl) (by simp)
  | some q =>
    conv => whnf
    refine CallS.mk Try.call12 ⟨[_, _, _, _], _, _, Sub.split [1, 2, 3, 4] rfl, fun F' _ => cut_ok F' d r rb #[] 0 [] MapOk.empty (.map es' c') (some (g, cap)) ([] ++ [((3 : Int), (⟨#[97, 98]⟩ : ByteArray))]) (wOn (-1)) (wLeft (-1)) 0 (by simp) (by intro p hp; simp at hp; subst hp; exact ⟨by decide, by decide, by decide⟩) (by simp), ?_⟩
    rintro e A' ⟨d2, r2, rb2, es2, c2, g2, M2, hg2, rfl, rfl⟩
    conv => whnf
    refine RetI.one Try.results7 rfl ?_
    conv => whnf
    exact ⟨_, Sub.sel [] rfl, rfl, rfl⟩
end Go.Proofs.Ytjjkpkacembhpaa
