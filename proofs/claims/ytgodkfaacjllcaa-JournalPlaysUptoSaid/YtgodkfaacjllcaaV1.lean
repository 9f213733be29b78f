/- What the laws' proofs stand on, in one row: laws in numbers and lists, contracts of functions. No condition. -/
import Derived.Test.YtgodkfaacjllcaaU1
/- The two disks and the two journals: opening both. -/
namespace Go.Proofs.Ytgodkfaacjllcaa
set_option linter.unusedVariables false
set_option linter.unusedSimpArgs false
set_option maxRecDepth 100000
open SL Go.RowKit Go.Maps

/-- Both disks, and both journals where there are some. -/
structure PX where
  d : Nat
  r : Nat
  rb : Nat
  x : JS
  rd : Nat
  g0 : Option (Nat × Nat)
  rb2 : Nat
  y : RS
abbrev baseH (es1 : Array MapEntry) (c1 : Nat) (fi : List ByteArray) (X : PX) : Heap :=
  [.cells X.d [.map (some X.r), .map (some X.rb), svOf X.x.g X.x.a.lg.length, .bool X.x.a.on, .int .i64 X.x.a.l] 82 (0, 0), .obj X.r (.map es1 c1), .obj X.rb (.map X.x.es X.x.c), .own (svOf X.x.g X.x.a.lg.length) X.x.a.lg.length 85 2 (logCells X.x.a.lg),
   .cells X.rd [svOf X.g0 fi.length, .slice (some ⟨X.rb2, 0, none⟩) 2048 2048, svOf X.y.gl X.x.a.lg.length, .int .i64 X.y.p] 67 (0, 0), .own (svOf X.g0 fi.length) fi.length 9 1 (strs fi), .cells X.rb2 (strs X.y.bl) 9 (0, 0), .own (svOf X.y.gl X.x.a.lg.length) X.x.a.lg.length 85 2 (logCells X.x.a.lg)]
structure POk (es1 : Array MapEntry) (c1 : Nat) (fi : List ByteArray) (X : PX) : Prop where
  J : JOk es1 c1 (fromM fi fi.length) X.x
  R : ROk (fromM fi fi.length) X.x.a X.y
  g0 : X.g0 = none → fi = []
  fi0 : fromC fi = 0
abbrev pairC (k d rd : Nat) (jv kv : Value) : HObj := .cells k [.pointer (some ⟨d, 0, none⟩), jv, .pointer (some ⟨rd, 0, none⟩), kv] 59 (0, 0)
/-- The pair, with journals or without. -/
abbrev pairH (k : Nat) (es1 : Array MapEntry) (c1 : Nat) (fi : List ByteArray) (X : PX) : Option (Nat × Nat × JA) → Heap
  | none => pairC k X.d X.rd (.pointer none) (.pointer none) :: baseH es1 c1 fi X
  | some (j, j2, J) => pairC k X.d X.rd (.pointer (some ⟨j, 0, none⟩)) (.pointer (some ⟨j2, 0, none⟩)) :: jCell j X.d J :: kCell j2 X.rd J :: baseH es1 c1 fi X
/-- A journal's numbers are small. -/
def JSmall (jo : Option (Nat × Nat × JA)) : Prop := ∀ t, jo = some t → t.2.2.n ≤ 65535 ∧ t.2.2.e ≤ 2048
theorem JSmall.none : JSmall none := fun t h => by cases h
theorem JSmall.some {j j2 : Nat} {J : JA} (h : J.n ≤ 65535) (h2 : J.e ≤ 2048) : JSmall (some (j, j2, J)) := fun t e => by cases e; exact ⟨h, h2⟩
/-- The pair after opening, or after a step. -/
def PairR (k : Nat) (es1 : Array MapEntry) (c1 : Nat) (fi : List ByteArray) (n : Nat) (H : Heap) : Prop :=
  ∃ X jo, POk es1 c1 fi X ∧ X.x.a.lg.length ≤ n ∧ JSmall jo ∧ H = pairH k es1 c1 fi X jo
theorem openA_len {mf : List (Int × ByteArray)} {a : DA} (h : (imgA mf a).length ≤ 2048) : (openA mf a).1.lg.length ≤ a.lg.length + 2048 := by
  have := wipe_len ((imgA mf a).drop (scanE (imgA mf a))) (scanE (imgA mf a)) a
  unfold openA wipeA
  split
  · dsimp only; omega
  · split <;> (dsimp only; rw [List.length_drop] at this; omega)
theorem same_nil (F : Mem) : FT Try.prog 10 [.slice none 0 0, .slice none 0 0].toArray F [] (Ret (.bool true)) :=
  same_ok F none none 0 0 [] [] ⟨rfl, fun h => absurd h (by decide)⟩ ⟨rfl, fun h => absurd h (by decide)⟩ (by decide)
set_option maxHeartbeats 2000000 in
theorem popen_ok (F : Mem) (k : Nat) (jv kv : Value) (es1 : Array MapEntry) (c1 : Nat) (fi : List ByteArray) (X : PX) (P : POk es1 c1 fi X) (n : Nat) (hn : X.x.a.lg.length + 2048 ≤ n) (hroom : Room n 2048) :
    FT Try.prog 25 [.pointer (some ⟨k, 0, none⟩)].toArray F (pairC k X.d X.rd jv kv :: baseH es1 c1 fi X)
    (fun e H => e = .returned (.bool true) ∧ PairR k es1 c1 fi n H) := by
  obtain ⟨d, r, rb, x, rd, g0, rb2, y⟩ := X
  obtain ⟨I, R, hg0, hfi0⟩ := P
  dsimp only at I R hg0 hn ⊢
  obtain ⟨hi, him, hsm⟩ := I.img
  have htr : trimB y.bl = imgA (fromM fi fi.length) x.a := trim_image I.M hi R.B
  have hol := openA_len him
  refine FT.of_body Try.func25 rfl Try.ntmps25 (by simp) fun C hC => ?_
  subst hC
  conv => whnf
  refine LoadV.s rfl rfl ?_
  conv => whnf
  refine CallS.mk Try.call12 ⟨[_, _, _, _], [_, _, _, _, _], _, Sub.sel [1, 2, 3, 4, 0, 5, 6, 7, 8] rfl, fun F' hF' => open_ok F' d r rb es1 c1 _ x I (hroom.mono (by omega)), ?_⟩
  rintro e A' ⟨x2, I2, hx2, hO⟩
  rw [← hx2] at hol
  rcases hO with ⟨o1, rfl, rfl⟩ | ⟨pl, en, j, g, o1, he, hg, hpl, rfl, rfl⟩
  · conv => whnf
    refine LoadV.s rfl rfl ?_
    conv => whnf
    refine CallS.mk Try.call38 ⟨[_, _, _], [_, _, _, _, _, _], _, Sub.sel [5, 7, 8, 4, 0, 1, 2, 3, 6] rfl, fun F' hF' => ropen_ok F' rd _ rb2 _ x.a y R htr him hsm (hroom.mono (by omega)), ?_⟩
    rintro e A' hR
    unfold ROpenR at hR
    rw [← hx2] at hR
    obtain ⟨y2, R2, hO2⟩ := hR
    rcases hO2 with ⟨-, rfl, rfl⟩ | ⟨pl2, en2, j2, g2, o2, _⟩
    · conv => whnf
      refine CallS.mk Try.call10 ⟨[], _, _, Sub.refl _, fun F' hF' => same_nil F', ?_⟩
      rintro e A' ⟨rfl, rfl⟩
      conv => whnf
      repeat (first | (refine LoadV.s rfl rfl (forceV_of ?_); conv => whnf) | (refine LoadV.s rfl rfl ?_; conv => whnf) | (refine StoreV.c rfl rfl (Nat.le_of_ble_eq_true rfl) rfl ?_; conv => whnf) | (refine LoadV.a _ rfl (Nat.le_of_ble_eq_true rfl) ?_; conv => whnf) | (refine DrawI.quiet (by kernel_rfl) (by kernel_rfl) ?_; conv => whnf) | (refine ArI.in64 (by omega) ?_; conv => whnf) | (refine ArI.inU8 (by omega) ?_; conv => whnf) | (refine ArI.inU64 (by omega) ?_; conv => whnf) | (refine ArI.inU32 (by omega) ?_; conv => whnf) | (refine RetI.one Try.results25 rfl ?_; conv => whnf) | (refine RetI.two Try.results25 rfl rfl ?_; conv => whnf) | (refine RetI.three Try.results25 rfl rfl rfl ?_; conv => whnf) | (refine RetI.none Try.results25 ?_; conv => whnf) | (refine ⟨by first | decide | omega, ?_⟩; conv => whnf))
      exact ⟨_, Sub.sel [3, 4, 5, 6, 7, 0, 8, 1, 2] rfl, rfl, ⟨d, r, rb, x2, rd, g0, rb2, y2⟩, none, ⟨I2, R2, hg0, hfi0⟩, by dsimp only; omega, .none, rfl⟩
    · rw [o1] at o2; cases o2
  · conv => whnf
    refine LoadV.s rfl rfl ?_
    conv => whnf
    refine CallS.mk Try.call38 ⟨[_, _, _], [_, _, _, _, _, _, _, _], _, Sub.sel [7, 9, 10, 6, 0, 1, 2, 3, 4, 5, 8] rfl, fun F' hF' => ropen_ok F' rd _ rb2 _ x.a y R htr him hsm (hroom.mono (by omega)), ?_⟩
    rintro e A' hR
    unfold ROpenR at hR
    rw [← hx2] at hR
    obtain ⟨y2, R2, hO2⟩ := hR
    rcases hO2 with ⟨o2, _⟩ | ⟨pl2, en2, j2, g2, o2, -, hg2, -, rfl, rfl⟩
    · rw [o1] at o2; cases o2
    · obtain ⟨rfl, rfl⟩ := Prod.mk.inj (Option.some.inj (o1.symm.trans o2))
      conv => whnf
      refine CallS.mk Try.call10 ⟨[], _, _, Sub.refl _, fun F' hF' => same_two hF' g g2 pl hg hg2 (by omega), ?_⟩
      rintro e A' ⟨rfl, rfl⟩
      conv => whnf
      repeat (first | (refine LoadV.s rfl rfl (forceV_of ?_); conv => whnf) | (refine LoadV.s rfl rfl ?_; conv => whnf) | (refine StoreV.c rfl rfl (Nat.le_of_ble_eq_true rfl) rfl ?_; conv => whnf) | (refine LoadV.a _ rfl (Nat.le_of_ble_eq_true rfl) ?_; conv => whnf) | (refine DrawI.quiet (by kernel_rfl) (by kernel_rfl) ?_; conv => whnf) | (refine ArI.in64 (by omega) ?_; conv => whnf) | (refine ArI.inU8 (by omega) ?_; conv => whnf) | (refine ArI.inU64 (by omega) ?_; conv => whnf) | (refine ArI.inU32 (by omega) ?_; conv => whnf) | (refine RetI.one Try.results25 rfl ?_; conv => whnf) | (refine RetI.two Try.results25 rfl rfl ?_; conv => whnf) | (refine RetI.three Try.results25 rfl rfl rfl ?_; conv => whnf) | (refine RetI.none Try.results25 ?_; conv => whnf) | (refine ⟨by first | decide | omega, ?_⟩; conv => whnf))
      exact ⟨_, Sub.sel [5, 6, 0, 8, 9, 10, 11, 2, 12, 3, 4] rfl, rfl, ⟨d, r, rb, x2, rd, g0, rb2, y2⟩, some (j, j2, ⟨pl.length, en, false⟩), ⟨I2, R2, hg0, hfi0⟩, by dsimp only; omega, .some hpl he, rfl⟩
end Go.Proofs.Ytgodkfaacjllcaa

/- Regions that draw their order: early operations that read what only the late effects touch. -/
namespace Go.Proofs.Ytgodkfaacjllcaa
set_option linter.unusedVariables false
set_option linter.unusedSimpArgs false
set_option maxRecDepth 100000
namespace SL.Late
open Go Go.RowKit SL
section
variable (P : Program) (md : Region.Mode) (ops : Array Oper) (C : Ctx) (St St1 : Heap → Prop) (qf ef lf : Nat → Bool)
/-- What holds where an effect has run: one that isn't late leaves what the early ones read. -/
def Se (k : Nat) (H : Heap) : Prop := St H ∧ (lf k = false → St1 H)
def mOp (i : Nat) (K : Act → Heap → Prop) (a : Act) (H : Heap) : Prop :=
  match ops[i]? with
  | none => K a H
  | some o => if Region.wanted o (yielded ops a.tmps) = true then
      (if qf i = true then ∃ v, QY P C (Sq St St1 ef i) o a v ∧ K (a.put o.dst v) H else ∃ R, ER P C (Se St St1 lf i) o a H R ∧ ∀ v H', R v H' → Se St St1 lf i H' → (∃ w, Sat C H' w) → K (a.put o.dst v) H')
    else K (a.put o.dst undef) H
def wpAnyM (Q : Act → Heap → Prop) : Nat → Array Bool → Act → Heap → Prop
  | 0, listed, a, H => Region.ready md ops listed = [] ∧ Q a H
  | fuel + 1, listed, a, H => (Region.ready md ops listed = [] → Q a H) ∧ ∀ i ∈ Region.ready md ops listed, mOp P ops C St St1 qf ef lf i (wpAnyM Q fuel (listed.setIfInBounds i true)) a H
def wpMix (Q : Act → Heap → Prop) : List Oper → Nat → Act → Heap → Prop
  | [], _, a, H => Q a H
  | o :: rest, k, a, H => if Region.wanted o (yielded ops a.tmps) = true then
      (if qf k = true then ∃ v, QY P C (Sq St St1 ef k) o a v ∧ wpMix Q rest (k + 1) (a.put o.dst v) H else ∃ R, ER P C (Se St St1 lf k) o a H R ∧ ∀ v H', R v H' → Se St St1 lf k H' → (∃ w, Sat C H' w) → wpMix Q rest (k + 1) (a.put o.dst v) H')
    else wpMix Q rest (k + 1) (a.put o.dst undef) H
end
section
variable {P : Program} {md : Region.Mode} {ops : Array Oper} {C : Ctx} {St St1 : Heap → Prop} {qf ef lf : Nat → Bool}
theorem mOp_mono {i : Nat} {a : Act} {H : Heap} {K K' : Act → Heap → Prop} (h : ∀ a H, K a H → K' a H) (hh : mOp P ops C St St1 qf ef lf i K a H) : mOp P ops C St St1 qf ef lf i K' a H := by
  unfold mOp at *
  split
  · rename_i ho; simp only [ho] at hh; exact h _ _ hh
  · rename_i o ho
    simp only [ho] at hh
    split
    · rename_i hw
      rw [if_pos hw] at hh
      split
      · rename_i hq
        rw [if_pos hq] at hh
        obtain ⟨v, h1, h2⟩ := hh
        exact ⟨v, h1, h _ _ h2⟩
      · rename_i hq
        rw [if_neg hq] at hh
        obtain ⟨R, h1, h2⟩ := hh
        exact ⟨R, h1, fun v H' hr hs hw => h _ _ (h2 v H' hr hs hw)⟩
    · rename_i hw
      rw [if_neg hw] at hh
      exact h _ _ hh
def waitsE (md : Region.Mode) (ops : Array Oper) (qf ef lf : Nat → Bool) : Bool :=
  (List.range ops.size).all fun k => qf k || !lf k || match ops[k]? with
    | some ok => (ok.after.any fun e => Region.binds md e && !qf e.on && lf e.on) || (List.range ops.size).all fun i => !ef i || ok.after.any fun e => Region.binds md e && Nat.beq e.on i
    | none => true
def EInv (qf ef lf : Nat → Bool) (size : Nat) (listed : Array Bool) : Prop := ∀ k, qf k = false → lf k = true → listed.getD k false = true → ∀ i, i < size → ef i = true → listed.getD i false = true
theorem EInv.all {k : Nat} {listed : Array Bool} (hW : waitsE md ops qf ef lf = true) (hB : EInv qf ef lf ops.size listed) (hk : k ∈ Region.ready md ops listed) (hq : qf k = false) (hlk : lf k = true) {i : Nat} (hi : i < ops.size) (he : ef i = true) : listed.getD i false = true := by
  obtain ⟨_, ok, hok, hall⟩ := mem_ready.1 hk
  have hks : k < ops.size := (Array.getElem?_eq_some_iff.1 hok).1
  unfold waitsE at hW
  have h1 := List.all_eq_true.1 hW k (by simpa using hks)
  rw [hq, hlk, hok] at h1
  simp only [Bool.false_or, Bool.not_true] at h1
  simp only [Bool.or_eq_true] at h1
  rcases h1 with h1 | h1
  · obtain ⟨e, he', hb⟩ := Array.any_eq_true'.1 h1
    simp only [Bool.and_eq_true, Bool.not_eq_true'] at hb
    exact hB e.on hb.1.2 hb.2 (hall e he' hb.1.1) i hi he
  · have h2 := List.all_eq_true.1 h1 i (by simpa using hi)
    rw [he] at h2
    simp only [Bool.not_true, Bool.false_or] at h2
    obtain ⟨e, he', hb⟩ := Array.any_eq_true'.1 h2
    simp only [Bool.and_eq_true] at hb
    have := hall e he' hb.1
    rwa [Nat.eq_of_beq_eq_true hb.2] at this
theorem EInv.step {k : Nat} {listed : Array Bool} (hW : waitsE md ops qf ef lf = true) (hB : EInv qf ef lf ops.size listed) (hk : k ∈ Region.ready md ops listed) : EInv qf ef lf ops.size (listed.setIfInBounds k true) := by
  intro j hj hlj hl i hi he
  have grow : listed.getD i false = true → (listed.setIfInBounds k true).getD i false = true := fun h => by
    by_cases hki : k = i
    · subst hki
      by_cases hks : k < listed.size
      · simp [Array.getD, hks]
      · simp [Array.getD, hks] at h
    · rw [getD_set_ne false hki]; exact h
  by_cases hkj : k = j
  · subst hkj; exact grow (hB.all hW hk hj hlj hi he)
  · rw [getD_set_ne false hkj] at hl; exact grow (hB j hj hlj hl i hi he)
theorem wpAnyM_sound (hW : waitsE md ops qf ef lf = true) (hef : ∀ i, ef i = true → i < ops.size) {Q : Act → Heap → Prop} {Q' : Exit → Act → World → Prop} (hQ : ∀ a H w, Sat C H w → Q a H → Q' .normal a w) : ∀ (fuel : Nat) (listed : Array Bool) (a : Act) (H : Heap) (w : World), St H → EInv qf ef lf ops.size listed → (∀ i, ef i = true → listed.getD i true = false → St1 H) → Sat C H w →
    wpAnyM P md ops C St St1 qf ef lf Q fuel listed a H → wpAny P md ops Q' fuel listed a w
  | 0, _, _, _, _, _, _, _, hs, h => ⟨h.1, hQ _ _ _ hs h.2⟩
  | fuel + 1, listed, a, H, w, hst, hB, hA, hs, h => by
    refine ⟨fun h0 => hQ _ _ _ hs (h.1 h0), fun i hi => ?_⟩
    have hh := h.2 i hi
    have hB' := hB.step hW hi
    have hun := (mem_ready.1 hi).1
    have hA' : ∀ j, ef j = true → (listed.setIfInBounds i true).getD j true = false → St1 H := fun j hj hl => by
      by_cases hij : i = j
      · subst hij; exact hA i hj hun
      · rw [getD_set_ne true hij] at hl; exact hA j hj hl
    have hE' : qf i = false → ∀ H', Se St St1 lf i H' → ∀ j, ef j = true → (listed.setIfInBounds i true).getD j true = false → St1 H' := fun hqi H' hse j hj hl => by
      cases hlf : lf i with
      | false => exact hse.2 hlf
      | true =>
      exfalso
      by_cases hij : i = j
      · subst hij
        have hls : i < listed.size ∨ ¬ i < listed.size := Nat.lt_or_ge i listed.size |>.imp id (by omega)
        rcases hls with h' | h'
        · simp [Array.getD, h'] at hl
        · simp [Array.getD, h'] at hl
      · rw [getD_set_ne true hij] at hl
        rcases Nat.lt_or_ge j ops.size with h' | h'
        · have := hB.all hW hi hqi hlf h' hj
          rcases Nat.lt_or_ge j listed.size with h2 | h2
          · simp [Array.getD, h2] at this hl; rw [this] at hl; cases hl
          · simp [Array.getD, Nat.not_lt.2 h2] at hl
        · exact absurd h' (by have := hef j hj; omega)
    unfold mOp at hh
    unfold wpOp
    split
    · rename_i ho; simp only [ho] at hh; exact wpAnyM_sound hW hef hQ fuel _ _ _ _ hst hB' hA' hs hh
    · rename_i o ho
      simp only [ho] at hh
      split
      · rename_i hw
        rw [if_pos hw] at hh
        refine .inl ?_
        split at hh
        · obtain ⟨v, h1, h2⟩ := hh
          unfold Oper.wp
          rcases h1 w ⟨H, ⟨hst, fun he => hA i he hun⟩, hs⟩ with h3 | ⟨h3, rfl⟩
          · rw [h3]; exact wpAnyM_sound hW hef hQ fuel _ _ _ _ hst hB' hA' hs h2
          · rw [h3]; exact wpAnyM_sound hW hef hQ fuel _ _ _ _ hst hB' hA' hs h2
        · rename_i hqn
          obtain ⟨R, h1, h2⟩ := hh
          have h3 := h1 w hs
          have hE := hE' (by simpa using hqn)
          unfold Oper.wp
          generalize (execOp a.eval o).run P w = r at *
          cases r with
          | ok n w' =>
            cases n <;> simp only [eff] at h3 <;> simp only [Oper.upon]
            case value v => obtain ⟨H', hr, hst', hs'⟩ := h3; exact wpAnyM_sound hW hef hQ fuel _ _ _ _ hst'.1 hB' (hE _ hst') hs' (h2 v H' hr hst' ⟨w', hs'⟩)
            case skip => obtain ⟨H', hr, hst', hs'⟩ := h3; exact wpAnyM_sound hW hef hQ fuel _ _ _ _ hst'.1 hB' (hE _ hst') hs' (h2 undef H' hr hst' ⟨w', hs'⟩)
            case enter g args =>
              refine h3.mono fun e w'' ⟨v, H', he, hr, hst', hs'⟩ => ?_
              subst he
              exact wpAnyM_sound hW hef hQ fuel _ _ _ _ hst'.1 hB' (hE _ hst') hs' (h2 v H' hr hst' ⟨w'', hs'⟩)
            case row rw args => exact h3.mono fun v w'' ⟨H', hr, hst', hs'⟩ => wpAnyM_sound hW hef hQ fuel _ _ _ _ hst'.1 hB' (hE _ hst') hs' (h2 v H' hr hst' ⟨w'', hs'⟩)
          | halt y w' => simp only [eff] at h3
      · rename_i hw
        rw [if_neg hw] at hh
        exact wpAnyM_sound hW hef hQ fuel _ _ _ _ hst hB' hA' hs hh
theorem mOp_put {j : Nat} {oi oj : Oper} {x : Value} {a : Act} {H : Heap} (hj : ops[j]? = some oj) (hap : oi.apart ops oj = true) (hsj : ∀ cs b, oj.op ≠ .select cs b) {K K' : Act → Heap → Prop}
    (hK : ∀ u H', K ((a.put oi.dst x).put oj.dst u) H' → K' (a.put oj.dst u) H') (h : mOp P ops C St St1 qf ef lf j K (a.put oi.dst x) H) : mOp P ops C St St1 qf ef lf j K' a H := by
  obtain ⟨h1, h2, h3⟩ := Oper.apart_spec hap
  have he : execOp (a.put oi.dst x).eval oj = execOp a.eval oj := execOp_put oj hsj a oi.dst x h1
  unfold mOp at *
  simp only [hj] at *
  rw [wanted_put oj a oi.dst x h1] at h
  split
  · rename_i hw
    rw [if_pos hw] at h
    split
    · rename_i hq
      rw [if_pos hq] at h
      obtain ⟨v, hv, hk⟩ := h
      exact ⟨v, hv.same he.symm, hK v H hk⟩
    · rename_i hq
      rw [if_neg hq] at h
      obtain ⟨R, hR, hk⟩ := h
      exact ⟨R, hR.same he.symm, fun v H' hr hst hw => hK v H' (hk v H' hr hst hw)⟩
  · rename_i hw
    rw [if_neg hw] at h
    exact hK undef H h
theorem qv_mOp {i : Nat} {o : Oper} {v : Value} {a : Act} {H : Heap} (hi : ops[i]? = some o) (hq : qf i = true) (hy : QV P ops C (Sq St St1 ef i) o v a) {K : Act → Heap → Prop} (h : K (a.put o.dst v) H) : mOp P ops C St St1 qf ef lf i K a H := by
  unfold mOp
  simp only [hi]
  rcases hy with ⟨hw, hv⟩ | ⟨hw, rfl⟩
  · rw [if_pos hw, if_pos hq]; exact ⟨v, hv, h⟩
  · rw [if_neg (by simp [hw])]; exact h
theorem wpAnyM_firstQ {Q : Act → Heap → Prop} {i : Nat} {oi : Oper} {v : Value} (hi : ops[i]? = some oi) (hq : qf i = true) (hsel : ∀ (j : Nat) (o : Oper) cs b, ops[j]? = some o → o.op ≠ .select cs b) :
    ∀ (fuel : Nat) (listed : Array Bool) (a : Act) (H : Heap),
      (∀ j oj, ops[j]? = some oj → j ≠ i → listed.getD j true = false → (∀ e ∈ oj.after, Region.binds md e = true → e.on ≠ i) → oi.apart ops oj = true) →
      i ∈ Region.ready md ops listed → QV P ops C (Sq St St1 ef i) oi v a →
      wpAnyM P md ops C St St1 qf ef lf Q fuel (listed.setIfInBounds i true) (a.put oi.dst v) H → wpAnyM P md ops C St St1 qf ef lf Q (fuel + 1) listed a H := by
  intro fuel
  induction fuel with
  | zero =>
    intro listed a H _ hr hy hh
    refine ⟨fun h => (by rw [h] at hr; cases hr), fun j hj => ?_⟩
    by_cases hji : j = i
    · subst hji; exact qv_mOp hi hq hy hh
    · have := ready_mono hj hji
      rw [hh.1] at this
      cases this
  | succ fuel ih =>
    intro listed a H hfree hr hy hh
    refine ⟨fun h => (by rw [h] at hr; cases hr), fun j hj => ?_⟩
    by_cases hji : j = i
    · subst hji; exact qv_mOp hi hq hy hh
    · have h1 := hh.2 j (ready_mono hj hji)
      obtain ⟨hjun, oj, hoj, hall⟩ := mem_ready.1 hj
      have hnot : ∀ e ∈ oj.after, Region.binds md e = true → e.on ≠ i := fun e he hb heq => by
        have h1 := hall e he hb
        have h0 := (mem_ready.1 hr).1
        rw [heq] at h1
        rcases Nat.lt_or_ge i listed.size with h' | h'
        · simp [h'] at h0 h1; rw [h0] at h1; cases h1
        · simp [Array.getElem?_eq_none h'] at h1
      have hap := hfree j oj hoj hji hjun hnot
      have hfree' : ∀ k ok, ops[k]? = some ok → k ≠ i → (listed.setIfInBounds j true).getD k true = false →
          (∀ e ∈ ok.after, Region.binds md e = true → e.on ≠ i) → oi.apart ops ok = true := fun k ok hk hki hun hno => by
        refine hfree k ok hk hki ?_ hno
        by_cases hjk : j = k
        · subst hjk; exact hjun
        · rw [getD_set_ne true hjk] at hun; exact hun
      refine mOp_put hoj hap (fun cs b => hsel j oj cs b hoj) (fun u H' hk => ?_) h1
      refine ih (listed.setIfInBounds j true) _ _ hfree' (ready_mono hr (Ne.symm hji)) (hy.put hap (fun cs b => hsel i oi cs b hi)) ?_
      rw [Array.setIfInBounds_comm _ _ hji, Act.put_comm (a := a) (y := oi.dst) u v (fun d hd hd2 => (Oper.apart_spec hap).2.1 d hd2 hd)]
      exact hk
theorem mOp_push {k : Nat} {ok oj : Oper} {x : Value} {a : Act} {H : Heap} (hk : ops[k]? = some ok) (hap : ok.apart ops oj = true) (hsk : ∀ cs b, ok.op ≠ .select cs b) {K K' : Act → Heap → Prop} {T : Heap → Prop} (hT : T H) (hSe : ∀ H', Se St St1 lf k H' → T H') (hw0 : ∃ w, Sat C H w)
    (hK : ∀ u H', T H' → (∃ w, Sat C H' w) → K (a.put ok.dst u) H' → K' ((a.put oj.dst x).put ok.dst u) H') (h : mOp P ops C St St1 qf ef lf k K a H) : mOp P ops C St St1 qf ef lf k K' (a.put oj.dst x) H := by
  obtain ⟨h1, h2, h3⟩ := Oper.apart_spec hap
  have he : execOp (a.put oj.dst x).eval ok = execOp a.eval ok := execOp_put ok hsk a oj.dst x h3
  unfold mOp at *
  simp only [hk] at *
  rw [wanted_put ok a oj.dst x h3]
  split
  · rename_i hw
    rw [if_pos hw] at h
    split
    · rename_i hq
      rw [if_pos hq] at h
      obtain ⟨v, hv, hk⟩ := h
      exact ⟨v, hv.same he, hK v H hT hw0 hk⟩
    · rename_i hq
      rw [if_neg hq] at h
      obtain ⟨R, hR, hk⟩ := h
      exact ⟨R, hR.same he, fun v H' hr hst hw => hK v H' (hSe H' hst) hw (hk v H' hr hst hw)⟩
  · rename_i hw
    rw [if_neg hw] at h
    exact hK undef H hT hw0 h
theorem mOp_some {k : Nat} {ok : Oper} {a : Act} {H : Heap} (hk : ops[k]? = some ok) {K : Act → Heap → Prop} (hst : St H) (hw0 : ∃ w, Sat C H w) (h : mOp P ops C St St1 qf ef lf k K a H) : ∃ v H', St H' ∧ (∃ w, Sat C H' w) ∧ K (a.put ok.dst v) H' := by
  unfold mOp at h
  simp only [hk] at h
  obtain ⟨w, hw⟩ := hw0
  split at h
  · split at h
    · obtain ⟨v, _, hk⟩ := h; exact ⟨v, H, hst, ⟨w, hw⟩, hk⟩
    · obtain ⟨R, hR, hk⟩ := h
      obtain ⟨v, H', hr, hst', hw'⟩ := hR.ends hw
      exact ⟨v, H', hst'.1, hw', hk v H' hr hst' hw'⟩
  · exact ⟨undef, H, hst, ⟨w, hw⟩, h⟩
theorem mOp_quiet {j : Nat} {oj : Oper} {a : Act} {H : Heap} (hj : ops[j]? = some oj) (hq : qf j = true) {K : Act → Heap → Prop} (h : mOp P ops C St St1 qf ef lf j K a H) : ∃ v, QV P ops C (Sq St St1 ef j) oj v a ∧ K (a.put oj.dst v) H := by
  unfold mOp at h
  simp only [hj] at h
  split at h
  · rename_i hw
    try rw [if_pos hq] at h
    obtain ⟨v, hv, hk⟩ := h
    exact ⟨v, .inl ⟨hw, hv⟩, hk⟩
  · rename_i hw
    exact ⟨undef, .inr ⟨by simpa using hw, rfl⟩, h⟩
theorem wpAnyM_firstE (hW : waitsE md ops qf ef lf = true) {Q : Act → Heap → Prop} {k : Nat} {ok : Oper} (hk : ops[k]? = some ok) (hqk : qf k = false) (hsel : ∀ (j : Nat) (o : Oper) cs b, ops[j]? = some o → o.op ≠ .select cs b) :
    ∀ (fuel : Nat) (listed : Array Bool) (a : Act) (H : Heap), St H → (∃ w, Sat C H w) → EInv qf ef lf ops.size listed → (∀ i, ef i = true → listed.getD i true = false → St1 H) →
      (∀ j oj, ops[j]? = some oj → j ≠ k → listed.getD j true = false → (∀ e ∈ oj.after, Region.binds md e = true → e.on ≠ k) → ok.apart ops oj = true) →
      (∀ j oj, ops[j]? = some oj → qf j = false → j ≠ k → listed.getD j true = false → ∃ e ∈ oj.after, Region.binds md e = true ∧ qf e.on = false ∧ listed.getD e.on false = false) →
      k ∈ Region.ready md ops listed → mOp P ops C St St1 qf ef lf k (wpAnyM P md ops C St St1 qf ef lf Q fuel (listed.setIfInBounds k true)) a H → wpAnyM P md ops C St St1 qf ef lf Q (fuel + 1) listed a H := by
  intro fuel
  induction fuel with
  | zero =>
    intro listed a H hst hw0 _ _ _ _ hr hh
    refine ⟨fun h => (by rw [h] at hr; cases hr), fun j hj => ?_⟩
    by_cases hjk : j = k
    · subst hjk; exact hh
    · have := ready_mono hj hjk
      obtain ⟨v, H', _, _, h2⟩ := mOp_some hk hst hw0 hh
      rw [h2.1] at this
      cases this
  | succ fuel ih =>
    intro listed a H hst hw0 hB hA hfree hwait hr hh
    refine ⟨fun h => (by rw [h] at hr; cases hr), fun j hj => ?_⟩
    by_cases hjk : j = k
    · subst hjk; exact hh
    · obtain ⟨hjun, oj, hoj, hall⟩ := mem_ready.1 hj
      have hqj : qf j = true := by
        cases hq : qf j with
        | true => rfl
        | false =>
          obtain ⟨e, he, hb, _, hu⟩ := hwait j oj hoj hq hjk hjun
          rw [hall e he hb] at hu; cases hu
      have hnot : ∀ e ∈ oj.after, Region.binds md e = true → e.on ≠ k := fun e he hb heq => by
        have h1 := hall e he hb
        have h0 := (mem_ready.1 hr).1
        rw [heq] at h1
        rcases Nat.lt_or_ge k listed.size with h' | h'
        · simp [h'] at h0 h1; rw [h0] at h1; cases h1
        · simp [Array.getElem?_eq_none h'] at h1
      have hap := hfree j oj hoj hjk hjun hnot
      have hsj := fun cs b => hsel j oj cs b hoj
      obtain ⟨v0, H0, hst0, hw00, h0⟩ := mOp_some hk hst hw0 hh
      obtain ⟨vj, hvj, _⟩ := mOp_quiet hoj hqj (h0.2 j (ready_mono hj hjk))
      have hva := hvj.back hap hsj
      refine qv_mOp hoj hqj hva ?_
      have hfree' : ∀ i oi, ops[i]? = some oi → i ≠ k → (listed.setIfInBounds j true).getD i true = false →
          (∀ e ∈ oi.after, Region.binds md e = true → e.on ≠ k) → ok.apart ops oi = true := fun i oi hi hik hun hno => by
        refine hfree i oi hi hik ?_ hno
        by_cases hij : j = i
        · subst hij; exact hjun
        · rw [getD_set_ne true hij] at hun; exact hun
      have hwait' : ∀ i oi, ops[i]? = some oi → qf i = false → i ≠ k → (listed.setIfInBounds j true).getD i true = false → ∃ e ∈ oi.after, Region.binds md e = true ∧ qf e.on = false ∧ (listed.setIfInBounds j true).getD e.on false = false := fun i oi hi hqi hik hun => by
        have hij : j ≠ i := fun e => by subst e; rw [hqj] at hqi; cases hqi
        rw [getD_set_ne true hij] at hun
        obtain ⟨e, he, hb, hqe, hu⟩ := hwait i oi hi hqi hik hun
        have hje : j ≠ e.on := fun h => by rw [← h, hqj] at hqe; cases hqe
        exact ⟨e, he, hb, hqe, by rw [getD_set_ne false hje]; exact hu⟩
      refine ih (listed.setIfInBounds j true) _ H hst hw0 (hB.step hW hj) (fun i he hun => hA i he (by
        by_cases hij : j = i
        · subst hij; exact hjun
        · rw [getD_set_ne true hij] at hun; exact hun)) hfree' hwait' (ready_mono hr (Ne.symm hjk)) ?_
      refine mOp_push (T := fun H' => St H' ∧ (ef j = true → St1 H')) hk hap (fun cs b => hsel k ok cs b hk) ⟨hst, fun he => hA j he hjun⟩ (fun H' hse => ⟨hse.1, fun he => by
        cases hlk : lf k with
        | false => exact hse.2 hlk
        | true =>
          exfalso
          have h1 := hB.all hW hr hqk hlk (Array.getElem?_eq_some_iff.1 hoj).1 he
          rcases Nat.lt_or_ge j listed.size with h' | h'
          · simp [h'] at hjun h1; rw [hjun] at h1; cases h1
          · simp [Array.getElem?_eq_none h'] at hjun⟩) hw0 (fun u H' hst' hw' hK => ?_) hh
      obtain ⟨v', hv', hK'⟩ := mOp_quiet hoj hqj (hK.2 j (ready_mono hj hjk))
      have hvv : v' = vj := (hv'.back hap hsj).unique hva hst' hw'
      subst hvv
      rw [Array.setIfInBounds_comm _ _ (Ne.symm hjk)] at hK'
      rw [Act.put_comm (a := a) (x := oj.dst) (y := ok.dst) v' u (fun d hd hd2 => (Oper.apart_spec hap).2.1 d hd2 hd)]
      exact hK'
theorem wpAnyM_lex (hW : waitsE md ops qf ef lf = true) (hef : ∀ i, ef i = true → i < ops.size) {Q : Act → Heap → Prop} (hs : Region.noSelect ops = true) (hch : chainE md ops qf = true) : ∀ (l : List Oper) (k : Nat) (listed : Array Bool) (a : Act) (H : Heap), (∀ j, l[j]? = ops[k + j]?) → (∀ i, i < k → listed.getD i true = true) → (∀ i, k ≤ i → listed.getD i false = false) →
    Region.lexFrom md ops l.length k listed = true → EInv qf ef lf ops.size listed → (∀ i, ef i = true → listed.getD i true = false → St1 H) → St H → (∃ w, Sat C H w) → wpMix P ops C St St1 qf ef lf Q l k a H → wpAnyM P md ops C St St1 qf ef lf Q l.length listed a H
  | [], _, _, _, _, _, _, _, hB, _, _, _, _, h => ⟨by simpa [Region.lexFrom] using hB, h⟩
  | o :: l, k, listed, a, H, hl, hi1, hi2, hB, hEI, hA, hst, hw0, h => by
    have h0 : ops[k]? = some o := by simpa using (hl 0).symm
    simp only [List.length_cons, Region.lexFrom, Bool.and_eq_true] at hB
    obtain ⟨⟨hr, hf⟩, hB'⟩ := hB
    have hr' : k ∈ Region.ready md ops listed := by simpa using hr
    have hl' : ∀ j, l[j]? = ops[k + 1 + j]? := fun j => by have := hl (j + 1); simpa [Nat.add_assoc, Nat.add_comm 1 j] using this
    have hi1' : ∀ i, i < k + 1 → (listed.setIfInBounds k true).getD i true = true := fun i hi => by
      by_cases hik : k = i
      · subst hik
        by_cases hks : k < listed.size
        · simp [Array.getD, hks]
        · simp [Array.getD, hks]
      · rw [getD_set_ne true hik]; exact hi1 i (by omega)
    have hi2' : ∀ i, k + 1 ≤ i → (listed.setIfInBounds k true).getD i false = false := fun i hi => by
      rw [getD_set_ne false (by omega)]; exact hi2 i (by omega)
    have hA' : ∀ j, ef j = true → (listed.setIfInBounds k true).getD j true = false → St1 H := fun j hj hl => by
      by_cases hij : k = j
      · subst hij
        by_cases hks : k < listed.size
        · simp [Array.getD, hks] at hl
        · simp [Array.getD, hks] at hl
      · rw [getD_set_ne true hij] at hl; exact hA j hj hl
    have ih := fun a' H' (hA' : ∀ j, ef j = true → (listed.setIfInBounds k true).getD j true = false → St1 H') (hst' : St H') (hw' : ∃ w, Sat C H' w) (hm : wpMix P ops C St St1 qf ef lf Q l (k + 1) a' H') => wpAnyM_lex hW hef hs hch l (k + 1) (listed.setIfInBounds k true) a' H' hl' hi1' hi2' hB' (hEI.step hW hr') hA' hst' hw' hm
    unfold wpMix at h
    cases hq : qf k with
    | true =>
      rw [hq] at h
      have hv : ∃ v, QV P ops C (Sq St St1 ef k) o v a ∧ wpMix P ops C St St1 qf ef lf Q l (k + 1) (a.put o.dst v) H := by
        split at h
        · rename_i hw; obtain ⟨v, h1, h2⟩ : ∃ v, QY P C (Sq St St1 ef k) o a v ∧ _ := by simpa using h
          exact ⟨v, .inl ⟨hw, h1⟩, h2⟩
        · rename_i hw; exact ⟨undef, .inr ⟨by simpa using hw, rfl⟩, h⟩
      obtain ⟨v, hv, hm⟩ := hv
      exact wpAnyM_firstQ h0 hq (Region.noSelect_spec hs) l.length listed a H (Region.free_spec h0 hf) hr' hv (ih _ _ hA' hst hw0 hm)
    | false =>
      rw [hq] at h
      refine wpAnyM_firstE hW h0 hq (Region.noSelect_spec hs) l.length listed a H hst hw0 hEI hA (Region.free_spec h0 hf) ?_ hr' ?_
      · intro j oj hj hqj hjk hun
        have hkj : k < j := by
          rcases Nat.lt_trichotomy j k with h1 | h1 | h1
          · rw [hi1 j h1] at hun; cases hun
          · exact absurd h1 hjk
          · exact h1
        have hjs : j < ops.size := (Array.getElem?_eq_some_iff.1 hj).1
        unfold chainE at hch
        have h1 := List.all_eq_true.1 hch j (by simpa using hjs)
        rw [hqj, Bool.false_or] at h1
        have h2 := List.all_eq_true.1 h1 k (by simpa using hkj)
        rw [hq, Bool.false_or, hj] at h2
        obtain ⟨e, he, hb⟩ := Array.any_eq_true'.1 h2
        simp only [Bool.and_eq_true, Bool.not_eq_true'] at hb
        exact ⟨e, he, hb.1.1, hb.1.2, hi2 e.on (Nat.le_of_ble_eq_true hb.2)⟩
      · unfold mOp
        simp only [h0]
        split
        · rename_i hw
          rw [if_pos hw] at h
          obtain ⟨R, hR, hk⟩ : ∃ R, ER P C (Se St St1 lf k) o a H R ∧ _ := by simpa using h
          rw [if_neg (by simp [hq])]
          exact ⟨R, hR, fun v H' hr hst' hw' => ih _ _ (fun j hj hl => by
            cases hlf : lf k with
            | false => exact hst'.2 hlf
            | true =>
              exfalso
              by_cases hij : k = j
              · subst hij
                by_cases hks : k < listed.size
                · simp [Array.getD, hks] at hl
                · simp [Array.getD, hks] at hl
              · rw [getD_set_ne true hij] at hl
                rcases Nat.lt_or_ge j ops.size with h' | h'
                · have := hEI.all hW hr' hq hlf h' hj
                  rcases Nat.lt_or_ge j listed.size with h2 | h2
                  · simp [Array.getD, h2] at this hl; rw [this] at hl; cases hl
                  · simp [Array.getD, Nat.not_lt.2 h2] at hl
                · exact absurd h' (by have := hef j hj; omega)) hst'.1 hw' (hk v H' hr hst' hw'.choose hw'.choose_spec)⟩
        · rename_i hw
          rw [if_neg hw] at h
          exact ih _ _ hA' hst hw0 h
end
section
variable (C : Ctx) (P : Program) (H0 H1 : Heap) (qf ef lf : Nat → Bool) (n : Nat)
def MListW (ops : List Oper) (Q : Fr → Heap → Prop) (l : List Oper) : Nat → Fr → Heap → Prop := @List.rec Oper (fun _ => Nat → Fr → Heap → Prop) (fun _ f H => Q f H)
    (fun o _ ih k f H => guardW n ops f o.guard (fun f => cond (qf k) (cond (ef k) (QOpW C P H1 true n f o fun v => putK f o.dst v fun f' => ih (k + 1) f' H) (QOpW C P H0 true n f o fun v => putK f o.dst v fun f' => ih (k + 1) f' H)) (OpW C P false n f o (fun v H' => Se (fun H => Sub H H0) (fun H => Sub H H1) lf k H' ∧ putK f o.dst v fun f' => ih (k + 1) f' H') (fun _ _ => False) H))
      (fun f => putK f o.dst undef fun f' => ih (k + 1) f' H)) l
end
section
variable {C : Ctx} {P : Program} {H0 H1 : Heap} {qf ef lf : Nat → Bool} {n : Nat}
theorem MListW.sound {ops : Array Oper} {Q : Fr → Heap → Prop} (hn : 0 < n) (hnc : callFree ops qf = true) : ∀ (l : List Oper) (k : Nat) {f : Fr} {H : Heap} {a : Act}, (∀ j, l[j]? = ops[k + j]?) → MListW C P H0 H1 qf ef lf n ops.toList Q l k f H → TR C.ds n f a →
    wpMix P ops C (fun H => Sub H H0) (fun H => Sub H H1) qf ef lf (fun a H => ∃ f, Q f H ∧ TR C.ds n f a) l k a H
  | [], _, f, H, a, _, h, ht => ⟨f, h, ht⟩
  | o :: l, k, f, H, a, hl, h, ht => by
    have h0 : ops[k]? = some o := by simpa using (hl 0).symm
    have hl' : ∀ j, l[j]? = ops[k + 1 + j]? := fun j => by have := hl (j + 1); simpa [Nat.add_assoc, Nat.add_comm 1 j] using this
    replace h : guardW n ops.toList f o.guard (fun f => cond (qf k) (cond (ef k) (QOpW C P H1 true n f o fun v => putK f o.dst v fun f' => MListW C P H0 H1 qf ef lf n ops.toList Q l (k + 1) f' H) (QOpW C P H0 true n f o fun v => putK f o.dst v fun f' => MListW C P H0 H1 qf ef lf n ops.toList Q l (k + 1) f' H)) (OpW C P false n f o (fun v H' => Se (fun H => Sub H H0) (fun H => Sub H H1) lf k H' ∧ putK f o.dst v fun f' => MListW C P H0 H1 qf ef lf n ops.toList Q l (k + 1) f' H') (fun _ _ => False) H))
      (fun f => putK f o.dst undef fun f' => MListW C P H0 H1 qf ef lf n ops.toList Q l (k + 1) f' H) := h
    simp only [putK_eq] at h
    unfold wpMix
    rcases guardW.sound (ops := ops) ht h with ⟨hw, h⟩ | ⟨hw, h⟩
    · rw [if_pos hw]
      cases hq : qf k with
      | true =>
        rw [hq] at h
        simp only [cond_true] at h
        have hcf : ∀ c x, o.op = .call c → c.callee = .value x → False := fun c x ho hc => by
          have hks : k < ops.size := (Array.getElem?_eq_some_iff.1 h0).1
          have h1 := List.all_eq_true.1 hnc k (by simpa using hks)
          simp only [hq, h0, ho, hc] at h1
          simp at h1
        simp only [if_true]
        cases he : ef k with
        | true =>
          rw [he] at h
          simp only [cond_true] at h
          obtain ⟨v, hv, hk⟩ := QOpW.plain h ht hcf
          exact ⟨v, fun w ⟨H2, ⟨_, hs3⟩, hs2⟩ => hv w ((hs3 he).sat hs2), MListW.sound hn hnc l (k + 1) hl' hk (ht.put o.dst v)⟩
        | false =>
          rw [he] at h
          simp only [cond_false] at h
          obtain ⟨v, hv, hk⟩ := QOpW.plain h ht hcf
          exact ⟨v, fun w ⟨H2, ⟨hs1, _⟩, hs2⟩ => hv w (hs1.sat hs2), MListW.sound hn hnc l (k + 1) hl' hk (ht.put o.dst v)⟩
      | false =>
        rw [hq] at h
        simp only [cond_false] at h
        rw [if_neg (by simp)]
        exact ⟨_, ER.of_op hn h ht, fun v H' hk hst hw => MListW.sound hn hnc l (k + 1) hl' hk (ht.put o.dst v)⟩
    · rw [if_neg (by simp [hw])]
      exact MListW.sound hn hnc l (k + 1) hl' h (ht.put o.dst undef)
/-- A region that draws its order, with effects (their places: es), quiet operations that read what lies in H0, early ones (es1) that read what lies in H1, and late effects (ls), for which the early ones don't wait. -/
theorem drawLate (es es1 ls : List Nat) (H0 H1 : Heap) {id : Nat} {ops : Array Oper} {Q : Exit → Fr → Heap → Prop} {f : Fr} {H : Heap} (hn : Nat.blt 0 n = true) (hm : P.follows .mixedOrders = true) (hB : Region.lexB .any ops = true)
    (hch : chainE .any ops (qfl es) = true) (hnc : callFree ops (qfl es) = true) (hW : waitsE .any ops (qfl es) (efl es1) (efl ls) = true) (hlt : (es1.all fun i => Nat.blt i ops.size) = true) (h0 : Sub H H0) (h1 : Sub H H1)
    (h : MListW C P H0 H1 (qfl es) (efl es1) (efl ls) n ops.toList (Q .normal) ops.toList 0 f H) (hd : noDefer ops = true := by kernel_rfl) : DrawI C P n id ops Q f H :=
  ⟨hm, hd, fun a w ht hs' => by
    simp only [Region.lexB, Bool.and_eq_true] at hB
    have hrep : ∀ k, (Array.replicate ops.size false).getD k false = false := fun k => by
      by_cases hk : k < ops.size <;> simp [Array.getD, hk]
    have hEI : EInv (qfl es) (efl es1) (efl ls) ops.size (Array.replicate ops.size false) := fun k _ _ hk => by rw [hrep] at hk; cases hk
    have hef : ∀ i, efl es1 i = true → i < ops.size := fun i hi => by
      have := List.all_eq_true.1 hlt i (by simpa [efl] using hi)
      simpa [Nat.blt_eq] using this
    refine wpAnyM_sound (St := fun H => Sub H H0) (St1 := fun H => Sub H H1) (qf := qfl es) (ef := efl es1) (lf := efl ls) hW (fun i hi => ?_) (Q := fun a H => ∃ f, Q .normal f H ∧ TR C.ds n f a) (fun a' H' w' hs' ⟨f', hq, ht'⟩ => ⟨by simp, f', H', hq, ht', hs'⟩) _ _ _ H _ h0 hEI (fun _ _ _ => h1) hs' ?_
    · exact hef i hi
    have := wpAnyM_lex (P := P) (md := .any) (C := C) (St := fun H => Sub H H0) (St1 := fun H => Sub H H1) (lf := efl ls) (ef := efl es1) hW hef hB.1 hch ops.toList 0 (Array.replicate ops.size false) a H (by simp) (fun i hi => absurd hi (by omega)) (fun i _ => hrep i) (by simpa using hB.2) hEI (fun _ _ _ => h1) h0 ⟨_, hs'⟩
      (MListW.sound (by simpa [Nat.blt_eq] using hn) hnc ops.toList 0 (by simp) h ht)
    simpa using this⟩
end
end SL.Late
end Go.Proofs.Ytgodkfaacjllcaa

/- The two disks and the two journals: one step. -/
namespace Go.Proofs.Ytgodkfaacjllcaa
set_option linter.unusedVariables false
set_option linter.unusedSimpArgs false
set_option maxRecDepth 100000
open SL Go.RowKit Go.Maps

theorem append_len {a : DA} {J : JA} {s : ByteArray} (hn : J.n ≤ 65535) (he : J.e ≤ 2048) : (appendA a J s).1.lg.length ≤ a.lg.length + 255 ∧ (appendA a J s).2.1.n ≤ 65535 ∧ (appendA a J s).2.1.e ≤ 2048 := by
  unfold appendA
  split
  · dsimp only; omega
  · split
    · dsimp only; omega
    · split
      · dsimp only; omega
      · rename_i h1 h2 h3
        have hc : Can ((J.n : Int) + 1) s := ⟨by omega, by omega, by omega⟩
        obtain ⟨p1, p2, p3, p4⟩ := fr_pos hc
        have := wrAll_len (packF ((J.n : Int) + 1) s).1 J.e a
        have : (packF ((J.n : Int) + 1) s).1.length ≤ 255 := p2
        dsimp only
        split <;> (dsimp only; omega)
set_option maxHeartbeats 4000000 in
theorem pstep_ok (F : Mem) (k : Nat) (es1 : Array MapEntry) (c1 : Nat) (fi : List ByteArray) (X : PX) (jo : Option (Nat × Nat × JA)) (P : POk es1 c1 fi X) (hjo : JSmall jo) (kd n : Int) (s : ByteArray) (hn : n ≤ 9223372036854775807) (hs : s.size ≤ 9223372036854775807) (m : Nat) (hm : X.x.a.lg.length + 2048 ≤ m) (hroom : Room m 2048) :
    FT Try.prog 26 [.pointer (some ⟨k, 0, none⟩), .agg #[.int .i64 kd, .int .i64 n, .string s]].toArray F (pairH k es1 c1 fi X jo)
    (fun e H => e = .returned (.bool true) ∧ PairR k es1 c1 fi m H) := by
  obtain ⟨d, r, rb, x, rd, g0, rb2, y⟩ := X
  have P0 := P
  obtain ⟨I, R, hg0, hfi0⟩ := P
  dsimp only at I R hg0 hm
  refine FT.of_body Try.func26 rfl Try.ntmps26 (by simp) fun C hC => ?_
  subst hC
  conv => whnf
  intro b
  conv => whnf
  refine LoadV.s rfl rfl ?_
  conv => whnf
  refine cond_split (fun h1 => ?_) (fun h1 => ?_)
  · conv => whnf
    cases jo with
    | none =>
      refine DrawI.mixed [12, 19] [_, _] (by kernel_rfl) (by kernel_rfl) (by kernel_rfl) (by kernel_rfl) (by kernel_rfl) (Sub.sel [0, 1] rfl) ?_
      conv => whnf
      refine LoadV.s rfl rfl ?_
      conv => whnf
      repeat (first | (refine LoadV.s rfl rfl (forceV_of ?_); conv => whnf) | (refine LoadV.s rfl rfl ?_; conv => whnf) | (refine StoreV.c rfl rfl (Nat.le_of_ble_eq_true rfl) rfl ?_; conv => whnf) | (refine LoadV.a _ rfl (Nat.le_of_ble_eq_true rfl) ?_; conv => whnf) | (refine DrawI.quiet (by kernel_rfl) (by kernel_rfl) ?_; conv => whnf) | (refine ArI.in64 (by omega) ?_; conv => whnf) | (refine ArI.inU8 (by omega) ?_; conv => whnf) | (refine ArI.inU64 (by omega) ?_; conv => whnf) | (refine ArI.inU32 (by omega) ?_; conv => whnf) | (refine RetI.one Try.results26 rfl ?_; conv => whnf) | (refine RetI.two Try.results26 rfl rfl ?_; conv => whnf) | (refine RetI.three Try.results26 rfl rfl rfl ?_; conv => whnf) | (refine RetI.none Try.results26 ?_; conv => whnf) | (refine ⟨by first | decide | omega, ?_⟩; conv => whnf))
      exact ⟨_, Sub.sel [1, 2, 3, 4, 5, 6, 7, 8, 9] rfl, rfl, ⟨d, r, rb, x, rd, g0, rb2, y⟩, none, P0, by dsimp only; omega, .none, rfl⟩
    | some t =>
      obtain ⟨j, j2, J⟩ := t
      obtain ⟨hJn, hJe⟩ := hjo _ rfl
      dsimp only at hJn hJe
      refine DrawI.mixed [12, 19] [_, _] (by kernel_rfl) (by kernel_rfl) (by kernel_rfl) (by kernel_rfl) (by kernel_rfl) (Sub.sel [0, 1] rfl) ?_
      conv => whnf
      refine LoadV.s rfl rfl ?_
      conv => whnf
      refine LoadV.s rfl rfl ?_
      conv => whnf
      refine LoadV.s rfl rfl ?_
      conv => whnf
      refine CallS.mk Try.call15 ⟨[_, _, _, _, _], [_, _, _, _, _, _, _], _, Sub.sel [2, 4, 5, 6, 7, 0, 1, 3, 8, 9, 10, 11] rfl, fun F' hF' => append_ok F' j d r rb es1 c1 _ x I J hJn hJe s hs (hroom.mono (by omega)), ?_⟩
      rintro e A' ⟨x2, I2, hx2, rfl, rfl⟩
      conv => whnf
      refine ⟨Sub.sel [5, 6] rfl, ?_⟩
      conv => whnf
      refine LoadV.s rfl rfl ?_
      conv => whnf
      refine LoadV.s rfl rfl ?_
      conv => whnf
      refine CallS.mk Try.call39 ⟨[_, _, _, _], [_, _, _, _, _, _, _, _], _, Sub.sel [7, 8, 10, 11, 6, 0, 1, 2, 3, 4, 9, 5] rfl, fun F' hF' => rappend_ok F' j2 rd _ rb2 _ x.a y R J hJn hJe s hs (hroom.mono (by omega)), ?_⟩
      rintro e A' hR
      obtain ⟨al1, al2, al3⟩ := append_len (a := x.a) (s := s) hJn hJe
      rw [← hx2] at hR al1
      obtain ⟨y2, R2, rfl, rfl⟩ := hR
      generalize (appendA x.a J s).2.2 = cd
      conv => whnf
      refine ⟨Sub.sel [11, 4] rfl, ?_⟩
      conv => whnf
      rw [show (cd != cd) = false from bne_self_eq_false _]
      conv => whnf
      repeat (first | (refine LoadV.s rfl rfl (forceV_of ?_); conv => whnf) | (refine LoadV.s rfl rfl ?_; conv => whnf) | (refine StoreV.c rfl rfl (Nat.le_of_ble_eq_true rfl) rfl ?_; conv => whnf) | (refine LoadV.a _ rfl (Nat.le_of_ble_eq_true rfl) ?_; conv => whnf) | (refine DrawI.quiet (by kernel_rfl) (by kernel_rfl) ?_; conv => whnf) | (refine ArI.in64 (by omega) ?_; conv => whnf) | (refine ArI.inU8 (by omega) ?_; conv => whnf) | (refine ArI.inU64 (by omega) ?_; conv => whnf) | (refine ArI.inU32 (by omega) ?_; conv => whnf) | (refine RetI.one Try.results26 rfl ?_; conv => whnf) | (refine RetI.two Try.results26 rfl rfl ?_; conv => whnf) | (refine RetI.three Try.results26 rfl rfl rfl ?_; conv => whnf) | (refine RetI.none Try.results26 ?_; conv => whnf) | (refine ⟨by first | decide | omega, ?_⟩; conv => whnf))
      exact ⟨_, Sub.sel [4, 5, 0, 6, 7, 8, 9, 1, 10, 2, 3] rfl, rfl, ⟨d, r, rb, x2, rd, g0, rb2, y2⟩, some (j, j2, (appendA x.a J s).2.1), ⟨I2, R2, hg0, hfi0⟩, by dsimp only; omega, .some al2 al3, rfl⟩
  · conv => whnf
    refine cond_split (fun h2 => ?_) (fun h2 => ?_)
    · cases jo with
      | none =>
        conv => whnf
        refine CallS.mk Try.call25 ⟨[_, _, _, _, _, _, _, _, _], [], _, Sub.sel [1, 2, 3, 4, 5, 6, 7, 8, 9] rfl, fun F' hF' => popen_ok F' k _ _ es1 c1 fi ⟨d, r, rb, x, rd, g0, rb2, y⟩ P0 m hm hroom, ?_⟩
        rintro e A' ⟨rfl, X2, jo2, P2, l2, s2, rfl⟩
        rcases jo2 with _ | ⟨j3, j4, J3⟩
        · conv => whnf
          repeat (first | (refine LoadV.s rfl rfl (forceV_of ?_); conv => whnf) | (refine LoadV.s rfl rfl ?_; conv => whnf) | (refine StoreV.c rfl rfl (Nat.le_of_ble_eq_true rfl) rfl ?_; conv => whnf) | (refine LoadV.a _ rfl (Nat.le_of_ble_eq_true rfl) ?_; conv => whnf) | (refine DrawI.quiet (by kernel_rfl) (by kernel_rfl) ?_; conv => whnf) | (refine ArI.in64 (by omega) ?_; conv => whnf) | (refine ArI.inU8 (by omega) ?_; conv => whnf) | (refine ArI.inU64 (by omega) ?_; conv => whnf) | (refine ArI.inU32 (by omega) ?_; conv => whnf) | (refine RetI.one Try.results26 rfl ?_; conv => whnf) | (refine RetI.two Try.results26 rfl rfl ?_; conv => whnf) | (refine RetI.three Try.results26 rfl rfl rfl ?_; conv => whnf) | (refine RetI.none Try.results26 ?_; conv => whnf) | (refine ⟨by first | decide | omega, ?_⟩; conv => whnf))
          exact ⟨_, Sub.refl _, rfl, X2, none, P2, l2, s2, rfl⟩
        · conv => whnf
          repeat (first | (refine LoadV.s rfl rfl (forceV_of ?_); conv => whnf) | (refine LoadV.s rfl rfl ?_; conv => whnf) | (refine StoreV.c rfl rfl (Nat.le_of_ble_eq_true rfl) rfl ?_; conv => whnf) | (refine LoadV.a _ rfl (Nat.le_of_ble_eq_true rfl) ?_; conv => whnf) | (refine DrawI.quiet (by kernel_rfl) (by kernel_rfl) ?_; conv => whnf) | (refine ArI.in64 (by omega) ?_; conv => whnf) | (refine ArI.inU8 (by omega) ?_; conv => whnf) | (refine ArI.inU64 (by omega) ?_; conv => whnf) | (refine ArI.inU32 (by omega) ?_; conv => whnf) | (refine RetI.one Try.results26 rfl ?_; conv => whnf) | (refine RetI.two Try.results26 rfl rfl ?_; conv => whnf) | (refine RetI.three Try.results26 rfl rfl rfl ?_; conv => whnf) | (refine RetI.none Try.results26 ?_; conv => whnf) | (refine ⟨by first | decide | omega, ?_⟩; conv => whnf))
          exact ⟨_, Sub.refl _, rfl, X2, some (j3, j4, J3), P2, l2, s2, rfl⟩
      | some t =>
        obtain ⟨j, j2, J⟩ := t
        conv => whnf
        refine CallS.mk Try.call25 ⟨[_, _, _, _, _, _, _, _, _], [], _, Sub.sel [1, 4, 5, 6, 7, 8, 9, 10, 11] rfl, fun F' hF' => popen_ok F' k _ _ es1 c1 fi ⟨d, r, rb, x, rd, g0, rb2, y⟩ P0 m hm hroom, ?_⟩
        rintro e A' ⟨rfl, X2, jo2, P2, l2, s2, rfl⟩
        rcases jo2 with _ | ⟨j3, j4, J3⟩
        · conv => whnf
          repeat (first | (refine LoadV.s rfl rfl (forceV_of ?_); conv => whnf) | (refine LoadV.s rfl rfl ?_; conv => whnf) | (refine StoreV.c rfl rfl (Nat.le_of_ble_eq_true rfl) rfl ?_; conv => whnf) | (refine LoadV.a _ rfl (Nat.le_of_ble_eq_true rfl) ?_; conv => whnf) | (refine DrawI.quiet (by kernel_rfl) (by kernel_rfl) ?_; conv => whnf) | (refine ArI.in64 (by omega) ?_; conv => whnf) | (refine ArI.inU8 (by omega) ?_; conv => whnf) | (refine ArI.inU64 (by omega) ?_; conv => whnf) | (refine ArI.inU32 (by omega) ?_; conv => whnf) | (refine RetI.one Try.results26 rfl ?_; conv => whnf) | (refine RetI.two Try.results26 rfl rfl ?_; conv => whnf) | (refine RetI.three Try.results26 rfl rfl rfl ?_; conv => whnf) | (refine RetI.none Try.results26 ?_; conv => whnf) | (refine ⟨by first | decide | omega, ?_⟩; conv => whnf))
          exact ⟨_, Sub.refl _, rfl, X2, none, P2, l2, s2, rfl⟩
        · conv => whnf
          repeat (first | (refine LoadV.s rfl rfl (forceV_of ?_); conv => whnf) | (refine LoadV.s rfl rfl ?_; conv => whnf) | (refine StoreV.c rfl rfl (Nat.le_of_ble_eq_true rfl) rfl ?_; conv => whnf) | (refine LoadV.a _ rfl (Nat.le_of_ble_eq_true rfl) ?_; conv => whnf) | (refine DrawI.quiet (by kernel_rfl) (by kernel_rfl) ?_; conv => whnf) | (refine ArI.in64 (by omega) ?_; conv => whnf) | (refine ArI.inU8 (by omega) ?_; conv => whnf) | (refine ArI.inU64 (by omega) ?_; conv => whnf) | (refine ArI.inU32 (by omega) ?_; conv => whnf) | (refine RetI.one Try.results26 rfl ?_; conv => whnf) | (refine RetI.two Try.results26 rfl rfl ?_; conv => whnf) | (refine RetI.three Try.results26 rfl rfl rfl ?_; conv => whnf) | (refine RetI.none Try.results26 ?_; conv => whnf) | (refine ⟨by first | decide | omega, ?_⟩; conv => whnf))
          exact ⟨_, Sub.refl _, rfl, X2, some (j3, j4, J3), P2, l2, s2, rfl⟩
    · conv => whnf
      refine cond_split (fun h3 => ?_) (fun h3 => ?_)
      · cases jo with
        | none =>
          conv => whnf
          refine DrawI.mixed [6] [_, _] (by kernel_rfl) (by kernel_rfl) (by kernel_rfl) (by kernel_rfl) (by kernel_rfl) (Sub.sel [0, 1] rfl) ?_
          conv => whnf
          refine LoadV.s rfl rfl ?_
          conv => whnf
          refine LoadV.s rfl rfl ?_
          conv => whnf
          refine CallS.mk Try.call13 ⟨[_], [_, _, _, _, _, _, _, _, _], _, Sub.sel [2, 0, 1, 3, 4, 5, 6, 7, 8, 9] rfl, fun F' hF' => up_ok F' d _ _ _ x.a.on x.a.l n, ?_⟩
          rintro e A' ⟨rfl, rfl⟩
          conv => whnf
          refine ⟨Sub.sel [1, 2] rfl, ?_⟩
          conv => whnf
          refine DrawI.mixed [6] [_, _] (by kernel_rfl) (by kernel_rfl) (by kernel_rfl) (by kernel_rfl) (by kernel_rfl) (Sub.sel [1, 2] rfl) ?_
          conv => whnf
          refine LoadV.s rfl rfl ?_
          conv => whnf
          refine LoadV.s rfl rfl ?_
          conv => whnf
          refine CallS.mk Try.call40 ⟨[_], [_, _, _, _, _, _, _, _, _], _, Sub.sel [6, 2, 1, 0, 3, 4, 5, 7, 8, 9] rfl, fun F' hF' => r5up_ok F' rd _ _ _ y.p n, ?_⟩
          rintro e A' ⟨rfl, rfl⟩
          conv => whnf
          refine ⟨Sub.sel [2, 1] rfl, ?_⟩
          conv => whnf
          repeat (first | (refine LoadV.s rfl rfl (forceV_of ?_); conv => whnf) | (refine LoadV.s rfl rfl ?_; conv => whnf) | (refine StoreV.c rfl rfl (Nat.le_of_ble_eq_true rfl) rfl ?_; conv => whnf) | (refine LoadV.a _ rfl (Nat.le_of_ble_eq_true rfl) ?_; conv => whnf) | (refine DrawI.quiet (by kernel_rfl) (by kernel_rfl) ?_; conv => whnf) | (refine ArI.in64 (by omega) ?_; conv => whnf) | (refine ArI.inU8 (by omega) ?_; conv => whnf) | (refine ArI.inU64 (by omega) ?_; conv => whnf) | (refine ArI.inU32 (by omega) ?_; conv => whnf) | (refine RetI.one Try.results26 rfl ?_; conv => whnf) | (refine RetI.two Try.results26 rfl rfl ?_; conv => whnf) | (refine RetI.three Try.results26 rfl rfl rfl ?_; conv => whnf) | (refine RetI.none Try.results26 ?_; conv => whnf) | (refine ⟨by first | decide | omega, ?_⟩; conv => whnf))
          exact ⟨_, Sub.sel [1, 3, 4, 5, 6, 0, 7, 8, 9] rfl, rfl, ⟨d, r, rb, ⟨x.es, x.c, x.g, ⟨x.a.lg, n != 0, n⟩⟩, rd, g0, rb2, ⟨y.bl, y.gl, max n (-1)⟩⟩, none, ⟨I.up _ hn, ⟨R.B, R.hgl, Pow.up n, hn⟩, hg0, hfi0⟩, by dsimp only; omega, .none, rfl⟩
        | some t =>
          obtain ⟨j, j2, J⟩ := t
          have hJ := hjo _ rfl
          conv => whnf
          refine DrawI.mixed [6] [_, _] (by kernel_rfl) (by kernel_rfl) (by kernel_rfl) (by kernel_rfl) (by kernel_rfl) (Sub.sel [0, 1] rfl) ?_
          conv => whnf
          refine LoadV.s rfl rfl ?_
          conv => whnf
          refine LoadV.s rfl rfl ?_
          conv => whnf
          refine CallS.mk Try.call13 ⟨[_], [_, _, _, _, _, _, _, _, _, _, _], _, Sub.sel [4, 0, 1, 2, 3, 5, 6, 7, 8, 9, 10, 11] rfl, fun F' hF' => up_ok F' d _ _ _ x.a.on x.a.l n, ?_⟩
          rintro e A' ⟨rfl, rfl⟩
          conv => whnf
          refine ⟨Sub.sel [1, 2] rfl, ?_⟩
          conv => whnf
          refine DrawI.mixed [6] [_, _] (by kernel_rfl) (by kernel_rfl) (by kernel_rfl) (by kernel_rfl) (by kernel_rfl) (Sub.sel [1, 2] rfl) ?_
          conv => whnf
          refine LoadV.s rfl rfl ?_
          conv => whnf
          refine LoadV.s rfl rfl ?_
          conv => whnf
          refine CallS.mk Try.call40 ⟨[_], [_, _, _, _, _, _, _, _, _, _, _], _, Sub.sel [8, 2, 1, 3, 4, 0, 5, 6, 7, 9, 10, 11] rfl, fun F' hF' => r5up_ok F' rd _ _ _ y.p n, ?_⟩
          rintro e A' ⟨rfl, rfl⟩
          conv => whnf
          refine ⟨Sub.sel [2, 1] rfl, ?_⟩
          conv => whnf
          repeat (first | (refine LoadV.s rfl rfl (forceV_of ?_); conv => whnf) | (refine LoadV.s rfl rfl ?_; conv => whnf) | (refine StoreV.c rfl rfl (Nat.le_of_ble_eq_true rfl) rfl ?_; conv => whnf) | (refine LoadV.a _ rfl (Nat.le_of_ble_eq_true rfl) ?_; conv => whnf) | (refine DrawI.quiet (by kernel_rfl) (by kernel_rfl) ?_; conv => whnf) | (refine ArI.in64 (by omega) ?_; conv => whnf) | (refine ArI.inU8 (by omega) ?_; conv => whnf) | (refine ArI.inU64 (by omega) ?_; conv => whnf) | (refine ArI.inU32 (by omega) ?_; conv => whnf) | (refine RetI.one Try.results26 rfl ?_; conv => whnf) | (refine RetI.two Try.results26 rfl rfl ?_; conv => whnf) | (refine RetI.three Try.results26 rfl rfl rfl ?_; conv => whnf) | (refine RetI.none Try.results26 ?_; conv => whnf) | (refine ⟨by first | decide | omega, ?_⟩; conv => whnf))
          exact ⟨_, Sub.sel [1, 3, 4, 5, 6, 7, 8, 0, 9, 10, 11] rfl, rfl, ⟨d, r, rb, ⟨x.es, x.c, x.g, ⟨x.a.lg, n != 0, n⟩⟩, rd, g0, rb2, ⟨y.bl, y.gl, max n (-1)⟩⟩, some (j, j2, J), ⟨I.up _ hn, ⟨R.B, R.hgl, Pow.up n, hn⟩, hg0, hfi0⟩, by dsimp only; omega, .some hJ.1 hJ.2, rfl⟩
      · conv => whnf
        refine cond_split (fun h4 => ?_) (fun h4 => ?_)
        · cases jo with
          | none =>
            conv => whnf
            repeat (first | (refine LoadV.s rfl rfl (forceV_of ?_); conv => whnf) | (refine LoadV.s rfl rfl ?_; conv => whnf) | (refine StoreV.c rfl rfl (Nat.le_of_ble_eq_true rfl) rfl ?_; conv => whnf) | (refine LoadV.a _ rfl (Nat.le_of_ble_eq_true rfl) ?_; conv => whnf) | (refine DrawI.quiet (by kernel_rfl) (by kernel_rfl) ?_; conv => whnf) | (refine ArI.in64 (by omega) ?_; conv => whnf) | (refine ArI.inU8 (by omega) ?_; conv => whnf) | (refine ArI.inU64 (by omega) ?_; conv => whnf) | (refine ArI.inU32 (by omega) ?_; conv => whnf) | (refine RetI.one Try.results26 rfl ?_; conv => whnf) | (refine RetI.two Try.results26 rfl rfl ?_; conv => whnf) | (refine RetI.three Try.results26 rfl rfl rfl ?_; conv => whnf) | (refine RetI.none Try.results26 ?_; conv => whnf) | (refine ⟨by first | decide | omega, ?_⟩; conv => whnf))
            refine CallS.mk Try.call41 ⟨[_], [_, _, _, _, _, _, _, _], _, Sub.sel [2, 1, 3, 4, 5, 6, 7, 8, 9] rfl, fun F' hF' => off_ok F' d _ _ _ x.a.on x.a.l, ?_⟩
            rintro e A' ⟨rfl, rfl⟩
            conv => whnf
            repeat (first | (refine LoadV.s rfl rfl (forceV_of ?_); conv => whnf) | (refine LoadV.s rfl rfl ?_; conv => whnf) | (refine StoreV.c rfl rfl (Nat.le_of_ble_eq_true rfl) rfl ?_; conv => whnf) | (refine LoadV.a _ rfl (Nat.le_of_ble_eq_true rfl) ?_; conv => whnf) | (refine DrawI.quiet (by kernel_rfl) (by kernel_rfl) ?_; conv => whnf) | (refine ArI.in64 (by omega) ?_; conv => whnf) | (refine ArI.inU8 (by omega) ?_; conv => whnf) | (refine ArI.inU64 (by omega) ?_; conv => whnf) | (refine ArI.inU32 (by omega) ?_; conv => whnf) | (refine RetI.one Try.results26 rfl ?_; conv => whnf) | (refine RetI.two Try.results26 rfl rfl ?_; conv => whnf) | (refine RetI.three Try.results26 rfl rfl rfl ?_; conv => whnf) | (refine RetI.none Try.results26 ?_; conv => whnf) | (refine ⟨by first | decide | omega, ?_⟩; conv => whnf))
            refine CallS.mk Try.call42 ⟨[_], [_, _, _, _, _, _, _, _], _, Sub.sel [5, 1, 0, 2, 3, 4, 6, 7, 8] rfl, fun F' hF' => r5off_ok F' rd _ _ _ y.p, ?_⟩
            rintro e A' ⟨rfl, rfl⟩
            conv => whnf
            repeat (first | (refine LoadV.s rfl rfl (forceV_of ?_); conv => whnf) | (refine LoadV.s rfl rfl ?_; conv => whnf) | (refine StoreV.c rfl rfl (Nat.le_of_ble_eq_true rfl) rfl ?_; conv => whnf) | (refine LoadV.a _ rfl (Nat.le_of_ble_eq_true rfl) ?_; conv => whnf) | (refine DrawI.quiet (by kernel_rfl) (by kernel_rfl) ?_; conv => whnf) | (refine ArI.in64 (by omega) ?_; conv => whnf) | (refine ArI.inU8 (by omega) ?_; conv => whnf) | (refine ArI.inU64 (by omega) ?_; conv => whnf) | (refine ArI.inU32 (by omega) ?_; conv => whnf) | (refine RetI.one Try.results26 rfl ?_; conv => whnf) | (refine RetI.two Try.results26 rfl rfl ?_; conv => whnf) | (refine RetI.three Try.results26 rfl rfl rfl ?_; conv => whnf) | (refine RetI.none Try.results26 ?_; conv => whnf) | (refine ⟨by first | decide | omega, ?_⟩; conv => whnf))
            exact ⟨_, Sub.sel [1, 2, 3, 4, 5, 0, 6, 7, 8] rfl, rfl, ⟨d, r, rb, ⟨x.es, x.c, x.g, ⟨x.a.lg, false, x.a.l⟩⟩, rd, g0, rb2, ⟨y.bl, y.gl, 0⟩⟩, none, ⟨I.up false I.hl, ⟨R.B, R.hgl, Pow.off _, R.hl⟩, hg0, hfi0⟩, by dsimp only; omega, .none, rfl⟩
          | some t =>
            obtain ⟨j, j2, J⟩ := t
            have hJ := hjo _ rfl
            conv => whnf
            repeat (first | (refine LoadV.s rfl rfl (forceV_of ?_); conv => whnf) | (refine LoadV.s rfl rfl ?_; conv => whnf) | (refine StoreV.c rfl rfl (Nat.le_of_ble_eq_true rfl) rfl ?_; conv => whnf) | (refine LoadV.a _ rfl (Nat.le_of_ble_eq_true rfl) ?_; conv => whnf) | (refine DrawI.quiet (by kernel_rfl) (by kernel_rfl) ?_; conv => whnf) | (refine ArI.in64 (by omega) ?_; conv => whnf) | (refine ArI.inU8 (by omega) ?_; conv => whnf) | (refine ArI.inU64 (by omega) ?_; conv => whnf) | (refine ArI.inU32 (by omega) ?_; conv => whnf) | (refine RetI.one Try.results26 rfl ?_; conv => whnf) | (refine RetI.two Try.results26 rfl rfl ?_; conv => whnf) | (refine RetI.three Try.results26 rfl rfl rfl ?_; conv => whnf) | (refine RetI.none Try.results26 ?_; conv => whnf) | (refine ⟨by first | decide | omega, ?_⟩; conv => whnf))
            refine CallS.mk Try.call41 ⟨[_], [_, _, _, _, _, _, _, _, _, _], _, Sub.sel [4, 1, 2, 3, 5, 6, 7, 8, 9, 10, 11] rfl, fun F' hF' => off_ok F' d _ _ _ x.a.on x.a.l, ?_⟩
            rintro e A' ⟨rfl, rfl⟩
            conv => whnf
            repeat (first | (refine LoadV.s rfl rfl (forceV_of ?_); conv => whnf) | (refine LoadV.s rfl rfl ?_; conv => whnf) | (refine StoreV.c rfl rfl (Nat.le_of_ble_eq_true rfl) rfl ?_; conv => whnf) | (refine LoadV.a _ rfl (Nat.le_of_ble_eq_true rfl) ?_; conv => whnf) | (refine DrawI.quiet (by kernel_rfl) (by kernel_rfl) ?_; conv => whnf) | (refine ArI.in64 (by omega) ?_; conv => whnf) | (refine ArI.inU8 (by omega) ?_; conv => whnf) | (refine ArI.inU64 (by omega) ?_; conv => whnf) | (refine ArI.inU32 (by omega) ?_; conv => whnf) | (refine RetI.one Try.results26 rfl ?_; conv => whnf) | (refine RetI.two Try.results26 rfl rfl ?_; conv => whnf) | (refine RetI.three Try.results26 rfl rfl rfl ?_; conv => whnf) | (refine RetI.none Try.results26 ?_; conv => whnf) | (refine ⟨by first | decide | omega, ?_⟩; conv => whnf))
            refine CallS.mk Try.call42 ⟨[_], [_, _, _, _, _, _, _, _, _, _], _, Sub.sel [7, 1, 2, 3, 0, 4, 5, 6, 8, 9, 10] rfl, fun F' hF' => r5off_ok F' rd _ _ _ y.p, ?_⟩
            rintro e A' ⟨rfl, rfl⟩
            conv => whnf
            repeat (first | (refine LoadV.s rfl rfl (forceV_of ?_); conv => whnf) | (refine LoadV.s rfl rfl ?_; conv => whnf) | (refine StoreV.c rfl rfl (Nat.le_of_ble_eq_true rfl) rfl ?_; conv => whnf) | (refine LoadV.a _ rfl (Nat.le_of_ble_eq_true rfl) ?_; conv => whnf) | (refine DrawI.quiet (by kernel_rfl) (by kernel_rfl) ?_; conv => whnf) | (refine ArI.in64 (by omega) ?_; conv => whnf) | (refine ArI.inU8 (by omega) ?_; conv => whnf) | (refine ArI.inU64 (by omega) ?_; conv => whnf) | (refine ArI.inU32 (by omega) ?_; conv => whnf) | (refine RetI.one Try.results26 rfl ?_; conv => whnf) | (refine RetI.two Try.results26 rfl rfl ?_; conv => whnf) | (refine RetI.three Try.results26 rfl rfl rfl ?_; conv => whnf) | (refine RetI.none Try.results26 ?_; conv => whnf) | (refine ⟨by first | decide | omega, ?_⟩; conv => whnf))
            exact ⟨_, Sub.sel [1, 2, 3, 4, 5, 6, 7, 0, 8, 9, 10] rfl, rfl, ⟨d, r, rb, ⟨x.es, x.c, x.g, ⟨x.a.lg, false, x.a.l⟩⟩, rd, g0, rb2, ⟨y.bl, y.gl, 0⟩⟩, some (j, j2, J), ⟨I.up false I.hl, ⟨R.B, R.hgl, Pow.off _, R.hl⟩, hg0, hfi0⟩, by dsimp only; omega, .some hJ.1 hJ.2, rfl⟩
        · conv => whnf
          refine cond_split (fun h5 => ?_) (fun h5 => ?_)
          · have hr24 : x.a.lg.length * 24 ≤ 140737488355328 := Nat.le_trans (Nat.mul_le_mul_right 24 (by omega)) hroom
            cases jo with
            | none =>
              conv => whnf
              refine Late.drawLate [8, 15, 18, 21] [5, 12] [18, 21] [_] [_] (by kernel_rfl) (by kernel_rfl) (by kernel_rfl) (by kernel_rfl) (by kernel_rfl) (by kernel_rfl) (by kernel_rfl) (Sub.sel [0] rfl) (Sub.sel [1] rfl) ?_
              conv => whnf
              refine LoadV.s rfl rfl ?_
              conv => whnf
              refine LoadV.s rfl rfl ?_
              conv => whnf
              refine CallS.mk Try.call20 ⟨[_, _, _, _], [_, _, _, _, _, _], _, Sub.sel [2, 3, 4, 5, 0, 1, 6, 7, 8, 9] rfl, fun F' hF' => cut_ok F' d r rb es1 c1 _ I.M1 (.map x.es x.c) x.g x.a.lg x.a.on x.a.l n I.hg.1 I.ok hr24, ?_⟩
              rintro e A' ⟨d2, r2, rb22, es2, c2, g2, M2, hg2, rfl, rfl⟩
              conv => whnf
              refine ⟨⟨Sub.sel [8] rfl, fun _ => Sub.sel [9] rfl⟩, ?_⟩
              conv => whnf
              refine LoadV.s rfl rfl ?_
              conv => whnf
              refine LoadV.s rfl rfl ?_
              conv => whnf
              refine CallS.mk Try.call43 ⟨[_, _, _, _], [_, _, _, _, _, _], _, Sub.sel [10, 11, 12, 13, 4, 5, 6, 7, 8, 9] rfl, fun F' hF' => r5cut_ok F' rd g0 fi rb2 y.bl y.gl x.a.lg y.p n hg0 R.hgl.1 hfi0 I.ok hr24, ?_⟩
              rintro e A' ⟨rd2, g02, rr2, bl2, gl2, hB2, hg02, hgl2, rfl, rfl⟩
              conv => whnf
              refine ⟨⟨Sub.sel [12] rfl, fun _ => Sub.sel [13] rfl⟩, ?_⟩
              conv => whnf
              refine StoreV.c rfl rfl (Nat.le_of_ble_eq_true rfl) rfl ?_
              conv => whnf
              refine ⟨⟨Sub.sel [12] rfl, fun h => by cases h⟩, ?_⟩
              conv => whnf
              refine StoreV.c rfl rfl (Nat.le_of_ble_eq_true rfl) rfl ?_
              conv => whnf
              refine ⟨⟨Sub.sel [12] rfl, fun h => by cases h⟩, ?_⟩
              conv => whnf
              refine LoadV.s rfl rfl ?_
              conv => whnf
              have hlk : (x.a.lg.take (cutN n x.a.lg.length)).length ≤ x.a.lg.length := by rw [List.length_take]; omega
              have P2 : POk es1 c1 fi ⟨d2, r2, rb22, ⟨es2, c2, g2, ⟨x.a.lg.take (cutN n x.a.lg.length), true, -1⟩⟩, rd2, g02, rr2, ⟨setAll bl2 (x.a.lg.take (cutN n x.a.lg.length)), gl2, -1⟩⟩ :=
                ⟨⟨I.M1, M2, I.i, I.sm, logOk_pre I.ok _, hg2.trans (cut_nil _ _), by show (-1 : Int) ≤ _; decide⟩, ⟨blk_replay (logOk_pre I.ok _) (blk_from hB2), hgl2, Pow.new, by show (-1 : Int) ≤ _; decide⟩, fun h => absurd h hg02, hfi0⟩
              refine CallS.mk Try.call25 ⟨[_, _, _, _, _, _, _, _, _], [], _, Sub.sel [13, 8, 9, 10, 11, 0, 1, 2, 3] rfl, fun F' hF' => popen_ok F' k _ _ es1 c1 fi _ P2 m (by dsimp only; omega) hroom, ?_⟩
              rintro e A' ⟨rfl, X2, jo2, P3, l2, s2, rfl⟩
              rcases jo2 with _ | ⟨j3, j4, J3⟩
              · conv => whnf
                repeat (first | (refine LoadV.s rfl rfl (forceV_of ?_); conv => whnf) | (refine LoadV.s rfl rfl ?_; conv => whnf) | (refine StoreV.c rfl rfl (Nat.le_of_ble_eq_true rfl) rfl ?_; conv => whnf) | (refine LoadV.a _ rfl (Nat.le_of_ble_eq_true rfl) ?_; conv => whnf) | (refine DrawI.quiet (by kernel_rfl) (by kernel_rfl) ?_; conv => whnf) | (refine ArI.in64 (by omega) ?_; conv => whnf) | (refine ArI.inU8 (by omega) ?_; conv => whnf) | (refine ArI.inU64 (by omega) ?_; conv => whnf) | (refine ArI.inU32 (by omega) ?_; conv => whnf) | (refine RetI.one Try.results26 rfl ?_; conv => whnf) | (refine RetI.two Try.results26 rfl rfl ?_; conv => whnf) | (refine RetI.three Try.results26 rfl rfl rfl ?_; conv => whnf) | (refine RetI.none Try.results26 ?_; conv => whnf) | (refine ⟨by first | decide | omega, ?_⟩; conv => whnf))
                exact ⟨_, Sub.refl _, rfl, X2, none, P3, l2, s2, rfl⟩
              · conv => whnf
                repeat (first | (refine LoadV.s rfl rfl (forceV_of ?_); conv => whnf) | (refine LoadV.s rfl rfl ?_; conv => whnf) | (refine StoreV.c rfl rfl (Nat.le_of_ble_eq_true rfl) rfl ?_; conv => whnf) | (refine LoadV.a _ rfl (Nat.le_of_ble_eq_true rfl) ?_; conv => whnf) | (refine DrawI.quiet (by kernel_rfl) (by kernel_rfl) ?_; conv => whnf) | (refine ArI.in64 (by omega) ?_; conv => whnf) | (refine ArI.inU8 (by omega) ?_; conv => whnf) | (refine ArI.inU64 (by omega) ?_; conv => whnf) | (refine ArI.inU32 (by omega) ?_; conv => whnf) | (refine RetI.one Try.results26 rfl ?_; conv => whnf) | (refine RetI.two Try.results26 rfl rfl ?_; conv => whnf) | (refine RetI.three Try.results26 rfl rfl rfl ?_; conv => whnf) | (refine RetI.none Try.results26 ?_; conv => whnf) | (refine ⟨by first | decide | omega, ?_⟩; conv => whnf))
                exact ⟨_, Sub.refl _, rfl, X2, some (j3, j4, J3), P3, l2, s2, rfl⟩
            | some t =>
              obtain ⟨j, j2, J⟩ := t
              conv => whnf
              refine Late.drawLate [8, 15, 18, 21] [5, 12] [18, 21] [_] [_] (by kernel_rfl) (by kernel_rfl) (by kernel_rfl) (by kernel_rfl) (by kernel_rfl) (by kernel_rfl) (by kernel_rfl) (Sub.sel [0] rfl) (Sub.sel [1] rfl) ?_
              conv => whnf
              refine LoadV.s rfl rfl ?_
              conv => whnf
              refine LoadV.s rfl rfl ?_
              conv => whnf
              refine CallS.mk Try.call20 ⟨[_, _, _, _], [_, _, _, _, _, _], _, Sub.sel [4, 5, 6, 7, 0, 1, 8, 9, 10, 11] rfl, fun F' hF' => cut_ok F' d r rb es1 c1 _ I.M1 (.map x.es x.c) x.g x.a.lg x.a.on x.a.l n I.hg.1 I.ok hr24, ?_⟩
              rintro e A' ⟨d2, r2, rb22, es2, c2, g2, M2, hg2, rfl, rfl⟩
              conv => whnf
              refine ⟨⟨Sub.sel [8] rfl, fun _ => Sub.sel [9] rfl⟩, ?_⟩
              conv => whnf
              refine LoadV.s rfl rfl ?_
              conv => whnf
              refine LoadV.s rfl rfl ?_
              conv => whnf
              refine CallS.mk Try.call43 ⟨[_, _, _, _], [_, _, _, _, _, _], _, Sub.sel [10, 11, 12, 13, 4, 5, 6, 7, 8, 9] rfl, fun F' hF' => r5cut_ok F' rd g0 fi rb2 y.bl y.gl x.a.lg y.p n hg0 R.hgl.1 hfi0 I.ok hr24, ?_⟩
              rintro e A' ⟨rd2, g02, rr2, bl2, gl2, hB2, hg02, hgl2, rfl, rfl⟩
              conv => whnf
              refine ⟨⟨Sub.sel [12] rfl, fun _ => Sub.sel [13] rfl⟩, ?_⟩
              conv => whnf
              refine StoreV.c rfl rfl (Nat.le_of_ble_eq_true rfl) rfl ?_
              conv => whnf
              refine ⟨⟨Sub.sel [12] rfl, fun h => by cases h⟩, ?_⟩
              conv => whnf
              refine StoreV.c rfl rfl (Nat.le_of_ble_eq_true rfl) rfl ?_
              conv => whnf
              refine ⟨⟨Sub.sel [12] rfl, fun h => by cases h⟩, ?_⟩
              conv => whnf
              refine LoadV.s rfl rfl ?_
              conv => whnf
              have hlk : (x.a.lg.take (cutN n x.a.lg.length)).length ≤ x.a.lg.length := by rw [List.length_take]; omega
              have P2 : POk es1 c1 fi ⟨d2, r2, rb22, ⟨es2, c2, g2, ⟨x.a.lg.take (cutN n x.a.lg.length), true, -1⟩⟩, rd2, g02, rr2, ⟨setAll bl2 (x.a.lg.take (cutN n x.a.lg.length)), gl2, -1⟩⟩ :=
                ⟨⟨I.M1, M2, I.i, I.sm, logOk_pre I.ok _, hg2.trans (cut_nil _ _), by show (-1 : Int) ≤ _; decide⟩, ⟨blk_replay (logOk_pre I.ok _) (blk_from hB2), hgl2, Pow.new, by show (-1 : Int) ≤ _; decide⟩, fun h => absurd h hg02, hfi0⟩
              refine CallS.mk Try.call25 ⟨[_, _, _, _, _, _, _, _, _], [], _, Sub.sel [13, 8, 9, 10, 11, 0, 1, 2, 3] rfl, fun F' hF' => popen_ok F' k _ _ es1 c1 fi _ P2 m (by dsimp only; omega) hroom, ?_⟩
              rintro e A' ⟨rfl, X2, jo2, P3, l2, s2, rfl⟩
              rcases jo2 with _ | ⟨j3, j4, J3⟩
              · conv => whnf
                repeat (first | (refine LoadV.s rfl rfl (forceV_of ?_); conv => whnf) | (refine LoadV.s rfl rfl ?_; conv => whnf) | (refine StoreV.c rfl rfl (Nat.le_of_ble_eq_true rfl) rfl ?_; conv => whnf) | (refine LoadV.a _ rfl (Nat.le_of_ble_eq_true rfl) ?_; conv => whnf) | (refine DrawI.quiet (by kernel_rfl) (by kernel_rfl) ?_; conv => whnf) | (refine ArI.in64 (by omega) ?_; conv => whnf) | (refine ArI.inU8 (by omega) ?_; conv => whnf) | (refine ArI.inU64 (by omega) ?_; conv => whnf) | (refine ArI.inU32 (by omega) ?_; conv => whnf) | (refine RetI.one Try.results26 rfl ?_; conv => whnf) | (refine RetI.two Try.results26 rfl rfl ?_; conv => whnf) | (refine RetI.three Try.results26 rfl rfl rfl ?_; conv => whnf) | (refine RetI.none Try.results26 ?_; conv => whnf) | (refine ⟨by first | decide | omega, ?_⟩; conv => whnf))
                exact ⟨_, Sub.refl _, rfl, X2, none, P3, l2, s2, rfl⟩
              · conv => whnf
                repeat (first | (refine LoadV.s rfl rfl (forceV_of ?_); conv => whnf) | (refine LoadV.s rfl rfl ?_; conv => whnf) | (refine StoreV.c rfl rfl (Nat.le_of_ble_eq_true rfl) rfl ?_; conv => whnf) | (refine LoadV.a _ rfl (Nat.le_of_ble_eq_true rfl) ?_; conv => whnf) | (refine DrawI.quiet (by kernel_rfl) (by kernel_rfl) ?_; conv => whnf) | (refine ArI.in64 (by omega) ?_; conv => whnf) | (refine ArI.inU8 (by omega) ?_; conv => whnf) | (refine ArI.inU64 (by omega) ?_; conv => whnf) | (refine ArI.inU32 (by omega) ?_; conv => whnf) | (refine RetI.one Try.results26 rfl ?_; conv => whnf) | (refine RetI.two Try.results26 rfl rfl ?_; conv => whnf) | (refine RetI.three Try.results26 rfl rfl rfl ?_; conv => whnf) | (refine RetI.none Try.results26 ?_; conv => whnf) | (refine ⟨by first | decide | omega, ?_⟩; conv => whnf))
                exact ⟨_, Sub.refl _, rfl, X2, some (j3, j4, J3), P3, l2, s2, rfl⟩
          · cases jo with
            | none =>
              conv => whnf
              repeat (first | (refine LoadV.s rfl rfl (forceV_of ?_); conv => whnf) | (refine LoadV.s rfl rfl ?_; conv => whnf) | (refine StoreV.c rfl rfl (Nat.le_of_ble_eq_true rfl) rfl ?_; conv => whnf) | (refine LoadV.a _ rfl (Nat.le_of_ble_eq_true rfl) ?_; conv => whnf) | (refine DrawI.quiet (by kernel_rfl) (by kernel_rfl) ?_; conv => whnf) | (refine ArI.in64 (by omega) ?_; conv => whnf) | (refine ArI.inU8 (by omega) ?_; conv => whnf) | (refine ArI.inU64 (by omega) ?_; conv => whnf) | (refine ArI.inU32 (by omega) ?_; conv => whnf) | (refine RetI.one Try.results26 rfl ?_; conv => whnf) | (refine RetI.two Try.results26 rfl rfl ?_; conv => whnf) | (refine RetI.three Try.results26 rfl rfl rfl ?_; conv => whnf) | (refine RetI.none Try.results26 ?_; conv => whnf) | (refine ⟨by first | decide | omega, ?_⟩; conv => whnf))
              exact ⟨_, Sub.sel [1, 2, 3, 4, 5, 6, 7, 8, 9] rfl, rfl, ⟨d, r, rb, x, rd, g0, rb2, y⟩, none, P0, by dsimp only; omega, .none, rfl⟩
            | some t =>
              obtain ⟨j, j2, J⟩ := t
              have hJ := hjo _ rfl
              conv => whnf
              repeat (first | (refine LoadV.s rfl rfl (forceV_of ?_); conv => whnf) | (refine LoadV.s rfl rfl ?_; conv => whnf) | (refine StoreV.c rfl rfl (Nat.le_of_ble_eq_true rfl) rfl ?_; conv => whnf) | (refine LoadV.a _ rfl (Nat.le_of_ble_eq_true rfl) ?_; conv => whnf) | (refine DrawI.quiet (by kernel_rfl) (by kernel_rfl) ?_; conv => whnf) | (refine ArI.in64 (by omega) ?_; conv => whnf) | (refine ArI.inU8 (by omega) ?_; conv => whnf) | (refine ArI.inU64 (by omega) ?_; conv => whnf) | (refine ArI.inU32 (by omega) ?_; conv => whnf) | (refine RetI.one Try.results26 rfl ?_; conv => whnf) | (refine RetI.two Try.results26 rfl rfl ?_; conv => whnf) | (refine RetI.three Try.results26 rfl rfl rfl ?_; conv => whnf) | (refine RetI.none Try.results26 ?_; conv => whnf) | (refine ⟨by first | decide | omega, ?_⟩; conv => whnf))
              exact ⟨_, Sub.sel [1, 2, 3, 4, 5, 6, 7, 8, 9, 10, 11] rfl, rfl, ⟨d, r, rb, x, rd, g0, rb2, y⟩, some (j, j2, J), P0, by dsimp only; omega, .some hJ.1 hJ.2, rfl⟩
end Go.Proofs.Ytgodkfaacjllcaa

/- Regions that draw their order, of which the first operations come up one at a time. -/
namespace Go.Proofs.Ytgodkfaacjllcaa
set_option linter.unusedVariables false
set_option linter.unusedSimpArgs false
set_option maxRecDepth 100000
namespace SL.Line
open Go Go.RowKit SL
/-- The operations from k on come up one at a time. -/
def lineB (md : Region.Mode) (ops : Array Oper) : Nat → Nat → Array Bool → Bool
  | 0, _, _ => true
  | n + 1, k, listed => (Region.ready md ops listed == [k]) && lineB md ops n (k + 1) (listed.setIfInBounds k true)
def setTo : Nat → Nat → Array Bool → Array Bool
  | 0, _, listed => listed
  | n + 1, k, listed => setTo n (k + 1) (listed.setIfInBounds k true)
variable {P : Program} {md : Region.Mode} {ops : Array Oper} {C : Ctx} {St : Heap → Prop}
theorem line_sound {Q : Act → Heap → Prop} {Q' : Exit → Act → World → Prop} {fuel : Nat} {last : Array Bool} (hk : ∀ a H w, St H → Sat C H w → Q a H → wpAny P md ops Q' fuel last a w) :
    ∀ (l : List Oper) (k : Nat) (listed : Array Bool) (a : Act) (H : Heap) (w : World), (∀ j, l[j]? = ops[k + j]? ∨ l[j]? = none) → lineB md ops l.length k listed = true → setTo l.length k listed = last → St H → Sat C H w →
      wpMix P ops C St St (fun _ => false) (fun _ => false) Q l k a H → wpAny P md ops Q' (l.length + fuel) listed a w
  | [], _, listed, a, H, w, _, _, hlast, hst, hs, h => by
    have hlast : listed = last := hlast
    subst hlast
    rw [List.length_nil, Nat.zero_add]; exact hk a H w hst hs h
  | o :: l, k, listed, a, H, w, hl, hB, hlast, hst, hs, h => by
    have h0 : ops[k]? = some o := by have := hl 0; simpa [eq_comm] using this
    simp only [List.length_cons, lineB, Bool.and_eq_true, beq_iff_eq] at hB
    obtain ⟨hr, hB'⟩ := hB
    have hl' : ∀ j, l[j]? = ops[k + 1 + j]? ∨ l[j]? = none := fun j => by have := hl (j + 1); simpa [Nat.add_assoc, Nat.add_comm 1 j] using this
    have ih := fun a' H' w' (hst' : St H') (hs' : Sat C H' w') hm => line_sound hk l (k + 1) (listed.setIfInBounds k true) a' H' w' hl' hB' hlast hst' hs' hm
    rw [List.length_cons, Nat.add_right_comm]
    refine ⟨fun h1 => (by rw [hr] at h1; cases h1), fun i hi => ?_⟩
    rw [hr, List.mem_singleton] at hi
    subst hi
    unfold wpMix at h
    unfold wpOp
    simp only [h0]
    split
    · rename_i hw
      rw [if_pos hw, if_neg (by simp)] at h
      obtain ⟨R, h1, h2⟩ := h
      have h3 := h1 w hs
      refine .inl ?_
      unfold Oper.wp
      generalize (execOp a.eval o).run P w = r at *
      cases r with
      | ok n w' =>
        cases n <;> simp only [eff] at h3 <;> simp only [Oper.upon]
        case value v => obtain ⟨H', hr, hst', hs'⟩ := h3; exact ih _ _ _ hst' hs' (h2 v H' hr hst' ⟨w', hs'⟩)
        case skip => obtain ⟨H', hr, hst', hs'⟩ := h3; exact ih _ _ _ hst' hs' (h2 undef H' hr hst' ⟨w', hs'⟩)
        case enter g args =>
          refine h3.mono fun e w'' ⟨v, H', he, hr, hst', hs'⟩ => ?_
          subst he
          exact ih _ _ _ hst' hs' (h2 v H' hr hst' ⟨w'', hs'⟩)
        case row rw args => exact h3.mono fun v w'' ⟨H', hr, hst', hs'⟩ => ih _ _ _ hst' hs' (h2 v H' hr hst' ⟨w'', hs'⟩)
      | halt y w' => simp only [eff] at h3
    · rename_i hw
      rw [if_neg hw] at h
      exact ih _ _ _ hst hs h
section
variable {C : Ctx} {P : Program} {H0 H1 : Heap} {qf ef : Nat → Bool} {n : Nat}
theorem sound_part {ops : Array Oper} {Q : Fr → Heap → Prop} (hn : 0 < n) (hnc : callFree ops qf = true) : ∀ (l : List Oper) (k : Nat) {f : Fr} {H : Heap} {a : Act}, (∀ j, l[j]? = ops[k + j]? ∨ l[j]? = none) → MListW C P H0 H1 qf ef n ops.toList Q l k f H → TR C.ds n f a →
    wpMix P ops C (fun H => Sub H H0) (fun H => Sub H H1) qf ef (fun a H => ∃ f, Q f H ∧ TR C.ds n f a) l k a H
  | [], _, f, H, a, _, h, ht => ⟨f, h, ht⟩
  | o :: l, k, f, H, a, hl, h, ht => by
    have h0 : ops[k]? = some o := by have := hl 0; simpa [eq_comm] using this
    have hl' : ∀ j, l[j]? = ops[k + 1 + j]? ∨ l[j]? = none := fun j => by have := hl (j + 1); simpa [Nat.add_assoc, Nat.add_comm 1 j] using this
    replace h : guardW n ops.toList f o.guard (fun f => cond (qf k) (cond (ef k) (QOpW C P H1 true n f o fun v => putK f o.dst v fun f' => MListW C P H0 H1 qf ef n ops.toList Q l (k + 1) f' H) (QOpW C P H0 true n f o fun v => putK f o.dst v fun f' => MListW C P H0 H1 qf ef n ops.toList Q l (k + 1) f' H)) (OpW C P false n f o (fun v H' => Sub H' H0 ∧ putK f o.dst v fun f' => MListW C P H0 H1 qf ef n ops.toList Q l (k + 1) f' H') (fun _ _ => False) H))
      (fun f => putK f o.dst undef fun f' => MListW C P H0 H1 qf ef n ops.toList Q l (k + 1) f' H) := h
    simp only [putK_eq] at h
    unfold wpMix
    rcases guardW.sound (ops := ops) ht h with ⟨hw, h⟩ | ⟨hw, h⟩
    · rw [if_pos hw]
      cases hq : qf k with
      | true =>
        rw [hq] at h
        simp only [cond_true] at h
        have hcf : ∀ c x, o.op = .call c → c.callee = .value x → False := fun c x ho hc => by
          have hks : k < ops.size := (Array.getElem?_eq_some_iff.1 h0).1
          have h1 := List.all_eq_true.1 hnc k (by simpa using hks)
          simp only [hq, h0, ho, hc] at h1
          simp at h1
        simp only [if_true]
        cases he : ef k with
        | true =>
          rw [he] at h
          simp only [cond_true] at h
          obtain ⟨v, hv, hk⟩ := QOpW.plain h ht hcf
          exact ⟨v, fun w ⟨H2, ⟨_, hs3⟩, hs2⟩ => hv w ((hs3 he).sat hs2), sound_part hn hnc l (k + 1) hl' hk (ht.put o.dst v)⟩
        | false =>
          rw [he] at h
          simp only [cond_false] at h
          obtain ⟨v, hv, hk⟩ := QOpW.plain h ht hcf
          exact ⟨v, fun w ⟨H2, ⟨hs1, _⟩, hs2⟩ => hv w (hs1.sat hs2), sound_part hn hnc l (k + 1) hl' hk (ht.put o.dst v)⟩
      | false =>
        rw [hq] at h
        simp only [cond_false] at h
        rw [if_neg (by simp)]
        exact ⟨_, ER.of_op hn h ht, fun v H' hk hst hw => sound_part hn hnc l (k + 1) hl' hk (ht.put o.dst v)⟩
    · rw [if_neg (by simp [hw])]
      exact sound_part hn hnc l (k + 1) hl' h (ht.put o.dst undef)
end
section
variable {C : Ctx} {P : Program} {n : Nat}
theorem wp_monoQ {o : Oper} {a : Act} {w : World} {K K' : Act → World → Prop} {Q Q' : Exit → Act → World → Prop} (h : ∀ a w, K a w → K' a w) (hQ : ∀ e a w, Q e a w → Q' e a w) (hh : o.wp P a w K Q) : o.wp P a w K' Q' := by
  unfold Oper.wp at *
  generalize (execOp a.eval o).run P w = r at *
  cases r with
  | ok n w' =>
    cases n <;> simp only [Oper.upon] at hh ⊢ <;>
      first
        | exact h _ _ hh
        | exact Calls.mono hh (fun e w'' he => by cases e <;> first | exact h _ _ he | exact hQ _ _ _ he | (obtain ⟨a, w, he⟩ := he; exact ⟨a, w, hQ _ _ _ he⟩))
        | exact Rows.mono hh (fun _ _ he => h _ _ he)
  | halt x w' => cases x <;> simp only [Oper.upon] at hh ⊢ <;> first | exact hQ _ _ _ hh | exact hh
theorem any_monoQ {md : Region.Mode} {ops : Array Oper} {Q Q' : Exit → Act → World → Prop} (hQ : ∀ e a w, Q e a w → Q' e a w) : ∀ (fuel : Nat) (listed : Array Bool) (a : Act) (w : World), wpAny P md ops Q fuel listed a w → wpAny P md ops Q' fuel listed a w
  | 0, _, _, _, h => ⟨h.1, hQ _ _ _ h.2⟩
  | fuel + 1, listed, a, w, h => ⟨fun h0 => hQ _ _ _ (h.1 h0), fun i hi => by
      have := h.2 i hi
      unfold wpOp at *
      split
      · rename_i h1; simp only [h1] at this; exact any_monoQ hQ fuel _ _ _ this
      · rename_i o h1
        simp only [h1] at this
        split
        · rename_i hw
          rw [if_pos hw] at this
          rcases this with h2 | ⟨h2, x, y, h3⟩
          · exact .inl (wp_monoQ (fun a w => any_monoQ hQ fuel _ a w) hQ h2)
          · exact .inr ⟨h2, x, y, hQ _ _ _ h3⟩
        · rename_i hw
          rw [if_neg hw] at this
          exact any_monoQ hQ fuel _ _ _ this⟩
/-- What is listed behind operation m. -/
def lastL (m : Nat) (ops : Array Oper) : Array Bool := setTo m 1 ((Array.replicate ops.size false).setIfInBounds 0 true)
theorem drawLine (m : Nat) (es : List Nat) (x : Operand) (o0 : Oper) {id : Nat} {ops : Array Oper} {Q : Exit → Fr → Heap → Prop} {f : Fr} {H : Heap} (hn : Nat.blt 0 n = true) (hm : P.follows .mixedOrders = true)
    (hop : ops[0]? = some o0) (ho : o0.op = .move x) (hg : o0.guard = none) (hns : Region.noSelect ops = true) (hsz : Nat.ble (m + 1) ops.size = true)
    (hr0 : (Region.ready .any ops (Array.replicate ops.size false)).contains 0 = true) (hf0 : Region.free .any ops (Array.replicate ops.size false) 0 = true)
    (hline : lineB .any ops m 1 ((Array.replicate ops.size false).setIfInBounds 0 true) = true) (hlex : Region.lexFrom .any ops (ops.size - (m + 1)) (m + 1) (lastL m ops) = true)
    (hl1 : ((List.range (m + 1)).all fun i => (lastL m ops).getD i true) = true) (hl2 : ((List.range ops.size).all fun i => Nat.ble i m || !(lastL m ops).getD i false) = true) (hl3 : Nat.beq (lastL m ops).size ops.size = true)
    (hch : chainE .any ops (qfl es) = true) (hnc : callFree ops (qfl es) = true)
    (h : putK f o0.dst (ev n f x) fun f => MListW C P [] [] (fun _ => false) (fun _ => false) n ops.toList (fun f H => ∃ H0, Sub H H0 ∧ MListW C P H0 H0 (qfl es) (efl []) n ops.toList (Q .normal) (ops.toList.drop (m + 1)) (m + 1) f H) ((ops.toList.drop 1).take m) 1 f H)
    (hd : noDefer ops = true := by kernel_rfl) : DrawI C P n id ops Q f H :=
  ⟨hm, hd, fun a w ht hs' => by
    have hn' : 0 < n := by simpa [Nat.blt_eq] using hn
    have hsz' : m + 1 ≤ ops.size := Nat.le_of_ble_eq_true hsz
    have hrep : ∀ k, (Array.replicate ops.size false).getD k false = false := fun k => by
      by_cases hk : k < ops.size <;> simp [Array.getD, hk]
    rw [putK_eq] at h
    have hsel := Region.noSelect_spec hns
    rw [show ops.size = (m + (ops.size - (m + 1))) + 1 by omega]
    rw [show (m + (ops.size - (m + 1))) + 1 = ops.size by omega]
    have hl : ∀ j, ((ops.toList.drop 1).take m)[j]? = ops[1 + j]? ∨ ((ops.toList.drop 1).take m)[j]? = none := fun j => by
      rw [List.getElem?_take]
      split
      · left; simp [Nat.add_comm]
      · right; rfl
    have hlen : ((ops.toList.drop 1).take m).length = m := by simp; omega
    have h1 := sound_part hn' (by simp [callFree]) ((ops.toList.drop 1).take m) 1 hl h (ht.put o0.dst (ev n f x))
    obtain ⟨Z, hZ⟩ : ∃ Z : Exit → Act → World → Prop, Z = fun e a w => e = .normal ∧ lift C n Q e a w := ⟨_, rfl⟩
    refine any_monoQ (Q := Z) (fun e a w h => by subst hZ; exact h.2) _ _ _ _ ?_
    have hEI : EInv (qfl es) (efl []) ops.size (lastL m ops) := fun k _ _ i _ he => by simp [efl] at he
    have hi1 : ∀ i, i < m + 1 → (lastL m ops).getD i true = true := fun i hi => List.all_eq_true.1 hl1 i (by simpa using hi)
    have hi2 : ∀ i, m + 1 ≤ i → (lastL m ops).getD i false = false := fun i hi => by
      have hls : (lastL m ops).size = ops.size := Nat.eq_of_beq_eq_true hl3
      rcases Nat.lt_or_ge i ops.size with h' | h'
      · have := List.all_eq_true.1 hl2 i (by simpa using h')
        simp only [Bool.or_eq_true, Bool.not_eq_true'] at this
        rcases this with h4 | h4
        · have := Nat.le_of_ble_eq_true h4; omega
        · exact h4
      · simp [Array.getElem?_eq_none (show (lastL m ops).size ≤ i by omega)]
    have hk : ∀ a H w, Sub H [] → Sat C H w → (∃ f, (∃ H0, Sub H H0 ∧ MListW C P H0 H0 (qfl es) (efl []) n ops.toList (Q .normal) (ops.toList.drop (m + 1)) (m + 1) f H) ∧ TR C.ds n f a) → wpAny P .any ops Z (ops.size - (m + 1)) (lastL m ops) a w := by
      rintro a H w _ hs ⟨f, ⟨H0, h0, h2⟩, ht⟩
      have h3 := MListW.sound hn' hnc (ops.toList.drop (m + 1)) (m + 1) (by simp) h2 ht
      have h4 := wpAnyM_lex (ef := efl []) (md := .any) waitsE_nil hns hch (ops.toList.drop (m + 1)) (m + 1) (lastL m ops) a H (by simp) hi1 hi2 (by simpa using hlex) hEI h0 ⟨_, hs⟩ h3
      refine wpAnyM_sound (St := fun H => Sub H H0) (St1 := fun H => Sub H H0) (qf := qfl es) (ef := efl []) waitsE_nil (fun i hi => by simp [efl] at hi) (Q := fun a H => ∃ f, Q .normal f H ∧ TR C.ds n f a) (fun a' H' w' hs' ⟨f', hq, ht'⟩ => by subst hZ; exact ⟨rfl, by simp, f', H', hq, ht', hs'⟩) _ _ _ H _ h0 hEI (fun i hi => by simp [efl] at hi) hs (by simpa using h4)
    have key : wpAny P .any ops Z ((m + (ops.size - (m + 1))) + 1) (Array.replicate ops.size false) a w := by
      refine wpAny_first (v := ev n f x) hop hsel (fun c a w h => ?_) _ _ _ _ (fun j oj hj hne hun hno => Region.free_spec hop hf0 j oj hj hne hun hno) (by simpa using hr0) (.inl ⟨by unfold Region.wanted; rw [hg], fun w => ?_⟩) ?_
      · subst hZ; cases h.1
      · rw [ht.eval]; unfold execOp; simp only [ho]; rfl
      · have := line_sound (Q' := Z) (fuel := ops.size - (m + 1)) (last := lastL m ops) hk ((ops.toList.drop 1).take m) 1 ((Array.replicate ops.size false).setIfInBounds 0 true) _ H w hl (by rw [hlen]; exact hline) (by rw [hlen]; rfl) (Sub.sel [] rfl) hs' h1
        rwa [hlen] at this
    rwa [show (m + (ops.size - (m + 1))) + 1 = ops.size by omega] at key⟩
end
end SL.Line
end Go.Proofs.Ytgodkfaacjllcaa

/- The law of plays, as a contract. -/
namespace Go.Proofs.Ytgodkfaacjllcaa
set_option linter.unusedVariables false
set_option linter.unusedSimpArgs false
set_option maxRecDepth 100000
open SL Go.RowKit Go.Maps

abbrev opF7 (o : Int × Int × ByteArray) : List Value := [.int .i64 o.1, .int .i64 o.2.1, .string o.2.2]
theorem opF7_length (o : Int × Int × ByteArray) : (opF7 o).length = 3 := rfl
theorem share7 {α : Type} {G : Prop} (P : α → Prop) (use : (∀ a, P a) → G) (prove : ∀ a, P a) : G := use prove
theorem small_from {im : List ByteArray} (h : fromC im = 0) : SmallM (fromM im im.length) := by
  intro p hp
  have hall : ∀ s ∈ im, s.size ≤ 32 := by
    unfold fromC at h
    split at h
    · cases h
    · split at h
      · assumption
      · cases h
  have key : ∀ n, ∀ p ∈ fromM im n, p.2.size ≤ 32 := by
    intro n
    induction n with
    | zero => intro p hp; cases hp
    | succ n ih =>
      intro p hp
      rcases List.mem_append.1 hp with hp | hp
      · exact ih p hp
      · simp at hp
        subst hp
        dsimp only
        cases hg : im[n]? with
        | none => exact Nat.zero_le _
        | some s => exact hall s (List.mem_of_getElem? hg)
  exact key _ p hp
theorem from7 {im : List ByteArray} {es : Array MapEntry} {c : Nat} {d r rb rd rr : Nat} {g0 : Option (Nat × Nat)} {bl : List ByteArray} (M : MapS es c (fromM im im.length)) (h0 : fromC im = 0) (hg0 : g0 ≠ none) (hbl : BlkF im bl) :
    POk es c im ⟨d, r, rb, ⟨es, c, none, ⟨[], true, -1⟩⟩, rd, g0, rr, ⟨bl, none, -1⟩⟩ :=
  ⟨⟨M, M, inDisk_from (fromC_len h0), small_from h0, (fun p hp => by cases hp), by simp, by show (-1 : Int) ≤ _; decide⟩, ⟨blk_from hbl, by simp, Pow.new, by show (-1 : Int) ≤ _; decide⟩, fun h => absurd h hg0, h0⟩
theorem new7 {d r rb rd rr : Nat} {bl : List ByteArray} (hbl : bl = List.replicate 2048 nul) :
    POk #[] 0 [] ⟨d, r, rb, ⟨#[], 0, none, ⟨[], true, -1⟩⟩, rd, none, rr, ⟨bl, none, -1⟩⟩ :=
  ⟨⟨MapOk.empty, MapOk.empty, inDisk_from (by simp), (fun p hp => by cases hp), (fun p hp => by cases hp), by simp, by show (-1 : Int) ≤ _; decide⟩, ⟨hbl ▸ blk_from blkF_nil, by simp, Pow.new, by show (-1 : Int) ≤ _; decide⟩, fun _ => rfl, rfl⟩
theorem room7 {i n : Nat} (hi : i < n) (hn : n ≤ 1048576) : Room (2048 * (i + 2)) 2048 := by unfold Room; omega
set_option maxHeartbeats 4000000 in
theorem jplays_ok (F : Mem) (oa : Option Addr) (ca : Nat) (im : List ByteArray) (ha : SlF F 1 oa im.length (strs im)) (hca : oa = none → ca = 0) (ob : Option Addr) (cb : Nat) (ops : List (Int × Int × ByteArray)) (hb : SlF F 3 ob ops.length (ops.flatMap opF7))
    (hr : ∀ o ∈ ops, o.2.1 ≤ 9223372036854775807 ∧ o.2.2.size ≤ 9223372036854775807) (hn : ops.length ≤ 1048576) :
    FT Try.prog 6 [.slice oa im.length ca, .slice ob ops.length cb].toArray F [] (Ret (.bool true)) := by
  refine FT.of_body Try.func6 rfl Try.ntmps6 (by simp) fun C hC => ?_
  subst hC
  conv => whnf
  refine CallS.mk Try.call7 ⟨[], _, _, Sub.refl _, fun F' hF' => lives07_ok F', ?_⟩
  rintro e A' ⟨rfl, rfl⟩
  conv => whnf
  apply share7 (α := Unit)
  case use =>
    intro key
    refine CallS.mk Try.call22 ⟨[], _, _, Sub.refl _, fun F' hF' => from_ok F' oa ca im (ha.ext hF'.F), ?_⟩
    rintro e A' (⟨h0, rfl, rfl⟩ | ⟨h0, d, r, rb, es, c, M, rfl, rfl⟩)
    · conv => whnf
      refine CallS.mk Try.call23 ⟨[], _, _, Sub.refl _, fun F' hF' => r5from_ok F' oa ca im (ha.ext hF'.F) hca, ?_⟩
      rintro e A' (⟨h1, rfl, rfl⟩ | ⟨h1, _⟩)
      · conv => whnf
        refine cond_of_false (bne_self_eq_false _) ?_
        conv => whnf
        rw [show (fromC im != 0) = true from bne_iff_ne.2 h0]
        conv => whnf
        refine CallS.mk Try.call11 ⟨[], _, _, Sub.refl _, fun F' hF' => new_ok F', ?_⟩
        rintro e A' ⟨d, r, rb, rfl, rfl⟩
        conv => whnf
        refine CallS.mk Try.call24 ⟨[], [_, _, _, _], _, Sub.sel [0, 1, 2, 3] rfl, fun F' hF' => r5new_ok F', ?_⟩
        rintro e A' ⟨rd, rr, bl, hbl, rfl, rfl⟩
        conv => whnf
        intro k
        conv => whnf
        refine CallS.mk Try.call25 ⟨[_, _, _, _, _, _, _, _, _], [], _, Sub.sel [0, 5, 6, 7, 8, 1, 2, 3, 4] rfl, fun F' hF' => popen_ok F' k _ _ #[] 0 [] ⟨d, r, rb, ⟨#[], 0, none, ⟨[], true, -1⟩⟩, rd, none, rr, ⟨bl, none, -1⟩⟩ (new7 hbl) 2048 (by show 0 + 2048 ≤ 2048; omega) (by unfold Room; omega), ?_⟩
        rintro e A' ⟨rfl, X, jo, PO, hl, hsm, rfl⟩
        rcases jo with _ | ⟨j, j2, J⟩
        · conv => whnf
          refine LoopI.by_state (σ := Nat × (Nat × Array MapEntry × Nat × List ByteArray) × PX × Option (Nat × Nat × JA)) (fun x => [(9, .pointer (some ⟨x.2.1.1, 0, none⟩)), (40, .slice ob ops.length cb), (41, .int .i64 (ops.length : Int)), (42, .int .i64 (x.1 : Int))])
            (fun x => pairH x.2.1.1 x.2.1.2.1 x.2.1.2.2.1 x.2.1.2.2.2 x.2.2.1 x.2.2.2) (fun x => x.1 ≤ ops.length ∧ POk x.2.1.2.1 x.2.1.2.2.1 x.2.1.2.2.2 x.2.2.1 ∧ x.2.2.1.x.a.lg.length ≤ 2048 * (x.1 + 1) ∧ JSmall x.2.2.2) (fun x => ops.length - x.1) (0, (k, #[], 0, []), X, none)
            ⟨Nat.zero_le _, PO, hl, hsm⟩ ⟨rfl, rfl, rfl, rfl, trivial⟩ (Sub.refl _) ?_
          obtain ⟨A⟩ : Nonempty Unit := ⟨()⟩
          exact key A
        · conv => whnf
          refine LoopI.by_state (σ := Nat × (Nat × Array MapEntry × Nat × List ByteArray) × PX × Option (Nat × Nat × JA)) (fun x => [(9, .pointer (some ⟨x.2.1.1, 0, none⟩)), (40, .slice ob ops.length cb), (41, .int .i64 (ops.length : Int)), (42, .int .i64 (x.1 : Int))])
            (fun x => pairH x.2.1.1 x.2.1.2.1 x.2.1.2.2.1 x.2.1.2.2.2 x.2.2.1 x.2.2.2) (fun x => x.1 ≤ ops.length ∧ POk x.2.1.2.1 x.2.1.2.2.1 x.2.1.2.2.2 x.2.2.1 ∧ x.2.2.1.x.a.lg.length ≤ 2048 * (x.1 + 1) ∧ JSmall x.2.2.2) (fun x => ops.length - x.1) (0, (k, #[], 0, []), X, some (j, j2, J))
            ⟨Nat.zero_le _, PO, hl, hsm⟩ ⟨rfl, rfl, rfl, rfl, trivial⟩ (Sub.refl _) ?_
          obtain ⟨A⟩ : Nonempty Unit := ⟨()⟩
          exact key A
      · exact absurd h1 h0
    · conv => whnf
      refine CallS.mk Try.call23 ⟨[], [_, _, _, _], _, Sub.sel [0, 1, 2, 3] rfl, fun F' hF' => r5from_ok F' oa ca im (ha.ext hF'.F) hca, ?_⟩
      rintro e A' (⟨h1, _⟩ | ⟨h1, rd, g0, rr, bl, hbl, hg0, rfl, rfl⟩)
      · exact absurd h0 h1
      · conv => whnf
        intro k
        conv => whnf
        refine CallS.mk Try.call25 ⟨[_, _, _, _, _, _, _, _, _], [], _, Sub.sel [0, 5, 6, 7, 8, 1, 2, 3, 4] rfl, fun F' hF' => popen_ok F' k _ _ es c im ⟨d, r, rb, ⟨es, c, none, ⟨[], true, -1⟩⟩, rd, g0, rr, ⟨bl, none, -1⟩⟩ (from7 M h0 hg0 hbl) 2048 (by show 0 + 2048 ≤ 2048; omega) (by unfold Room; omega), ?_⟩
        rintro e A' ⟨rfl, X, jo, PO, hl, hsm, rfl⟩
        rcases jo with _ | ⟨j, j2, J⟩
        · conv => whnf
          refine LoopI.by_state (σ := Nat × (Nat × Array MapEntry × Nat × List ByteArray) × PX × Option (Nat × Nat × JA)) (fun x => [(9, .pointer (some ⟨x.2.1.1, 0, none⟩)), (40, .slice ob ops.length cb), (41, .int .i64 (ops.length : Int)), (42, .int .i64 (x.1 : Int))])
            (fun x => pairH x.2.1.1 x.2.1.2.1 x.2.1.2.2.1 x.2.1.2.2.2 x.2.2.1 x.2.2.2) (fun x => x.1 ≤ ops.length ∧ POk x.2.1.2.1 x.2.1.2.2.1 x.2.1.2.2.2 x.2.2.1 ∧ x.2.2.1.x.a.lg.length ≤ 2048 * (x.1 + 1) ∧ JSmall x.2.2.2) (fun x => ops.length - x.1) (0, (k, es, c, im), X, none)
            ⟨Nat.zero_le _, PO, hl, hsm⟩ ⟨rfl, rfl, rfl, rfl, trivial⟩ (Sub.refl _) ?_
          obtain ⟨A⟩ : Nonempty Unit := ⟨()⟩
          exact key A
        · conv => whnf
          refine LoopI.by_state (σ := Nat × (Nat × Array MapEntry × Nat × List ByteArray) × PX × Option (Nat × Nat × JA)) (fun x => [(9, .pointer (some ⟨x.2.1.1, 0, none⟩)), (40, .slice ob ops.length cb), (41, .int .i64 (ops.length : Int)), (42, .int .i64 (x.1 : Int))])
            (fun x => pairH x.2.1.1 x.2.1.2.1 x.2.1.2.2.1 x.2.1.2.2.2 x.2.2.1 x.2.2.2) (fun x => x.1 ≤ ops.length ∧ POk x.2.1.2.1 x.2.1.2.2.1 x.2.1.2.2.2 x.2.2.1 ∧ x.2.2.1.x.a.lg.length ≤ 2048 * (x.1 + 1) ∧ JSmall x.2.2.2) (fun x => ops.length - x.1) (0, (k, es, c, im), X, some (j, j2, J))
            ⟨Nat.zero_le _, PO, hl, hsm⟩ ⟨rfl, rfl, rfl, rfl, trivial⟩ (Sub.refl _) ?_
          obtain ⟨A⟩ : Nonempty Unit := ⟨()⟩
          exact key A
  case prove =>
    rintro - ⟨i, ⟨k, es1, c1, fi⟩, X, jo⟩ f0 ⟨hi, P, hlg, hjs⟩
    dsimp only at hi P hlg hjs ⊢
    conv => whnf
    refine cond_dec (fun h => ?_) (fun h => ?_)
    · have hil : i < ops.length := by omega
      obtain ⟨xb, yb, rfl, hrb⟩ := hb.at (i := i) hil
      conv => whnf
      refine ⟨by omega, ?_⟩
      conv => whnf
      refine LoadV.fa (cs := opF7 (ops[i])) (flat_row opF7_length hrb hil rfl) rfl ?_
      have hr1 := hr _ (List.getElem_mem hil)
      generalize ops[i] = o at hr1 ⊢
      obtain ⟨kd, at_, s⟩ := o
      dsimp only at hr1 ⊢
      conv => whnf
      intro b
      conv => whnf
      refine StoreV.c rfl rfl (Nat.le_of_ble_eq_true rfl) rfl ?_
      conv => whnf
      rcases jo with _ | ⟨j, j2, J⟩
      · skip
        refine Line.drawLine 4 [2, 4, 9, 14] _ _ (by kernel_rfl) (by kernel_rfl) rfl rfl rfl (by kernel_rfl) (by kernel_rfl) (by kernel_rfl) (by kernel_rfl) (by kernel_rfl) (by kernel_rfl) (by kernel_rfl) (by kernel_rfl) (by kernel_rfl) (by kernel_rfl) (by kernel_rfl) ?_
        conv => whnf
        refine LoadV.a 3 rfl (Nat.le_of_ble_eq_true rfl) ?_
        conv => whnf
        refine ⟨Sub.sel [] rfl, ?_⟩
        conv => whnf
        refine CallS.mk Try.call26 ⟨[_, _, _, _, _, _, _, _, _], [], _, Sub.sel [1, 2, 3, 4, 5, 6, 7, 8, 9] rfl, fun F' hF' => pstep_ok F' k es1 c1 fi X none P hjs kd at_ s hr1.1 hr1.2 (2048 * (i + 2)) (by omega) (room7 hil hn), ?_⟩
        rintro e A' ⟨rfl, X2, jo2, P2, l2, s2, rfl⟩
        rcases jo2 with _ | ⟨j3, j4, J3⟩
        · conv => whnf
          refine ⟨Sub.sel [] rfl, ?_⟩
          conv => whnf
          refine ⟨Sub.sel [] rfl, ?_⟩
          conv => whnf
          refine ⟨Sub.sel [] rfl, ?_⟩
          conv => whnf
          refine ⟨[_], Sub.sel [0] rfl, ?_⟩
          conv => whnf
          refine LoadV.s rfl rfl ?_
          conv => whnf
          refine CallS.mk Try.call17 ⟨[_], [_, _, _, _, _, _, _, _], _, Sub.sel [1, 0, 2, 3, 4, 5, 6, 7, 8] rfl, fun F' hF' => on_ok F' X2.d _ _ _ X2.x.a.on X2.x.a.l, ?_⟩
          rintro e A' ⟨rfl, rfl⟩
          conv => whnf
          refine ⟨Sub.sel [1] rfl, ?_⟩
          conv => whnf
          refine LoadV.s rfl rfl ?_
          conv => whnf
          refine CallS.mk Try.call27 ⟨[_], [_, _, _, _, _, _, _, _], _, Sub.sel [5, 1, 0, 2, 3, 4, 6, 7, 8] rfl, fun F' hF' => r5on_ok F' X2.rd _ _ _ X2.y.p, ?_⟩
          rintro e A' ⟨rfl, rfl⟩
          conv => whnf
          refine ⟨Sub.sel [1] rfl, ?_⟩
          conv => whnf
          refine cond_of_false (by rw [P2.R.pw.1]; exact bne_self_eq_false _) ?_
          conv => whnf
          refine DrawI.mixed [10, 19, 24] [_] (by kernel_rfl) (by kernel_rfl) (by kernel_rfl) (by kernel_rfl) (by kernel_rfl) (Sub.sel [1] rfl) ?_
          conv => whnf
          refine LoadV.s rfl rfl ?_
          conv => whnf
          refine ArI.to64 ((i + 1 : Nat) : Int) (by omega) (by omega) ?_
          conv => whnf
          exact ⟨(i + 1, (k, es1, c1, fi), X2, none), _, by dsimp only; omega, Sub.sel [1, 2, 3, 4, 5, 0, 6, 7, 8] rfl, ⟨by dsimp only; omega, P2, by dsimp only; omega, s2⟩, ⟨rfl, rfl, rfl, rfl, trivial⟩, rfl⟩
        · conv => whnf
          refine ⟨Sub.sel [] rfl, ?_⟩
          conv => whnf
          refine ⟨Sub.sel [] rfl, ?_⟩
          conv => whnf
          refine ⟨Sub.sel [] rfl, ?_⟩
          conv => whnf
          refine ⟨[_], Sub.sel [0] rfl, ?_⟩
          conv => whnf
          refine LoadV.s rfl rfl ?_
          conv => whnf
          refine CallS.mk Try.call17 ⟨[_], [_, _, _, _, _, _, _, _, _, _], _, Sub.sel [3, 0, 1, 2, 4, 5, 6, 7, 8, 9, 10] rfl, fun F' hF' => on_ok F' X2.d _ _ _ X2.x.a.on X2.x.a.l, ?_⟩
          rintro e A' ⟨rfl, rfl⟩
          conv => whnf
          refine ⟨Sub.sel [1] rfl, ?_⟩
          conv => whnf
          refine LoadV.s rfl rfl ?_
          conv => whnf
          refine CallS.mk Try.call27 ⟨[_], [_, _, _, _, _, _, _, _, _, _], _, Sub.sel [7, 1, 0, 2, 3, 4, 5, 6, 8, 9, 10] rfl, fun F' hF' => r5on_ok F' X2.rd _ _ _ X2.y.p, ?_⟩
          rintro e A' ⟨rfl, rfl⟩
          conv => whnf
          refine ⟨Sub.sel [1] rfl, ?_⟩
          conv => whnf
          refine cond_of_false (by rw [P2.R.pw.1]; exact bne_self_eq_false _) ?_
          conv => whnf
          refine DrawI.mixed [10, 19, 24] [_, _] (by kernel_rfl) (by kernel_rfl) (by kernel_rfl) (by kernel_rfl) (by kernel_rfl) (Sub.sel [1, 4] rfl) ?_
          conv => whnf
          refine LoadV.s rfl rfl ?_
          conv => whnf
          refine LoadV.s rfl rfl ?_
          conv => whnf
          refine CallS.mk Try.call19 ⟨[_], [_, _, _, _, _, _, _, _, _, _], _, Sub.sel [3, 1, 4, 0, 2, 5, 6, 7, 8, 9, 10] rfl, fun F' hF' => count_ok F' j3 X2.d J3, ?_⟩
          rintro e A' ⟨rfl, rfl⟩
          conv => whnf
          refine ⟨Sub.sel [1, 2] rfl, ?_⟩
          conv => whnf
          refine LoadV.s rfl rfl ?_
          conv => whnf
          refine LoadV.s rfl rfl ?_
          conv => whnf
          refine ⟨Sub.sel [1, 2] rfl, ?_⟩
          conv => whnf
          rw [show ((J3.n : Int) != (J3.n : Int)) = false from bne_self_eq_false _]
          conv => whnf
          refine LoadV.s rfl rfl ?_
          conv => whnf
          refine CallS.mk Try.call18 ⟨[_], [_, _, _, _, _, _, _, _, _, _], _, Sub.sel [0, 1, 2, 3, 4, 5, 6, 7, 8, 9, 10] rfl, fun F' hF' => end_ok F' j3 X2.d J3, ?_⟩
          rintro e A' ⟨rfl, rfl⟩
          conv => whnf
          refine ⟨Sub.sel [1, 2] rfl, ?_⟩
          conv => whnf
          refine LoadV.s rfl rfl ?_
          conv => whnf
          refine LoadV.s rfl rfl ?_
          conv => whnf
          rw [show ((J3.e : Int) != (J3.e : Int)) = false from bne_self_eq_false _]
          conv => whnf
          refine ArI.to64 ((i + 1 : Nat) : Int) (by omega) (by omega) ?_
          conv => whnf
          exact ⟨(i + 1, (k, es1, c1, fi), X2, some (j3, j4, J3)), _, by dsimp only; omega, Sub.sel [1, 0, 2, 4, 5, 6, 7, 3, 8, 9, 10] rfl, ⟨by dsimp only; omega, P2, by dsimp only; omega, s2⟩, ⟨rfl, rfl, rfl, rfl, trivial⟩, rfl⟩
      · skip
        refine Line.drawLine 4 [2, 4, 9, 14] _ _ (by kernel_rfl) (by kernel_rfl) rfl rfl rfl (by kernel_rfl) (by kernel_rfl) (by kernel_rfl) (by kernel_rfl) (by kernel_rfl) (by kernel_rfl) (by kernel_rfl) (by kernel_rfl) (by kernel_rfl) (by kernel_rfl) (by kernel_rfl) ?_
        conv => whnf
        refine LoadV.a 3 rfl (Nat.le_of_ble_eq_true rfl) ?_
        conv => whnf
        refine ⟨Sub.sel [] rfl, ?_⟩
        conv => whnf
        refine CallS.mk Try.call26 ⟨[_, _, _, _, _, _, _, _, _, _, _], [], _, Sub.sel [1, 2, 3, 4, 5, 6, 7, 8, 9, 10, 11] rfl, fun F' hF' => pstep_ok F' k es1 c1 fi X (some (j, j2, J)) P hjs kd at_ s hr1.1 hr1.2 (2048 * (i + 2)) (by omega) (room7 hil hn), ?_⟩
        rintro e A' ⟨rfl, X2, jo2, P2, l2, s2, rfl⟩
        rcases jo2 with _ | ⟨j3, j4, J3⟩
        · conv => whnf
          refine ⟨Sub.sel [] rfl, ?_⟩
          conv => whnf
          refine ⟨Sub.sel [] rfl, ?_⟩
          conv => whnf
          refine ⟨Sub.sel [] rfl, ?_⟩
          conv => whnf
          refine ⟨[_], Sub.sel [0] rfl, ?_⟩
          conv => whnf
          refine LoadV.s rfl rfl ?_
          conv => whnf
          refine CallS.mk Try.call17 ⟨[_], [_, _, _, _, _, _, _, _], _, Sub.sel [1, 0, 2, 3, 4, 5, 6, 7, 8] rfl, fun F' hF' => on_ok F' X2.d _ _ _ X2.x.a.on X2.x.a.l, ?_⟩
          rintro e A' ⟨rfl, rfl⟩
          conv => whnf
          refine ⟨Sub.sel [1] rfl, ?_⟩
          conv => whnf
          refine LoadV.s rfl rfl ?_
          conv => whnf
          refine CallS.mk Try.call27 ⟨[_], [_, _, _, _, _, _, _, _], _, Sub.sel [5, 1, 0, 2, 3, 4, 6, 7, 8] rfl, fun F' hF' => r5on_ok F' X2.rd _ _ _ X2.y.p, ?_⟩
          rintro e A' ⟨rfl, rfl⟩
          conv => whnf
          refine ⟨Sub.sel [1] rfl, ?_⟩
          conv => whnf
          refine cond_of_false (by rw [P2.R.pw.1]; exact bne_self_eq_false _) ?_
          conv => whnf
          refine DrawI.mixed [10, 19, 24] [_] (by kernel_rfl) (by kernel_rfl) (by kernel_rfl) (by kernel_rfl) (by kernel_rfl) (Sub.sel [1] rfl) ?_
          conv => whnf
          refine LoadV.s rfl rfl ?_
          conv => whnf
          refine ArI.to64 ((i + 1 : Nat) : Int) (by omega) (by omega) ?_
          conv => whnf
          exact ⟨(i + 1, (k, es1, c1, fi), X2, none), _, by dsimp only; omega, Sub.sel [1, 2, 3, 4, 5, 0, 6, 7, 8] rfl, ⟨by dsimp only; omega, P2, by dsimp only; omega, s2⟩, ⟨rfl, rfl, rfl, rfl, trivial⟩, rfl⟩
        · conv => whnf
          refine ⟨Sub.sel [] rfl, ?_⟩
          conv => whnf
          refine ⟨Sub.sel [] rfl, ?_⟩
          conv => whnf
          refine ⟨Sub.sel [] rfl, ?_⟩
          conv => whnf
          refine ⟨[_], Sub.sel [0] rfl, ?_⟩
          conv => whnf
          refine LoadV.s rfl rfl ?_
          conv => whnf
          refine CallS.mk Try.call17 ⟨[_], [_, _, _, _, _, _, _, _, _, _], _, Sub.sel [3, 0, 1, 2, 4, 5, 6, 7, 8, 9, 10] rfl, fun F' hF' => on_ok F' X2.d _ _ _ X2.x.a.on X2.x.a.l, ?_⟩
          rintro e A' ⟨rfl, rfl⟩
          conv => whnf
          refine ⟨Sub.sel [1] rfl, ?_⟩
          conv => whnf
          refine LoadV.s rfl rfl ?_
          conv => whnf
          refine CallS.mk Try.call27 ⟨[_], [_, _, _, _, _, _, _, _, _, _], _, Sub.sel [7, 1, 0, 2, 3, 4, 5, 6, 8, 9, 10] rfl, fun F' hF' => r5on_ok F' X2.rd _ _ _ X2.y.p, ?_⟩
          rintro e A' ⟨rfl, rfl⟩
          conv => whnf
          refine ⟨Sub.sel [1] rfl, ?_⟩
          conv => whnf
          refine cond_of_false (by rw [P2.R.pw.1]; exact bne_self_eq_false _) ?_
          conv => whnf
          refine DrawI.mixed [10, 19, 24] [_, _] (by kernel_rfl) (by kernel_rfl) (by kernel_rfl) (by kernel_rfl) (by kernel_rfl) (Sub.sel [1, 4] rfl) ?_
          conv => whnf
          refine LoadV.s rfl rfl ?_
          conv => whnf
          refine LoadV.s rfl rfl ?_
          conv => whnf
          refine CallS.mk Try.call19 ⟨[_], [_, _, _, _, _, _, _, _, _, _], _, Sub.sel [3, 1, 4, 0, 2, 5, 6, 7, 8, 9, 10] rfl, fun F' hF' => count_ok F' j3 X2.d J3, ?_⟩
          rintro e A' ⟨rfl, rfl⟩
          conv => whnf
          refine ⟨Sub.sel [1, 2] rfl, ?_⟩
          conv => whnf
          refine LoadV.s rfl rfl ?_
          conv => whnf
          refine LoadV.s rfl rfl ?_
          conv => whnf
          refine ⟨Sub.sel [1, 2] rfl, ?_⟩
          conv => whnf
          rw [show ((J3.n : Int) != (J3.n : Int)) = false from bne_self_eq_false _]
          conv => whnf
          refine LoadV.s rfl rfl ?_
          conv => whnf
          refine CallS.mk Try.call18 ⟨[_], [_, _, _, _, _, _, _, _, _, _], _, Sub.sel [0, 1, 2, 3, 4, 5, 6, 7, 8, 9, 10] rfl, fun F' hF' => end_ok F' j3 X2.d J3, ?_⟩
          rintro e A' ⟨rfl, rfl⟩
          conv => whnf
          refine ⟨Sub.sel [1, 2] rfl, ?_⟩
          conv => whnf
          refine LoadV.s rfl rfl ?_
          conv => whnf
          refine LoadV.s rfl rfl ?_
          conv => whnf
          rw [show ((J3.e : Int) != (J3.e : Int)) = false from bne_self_eq_false _]
          conv => whnf
          refine ArI.to64 ((i + 1 : Nat) : Int) (by omega) (by omega) ?_
          conv => whnf
          exact ⟨(i + 1, (k, es1, c1, fi), X2, some (j3, j4, J3)), _, by dsimp only; omega, Sub.sel [1, 0, 2, 4, 5, 6, 7, 3, 8, 9, 10] rfl, ⟨by dsimp only; omega, P2, by dsimp only; omega, s2⟩, ⟨rfl, rfl, rfl, rfl, trivial⟩, rfl⟩
    · rcases jo with _ | ⟨j, j2, J⟩
      · conv => whnf
        refine DrawI.mixed [4, 12, 13, 18, 23, 24] [_, _] (by kernel_rfl) (by kernel_rfl) (by kernel_rfl) (by kernel_rfl) (by kernel_rfl) (Sub.sel [0, 5] rfl) ?_
        conv => whnf
        refine LoadV.s rfl rfl ?_
        conv => whnf
        refine CallS.mk Try.call14 ⟨[_, _, _, _], [_, _, _, _, _], _, Sub.sel [1, 2, 3, 4, 0, 5, 6, 7, 8] rfl, fun F' hF' => writes_cp F' X.d X.r X.rb _ _ X.x.g X.x.a.lg X.x.a.on X.x.a.l P.J.hg (by omega), ?_⟩
        rintro e A' ⟨gw, lk, hlk, hgw, rfl, rfl⟩
        conv => whnf
        refine ⟨Sub.sel [5, 6] rfl, ?_⟩
        conv => whnf
        refine LoadV.s rfl rfl ?_
        conv => whnf
        refine LoadV.s rfl rfl (forceV_of ?_)
        conv => whnf
        have hlw : lk.length ≤ 9223372036854775807 := by rw [hlk]; omega
        refine CallS.mk Try.call28 ⟨[], _, _, Sub.refl _, fun F' hF' => samew_ok F' (oaOf gw) (oaOf X.y.gl) (capOf gw) (capOf X.y.gl) lk X.x.a.lg (SlF.sv hF' (T := 85) (logCells_length _) (fun e => by rw [hgw.1 e]; rfl)) (SlF.sv hF' (T := 85) (logCells_length _) (fun e => by rw [P.R.hgl.1 e]; rfl)) hlw, ?_⟩
        rw [show decide (lk = X.x.a.lg) = true from decide_eq_true hlk]
        rintro e A' ⟨rfl, rfl⟩
        conv => whnf
        refine ⟨Sub.sel [5, 6] rfl, ?_⟩
        conv => whnf
        refine ⟨Sub.sel [5, 6] rfl, ?_⟩
        conv => whnf
        refine LoadV.s rfl rfl ?_
        conv => whnf
        refine CallS.mk Try.call21 ⟨[_, _, _, _], [_, _, _, _, _], _, Sub.sel [1, 2, 3, 4, 5, 6, 7, 8, 9] rfl, fun F' hF' => image_cp F' X.d X.r X.rb _ X.x.es X.x.c _ P.J.M P.J.img.1 _ _ _ _, ?_⟩
        rintro e A' ⟨bi, im2, him, rfl, rfl⟩
        conv => whnf
        refine ⟨Sub.sel [5, 6] rfl, ?_⟩
        conv => whnf
        refine LoadV.s rfl rfl ?_
        conv => whnf
        have htr : trimB X.y.bl = im2 := (trim_image P.J.M P.J.img.1 P.R.B).trans him.symm
        have hrc := fun (F' : Mem) => r5image_ok F' X.rd (svOf X.g0 fi.length) (svOf X.y.gl X.x.a.lg.length) X.rb2 X.y.bl X.y.p P.R.B.1
        have himl : im2.length ≤ 9223372036854775807 := Nat.le_trans (show im2.length ≤ 2048 by rw [him]; exact P.J.img.2.1) (by decide)
        rw [htr] at hrc
        clear him
        refine CallS.mk Try.call29 ⟨[_, _], [_, _, _, _, _, _, _, _], _, Sub.sel [6, 8, 0, 1, 2, 3, 4, 5, 7, 9] rfl, fun F' hF' => hrc F', ?_⟩
        rintro e A' ⟨gi, hgi, rfl, rfl⟩
        obtain ⟨gib, gic, rfl⟩ : ∃ b c, gi = some (b, c) := by
          cases gi with
          | none => exact absurd rfl hgi
          | some p => exact ⟨p.1, p.2, rfl⟩
        conv => whnf
        refine ⟨Sub.sel [8, 1] rfl, ?_⟩
        conv => whnf
        refine CallS.mk Try.call10 ⟨[], _, _, Sub.refl _, fun F' hF' => same_ok F' (some ⟨bi, 0, none⟩) (some ⟨gib, 0, none⟩) im2.length gic im2 im2 (SlF.cells hF' (by simp)) (SlF.sv (g := some (gib, gic)) hF' (T := 9) (by simp) (by simp)) himl, ?_⟩
        rw [show decide (im2 = im2) = true from decide_eq_true rfl]
        rintro e A' ⟨rfl, rfl⟩
        conv => whnf
        refine ⟨Sub.sel [8, 1] rfl, ?_⟩
        conv => whnf
        repeat (first | (refine LoadV.s rfl rfl (forceV_of ?_); conv => whnf) | (refine LoadV.s rfl rfl ?_; conv => whnf) | (refine StoreV.c rfl rfl (Nat.le_of_ble_eq_true rfl) rfl ?_; conv => whnf) | (refine LoadV.a _ rfl (Nat.le_of_ble_eq_true rfl) ?_; conv => whnf) | (refine DrawI.quiet (by kernel_rfl) (by kernel_rfl) ?_; conv => whnf) | (refine ArI.in64 (by omega) ?_; conv => whnf) | (refine ArI.inU8 (by omega) ?_; conv => whnf) | (refine ArI.inU64 (by omega) ?_; conv => whnf) | (refine ArI.inU32 (by omega) ?_; conv => whnf) | (refine RetI.one Try.results6 rfl ?_; conv => whnf) | (refine RetI.two Try.results6 rfl rfl ?_; conv => whnf) | (refine RetI.three Try.results6 rfl rfl rfl ?_; conv => whnf) | (refine RetI.none Try.results6 ?_; conv => whnf) | (refine ⟨by first | decide | omega, ?_⟩; conv => whnf))
        exact ⟨_, Sub.sel [] rfl, rfl, rfl⟩
      · conv => whnf
        refine DrawI.mixed [4, 12, 13, 18, 23, 24] [_, _] (by kernel_rfl) (by kernel_rfl) (by kernel_rfl) (by kernel_rfl) (by kernel_rfl) (Sub.sel [0, 7] rfl) ?_
        conv => whnf
        refine LoadV.s rfl rfl ?_
        conv => whnf
        refine CallS.mk Try.call14 ⟨[_, _, _, _], [_, _, _, _, _], _, Sub.sel [3, 4, 5, 6, 0, 7, 8, 9, 10] rfl, fun F' hF' => writes_cp F' X.d X.r X.rb _ _ X.x.g X.x.a.lg X.x.a.on X.x.a.l P.J.hg (by omega), ?_⟩
        rintro e A' ⟨gw, lk, hlk, hgw, rfl, rfl⟩
        conv => whnf
        refine ⟨Sub.sel [5, 6] rfl, ?_⟩
        conv => whnf
        refine LoadV.s rfl rfl ?_
        conv => whnf
        refine LoadV.s rfl rfl (forceV_of ?_)
        conv => whnf
        have hlw : lk.length ≤ 9223372036854775807 := by rw [hlk]; omega
        refine CallS.mk Try.call28 ⟨[], _, _, Sub.refl _, fun F' hF' => samew_ok F' (oaOf gw) (oaOf X.y.gl) (capOf gw) (capOf X.y.gl) lk X.x.a.lg (SlF.sv hF' (T := 85) (logCells_length _) (fun e => by rw [hgw.1 e]; rfl)) (SlF.sv hF' (T := 85) (logCells_length _) (fun e => by rw [P.R.hgl.1 e]; rfl)) hlw, ?_⟩
        rw [show decide (lk = X.x.a.lg) = true from decide_eq_true hlk]
        rintro e A' ⟨rfl, rfl⟩
        conv => whnf
        refine ⟨Sub.sel [5, 6] rfl, ?_⟩
        conv => whnf
        refine ⟨Sub.sel [5, 6] rfl, ?_⟩
        conv => whnf
        refine LoadV.s rfl rfl ?_
        conv => whnf
        refine CallS.mk Try.call21 ⟨[_, _, _, _], [_, _, _, _, _], _, Sub.sel [1, 2, 3, 4, 5, 6, 7, 8, 9] rfl, fun F' hF' => image_cp F' X.d X.r X.rb _ X.x.es X.x.c _ P.J.M P.J.img.1 _ _ _ _, ?_⟩
        rintro e A' ⟨bi, im2, him, rfl, rfl⟩
        conv => whnf
        refine ⟨Sub.sel [5, 6] rfl, ?_⟩
        conv => whnf
        refine LoadV.s rfl rfl ?_
        conv => whnf
        have htr : trimB X.y.bl = im2 := (trim_image P.J.M P.J.img.1 P.R.B).trans him.symm
        have hrc := fun (F' : Mem) => r5image_ok F' X.rd (svOf X.g0 fi.length) (svOf X.y.gl X.x.a.lg.length) X.rb2 X.y.bl X.y.p P.R.B.1
        have himl : im2.length ≤ 9223372036854775807 := Nat.le_trans (show im2.length ≤ 2048 by rw [him]; exact P.J.img.2.1) (by decide)
        rw [htr] at hrc
        clear him
        refine CallS.mk Try.call29 ⟨[_, _], [_, _, _, _, _, _, _, _], _, Sub.sel [6, 8, 0, 1, 2, 3, 4, 5, 7, 9] rfl, fun F' hF' => hrc F', ?_⟩
        rintro e A' ⟨gi, hgi, rfl, rfl⟩
        obtain ⟨gib, gic, rfl⟩ : ∃ b c, gi = some (b, c) := by
          cases gi with
          | none => exact absurd rfl hgi
          | some p => exact ⟨p.1, p.2, rfl⟩
        conv => whnf
        refine ⟨Sub.sel [8, 1] rfl, ?_⟩
        conv => whnf
        refine CallS.mk Try.call10 ⟨[], _, _, Sub.refl _, fun F' hF' => same_ok F' (some ⟨bi, 0, none⟩) (some ⟨gib, 0, none⟩) im2.length gic im2 im2 (SlF.cells hF' (by simp)) (SlF.sv (g := some (gib, gic)) hF' (T := 9) (by simp) (by simp)) himl, ?_⟩
        rw [show decide (im2 = im2) = true from decide_eq_true rfl]
        rintro e A' ⟨rfl, rfl⟩
        conv => whnf
        refine ⟨Sub.sel [8, 1] rfl, ?_⟩
        conv => whnf
        repeat (first | (refine LoadV.s rfl rfl (forceV_of ?_); conv => whnf) | (refine LoadV.s rfl rfl ?_; conv => whnf) | (refine StoreV.c rfl rfl (Nat.le_of_ble_eq_true rfl) rfl ?_; conv => whnf) | (refine LoadV.a _ rfl (Nat.le_of_ble_eq_true rfl) ?_; conv => whnf) | (refine DrawI.quiet (by kernel_rfl) (by kernel_rfl) ?_; conv => whnf) | (refine ArI.in64 (by omega) ?_; conv => whnf) | (refine ArI.inU8 (by omega) ?_; conv => whnf) | (refine ArI.inU64 (by omega) ?_; conv => whnf) | (refine ArI.inU32 (by omega) ?_; conv => whnf) | (refine RetI.one Try.results6 rfl ?_; conv => whnf) | (refine RetI.two Try.results6 rfl rfl ?_; conv => whnf) | (refine RetI.three Try.results6 rfl rfl rfl ?_; conv => whnf) | (refine RetI.none Try.results6 ?_; conv => whnf) | (refine ⟨by first | decide | omega, ?_⟩; conv => whnf))
        exact ⟨_, Sub.sel [] rfl, rfl, rfl⟩
end Go.Proofs.Ytgodkfaacjllcaa
