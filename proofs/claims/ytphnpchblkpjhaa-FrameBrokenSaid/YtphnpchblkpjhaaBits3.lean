/- The bits: packing and unpacking. -/
import Derived.Test.YtphnpchblkpjhaaBits2
namespace Go.Proofs.Ytphnpchblkpjhaa
set_option linter.unusedVariables false
set_option linter.unusedSimpArgs false
set_option maxRecDepth 100000
open SL Go.RowKit Go.Maps

/-- A field's cells. -/
def fldF (p : Nat × Int) : List Value := [.int .u64 (p.1 : Int), .int .i64 p.2]
theorem fldF_length (p : Nat × Int) : (fldF p).length = 2 := rfl
def allFit (fs : List (Nat × Int)) : Bool := fs.all fun p => fitsB p.1 p.2
def fieldsBits (fs : List (Nat × Int)) : List Bool := fs.flatMap fun p => bitsOf p.2.toNat p.1
theorem fitsB_width {V : Nat} {w : Int} (h : fitsB V w = true) : 1 ≤ w ∧ w ≤ 64 ∧ V < 2 ^ w.toNat := of_decide_eq_true h
theorem fieldsBits_length {fs : List (Nat × Int)} (h : allFit fs = true) : (fieldsBits fs).length ≤ 64 * fs.length := by
  induction fs with
  | nil => simp [fieldsBits]
  | cons p fs ih =>
    simp only [allFit, List.all_cons, Bool.and_eq_true] at h
    have h1 := fitsB_width h.1
    have h2 := ih h.2
    simp only [fieldsBits, List.flatMap_cons, List.length_append, bitsOf_length, List.length_cons] at h2 ⊢
    omega
theorem fieldsBits_snoc (fs : List (Nat × Int)) (p : Nat × Int) : fieldsBits (fs ++ [p]) = fieldsBits fs ++ bitsOf p.2.toNat p.1 := by simp [fieldsBits]
theorem allFit_snoc (fs : List (Nat × Int)) (p : Nat × Int) : allFit (fs ++ [p]) = (allFit fs && fitsB p.1 p.2) := by simp [allFit]
theorem allFit_take {fs : List (Nat × Int)} (h : allFit fs = true) (i : Nat) : allFit (fs.take i) = true := by
  unfold allFit at *
  rw [List.all_eq_true] at *
  exact fun x hx => h x (List.mem_of_mem_take hx)
theorem allFit_false {fs : List (Nat × Int)} {i : Nat} (hi : i < fs.length) (h : fitsB (fs[i]).1 (fs[i]).2 = false) : allFit fs = false := by
  unfold allFit
  rw [List.all_eq_false]
  exact ⟨fs[i], List.getElem_mem hi, by simp [h]⟩
/-- Fields whose values are of 64 bits. -/
def U64s (fs : List (Nat × Int)) : Prop := ∀ p ∈ fs, p.1 < 18446744073709551616
def packR (fs : List (Nat × Int)) : ByteArray × Int := if allFit fs = true then (strB (packB (fieldsBits fs)), 0) else (⟨#[]⟩, 6)
theorem bPack_ok (F : Mem) (oa : Option Addr) (ca : Nat) (fs : List (Nat × Int)) (hw : SlF F 2 oa fs.length (fs.flatMap fldF)) (hu : U64s fs) (hn : fs.length ≤ 549755813887) :
    FT Try.prog 27 [.slice oa fs.length ca].toArray F [] (Ret (.tuple #[.string (packR fs).1, .int .i64 (packR fs).2])) := by
  refine FT.of_body Try.func27 rfl Try.ntmps27 (by simp) fun C hC => ?_
  subst hC
  conv => whnf
  refine CallS.mk Try.call35 ⟨[], _, _, Sub.refl _, fun F' hF' => bNew_ok F', ?_⟩
  rintro e A' ⟨w, rfl, rfl⟩
  conv => whnf
  refine LoopI.by_state (σ := Nat × Option (Nat × Nat)) (fun x => [(4, .pointer (some ⟨w, 0, none⟩)), (9, .slice oa fs.length ca), (10, .int .i64 (fs.length : Int)), (11, .int .i64 (x.1 : Int))]) (fun x => wrH w ((fieldsBits (fs.take x.1)).length : Nat) x.2 (packB (fieldsBits (fs.take x.1))))
    (fun x => x.1 ≤ fs.length ∧ allFit (fs.take x.1) = true ∧ (x.2 = none ↔ fieldsBits (fs.take x.1) = [])) (fun x => fs.length - x.1) (0, none) ⟨by omega, rfl, by simp [fieldsBits]⟩ ⟨rfl, rfl, rfl, rfl, trivial⟩ (by simp only [List.take_zero]; exact Sub.refl _) ?_
  rintro ⟨i, g⟩ f0 ⟨hi, hfit, hg⟩
  dsimp only at hi hfit hg ⊢
  conv => whnf
  refine cond_dec (fun h => ?_) (fun h => ?_)
  · have hil : i < fs.length := by omega
    obtain ⟨xa, ya, rfl, hra⟩ := hw.at (i := i) hil
    conv => whnf
    refine ⟨by omega, ?_⟩
    conv => whnf
    refine LoadV.fa (cs := fldF fs[i]) (flat_row fldF_length hra hil rfl) rfl ?_
    have hp64 := hu _ (List.getElem_mem hil)
    have hbad := allFit_false hil
    have htk := take_snoc hil
    have hbl := fieldsBits_length hfit
    rw [List.length_take] at hbl
    obtain ⟨p, hp⟩ : ∃ p, fs[i] = p := ⟨_, rfl⟩
    rw [hp] at hp64 hbad htk ⊢
    conv => whnf
    intro b
    conv => whnf
    repeat (first | (refine LoadV.s rfl rfl (forceV_of ?_); conv => whnf) | (refine LoadV.s rfl rfl ?_; conv => whnf) | (refine StoreV.c rfl rfl (Nat.le_of_ble_eq_true rfl) rfl ?_; conv => whnf) | (refine LoadV.a _ rfl (Nat.le_of_ble_eq_true rfl) ?_; conv => whnf) | (refine DrawI.quiet (by kernel_rfl) (by kernel_rfl) ?_; conv => whnf) | (refine ArI.in64 (by omega) ?_; conv => whnf) | (refine ArI.inU8 (by omega) ?_; conv => whnf) | (refine ArI.inU64 (by omega) ?_; conv => whnf) | (refine ArI.inU32 (by omega) ?_; conv => whnf) | (refine RetI.one Try.results27 rfl ?_; conv => whnf) | (refine RetI.two Try.results27 rfl rfl ?_; conv => whnf) | (refine RetI.three Try.results27 rfl rfl rfl ?_; conv => whnf) | (refine RetI.none Try.results27 ?_; conv => whnf) | (refine ⟨by first | decide | omega, ?_⟩; conv => whnf))
    refine CallS.mk Try.call36 ⟨[_, _], _, _, Sub.split [1, 2] rfl, fun F' hF' => bPut_ok F' w (fieldsBits (fs.take i)) g hg p.1 p.2 hp64 (by omega), ?_⟩
    rintro e A' (⟨hf, rfl, rfl⟩ | ⟨hf, rfl, g', hg', rfl⟩)
    · conv => whnf
      repeat (first | (refine LoadV.s rfl rfl (forceV_of ?_); conv => whnf) | (refine LoadV.s rfl rfl ?_; conv => whnf) | (refine StoreV.c rfl rfl (Nat.le_of_ble_eq_true rfl) rfl ?_; conv => whnf) | (refine LoadV.a _ rfl (Nat.le_of_ble_eq_true rfl) ?_; conv => whnf) | (refine DrawI.quiet (by kernel_rfl) (by kernel_rfl) ?_; conv => whnf) | (refine ArI.in64 (by omega) ?_; conv => whnf) | (refine ArI.inU8 (by omega) ?_; conv => whnf) | (refine ArI.inU64 (by omega) ?_; conv => whnf) | (refine ArI.inU32 (by omega) ?_; conv => whnf) | (refine RetI.one Try.results27 rfl ?_; conv => whnf) | (refine RetI.two Try.results27 rfl rfl ?_; conv => whnf) | (refine RetI.three Try.results27 rfl rfl rfl ?_; conv => whnf) | (refine RetI.none Try.results27 ?_; conv => whnf) | (refine ⟨by first | decide | omega, ?_⟩; conv => whnf))
      exact ⟨_, Sub.sel [] rfl, by unfold packR; rw [if_neg (by rw [hbad hf]; simp)], rfl⟩
    · conv => whnf
      refine ArI.to64 ((i + 1 : Nat) : Int) (by omega) (by omega) ?_
      conv => whnf
      have hbits : fieldsBits (fs.take (i + 1)) = fieldsBits (fs.take i) ++ bitsOf p.2.toNat p.1 := by rw [htk, fieldsBits_snoc]
      refine ⟨(i + 1, g'), _, by dsimp only; omega, Sub.sel [0, 1] rfl, ⟨by dsimp only; omega, by dsimp only; rw [htk, allFit_snoc, hfit, hf]; rfl, by dsimp only; rw [hbits]; exact hg'⟩, ⟨rfl, rfl, rfl, rfl, trivial⟩, ?_⟩
      dsimp only
      rw [hbits]
  · have hie : i = fs.length := by omega
    subst hie
    rw [List.take_length] at hfit hg ⊢
    conv => whnf
    refine CallS.mk Try.call37 ⟨[_, _], _, _, Sub.split [0, 1] rfl, fun F' hF' => bBytes_ok F' w _ g _ (fun e => by rw [hg.1 e]; rfl), ?_⟩
    rintro e A' ⟨rfl, rfl⟩
    conv => whnf
    repeat (first | (refine LoadV.s rfl rfl (forceV_of ?_); conv => whnf) | (refine LoadV.s rfl rfl ?_; conv => whnf) | (refine StoreV.c rfl rfl (Nat.le_of_ble_eq_true rfl) rfl ?_; conv => whnf) | (refine LoadV.a _ rfl (Nat.le_of_ble_eq_true rfl) ?_; conv => whnf) | (refine DrawI.quiet (by kernel_rfl) (by kernel_rfl) ?_; conv => whnf) | (refine ArI.in64 (by omega) ?_; conv => whnf) | (refine ArI.inU8 (by omega) ?_; conv => whnf) | (refine ArI.inU64 (by omega) ?_; conv => whnf) | (refine ArI.inU32 (by omega) ?_; conv => whnf) | (refine RetI.one Try.results27 rfl ?_; conv => whnf) | (refine RetI.two Try.results27 rfl rfl ?_; conv => whnf) | (refine RetI.three Try.results27 rfl rfl rfl ?_; conv => whnf) | (refine RetI.none Try.results27 ?_; conv => whnf) | (refine ⟨by first | decide | omega, ?_⟩; conv => whnf))
    exact ⟨_, Sub.sel [] rfl, by unfold packR; rw [if_pos hfit], rfl⟩
/-- Taking by taking: the numbers, and where the reader stands behind. -/
def takeOk (T : List Bool) (n : Nat) (w : Int) : Prop := 1 ≤ w ∧ w ≤ 64 ∧ w.toNat ≤ T.length - n
instance (T : List Bool) (n : Nat) (w : Int) : Decidable (takeOk T n w) := by unfold takeOk; infer_instance
def takeAll (T : List Bool) : Nat → List Int → Option (List Nat × Nat)
  | n, [] => some ([], n)
  | n, w :: ws => if takeOk T n w then (takeAll T (n + w.toNat) ws).map fun p => (num ((T.drop n).take w.toNat) :: p.1, p.2) else none
theorem takeAll_append (T : List Bool) (v : List Int) : ∀ (ws : List Int) (n : Nat), takeAll T n (ws ++ v) = (takeAll T n ws).bind fun p => (takeAll T p.2 v).map fun q => (p.1 ++ q.1, q.2)
  | [], n => by
    simp only [List.nil_append, takeAll, Option.bind_some]
    cases takeAll T n v <;> rfl
  | w :: ws, n => by
    simp only [List.cons_append, takeAll]
    split
    · rw [takeAll_append T v ws (n + w.toNat)]
      cases takeAll T (n + w.toNat) ws with
      | none => rfl
      | some p =>
        simp only [Option.bind_some, Option.map_some]
        cases takeAll T p.2 v <;> simp
    · rfl
theorem takeAll_le {T : List Bool} : ∀ {ws : List Int} {n : Nat} {l : List Nat} {m : Nat}, n ≤ T.length → takeAll T n ws = some (l, m) → m ≤ T.length ∧ l.length = ws.length ∧ n + ws.length ≤ m
  | [], n, l, m, hn, h => by simp only [takeAll, Option.some.injEq, Prod.mk.injEq] at h; obtain ⟨rfl, rfl⟩ := h; exact ⟨hn, rfl, by simp⟩
  | w :: ws, n, l, m, hn, h => by
    simp only [takeAll] at h
    split at h
    · rename_i hok
      obtain ⟨p, hp, he⟩ := Option.map_eq_some_iff.1 h
      simp only [Prod.mk.injEq] at he
      obtain ⟨rfl, rfl⟩ := he
      unfold takeOk at hok
      have ⟨h1, h2, h3⟩ := takeAll_le (by omega) (show takeAll T (n + w.toNat) ws = some (p.1, p.2) from hp)
      exact ⟨h1, by simp [h2], by simp only [List.length_cons]; omega⟩
    · cases h
def unpackB (T : List Bool) (ws : List Int) : Option (List Nat) := match takeAll T 0 ws with
  | some (l, n) => if doneB T n = true then some l else none
  | none => none
theorem takeB_ok {T : List Bool} {n : Nat} {w : Int} (h : takeOk T n w) : takeB T n w = (num ((T.drop n).take w.toNat), 0, n + w.toNat) := by unfold takeB; exact if_pos h
theorem takeB_no {T : List Bool} {n : Nat} {w : Int} (h : ¬ takeOk T n w) : takeB T n w = (0, 6, n) := by unfold takeB; exact if_neg h
abbrev u64V (l : List Nat) : List Value := l.map fun (x : Nat) => Value.int .u64 (x : Int)
/-- What unpacking answers. -/
def unpackR (o : Option (List Nat)) : List Nat × Int := match o with | some l => (l, 0) | none => ([], 6)
theorem unpackR_le {T : List Bool} {ws : List Int} : (unpackR (unpackB T ws)).1.length ≤ ws.length := by
  unfold unpackB
  cases h : takeAll T 0 ws with
  | none => simp [unpackR]
  | some p =>
    obtain ⟨_, h2, _⟩ := takeAll_le (Nat.zero_le _) (show takeAll T 0 ws = some (p.1, p.2) from h)
    dsimp only
    split
    · simp [unpackR, h2]
    · simp [unpackR]
theorem bUnpack_ok (F : Mem) (oa : Option Addr) (ca : Nat) (s : ByteArray) (ws : List Int) (hw : SlF F 1 oa ws.length (intsV ws)) (hs : s.size ≤ 140737488355328) (hn : ws.length ≤ 1099511627776) :
    FT Try.prog 33 [.string s, .slice oa ws.length ca].toArray F []
    (fun e H => ∃ g, (g = none ↔ (unpackR (unpackB (textBits (txt s)) ws)).1 = []) ∧ e = .returned (.tuple #[svOf g (unpackR (unpackB (textBits (txt s)) ws)).1.length, .int .i64 (unpackR (unpackB (textBits (txt s)) ws)).2]) ∧
      H = [.own (svOf g (unpackR (unpackB (textBits (txt s)) ws)).1.length) (unpackR (unpackB (textBits (txt s)) ws)).1.length 60 1 (u64V (unpackR (unpackB (textBits (txt s)) ws)).1)]) := by
  refine FT.of_body Try.func33 rfl Try.ntmps33 (by simp) fun C hC => ?_
  subst hC
  conv => whnf
  have hT : (textBits (txt s)).length = 8 * s.size := by rw [textBits_length, txt_length]
  refine CallS.mk Try.call44 ⟨[], _, _, Sub.refl _, fun F' hF' => bRead_ok F' s, ?_⟩
  rintro e A' ⟨r, rfl, rfl⟩
  conv => whnf
  refine LoopI.by_state (σ := Nat × Nat × List Nat × Option (Nat × Nat)) (fun x => [(6, .pointer (some ⟨r, 0, none⟩)), (7, svOf x.2.2.2 x.2.2.1.length), (14, .slice oa ws.length ca), (15, .int .i64 (ws.length : Int)), (16, .int .i64 (x.1 : Int))])
    (fun x => [.cells r [.int .i64 (x.2.1 : Int), .string s] 99 (0, 0), .own (svOf x.2.2.2 x.2.2.1.length) x.2.2.1.length 60 1 (u64V x.2.2.1)])
    (fun x => x.1 ≤ ws.length ∧ takeAll (textBits (txt s)) 0 (ws.take x.1) = some (x.2.2.1, x.2.1) ∧ (x.2.2.2 = none ↔ x.2.2.1 = [])) (fun x => ws.length - x.1) (0, 0, [], none) ⟨by omega, rfl, by simp⟩ ⟨rfl, rfl, rfl, rfl, rfl, trivial⟩ (Sub.trans (Sub.nil 60 1) (Sub.sel [1, 0] rfl)) ?_
  rintro ⟨i, n, l, g⟩ f0 ⟨hi, hta, hg⟩
  dsimp only at hi hta hg ⊢
  obtain ⟨hn8, hll, -⟩ := takeAll_le (Nat.zero_le _) hta
  rw [List.length_take] at hll
  conv => whnf
  refine cond_dec (fun h => ?_) (fun h => ?_)
  · have hil : i < ws.length := by omega
    obtain ⟨xa, ya, rfl, hra⟩ := hw.at (i := i) hil
    conv => whnf
    refine ⟨by omega, ?_⟩
    conv => whnf
    refine LoadV.f (hra i (.int .i64 ws[i]) (by simp [intsV])) rfl ?_
    have htk := take_snoc hil
    obtain ⟨p, hp⟩ : ∃ p, ws[i] = p := ⟨_, rfl⟩
    rw [hp] at htk ⊢
    have hsplit : ws = ws.take i ++ (p :: ws.drop (i + 1)) := by
      rw [← hp, List.getElem_cons_drop, List.take_append_drop]
    conv => whnf
    refine CallS.mk Try.call45 ⟨[_], _, _, Sub.split [0] rfl, fun F' hF' => bTake_ok F' r n s p hs (by omega), ?_⟩
    rintro e A' ⟨rfl, rfl⟩
    by_cases hok : takeOk (textBits (txt s)) n p
    · rw [takeB_ok hok]
      conv => whnf
      intro b
      conv => whnf
      refine BuiltV.append (sv := svOf g l.length) (m := 1) Try.underlying68 rfl rfl rfl rfl (by decide) (Row.cells 1) rfl (by decide) rfl (by show (l.length + 1) * 8 ≤ _; omega) (by omega) fun gb gc => ?_
      conv => whnf
      refine ArI.to64 ((i + 1 : Nat) : Int) (by omega) (by omega) ?_
      conv => whnf
      refine ⟨(i + 1, n + p.toNat, l ++ [num (((textBits (txt s)).drop n).take p.toNat)], some (gb, gc)), _, by dsimp only; omega, Sub.sel [1, 2] rfl, ⟨by dsimp only; omega, ?_, by simp⟩, ⟨rfl, ?_, rfl, rfl, rfl, trivial⟩, ?_⟩
      · dsimp only
        rw [htk, takeAll_append, hta]
        simp only [Option.bind_some, takeAll, if_pos hok, Option.map_some]
      · dsimp only
        rw [List.length_append]; rfl
      · dsimp only
        rw [own_snoc]; rfl
    · rw [takeB_no hok]
      conv => whnf
      repeat (first | (refine LoadV.s rfl rfl (forceV_of ?_); conv => whnf) | (refine LoadV.s rfl rfl ?_; conv => whnf) | (refine StoreV.c rfl rfl (Nat.le_of_ble_eq_true rfl) rfl ?_; conv => whnf) | (refine LoadV.a _ rfl (Nat.le_of_ble_eq_true rfl) ?_; conv => whnf) | (refine DrawI.quiet (by kernel_rfl) (by kernel_rfl) ?_; conv => whnf) | (refine ArI.in64 (by omega) ?_; conv => whnf) | (refine ArI.inU8 (by omega) ?_; conv => whnf) | (refine ArI.inU64 (by omega) ?_; conv => whnf) | (refine ArI.inU32 (by omega) ?_; conv => whnf) | (refine RetI.one Try.results33 rfl ?_; conv => whnf) | (refine RetI.two Try.results33 rfl rfl ?_; conv => whnf) | (refine RetI.three Try.results33 rfl rfl rfl ?_; conv => whnf) | (refine RetI.none Try.results33 ?_; conv => whnf) | (refine ⟨by first | decide | omega, ?_⟩; conv => whnf))
      have hnone : unpackB (textBits (txt s)) ws = none := by
        unfold unpackB
        rw [hsplit, takeAll_append, hta]
        simp only [Option.bind_some, takeAll, if_neg hok, Option.map_none]
      rw [hnone]
      exact ⟨_, Sub.trans (Sub.nil 60 1) (Sub.sel [0] rfl), none, by simp [unpackR], rfl, rfl⟩
  · have hie : i = ws.length := by omega
    subst hie
    rw [List.take_length] at hta
    conv => whnf
    refine CallS.mk Try.call46 ⟨[_], _, _, Sub.split [0] rfl, fun F' hF' => bDone_ok F' r n s hs (by omega), ?_⟩
    rintro e A' ⟨rfl, rfl⟩
    cases hd : doneB (textBits (txt s)) n with
    | true =>
      conv => whnf
      have hsome : unpackB (textBits (txt s)) ws = some l := by unfold unpackB; rw [hta]; simp only [hd, if_true]
      rw [hsome]
      refine RetI.two Try.results33 rfl rfl ?_
      conv => whnf
      exact ⟨_, Sub.sel [1] rfl, g, hg, rfl, rfl⟩
    | false =>
      conv => whnf
      repeat (first | (refine LoadV.s rfl rfl (forceV_of ?_); conv => whnf) | (refine LoadV.s rfl rfl ?_; conv => whnf) | (refine StoreV.c rfl rfl (Nat.le_of_ble_eq_true rfl) rfl ?_; conv => whnf) | (refine LoadV.a _ rfl (Nat.le_of_ble_eq_true rfl) ?_; conv => whnf) | (refine DrawI.quiet (by kernel_rfl) (by kernel_rfl) ?_; conv => whnf) | (refine ArI.in64 (by omega) ?_; conv => whnf) | (refine ArI.inU8 (by omega) ?_; conv => whnf) | (refine ArI.inU64 (by omega) ?_; conv => whnf) | (refine ArI.inU32 (by omega) ?_; conv => whnf) | (refine RetI.one Try.results33 rfl ?_; conv => whnf) | (refine RetI.two Try.results33 rfl rfl ?_; conv => whnf) | (refine RetI.three Try.results33 rfl rfl rfl ?_; conv => whnf) | (refine RetI.none Try.results33 ?_; conv => whnf) | (refine ⟨by first | decide | omega, ?_⟩; conv => whnf))
      have hnone : unpackB (textBits (txt s)) ws = none := by unfold unpackB; rw [hta]; simp only [hd]; rfl
      rw [hnone]
      exact ⟨_, Sub.trans (Sub.nil 60 1) (Sub.sel [0] rfl), none, by simp [unpackR], rfl, rfl⟩
end Go.Proofs.Ytphnpchblkpjhaa
