/- The bits: packing and unpacking. -/
import Derived.Test.YtlbdnkkaacccoaaBits2
namespace Go.Proofs.Ytlbdnkkaacccoaa
set_option linter.unusedVariables false
set_option linter.unusedSimpArgs false
set_option maxRecDepth 100000
open SL Go.RowKit Go.Maps

/-- A field's cells. -/
def fldF (p : Nat × Int) : List Value := [.int .u64 (p.1 : Int), .int .i64 p.2]
theorem fldF_length (p : Nat × Int) : (fldF p).length = 2 := rfl
def allFit (fs : List (Nat × Int)) : Bool := fs.all fun p => fitsB p.1 p.2
def fieldsBits (fs : List (Nat × Int)) : List Bool := fs.flatMap fun p => bitsOf p.2.toNat p.1
theorem fitsB_width {V : Nat} {w : Int} (h : fitsB V w = true) : 1 ≤ w ∧ w ≤ 64 ∧ V < 2 ^ w.toNat := of_decide_eq_true h
theorem fieldsBits_length {fs : List (Nat × Int)} (h : allFit fs = true) : (fieldsBits fs).length ≤ 64 * fs.length := by
  induction fs with
  | nil => simp [fieldsBits]
  | cons p fs ih =>
    simp only [allFit, List.all_cons, Bool.and_eq_true] at h
    have h1 := fitsB_width h.1
    have h2 := ih h.2
    simp only [fieldsBits, List.flatMap_cons, List.length_append, bitsOf_length, List.length_cons] at h2 ⊢
    omega
theorem fieldsBits_snoc (fs : List (Nat × Int)) (p : Nat × Int) : fieldsBits (fs ++ [p]) = fieldsBits fs ++ bitsOf p.2.toNat p.1 := by simp [fieldsBits]
theorem allFit_snoc (fs : List (Nat × Int)) (p : Nat × Int) : allFit (fs ++ [p]) = (allFit fs && fitsB p.1 p.2) := by simp [allFit]
theorem allFit_take {fs : List (Nat × Int)} (h : allFit fs = true) (i : Nat) : allFit (fs.take i) = true := by
  unfold allFit at *
  rw [List.all_eq_true] at *
  exact fun x hx => h x (List.mem_of_mem_take hx)
theorem allFit_false {fs : List (Nat × Int)} {i : Nat} (hi : i < fs.length) (h : fitsB (fs[i]).1 (fs[i]).2 = false) : allFit fs = false := by
  unfold allFit
  rw [List.all_eq_false]
  exact ⟨fs[i], List.getElem_mem hi, by simp [h]⟩
/-- Fields whose values are of 64 bits. -/
def U64s (fs : List (Nat × Int)) : Prop := ∀ p ∈ fs, p.1 < 18446744073709551616
def packR (fs : List (Nat × Int)) : ByteArray × Int := if allFit fs = true then (strB (packB (fieldsBits fs)), 0) else (⟨#[]⟩, 6)
/-- Taking by taking: the numbers, and where the reader stands behind. -/
def takeOk (T : List Bool) (n : Nat) (w : Int) : Prop := 1 ≤ w ∧ w ≤ 64 ∧ w.toNat ≤ T.length - n
instance (T : List Bool) (n : Nat) (w : Int) : Decidable (takeOk T n w) := by unfold takeOk; infer_instance
def takeAll (T : List Bool) : Nat → List Int → Option (List Nat × Nat)
  | n, [] => some ([], n)
  | n, w :: ws => if takeOk T n w then (takeAll T (n + w.toNat) ws).map fun p => (num ((T.drop n).take w.toNat) :: p.1, p.2) else none
theorem takeAll_append (T : List Bool) (v : List Int) : ∀ (ws : List Int) (n : Nat), takeAll T n (ws ++ v) = (takeAll T n ws).bind fun p => (takeAll T p.2 v).map fun q => (p.1 ++ q.1, q.2)
  | [], n => by
    simp only [List.nil_append, takeAll, Option.bind_some]
    cases takeAll T n v <;> rfl
  | w :: ws, n => by
    simp only [List.cons_append, takeAll]
    split
    · rw [takeAll_append T v ws (n + w.toNat)]
      cases takeAll T (n + w.toNat) ws with
      | none => rfl
      | some p =>
        simp only [Option.bind_some, Option.map_some]
        cases takeAll T p.2 v <;> simp
    · rfl
theorem takeAll_le {T : List Bool} : ∀ {ws : List Int} {n : Nat} {l : List Nat} {m : Nat}, n ≤ T.length → takeAll T n ws = some (l, m) → m ≤ T.length ∧ l.length = ws.length ∧ n + ws.length ≤ m
  | [], n, l, m, hn, h => by simp only [takeAll, Option.some.injEq, Prod.mk.injEq] at h; obtain ⟨rfl, rfl⟩ := h; exact ⟨hn, rfl, by simp⟩
  | w :: ws, n, l, m, hn, h => by
    simp only [takeAll] at h
    split at h
    · rename_i hok
      obtain ⟨p, hp, he⟩ := Option.map_eq_some_iff.1 h
      simp only [Prod.mk.injEq] at he
      obtain ⟨rfl, rfl⟩ := he
      unfold takeOk at hok
      have ⟨h1, h2, h3⟩ := takeAll_le (by omega) (show takeAll T (n + w.toNat) ws = some (p.1, p.2) from hp)
      exact ⟨h1, by simp [h2], by simp only [List.length_cons]; omega⟩
    · cases h
def unpackB (T : List Bool) (ws : List Int) : Option (List Nat) := match takeAll T 0 ws with
  | some (l, n) => if doneB T n = true then some l else none
  | none => none
theorem takeB_ok {T : List Bool} {n : Nat} {w : Int} (h : takeOk T n w) : takeB T n w = (num ((T.drop n).take w.toNat), 0, n + w.toNat) := by unfold takeB; exact if_pos h
theorem takeB_no {T : List Bool} {n : Nat} {w : Int} (h : ¬ takeOk T n w) : takeB T n w = (0, 6, n) := by unfold takeB; exact if_neg h
abbrev u64V (l : List Nat) : List Value := l.map fun (x : Nat) => Value.int .u64 (x : Int)
/-- What unpacking answers. -/
def unpackR (o : Option (List Nat)) : List Nat × Int := match o with | some l => (l, 0) | none => ([], 6)
theorem unpackR_le {T : List Bool} {ws : List Int} : (unpackR (unpackB T ws)).1.length ≤ ws.length := by
  unfold unpackB
  cases h : takeAll T 0 ws with
  | none => simp [unpackR]
  | some p =>
    obtain ⟨_, h2, _⟩ := takeAll_le (Nat.zero_le _) (show takeAll T 0 ws = some (p.1, p.2) from h)
    dsimp only
    split
    · simp [unpackR, h2]
    · simp [unpackR]
end Go.Proofs.Ytlbdnkkaacccoaa
