/- The disk: writing, the log, the image, cutting. -/
import Derived.Test.YtjjkpkacembhpaaDisk1
namespace Go.Proofs.Ytjjkpkacembhpaa
set_option linter.unusedVariables false
set_option linter.unusedSimpArgs false
open SL Go.RowKit Go.Maps

/-- What a writing answers. -/
def wcode (on : Bool) (at_ : Int) (s : ByteArray) : Int :=
  if on = false then 11 else if at_ < 0 ∨ at_ ≥ 2048 then 8 else if s.size > 32 then 9 else 0
def wLeft (left : Int) : Int := if left > 0 then left - 1 else left
def wOn (left : Int) : Bool := if left > 0 then decide (left - 1 > 0) else true
theorem logCells_append (l : List (Int × ByteArray)) (p : Int × ByteArray) : logCells (l ++ [p]) = logCells l ++ [.int .i64 p.1, .string p.2] := by simp [logCells]
theorem logCells_length (l : List (Int × ByteArray)) : (logCells l).length = l.length * 2 := by
  induction l with
  | nil => rfl
  | cons p l ih => simp only [logCells, List.flatMap_cons, List.length_append, List.length_cons, List.length_nil] at ih ⊢; omega
theorem key_wf {a : Int} (h0 : -9223372036854775808 ≤ a) (h1 : a ≤ 9223372036854775807) : keyOf Try.prog 3 (fkI a) = some (.int .i64 a) :=
  keyOf_int_mk Try.underlying3 (by simp [Lit.wf, IntKind.min, IntKind.max, IntKind.signed, IntKind.bits]; omega)
theorem diskH_push (d rf rb : Nat) (o1 o2 : Obj) (sv : Value) (lg : List (Int × ByteArray)) (p : Int × ByteArray) (on : Bool) (l : Int) : diskH d rf rb o1 o2 sv (lg ++ [p]) on l =
    [.cells d [.map (some rf), .map (some rb), sv, .bool on, .int .i64 l] 59 (0, 0), .obj rf o1, .obj rb o2, .own sv (lg.length + 1) 29 2 (logCells lg ++ [.int .i64 p.1, .string p.2])] := by
  simp [diskH, logCells]
theorem write_ok (F : Mem) (d rf rb : Nat) (o1 : Obj) (es : Array MapEntry) (c : Nat) (m : List (Int × ByteArray)) (M : MapS es c m) (sv : Value) (lg : List (Int × ByteArray)) (on : Bool) (l at_ : Int) (s : ByteArray)
    (hlog : (lg.length + 1) * 24 ≤ 140737488355328) (hl : l ≤ 9223372036854775807) :
    FT Try.prog 11 [.pointer (some ⟨d, 0, none⟩), .int .i64 at_, .string s].toArray F (diskH d rf rb o1 (.map es c) sv lg on l)
    (fun e H => e = .returned (.int .i64 (wcode on at_ s)) ∧ ((wcode on at_ s ≠ 0 ∧ H = diskH d rf rb o1 (.map es c) sv lg on l) ∨
      (wcode on at_ s = 0 ∧ on = true ∧ ∃ es' c' g cap, MapS es' c' (putM m at_ s) ∧ H = diskH d rf rb o1 (.map es' c') (.slice (some ⟨g, 0, none⟩) (lg.length + 1) cap) (lg ++ [(at_, s)]) (wOn l) (wLeft l)))) := by
  refine FT.of_body Try.func11 rfl Try.ntmps11 (by simp) fun C hC => ?_
  conv => whnf
  refine LoadV.s rfl rfl ?_
  cases on with
  | false =>
    conv => whnf
    refine RetI.one Try.results11 rfl ?_
    conv => whnf
    exact ⟨_, Sub.refl _, rfl, .inl ⟨by unfold wcode; simp, rfl⟩⟩
  | true =>
    conv => whnf
    refine cond_dec (fun h1 => ?_) (fun h1 => ?_)
    · conv => whnf
      refine RetI.one Try.results11 rfl ?_
      conv => whnf
      have hw : wcode true at_ s = 8 := by unfold wcode; rw [if_neg (by simp), if_pos (.inl h1)]
      exact ⟨_, Sub.refl _, ret_int hw.symm, .inl ⟨by rw [hw]; simp, rfl⟩⟩
    · conv => whnf
      refine cond_dec (fun h2 => ?_) (fun h2 => ?_)
      · conv => whnf
        refine RetI.one Try.results11 rfl ?_
        conv => whnf
        have hw : wcode true at_ s = 8 := by unfold wcode; rw [if_neg (by simp), if_pos (.inr h2)]
        exact ⟨_, Sub.refl _, ret_int hw.symm, .inl ⟨by rw [hw]; simp, rfl⟩⟩
      · conv => whnf
        refine cond_dec (fun h3 => ?_) (fun h3 => ?_)
        · conv => whnf
          refine RetI.one Try.results11 rfl ?_
          conv => whnf
          have hw : wcode true at_ s = 9 := by unfold wcode; rw [if_neg (by simp), if_neg (by omega), if_pos (by have h4 : (32 : Int) < (s.size : Int) := h3; omega)]
          exact ⟨_, Sub.refl _, ret_int hw.symm, .inl ⟨by rw [hw]; simp, rfl⟩⟩
        · have hw : wcode true at_ s = 0 := by unfold wcode; rw [if_neg (by simp), if_neg (by omega), if_neg (by have h4 : ¬ (32 : Int) < (s.size : Int) := h3; omega)]
          conv => whnf
          refine LoadV.s rfl rfl ?_
          conv => whnf
          refine DoV.update (fk := fkI) (fv := fvS) (a := at_) (v := s) M keyed3 fkI_inj Try.underlying57 (key_wf (by omega) (by omega)) ?_
          intro es' c' M'
          conv => whnf
          refine LoadV.s rfl rfl ?_
          refine forceV_of ?_
          conv => whnf
          intro b
          conv => whnf
          refine BuiltV.append (sv := sv) (m := 1) Try.underlying22 rfl rfl rfl rfl (by decide) (Row.cells 2) rfl (by decide) rfl hlog (by omega) fun g cap => ?_
          conv => whnf
          refine StoreV.c rfl rfl (Nat.le_of_ble_eq_true rfl) rfl ?_
          conv => whnf
          refine LoadV.s rfl rfl ?_
          conv => whnf
          refine cond_dec (fun h4 => ?_) (fun h4 => ?_)
          · conv => whnf
            refine LoadV.s rfl rfl ?_
            conv => whnf
            refine ArI.in64 (by omega) ?_
            conv => whnf
            refine StoreV.c rfl rfl (Nat.le_of_ble_eq_true rfl) rfl ?_
            conv => whnf
            refine LoadV.s rfl rfl ?_
            conv => whnf
            refine StoreV.c rfl rfl (Nat.le_of_ble_eq_true rfl) rfl ?_
            conv => whnf
            refine RetI.one Try.results11 rfl ?_
            conv => whnf
            have e2 : wLeft l = l - 1 := by unfold wLeft; rw [if_pos h4]
            have e3 : wOn l = decide (l - 1 > 0) := by unfold wOn; rw [if_pos h4]
            refine ⟨_, Sub.sel [1, 2, 3, 4] rfl, ret_int hw.symm, .inr ⟨hw, rfl, es', c', g, cap, M', ?_⟩⟩
            rw [e2, e3, diskH_push]; rfl
          · conv => whnf
            refine RetI.one Try.results11 rfl ?_
            conv => whnf
            refine ⟨_, Sub.sel [1, 2, 3, 4] rfl, ret_int hw.symm, .inr ⟨hw, rfl, es', c', g, cap, M', ?_⟩⟩
            have e2 : wLeft l = l := by unfold wLeft; rw [if_neg h4]
            have e3 : wOn l = true := by unfold wOn; rw [if_neg h4]
            rw [e2, e3, diskH_push]; rfl
end Go.Proofs.Ytjjkpkacembhpaa
