/- The same texts. -/
import Derived.Test.YtphnpchblkpjhaaCom
namespace Go.Proofs.Ytphnpchblkpjhaa
set_option linter.unusedVariables false
set_option linter.unusedSimpArgs false
set_option maxRecDepth 100000
open SL Go.RowKit Go.Maps

theorem bytes_inj {x y : ByteArray} (h : x.toList = y.toList) : x = y := by
  rw [ByteArray.toList_eq, ByteArray.toList_eq] at h
  obtain ⟨⟨x⟩⟩ := x
  obtain ⟨⟨y⟩⟩ := y
  simp at h
  rw [h]
theorem bytes_beq (x y : ByteArray) : (x.toList == y.toList) = decide (x = y) := by
  by_cases h : x = y
  · subst h; simp
  · rw [decide_eq_false h, beq_eq_false_iff_ne]; exact fun e => h (bytes_inj e)
theorem same_ok (F : Mem) (oa ob : Option Addr) (ca cb : Nat) (a b : List ByteArray) (ha : SlF F 1 oa a.length (strs a)) (hb : SlF F 1 ob b.length (strs b)) (hn : a.length ≤ 9223372036854775807) :
    FT Try.prog 12 [.slice oa a.length ca, .slice ob b.length cb].toArray F [] (Ret (.bool (decide (a = b)))) := by
  refine FT.of_body Try.func12 rfl Try.ntmps12 (by simp) fun C hC => ?_
  subst hC
  conv => whnf
  refine cond_split ?_ ?_
  · intro hne
    conv => whnf
    refine RetI.one Try.results12 rfl ?_
    conv => whnf
    refine ⟨_, Sub.refl _, ret_bool ?_, rfl⟩
    have hne : ((a.length : Nat) : Int) ≠ ((b.length : Nat) : Int) := by simpa using hne
    rw [decide_eq_false]
    intro e; subst e; exact hne rfl
  · intro he
    have he : a.length = b.length := by have : ((a.length : Nat) : Int) = ((b.length : Nat) : Int) := by simpa using he
                                        omega
    conv => whnf
    refine LoopI.by_state (σ := Nat) (fun i => [(0, .slice oa a.length ca), (1, .slice ob b.length cb), (12, .int .i64 (a.length : Int)), (13, .int .i64 (i : Int))]) (fun _ => []) (fun i => i ≤ a.length ∧ a.take i = b.take i) (fun i => a.length - i) 0 (by simp) ⟨rfl, rfl, rfl, rfl, trivial⟩ (Sub.refl _) ?_
    rintro i f0 ⟨hi, ht⟩
    conv => whnf
    refine cond_dec (fun h => ?_) (fun h => ?_)
    · obtain ⟨xa, ya, rfl, hra⟩ := ha.at (i := i) (by omega)
      obtain ⟨xb, yb, rfl, hrb⟩ := hb.at (i := i) (by omega)
      conv => whnf
      refine DrawI.quiet (by kernel_rfl) (by kernel_rfl) ?_
      conv => whnf
      refine ⟨by omega, ?_⟩
      conv => whnf
      refine LoadV.f (hra i (.string (a[i]'(by omega))) (by simp [strs])) rfl ?_
      conv => whnf
      refine ⟨by omega, ?_⟩
      conv => whnf
      refine LoadV.f (hrb i (.string (b[i]'(by omega))) (by simp [strs])) rfl ?_
      conv => whnf
      cases hq : (a[i].toList == b[i].toList) with
      | true =>
        conv => whnf
        refine ArI.to64 ((i + 1 : Nat) : Int) (by omega) (by omega) ?_
        conv => whnf
        exact ⟨i + 1, [], by omega, Sub.refl _, ⟨by omega, take_eq_step ht (by omega) (by omega) (bytes_inj (by simpa using hq))⟩, ⟨rfl, rfl, rfl, rfl, trivial⟩, rfl⟩
      | false =>
        conv => whnf
        refine RetI.one Try.results12 rfl ?_
        conv => whnf
        refine ⟨_, Sub.refl _, ret_bool ?_, rfl⟩
        rw [decide_eq_false]
        intro e; subst e; simp at hq
    · conv => whnf
      refine RetI.one Try.results12 rfl ?_
      conv => whnf
      refine ⟨_, Sub.refl _, ret_bool ?_, rfl⟩
      have : i = a.length := by omega
      subst this
      rw [decide_eq_true]
      have h1 : a.take a.length = a := List.take_length
      have h2 : b.take a.length = b := by rw [he]; exact List.take_length
      rw [← h1, ht, h2]
end Go.Proofs.Ytphnpchblkpjhaa
