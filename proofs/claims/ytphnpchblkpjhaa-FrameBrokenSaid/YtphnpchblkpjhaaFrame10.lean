/- A frame's pieces put together, by the program. -/
import Derived.Test.YtphnpchblkpjhaaFrame8
import Derived.Test.YtphnpchblkpjhaaBld
namespace Go.Proofs.Ytphnpchblkpjhaa
set_option linter.unusedVariables false
set_option linter.unusedSimpArgs false
set_option maxRecDepth 100000
open SL Go.RowKit Go.Maps

def seq0 (l : List Pc) : Int := (l.head?.map (·.1)).getD 0
def catL (l : List Pc) : List Nat := l.flatMap fun p => txt p.2.2.2
def Good (l : List Pc) (i : Nat) (p : Pc) : Prop := rightB p.1 p.2.1 p.2.2.1 p.2.2.2.size = true ∧ p.1 = seq0 l ∧ p.2.1 = (i : Int) ∧ p.2.2.1 = (l.length : Int)
def WholeOk (l : List Pc) : Prop := l ≠ [] ∧ ∀ i, ∀ h : i < l.length, Good l i l[i]
open Classical in
noncomputable def wholeR (l : List Pc) : Int × ByteArray × Int := if WholeOk l then (seq0 l, strB (catL l), 0) else (0, ⟨#[]⟩, 7)
theorem whole_no {l : List Pc} (h : ¬ WholeOk l) : wholeR l = (0, ⟨#[]⟩, 7) := if_neg h
theorem whole_yes {l : List Pc} (h : WholeOk l) : wholeR l = (seq0 l, strB (catL l), 0) := if_pos h
theorem catL_lt (l : List Pc) : ∀ x ∈ catL l, x < 256 := by
  intro x hx
  obtain ⟨p, _, hp⟩ := List.mem_flatMap.1 hx
  exact txt_lt _ x hp
theorem catL_snoc (l : List Pc) (i : Nat) (h : i < l.length) : catL (l.take (i + 1)) = catL (l.take i) ++ txt (l[i]).2.2.2 := by
  unfold catL
  rw [← List.take_append_getElem h, List.flatMap_append]; simp
theorem right_le {sq pt ps : Int} {n : Nat} (h : rightB sq pt ps n = true) : n ≤ 23 ∧ ps ≤ 255 := by
  have : RightP sq pt ps n := of_decide_eq_true h
  unfold RightP at this
  omega
theorem seq0_get {l : List Pc} (h : 0 < l.length) : seq0 l = (l[0]).1 := by
  cases l with
  | nil => simp at h
  | cons p l => rfl
set_option maxHeartbeats 4000000 in
theorem whole_ok (F : Mem) (oa : Option Addr) (ca : Nat) (l : List Pc) (ha : SlF F 4 oa l.length (l.flatMap pcF)) (hn : l.length ≤ 9223372036854775807) :
    FT Try.prog 13 [.slice oa l.length ca].toArray F [] (Ret (.tuple #[.int .i64 (wholeR l).1, .string (wholeR l).2.1, .int .i64 (wholeR l).2.2])) := by
  refine FT.of_body Try.func13 rfl Try.ntmps13 (by simp) fun C hC => ?_
  subst hC
  conv => whnf
  refine cond_split (fun h => ?_) (fun h => ?_)
  · have h0 : l.length = 0 := by have := eq_of_beq h; omega
    conv => whnf
    repeat (first | (refine LoadV.s rfl rfl (forceV_of ?_); conv => whnf) | (refine LoadV.s rfl rfl ?_; conv => whnf) | (refine StoreV.c rfl rfl (Nat.le_of_ble_eq_true rfl) rfl ?_; conv => whnf) | (refine LoadV.a _ rfl (Nat.le_of_ble_eq_true rfl) ?_; conv => whnf) | (refine DrawI.quiet (by kernel_rfl) (by kernel_rfl) ?_; conv => whnf) | (refine ArI.in64 (by omega) ?_; conv => whnf) | (refine ArI.inU8 (by omega) ?_; conv => whnf) | (refine ArI.inU64 (by omega) ?_; conv => whnf) | (refine ArI.inU32 (by omega) ?_; conv => whnf) | (refine RetI.one Try.results13 rfl ?_; conv => whnf) | (refine RetI.two Try.results13 rfl rfl ?_; conv => whnf) | (refine RetI.three Try.results13 rfl rfl rfl ?_; conv => whnf) | (refine RetI.none Try.results13 ?_; conv => whnf) | (refine ⟨by first | decide | omega, ?_⟩; conv => whnf))
    exact ⟨_, Sub.refl _, by rw [whole_no (fun k => k.1 (List.length_eq_zero_iff.1 h0))], rfl⟩
  have h0 : 0 < l.length := by have := beq_eq_false_iff_ne.1 h; omega
  conv => whnf
  intro b
  conv => whnf
  refine LoopI.by_state (σ := Nat × Option Addr × Option (Nat × Nat)) (fun x => [(0, .slice oa l.length ca), (5, .pointer (some ⟨b, 0, none⟩)), (11, .slice oa l.length ca), (12, .int .i64 (l.length : Int)), (13, .int .i64 (x.1 : Int))])
    (fun x => bldH b x.2.1 x.2.2 (catL (l.take x.1))) (fun x => x.1 ≤ l.length ∧ (x.2.1 = none ∨ x.2.1 = some ⟨b, 0, none⟩) ∧ (x.2.2 = none ↔ catL (l.take x.1) = []) ∧ (catL (l.take x.1)).length ≤ 23 * x.1 ∧ ∀ j, ∀ h : j < x.1, ∀ h2 : j < l.length, Good l j l[j])
    (fun x => l.length - x.1) (0, none, none) ⟨by dsimp only; omega, .inl rfl, by simp [catL], by simp [catL], fun j h => absurd h (Nat.not_lt_zero j)⟩ ⟨rfl, rfl, rfl, rfl, rfl, trivial⟩ (Sub.trans (Sub.nil 5 1) (Sub.sel [1, 0] rfl)) ?_
  rintro ⟨i, p, g⟩ f0 ⟨hi, hp, hg, hlen, hgood⟩
  dsimp only at hi hp hg hlen hgood ⊢
  conv => whnf
  refine cond_dec (fun h1 => ?_) (fun h1 => ?_)
  · have hil : i < l.length := by omega
    obtain ⟨xb, yb, rfl, hrb⟩ := ha.at (i := i) hil
    conv => whnf
    refine ⟨by omega, ?_⟩
    conv => whnf
    refine LoadV.fa (cs := pcF (l[i])) (flat_row pcF_length hrb hil rfl) rfl ?_
    conv => whnf
    intro b3
    conv => whnf
    have hno : ¬ Good l i l[i] → wholeR l = (0, ⟨#[]⟩, 7) := fun hg' => whole_no fun k => hg' (k.2 i hil)
    have hsn := catL_snoc l i hil
    have h00 := seq0_get h0
    have hr0 : RdC C.F ⟨xb, yb + 0, none⟩ (.int .i64 (l[0]).1) := hrb 0 _ (by have := flat_at pcF_length l 0 0 h0 (by decide); rw [Nat.zero_mul, Nat.zero_add] at this; rw [this]; rfl)
    obtain ⟨q, hq⟩ : ∃ q, q = l[i] := ⟨_, rfl⟩
    rw [← hq] at hno hsn ⊢
    rw [← h00] at hr0
    obtain ⟨q1, q2, q3, q4⟩ := q
    dsimp only at hsn
    refine StoreV.c rfl rfl (Nat.le_of_ble_eq_true rfl) rfl ?_
    conv => whnf
    refine DrawI.mixed [1, 3] [_] (by kernel_rfl) (by kernel_rfl) (by kernel_rfl) (by kernel_rfl) (by kernel_rfl) (Sub.sel [0] rfl) ?_
    conv => whnf
    refine LoadV.a _ rfl (Nat.le_of_ble_eq_true rfl) ?_
    conv => whnf
    refine CallS.mk Try.call23 ⟨[], _, _, Sub.refl _, fun F' hF' => right_ok F' q1 q2 q3 q4, ?_⟩
    rintro e A' ⟨rfl, rfl⟩
    cases hb : rightB q1 q2 q3 q4.size with
    | false =>
      conv => whnf
      refine ⟨Sub.sel [0] rfl, ?_⟩
      conv => whnf
      refine ⟨Sub.sel [0] rfl, ?_⟩
      conv => whnf
      repeat (first | (refine LoadV.s rfl rfl (forceV_of ?_); conv => whnf) | (refine LoadV.s rfl rfl ?_; conv => whnf) | (refine StoreV.c rfl rfl (Nat.le_of_ble_eq_true rfl) rfl ?_; conv => whnf) | (refine LoadV.a _ rfl (Nat.le_of_ble_eq_true rfl) ?_; conv => whnf) | (refine DrawI.quiet (by kernel_rfl) (by kernel_rfl) ?_; conv => whnf) | (refine ArI.in64 (by omega) ?_; conv => whnf) | (refine ArI.inU8 (by omega) ?_; conv => whnf) | (refine ArI.inU64 (by omega) ?_; conv => whnf) | (refine ArI.inU32 (by omega) ?_; conv => whnf) | (refine RetI.one Try.results13 rfl ?_; conv => whnf) | (refine RetI.two Try.results13 rfl rfl ?_; conv => whnf) | (refine RetI.three Try.results13 rfl rfl rfl ?_; conv => whnf) | (refine RetI.none Try.results13 ?_; conv => whnf) | (refine ⟨by first | decide | omega, ?_⟩; conv => whnf))
      exact ⟨_, Sub.sel [] rfl, by rw [hno (fun k => by have := k.1; rw [hb] at this; cases this)], rfl⟩
    | true =>
      have hrl := right_le hb
      conv => whnf
      refine ⟨Sub.sel [0] rfl, ?_⟩
      conv => whnf
      refine ⟨Sub.sel [0] rfl, ?_⟩
      conv => whnf
      refine LoadV.s rfl rfl ?_
      conv => whnf
      refine ⟨by omega, ?_⟩
      conv => whnf
      refine LoadV.f (v := .int .i64 (seq0 l)) (show RdC C.F ⟨xb, yb + 0, none⟩ _ from hr0) rfl ?_
      conv => whnf
      refine cond_split (fun h2 => ?_) (fun h2 => ?_)
      · conv => whnf
        repeat (first | (refine LoadV.s rfl rfl (forceV_of ?_); conv => whnf) | (refine LoadV.s rfl rfl ?_; conv => whnf) | (refine StoreV.c rfl rfl (Nat.le_of_ble_eq_true rfl) rfl ?_; conv => whnf) | (refine LoadV.a _ rfl (Nat.le_of_ble_eq_true rfl) ?_; conv => whnf) | (refine DrawI.quiet (by kernel_rfl) (by kernel_rfl) ?_; conv => whnf) | (refine ArI.in64 (by omega) ?_; conv => whnf) | (refine ArI.inU8 (by omega) ?_; conv => whnf) | (refine ArI.inU64 (by omega) ?_; conv => whnf) | (refine ArI.inU32 (by omega) ?_; conv => whnf) | (refine RetI.one Try.results13 rfl ?_; conv => whnf) | (refine RetI.two Try.results13 rfl rfl ?_; conv => whnf) | (refine RetI.three Try.results13 rfl rfl rfl ?_; conv => whnf) | (refine RetI.none Try.results13 ?_; conv => whnf) | (refine ⟨by first | decide | omega, ?_⟩; conv => whnf))
        exact ⟨_, Sub.sel [] rfl, by rw [hno (fun k => (bne_iff_ne.1 h2) k.2.1)], rfl⟩
      have e2 : q1 = seq0 l := bne_eq_false_iff_eq.1 h2
      conv => whnf
      refine LoadV.s rfl rfl ?_
      conv => whnf
      refine cond_split (fun h3 => ?_) (fun h3 => ?_)
      · conv => whnf
        repeat (first | (refine LoadV.s rfl rfl (forceV_of ?_); conv => whnf) | (refine LoadV.s rfl rfl ?_; conv => whnf) | (refine StoreV.c rfl rfl (Nat.le_of_ble_eq_true rfl) rfl ?_; conv => whnf) | (refine LoadV.a _ rfl (Nat.le_of_ble_eq_true rfl) ?_; conv => whnf) | (refine DrawI.quiet (by kernel_rfl) (by kernel_rfl) ?_; conv => whnf) | (refine ArI.in64 (by omega) ?_; conv => whnf) | (refine ArI.inU8 (by omega) ?_; conv => whnf) | (refine ArI.inU64 (by omega) ?_; conv => whnf) | (refine ArI.inU32 (by omega) ?_; conv => whnf) | (refine RetI.one Try.results13 rfl ?_; conv => whnf) | (refine RetI.two Try.results13 rfl rfl ?_; conv => whnf) | (refine RetI.three Try.results13 rfl rfl rfl ?_; conv => whnf) | (refine RetI.none Try.results13 ?_; conv => whnf) | (refine ⟨by first | decide | omega, ?_⟩; conv => whnf))
        exact ⟨_, Sub.sel [] rfl, by rw [hno (fun k => (bne_iff_ne.1 h3) k.2.2.1)], rfl⟩
      have e3 : q2 = (i : Int) := bne_eq_false_iff_eq.1 h3
      conv => whnf
      refine LoadV.s rfl rfl ?_
      conv => whnf
      refine cond_split (fun h4 => ?_) (fun h4 => ?_)
      · conv => whnf
        repeat (first | (refine LoadV.s rfl rfl (forceV_of ?_); conv => whnf) | (refine LoadV.s rfl rfl ?_; conv => whnf) | (refine StoreV.c rfl rfl (Nat.le_of_ble_eq_true rfl) rfl ?_; conv => whnf) | (refine LoadV.a _ rfl (Nat.le_of_ble_eq_true rfl) ?_; conv => whnf) | (refine DrawI.quiet (by kernel_rfl) (by kernel_rfl) ?_; conv => whnf) | (refine ArI.in64 (by omega) ?_; conv => whnf) | (refine ArI.inU8 (by omega) ?_; conv => whnf) | (refine ArI.inU64 (by omega) ?_; conv => whnf) | (refine ArI.inU32 (by omega) ?_; conv => whnf) | (refine RetI.one Try.results13 rfl ?_; conv => whnf) | (refine RetI.two Try.results13 rfl rfl ?_; conv => whnf) | (refine RetI.three Try.results13 rfl rfl rfl ?_; conv => whnf) | (refine RetI.none Try.results13 ?_; conv => whnf) | (refine ⟨by first | decide | omega, ?_⟩; conv => whnf))
        exact ⟨_, Sub.sel [] rfl, by rw [hno (fun k => (bne_iff_ne.1 h4) k.2.2.2)], rfl⟩
      have e4 : q3 = (l.length : Int) := bne_eq_false_iff_eq.1 h4
      have hG : Good l i (q1, q2, q3, q4) := ⟨hb, e2, e3, e4⟩
      conv => whnf
      refine LoadV.s rfl rfl ?_
      conv => whnf
      have hl4 := txt_length q4
      refine CallS.mk Try.call24 ⟨[_, _], [], _, Sub.sel [1, 2] rfl, fun F' hF' => sbw_ok F' b p hp g (catL (l.take i)) q4 (by omega), ?_⟩
      rintro e A' ⟨rfl, g', hg', rfl⟩
      conv => whnf
      refine ArI.to64 ((i + 1 : Nat) : Int) (by omega) (by omega) ?_
      conv => whnf
      refine ⟨(i + 1, some ⟨b, 0, none⟩, g'), _, by dsimp only; omega, Sub.refl _, ⟨by dsimp only; omega, .inr rfl, ?_, ?_, ?_⟩, ⟨rfl, rfl, rfl, rfl, rfl, trivial⟩, ?_⟩
      · dsimp only
        rw [hg', hsn, hg, List.append_eq_nil_iff]
        exact and_congr_right fun _ => by rw [← List.length_eq_zero_iff, hl4]
      · dsimp only; rw [hsn, List.length_append]; omega
      · intro j hj hj2
        dsimp only at hj
        by_cases hji : j < i
        · exact hgood j hji hj2
        · obtain rfl : j = i := by omega
          rw [← hq]; exact hG
      · dsimp only; rw [hsn]
  · obtain rfl : i = l.length := by omega
    rw [List.take_length] at hg hlen ⊢
    have hW : WholeOk l := ⟨fun e => by rw [e] at h0; simp at h0, fun j hj => hgood j hj hj⟩
    rw [whole_yes hW]
    have hg0 := hgood 0 h0 h0
    have hl255 : l.length ≤ 255 := by have := (right_le hg0.1).2; have := hg0.2.2.2; omega
    have h00 := seq0_get h0
    obtain ⟨xb, yb, rfl, hrb⟩ := ha.at (i := 0) h0
    have hr0 : RdC C.F ⟨xb, yb + 0, none⟩ (.int .i64 (l[0]).1) := hrb 0 _ (by have := flat_at pcF_length l 0 0 h0 (by decide); rw [Nat.zero_mul, Nat.zero_add] at this; rw [this]; rfl)
    rw [← h00] at hr0
    conv => whnf
    refine DrawI.mixed [4, 5, 6, 7] [] (by kernel_rfl) (by kernel_rfl) (by kernel_rfl) (by kernel_rfl) (by kernel_rfl) (Sub.sel [] rfl) ?_
    conv => whnf
    refine ⟨by omega, ?_⟩
    conv => whnf
    refine LoadV.f (v := .int .i64 (seq0 l)) (show RdC C.F ⟨xb, yb + 0, none⟩ _ from hr0) rfl ?_
    conv => whnf
    refine CallS.mk Try.call25 ⟨[_, _], _, _, Sub.split [0, 1] rfl, fun F' hF' => sbs_ok F' b p g (catL l) hg (catL_lt l) (by omega), ?_⟩
    rintro e A' ⟨rfl, rfl⟩
    conv => whnf
    refine ⟨Sub.sel [] rfl, ?_⟩
    conv => whnf
    refine ⟨Sub.sel [] rfl, ?_⟩
    conv => whnf
    refine ⟨Sub.sel [] rfl, ?_⟩
    conv => whnf
    refine ⟨Sub.sel [] rfl, ?_⟩
    conv => whnf
    repeat (first | (refine LoadV.s rfl rfl (forceV_of ?_); conv => whnf) | (refine LoadV.s rfl rfl ?_; conv => whnf) | (refine StoreV.c rfl rfl (Nat.le_of_ble_eq_true rfl) rfl ?_; conv => whnf) | (refine LoadV.a _ rfl (Nat.le_of_ble_eq_true rfl) ?_; conv => whnf) | (refine DrawI.quiet (by kernel_rfl) (by kernel_rfl) ?_; conv => whnf) | (refine ArI.in64 (by omega) ?_; conv => whnf) | (refine ArI.inU8 (by omega) ?_; conv => whnf) | (refine ArI.inU64 (by omega) ?_; conv => whnf) | (refine ArI.inU32 (by omega) ?_; conv => whnf) | (refine RetI.one Try.results13 rfl ?_; conv => whnf) | (refine RetI.two Try.results13 rfl rfl ?_; conv => whnf) | (refine RetI.three Try.results13 rfl rfl rfl ?_; conv => whnf) | (refine RetI.none Try.results13 ?_; conv => whnf) | (refine ⟨by first | decide | omega, ?_⟩; conv => whnf))
    exact ⟨_, Sub.sel [] rfl, rfl, rfl⟩
end Go.Proofs.Ytphnpchblkpjhaa
