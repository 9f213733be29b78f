/- The reference's frames put together, as a contract. -/
import Derived.Test.YtphnpchblkpjhaaFrame13
namespace Go.Proofs.Ytphnpchblkpjhaa
set_option linter.unusedVariables false
set_option linter.unusedSimpArgs false
set_option maxRecDepth 100000
open SL Go.RowKit Go.Maps

set_option maxHeartbeats 4000000 in
theorem rwhole_ok (F : Mem) (oa : Option Addr) (ca : Nat) (l : List Pc) (ha : SlF F 4 oa l.length (l.flatMap pcF)) (hn : l.length ≤ 9223372036854775807) :
    FT Try.prog 14 [.slice oa l.length ca].toArray F [] (Ret (.tuple #[.int .i64 (wholeR l).1, .string (wholeR l).2.1, .int .i64 (wholeR l).2.2])) := by
  refine FT.of_body Try.func14 rfl Try.ntmps14 (by simp) fun C hC => ?_
  subst hC
  conv => whnf
  refine cond_split (fun h => ?_) (fun h => ?_)
  · have h0 : l.length = 0 := by have := eq_of_beq h; omega
    conv => whnf
    repeat (first | (refine LoadV.s rfl rfl (forceV_of ?_); conv => whnf) | (refine LoadV.s rfl rfl ?_; conv => whnf) | (refine StoreV.c rfl rfl (Nat.le_of_ble_eq_true rfl) rfl ?_; conv => whnf) | (refine LoadV.a _ rfl (Nat.le_of_ble_eq_true rfl) ?_; conv => whnf) | (refine DrawI.quiet (by kernel_rfl) (by kernel_rfl) ?_; conv => whnf) | (refine ArI.in64 (by omega) ?_; conv => whnf) | (refine ArI.inU8 (by omega) ?_; conv => whnf) | (refine ArI.inU64 (by omega) ?_; conv => whnf) | (refine ArI.inU32 (by omega) ?_; conv => whnf) | (refine RetI.one Try.results14 rfl ?_; conv => whnf) | (refine RetI.two Try.results14 rfl rfl ?_; conv => whnf) | (refine RetI.three Try.results14 rfl rfl rfl ?_; conv => whnf) | (refine RetI.none Try.results14 ?_; conv => whnf) | (refine ⟨by first | decide | omega, ?_⟩; conv => whnf))
    exact ⟨_, Sub.sel [] rfl, by rw [whole_no (fun k => k.1 (List.length_eq_zero_iff.1 h0))], rfl⟩
  have h0 : 0 < l.length := by have := beq_eq_false_iff_ne.1 h; omega
  conv => whnf
  refine cond_dec (fun h2 => ?_) (fun h2 => ?_)
  · conv => whnf
    repeat (first | (refine LoadV.s rfl rfl (forceV_of ?_); conv => whnf) | (refine LoadV.s rfl rfl ?_; conv => whnf) | (refine StoreV.c rfl rfl (Nat.le_of_ble_eq_true rfl) rfl ?_; conv => whnf) | (refine LoadV.a _ rfl (Nat.le_of_ble_eq_true rfl) ?_; conv => whnf) | (refine DrawI.quiet (by kernel_rfl) (by kernel_rfl) ?_; conv => whnf) | (refine ArI.in64 (by omega) ?_; conv => whnf) | (refine ArI.inU8 (by omega) ?_; conv => whnf) | (refine ArI.inU64 (by omega) ?_; conv => whnf) | (refine ArI.inU32 (by omega) ?_; conv => whnf) | (refine RetI.one Try.results14 rfl ?_; conv => whnf) | (refine RetI.two Try.results14 rfl rfl ?_; conv => whnf) | (refine RetI.three Try.results14 rfl rfl rfl ?_; conv => whnf) | (refine RetI.none Try.results14 ?_; conv => whnf) | (refine ⟨by first | decide | omega, ?_⟩; conv => whnf))
    exact ⟨_, Sub.sel [] rfl, by rw [whole_no (fun k => by have := ok_len k; omega)], rfl⟩
  conv => whnf
  refine LoopI.by_state (σ := Nat) (fun i => [(0, .slice oa l.length ca), (5, .string (strB (catL (l.take i)))), (19, .slice oa l.length ca), (20, .int .i64 (l.length : Int)), (21, .int .i64 (i : Int))])
    (fun _ => []) (fun i => i ≤ l.length ∧ (catL (l.take i)).length ≤ 23 * i) (fun i => l.length - i) 0 ⟨by omega, by simp [catL]⟩ ⟨rfl, rfl, rfl, rfl, rfl, trivial⟩ (Sub.refl _) ?_
  rintro i f0 ⟨hi, hlen⟩
  conv => whnf
  refine cond_dec (fun h1 => ?_) (fun h1 => ?_)
  · have hil : i < l.length := by omega
    obtain ⟨xb, yb, rfl, hrb⟩ := ha.at (i := i) hil
    conv => whnf
    refine ⟨by omega, ?_⟩
    conv => whnf
    refine LoadV.fa (cs := pcF (l[i])) (flat_row pcF_length hrb hil rfl) rfl ?_
    conv => whnf
    intro b3
    conv => whnf
    have hno : rightB (l[i]).1 (l[i]).2.1 (l[i]).2.2.1 (l[i]).2.2.2.size = false → ¬ WholeOk l := fun hf k => by have := (k.2 i hil).1; rw [hf] at this; cases this
    have hsn := catL_snoc l i hil
    generalize l[i] = q at hno hsn ⊢
    obtain ⟨q1, q2, q3, q4⟩ := q
    dsimp only at hno hsn
    refine StoreV.c rfl rfl (Nat.le_of_ble_eq_true rfl) rfl ?_
    conv => whnf
    refine LoadV.a _ rfl (Nat.le_of_ble_eq_true rfl) ?_
    conv => whnf
    refine CallS.mk Try.call26 ⟨[], _, _, Sub.refl _, fun F' hF' => rright_ok F' q1 q2 q3 q4, ?_⟩
    rintro e A' ⟨rfl, rfl⟩
    cases hb : rightB q1 q2 q3 q4.size with
    | false =>
      conv => whnf
      repeat (first | (refine LoadV.s rfl rfl (forceV_of ?_); conv => whnf) | (refine LoadV.s rfl rfl ?_; conv => whnf) | (refine StoreV.c rfl rfl (Nat.le_of_ble_eq_true rfl) rfl ?_; conv => whnf) | (refine LoadV.a _ rfl (Nat.le_of_ble_eq_true rfl) ?_; conv => whnf) | (refine DrawI.quiet (by kernel_rfl) (by kernel_rfl) ?_; conv => whnf) | (refine ArI.in64 (by omega) ?_; conv => whnf) | (refine ArI.inU8 (by omega) ?_; conv => whnf) | (refine ArI.inU64 (by omega) ?_; conv => whnf) | (refine ArI.inU32 (by omega) ?_; conv => whnf) | (refine RetI.one Try.results14 rfl ?_; conv => whnf) | (refine RetI.two Try.results14 rfl rfl ?_; conv => whnf) | (refine RetI.three Try.results14 rfl rfl rfl ?_; conv => whnf) | (refine RetI.none Try.results14 ?_; conv => whnf) | (refine ⟨by first | decide | omega, ?_⟩; conv => whnf))
      exact ⟨_, Sub.sel [] rfl, by rw [whole_no (hno hb)], rfl⟩
    | true =>
      have hrl := right_le hb
      have hl4 := txt_length q4
      have hadd : strB (catL (l.take i)) ++ q4 = strB (catL (l.take (i + 1))) := by
        rw [hsn, ← strB_append, strB_txt]
      conv => whnf
      refine LoadV.s rfl rfl ?_
      conv => whnf
      refine ⟨by rw [strB_size]; show (catL (l.take i)).length + q4.size ≤ _; omega, ?_⟩
      rw [hadd]
      conv => whnf
      refine ArI.to64 ((i + 1 : Nat) : Int) (by omega) (by omega) ?_
      conv => whnf
      exact ⟨i + 1, _, by omega, Sub.sel [] rfl, ⟨by omega, by rw [hsn, List.length_append]; omega⟩, ⟨rfl, rfl, rfl, rfl, rfl, trivial⟩, rfl⟩
  obtain rfl : i = l.length := by omega
  rw [List.take_length] at hlen ⊢
  have h00 := seq0_get h0
  have hiff := @pieces_ok_iff l
  have hsz : (strB (catL l)).size ≤ 9223372036854775807 := by rw [strB_size]; omega
  have hpc := fun (F' : Mem) => rpieces_ok F' (seq0 l) (strB (catL l)) hsz
  have hyes : WholeOk l → wholeR l = (seq0 l, strB (catL l), 0) := whole_yes
  generalize strB (catL l) = S at hiff hpc hyes ⊢
  generalize piecesF (seq0 l) S = P at hiff hpc
  obtain ⟨lp, er⟩ := P
  dsimp only at hpc
  obtain ⟨xb, yb, rfl, hrb⟩ := ha.at (i := 0) h0
  have hr0 : RdC C.F ⟨xb, yb + 0, none⟩ (.int .i64 (l[0]).1) := hrb 0 _ (by have := flat_at pcF_length l 0 0 h0 (by decide); rw [Nat.zero_mul, Nat.zero_add] at this; rw [this]; rfl)
  rw [← h00] at hr0
  conv => whnf
  refine ⟨by omega, ?_⟩
  conv => whnf
  refine LoadV.f (v := .int .i64 (seq0 l)) (show RdC C.F ⟨xb, yb + 0, none⟩ _ from hr0) rfl ?_
  conv => whnf
  refine CallS.mk Try.call22 ⟨[], _, _, Sub.refl _, fun F' hF' => hpc F', ?_⟩
  rintro e A' ⟨g, hg, rfl, rfl⟩
  conv => whnf
  refine cond_split (fun h3 => ?_) (fun h3 => ?_)
  · conv => whnf
    repeat (first | (refine LoadV.s rfl rfl (forceV_of ?_); conv => whnf) | (refine LoadV.s rfl rfl ?_; conv => whnf) | (refine StoreV.c rfl rfl (Nat.le_of_ble_eq_true rfl) rfl ?_; conv => whnf) | (refine LoadV.a _ rfl (Nat.le_of_ble_eq_true rfl) ?_; conv => whnf) | (refine DrawI.quiet (by kernel_rfl) (by kernel_rfl) ?_; conv => whnf) | (refine ArI.in64 (by omega) ?_; conv => whnf) | (refine ArI.inU8 (by omega) ?_; conv => whnf) | (refine ArI.inU64 (by omega) ?_; conv => whnf) | (refine ArI.inU32 (by omega) ?_; conv => whnf) | (refine RetI.one Try.results14 rfl ?_; conv => whnf) | (refine RetI.two Try.results14 rfl rfl ?_; conv => whnf) | (refine RetI.three Try.results14 rfl rfl rfl ?_; conv => whnf) | (refine RetI.none Try.results14 ?_; conv => whnf) | (refine ⟨by first | decide | omega, ?_⟩; conv => whnf))
    exact ⟨_, Sub.sel [] rfl, by rw [whole_no (fun k => bne_iff_ne.1 h3 (congrArg Prod.snd (hiff.1 k)))], rfl⟩
  have her : er = 0 := bne_eq_false_iff_eq.1 h3
  conv => whnf
  refine cond_split (fun h4 => ?_) (fun h4 => ?_)
  · conv => whnf
    repeat (first | (refine LoadV.s rfl rfl (forceV_of ?_); conv => whnf) | (refine LoadV.s rfl rfl ?_; conv => whnf) | (refine StoreV.c rfl rfl (Nat.le_of_ble_eq_true rfl) rfl ?_; conv => whnf) | (refine LoadV.a _ rfl (Nat.le_of_ble_eq_true rfl) ?_; conv => whnf) | (refine DrawI.quiet (by kernel_rfl) (by kernel_rfl) ?_; conv => whnf) | (refine ArI.in64 (by omega) ?_; conv => whnf) | (refine ArI.inU8 (by omega) ?_; conv => whnf) | (refine ArI.inU64 (by omega) ?_; conv => whnf) | (refine ArI.inU32 (by omega) ?_; conv => whnf) | (refine RetI.one Try.results14 rfl ?_; conv => whnf) | (refine RetI.two Try.results14 rfl rfl ?_; conv => whnf) | (refine RetI.three Try.results14 rfl rfl rfl ?_; conv => whnf) | (refine RetI.none Try.results14 ?_; conv => whnf) | (refine ⟨by first | decide | omega, ?_⟩; conv => whnf))
    exact ⟨_, Sub.sel [] rfl, by rw [whole_no (fun k => by have := congrArg Prod.fst (hiff.1 k); dsimp only at this; rw [this] at h4; simp at h4)], rfl⟩
  have hll : lp.length = l.length := by have := bne_eq_false_iff_eq.1 h4; omega
  conv => whnf
  refine LoopI.by_state (σ := Nat) (fun i => [(0, .slice (some ⟨xb, yb, none⟩) l.length ca), (5, .string S), (8, svOf g lp.length), (52, .int .i64 (lp.length : Int)), (53, .int .i64 (i : Int))])
    (fun _ => [.own (svOf g lp.length) lp.length 31 4 (lp.flatMap pcF)]) (fun i => i ≤ lp.length ∧ lp.take i = l.take i) (fun i => lp.length - i) 0 ⟨by omega, by simp⟩ ⟨rfl, rfl, rfl, rfl, rfl, trivial⟩ (Sub.refl _) ?_
  rintro j f1 ⟨hj, hte⟩
  conv => whnf
  refine cond_dec (fun h5 => ?_) (fun h5 => ?_)
  · have hjl : j < lp.length := by omega
    have hjl2 : j < l.length := by omega
    obtain ⟨gb, gc, rfl⟩ := gsome hg (by intro e; rw [e] at hjl; simp at hjl)
    conv => whnf
    refine DrawI.quiet (by kernel_rfl) (by kernel_rfl) ?_
    conv => whnf
    refine ⟨by omega, ?_⟩
    conv => whnf
    refine LoadV.oa 4 rfl (by show 0 + j * 4 + 4 ≤ (lp.flatMap pcF).length; rw [flat_length pcF_length]; omega) ?_
    rw [show ((lp.flatMap pcF).drop (elemOff 0 (j : Int) Try.prog.types[31].size)).take 4 = pcF (lp[j]) by show ((lp.flatMap pcF).drop (0 + j * 4)).take 4 = _; rw [Nat.zero_add]; exact pc_row lp j hjl]
    conv => whnf
    refine ⟨by omega, ?_⟩
    conv => whnf
    refine LoadV.fa (cs := pcF (l[j])) (flat_row pcF_length hrb hjl2 rfl) rfl ?_
    conv => whnf
    refine EqV.neq (d := 3) (ks := [.i .i64, .i .i64, .i .i64, .s]) (by kernel_rfl) rfl (by kernel_rfl) rfl rfl rfl ?_
    rw [piece_eq]
    by_cases hq : (lp[j]).1 = (l[j]).1 ∧ (lp[j]).2.1 = (l[j]).2.1 ∧ (lp[j]).2.2.1 = (l[j]).2.2.1 ∧ (lp[j]).2.2.2 = (l[j]).2.2.2
    · rw [decide_eq_true hq]
      have hqq : lp[j] = l[j] := Prod.ext hq.1 (Prod.ext hq.2.1 (Prod.ext hq.2.2.1 hq.2.2.2))
      conv => whnf
      refine ArI.to64 ((j + 1 : Nat) : Int) (by omega) (by omega) ?_
      conv => whnf
      exact ⟨j + 1, _, by omega, Sub.refl _, ⟨by omega, take_eq_step hte hjl hjl2 hqq⟩, ⟨rfl, rfl, rfl, rfl, rfl, trivial⟩, rfl⟩
    · rw [decide_eq_false hq]
      conv => whnf
      repeat (first | (refine LoadV.s rfl rfl (forceV_of ?_); conv => whnf) | (refine LoadV.s rfl rfl ?_; conv => whnf) | (refine StoreV.c rfl rfl (Nat.le_of_ble_eq_true rfl) rfl ?_; conv => whnf) | (refine LoadV.a _ rfl (Nat.le_of_ble_eq_true rfl) ?_; conv => whnf) | (refine DrawI.quiet (by kernel_rfl) (by kernel_rfl) ?_; conv => whnf) | (refine ArI.in64 (by omega) ?_; conv => whnf) | (refine ArI.inU8 (by omega) ?_; conv => whnf) | (refine ArI.inU64 (by omega) ?_; conv => whnf) | (refine ArI.inU32 (by omega) ?_; conv => whnf) | (refine RetI.one Try.results14 rfl ?_; conv => whnf) | (refine RetI.two Try.results14 rfl rfl ?_; conv => whnf) | (refine RetI.three Try.results14 rfl rfl rfl ?_; conv => whnf) | (refine RetI.none Try.results14 ?_; conv => whnf) | (refine ⟨by first | decide | omega, ?_⟩; conv => whnf))
      exact ⟨_, Sub.sel [] rfl, by rw [whole_no (fun k => hq (by have e := congrArg Prod.fst (hiff.1 k); dsimp only at e; subst e; exact ⟨rfl, rfl, rfl, rfl⟩))], rfl⟩
  · obtain rfl : j = lp.length := by omega
    have hlp : lp = l := by rw [List.take_length, hll, List.take_length] at hte; exact hte
    have hW : WholeOk l := hiff.2 (by rw [hlp, her])
    rw [hyes hW]
    conv => whnf
    refine ⟨by omega, ?_⟩
    conv => whnf
    refine LoadV.f (v := .int .i64 (seq0 l)) (show RdC C.F ⟨xb, yb + 0, none⟩ _ from hr0) rfl ?_
    conv => whnf
    repeat (first | (refine LoadV.s rfl rfl (forceV_of ?_); conv => whnf) | (refine LoadV.s rfl rfl ?_; conv => whnf) | (refine StoreV.c rfl rfl (Nat.le_of_ble_eq_true rfl) rfl ?_; conv => whnf) | (refine LoadV.a _ rfl (Nat.le_of_ble_eq_true rfl) ?_; conv => whnf) | (refine DrawI.quiet (by kernel_rfl) (by kernel_rfl) ?_; conv => whnf) | (refine ArI.in64 (by omega) ?_; conv => whnf) | (refine ArI.inU8 (by omega) ?_; conv => whnf) | (refine ArI.inU64 (by omega) ?_; conv => whnf) | (refine ArI.inU32 (by omega) ?_; conv => whnf) | (refine RetI.one Try.results14 rfl ?_; conv => whnf) | (refine RetI.two Try.results14 rfl rfl ?_; conv => whnf) | (refine RetI.three Try.results14 rfl rfl rfl ?_; conv => whnf) | (refine RetI.none Try.results14 ?_; conv => whnf) | (refine ⟨by first | decide | omega, ?_⟩; conv => whnf))
    exact ⟨_, Sub.sel [] rfl, rfl, rfl⟩
end Go.Proofs.Ytphnpchblkpjhaa
