/- The laws of the seats, as contracts: taken slots, lists, the walk, the calls. -/
import Derived.Test.YtpcefmocphbdgaaDoorSeat7
namespace Go.Proofs.YtpcefmocphbdgaaDoor
set_option linter.unusedVariables false
set_option linter.unusedSimpArgs false
set_option maxRecDepth 100000
open SL Go.RowKit Go.Maps Go.Lib

theorem intsV_put (L : List Int) (i : Nat) (y : Int) (h : i < L.length) : putAt (intsV L) i [.int .i64 y] = intsV (L.set i y) := by
  rw [List.set_eq_take_append_cons_drop, if_pos h]; simp [putAt]
theorem same_n (F : Mem) (oa ob : Option Addr) (ca cb n m : Nat) (a b : List Int) (hna : a.length = n) (hnb : b.length = m) (ha : SlF F 1 oa n (intsV a)) (hb : SlF F 1 ob m (intsV b)) (hn : n ≤ 9223372036854775807) :
    FT Tryd.prog 16 [.slice oa n ca, .slice ob m cb].toArray F [] (Ret (.bool (decide (a = b)))) := by
  subst hna; subst hnb
  exact same_ok F oa ob ca cb a b ha hb hn
/-- Two lists of slots that are alike. -/
theorem same_own {F F' : Mem} {B : Heap} (hF' : Ext F B F') (g1 g2 : Option (Nat × Nat)) (L : List Nat) (h1 : g1 = none ↔ L = []) (h2 : g2 = none ↔ L = []) (hn : L.length ≤ 9223372036854775807) {G1 G2 : HObj → Heap}
    [o1 : OwnHole B (svOf g1 L.length) L.length 3 1 (natsV L) G1] [o2 : OwnHole B (svOf g2 L.length) L.length 3 1 (natsV L) G2] :
    FT Tryd.prog 16 [svOf g1 L.length, svOf g2 L.length].toArray F' [] (Ret (.bool true)) := by
  have := same_n F' (oaOf g1) (oaOf g2) (capOf g1) (capOf g2) L.length L.length (ints L) (ints L) (by simp) (by simp) (by
    rw [← natsV_ints]; exact SlF.sv hF' (ho := o1) (by simp) (fun e => by rw [h1.1 e]; rfl)) (by
    rw [← natsV_ints]; exact SlF.sv hF' (ho := o2) (by simp) (fun e => by rw [h2.1 e]; rfl)) hn
  rwa [show decide (ints L = ints L) = true from decide_eq_true rfl] at this
theorem takeL_len {s : Nat} (n : Int) : (takeL s n).length ≤ 64 := by
  unfold takeL
  split
  · simp
  · rw [List.length_take]
    have := slots_length_le (cmp s); omega
theorem takeE_zero {s : Nat} (hs : s < 18446744073709551616) {n : Int} (h : takeE s n = 0) : ∃ m : Nat, n = (m : Int) ∧ m ≤ (slots (cmp s)).length ∧ takeL s n = (slots (cmp s)).take m ∧ takeS s n = putL s ((slots (cmp s)).take m) := by
  have hcc := count_cmp hs
  unfold takeE at h
  split at h
  · cases h
  · split at h
    · cases h
    · rename_i h1 h2
      obtain ⟨m, rfl⟩ := Int.eq_ofNat_of_zero_le (show 0 ≤ n by omega)
      have hno : ¬ ((m : Int) < 0 ∨ (m : Int) > 64 - (slots s).length) := by omega
      exact ⟨m, rfl, by omega, by unfold takeL; rw [if_neg hno, Int.toNat_natCast], by unfold takeS; rw [if_neg hno, Int.toNat_natCast]⟩
theorem takes_ok (F : Mem) (ht : TabA F) (s : Nat) (hs : s < 18446744073709551616) (n : Int) (hn : n ≤ 9223372036854775807) : FT Tryd.prog 4 [.int .u64 (s : Int), .int .i64 n].toArray F [] (Ret (.bool true)) := by
  have hL64 := takeL_len (s := s) n
  have hzero : takeE s n = 0 → _ := takeE_zero hs
  refine FT.of_body Tryd.func4 rfl Tryd.ntmps4 (by simp) fun C hC => ?_
  subst hC
  conv => whnf
  refine CallS.mk Tryd.call9 ⟨[], _, _, Sub.refl _, fun F' hF' => lives08_ok F' (ht.ext hF'), ?_⟩
  rintro e A' ⟨rfl, rfl⟩
  conv => whnf
  refine CallS.mk Tryd.call14 ⟨[], _, _, Sub.refl _, fun F' hF' => take_ok F' (ht.ext hF') s hs n hn, ?_⟩
  rintro e A' ⟨g1, hg1, rfl, rfl⟩
  conv => whnf
  refine CallS.mk Tryd.call15 ⟨[], _, _, Sub.refl _, fun F' hF' => rtake_ok F' s hs n hn, ?_⟩
  rintro e A' ⟨g2, hg2, rfl, rfl⟩
  conv => whnf
  refine CallS.mk Tryd.call14 ⟨[], _, _, Sub.refl _, fun F' hF' => take_ok F' (ht.ext hF') s hs n hn, ?_⟩
  rintro e A' ⟨g3, hg3, rfl, rfl⟩
  generalize takeL s n = L at *
  generalize takeS s n = t at *
  generalize takeE s n = er at *
  conv => whnf
  refine cond_of_false (bne_self_eq_false _) ?_
  conv => whnf
  refine cond_of_false (bne_self_eq_false _) ?_
  conv => whnf
  refine CallS.mk Tryd.call16 ⟨[], _, _, Sub.refl _, fun F' hF' => same_own hF' g1 g2 L hg1 hg2 (by omega), ?_⟩
  rintro e A' ⟨rfl, rfl⟩
  conv => whnf
  refine CallS.mk Tryd.call16 ⟨[], _, _, Sub.refl _, fun F' hF' => same_own hF' g3 g2 L hg3 hg2 (by omega), ?_⟩
  rintro e A' ⟨rfl, rfl⟩
  conv => whnf
  refine cond_split (fun he => ?_) (fun he => ?_)
  · have he : er = 0 := eq_of_beq he
    obtain ⟨m, rfl, hm, rfl, rfl⟩ := hzero he
    have hLm : ((slots (cmp s)).take m).length = m := by rw [List.length_take]; omega
    clear hzero
    conv => whnf
    refine LoopI.by_state (σ := Nat) (fun i => [(5, svOf g1 ((slots (cmp s)).take m).length), (6, .int .u64 (putL s ((slots (cmp s)).take m) : Int)), (8, svOf g2 ((slots (cmp s)).take m).length), (11, svOf g3 ((slots (cmp s)).take m).length), (14, .int .u64 (putL s ((slots (cmp s)).take i) : Int)), (64, svOf g1 ((slots (cmp s)).take m).length), (65, .int .i64 (((slots (cmp s)).take m).length : Int)), (66, .int .i64 (i : Int))])
      (fun i => [ownL g3 ((slots (cmp s)).take m), ownL g2 ((slots (cmp s)).take m), ownL g1 ((slots (cmp s)).take m)]) (fun i => i ≤ m) (fun i => m - i) 0 (Nat.zero_le _) ⟨rfl, rfl, rfl, rfl, rfl, rfl, rfl, rfl, trivial⟩ (Sub.refl _) ?_
    rintro i f0 hi
    conv => whnf
    refine cond_dec (fun h => ?_) (fun h => ?_)
    · have hil : i < (slots (cmp s)).length := by omega
      obtain ⟨hlow, h64⟩ := take_low hs hil
      have hput := take_put (s := s) hil h64
      obtain ⟨_, hlt⟩ := take_steps hs i (by omega)
      have hget : (natsV ((slots (cmp s)).take m))[i]? = some (.int .i64 ((slots (cmp s))[i] : Int)) := by
        rw [List.getElem?_map, List.getElem?_take, if_pos (by omega), List.getElem?_eq_getElem hil]; rfl
      obtain ⟨xb, xc, rfl⟩ := gsome hg1 (by intro e; rw [e] at h; simp only [List.length_nil] at h; omega)
      generalize putL s ((slots (cmp s)).take i) = x at hlt hlow hput ⊢
      generalize (slots (cmp s))[i] = y at hlow h64 hput hget
      conv => whnf
      refine ⟨by omega, ?_⟩
      conv => whnf
      rw [elemOff_nat]
      rotate_left
      · kernel_rfl
      rw [Nat.zero_add]
      refine LoadV.os rfl hget ?_
      conv => whnf
      refine CallS.mk Tryd.call17 ⟨[], _, _, Sub.refl _, fun F' hF' => lowest_ok F' (ht.ext hF') x hlt, ?_⟩
      rw [hlow]
      rintro e A' ⟨rfl, rfl⟩
      conv => whnf
      refine cond_of_false (bne_self_eq_false _) ?_
      conv => whnf
      refine CallS.mk Tryd.call10 ⟨[], _, _, Sub.refl _, fun F' hF' => put_ok F' x hlt (y : Int), ?_⟩
      rintro e A' ⟨rfl, rfl⟩
      conv => whnf
      refine ArI.to64 ((i + 1 : Nat) : Int) (by omega) (by omega) ?_
      conv => whnf
      exact ⟨i + 1, _, by omega, Sub.refl _, by omega, ⟨rfl, rfl, rfl, rfl, by rw [hput]; rfl, rfl, rfl, rfl, trivial⟩, rfl⟩
    · obtain rfl : i = m := by omega
      generalize (slots (cmp s)).take i = L at *
      conv => whnf
      refine cond_of_false (bne_self_eq_false _) ?_
      conv => whnf
      refine LoopI.by_state (σ := Nat × List Int) (fun x => [(5, svOf g1 L.length), (8, svOf g2 L.length), (11, svOf g3 L.length), (84, svOf g1 L.length), (85, .int .i64 (L.length : Int)), (86, .int .i64 (x.1 : Int))]) (fun x => [.own (svOf g1 L.length) L.length 3 1 (intsV x.2), ownL g3 L, ownL g2 L])
        (fun x => x.1 ≤ L.length ∧ x.2.length = L.length) (fun x => L.length - x.1) (0, ints L) ⟨Nat.zero_le _, by simp⟩ ⟨rfl, rfl, rfl, rfl, rfl, rfl, trivial⟩ (by rw [← natsV_ints]; exact Sub.sel [2, 0, 1] rfl) ?_
      rintro ⟨i, Q⟩ f1 ⟨hi2, hQ⟩
      dsimp only at hi2 hQ ⊢
      conv => whnf
      refine cond_dec (fun h2 => ?_) (fun h2 => ?_)
      · have hil : i < Q.length := by omega
        obtain ⟨xb, xc, rfl⟩ := gsome hg1 (by intro e; rw [e] at hQ; simp only [List.length_nil] at hQ; omega)
        conv => whnf
        refine ⟨by omega, ?_⟩
        conv => whnf
        rw [elemOff_nat]
        rotate_left
        · kernel_rfl
        rw [Nat.zero_add]
        refine StoreV.os (l := intsV Q) rfl rfl (by show i + 1 ≤ _; simp; omega) rfl ?_
        rw [show (Value.int IntKind.i64 (-1)).cells.toList = [.int .i64 (-1)] from rfl, intsV_put Q i _ hil]
        conv => whnf
        refine ArI.to64 ((i + 1 : Nat) : Int) (by omega) (by omega) ?_
        conv => whnf
        exact ⟨(i + 1, Q.set i (-1)), _, by dsimp only; omega, Sub.refl _, ⟨by dsimp only; omega, by simp [hQ]⟩, ⟨rfl, rfl, rfl, rfl, rfl, rfl, trivial⟩, rfl⟩
      · conv => whnf
        intro b3
        conv => whnf
        refine BuiltV.append (sv := svOf g1 L.length) (m := 1) Tryd.underlying30 rfl rfl rfl rfl (by decide) (Row.cells 1) rfl (by decide) rfl (by show (L.length + 1) * 8 ≤ _; omega) (by omega) fun gb4 gc4 => ?_
        conv => whnf
        refine CallS.mk Tryd.call16 ⟨[], _, _, Sub.refl _, fun F' hF' => same_own hF' g3 g2 L hg3 hg2 (by omega), ?_⟩
        rintro e A' ⟨rfl, rfl⟩
        conv => whnf
        refine ArI.in64 (by omega) ?_
        conv => whnf
        rw [show (((L.length + 1 : Nat) : Int) == (L.length : Int) + 1) = true from beq_iff_eq.2 (by omega)]
        conv => whnf
        repeat (first | (refine LoadV.s rfl rfl (forceV_of ?_); conv => whnf) | (refine LoadV.s rfl rfl ?_; conv => whnf) | (refine StoreV.c rfl rfl (Nat.le_of_ble_eq_true rfl) rfl ?_; conv => whnf) | (refine LoadV.a _ rfl (Nat.le_of_ble_eq_true rfl) ?_; conv => whnf) | (refine DrawI.quiet (by kernel_rfl) (by kernel_rfl) ?_; conv => whnf) | (refine ArI.in64 (by omega) ?_; conv => whnf) | (refine ArI.inU8 (by omega) ?_; conv => whnf) | (refine ArI.inU64 (by omega) ?_; conv => whnf) | (refine ArI.inU32 (by omega) ?_; conv => whnf) | (refine RetI.one Tryd.results4 rfl ?_; conv => whnf) | (refine RetI.two Tryd.results4 rfl rfl ?_; conv => whnf) | (refine RetI.three Tryd.results4 rfl rfl rfl ?_; conv => whnf) | (refine RetI.none Tryd.results4 ?_; conv => whnf) | (refine ⟨by first | decide | omega, ?_⟩; conv => whnf))
        exact ⟨_, Sub.sel [] rfl, rfl, rfl⟩
  · have he : er ≠ 0 := beq_eq_false_iff_ne.1 he
    conv => whnf
    refine LoopI.by_state (σ := Nat × List Int) (fun x => [(5, svOf g1 L.length), (8, svOf g2 L.length), (11, svOf g3 L.length), (84, svOf g1 L.length), (85, .int .i64 (L.length : Int)), (86, .int .i64 (x.1 : Int))]) (fun x => [.own (svOf g1 L.length) L.length 3 1 (intsV x.2), ownL g3 L, ownL g2 L])
      (fun x => x.1 ≤ L.length ∧ x.2.length = L.length) (fun x => L.length - x.1) (0, ints L) ⟨Nat.zero_le _, by simp⟩ ⟨rfl, rfl, rfl, rfl, rfl, rfl, trivial⟩ (by rw [← natsV_ints]; exact Sub.sel [2, 0, 1] rfl) ?_
    rintro ⟨i, Q⟩ f1 ⟨hi2, hQ⟩
    dsimp only at hi2 hQ ⊢
    conv => whnf
    refine cond_dec (fun h2 => ?_) (fun h2 => ?_)
    · have hil : i < Q.length := by omega
      obtain ⟨xb, xc, rfl⟩ := gsome hg1 (by intro e; rw [e] at hQ; simp only [List.length_nil] at hQ; omega)
      conv => whnf
      refine ⟨by omega, ?_⟩
      conv => whnf
      rw [elemOff_nat]
      rotate_left
      · kernel_rfl
      rw [Nat.zero_add]
      refine StoreV.os (l := intsV Q) rfl rfl (by show i + 1 ≤ _; simp; omega) rfl ?_
      rw [show (Value.int IntKind.i64 (-1)).cells.toList = [.int .i64 (-1)] from rfl, intsV_put Q i _ hil]
      conv => whnf
      refine ArI.to64 ((i + 1 : Nat) : Int) (by omega) (by omega) ?_
      conv => whnf
      exact ⟨(i + 1, Q.set i (-1)), _, by dsimp only; omega, Sub.refl _, ⟨by dsimp only; omega, by simp [hQ]⟩, ⟨rfl, rfl, rfl, rfl, rfl, rfl, trivial⟩, rfl⟩
    · conv => whnf
      intro b3
      conv => whnf
      refine BuiltV.append (sv := svOf g1 L.length) (m := 1) Tryd.underlying30 rfl rfl rfl rfl (by decide) (Row.cells 1) rfl (by decide) rfl (by show (L.length + 1) * 8 ≤ _; omega) (by omega) fun gb4 gc4 => ?_
      conv => whnf
      refine CallS.mk Tryd.call16 ⟨[], _, _, Sub.refl _, fun F' hF' => same_own hF' g3 g2 L hg3 hg2 (by omega), ?_⟩
      rintro e A' ⟨rfl, rfl⟩
      conv => whnf
      refine ArI.in64 (by omega) ?_
      conv => whnf
      rw [show (((L.length + 1 : Nat) : Int) == (L.length : Int) + 1) = true from beq_iff_eq.2 (by omega)]
      conv => whnf
      repeat (first | (refine LoadV.s rfl rfl (forceV_of ?_); conv => whnf) | (refine LoadV.s rfl rfl ?_; conv => whnf) | (refine StoreV.c rfl rfl (Nat.le_of_ble_eq_true rfl) rfl ?_; conv => whnf) | (refine LoadV.a _ rfl (Nat.le_of_ble_eq_true rfl) ?_; conv => whnf) | (refine DrawI.quiet (by kernel_rfl) (by kernel_rfl) ?_; conv => whnf) | (refine ArI.in64 (by omega) ?_; conv => whnf) | (refine ArI.inU8 (by omega) ?_; conv => whnf) | (refine ArI.inU64 (by omega) ?_; conv => whnf) | (refine ArI.inU32 (by omega) ?_; conv => whnf) | (refine RetI.one Tryd.results4 rfl ?_; conv => whnf) | (refine RetI.two Tryd.results4 rfl rfl ?_; conv => whnf) | (refine RetI.three Tryd.results4 rfl rfl rfl ?_; conv => whnf) | (refine RetI.none Tryd.results4 ?_; conv => whnf) | (refine ⟨by first | decide | omega, ?_⟩; conv => whnf))
      exact ⟨_, Sub.sel [] rfl, rfl, rfl⟩
end Go.Proofs.YtpcefmocphbdgaaDoor
