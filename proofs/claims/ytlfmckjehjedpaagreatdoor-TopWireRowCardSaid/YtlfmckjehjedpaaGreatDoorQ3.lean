/- What the laws' proofs stand on, in one row: laws in numbers and lists, contracts of functions. No condition. -/
import Derived.Test.YtlfmckjehjedpaaGreatDoorQ2
import Derived.Test.YtlfmckjehjedpaaGreatDoorQ1
/- The roster behind a batch: the reference's way. -/
namespace Go.Proofs.YtlfmckjehjedpaaGreatDoor
set_option linter.unusedVariables false
set_option linter.unusedSimpArgs false
set_option maxRecDepth 100000
open SL Go.RowKit Go.Maps
/-- The least free slot, while others are put. -/
theorem free_next {r : List EntI} (hr : r.length = 64) {since : Int} {J : List Int} {b : Int} (hb : 1 ≤ b) {i : Nat} (hi : i < (freeL r).length) (hJ : i ≤ J.length) (k : Nat) (hk : k < 64) :
    (k ∈ (freeL r).take i → tk ((putJ since r ((freeL r).take i) (J.take i) b)[k]'(by rw [putJ_length, hr]; exact hk))) ∧
    (k ∉ (freeL r).take i → (putJ since r ((freeL r).take i) (J.take i) b)[k]'(by rw [putJ_length, hr]; exact hk) = r[k]'(by rw [hr]; exact hk)) := by
  have hn : ((freeL r).take i).Nodup := (List.Pairwise.sublist (List.take_sublist _ _) (free_sorted _)).imp fun h => Nat.ne_of_lt h
  have hpl : (putJ since r ((freeL r).take i) (J.take i) b).length = 64 := by rw [putJ_length, hr]
  constructor
  · intro hm
    obtain ⟨j, hj, rfl⟩ := List.getElem_of_mem hm
    have hj2 : j < i := by rw [List.length_take] at hj; omega
    have h1 := putJ_here since (J.take i) r ((freeL r).take i) b j hj (by rw [List.length_take]; omega) hn (by rw [hr]; exact hk)
    rw [List.getElem?_eq_getElem (by rw [hpl]; exact hk)] at h1
    have h2 := Option.some.inj h1
    rw [h2]
    show b + (j : Int) ≠ 0
    omega
  · intro hm
    have h1 := putJ_other since (J.take i) r ((freeL r).take i) b k hm
    rw [List.getElem?_eq_getElem (by rw [hpl]; exact hk), List.getElem?_eq_getElem (by rw [hr]; exact hk)] at h1
    exact Option.some.inj h1
/-- Below the next free slot all are taken, and it is free. -/
theorem free_low {r : List EntI} (hr : r.length = 64) {since : Int} {J : List Int} {b : Int} (hb : 1 ≤ b) {i : Nat} (hi : i < (freeL r).length) (hJ : i ≤ J.length) :
    (freeL r)[i] < 64 ∧ ∀ k (hk : k < 64), (k < (freeL r)[i] → tk ((putJ since r ((freeL r).take i) (J.take i) b)[k]'(by rw [putJ_length, hr]; exact hk))) ∧ (k = (freeL r)[i] → ¬ tk ((putJ since r ((freeL r).take i) (J.take i) b)[k]'(by rw [putJ_length, hr]; exact hk))) := by
  have hs := free_sorted r
  rw [List.pairwise_iff_getElem] at hs
  obtain ⟨hfi, hff⟩ := (mem_free hr).1 (List.getElem_mem hi)
  refine ⟨by omega, fun k hk => ⟨fun hlt => ?_, fun he => ?_⟩⟩
  · by_cases hm : k ∈ (freeL r).take i
    · exact (free_next hr hb hi hJ k hk).1 hm
    · rw [(free_next hr hb hi hJ k hk).2 hm]
      by_cases ht : tk (r[k]'(by rw [hr]; exact hk))
      · exact ht
      · exfalso
        have hmem : k ∈ freeL r := (mem_free hr).2 ⟨by omega, ht⟩
        obtain ⟨j, hj, e⟩ := List.getElem_of_mem hmem
        by_cases hji : j < i
        · exact hm (by rw [← e]; exact List.mem_take_iff_getElem.2 ⟨j, by omega, rfl⟩)
        · by_cases hij : i = j
          · subst hij; omega
          · have := hs i j hi hj (by omega); omega
  · subst he
    have hm : (freeL r)[i] ∉ (freeL r).take i := fun hm => by
      obtain ⟨j, hj, e⟩ := List.getElem_of_mem hm
      rw [List.length_take] at hj
      have hj2 : j < i := by omega
      have e2 : (freeL r)[j]'(by omega) = (freeL r)[i] := by simpa using e
      have := hs j i (by omega) hi hj2
      omega
    rw [(free_next hr hb hi hJ _ hk).2 hm]
    exact hff
set_option maxHeartbeats 4000000 in
theorem move9_ok (F : Mem) (r : List EntI) (top ep : Int) (R : RosOk r top ep) (ht : top ≤ 32768) (he : ep ≤ 200) (L J : List Int) (s0 : BatS) (hB : BatF F L J s0) (hfit : Fit r L J) (since base : Int) (hs : 1 ≤ since ∧ since ≤ 200) (hb : top ≤ base) (hb1 : 1 ≤ base) (hbj : base + (J.length : Nat) ≤ 32768) :
    FT Tryz.prog 66 [.agg (rsV r).toArray, .agg (batL L J s0).toArray, .int .i64 since, .int .i64 base].toArray F [] (MoveR r L J since base) := by
  have hl := rsV_len R.len
  have hnL := hfit.lenL R
  have hnJ := hfit.lenJ R
  have hroom := hfit.room R
  have hfz := fitsE_zero.2 hfit
  have hbe := R.below hb hb1
  have hlr : ∀ S, (leaveR r S).length = 64 := fun S => by rw [leaveR_length]; exact R.len
  refine FT.of_body Tryz.func66 rfl Tryz.ntmps66 (by simp) fun C hC => ?_
  subst hC
  conv => whnf
  intro b4
  conv => whnf
  intro b5
  conv => whnf
  intro b8
  conv => whnf
  refine LoadV.p 192 (rsV r) rfl hl (by show 0 + 192 ≤ (rsV r).length; omega) (take_all0 hl) ?_
  conv => whnf
  refine LoadV.p 2 (batL L J s0) rfl rfl (Nat.le_of_ble_eq_true rfl) rfl ?_
  conv => whnf
  have hfo := fun F' hB => fits9_ok F' r top ep R ht he L J s0 hB
  rw [hfz] at hfo
  refine CallS.mk Tryz.call62 ⟨[], _, _, Sub.refl _, fun F' hF' => hfo F' (hB.ext hF'), ?_⟩
  rintro e A' ⟨rfl, rfl⟩
  conv => whnf
  refine cond_f (by omega) ?_
  conv => whnf
  refine cond_f (by omega) ?_
  conv => whnf
  refine LoadV.s rfl rfl ?_
  conv => whnf
  refine cond_dec (fun hc0 => ?_) (fun hc0 => ?_)
  · conv => whnf
    refine cond_f (by omega) ?_
    conv => whnf
    refine ArI.in64 (by omega) ?_
    conv => whnf
    refine cond_f (by omega) ?_
    conv => whnf
    refine LoopI.by_state (σ := Nat) (fun i => [(2, .int .i64 since), (3, .int .i64 base), (4, .pointer (some ⟨b4, 0, none⟩)), (5, .pointer (some ⟨b5, 0, none⟩)), (8, .pointer (some ⟨b8, 0, none⟩)), (13, .int .i64 (J.length : Int)), (14, .int .i64 (i : Int))])
      (fun _ => [.cells b8 (rsV (List.replicate 64 (0, 0, 0))) 60 (0, 0), .cells b5 (batL L J s0) 54 (0, 0), .cells b4 (rsV r) 60 (0, 0)]) (fun i => i ≤ 64) (fun i => 64 - i) 0 (Nat.zero_le _)
      ⟨rfl, rfl, rfl, rfl, rfl, rfl, rfl, trivial⟩ (Sub.refl _) ?_
    rintro i f1 hi3
    conv => whnf
    refine cond_dec (fun h4 => ?_) (fun h4 => ?_)
    · have hi64 : i < 64 := by omega
      have hil : i < r.length := by rw [R.len]; exact hi64
      have hr := hbe r[i] (List.getElem_mem hil)
      have hat := rsV_at (j := 1) hil (by omega)
      generalize r[i] = k at hr hat ⊢
      conv => whnf
      refine cond_t (by omega) ?_
      conv => whnf
      refine ⟨by omega, ?_⟩
      conv => whnf
      rw [fld_addr (n := 3) (f' := 1)]
      rotate_left
      · kernel_rfl
      · rfl
      · kernel_rfl
      refine LoadV.s rfl hat ?_
      conv => whnf
      refine cond_f (by omega) ?_
      conv => whnf
      refine ArI.to64 ((i + 1 : Nat) : Int) (by omega) (by omega) ?_
      conv => whnf
      exact ⟨i + 1, _, by omega, Sub.refl _, by omega, ⟨rfl, rfl, rfl, rfl, rfl, rfl, rfl, trivial⟩, rfl⟩
    · conv => whnf
      refine LoadV.s rfl rfl ?_
      conv => whnf
      refine LoopI.by_state (σ := Nat × Option (Nat × Nat)) (fun s => [(2, .int .i64 since), (3, .int .i64 base), (4, .pointer (some ⟨b4, 0, none⟩)), (5, .pointer (some ⟨b5, 0, none⟩)), (8, .pointer (some ⟨b8, 0, none⟩)), (15, svOf s.2 (leftL r (L.take s.1)).length), (16, .slice none 0 0), (79, .slice s0.oL L.length s0.cL), (80, .int .i64 (L.length : Int)), (81, .int .i64 (s.1 : Int))])
        (fun s => [ownT s.2 (leftL r (L.take s.1)), .cells b8 (rsV (List.replicate 64 (0, 0, 0))) 60 (0, 0), .cells b5 (batL L J s0) 54 (0, 0), .cells b4 (rsV (leaveR r (L.take s.1))) 60 (0, 0)])
        (fun s => s.1 ≤ L.length ∧ (s.2 = none ↔ leftL r (L.take s.1) = [])) (fun s => L.length - s.1) (0, none) ⟨Nat.zero_le _, by simp [leftL]⟩ ⟨rfl, rfl, rfl, rfl, rfl, rfl, rfl, rfl, rfl, rfl, trivial⟩ (by rw [show L.take (0, (none : Option (Nat × Nat))).1 = [] from rfl, leaveR_nil]; exact Sub.nil 97 2) ?_
      rintro ⟨i, g⟩ f3 ⟨hi, hg⟩
      dsimp only at hi hg ⊢
      conv => whnf
      refine cond_dec (fun h => ?_) (fun h => ?_)
      · have hil : i < L.length := by omega
        have hx := hB.fL.at hil
        obtain ⟨xb, xo, hxe, hrow⟩ := hx
        rw [hxe]
        have hrd := hrow i (.int .i64 L[i]) (by rw [List.getElem?_map, List.getElem?_eq_getElem hil]; rfl)
        have hst : leaveR r (L.take (i + 1)) = leaveR r (L.take i ++ [L[i]]) := by rw [take_snoc hil]
        have hlst := leftL_snoc r L hil
        have hon := hfit.on L[i] (List.getElem_mem hil)
        have hni := nodup_take hfit.nL hil
        generalize L[i] = w at hrd hst hlst hon hni ⊢
        have hfe := findI_leave hni r 0
        obtain ⟨q, hq, hfq, htq, hwq⟩ := find_on hon
        have hset := leaveR_set R.who (S := L.take i) hq htq
        rw [hwq, ← hst] at hset
        rw [hfq] at hlst
        have hq64 : q < 64 := by rw [← R.len]; exact hq
        have hlri := hlr (L.take i)
        have hle : (leftL r (L.take i)).length = i := by simp [leftL]; omega
        rw [hfq] at hfe
        have hrl : (rsV (leaveR r (L.take i))).length = 192 := rsV_len hlri
        generalize leaveR r (L.take i) = ri at hset hlri hfe hrl ⊢
        generalize leftL r (L.take i) = xs at hg hlst hle ⊢
        conv => whnf
        refine ⟨by omega, ?_⟩
        conv => whnf
        rw [elemOff_nat]
        rotate_left
        · kernel_rfl
        refine LoadV.f hrd rfl ?_
        conv => whnf
        refine LoadV.p 192 (rsV ri) rfl hrl (by show 0 + 192 ≤ (rsV ri).length; omega) (take_all0 hrl) ?_
        conv => whnf
        have hfind := fun F' => rfind_ok F' ri hlri w
        rw [hfe] at hfind
        refine CallS.mk Tryz.call63 ⟨[], _, _, Sub.refl _, fun F' hF' => hfind F', ?_⟩
        rintro e A' ⟨rfl, rfl⟩
        conv => whnf
        intro bl
        conv => whnf
        refine BuiltV.append (sv := svOf g xs.length) (m := 1) Tryz.underlying28 rfl rfl rfl rfl (by decide) (Row.cells 2) rfl (by decide) rfl (by show (xs.length + 1) * 16 ≤ _; omega) (by omega) fun gb gc => ?_
        conv => whnf
        refine ⟨by omega, ?_⟩
        conv => whnf
        rw [elem_off (n := 3)]
        rotate_left
        · kernel_rfl
        · rfl
        refine StoreV.c rfl rfl (by show q * 3 + 3 ≤ _; omega) rfl ?_
        rw [show (Value.agg #[Value.int IntKind.i64 0, Value.int IntKind.i64 0, Value.int IntKind.i64 0]).cells.toList = entF (0, 0, 0) from rfl, rsV_put (0, 0, 0) (by omega), hset]
        conv => whnf
        refine ArI.to64 ((i + 1 : Nat) : Int) (by omega) (by omega) ?_
        conv => whnf
        refine ⟨(i + 1, some (gb, gc)), _, by dsimp only; omega, Sub.sel [1, 2, 3, 4] rfl, ⟨by dsimp only; omega, by rw [hlst]; simp⟩, ⟨rfl, rfl, rfl, rfl, rfl, ?_, rfl, rfl, rfl, rfl, trivial⟩, ?_⟩
        · dsimp only; rw [hlst, List.length_append]; rfl
        · dsimp only [ownT]; rw [hlst, own_snocF seatF]; rfl
      · obtain rfl : i = L.length := by omega
        rw [List.take_length] at hg ⊢
        have hr2 := hlr L
        have hend : putJ since (leaveR r L) ((freeL (leaveR r L)).take J.length) (J.take J.length) base = moveR r L J since base := by
          unfold moveR
          rw [List.take_length]
          have key : ∀ (J : List Int) (r : List EntI) (ss : List Nat) (b : Int), putJ since r (ss.take J.length) J b = putJ since r ss J b := by
            intro J
            induction J with
            | nil => intro r ss b; rw [putJ_nil, putJ_nil]
            | cons w J ih => intro r ss b; cases ss with
              | nil => rfl
              | cons s ss => exact ih (r.set s (w, b, since)) ss (b + 1)
          exact key J _ _ base
        have hp0 : putJ since (leaveR r L) ((freeL (leaveR r L)).take 0) (J.take 0) base = leaveR r L := rfl
        have hj0 : joinedL r L (J.take 0) = [] := by simp [joinedL]
        rw [← hp0]
        conv => whnf
        refine LoadV.s rfl rfl ?_
        conv => whnf
        refine LoopI.by_state (σ := Nat × Option (Nat × Nat)) (fun s => [(2, .int .i64 since), (3, .int .i64 base), (4, .pointer (some ⟨b4, 0, none⟩)), (5, .pointer (some ⟨b5, 0, none⟩)), (8, .pointer (some ⟨b8, 0, none⟩)), (15, svOf g (leftL r L).length), (16, svOf s.2 (joinedL r L (J.take s.1)).length), (99, .slice s0.oJ J.length s0.cJ), (100, .int .i64 (J.length : Int)), (101, .int .i64 (s.1 : Int))])
          (fun s => [ownT s.2 (joinedL r L (J.take s.1)), ownT g (leftL r L), .cells b8 (rsV (List.replicate 64 (0, 0, 0))) 60 (0, 0), .cells b5 (batL L J s0) 54 (0, 0), .cells b4 (rsV (putJ since (leaveR r L) ((freeL (leaveR r L)).take s.1) (J.take s.1) base)) 60 (0, 0)])
          (fun s => s.1 ≤ J.length ∧ (s.2 = none ↔ joinedL r L (J.take s.1) = [])) (fun s => J.length - s.1) (0, none) ⟨Nat.zero_le _, by dsimp only; rw [hj0]; simp⟩ ⟨rfl, rfl, rfl, rfl, rfl, rfl, by dsimp only; rw [hj0]; rfl, rfl, rfl, rfl, trivial⟩ (by dsimp only; rw [hj0]; exact Sub.trans (Sub.nil 97 2) (Sub.sel [0, 1, 2, 3, 4] rfl)) ?_
        rintro ⟨i, g2⟩ f4 ⟨hi2, hg2⟩
        dsimp only at hi2 hg2 ⊢
        conv => whnf
        refine cond_dec (fun h2 => ?_) (fun h2 => ?_)
        · have hiJ : i < J.length := by omega
          have hif : i < (freeL (leaveR r L)).length := by omega
          have hx := hB.fJ.at hiJ
          obtain ⟨xb, xo, hxe, hrow⟩ := hx
          rw [hxe]
          have hrd := hrow i (.int .i64 J[i]) (by rw [List.getElem?_map, List.getElem?_eq_getElem hiJ]; rfl)
          have hst := putJ_step since (leaveR r L) (freeL (leaveR r L)) J base hif hiJ
          have hjst := joinedL_snoc r L J hiJ hif
          obtain ⟨hs64, hlow⟩ := free_low hr2 (since := since) (J := J) hb1 hif (show i ≤ J.length by omega)
          have hQi : (putJ since (leaveR r L) ((freeL (leaveR r L)).take i) (J.take i) base).length = 64 := by rw [putJ_length, hr2]
          have hlow : ∀ k e, (putJ since (leaveR r L) ((freeL (leaveR r L)).take i) (J.take i) base)[k]? = some e → (k < (freeL (leaveR r L))[i] → tk e) ∧ (k = (freeL (leaveR r L))[i] → ¬ tk e) := fun k e hke => by
            obtain ⟨hk, rfl⟩ := List.getElem?_eq_some_iff.1 hke
            exact hlow k (by omega)
          have hxl : (joinedL r L (J.take i)).length ≤ 64 := by
            unfold joinedL; rw [List.length_zipWith, List.length_take]; omega
          generalize (freeL (leaveR r L))[i] = q at hst hjst hs64 hlow ⊢
          generalize J[i] = w at hrd hst hjst ⊢
          generalize putJ since (leaveR r L) ((freeL (leaveR r L)).take i) (J.take i) base = ri at hst hQi hlow ⊢
          generalize joinedL r L (J.take i) = xs at hg2 hjst hxl ⊢
          have hQv := rsV_len hQi
          conv => whnf
          refine ⟨by omega, ?_⟩
          conv => whnf
          rw [elemOff_nat]
          rotate_left
          · kernel_rfl
          refine LoadV.f hrd rfl ?_
          conv => whnf
          refine LoopI.by_state (σ := Nat) (fun k => [(2, .int .i64 since), (3, .int .i64 base), (4, .pointer (some ⟨b4, 0, none⟩)), (5, .pointer (some ⟨b5, 0, none⟩)), (8, .pointer (some ⟨b8, 0, none⟩)), (15, svOf g (leftL r L).length), (16, svOf g2 xs.length), (20, .int .i64 (i : Int)), (21, .int .i64 w), (22, .int .i64 (k : Int)), (99, .slice (some ⟨xb, xo, none⟩) J.length s0.cJ), (100, .int .i64 (J.length : Int)), (101, .int .i64 (i : Int))])
            (fun _ => [ownT g2 xs, ownT g (leftL r L), .cells b8 (rsV (List.replicate 64 (0, 0, 0))) 60 (0, 0), .cells b5 (batL L J s0) 54 (0, 0), .cells b4 (rsV ri) 60 (0, 0)]) (fun k => k ≤ q) (fun k => 64 - k) 0 (Nat.zero_le _)
            ⟨rfl, rfl, rfl, rfl, rfl, rfl, rfl, rfl, rfl, rfl, rfl, rfl, rfl, trivial⟩ (Sub.refl _) ?_
          rintro k f5 hk
          have hk64 : k < 64 := by omega
          have hat := rsV_at (l := ri) (i := k) (j := 1) (by omega) (by omega)
          have hkr : k < ri.length := by omega
          obtain ⟨hl1, hl2⟩ := hlow k _ (List.getElem?_eq_getElem hkr)
          generalize hek : ri[k] = ek at hat hl1 hl2
          conv => whnf
          refine ⟨by omega, ?_⟩
          conv => whnf
          rw [fld_addr (n := 3) (f' := 1)]
          rotate_left
          · kernel_rfl
          · rfl
          · kernel_rfl
          refine LoadV.s rfl hat ?_
          conv => whnf
          refine cond_split (fun hb3 => ?_) (fun hb3 => ?_)
          · have hkq : k < q := by
              by_cases e : k = q
              · exact absurd (by simpa using hb3) (hl2 e)
              · omega
            conv => whnf
            refine ArI.to64 ((k + 1 : Nat) : Int) (by omega) (by omega) ?_
            conv => whnf
            exact ⟨k + 1, _, by omega, Sub.refl _, by omega, ⟨rfl, rfl, rfl, rfl, rfl, rfl, rfl, rfl, rfl, rfl, rfl, rfl, rfl, trivial⟩, rfl⟩
          · have hkq : k = q := by
              by_cases e : k < q
              · have := hl1 e
                exact absurd hb3 (by simpa using this)
              · omega
            subst hkq
            conv => whnf
            refine ArI.to64 (base + (i : Nat)) rfl (by omega) ?_
            generalize hbi : base + ((i : Nat) : Int) = bi at hst ⊢
            conv => whnf
            refine ⟨by omega, ?_⟩
            conv => whnf
            rw [elem_off (n := 3)]
            rotate_left
            · kernel_rfl
            · rfl
            refine StoreV.c rfl rfl (by show k * 3 + 3 ≤ _; omega) rfl ?_
            rw [show (Value.agg #[Value.int IntKind.i64 w, Value.int IntKind.i64 bi, Value.int IntKind.i64 since]).cells.toList = entF (w, bi, since) from rfl, rsV_put (w, bi, since) (by omega), ← hst]
            conv => whnf
            intro bl
            conv => whnf
            refine BuiltV.append (sv := svOf g2 xs.length) (m := 1) Tryz.underlying28 rfl rfl rfl rfl (by decide) (Row.cells 2) rfl (by decide) rfl (by show (xs.length + 1) * 16 ≤ _; omega) (by omega) fun gb gc => ?_
            conv => whnf
            refine ArI.to64 ((i + 1 : Nat) : Int) (by omega) (by omega) ?_
            conv => whnf
            refine ⟨(i + 1, some (gb, gc)), _, by dsimp only; omega, Sub.sel [1, 2, 3, 4, 5] rfl, ⟨by dsimp only; omega, by rw [hjst]; simp⟩, ⟨rfl, rfl, rfl, rfl, rfl, rfl, ?_, rfl, rfl, rfl, trivial⟩, ?_⟩
            · dsimp only; rw [hjst, List.length_append]; rfl
            · dsimp only [ownT]; rw [hjst, own_snocF seatF]; rfl
        · obtain rfl : i = J.length := by omega
          have hml : (moveR r L J since base).length = 64 := by rw [← hend, putJ_length, hr2]
          rw [hend]
          rw [List.take_length] at hg2 ⊢
          have hvl := rsV_len hml
          have hall := rsV_all (moveR r L J since base)
          have hzz : (rsV (List.replicate 64 (0, 0, 0))).length = 192 := rsV_len (by simp)
          generalize hM : rsV (moveR r L J since base) = M at hvl hall ⊢
          generalize rsV (List.replicate 64 (0, 0, 0)) = Z at hzz ⊢
          conv => whnf
          refine LoadV.p 192 M rfl hvl (by omega) (take_all0 hvl) ?_
          conv => whnf
          refine StoreV.p 192 M M rfl hvl rfl (by omega) hall (putAt_all (by omega)) ?_
          conv => whnf
          refine RetI.cell4 Tryz.results66 rfl rfl rfl rfl ?_
          conv => whnf
          refine LoadV.p 192 M rfl hvl (by omega) (take_all0 hvl) ?_
          exact ⟨_, Sub.sel [1, 0] rfl, g, g2, hg, hg2, by rw [← hM], rfl⟩
  · conv => whnf
    refine LoopI.by_state (σ := Nat) (fun i => [(2, .int .i64 since), (3, .int .i64 base), (4, .pointer (some ⟨b4, 0, none⟩)), (5, .pointer (some ⟨b5, 0, none⟩)), (8, .pointer (some ⟨b8, 0, none⟩)), (13, .int .i64 (J.length : Int)), (14, .int .i64 (i : Int))])
      (fun _ => [.cells b8 (rsV (List.replicate 64 (0, 0, 0))) 60 (0, 0), .cells b5 (batL L J s0) 54 (0, 0), .cells b4 (rsV r) 60 (0, 0)]) (fun i => i ≤ 64) (fun i => 64 - i) 0 (Nat.zero_le _)
      ⟨rfl, rfl, rfl, rfl, rfl, rfl, rfl, trivial⟩ (Sub.refl _) ?_
    rintro i f1 hi3
    conv => whnf
    refine cond_dec (fun h4 => ?_) (fun h4 => ?_)
    · conv => whnf
      refine cond_f hc0 ?_
      conv => whnf
      refine LoadV.s rfl rfl ?_
      conv => whnf
      refine LoopI.by_state (σ := Nat × Option (Nat × Nat)) (fun s => [(2, .int .i64 since), (3, .int .i64 base), (4, .pointer (some ⟨b4, 0, none⟩)), (5, .pointer (some ⟨b5, 0, none⟩)), (8, .pointer (some ⟨b8, 0, none⟩)), (15, svOf s.2 (leftL r (L.take s.1)).length), (16, .slice none 0 0), (79, .slice s0.oL L.length s0.cL), (80, .int .i64 (L.length : Int)), (81, .int .i64 (s.1 : Int))])
        (fun s => [ownT s.2 (leftL r (L.take s.1)), .cells b8 (rsV (List.replicate 64 (0, 0, 0))) 60 (0, 0), .cells b5 (batL L J s0) 54 (0, 0), .cells b4 (rsV (leaveR r (L.take s.1))) 60 (0, 0)])
        (fun s => s.1 ≤ L.length ∧ (s.2 = none ↔ leftL r (L.take s.1) = [])) (fun s => L.length - s.1) (0, none) ⟨Nat.zero_le _, by simp [leftL]⟩ ⟨rfl, rfl, rfl, rfl, rfl, rfl, rfl, rfl, rfl, rfl, trivial⟩ (by rw [show L.take (0, (none : Option (Nat × Nat))).1 = [] from rfl, leaveR_nil]; exact Sub.nil 97 2) ?_
      rintro ⟨i, g⟩ f3 ⟨hi, hg⟩
      dsimp only at hi hg ⊢
      conv => whnf
      refine cond_dec (fun h => ?_) (fun h => ?_)
      · have hil : i < L.length := by omega
        have hx := hB.fL.at hil
        obtain ⟨xb, xo, hxe, hrow⟩ := hx
        rw [hxe]
        have hrd := hrow i (.int .i64 L[i]) (by rw [List.getElem?_map, List.getElem?_eq_getElem hil]; rfl)
        have hst : leaveR r (L.take (i + 1)) = leaveR r (L.take i ++ [L[i]]) := by rw [take_snoc hil]
        have hlst := leftL_snoc r L hil
        have hon := hfit.on L[i] (List.getElem_mem hil)
        have hni := nodup_take hfit.nL hil
        generalize L[i] = w at hrd hst hlst hon hni ⊢
        have hfe := findI_leave hni r 0
        obtain ⟨q, hq, hfq, htq, hwq⟩ := find_on hon
        have hset := leaveR_set R.who (S := L.take i) hq htq
        rw [hwq, ← hst] at hset
        rw [hfq] at hlst
        have hq64 : q < 64 := by rw [← R.len]; exact hq
        have hlri := hlr (L.take i)
        have hle : (leftL r (L.take i)).length = i := by simp [leftL]; omega
        rw [hfq] at hfe
        have hrl : (rsV (leaveR r (L.take i))).length = 192 := rsV_len hlri
        generalize leaveR r (L.take i) = ri at hset hlri hfe hrl ⊢
        generalize leftL r (L.take i) = xs at hg hlst hle ⊢
        conv => whnf
        refine ⟨by omega, ?_⟩
        conv => whnf
        rw [elemOff_nat]
        rotate_left
        · kernel_rfl
        refine LoadV.f hrd rfl ?_
        conv => whnf
        refine LoadV.p 192 (rsV ri) rfl hrl (by show 0 + 192 ≤ (rsV ri).length; omega) (take_all0 hrl) ?_
        conv => whnf
        have hfind := fun F' => rfind_ok F' ri hlri w
        rw [hfe] at hfind
        refine CallS.mk Tryz.call63 ⟨[], _, _, Sub.refl _, fun F' hF' => hfind F', ?_⟩
        rintro e A' ⟨rfl, rfl⟩
        conv => whnf
        intro bl
        conv => whnf
        refine BuiltV.append (sv := svOf g xs.length) (m := 1) Tryz.underlying28 rfl rfl rfl rfl (by decide) (Row.cells 2) rfl (by decide) rfl (by show (xs.length + 1) * 16 ≤ _; omega) (by omega) fun gb gc => ?_
        conv => whnf
        refine ⟨by omega, ?_⟩
        conv => whnf
        rw [elem_off (n := 3)]
        rotate_left
        · kernel_rfl
        · rfl
        refine StoreV.c rfl rfl (by show q * 3 + 3 ≤ _; omega) rfl ?_
        rw [show (Value.agg #[Value.int IntKind.i64 0, Value.int IntKind.i64 0, Value.int IntKind.i64 0]).cells.toList = entF (0, 0, 0) from rfl, rsV_put (0, 0, 0) (by omega), hset]
        conv => whnf
        refine ArI.to64 ((i + 1 : Nat) : Int) (by omega) (by omega) ?_
        conv => whnf
        refine ⟨(i + 1, some (gb, gc)), _, by dsimp only; omega, Sub.sel [1, 2, 3, 4] rfl, ⟨by dsimp only; omega, by rw [hlst]; simp⟩, ⟨rfl, rfl, rfl, rfl, rfl, ?_, rfl, rfl, rfl, rfl, trivial⟩, ?_⟩
        · dsimp only; rw [hlst, List.length_append]; rfl
        · dsimp only [ownT]; rw [hlst, own_snocF seatF]; rfl
      · obtain rfl : i = L.length := by omega
        rw [List.take_length] at hg ⊢
        have hr2 := hlr L
        have hend : putJ since (leaveR r L) ((freeL (leaveR r L)).take J.length) (J.take J.length) base = moveR r L J since base := by
          unfold moveR
          rw [List.take_length]
          have key : ∀ (J : List Int) (r : List EntI) (ss : List Nat) (b : Int), putJ since r (ss.take J.length) J b = putJ since r ss J b := by
            intro J
            induction J with
            | nil => intro r ss b; rw [putJ_nil, putJ_nil]
            | cons w J ih => intro r ss b; cases ss with
              | nil => rfl
              | cons s ss => exact ih (r.set s (w, b, since)) ss (b + 1)
          exact key J _ _ base
        have hp0 : putJ since (leaveR r L) ((freeL (leaveR r L)).take 0) (J.take 0) base = leaveR r L := rfl
        have hj0 : joinedL r L (J.take 0) = [] := by simp [joinedL]
        rw [← hp0]
        conv => whnf
        refine LoadV.s rfl rfl ?_
        conv => whnf
        refine LoopI.by_state (σ := Nat × Option (Nat × Nat)) (fun s => [(2, .int .i64 since), (3, .int .i64 base), (4, .pointer (some ⟨b4, 0, none⟩)), (5, .pointer (some ⟨b5, 0, none⟩)), (8, .pointer (some ⟨b8, 0, none⟩)), (15, svOf g (leftL r L).length), (16, svOf s.2 (joinedL r L (J.take s.1)).length), (99, .slice s0.oJ J.length s0.cJ), (100, .int .i64 (J.length : Int)), (101, .int .i64 (s.1 : Int))])
          (fun s => [ownT s.2 (joinedL r L (J.take s.1)), ownT g (leftL r L), .cells b8 (rsV (List.replicate 64 (0, 0, 0))) 60 (0, 0), .cells b5 (batL L J s0) 54 (0, 0), .cells b4 (rsV (putJ since (leaveR r L) ((freeL (leaveR r L)).take s.1) (J.take s.1) base)) 60 (0, 0)])
          (fun s => s.1 ≤ J.length ∧ (s.2 = none ↔ joinedL r L (J.take s.1) = [])) (fun s => J.length - s.1) (0, none) ⟨Nat.zero_le _, by dsimp only; rw [hj0]; simp⟩ ⟨rfl, rfl, rfl, rfl, rfl, rfl, by dsimp only; rw [hj0]; rfl, rfl, rfl, rfl, trivial⟩ (by dsimp only; rw [hj0]; exact Sub.trans (Sub.nil 97 2) (Sub.sel [0, 1, 2, 3, 4] rfl)) ?_
        rintro ⟨i, g2⟩ f4 ⟨hi2, hg2⟩
        dsimp only at hi2 hg2 ⊢
        conv => whnf
        refine cond_dec (fun h2 => ?_) (fun h2 => ?_)
        · have hiJ : i < J.length := by omega
          have hif : i < (freeL (leaveR r L)).length := by omega
          have hx := hB.fJ.at hiJ
          obtain ⟨xb, xo, hxe, hrow⟩ := hx
          rw [hxe]
          have hrd := hrow i (.int .i64 J[i]) (by rw [List.getElem?_map, List.getElem?_eq_getElem hiJ]; rfl)
          have hst := putJ_step since (leaveR r L) (freeL (leaveR r L)) J base hif hiJ
          have hjst := joinedL_snoc r L J hiJ hif
          obtain ⟨hs64, hlow⟩ := free_low hr2 (since := since) (J := J) hb1 hif (show i ≤ J.length by omega)
          have hQi : (putJ since (leaveR r L) ((freeL (leaveR r L)).take i) (J.take i) base).length = 64 := by rw [putJ_length, hr2]
          have hlow : ∀ k e, (putJ since (leaveR r L) ((freeL (leaveR r L)).take i) (J.take i) base)[k]? = some e → (k < (freeL (leaveR r L))[i] → tk e) ∧ (k = (freeL (leaveR r L))[i] → ¬ tk e) := fun k e hke => by
            obtain ⟨hk, rfl⟩ := List.getElem?_eq_some_iff.1 hke
            exact hlow k (by omega)
          have hxl : (joinedL r L (J.take i)).length ≤ 64 := by
            unfold joinedL; rw [List.length_zipWith, List.length_take]; omega
          generalize (freeL (leaveR r L))[i] = q at hst hjst hs64 hlow ⊢
          generalize J[i] = w at hrd hst hjst ⊢
          generalize putJ since (leaveR r L) ((freeL (leaveR r L)).take i) (J.take i) base = ri at hst hQi hlow ⊢
          generalize joinedL r L (J.take i) = xs at hg2 hjst hxl ⊢
          have hQv := rsV_len hQi
          conv => whnf
          refine ⟨by omega, ?_⟩
          conv => whnf
          rw [elemOff_nat]
          rotate_left
          · kernel_rfl
          refine LoadV.f hrd rfl ?_
          conv => whnf
          refine LoopI.by_state (σ := Nat) (fun k => [(2, .int .i64 since), (3, .int .i64 base), (4, .pointer (some ⟨b4, 0, none⟩)), (5, .pointer (some ⟨b5, 0, none⟩)), (8, .pointer (some ⟨b8, 0, none⟩)), (15, svOf g (leftL r L).length), (16, svOf g2 xs.length), (20, .int .i64 (i : Int)), (21, .int .i64 w), (22, .int .i64 (k : Int)), (99, .slice (some ⟨xb, xo, none⟩) J.length s0.cJ), (100, .int .i64 (J.length : Int)), (101, .int .i64 (i : Int))])
            (fun _ => [ownT g2 xs, ownT g (leftL r L), .cells b8 (rsV (List.replicate 64 (0, 0, 0))) 60 (0, 0), .cells b5 (batL L J s0) 54 (0, 0), .cells b4 (rsV ri) 60 (0, 0)]) (fun k => k ≤ q) (fun k => 64 - k) 0 (Nat.zero_le _)
            ⟨rfl, rfl, rfl, rfl, rfl, rfl, rfl, rfl, rfl, rfl, rfl, rfl, rfl, trivial⟩ (Sub.refl _) ?_
          rintro k f5 hk
          have hk64 : k < 64 := by omega
          have hat := rsV_at (l := ri) (i := k) (j := 1) (by omega) (by omega)
          have hkr : k < ri.length := by omega
          obtain ⟨hl1, hl2⟩ := hlow k _ (List.getElem?_eq_getElem hkr)
          generalize hek : ri[k] = ek at hat hl1 hl2
          conv => whnf
          refine ⟨by omega, ?_⟩
          conv => whnf
          rw [fld_addr (n := 3) (f' := 1)]
          rotate_left
          · kernel_rfl
          · rfl
          · kernel_rfl
          refine LoadV.s rfl hat ?_
          conv => whnf
          refine cond_split (fun hb3 => ?_) (fun hb3 => ?_)
          · have hkq : k < q := by
              by_cases e : k = q
              · exact absurd (by simpa using hb3) (hl2 e)
              · omega
            conv => whnf
            refine ArI.to64 ((k + 1 : Nat) : Int) (by omega) (by omega) ?_
            conv => whnf
            exact ⟨k + 1, _, by omega, Sub.refl _, by omega, ⟨rfl, rfl, rfl, rfl, rfl, rfl, rfl, rfl, rfl, rfl, rfl, rfl, rfl, trivial⟩, rfl⟩
          · have hkq : k = q := by
              by_cases e : k < q
              · have := hl1 e
                exact absurd hb3 (by simpa using this)
              · omega
            subst hkq
            conv => whnf
            refine ArI.to64 (base + (i : Nat)) rfl (by omega) ?_
            generalize hbi : base + ((i : Nat) : Int) = bi at hst ⊢
            conv => whnf
            refine ⟨by omega, ?_⟩
            conv => whnf
            rw [elem_off (n := 3)]
            rotate_left
            · kernel_rfl
            · rfl
            refine StoreV.c rfl rfl (by show k * 3 + 3 ≤ _; omega) rfl ?_
            rw [show (Value.agg #[Value.int IntKind.i64 w, Value.int IntKind.i64 bi, Value.int IntKind.i64 since]).cells.toList = entF (w, bi, since) from rfl, rsV_put (w, bi, since) (by omega), ← hst]
            conv => whnf
            intro bl
            conv => whnf
            refine BuiltV.append (sv := svOf g2 xs.length) (m := 1) Tryz.underlying28 rfl rfl rfl rfl (by decide) (Row.cells 2) rfl (by decide) rfl (by show (xs.length + 1) * 16 ≤ _; omega) (by omega) fun gb gc => ?_
            conv => whnf
            refine ArI.to64 ((i + 1 : Nat) : Int) (by omega) (by omega) ?_
            conv => whnf
            refine ⟨(i + 1, some (gb, gc)), _, by dsimp only; omega, Sub.sel [1, 2, 3, 4, 5] rfl, ⟨by dsimp only; omega, by rw [hjst]; simp⟩, ⟨rfl, rfl, rfl, rfl, rfl, rfl, ?_, rfl, rfl, rfl, trivial⟩, ?_⟩
            · dsimp only; rw [hjst, List.length_append]; rfl
            · dsimp only [ownT]; rw [hjst, own_snocF seatF]; rfl
        · obtain rfl : i = J.length := by omega
          have hml : (moveR r L J since base).length = 64 := by rw [← hend, putJ_length, hr2]
          rw [hend]
          rw [List.take_length] at hg2 ⊢
          have hvl := rsV_len hml
          have hall := rsV_all (moveR r L J since base)
          have hzz : (rsV (List.replicate 64 (0, 0, 0))).length = 192 := rsV_len (by simp)
          generalize hM : rsV (moveR r L J since base) = M at hvl hall ⊢
          generalize rsV (List.replicate 64 (0, 0, 0)) = Z at hzz ⊢
          conv => whnf
          refine LoadV.p 192 M rfl hvl (by omega) (take_all0 hvl) ?_
          conv => whnf
          refine StoreV.p 192 M M rfl hvl rfl (by omega) hall (putAt_all (by omega)) ?_
          conv => whnf
          refine RetI.cell4 Tryz.results66 rfl rfl rfl rfl ?_
          conv => whnf
          refine LoadV.p 192 M rfl hvl (by omega) (take_all0 hvl) ?_
          exact ⟨_, Sub.sel [1, 0] rfl, g, g2, hg, hg2, by rw [← hM], rfl⟩
    · conv => whnf
      refine LoadV.s rfl rfl ?_
      conv => whnf
      refine LoopI.by_state (σ := Nat × Option (Nat × Nat)) (fun s => [(2, .int .i64 since), (3, .int .i64 base), (4, .pointer (some ⟨b4, 0, none⟩)), (5, .pointer (some ⟨b5, 0, none⟩)), (8, .pointer (some ⟨b8, 0, none⟩)), (15, svOf s.2 (leftL r (L.take s.1)).length), (16, .slice none 0 0), (79, .slice s0.oL L.length s0.cL), (80, .int .i64 (L.length : Int)), (81, .int .i64 (s.1 : Int))])
        (fun s => [ownT s.2 (leftL r (L.take s.1)), .cells b8 (rsV (List.replicate 64 (0, 0, 0))) 60 (0, 0), .cells b5 (batL L J s0) 54 (0, 0), .cells b4 (rsV (leaveR r (L.take s.1))) 60 (0, 0)])
        (fun s => s.1 ≤ L.length ∧ (s.2 = none ↔ leftL r (L.take s.1) = [])) (fun s => L.length - s.1) (0, none) ⟨Nat.zero_le _, by simp [leftL]⟩ ⟨rfl, rfl, rfl, rfl, rfl, rfl, rfl, rfl, rfl, rfl, trivial⟩ (by rw [show L.take (0, (none : Option (Nat × Nat))).1 = [] from rfl, leaveR_nil]; exact Sub.nil 97 2) ?_
      rintro ⟨i, g⟩ f3 ⟨hi, hg⟩
      dsimp only at hi hg ⊢
      conv => whnf
      refine cond_dec (fun h => ?_) (fun h => ?_)
      · have hil : i < L.length := by omega
        have hx := hB.fL.at hil
        obtain ⟨xb, xo, hxe, hrow⟩ := hx
        rw [hxe]
        have hrd := hrow i (.int .i64 L[i]) (by rw [List.getElem?_map, List.getElem?_eq_getElem hil]; rfl)
        have hst : leaveR r (L.take (i + 1)) = leaveR r (L.take i ++ [L[i]]) := by rw [take_snoc hil]
        have hlst := leftL_snoc r L hil
        have hon := hfit.on L[i] (List.getElem_mem hil)
        have hni := nodup_take hfit.nL hil
        generalize L[i] = w at hrd hst hlst hon hni ⊢
        have hfe := findI_leave hni r 0
        obtain ⟨q, hq, hfq, htq, hwq⟩ := find_on hon
        have hset := leaveR_set R.who (S := L.take i) hq htq
        rw [hwq, ← hst] at hset
        rw [hfq] at hlst
        have hq64 : q < 64 := by rw [← R.len]; exact hq
        have hlri := hlr (L.take i)
        have hle : (leftL r (L.take i)).length = i := by simp [leftL]; omega
        rw [hfq] at hfe
        have hrl : (rsV (leaveR r (L.take i))).length = 192 := rsV_len hlri
        generalize leaveR r (L.take i) = ri at hset hlri hfe hrl ⊢
        generalize leftL r (L.take i) = xs at hg hlst hle ⊢
        conv => whnf
        refine ⟨by omega, ?_⟩
        conv => whnf
        rw [elemOff_nat]
        rotate_left
        · kernel_rfl
        refine LoadV.f hrd rfl ?_
        conv => whnf
        refine LoadV.p 192 (rsV ri) rfl hrl (by show 0 + 192 ≤ (rsV ri).length; omega) (take_all0 hrl) ?_
        conv => whnf
        have hfind := fun F' => rfind_ok F' ri hlri w
        rw [hfe] at hfind
        refine CallS.mk Tryz.call63 ⟨[], _, _, Sub.refl _, fun F' hF' => hfind F', ?_⟩
        rintro e A' ⟨rfl, rfl⟩
        conv => whnf
        intro bl
        conv => whnf
        refine BuiltV.append (sv := svOf g xs.length) (m := 1) Tryz.underlying28 rfl rfl rfl rfl (by decide) (Row.cells 2) rfl (by decide) rfl (by show (xs.length + 1) * 16 ≤ _; omega) (by omega) fun gb gc => ?_
        conv => whnf
        refine ⟨by omega, ?_⟩
        conv => whnf
        rw [elem_off (n := 3)]
        rotate_left
        · kernel_rfl
        · rfl
        refine StoreV.c rfl rfl (by show q * 3 + 3 ≤ _; omega) rfl ?_
        rw [show (Value.agg #[Value.int IntKind.i64 0, Value.int IntKind.i64 0, Value.int IntKind.i64 0]).cells.toList = entF (0, 0, 0) from rfl, rsV_put (0, 0, 0) (by omega), hset]
        conv => whnf
        refine ArI.to64 ((i + 1 : Nat) : Int) (by omega) (by omega) ?_
        conv => whnf
        refine ⟨(i + 1, some (gb, gc)), _, by dsimp only; omega, Sub.sel [1, 2, 3, 4] rfl, ⟨by dsimp only; omega, by rw [hlst]; simp⟩, ⟨rfl, rfl, rfl, rfl, rfl, ?_, rfl, rfl, rfl, rfl, trivial⟩, ?_⟩
        · dsimp only; rw [hlst, List.length_append]; rfl
        · dsimp only [ownT]; rw [hlst, own_snocF seatF]; rfl
      · obtain rfl : i = L.length := by omega
        rw [List.take_length] at hg ⊢
        have hr2 := hlr L
        have hend : putJ since (leaveR r L) ((freeL (leaveR r L)).take J.length) (J.take J.length) base = moveR r L J since base := by
          unfold moveR
          rw [List.take_length]
          have key : ∀ (J : List Int) (r : List EntI) (ss : List Nat) (b : Int), putJ since r (ss.take J.length) J b = putJ since r ss J b := by
            intro J
            induction J with
            | nil => intro r ss b; rw [putJ_nil, putJ_nil]
            | cons w J ih => intro r ss b; cases ss with
              | nil => rfl
              | cons s ss => exact ih (r.set s (w, b, since)) ss (b + 1)
          exact key J _ _ base
        have hp0 : putJ since (leaveR r L) ((freeL (leaveR r L)).take 0) (J.take 0) base = leaveR r L := rfl
        have hj0 : joinedL r L (J.take 0) = [] := by simp [joinedL]
        rw [← hp0]
        conv => whnf
        refine LoadV.s rfl rfl ?_
        conv => whnf
        refine LoopI.by_state (σ := Nat × Option (Nat × Nat)) (fun s => [(2, .int .i64 since), (3, .int .i64 base), (4, .pointer (some ⟨b4, 0, none⟩)), (5, .pointer (some ⟨b5, 0, none⟩)), (8, .pointer (some ⟨b8, 0, none⟩)), (15, svOf g (leftL r L).length), (16, svOf s.2 (joinedL r L (J.take s.1)).length), (99, .slice s0.oJ J.length s0.cJ), (100, .int .i64 (J.length : Int)), (101, .int .i64 (s.1 : Int))])
          (fun s => [ownT s.2 (joinedL r L (J.take s.1)), ownT g (leftL r L), .cells b8 (rsV (List.replicate 64 (0, 0, 0))) 60 (0, 0), .cells b5 (batL L J s0) 54 (0, 0), .cells b4 (rsV (putJ since (leaveR r L) ((freeL (leaveR r L)).take s.1) (J.take s.1) base)) 60 (0, 0)])
          (fun s => s.1 ≤ J.length ∧ (s.2 = none ↔ joinedL r L (J.take s.1) = [])) (fun s => J.length - s.1) (0, none) ⟨Nat.zero_le _, by dsimp only; rw [hj0]; simp⟩ ⟨rfl, rfl, rfl, rfl, rfl, rfl, by dsimp only; rw [hj0]; rfl, rfl, rfl, rfl, trivial⟩ (by dsimp only; rw [hj0]; exact Sub.trans (Sub.nil 97 2) (Sub.sel [0, 1, 2, 3, 4] rfl)) ?_
        rintro ⟨i, g2⟩ f4 ⟨hi2, hg2⟩
        dsimp only at hi2 hg2 ⊢
        conv => whnf
        refine cond_dec (fun h2 => ?_) (fun h2 => ?_)
        · have hiJ : i < J.length := by omega
          have hif : i < (freeL (leaveR r L)).length := by omega
          have hx := hB.fJ.at hiJ
          obtain ⟨xb, xo, hxe, hrow⟩ := hx
          rw [hxe]
          have hrd := hrow i (.int .i64 J[i]) (by rw [List.getElem?_map, List.getElem?_eq_getElem hiJ]; rfl)
          have hst := putJ_step since (leaveR r L) (freeL (leaveR r L)) J base hif hiJ
          have hjst := joinedL_snoc r L J hiJ hif
          obtain ⟨hs64, hlow⟩ := free_low hr2 (since := since) (J := J) hb1 hif (show i ≤ J.length by omega)
          have hQi : (putJ since (leaveR r L) ((freeL (leaveR r L)).take i) (J.take i) base).length = 64 := by rw [putJ_length, hr2]
          have hlow : ∀ k e, (putJ since (leaveR r L) ((freeL (leaveR r L)).take i) (J.take i) base)[k]? = some e → (k < (freeL (leaveR r L))[i] → tk e) ∧ (k = (freeL (leaveR r L))[i] → ¬ tk e) := fun k e hke => by
            obtain ⟨hk, rfl⟩ := List.getElem?_eq_some_iff.1 hke
            exact hlow k (by omega)
          have hxl : (joinedL r L (J.take i)).length ≤ 64 := by
            unfold joinedL; rw [List.length_zipWith, List.length_take]; omega
          generalize (freeL (leaveR r L))[i] = q at hst hjst hs64 hlow ⊢
          generalize J[i] = w at hrd hst hjst ⊢
          generalize putJ since (leaveR r L) ((freeL (leaveR r L)).take i) (J.take i) base = ri at hst hQi hlow ⊢
          generalize joinedL r L (J.take i) = xs at hg2 hjst hxl ⊢
          have hQv := rsV_len hQi
          conv => whnf
          refine ⟨by omega, ?_⟩
          conv => whnf
          rw [elemOff_nat]
          rotate_left
          · kernel_rfl
          refine LoadV.f hrd rfl ?_
          conv => whnf
          refine LoopI.by_state (σ := Nat) (fun k => [(2, .int .i64 since), (3, .int .i64 base), (4, .pointer (some ⟨b4, 0, none⟩)), (5, .pointer (some ⟨b5, 0, none⟩)), (8, .pointer (some ⟨b8, 0, none⟩)), (15, svOf g (leftL r L).length), (16, svOf g2 xs.length), (20, .int .i64 (i : Int)), (21, .int .i64 w), (22, .int .i64 (k : Int)), (99, .slice (some ⟨xb, xo, none⟩) J.length s0.cJ), (100, .int .i64 (J.length : Int)), (101, .int .i64 (i : Int))])
            (fun _ => [ownT g2 xs, ownT g (leftL r L), .cells b8 (rsV (List.replicate 64 (0, 0, 0))) 60 (0, 0), .cells b5 (batL L J s0) 54 (0, 0), .cells b4 (rsV ri) 60 (0, 0)]) (fun k => k ≤ q) (fun k => 64 - k) 0 (Nat.zero_le _)
            ⟨rfl, rfl, rfl, rfl, rfl, rfl, rfl, rfl, rfl, rfl, rfl, rfl, rfl, trivial⟩ (Sub.refl _) ?_
          rintro k f5 hk
          have hk64 : k < 64 := by omega
          have hat := rsV_at (l := ri) (i := k) (j := 1) (by omega) (by omega)
          have hkr : k < ri.length := by omega
          obtain ⟨hl1, hl2⟩ := hlow k _ (List.getElem?_eq_getElem hkr)
          generalize hek : ri[k] = ek at hat hl1 hl2
          conv => whnf
          refine ⟨by omega, ?_⟩
          conv => whnf
          rw [fld_addr (n := 3) (f' := 1)]
          rotate_left
          · kernel_rfl
          · rfl
          · kernel_rfl
          refine LoadV.s rfl hat ?_
          conv => whnf
          refine cond_split (fun hb3 => ?_) (fun hb3 => ?_)
          · have hkq : k < q := by
              by_cases e : k = q
              · exact absurd (by simpa using hb3) (hl2 e)
              · omega
            conv => whnf
            refine ArI.to64 ((k + 1 : Nat) : Int) (by omega) (by omega) ?_
            conv => whnf
            exact ⟨k + 1, _, by omega, Sub.refl _, by omega, ⟨rfl, rfl, rfl, rfl, rfl, rfl, rfl, rfl, rfl, rfl, rfl, rfl, rfl, trivial⟩, rfl⟩
          · have hkq : k = q := by
              by_cases e : k < q
              · have := hl1 e
                exact absurd hb3 (by simpa using this)
              · omega
            subst hkq
            conv => whnf
            refine ArI.to64 (base + (i : Nat)) rfl (by omega) ?_
            generalize hbi : base + ((i : Nat) : Int) = bi at hst ⊢
            conv => whnf
            refine ⟨by omega, ?_⟩
            conv => whnf
            rw [elem_off (n := 3)]
            rotate_left
            · kernel_rfl
            · rfl
            refine StoreV.c rfl rfl (by show k * 3 + 3 ≤ _; omega) rfl ?_
            rw [show (Value.agg #[Value.int IntKind.i64 w, Value.int IntKind.i64 bi, Value.int IntKind.i64 since]).cells.toList = entF (w, bi, since) from rfl, rsV_put (w, bi, since) (by omega), ← hst]
            conv => whnf
            intro bl
            conv => whnf
            refine BuiltV.append (sv := svOf g2 xs.length) (m := 1) Tryz.underlying28 rfl rfl rfl rfl (by decide) (Row.cells 2) rfl (by decide) rfl (by show (xs.length + 1) * 16 ≤ _; omega) (by omega) fun gb gc => ?_
            conv => whnf
            refine ArI.to64 ((i + 1 : Nat) : Int) (by omega) (by omega) ?_
            conv => whnf
            refine ⟨(i + 1, some (gb, gc)), _, by dsimp only; omega, Sub.sel [1, 2, 3, 4, 5] rfl, ⟨by dsimp only; omega, by rw [hjst]; simp⟩, ⟨rfl, rfl, rfl, rfl, rfl, rfl, ?_, rfl, rfl, rfl, trivial⟩, ?_⟩
            · dsimp only; rw [hjst, List.length_append]; rfl
            · dsimp only [ownT]; rw [hjst, own_snocF seatF]; rfl
        · obtain rfl : i = J.length := by omega
          have hml : (moveR r L J since base).length = 64 := by rw [← hend, putJ_length, hr2]
          rw [hend]
          rw [List.take_length] at hg2 ⊢
          have hvl := rsV_len hml
          have hall := rsV_all (moveR r L J since base)
          have hzz : (rsV (List.replicate 64 (0, 0, 0))).length = 192 := rsV_len (by simp)
          generalize hM : rsV (moveR r L J since base) = M at hvl hall ⊢
          generalize rsV (List.replicate 64 (0, 0, 0)) = Z at hzz ⊢
          conv => whnf
          refine LoadV.p 192 M rfl hvl (by omega) (take_all0 hvl) ?_
          conv => whnf
          refine StoreV.p 192 M M rfl hvl rfl (by omega) hall (putAt_all (by omega)) ?_
          conv => whnf
          refine RetI.cell4 Tryz.results66 rfl rfl rfl rfl ?_
          conv => whnf
          refine LoadV.p 192 M rfl hvl (by omega) (take_all0 hvl) ?_
          exact ⟨_, Sub.sel [1, 0] rfl, g, g2, hg, hg2, by rw [← hM], rfl⟩
end Go.Proofs.YtlfmckjehjedpaaGreatDoor

/- A tree one step on: plain laws. -/
namespace Go.Proofs.YtlfmckjehjedpaaGreatDoor
set_option linter.unusedVariables false
set_option linter.unusedSimpArgs false
set_option maxRecDepth 100000
open SL Go.RowKit Go.Maps
/-- Which nodes a batch replaces. -/
def repT (t : TreeI) (L : List Int) : Nat → Bool := repP (leftL t.rs L)
def nextT (t : TreeI) (L J : List Int) : TreeI :=
  ⟨t.ep + 1, t.fr + (cntN (repT t L) 21 : Nat) + (J.length : Nat), turnK (repT t L) t.ks t.fr, moveR t.rs L J (t.ep + 1) (t.fr + (cntN (repT t L) 21 : Nat))⟩
def stepE (t : TreeI) (L J : List Int) : Int := if t.ep = 200 then 19 else fitsE t.rs L J
theorem stepE_zero {t : TreeI} {L J : List Int} : stepE t L J = 0 ↔ t.ep ≠ 200 ∧ Fit t.rs L J := by
  unfold stepE
  by_cases h : t.ep = 200
  · rw [if_pos h]; exact ⟨fun e => (by cases e), fun e => absurd h e.1⟩
  · rw [if_neg h, fitsE_zero]; exact ⟨fun e => ⟨h, e⟩, fun e => e.2⟩
theorem leftL_slots {r : List EntI} (h : r.length = 64) {L : List Int} (ho : ∀ w ∈ L, 0 ≤ findI r w 0) : SlotsOk (leftL r L) := fun x hx => by
  obtain ⟨w, hw, rfl⟩ := List.mem_map.1 hx
  obtain ⟨i, hi, e, _⟩ := find_on (ho w hw)
  dsimp only
  rw [e]; omega
theorem cntA_anti (p : Nat → Bool) {a b : Nat} (h : a ≤ b) : cntA p b ≤ cntA p a := by
  have := cntN_mono p h
  unfold cntA; omega
theorem turnK_length (p : Nat → Bool) (ks : List KeyI) (fresh : Int) : (turnK p ks fresh).length = ks.length := midK_length _ _ _ _
theorem turnK_at (p : Nat → Bool) (ks : List KeyI) (fresh : Int) (v : Nat) (h : v < ks.length) : (turnK p ks fresh)[v]'(by rw [turnK_length]; exact h) = newKey p fresh v ks[v] := by
  unfold turnK; rw [midK_at p ks fresh 0 v h, if_pos (Nat.zero_le _)]
theorem cntA_top (p : Nat → Bool) {v : Nat} (h : v < 21) (hp : p v = true) : cntA p (v + 1) + 1 ≤ cntN p 21 := by
  have h1 := cntA_step p h
  rw [if_pos hp] at h1
  have h2 := cntA_anti p (show 0 ≤ v by omega)
  rw [cntA_zero] at h2
  omega
theorem turnK_ok {ks : List KeyI} {top ep : Int} (K : KeysOk ks top ep) (p : Nat → Bool) : KeysOk (turnK p ks top) (top + (cntN p 21 : Nat)) (ep + 1) := by
  refine ⟨by rw [turnK_length]; exact K.len, fun k hk => ?_, fun i j hi hj _ _ h3 => ?_⟩
  · obtain ⟨v, hv, rfl⟩ := List.getElem_of_mem hk
    rw [turnK_length] at hv
    rw [turnK_at p ks top v hv]
    have hr := K.rng ks[v] (List.getElem_mem hv)
    have hv21 : v < 21 := by rw [← K.len]; exact hv
    unfold newKey
    by_cases hp : p v = true
    · rw [if_pos hp]
      have := cntA_top p hv21 hp
      dsimp only; omega
    · rw [if_neg hp]; dsimp only; omega
  · rw [turnK_length] at hi hj
    rw [turnK_at p ks top i hi, turnK_at p ks top j hj] at h3
    have hi21 : i < 21 := by rw [← K.len]; exact hi
    have hj21 : j < 21 := by rw [← K.len]; exact hj
    have hri := K.rng ks[i] (List.getElem_mem hi)
    have hrj := K.rng ks[j] (List.getElem_mem hj)
    unfold newKey at h3
    by_cases h1 : p i = true <;> by_cases h2 : p j = true
    · rw [if_pos h1, if_pos h2] at h3
      dsimp only at h3
      have e : cntA p (i + 1) = cntA p (j + 1) := by omega
      have key : ∀ a b, a < b → b < 21 → p b = true → cntA p (b + 1) < cntA p (a + 1) := fun a b hab hb hp => by
        have h1 := cntA_step p hb
        rw [if_pos hp] at h1
        have h2 := cntA_anti p (show a + 1 ≤ b by omega)
        omega
      rcases Nat.lt_trichotomy i j with h | h | h
      · have := key i j h hj21 h2; omega
      · exact h
      · have := key j i h hi21 h1; omega
    · rw [if_pos h1, if_neg h2] at h3; dsimp only at h3; omega
    · rw [if_neg h1, if_pos h2] at h3; dsimp only at h3; omega
    · rw [if_neg h1, if_neg h2] at h3
      exact K.dist i j hi hj trivial trivial h3
/-- What stands at a slot behind a batch. -/
theorem moveR_at {r : List EntI} {top ep : Int} (R : RosOk r top ep) {L J : List Int} (h : Fit r L J) (since base : Int) (k : Nat) (hk : k < 64) :
    ((moveR r L J since base)[k]? = (leaveR r L)[k]? ∧ ∀ j (hj : j < J.length), (freeL (leaveR r L))[j]? ≠ some k) ∨ ∃ j, ∃ hj : j < J.length, (freeL (leaveR r L))[j]? = some k ∧ (moveR r L J since base)[k]? = some (J[j], base + (j : Nat), since) := by
  have hl : (leaveR r L).length = 64 := by rw [leaveR_length]; exact R.len
  have hroom := h.room R
  have hn : (freeL (leaveR r L)).Nodup := (free_sorted _).imp fun h => Nat.ne_of_lt h
  have key : ∀ (J : List Int) (r : List EntI) (ss : List Nat) (b : Int), putJ since r (ss.take J.length) J b = putJ since r ss J b := by
    intro J
    induction J with
    | nil => intro r ss b; rw [putJ_nil, putJ_nil]
    | cons w J ih => intro r ss b; cases ss with
      | nil => rfl
      | cons s ss => exact ih (r.set s (w, b, since)) ss (b + 1)
  by_cases hm : ∃ j, ∃ hj : j < J.length, (freeL (leaveR r L))[j]? = some k
  · obtain ⟨j, hj, e⟩ := hm
    obtain ⟨hjf, e2⟩ := List.getElem?_eq_some_iff.1 e
    have := putJ_here since J (leaveR r L) (freeL (leaveR r L)) base j hjf hj hn (by rw [e2, hl]; exact hk)
    rw [e2] at this
    exact .inr ⟨j, hj, e, this⟩
  · refine .inl ⟨?_, fun j hj e => hm ⟨j, hj, e⟩⟩
    unfold moveR
    rw [← key J]
    refine putJ_other since J _ _ base k fun hmem => ?_
    obtain ⟨j, hj, e⟩ := List.getElem_of_mem hmem
    rw [List.length_take] at hj
    exact hm ⟨j, by omega, by rw [List.getElem?_eq_getElem (by omega)]; congr 1; rw [← e]; simp⟩
theorem nextT_ok {t : TreeI} (T : TreeOk t) {L J : List Int} (he : t.ep ≠ 200) (h : Fit t.rs L J) : TreeOk (nextT t L J) := by
  have hep := T.ep
  have hfr := T.fr
  have hc := cntN_le (repT t L) 21
  have hJ := h.lenJ T.R
  have K2 := turnK_ok T.K (repT t L)
  have R2 := moveR_ok T.R h (since := t.ep + 1) (base := t.fr + (cntN (repT t L) 21 : Nat)) (by omega) (by omega) ⟨by omega, by omega⟩
  refine ⟨by show 0 ≤ t.ep + 1 ∧ t.ep + 1 ≤ 200; omega, ?_, ?_, R2, fun k hk e hke => ?_⟩
  · show 22 ≤ t.fr + (cntN (repT t L) 21 : Nat) + (J.length : Nat) ∧ t.fr + (cntN (repT t L) 21 : Nat) + (J.length : Nat) ≤ 22 + 85 * (t.ep + 1)
    omega
  · exact ⟨K2.len, fun k hk => by have := K2.rng k hk; show 1 ≤ k.1 ∧ k.1 < t.fr + (cntN (repT t L) 21 : Nat) + (J.length : Nat) ∧ 0 ≤ k.2 ∧ k.2 ≤ t.ep + 1; omega, K2.dist⟩
  · have hkr := K2.rng k hk
    obtain ⟨i, hi, rfl⟩ := List.getElem_of_mem hke
    have hml : (nextT t L J).rs.length = 64 := R2.len
    obtain ⟨v, hv, hvk⟩ := List.getElem_of_mem hk
    have hv' : v < t.ks.length := by
      have : (nextT t L J).ks.length = t.ks.length := turnK_length _ _ _
      omega
    have hkey : k = newKey (repT t L) t.fr v t.ks[v] := by rw [← hvk]; exact turnK_at _ _ _ v hv'
    have hold : k.1 < t.fr → k.1 = t.ks[v].1 := fun hlt => by
      rw [hkey] at hlt ⊢
      unfold newKey at hlt ⊢
      by_cases hp : repT t L v = true
      · rw [if_pos hp] at hlt; dsimp only at hlt; omega
      · rw [if_neg hp]
    rcases moveR_at T.R h (t.ep + 1) (t.fr + (cntN (repT t L) 21 : Nat)) i (by omega) with ⟨h1, _⟩ | ⟨j, hj, _, h1⟩
    · have hil : i < t.rs.length := by rw [T.R.len]; omega
      rw [List.getElem?_eq_getElem (by show i < (nextT t L J).rs.length; exact hi), List.getElem?_eq_getElem (by rw [leaveR_length]; exact hil)] at h1
      have h2 : (nextT t L J).rs[i] = (leaveR t.rs L)[i]'(by rw [leaveR_length]; exact hil) := Option.some.inj h1
      rw [h2, leaveR_at _ _ i hil]
      split
      · show k.1 ≠ 0; omega
      · intro e
        have hm : t.rs[i] ∈ t.rs := List.getElem_mem hil
        rcases T.R.rng _ hm with hz | hz
        · rw [hz] at e; dsimp only at e; omega
        · have := hold (by omega)
          exact T.kr t.ks[v] (List.getElem_mem hv') _ hm (by omega)
    · rw [List.getElem?_eq_getElem (by show i < (nextT t L J).rs.length; exact hi)] at h1
      have h2 : (nextT t L J).rs[i] = (J[j], t.fr + (cntN (repT t L) 21 : Nat) + (j : Nat), t.ep + 1) := Option.some.inj h1
      rw [h2]
      show k.1 ≠ t.fr + (cntN (repT t L) 21 : Nat) + (j : Nat)
      omega
end Go.Proofs.YtlfmckjehjedpaaGreatDoor

/- A tree one step on: the program's step. -/
namespace Go.Proofs.YtlfmckjehjedpaaGreatDoor
set_option linter.unusedVariables false
set_option linter.unusedSimpArgs false
set_option maxRecDepth 100000
open SL Go.RowKit Go.Maps
theorem fill_step {place : Nat → Option (Nat × Nat)} {cells : Array Value} {i off size : Nat} {v : Value} {rest : List (Nat × Value)} {A R B : List Value} (hp : place i = some (off, size)) (hc : cells.toList = A ++ (R ++ B)) (hA : A.length = off) (hR : R.length = size) (hv : v.cells.size = size) :
    Instr.fill place cells ((i, v) :: rest) = Instr.fill place (A ++ (v.cells.toList ++ B)).toArray rest := by
  have hsz : cells.size = off + size + B.length := by
    have := congrArg List.length hc
    simp only [Array.length_toList, List.length_append] at this
    omega
  have h := fold_put off v.cells.toList 0 cells A R B hc (by omega) (by rw [hR]; simp [hv])
  rw [Instr.fill, hp]
  dsimp only
  rw [if_neg (by simp only [decide_eq_true_eq, Bool.or_eq_true, ne_eq]; omega)]
  congr 1
  apply Array.ext'
  rw [← h, ← Array.foldl_toList, Array.toList_zipIdx]
theorem elem_off2 {o i sz n : Nat} (hs : sz = n) (hn : Nat.beq n 1 = false) : elemOff o (i : Int) sz = o + i * n := by
  subst hs
  unfold elemOff
  rw [hn]
  simp
theorem tdc (z : List Value) (n m : Nat) : z.drop n = (z.drop n).take m ++ z.drop (n + m) := by rw [← List.drop_drop]; exact (List.take_append_drop _ _).symm
theorem built_tree (a b : Int) {ks : List KeyI} {rs : List EntI} (hk : ks.length = 21) (hr : rs.length = 64) :
    Program.built Tryz.prog 62 [(0, .int .i64 a), (1, .int .i64 b), (2, .agg (ksV ks).toArray), (3, .agg (rsV rs).toArray)] = some (treeL ⟨a, b, ks, rs⟩).toArray := by
  have hkl := ksV_len hk
  have hrl := rsV_len hr
  obtain ⟨z, hz⟩ : ∃ z : List Value, z.length = 236 ∧ Program.built Tryz.prog 62 [(0, .int .i64 a), (1, .int .i64 b), (2, .agg (ksV ks).toArray), (3, .agg (rsV rs).toArray)] = Instr.fill ((#[(0, 1), (1, 1), (2, 42), (44, 192)] : Array (Nat × Nat))[·]?) z.toArray [(0, .int .i64 a), (1, .int .i64 b), (2, .agg (ksV ks).toArray), (3, .agg (rsV rs).toArray)] :=
    ⟨List.replicate 236 (.int .i64 0), by simp, by kernel_rfl⟩
  obtain ⟨hzl, e⟩ := hz
  rw [e]
  rw [fill_step (off := 0) (size := 1) (A := []) (R := z.take 1) (B := z.drop 1) rfl (by show z = [] ++ (z.take 1 ++ z.drop 1); rw [List.nil_append, List.take_append_drop]) rfl (by rw [List.length_take]; omega) rfl]
  rw [fill_step (off := 1) (size := 1) (A := [.int .i64 a]) (R := (z.drop 1).take 1) (B := z.drop 2) rfl (by show .int .i64 a :: z.drop 1 = [.int .i64 a] ++ ((z.drop 1).take 1 ++ z.drop 2); rw [← tdc z 1 1]; rfl) rfl (by rw [List.length_take, List.length_drop]; omega) rfl]
  rw [fill_step (off := 2) (size := 42) (A := [.int .i64 a, .int .i64 b]) (R := (z.drop 2).take 42) (B := z.drop 44) rfl (by show .int .i64 a :: .int .i64 b :: z.drop 2 = [.int .i64 a, .int .i64 b] ++ ((z.drop 2).take 42 ++ z.drop 44); rw [← tdc z 2 42]; rfl) rfl (by rw [List.length_take, List.length_drop]; omega) (by simpa [Value.cells] using hkl)]
  rw [fill_step (off := 44) (size := 192) (A := .int .i64 a :: .int .i64 b :: ksV ks) (R := z.drop 44) (B := []) rfl (by simp [Value.cells]) (by simp [hkl]) (by rw [List.length_drop]; omega) (by simpa [Value.cells] using hrl)]
  rw [Instr.fill]
  simp [treeL, Value.cells]
/-- The leavers' seats. -/
theorem leavers_ok (F : Mem) (r : List EntI) (hr : r.length = 64) (oa : Option Addr) (ca : Nat) (L : List Int) (hL : SlF F 1 oa L.length (intsV L)) (hn : L.length ≤ 1000000) :
    FT Tryz.prog 49 [.agg (rsV r).toArray, .slice oa L.length ca].toArray F [] (fun e H => ∃ g, (g = none ↔ leftL r L = []) ∧ e = .returned (svOf g (leftL r L).length) ∧ H = [ownT g (leftL r L)]) := by
  have hl := rsV_len hr
  refine FT.of_body Tryz.func49 rfl Tryz.ntmps49 (by simp) fun C hC => ?_
  subst hC
  conv => whnf
  intro b2
  conv => whnf
  refine LoopI.by_state (σ := Nat × Option (Nat × Nat)) (fun s => [(2, .pointer (some ⟨b2, 0, none⟩)), (5, svOf s.2 (leftL r (L.take s.1)).length), (8, .slice oa L.length ca), (9, .int .i64 (L.length : Int)), (10, .int .i64 (s.1 : Int))])
    (fun s => [ownT s.2 (leftL r (L.take s.1)), .cells b2 (rsV r) 60 (0, 0)]) (fun s => s.1 ≤ L.length ∧ (s.2 = none ↔ leftL r (L.take s.1) = [])) (fun s => L.length - s.1) (0, none) ⟨Nat.zero_le _, by simp [leftL]⟩ ⟨rfl, rfl, rfl, rfl, rfl, trivial⟩ (Sub.nil 97 2) ?_
  rintro ⟨i, g⟩ f0 ⟨hi, hg⟩
  dsimp only at hi hg ⊢
  conv => whnf
  refine cond_dec (fun h => ?_) (fun h => ?_)
  · have hil : i < L.length := by omega
    have hx := hL.at hil
    obtain ⟨xb, xo, rfl, hrow⟩ := hx
    have hrd := hrow i (.int .i64 L[i]) (by rw [List.getElem?_map, List.getElem?_eq_getElem hil]; rfl)
    have hlst := leftL_snoc r L hil
    have hle : (leftL r (L.take i)).length = i := by simp [leftL]; omega
    generalize L[i] = w at hrd hlst ⊢
    generalize leftL r (L.take i) = xs at hg hlst hle ⊢
    conv => whnf
    refine ⟨by omega, ?_⟩
    conv => whnf
    rw [elemOff_nat]
    rotate_left
    · kernel_rfl
    refine LoadV.f hrd rfl ?_
    conv => whnf
    refine LoadV.p 192 (rsV r) rfl hl (by show 0 + 192 ≤ (rsV r).length; omega) (take_all0 hl) ?_
    conv => whnf
    refine CallS.mk Tryz.call79 ⟨[], _, _, Sub.refl _, fun F' hF' => find_ok F' r hr w, ?_⟩
    rintro e A' ⟨rfl, rfl⟩
    conv => whnf
    intro bl
    conv => whnf
    refine BuiltV.append (sv := svOf g xs.length) (m := 1) Tryz.underlying28 rfl rfl rfl rfl (by decide) (Row.cells 2) rfl (by decide) rfl (by show (xs.length + 1) * 16 ≤ _; omega) (by omega) fun gb gc => ?_
    conv => whnf
    refine ArI.to64 ((i + 1 : Nat) : Int) (by omega) (by omega) ?_
    conv => whnf
    refine ⟨(i + 1, some (gb, gc)), _, by dsimp only; omega, Sub.sel [1, 2] rfl, ⟨by dsimp only; omega, by rw [hlst]; simp⟩, ⟨rfl, ?_, rfl, rfl, rfl, trivial⟩, ?_⟩
    · dsimp only; rw [hlst, List.length_append]; rfl
    · dsimp only [ownT]; rw [hlst, own_snocF seatF]; rfl
  · obtain rfl : i = L.length := by omega
    rw [List.take_length] at hg ⊢
    conv => whnf
    repeat (first | (refine LoadV.s rfl rfl (forceV_of ?_); conv => whnf) | (refine LoadV.s rfl rfl ?_; conv => whnf) | (refine StoreV.c rfl rfl (Nat.le_of_ble_eq_true rfl) rfl ?_; conv => whnf) | (refine LoadV.a _ rfl (Nat.le_of_ble_eq_true rfl) ?_; conv => whnf) | (refine DrawI.quiet (by kernel_rfl) (by kernel_rfl) ?_; conv => whnf) | (refine ArI.in64 (by omega) ?_; conv => whnf) | (refine ArI.inU8 (by omega) ?_; conv => whnf) | (refine ArI.inU64 (by omega) ?_; conv => whnf) | (refine ArI.inU32 (by omega) ?_; conv => whnf) | (refine RetI.one Tryz.results49 rfl ?_; conv => whnf) | (refine RetI.two Tryz.results49 rfl rfl ?_; conv => whnf) | (refine RetI.three Tryz.results49 rfl rfl rfl ?_; conv => whnf) | (refine RetI.none Tryz.results49 ?_; conv => whnf) | (refine ⟨by first | decide | omega, ?_⟩; conv => whnf))
    exact ⟨_, Sub.sel [0] rfl, g, hg, rfl, rfl⟩
end Go.Proofs.YtlfmckjehjedpaaGreatDoor

/- A tree one step on: the program's step. -/
namespace Go.Proofs.YtlfmckjehjedpaaGreatDoor
set_option linter.unusedVariables false
set_option linter.unusedSimpArgs false
set_option maxRecDepth 100000
open SL Go.RowKit Go.Maps
def zeroT : TreeI := ⟨0, 0, List.replicate 21 (0, 0), List.replicate 64 (0, 0, 0)⟩
def rk0 : List Value := [.int .i64 0, .slice none 0 0, .slice none 0 0, .slice none 0 0]
def StepR (t : TreeI) (L J : List Int) (e : Ending) (H : Heap) : Prop :=
  (stepE t L J = 0 ∧ ∃ g1 g2, (g1 = none ↔ leftL t.rs L = []) ∧ (g2 = none ↔ joinedL t.rs L J = []) ∧
    e = .returned (.tuple #[.agg (treeL (nextT t L J)).toArray, .agg #[.int .i64 (t.ep + 1), svOf g1 (leftL t.rs L).length, svOf g2 (joinedL t.rs L J).length, .slice none 0 0], .int .i64 0]) ∧ H = [ownT g1 (leftL t.rs L), ownT g2 (joinedL t.rs L J)]) ∨
  (stepE t L J ≠ 0 ∧ e = .returned (.tuple #[.agg (treeL zeroT).toArray, .agg rk0.toArray, .int .i64 (stepE t L J)]) ∧ H = [])
set_option maxHeartbeats 4000000 in
theorem step_ok12 (F : Mem) (htab : TabA F) (t : TreeI) (T : TreeOk t) (L J : List Int) (s0 : BatS) (hB : BatF F L J s0) :
    FT Tryz.prog 22 [.agg (treeL t).toArray, .agg (batL L J s0).toArray].toArray F [] (StepR t L J) := by
  have hS := T.shaped
  have hl := treeL_length hS
  have hlk := ksV_len hS.k
  have hlr := rsV_len hS.r
  have hep := T.ep
  have htop := T.top
  have hfr := T.fr
  have hstep : stepE t L J = if t.ep = 200 then 19 else fitsE t.rs L J := rfl
  refine FT.of_body Tryz.func22 rfl Tryz.ntmps22 (by simp) fun C hC => ?_
  subst hC
  conv => whnf
  intro b2
  conv => whnf
  intro b3
  conv => whnf
  intro b4
  conv => whnf
  intro b5
  conv => whnf
  refine LoadV.p 236 (treeL t) rfl hl (by show 0 + 236 ≤ (treeL t).length; omega) (take_all0 hl) ?_
  conv => whnf
  refine CallS.mk Tryz.call46 ⟨[], _, _, Sub.refl _, fun F' hF' => tcheck_ok F' t T, ?_⟩
  rintro e A' ⟨rfl, rfl⟩
  conv => whnf
  refine LoadV.s rfl rfl ?_
  conv => whnf
  refine cond_split (fun h => ?_) (fun h => ?_)
  · have h : t.ep = 200 := by simpa using h
    rw [if_pos h] at hstep
    conv => whnf
    refine StoreV.c rfl rfl (Nat.le_of_ble_eq_true rfl) rfl ?_
    conv => whnf
    refine StoreV.c rfl rfl (Nat.le_of_ble_eq_true rfl) rfl ?_
    conv => whnf
    refine RetI.cells2 Tryz.results22 rfl rfl rfl ?_
    conv => whnf
    refine LoadV.p 236 (treeL zeroT) rfl rfl (Nat.le_of_ble_eq_true rfl) (by kernel_rfl) ?_
    conv => whnf
    refine LoadV.p 4 rk0 rfl rfl (Nat.le_of_ble_eq_true rfl) (by kernel_rfl) ?_
    exact ⟨_, Sub.sel [] rfl, .inr ⟨by rw [hstep]; decide, by rw [hstep], rfl⟩⟩
  · have h : t.ep ≠ 200 := by simpa using h
    rw [if_neg h] at hstep
    conv => whnf
    refine LoadV.p 192 (rsV t.rs) rfl hlr (by show 44 + 192 ≤ (treeL t).length; omega) (treeL_rs hS) ?_
    conv => whnf
    refine LoadV.p 2 (batL L J s0) rfl rfl (Nat.le_of_ble_eq_true rfl) rfl ?_
    conv => whnf
    refine CallS.mk Tryz.call47 ⟨[], _, _, Sub.refl _, fun F' hF' => fits_ok F' t.rs t.fr t.ep T.R (by omega) (by omega) L J s0 (hB.ext hF'), ?_⟩
    rintro e A' ⟨rfl, rfl⟩
    by_cases hfz : fitsE t.rs L J = 0
    · have hfit := fitsE_zero.1 hfz
      have hnL := hfit.lenL T.R
      have hnJ := hfit.lenJ T.R
      have hcl := cntN_le (repT t L) 21
      have hSl := leftL_slots T.R.len hfit.on
      have hlen : (leftL t.rs L).length = L.length := by simp [leftL]
      have hJl := joinedL_length T.R hfit
      rw [hfz] at hstep ⊢
      conv => whnf
      refine LoadV.p 192 (rsV t.rs) rfl hlr (by show 44 + 192 ≤ (treeL t).length; omega) (treeL_rs hS) ?_
      conv => whnf
      refine LoadV.s rfl rfl ?_
      conv => whnf
      refine CallS.mk Tryz.call49 ⟨[], _, _, Sub.refl _, fun F' hF' => leavers_ok F' t.rs T.R.len s0.oL s0.cL L (hB.ext hF').fL (by omega), ?_⟩
      rintro e A' ⟨g, hg, rfl, rfl⟩
      conv => whnf
      refine CallS.mk Tryz.call48 ⟨[], _, _, Sub.refl _, fun F' hF' => repl_ok F' (oaOf g) (capOf g) (leftL t.rs L) (SlF.sv hF' (by rw [flat_length seatF_length]) (fun e => by rw [hg.1 e]; rfl)) (by omega) hSl, ?_⟩
      rintro e A' ⟨rfl, rfl⟩
      have ho := fun F' => ones32_ok F' (replN (leftL t.rs L)) (nodesOf_lt32 _ (Nat.le_refl 21))
      rw [show cntN (replN (leftL t.rs L)).testBit 32 = cntN (repT t L) 21 from nodesOf_cnt _ 32 (by omega)] at ho
      have hturn := fun F' => turn_ok F' t.ks t.fr t.ep T.K (by omega) (by omega) (repT t L) t.fr (by omega) (by omega) (by omega)
      rw [show nodesOf (repT t L) 21 = replN (leftL t.rs L) from rfl] at hturn
      generalize replN (leftL t.rs L) = m at ho hturn ⊢
      have hTl : (turnK (repT t L) t.ks t.fr).length = 21 := by rw [turnK_length, hS.k]
      have hbt := built_tree (t.ep + 1) (t.fr + (cntN (repT t L) 21 : Nat) + (J.length : Nat)) hTl (show (moveR t.rs L J (t.ep + 1) (t.fr + (cntN (repT t L) 21 : Nat))).length = 64 from (moveR_ok T.R hfit (since := t.ep + 1) (base := t.fr + (cntN (repT t L) 21 : Nat)) (by omega) (by omega) ⟨by omega, by omega⟩).len)
      have hNs : Shaped (nextT t L J) := (nextT_ok T h hfit).shaped
      have hNl := treeL_length hNs
      have hNa := treeL_all (nextT t L J)
      have hmove := fun F' ht hB => move_ok F' ht t.rs t.fr t.ep T.R (by omega) (by omega) L J s0 hB hfit (t.ep + 1) (t.fr + (cntN (repT t L) 21 : Nat)) ⟨by omega, by omega⟩ (by omega) (by omega) (by omega)
      unfold MoveR at hmove
      rw [show (⟨t.ep + 1, t.fr + (cntN (repT t L) 21 : Nat) + (J.length : Nat), turnK (repT t L) t.ks t.fr, moveR t.rs L J (t.ep + 1) (t.fr + (cntN (repT t L) 21 : Nat))⟩ : TreeI) = nextT t L J from rfl] at hbt
      have hTv := ksV_len hTl
      have hTa := ksV_all (turnK (repT t L) t.ks t.fr)
      have hMl : (rsV (moveR t.rs L J (t.ep + 1) (t.fr + (cntN (repT t L) 21 : Nat)))).length = 192 := rsV_len (moveR_ok T.R hfit (since := t.ep + 1) (base := t.fr + (cntN (repT t L) 21 : Nat)) (by omega) (by omega) ⟨by omega, by omega⟩).len
      have hMa := rsV_all (moveR t.rs L J (t.ep + 1) (t.fr + (cntN (repT t L) 21 : Nat)))
      generalize hc : ((cntN (repT t L) 21 : Nat) : Int) = c at ho hturn hbt hmove hMl hMa
      have hc2 : 0 ≤ c ∧ c ≤ 21 := by omega
      conv => whnf
      refine DrawI.quiet (by kernel_rfl) (by kernel_rfl) ?_
      conv => whnf
      refine LoadV.s rfl rfl ?_
      conv => whnf
      refine CallQ.pure Tryz.call50 (fun F' _ => (ho F').mono fun _ _ h => h.1) ?_
      conv => whnf
      refine ArI.to64 (32768 - c) rfl (by omega) ?_
      conv => whnf
      refine LoadV.s rfl rfl ?_
      conv => whnf
      refine ArI.to64 (32768 - c - (J.length : Int)) rfl (by omega) ?_
      conv => whnf
      refine cond_f (by omega) ?_
      conv => whnf
      refine LoadV.p 42 (ksV t.ks) rfl hlk (by show 2 + 42 ≤ (treeL t).length; omega) (treeL_ks hS) ?_
      conv => whnf
      refine LoadV.s rfl rfl ?_
      conv => whnf
      refine CallS.mk Tryz.call51 ⟨[], _, _, Sub.refl _, fun F' hF' => hturn F', ?_⟩
      rintro e A' ⟨rfl, rfl⟩
      generalize ksV (turnK (repT t L) t.ks t.fr) = TK at hTv hTa hbt ⊢
      conv => whnf
      intro b10
      conv => whnf
      refine StoreV.p 42 TK TK rfl hTv rfl (Nat.le_of_ble_eq_true rfl) hTa (by exact putAt_all (by rw [hTv]; rfl)) ?_
      conv => whnf
      refine LoadV.p 192 (rsV t.rs) rfl hlr (by show 44 + 192 ≤ (treeL t).length; omega) (treeL_rs hS) ?_
      conv => whnf
      refine LoadV.p 2 (batL L J s0) rfl rfl (Nat.le_of_ble_eq_true rfl) rfl ?_
      conv => whnf
      refine LoadV.s rfl rfl ?_
      conv => whnf
      refine ArI.to64 (t.ep + 1) rfl (by omega) ?_
      conv => whnf
      refine CallS.mk Tryz.call52 ⟨[], _, _, Sub.refl _, fun F' hF' => hmove F' (htab.ext hF') (hB.ext hF'), ?_⟩
      rintro e A' ⟨g1, g2, hg1, hg2, rfl, rfl⟩
      generalize rsV (moveR t.rs L J (t.ep + 1) (t.fr + c)) = MR at hMl hMa hbt ⊢
      conv => whnf
      intro b13
      conv => whnf
      refine StoreV.p 192 MR MR rfl hMl rfl (Nat.le_of_ble_eq_true rfl) hMa (by exact putAt_all (by rw [hMl]; rfl)) ?_
      conv => whnf
      refine LoadV.s rfl rfl ?_
      conv => whnf
      refine ArI.to64 (t.ep + 1) rfl (by omega) ?_
      conv => whnf
      refine ArI.to64 (t.fr + c + (J.length : Nat)) (by rw [hJl]) (by omega) ?_
      conv => whnf
      refine LoadV.p 42 TK rfl hTv (by omega) (take_all0 hTv) ?_
      conv => whnf
      refine LoadV.p 192 MR rfl hMl (by omega) (take_all0 hMl) ?_
      conv => whnf
      generalize hD : Program.built _ _ _ = D
      obtain rfl : D = _ := hD.symm.trans (hbt)
      clear hD
      generalize hc : (treeL (nextT t L J)).toArray = c
      conv => whnf
      show forceL c.toList _
      rw [forceL_eq]
      subst hc
      generalize hNN : treeL (nextT t L J) = NT at hNl hNa ⊢
      conv => whnf
      intro b16
      conv => whnf
      refine StoreV.p 236 NT NT rfl hNl rfl (Nat.le_of_ble_eq_true rfl) hNa (by exact putAt_all (by rw [hNl]; rfl)) ?_
      conv => whnf
      have hN0 : NT[0]? = some (.int .i64 (t.ep + 1)) := by rw [← hNN]; rfl
      refine DrawI.mixed [6, 7] [_] (by kernel_rfl) (by kernel_rfl) (by kernel_rfl) (by kernel_rfl) (by kernel_rfl) (Sub.sel [0] rfl) ?_
      conv => whnf
      refine LoadV.p 236 NT rfl hNl (by omega) (take_all0 hNl) ?_
      conv => whnf
      refine LoadV.s rfl hN0 ?_
      conv => whnf
      refine StoreV.p 236 NT NT rfl hNl rfl (Nat.le_of_ble_eq_true rfl) hNa (by exact putAt_all (by rw [hNl]; rfl)) ?_
      conv => whnf
      refine ⟨Sub.sel [0] rfl, ?_⟩
      conv => whnf
      refine StoreV.c rfl rfl (Nat.le_of_ble_eq_true rfl) rfl ?_
      conv => whnf
      refine ⟨Sub.sel [0] rfl, ?_⟩
      conv => whnf
      refine RetI.cells2 Tryz.results22 rfl rfl rfl ?_
      conv => whnf
      refine LoadV.p 236 NT rfl hNl (by omega) (take_all0 hNl) ?_
      conv => whnf
      refine LoadV.a 4 rfl (Nat.le_of_ble_eq_true rfl) ?_
      exact ⟨_, Sub.sel [2, 3] rfl, .inl ⟨hstep, g1, g2, hg1, hg2, by rw [← hNN], rfl⟩⟩
    · rw [← hstep] at hfz ⊢
      have hne := hfz
      generalize hgc : stepE t L J = c at hfz ⊢
      conv => whnf
      rw [show (c != 0) = true from bne_iff_ne.2 hfz]
      conv => whnf
      refine StoreV.c rfl rfl (Nat.le_of_ble_eq_true rfl) rfl ?_
      conv => whnf
      refine StoreV.c rfl rfl (Nat.le_of_ble_eq_true rfl) rfl ?_
      conv => whnf
      refine RetI.cells2 Tryz.results22 rfl rfl rfl ?_
      conv => whnf
      refine LoadV.p 236 (treeL zeroT) rfl rfl (Nat.le_of_ble_eq_true rfl) (by kernel_rfl) ?_
      conv => whnf
      refine LoadV.p 4 rk0 rfl rfl (Nat.le_of_ble_eq_true rfl) (by kernel_rfl) ?_
      exact ⟨_, Sub.sel [] rfl, .inr ⟨hne, by rw [hgc], rfl⟩⟩
end Go.Proofs.YtlfmckjehjedpaaGreatDoor

/- Regions that draw their order: early operations that read what only the late effects touch. -/
namespace Go.Proofs.YtlfmckjehjedpaaGreatDoor
set_option linter.unusedVariables false
set_option linter.unusedSimpArgs false
set_option maxRecDepth 100000
namespace SL.Late
open Go Go.RowKit SL
section
variable (P : Program) (md : Region.Mode) (ops : Array Oper) (C : Ctx) (St St1 : Heap → Prop) (qf ef lf : Nat → Bool)
/-- What holds where an effect has run: one that isn't late leaves what the early ones read. -/
def Se (k : Nat) (H : Heap) : Prop := St H ∧ (lf k = false → St1 H)
def mOp (i : Nat) (K : Act → Heap → Prop) (a : Act) (H : Heap) : Prop :=
  match ops[i]? with
  | none => K a H
  | some o => if Region.wanted o (yielded ops a.tmps) = true then
      (if qf i = true then ∃ v, QY P C (Sq St St1 ef i) o a v ∧ K (a.put o.dst v) H else ∃ R, ER P C (Se St St1 lf i) o a H R ∧ ∀ v H', R v H' → Se St St1 lf i H' → (∃ w, Sat C H' w) → K (a.put o.dst v) H')
    else K (a.put o.dst undef) H
def wpAnyM (Q : Act → Heap → Prop) : Nat → Array Bool → Act → Heap → Prop
  | 0, listed, a, H => Region.ready md ops listed = [] ∧ Q a H
  | fuel + 1, listed, a, H => (Region.ready md ops listed = [] → Q a H) ∧ ∀ i ∈ Region.ready md ops listed, mOp P ops C St St1 qf ef lf i (wpAnyM Q fuel (listed.setIfInBounds i true)) a H
def wpMix (Q : Act → Heap → Prop) : List Oper → Nat → Act → Heap → Prop
  | [], _, a, H => Q a H
  | o :: rest, k, a, H => if Region.wanted o (yielded ops a.tmps) = true then
      (if qf k = true then ∃ v, QY P C (Sq St St1 ef k) o a v ∧ wpMix Q rest (k + 1) (a.put o.dst v) H else ∃ R, ER P C (Se St St1 lf k) o a H R ∧ ∀ v H', R v H' → Se St St1 lf k H' → (∃ w, Sat C H' w) → wpMix Q rest (k + 1) (a.put o.dst v) H')
    else wpMix Q rest (k + 1) (a.put o.dst undef) H
end
section
variable {P : Program} {md : Region.Mode} {ops : Array Oper} {C : Ctx} {St St1 : Heap → Prop} {qf ef lf : Nat → Bool}
def waitsE (md : Region.Mode) (ops : Array Oper) (qf ef lf : Nat → Bool) : Bool :=
  (List.range ops.size).all fun k => qf k || !lf k || match ops[k]? with
    | some ok => (ok.after.any fun e => Region.binds md e && !qf e.on && lf e.on) || (List.range ops.size).all fun i => !ef i || ok.after.any fun e => Region.binds md e && Nat.beq e.on i
    | none => true
def EInv (qf ef lf : Nat → Bool) (size : Nat) (listed : Array Bool) : Prop := ∀ k, qf k = false → lf k = true → listed.getD k false = true → ∀ i, i < size → ef i = true → listed.getD i false = true
theorem EInv.all {k : Nat} {listed : Array Bool} (hW : waitsE md ops qf ef lf = true) (hB : EInv qf ef lf ops.size listed) (hk : k ∈ Region.ready md ops listed) (hq : qf k = false) (hlk : lf k = true) {i : Nat} (hi : i < ops.size) (he : ef i = true) : listed.getD i false = true := by
  obtain ⟨_, ok, hok, hall⟩ := mem_ready.1 hk
  have hks : k < ops.size := (Array.getElem?_eq_some_iff.1 hok).1
  unfold waitsE at hW
  have h1 := List.all_eq_true.1 hW k (by simpa using hks)
  rw [hq, hlk, hok] at h1
  simp only [Bool.false_or, Bool.not_true] at h1
  simp only [Bool.or_eq_true] at h1
  rcases h1 with h1 | h1
  · obtain ⟨e, he', hb⟩ := Array.any_eq_true'.1 h1
    simp only [Bool.and_eq_true, Bool.not_eq_true'] at hb
    exact hB e.on hb.1.2 hb.2 (hall e he' hb.1.1) i hi he
  · have h2 := List.all_eq_true.1 h1 i (by simpa using hi)
    rw [he] at h2
    simp only [Bool.not_true, Bool.false_or] at h2
    obtain ⟨e, he', hb⟩ := Array.any_eq_true'.1 h2
    simp only [Bool.and_eq_true] at hb
    have := hall e he' hb.1
    rwa [Nat.eq_of_beq_eq_true hb.2] at this
theorem EInv.step {k : Nat} {listed : Array Bool} (hW : waitsE md ops qf ef lf = true) (hB : EInv qf ef lf ops.size listed) (hk : k ∈ Region.ready md ops listed) : EInv qf ef lf ops.size (listed.setIfInBounds k true) := by
  intro j hj hlj hl i hi he
  have grow : listed.getD i false = true → (listed.setIfInBounds k true).getD i false = true := fun h => by
    by_cases hki : k = i
    · subst hki
      by_cases hks : k < listed.size
      · simp [Array.getD, hks]
      · simp [Array.getD, hks] at h
    · rw [getD_set_ne false hki]; exact h
  by_cases hkj : k = j
  · subst hkj; exact grow (hB.all hW hk hj hlj hi he)
  · rw [getD_set_ne false hkj] at hl; exact grow (hB j hj hlj hl i hi he)
theorem wpAnyM_sound (hW : waitsE md ops qf ef lf = true) (hef : ∀ i, ef i = true → i < ops.size) {Q : Act → Heap → Prop} {Q' : Exit → Act → World → Prop} (hQ : ∀ a H w, Sat C H w → Q a H → Q' .normal a w) : ∀ (fuel : Nat) (listed : Array Bool) (a : Act) (H : Heap) (w : World), St H → EInv qf ef lf ops.size listed → (∀ i, ef i = true → listed.getD i true = false → St1 H) → Sat C H w →
    wpAnyM P md ops C St St1 qf ef lf Q fuel listed a H → wpAny P md ops Q' fuel listed a w
  | 0, _, _, _, _, _, _, _, hs, h => ⟨h.1, hQ _ _ _ hs h.2⟩
  | fuel + 1, listed, a, H, w, hst, hB, hA, hs, h => by
    refine ⟨fun h0 => hQ _ _ _ hs (h.1 h0), fun i hi => ?_⟩
    have hh := h.2 i hi
    have hB' := hB.step hW hi
    have hun := (mem_ready.1 hi).1
    have hA' : ∀ j, ef j = true → (listed.setIfInBounds i true).getD j true = false → St1 H := fun j hj hl => by
      by_cases hij : i = j
      · subst hij; exact hA i hj hun
      · rw [getD_set_ne true hij] at hl; exact hA j hj hl
    have hE' : qf i = false → ∀ H', Se St St1 lf i H' → ∀ j, ef j = true → (listed.setIfInBounds i true).getD j true = false → St1 H' := fun hqi H' hse j hj hl => by
      cases hlf : lf i with
      | false => exact hse.2 hlf
      | true =>
      exfalso
      by_cases hij : i = j
      · subst hij
        have hls : i < listed.size ∨ ¬ i < listed.size := Nat.lt_or_ge i listed.size |>.imp id (by omega)
        rcases hls with h' | h'
        · simp [Array.getD, h'] at hl
        · simp [Array.getD, h'] at hl
      · rw [getD_set_ne true hij] at hl
        rcases Nat.lt_or_ge j ops.size with h' | h'
        · have := hB.all hW hi hqi hlf h' hj
          rcases Nat.lt_or_ge j listed.size with h2 | h2
          · simp [Array.getD, h2] at this hl; rw [this] at hl; cases hl
          · simp [Array.getD, Nat.not_lt.2 h2] at hl
        · exact absurd h' (by have := hef j hj; omega)
    unfold mOp at hh
    unfold wpOp
    split
    · rename_i ho; simp only [ho] at hh; exact wpAnyM_sound hW hef hQ fuel _ _ _ _ hst hB' hA' hs hh
    · rename_i o ho
      simp only [ho] at hh
      split
      · rename_i hw
        rw [if_pos hw] at hh
        refine .inl ?_
        split at hh
        · obtain ⟨v, h1, h2⟩ := hh
          unfold Oper.wp
          rcases h1 w ⟨H, ⟨hst, fun he => hA i he hun⟩, hs⟩ with h3 | ⟨h3, rfl⟩
          · rw [h3]; exact wpAnyM_sound hW hef hQ fuel _ _ _ _ hst hB' hA' hs h2
          · rw [h3]; exact wpAnyM_sound hW hef hQ fuel _ _ _ _ hst hB' hA' hs h2
        · rename_i hqn
          obtain ⟨R, h1, h2⟩ := hh
          have h3 := h1 w hs
          have hE := hE' (by simpa using hqn)
          unfold Oper.wp
          generalize (execOp a.eval o).run P w = r at *
          cases r with
          | ok n w' =>
            cases n <;> simp only [eff] at h3 <;> simp only [Oper.upon]
            case value v => obtain ⟨H', hr, hst', hs'⟩ := h3; exact wpAnyM_sound hW hef hQ fuel _ _ _ _ hst'.1 hB' (hE _ hst') hs' (h2 v H' hr hst' ⟨w', hs'⟩)
            case skip => obtain ⟨H', hr, hst', hs'⟩ := h3; exact wpAnyM_sound hW hef hQ fuel _ _ _ _ hst'.1 hB' (hE _ hst') hs' (h2 undef H' hr hst' ⟨w', hs'⟩)
            case enter g args =>
              refine h3.mono fun e w'' ⟨v, H', he, hr, hst', hs'⟩ => ?_
              subst he
              exact wpAnyM_sound hW hef hQ fuel _ _ _ _ hst'.1 hB' (hE _ hst') hs' (h2 v H' hr hst' ⟨w'', hs'⟩)
            case row rw args => exact h3.mono fun v w'' ⟨H', hr, hst', hs'⟩ => wpAnyM_sound hW hef hQ fuel _ _ _ _ hst'.1 hB' (hE _ hst') hs' (h2 v H' hr hst' ⟨w'', hs'⟩)
          | halt y w' => simp only [eff] at h3
      · rename_i hw
        rw [if_neg hw] at hh
        exact wpAnyM_sound hW hef hQ fuel _ _ _ _ hst hB' hA' hs hh
theorem mOp_put {j : Nat} {oi oj : Oper} {x : Value} {a : Act} {H : Heap} (hj : ops[j]? = some oj) (hap : oi.apart ops oj = true) (hsj : ∀ cs b, oj.op ≠ .select cs b) {K K' : Act → Heap → Prop}
    (hK : ∀ u H', K ((a.put oi.dst x).put oj.dst u) H' → K' (a.put oj.dst u) H') (h : mOp P ops C St St1 qf ef lf j K (a.put oi.dst x) H) : mOp P ops C St St1 qf ef lf j K' a H := by
  obtain ⟨h1, h2, h3⟩ := Oper.apart_spec hap
  have he : execOp (a.put oi.dst x).eval oj = execOp a.eval oj := execOp_put oj hsj a oi.dst x h1
  unfold mOp at *
  simp only [hj] at *
  rw [wanted_put oj a oi.dst x h1] at h
  split
  · rename_i hw
    rw [if_pos hw] at h
    split
    · rename_i hq
      rw [if_pos hq] at h
      obtain ⟨v, hv, hk⟩ := h
      exact ⟨v, hv.same he.symm, hK v H hk⟩
    · rename_i hq
      rw [if_neg hq] at h
      obtain ⟨R, hR, hk⟩ := h
      exact ⟨R, hR.same he.symm, fun v H' hr hst hw => hK v H' (hk v H' hr hst hw)⟩
  · rename_i hw
    rw [if_neg hw] at h
    exact hK undef H h
theorem qv_mOp {i : Nat} {o : Oper} {v : Value} {a : Act} {H : Heap} (hi : ops[i]? = some o) (hq : qf i = true) (hy : QV P ops C (Sq St St1 ef i) o v a) {K : Act → Heap → Prop} (h : K (a.put o.dst v) H) : mOp P ops C St St1 qf ef lf i K a H := by
  unfold mOp
  simp only [hi]
  rcases hy with ⟨hw, hv⟩ | ⟨hw, rfl⟩
  · rw [if_pos hw, if_pos hq]; exact ⟨v, hv, h⟩
  · rw [if_neg (by simp [hw])]; exact h
theorem wpAnyM_firstQ {Q : Act → Heap → Prop} {i : Nat} {oi : Oper} {v : Value} (hi : ops[i]? = some oi) (hq : qf i = true) (hsel : ∀ (j : Nat) (o : Oper) cs b, ops[j]? = some o → o.op ≠ .select cs b) :
    ∀ (fuel : Nat) (listed : Array Bool) (a : Act) (H : Heap),
      (∀ j oj, ops[j]? = some oj → j ≠ i → listed.getD j true = false → (∀ e ∈ oj.after, Region.binds md e = true → e.on ≠ i) → oi.apart ops oj = true) →
      i ∈ Region.ready md ops listed → QV P ops C (Sq St St1 ef i) oi v a →
      wpAnyM P md ops C St St1 qf ef lf Q fuel (listed.setIfInBounds i true) (a.put oi.dst v) H → wpAnyM P md ops C St St1 qf ef lf Q (fuel + 1) listed a H := by
  intro fuel
  induction fuel with
  | zero =>
    intro listed a H _ hr hy hh
    refine ⟨fun h => (by rw [h] at hr; cases hr), fun j hj => ?_⟩
    by_cases hji : j = i
    · subst hji; exact qv_mOp hi hq hy hh
    · have := ready_mono hj hji
      rw [hh.1] at this
      cases this
  | succ fuel ih =>
    intro listed a H hfree hr hy hh
    refine ⟨fun h => (by rw [h] at hr; cases hr), fun j hj => ?_⟩
    by_cases hji : j = i
    · subst hji; exact qv_mOp hi hq hy hh
    · have h1 := hh.2 j (ready_mono hj hji)
      obtain ⟨hjun, oj, hoj, hall⟩ := mem_ready.1 hj
      have hnot : ∀ e ∈ oj.after, Region.binds md e = true → e.on ≠ i := fun e he hb heq => by
        have h1 := hall e he hb
        have h0 := (mem_ready.1 hr).1
        rw [heq] at h1
        rcases Nat.lt_or_ge i listed.size with h' | h'
        · simp [h'] at h0 h1; rw [h0] at h1; cases h1
        · simp [Array.getElem?_eq_none h'] at h1
      have hap := hfree j oj hoj hji hjun hnot
      have hfree' : ∀ k ok, ops[k]? = some ok → k ≠ i → (listed.setIfInBounds j true).getD k true = false →
          (∀ e ∈ ok.after, Region.binds md e = true → e.on ≠ i) → oi.apart ops ok = true := fun k ok hk hki hun hno => by
        refine hfree k ok hk hki ?_ hno
        by_cases hjk : j = k
        · subst hjk; exact hjun
        · rw [getD_set_ne true hjk] at hun; exact hun
      refine mOp_put hoj hap (fun cs b => hsel j oj cs b hoj) (fun u H' hk => ?_) h1
      refine ih (listed.setIfInBounds j true) _ _ hfree' (ready_mono hr (Ne.symm hji)) (hy.put hap (fun cs b => hsel i oi cs b hi)) ?_
      rw [Array.setIfInBounds_comm _ _ hji, Act.put_comm (a := a) (y := oi.dst) u v (fun d hd hd2 => (Oper.apart_spec hap).2.1 d hd2 hd)]
      exact hk
theorem mOp_push {k : Nat} {ok oj : Oper} {x : Value} {a : Act} {H : Heap} (hk : ops[k]? = some ok) (hap : ok.apart ops oj = true) (hsk : ∀ cs b, ok.op ≠ .select cs b) {K K' : Act → Heap → Prop} {T : Heap → Prop} (hT : T H) (hSe : ∀ H', Se St St1 lf k H' → T H') (hw0 : ∃ w, Sat C H w)
    (hK : ∀ u H', T H' → (∃ w, Sat C H' w) → K (a.put ok.dst u) H' → K' ((a.put oj.dst x).put ok.dst u) H') (h : mOp P ops C St St1 qf ef lf k K a H) : mOp P ops C St St1 qf ef lf k K' (a.put oj.dst x) H := by
  obtain ⟨h1, h2, h3⟩ := Oper.apart_spec hap
  have he : execOp (a.put oj.dst x).eval ok = execOp a.eval ok := execOp_put ok hsk a oj.dst x h3
  unfold mOp at *
  simp only [hk] at *
  rw [wanted_put ok a oj.dst x h3]
  split
  · rename_i hw
    rw [if_pos hw] at h
    split
    · rename_i hq
      rw [if_pos hq] at h
      obtain ⟨v, hv, hk⟩ := h
      exact ⟨v, hv.same he, hK v H hT hw0 hk⟩
    · rename_i hq
      rw [if_neg hq] at h
      obtain ⟨R, hR, hk⟩ := h
      exact ⟨R, hR.same he, fun v H' hr hst hw => hK v H' (hSe H' hst) hw (hk v H' hr hst hw)⟩
  · rename_i hw
    rw [if_neg hw] at h
    exact hK undef H hT hw0 h
theorem mOp_some {k : Nat} {ok : Oper} {a : Act} {H : Heap} (hk : ops[k]? = some ok) {K : Act → Heap → Prop} (hst : St H) (hw0 : ∃ w, Sat C H w) (h : mOp P ops C St St1 qf ef lf k K a H) : ∃ v H', St H' ∧ (∃ w, Sat C H' w) ∧ K (a.put ok.dst v) H' := by
  unfold mOp at h
  simp only [hk] at h
  obtain ⟨w, hw⟩ := hw0
  split at h
  · split at h
    · obtain ⟨v, _, hk⟩ := h; exact ⟨v, H, hst, ⟨w, hw⟩, hk⟩
    · obtain ⟨R, hR, hk⟩ := h
      obtain ⟨v, H', hr, hst', hw'⟩ := hR.ends hw
      exact ⟨v, H', hst'.1, hw', hk v H' hr hst' hw'⟩
  · exact ⟨undef, H, hst, ⟨w, hw⟩, h⟩
theorem mOp_quiet {j : Nat} {oj : Oper} {a : Act} {H : Heap} (hj : ops[j]? = some oj) (hq : qf j = true) {K : Act → Heap → Prop} (h : mOp P ops C St St1 qf ef lf j K a H) : ∃ v, QV P ops C (Sq St St1 ef j) oj v a ∧ K (a.put oj.dst v) H := by
  unfold mOp at h
  simp only [hj] at h
  split at h
  · rename_i hw
    try rw [if_pos hq] at h
    obtain ⟨v, hv, hk⟩ := h
    exact ⟨v, .inl ⟨hw, hv⟩, hk⟩
  · rename_i hw
    exact ⟨undef, .inr ⟨by simpa using hw, rfl⟩, h⟩
theorem wpAnyM_firstE (hW : waitsE md ops qf ef lf = true) {Q : Act → Heap → Prop} {k : Nat} {ok : Oper} (hk : ops[k]? = some ok) (hqk : qf k = false) (hsel : ∀ (j : Nat) (o : Oper) cs b, ops[j]? = some o → o.op ≠ .select cs b) :
    ∀ (fuel : Nat) (listed : Array Bool) (a : Act) (H : Heap), St H → (∃ w, Sat C H w) → EInv qf ef lf ops.size listed → (∀ i, ef i = true → listed.getD i true = false → St1 H) →
      (∀ j oj, ops[j]? = some oj → j ≠ k → listed.getD j true = false → (∀ e ∈ oj.after, Region.binds md e = true → e.on ≠ k) → ok.apart ops oj = true) →
      (∀ j oj, ops[j]? = some oj → qf j = false → j ≠ k → listed.getD j true = false → ∃ e ∈ oj.after, Region.binds md e = true ∧ qf e.on = false ∧ listed.getD e.on false = false) →
      k ∈ Region.ready md ops listed → mOp P ops C St St1 qf ef lf k (wpAnyM P md ops C St St1 qf ef lf Q fuel (listed.setIfInBounds k true)) a H → wpAnyM P md ops C St St1 qf ef lf Q (fuel + 1) listed a H := by
  intro fuel
  induction fuel with
  | zero =>
    intro listed a H hst hw0 _ _ _ _ hr hh
    refine ⟨fun h => (by rw [h] at hr; cases hr), fun j hj => ?_⟩
    by_cases hjk : j = k
    · subst hjk; exact hh
    · have := ready_mono hj hjk
      obtain ⟨v, H', _, _, h2⟩ := mOp_some hk hst hw0 hh
      rw [h2.1] at this
      cases this
  | succ fuel ih =>
    intro listed a H hst hw0 hB hA hfree hwait hr hh
    refine ⟨fun h => (by rw [h] at hr; cases hr), fun j hj => ?_⟩
    by_cases hjk : j = k
    · subst hjk; exact hh
    · obtain ⟨hjun, oj, hoj, hall⟩ := mem_ready.1 hj
      have hqj : qf j = true := by
        cases hq : qf j with
        | true => rfl
        | false =>
          obtain ⟨e, he, hb, _, hu⟩ := hwait j oj hoj hq hjk hjun
          rw [hall e he hb] at hu; cases hu
      have hnot : ∀ e ∈ oj.after, Region.binds md e = true → e.on ≠ k := fun e he hb heq => by
        have h1 := hall e he hb
        have h0 := (mem_ready.1 hr).1
        rw [heq] at h1
        rcases Nat.lt_or_ge k listed.size with h' | h'
        · simp [h'] at h0 h1; rw [h0] at h1; cases h1
        · simp [Array.getElem?_eq_none h'] at h1
      have hap := hfree j oj hoj hjk hjun hnot
      have hsj := fun cs b => hsel j oj cs b hoj
      obtain ⟨v0, H0, hst0, hw00, h0⟩ := mOp_some hk hst hw0 hh
      obtain ⟨vj, hvj, _⟩ := mOp_quiet hoj hqj (h0.2 j (ready_mono hj hjk))
      have hva := hvj.back hap hsj
      refine qv_mOp hoj hqj hva ?_
      have hfree' : ∀ i oi, ops[i]? = some oi → i ≠ k → (listed.setIfInBounds j true).getD i true = false →
          (∀ e ∈ oi.after, Region.binds md e = true → e.on ≠ k) → ok.apart ops oi = true := fun i oi hi hik hun hno => by
        refine hfree i oi hi hik ?_ hno
        by_cases hij : j = i
        · subst hij; exact hjun
        · rw [getD_set_ne true hij] at hun; exact hun
      have hwait' : ∀ i oi, ops[i]? = some oi → qf i = false → i ≠ k → (listed.setIfInBounds j true).getD i true = false → ∃ e ∈ oi.after, Region.binds md e = true ∧ qf e.on = false ∧ (listed.setIfInBounds j true).getD e.on false = false := fun i oi hi hqi hik hun => by
        have hij : j ≠ i := fun e => by subst e; rw [hqj] at hqi; cases hqi
        rw [getD_set_ne true hij] at hun
        obtain ⟨e, he, hb, hqe, hu⟩ := hwait i oi hi hqi hik hun
        have hje : j ≠ e.on := fun h => by rw [← h, hqj] at hqe; cases hqe
        exact ⟨e, he, hb, hqe, by rw [getD_set_ne false hje]; exact hu⟩
      refine ih (listed.setIfInBounds j true) _ H hst hw0 (hB.step hW hj) (fun i he hun => hA i he (by
        by_cases hij : j = i
        · subst hij; exact hjun
        · rw [getD_set_ne true hij] at hun; exact hun)) hfree' hwait' (ready_mono hr (Ne.symm hjk)) ?_
      refine mOp_push (T := fun H' => St H' ∧ (ef j = true → St1 H')) hk hap (fun cs b => hsel k ok cs b hk) ⟨hst, fun he => hA j he hjun⟩ (fun H' hse => ⟨hse.1, fun he => by
        cases hlk : lf k with
        | false => exact hse.2 hlk
        | true =>
          exfalso
          have h1 := hB.all hW hr hqk hlk (Array.getElem?_eq_some_iff.1 hoj).1 he
          rcases Nat.lt_or_ge j listed.size with h' | h'
          · simp [h'] at hjun h1; rw [hjun] at h1; cases h1
          · simp [Array.getElem?_eq_none h'] at hjun⟩) hw0 (fun u H' hst' hw' hK => ?_) hh
      obtain ⟨v', hv', hK'⟩ := mOp_quiet hoj hqj (hK.2 j (ready_mono hj hjk))
      have hvv : v' = vj := (hv'.back hap hsj).unique hva hst' hw'
      subst hvv
      rw [Array.setIfInBounds_comm _ _ (Ne.symm hjk)] at hK'
      rw [Act.put_comm (a := a) (x := oj.dst) (y := ok.dst) v' u (fun d hd hd2 => (Oper.apart_spec hap).2.1 d hd2 hd)]
      exact hK'
theorem wpAnyM_lex (hW : waitsE md ops qf ef lf = true) (hef : ∀ i, ef i = true → i < ops.size) {Q : Act → Heap → Prop} (hs : Region.noSelect ops = true) (hch : chainE md ops qf = true) : ∀ (l : List Oper) (k : Nat) (listed : Array Bool) (a : Act) (H : Heap), (∀ j, l[j]? = ops[k + j]?) → (∀ i, i < k → listed.getD i true = true) → (∀ i, k ≤ i → listed.getD i false = false) →
    Region.lexFrom md ops l.length k listed = true → EInv qf ef lf ops.size listed → (∀ i, ef i = true → listed.getD i true = false → St1 H) → St H → (∃ w, Sat C H w) → wpMix P ops C St St1 qf ef lf Q l k a H → wpAnyM P md ops C St St1 qf ef lf Q l.length listed a H
  | [], _, _, _, _, _, _, _, hB, _, _, _, _, h => ⟨by simpa [Region.lexFrom] using hB, h⟩
  | o :: l, k, listed, a, H, hl, hi1, hi2, hB, hEI, hA, hst, hw0, h => by
    have h0 : ops[k]? = some o := by simpa using (hl 0).symm
    simp only [List.length_cons, Region.lexFrom, Bool.and_eq_true] at hB
    obtain ⟨⟨hr, hf⟩, hB'⟩ := hB
    have hr' : k ∈ Region.ready md ops listed := by simpa using hr
    have hl' : ∀ j, l[j]? = ops[k + 1 + j]? := fun j => by have := hl (j + 1); simpa [Nat.add_assoc, Nat.add_comm 1 j] using this
    have hi1' : ∀ i, i < k + 1 → (listed.setIfInBounds k true).getD i true = true := fun i hi => by
      by_cases hik : k = i
      · subst hik
        by_cases hks : k < listed.size
        · simp [Array.getD, hks]
        · simp [Array.getD, hks]
      · rw [getD_set_ne true hik]; exact hi1 i (by omega)
    have hi2' : ∀ i, k + 1 ≤ i → (listed.setIfInBounds k true).getD i false = false := fun i hi => by
      rw [getD_set_ne false (by omega)]; exact hi2 i (by omega)
    have hA' : ∀ j, ef j = true → (listed.setIfInBounds k true).getD j true = false → St1 H := fun j hj hl => by
      by_cases hij : k = j
      · subst hij
        by_cases hks : k < listed.size
        · simp [Array.getD, hks] at hl
        · simp [Array.getD, hks] at hl
      · rw [getD_set_ne true hij] at hl; exact hA j hj hl
    have ih := fun a' H' (hA' : ∀ j, ef j = true → (listed.setIfInBounds k true).getD j true = false → St1 H') (hst' : St H') (hw' : ∃ w, Sat C H' w) (hm : wpMix P ops C St St1 qf ef lf Q l (k + 1) a' H') => wpAnyM_lex hW hef hs hch l (k + 1) (listed.setIfInBounds k true) a' H' hl' hi1' hi2' hB' (hEI.step hW hr') hA' hst' hw' hm
    unfold wpMix at h
    cases hq : qf k with
    | true =>
      rw [hq] at h
      have hv : ∃ v, QV P ops C (Sq St St1 ef k) o v a ∧ wpMix P ops C St St1 qf ef lf Q l (k + 1) (a.put o.dst v) H := by
        split at h
        · rename_i hw; obtain ⟨v, h1, h2⟩ : ∃ v, QY P C (Sq St St1 ef k) o a v ∧ _ := by simpa using h
          exact ⟨v, .inl ⟨hw, h1⟩, h2⟩
        · rename_i hw; exact ⟨undef, .inr ⟨by simpa using hw, rfl⟩, h⟩
      obtain ⟨v, hv, hm⟩ := hv
      exact wpAnyM_firstQ h0 hq (Region.noSelect_spec hs) l.length listed a H (Region.free_spec h0 hf) hr' hv (ih _ _ hA' hst hw0 hm)
    | false =>
      rw [hq] at h
      refine wpAnyM_firstE hW h0 hq (Region.noSelect_spec hs) l.length listed a H hst hw0 hEI hA (Region.free_spec h0 hf) ?_ hr' ?_
      · intro j oj hj hqj hjk hun
        have hkj : k < j := by
          rcases Nat.lt_trichotomy j k with h1 | h1 | h1
          · rw [hi1 j h1] at hun; cases hun
          · exact absurd h1 hjk
          · exact h1
        have hjs : j < ops.size := (Array.getElem?_eq_some_iff.1 hj).1
        unfold chainE at hch
        have h1 := List.all_eq_true.1 hch j (by simpa using hjs)
        rw [hqj, Bool.false_or] at h1
        have h2 := List.all_eq_true.1 h1 k (by simpa using hkj)
        rw [hq, Bool.false_or, hj] at h2
        obtain ⟨e, he, hb⟩ := Array.any_eq_true'.1 h2
        simp only [Bool.and_eq_true, Bool.not_eq_true'] at hb
        exact ⟨e, he, hb.1.1, hb.1.2, hi2 e.on (Nat.le_of_ble_eq_true hb.2)⟩
      · unfold mOp
        simp only [h0]
        split
        · rename_i hw
          rw [if_pos hw] at h
          obtain ⟨R, hR, hk⟩ : ∃ R, ER P C (Se St St1 lf k) o a H R ∧ _ := by simpa using h
          rw [if_neg (by simp [hq])]
          exact ⟨R, hR, fun v H' hr hst' hw' => ih _ _ (fun j hj hl => by
            cases hlf : lf k with
            | false => exact hst'.2 hlf
            | true =>
              exfalso
              by_cases hij : k = j
              · subst hij
                by_cases hks : k < listed.size
                · simp [Array.getD, hks] at hl
                · simp [Array.getD, hks] at hl
              · rw [getD_set_ne true hij] at hl
                rcases Nat.lt_or_ge j ops.size with h' | h'
                · have := hEI.all hW hr' hq hlf h' hj
                  rcases Nat.lt_or_ge j listed.size with h2 | h2
                  · simp [Array.getD, h2] at this hl; rw [this] at hl; cases hl
                  · simp [Array.getD, Nat.not_lt.2 h2] at hl
                · exact absurd h' (by have := hef j hj; omega)) hst'.1 hw' (hk v H' hr hst' hw'.choose hw'.choose_spec)⟩
        · rename_i hw
          rw [if_neg hw] at h
          exact ih _ _ hA' hst hw0 h
end
section
variable (C : Ctx) (P : Program) (H0 H1 : Heap) (qf ef lf : Nat → Bool) (n : Nat)
def MListW (ops : List Oper) (Q : Fr → Heap → Prop) (l : List Oper) : Nat → Fr → Heap → Prop := @List.rec Oper (fun _ => Nat → Fr → Heap → Prop) (fun _ f H => Q f H)
    (fun o _ ih k f H => guardW n ops f o.guard (fun f => cond (qf k) (cond (ef k) (QOpW C P H1 true n f o fun v => putK f o.dst v fun f' => ih (k + 1) f' H) (QOpW C P H0 true n f o fun v => putK f o.dst v fun f' => ih (k + 1) f' H)) (OpW C P false n f o (fun v H' => Se (fun H => Sub H H0) (fun H => Sub H H1) lf k H' ∧ putK f o.dst v fun f' => ih (k + 1) f' H') (fun _ _ => False) H))
      (fun f => putK f o.dst undef fun f' => ih (k + 1) f' H)) l
end
section
variable {C : Ctx} {P : Program} {H0 H1 : Heap} {qf ef lf : Nat → Bool} {n : Nat}
theorem MListW.sound {ops : Array Oper} {Q : Fr → Heap → Prop} (hn : 0 < n) (hnc : callFree ops qf = true) : ∀ (l : List Oper) (k : Nat) {f : Fr} {H : Heap} {a : Act}, (∀ j, l[j]? = ops[k + j]?) → MListW C P H0 H1 qf ef lf n ops.toList Q l k f H → TR C.ds n f a →
    wpMix P ops C (fun H => Sub H H0) (fun H => Sub H H1) qf ef lf (fun a H => ∃ f, Q f H ∧ TR C.ds n f a) l k a H
  | [], _, f, H, a, _, h, ht => ⟨f, h, ht⟩
  | o :: l, k, f, H, a, hl, h, ht => by
    have h0 : ops[k]? = some o := by simpa using (hl 0).symm
    have hl' : ∀ j, l[j]? = ops[k + 1 + j]? := fun j => by have := hl (j + 1); simpa [Nat.add_assoc, Nat.add_comm 1 j] using this
    replace h : guardW n ops.toList f o.guard (fun f => cond (qf k) (cond (ef k) (QOpW C P H1 true n f o fun v => putK f o.dst v fun f' => MListW C P H0 H1 qf ef lf n ops.toList Q l (k + 1) f' H) (QOpW C P H0 true n f o fun v => putK f o.dst v fun f' => MListW C P H0 H1 qf ef lf n ops.toList Q l (k + 1) f' H)) (OpW C P false n f o (fun v H' => Se (fun H => Sub H H0) (fun H => Sub H H1) lf k H' ∧ putK f o.dst v fun f' => MListW C P H0 H1 qf ef lf n ops.toList Q l (k + 1) f' H') (fun _ _ => False) H))
      (fun f => putK f o.dst undef fun f' => MListW C P H0 H1 qf ef lf n ops.toList Q l (k + 1) f' H) := h
    simp only [putK_eq] at h
    unfold wpMix
    rcases guardW.sound (ops := ops) ht h with ⟨hw, h⟩ | ⟨hw, h⟩
    · rw [if_pos hw]
      cases hq : qf k with
      | true =>
        rw [hq] at h
        simp only [cond_true] at h
        have hcf : ∀ c x, o.op = .call c → c.callee = .value x → False := fun c x ho hc => by
          have hks : k < ops.size := (Array.getElem?_eq_some_iff.1 h0).1
          have h1 := List.all_eq_true.1 hnc k (by simpa using hks)
          simp only [hq, h0, ho, hc] at h1
          simp at h1
        simp only [if_true]
        cases he : ef k with
        | true =>
          rw [he] at h
          simp only [cond_true] at h
          obtain ⟨v, hv, hk⟩ := QOpW.plain h ht hcf
          exact ⟨v, fun w ⟨H2, ⟨_, hs3⟩, hs2⟩ => hv w ((hs3 he).sat hs2), MListW.sound hn hnc l (k + 1) hl' hk (ht.put o.dst v)⟩
        | false =>
          rw [he] at h
          simp only [cond_false] at h
          obtain ⟨v, hv, hk⟩ := QOpW.plain h ht hcf
          exact ⟨v, fun w ⟨H2, ⟨hs1, _⟩, hs2⟩ => hv w (hs1.sat hs2), MListW.sound hn hnc l (k + 1) hl' hk (ht.put o.dst v)⟩
      | false =>
        rw [hq] at h
        simp only [cond_false] at h
        rw [if_neg (by simp)]
        exact ⟨_, ER.of_op hn h ht, fun v H' hk hst hw => MListW.sound hn hnc l (k + 1) hl' hk (ht.put o.dst v)⟩
    · rw [if_neg (by simp [hw])]
      exact MListW.sound hn hnc l (k + 1) hl' h (ht.put o.dst undef)
/-- A region that draws its order, with effects (their places: es), quiet operations that read what lies in H0, early ones (es1) that read what lies in H1, and late effects (ls), for which the early ones don't wait. -/
theorem drawLate (es es1 ls : List Nat) (H0 H1 : Heap) {id : Nat} {ops : Array Oper} {Q : Exit → Fr → Heap → Prop} {f : Fr} {H : Heap} (hn : Nat.blt 0 n = true) (hm : P.follows .mixedOrders = true) (hB : Region.lexB .any ops = true)
    (hch : chainE .any ops (qfl es) = true) (hnc : callFree ops (qfl es) = true) (hW : waitsE .any ops (qfl es) (efl es1) (efl ls) = true) (hlt : (es1.all fun i => Nat.blt i ops.size) = true) (h0 : Sub H H0) (h1 : Sub H H1)
    (h : MListW C P H0 H1 (qfl es) (efl es1) (efl ls) n ops.toList (Q .normal) ops.toList 0 f H) (hd : noDefer ops = true := by kernel_rfl) : DrawI C P n id ops Q f H :=
  ⟨hm, hd, fun a w ht hs' => by
    simp only [Region.lexB, Bool.and_eq_true] at hB
    have hrep : ∀ k, (Array.replicate ops.size false).getD k false = false := fun k => by
      by_cases hk : k < ops.size <;> simp [Array.getD, hk]
    have hEI : EInv (qfl es) (efl es1) (efl ls) ops.size (Array.replicate ops.size false) := fun k _ _ hk => by rw [hrep] at hk; cases hk
    have hef : ∀ i, efl es1 i = true → i < ops.size := fun i hi => by
      have := List.all_eq_true.1 hlt i (by simpa [efl] using hi)
      simpa [Nat.blt_eq] using this
    refine wpAnyM_sound (St := fun H => Sub H H0) (St1 := fun H => Sub H H1) (qf := qfl es) (ef := efl es1) (lf := efl ls) hW (fun i hi => ?_) (Q := fun a H => ∃ f, Q .normal f H ∧ TR C.ds n f a) (fun a' H' w' hs' ⟨f', hq, ht'⟩ => ⟨by simp, f', H', hq, ht', hs'⟩) _ _ _ H _ h0 hEI (fun _ _ _ => h1) hs' ?_
    · exact hef i hi
    have := wpAnyM_lex (P := P) (md := .any) (C := C) (St := fun H => Sub H H0) (St1 := fun H => Sub H H1) (lf := efl ls) (ef := efl es1) hW hef hB.1 hch ops.toList 0 (Array.replicate ops.size false) a H (by simp) (fun i hi => absurd hi (by omega)) (fun i _ => hrep i) (by simpa using hB.2) hEI (fun _ _ _ => h1) h0 ⟨_, hs'⟩
      (MListW.sound (by simpa [Nat.blt_eq] using hn) hnc ops.toList 0 (by simp) h ht)
    simpa using this⟩
end
end SL.Late
end Go.Proofs.YtlfmckjehjedpaaGreatDoor

/- Regions that draw their order, by a tree of the orders of their effects. -/
namespace Go.Proofs.YtlfmckjehjedpaaGreatDoor
set_option linter.unusedVariables false
set_option linter.unusedSimpArgs false
set_option maxRecDepth 100000
namespace SL.Late.Tree
open Go Go.RowKit SL
/-- A tree of orders: all done; a quiet operation first; the ways to go on, each with its effect. -/
inductive Tr where
  | done
  | nil
  | q (i : Nat) (t : Tr)
  | b (i : Nat) (t u : Tr)
def heads : Tr → List Nat
  | .b i _ u => i :: heads u
  | _ => []
def depth : Tr → Nat
  | .q _ t => depth t + 1
  | .b _ t u => max (depth t + 1) (depth u)
  | _ => 0
def ok (ops : Array Oper) (qf : Nat → Bool) : Bool → Array Bool → Tr → Bool
  | top, l, .done => top && (Region.ready .any ops l).isEmpty
  | top, _, .nil => !top
  | top, l, .q i t => top && qf i && (Region.ready .any ops l).contains i && ok ops qf true (l.setIfInBounds i true) t
  | top, l, .b i t u => (!top || (Region.ready .any ops l).all fun j => (i :: heads u).contains j) && (!top || (Region.ready .any ops l).contains i) && !qf i && ok ops qf true (l.setIfInBounds i true) t && ok ops qf false l u
/-- What is unordered is apart. -/
def pairsB (ops : Array Oper) (qf : Nat → Bool) : Bool := (List.range ops.size).all fun i => !qf i || (List.range ops.size).all fun j => Nat.beq i j || match ops[i]?, ops[j]? with
  | some oi, some oj => (oj.after.any fun e => Region.binds .any e && Nat.beq e.on i) || (oi.after.any fun e => Region.binds .any e && Nat.beq e.on j) || oi.apart ops oj
  | _, _ => true
section
variable (C : Ctx) (P : Program) (H0 H1 : Heap) (qf ef lf : Nat → Bool) (n : Nat)
def stepQ (ops : List Oper) (k : Nat) (K : Fr → Heap → Prop) (f : Fr) (H : Heap) : Prop := match ops[k]? with
  | none => False
  | some o => guardW n ops f o.guard (fun f => cond (ef k) (QOpW C P H1 true n f o fun v => putK f o.dst v fun f' => K f' H) (QOpW C P H0 true n f o fun v => putK f o.dst v fun f' => K f' H)) (fun f => putK f o.dst undef fun f' => K f' H)
def stepE (ops : List Oper) (k : Nat) (K : Fr → Heap → Prop) (f : Fr) (H : Heap) : Prop := match ops[k]? with
  | none => False
  | some o => guardW n ops f o.guard (fun f => OpW C P false n f o (fun v H' => Se (fun H => Sub H H0) (fun H => Sub H H1) lf k H' ∧ putK f o.dst v fun f' => K f' H') (fun _ _ => False) H) (fun f => putK f o.dst undef fun f' => K f' H)
def TreeW (ops : List Oper) (Q : Fr → Heap → Prop) (t : Tr) : Fr → Heap → Prop :=
  Tr.rec (motive := fun _ => Fr → Heap → Prop) (fun f H => Q f H) (fun _ _ => True) (fun i _ ih f H => stepQ C P H0 H1 ef n ops i ih f H) (fun i _ _ ih ihu f H => stepE C P H0 H1 lf n ops i ih f H ∧ ihu f H) t
end
section
variable {C : Ctx} {P : Program} {H0 H1 : Heap} {qf ef lf : Nat → Bool} {n : Nat}
abbrev S0 (H0 : Heap) (H : Heap) : Prop := Sub H H0
abbrev W (P : Program) (ops : Array Oper) (C : Ctx) (H0 H1 : Heap) (qf ef lf : Nat → Bool) (n : Nat) (Q : Fr → Heap → Prop) := wpAnyM P .any ops C (S0 H0) (S0 H1) qf ef lf (fun a H => ∃ f, Q f H ∧ TR C.ds n f a)
theorem stepQ.sound {ops : Array Oper} {k : Nat} {K : Fr → Heap → Prop} {f : Fr} {H : Heap} {a : Act} (hq : qf k = true) (hnc : callFree ops qf = true) (ht : TR C.ds n f a) (h : stepQ C P H0 H1 ef n ops.toList k K f H) :
    ∃ o v f', ops[k]? = some o ∧ QV P ops C (Sq (S0 H0) (S0 H1) ef k) o v a ∧ K f' H ∧ TR C.ds n f' (a.put o.dst v) := by
  unfold stepQ at h
  rw [Array.getElem?_toList] at h
  split at h
  · exact h.elim
  · rename_i o h0
    simp only [putK_eq] at h
    rcases guardW.sound (ops := ops) ht h with ⟨hw, h⟩ | ⟨hw, h⟩
    · have hcf : ∀ c x, o.op = .call c → c.callee = .value x → False := fun c x ho hc => by
        have hks : k < ops.size := (Array.getElem?_eq_some_iff.1 h0).1
        have h1 := List.all_eq_true.1 hnc k (by simpa using hks)
        simp only [hq, h0, ho, hc] at h1
        simp at h1
      cases he : ef k with
      | true =>
        rw [he] at h
        simp only [cond_true] at h
        obtain ⟨v, hv, hk⟩ := QOpW.plain h ht hcf
        exact ⟨o, v, _, h0, .inl ⟨hw, fun w ⟨H2, ⟨_, hs3⟩, hs2⟩ => hv w ((hs3 he).sat hs2)⟩, hk, ht.put o.dst v⟩
      | false =>
        rw [he] at h
        simp only [cond_false] at h
        obtain ⟨v, hv, hk⟩ := QOpW.plain h ht hcf
        exact ⟨o, v, _, h0, .inl ⟨hw, fun w ⟨H2, ⟨hs1, _⟩, hs2⟩ => hv w (hs1.sat hs2)⟩, hk, ht.put o.dst v⟩
    · exact ⟨o, undef, _, h0, .inr ⟨hw, rfl⟩, h, ht.put o.dst undef⟩
theorem stepE.sound {ops : Array Oper} {k : Nat} {K : Fr → Heap → Prop} {f : Fr} {H : Heap} {a : Act} (hn : 0 < n) (hq : qf k = false) (ht : TR C.ds n f a) (hst : Sub H H0) (hst1 : Sub H H1 ∨ True) (h : stepE C P H0 H1 lf n ops.toList k K f H) {M : Act → Heap → Prop}
    (hK : ∀ f' H' o v, ops[k]? = some o → (Se (S0 H0) (S0 H1) lf k H' ∨ H' = H) → TR C.ds n f' (a.put o.dst v) → K f' H' → M (a.put o.dst v) H') : mOp P ops C (S0 H0) (S0 H1) qf ef lf k M a H := by
  unfold stepE at h
  rw [Array.getElem?_toList] at h
  split at h
  · exact h.elim
  · rename_i o h0
    simp only [putK_eq] at h
    unfold mOp
    simp only [h0]
    rcases guardW.sound (ops := ops) ht h with ⟨hw, h⟩ | ⟨hw, h⟩
    · rw [if_pos hw, if_neg (by simp [hq])]
      exact ⟨_, ER.of_op hn h ht, fun v H' hk hst' _ => hK _ H' o v h0 (.inl hst') (ht.put o.dst v) hk⟩
    · rw [if_neg (by simp [hw])]
      exact hK _ H o undef h0 (.inr rfl) (ht.put o.dst undef) h
theorem core {ops : Array Oper} {Q : Fr → Heap → Prop} (hn : 0 < n) (hnc : callFree ops qf = true) (hW : waitsE .any ops qf ef lf = true) (hef : ∀ i, ef i = true → i < ops.size) (hp : pairsB ops qf = true) (hsel : Region.noSelect ops = true) : ∀ (t : Tr) (fuel : Nat) (listed : Array Bool) (a : Act) (f : Fr) (H : Heap), EInv qf ef lf ops.size listed → (∀ i, ef i = true → listed.getD i true = false → Sub H H1) → Sub H H0 → TR C.ds n f a → TreeW C P H0 H1 ef lf n ops.toList Q t f H →
    (depth t ≤ fuel → ok ops qf true listed t = true → W P ops C H0 H1 qf ef lf n Q fuel listed a H) ∧ (depth t ≤ fuel + 1 → ok ops qf false listed t = true → ∀ j ∈ Region.ready .any ops listed, j ∈ heads t → mOp P ops C (S0 H0) (S0 H1) qf ef lf j (W P ops C H0 H1 qf ef lf n Q fuel (listed.setIfInBounds j true)) a H) := by
  intro t
  induction t with
  | done =>
    intro fuel listed a f H hE hA hst ht h
    refine ⟨fun _ hok => ?_, fun _ _ j _ hj => by simp [heads] at hj⟩
    have h0 : Region.ready .any ops listed = [] := by simpa [ok] using hok
    cases fuel with
    | zero => exact ⟨h0, f, h, ht⟩
    | succ m => exact ⟨fun _ => ⟨f, h, ht⟩, fun i hi => by rw [h0] at hi; cases hi⟩
  | nil =>
    intro fuel listed a f H hE hA hst ht h
    exact ⟨fun _ hok => by simp [ok] at hok, fun _ _ j _ hj => by simp [heads] at hj⟩
  | q i t ih =>
    intro fuel listed a f H hE hA hst ht h
    refine ⟨fun hd hok => ?_, fun _ _ j _ hj => by simp [heads] at hj⟩
    simp only [ok, Bool.true_and, Bool.and_eq_true] at hok
    obtain ⟨⟨hq, hr⟩, hok⟩ := hok
    have hr' : i ∈ Region.ready .any ops listed := by simpa using hr
    obtain ⟨o, v, f', h0, hy, hk, ht'⟩ := stepQ.sound (qf := qf) hq hnc ht h
    simp only [depth] at hd
    obtain ⟨m, rfl⟩ : ∃ m, fuel = m + 1 := ⟨fuel - 1, by omega⟩
    refine wpAnyM_firstQ h0 hq (Region.noSelect_spec hsel) m listed a H (fun j oj hj hji hun hno => ?_) hr' hy ?_
    · have his : i < ops.size := (Array.getElem?_eq_some_iff.1 h0).1
      have hjs : j < ops.size := (Array.getElem?_eq_some_iff.1 hj).1
      have h1 := List.all_eq_true.1 hp i (by simpa using his)
      rw [hq, Bool.not_true, Bool.false_or] at h1
      have h2 := List.all_eq_true.1 h1 j (by simpa using hjs)
      rw [h0, hj] at h2
      simp only [Bool.or_eq_true] at h2
      rcases h2 with h2 | (h2 | h2) | h2
      · exact absurd (Nat.eq_of_beq_eq_true h2).symm hji
      · obtain ⟨e, he, hb⟩ := Array.any_eq_true'.1 h2
        simp only [Bool.and_eq_true] at hb
        exact absurd (Nat.eq_of_beq_eq_true hb.2) (hno e he hb.1)
      · exfalso
        obtain ⟨e, he, hb⟩ := Array.any_eq_true'.1 h2
        simp only [Bool.and_eq_true] at hb
        obtain ⟨_, oi, hoi, hall⟩ := mem_ready.1 hr'
        obtain rfl : oi = o := Option.some.inj (hoi.symm.trans h0)
        have h3 := hall e he hb.1
        rw [Nat.eq_of_beq_eq_true hb.2] at h3
        rcases Nat.lt_or_ge j listed.size with h' | h'
        · simp [h'] at hun h3; rw [hun] at h3; cases h3
        · simp [Array.getElem?_eq_none h'] at hun
      · exact h2
    · refine (ih m (listed.setIfInBounds i true) _ f' H (hE.step hW hr') (fun j hj hl => ?_) hst ht' hk).1 (by omega) hok
      refine hA j hj ?_
      by_cases hij : i = j
      · subst hij
        by_cases hks : i < listed.size
        · simp [Array.getD, hks] at hl
        · simp [Array.getD, hks] at hl
      · rw [getD_set_ne true hij] at hl; exact hl
  | b i t u iht ihu =>
    intro fuel listed a f H hE hA hst ht h
    have key : ∀ (m : Nat), depth t ≤ m → qf i = false → i ∈ Region.ready .any ops listed → ok ops qf true (listed.setIfInBounds i true) t = true → mOp P ops C (S0 H0) (S0 H1) qf ef lf i (W P ops C H0 H1 qf ef lf n Q m (listed.setIfInBounds i true)) a H := fun m hd hqi hr hok => by
      refine stepE.sound hn hqi ht hst (.inr trivial) h.1 fun f' H' o v h0 hse ht' hk => ?_
      have hgrow : ∀ j, (listed.setIfInBounds i true).getD j true = false → listed.getD j true = false := fun j hl => by
        by_cases hij : i = j
        · subst hij
          by_cases hks : i < listed.size
          · simp [Array.getD, hks] at hl
          · simp [Array.getD, hks] at hl
        · rw [getD_set_ne true hij] at hl; exact hl
      refine (iht m (listed.setIfInBounds i true) _ f' H' (hE.step hW hr) (fun j hj hl => ?_) (by rcases hse with h | rfl; exact h.1; exact hst) ht' hk).1 hd hok
      rcases hse with hse | rfl
      · cases hlf : lf i with
        | false => exact hse.2 hlf
        | true =>
          exfalso
          have h1 := hE.all hW hr hqi hlf (hef j hj) hj
          have h2 := hgrow j hl
          rcases Nat.lt_or_ge j listed.size with h' | h'
          · simp [Array.getD, h'] at h1 h2; rw [h1] at h2; cases h2
          · simp [Array.getD, Nat.not_lt.2 h'] at h1
      · exact hA j hj (hgrow j hl)
    refine ⟨fun hd hok => ?_, fun hd hok j hj hjh => ?_⟩
    · simp only [ok, Bool.not_true, Bool.false_or, Bool.and_eq_true, Bool.not_eq_true'] at hok
      obtain ⟨⟨⟨⟨hall, hri⟩, hqi⟩, hokt⟩, hoku⟩ := hok
      simp only [depth] at hd
      obtain ⟨m, rfl⟩ : ∃ m, fuel = m + 1 := ⟨fuel - 1, by omega⟩
      have hri' : i ∈ Region.ready .any ops listed := by simpa using hri
      refine ⟨fun h0 => (by rw [h0] at hri'; cases hri'), fun j hj => ?_⟩
      have hjm : j ∈ i :: heads u := by have := List.all_eq_true.1 hall j hj; simpa using this
      rcases List.mem_cons.1 hjm with rfl | hju
      · exact key m (by omega) hqi hj hokt
      · exact (ihu m listed a f H hE hA hst ht h.2).2 (by omega) hoku j hj hju
    · simp only [ok, Bool.not_false, Bool.true_or, Bool.true_and, Bool.and_eq_true, Bool.not_eq_true'] at hok
      obtain ⟨⟨hqi, hokt⟩, hoku⟩ := hok
      simp only [depth] at hd
      rcases List.mem_cons.1 hjh with rfl | hju
      · exact key fuel (by omega) hqi hj hokt
      · exact (ihu fuel listed a f H hE hA hst ht h.2).2 (by omega) hoku j hj hju
/-- A region that draws its order, by a tree of the orders of its effects (es; es1: early operations, which read what lies in H1; ls: late effects). -/
theorem drawT (T : Tr) (es es1 ls : List Nat) (H0 H1 : Heap) {id : Nat} {ops : Array Oper} {Q : Exit → Fr → Heap → Prop} {f : Fr} {H : Heap} (hn : Nat.blt 0 n = true) (hm : P.follows .mixedOrders = true) (hsel : Region.noSelect ops = true) (hok : ok ops (qfl es) true (Array.replicate ops.size false) T = true) (hdep : Nat.ble (depth T) ops.size = true)
    (hp : pairsB ops (qfl es) = true) (hnc : callFree ops (qfl es) = true) (hW : waitsE .any ops (qfl es) (efl es1) (efl ls) = true) (hlt : (es1.all fun i => Nat.blt i ops.size) = true) (h0 : Sub H H0) (h1 : Sub H H1)
    (h : TreeW C P H0 H1 (efl es1) (efl ls) n ops.toList (Q .normal) T f H) (hd : noDefer ops = true := by kernel_rfl) : DrawI C P n id ops Q f H :=
  ⟨hm, hd, fun a w ht hs' => by
    have hrep : ∀ k, (Array.replicate ops.size false).getD k false = false := fun k => by
      by_cases hk : k < ops.size <;> simp [Array.getD, hk]
    have hEI : EInv (qfl es) (efl es1) (efl ls) ops.size (Array.replicate ops.size false) := fun k _ _ hk => by rw [hrep] at hk; cases hk
    have hef : ∀ i, efl es1 i = true → i < ops.size := fun i hi => by
      have := List.all_eq_true.1 hlt i (by simpa [efl] using hi)
      simpa [Nat.blt_eq] using this
    exact wpAnyM_sound (St := S0 H0) (St1 := S0 H1) (qf := qfl es) (ef := efl es1) (lf := efl ls) hW hef (Q := fun a H => ∃ f, Q .normal f H ∧ TR C.ds n f a) (fun a' H' w' hs' ⟨f', hq, ht'⟩ => ⟨by simp, f', H', hq, ht', hs'⟩) _ _ _ H _ h0 hEI (fun _ _ _ => h1) hs'
      ((core (by simpa [Nat.blt_eq] using hn) hnc hW hef hp hsel T ops.size (Array.replicate ops.size false) a f H hEI (fun _ _ _ => h1) h0 ht h).1 (Nat.le_of_ble_eq_true hdep) hok)⟩
/-- As drawT, with a meeting place behind the region: what the frame holds (st) and the memory (hp). -/
theorem drawTC (T : Tr) (es es1 ls : List Nat) (H0 H1 : Heap) {σ : Type} (st : σ → List (Nat × Value)) (hp : σ → Heap) (inv : σ → Prop) {id : Nat} {ops : Array Oper} {Q : Exit → Fr → Heap → Prop} {f : Fr} {H : Heap} (hn : Nat.blt 0 n = true) (hm : P.follows .mixedOrders = true) (hsel : Region.noSelect ops = true) (hok : ok ops (qfl es) true (Array.replicate ops.size false) T = true) (hdep : Nat.ble (depth T) ops.size = true)
    (hpb : pairsB ops (qfl es) = true) (hnc : callFree ops (qfl es) = true) (hW : waitsE .any ops (qfl es) (efl es1) (efl ls) = true) (hlt : (es1.all fun i => Nat.blt i ops.size) = true) (h0 : Sub H H0) (h1 : Sub H H1)
    (h : TreeW C P H0 H1 (efl es1) (efl ls) n ops.toList (fun f H => ∃ s, inv s ∧ Has f (st s) ∧ Sub H (hp s)) T f H) (k : ∀ s f0, inv s → Q .normal (upds f0 (st s)) (hp s)) (hd : noDefer ops = true := by kernel_rfl) : DrawI C P n id ops Q f H :=
  ⟨hm, hd, fun a w ht hs' => by
    have hrep : ∀ k, (Array.replicate ops.size false).getD k false = false := fun k => by
      by_cases hk : k < ops.size <;> simp [Array.getD, hk]
    have hEI : EInv (qfl es) (efl es1) (efl ls) ops.size (Array.replicate ops.size false) := fun k _ _ hk => by rw [hrep] at hk; cases hk
    have hef : ∀ i, efl es1 i = true → i < ops.size := fun i hi => by
      have := List.all_eq_true.1 hlt i (by simpa [efl] using hi)
      simpa [Nat.blt_eq] using this
    exact wpAnyM_sound (St := S0 H0) (St1 := S0 H1) (qf := qfl es) (ef := efl es1) (lf := efl ls) hW hef (Q := fun a H => ∃ f, (∃ s, inv s ∧ Has f (st s) ∧ Sub H (hp s)) ∧ TR C.ds n f a) (fun a' H' w' hs' ⟨f', ⟨s, hi, hf, hsub⟩, ht'⟩ => ⟨by simp, f', hp s, by have := k s f' hi; rwa [upds_of_has hf] at this, ht', hsub.sat hs'⟩) _ _ _ H _ h0 hEI (fun _ _ _ => h1) hs'
      ((core (by simpa [Nat.blt_eq] using hn) hnc hW hef hpb hsel T ops.size (Array.replicate ops.size false) a f H hEI (fun _ _ _ => h1) h0 ht h).1 (Nat.le_of_ble_eq_true hdep) hok)⟩
end
end SL.Late.Tree
end Go.Proofs.YtlfmckjehjedpaaGreatDoor

/- The keys of a tree's nodes; one item more. -/
namespace Go.Proofs.YtlfmckjehjedpaaGreatDoor
set_option linter.unusedVariables false
set_option linter.unusedSimpArgs false
set_option maxRecDepth 100000
open SL Go.RowKit Go.Maps
/-- The node's key: an inner node's, or a leaf's. -/
def nodeK (t : TreeI) (v : Nat) : KeyI := if v < 21 then t.ks.getD v (0, 0) else leafK (t.rs.getD (v - 21) (0, 0, 0)) t.ep
/-- A node that has a key: an inner one, or the leaf of a taken seat. -/
def HasK (t : TreeI) (v : Nat) : Prop := v < 21 ∨ ∃ s, ∃ h : s < t.rs.length, v = 21 + s ∧ tk t.rs[s]
theorem nodeK_inner {t : TreeI} {v : Nat} (h : v < t.ks.length) (h2 : v < 21) : nodeK t v = t.ks[v] := by
  unfold nodeK; rw [if_pos h2, List.getD_eq_getElem?_getD, List.getElem?_eq_getElem h]; rfl
theorem nodeK_leaf {t : TreeI} {s : Nat} (h : s < t.rs.length) : nodeK t (21 + s) = leafK t.rs[s] t.ep := by
  unfold nodeK; rw [if_neg (by omega), Nat.add_sub_cancel_left, List.getD_eq_getElem?_getD, List.getElem?_eq_getElem h]; rfl
theorem HasK.key {t : TreeI} (T : TreeOk t) {v : Nat} (h : HasK t v) : keyB (nodeK t v).1 (nodeK t v).2 = true := by
  rcases h with h | ⟨s, hs, rfl, ht⟩
  · have hl : v < t.ks.length := by rw [T.K.len]; exact h
    rw [nodeK_inner hl h]
    exact T.key (List.getElem_mem hl)
  · rw [nodeK_leaf hs]
    exact T.leaf (List.getElem_mem hs) ht
theorem slotI_inner {v : Nat} (h : v < 21) : slotI (v : Int) = -1 := by unfold slotI; rw [if_pos (by omega)]
theorem slotI_leaf {s : Nat} (h : s < 64) : slotI ((21 + s : Nat) : Int) = (s : Int) := by unfold slotI; rw [if_neg (by omega), if_neg (by omega)]; omega
open SL.Late.Tree in
/-- The orders of 'k, _ := f(..)' with k in memory. -/
abbrev nkT : SL.Late.Tree.Tr := (.q 0 (.q 1 (.q 2 (.q 3 (.q 4 (.q 5 (.b 6 (.q 7 (.q 8 (.q 9 (.b 10 (.b 11 (.q 12 .done) .nil) .nil)))) (.b 10 (.b 6 (.q 7 (.q 8 (.q 9 (.b 11 (.q 12 .done) .nil)))) .nil) .nil))))))))
set_option maxHeartbeats 1000000 in
theorem nodeKey_ok (F : Mem) (t : TreeI) (T : TreeOk t) (v : Nat) (h : HasK t v) : FT Tryz.prog 55 [.agg (treeL t).toArray, .int .i64 (v : Int)].toArray F [] (Ret (.agg (keyF (nodeK t v)).toArray)) := by
  have hS := T.shaped
  have hl := treeL_length hS
  rcases h with h | ⟨s, hs, rfl, ht⟩
  · have hvl : v < t.ks.length := by rw [T.K.len]; exact h
    have hpart := treeL_key hS hvl
    rw [nodeK_inner hvl h]
    generalize t.ks[v] = k at hpart ⊢
    rw [show keyF k = [.int .i64 k.1, .int .i64 k.2] from rfl] at hpart ⊢
    refine FT.of_body Tryz.func55 rfl Tryz.ntmps55 (by simp) fun C hC => ?_
    subst hC
    conv => whnf
    intro b2
    conv => whnf
    intro b4
    conv => whnf
    refine CallS.mk Tryz.call86 ⟨[], _, _, Sub.refl _, fun F' hF' => sslot_ok F' (v : Int), ?_⟩
    rintro e A' ⟨rfl, rfl⟩
    rw [slotI_inner h]
    conv => whnf
    refine ⟨by omega, ?_⟩
    conv => whnf
    refine LoadV.eq (b := b2) (o := 2 + v * 2) (by exact congrArg (fun o => (⟨b2, o, none⟩ : Addr)) (elem_off2 (o := 2) (n := 2) (by kernel_rfl) rfl)) ?_
    refine LoadV.p 2 _ rfl rfl (by show 2 + v * 2 + 2 ≤ (treeL t).length; omega) hpart ?_
    conv => whnf
    refine StoreV.c rfl rfl (Nat.le_of_ble_eq_true rfl) rfl ?_
    conv => whnf
    refine RetI.cell1 Tryz.results55 rfl ?_
    conv => whnf
    refine LoadV.a 2 rfl (Nat.le_of_ble_eq_true rfl) ?_
    exact ⟨_, Sub.sel [] rfl, rfl, rfl⟩
  · have hs64 : s < 64 := by rw [← T.R.len]; exact hs
    have hpart := treeL_ent hS hs
    have hlo := T.leafOk (List.getElem_mem hs) ht
    rw [nodeK_leaf hs]
    generalize t.rs[s] = e at hpart hlo ⊢
    have hla := fun F' => leafAt_ok F' e t.ep hlo
    generalize leafK e t.ep = k at hla ⊢
    rw [show keyF k = [.int .i64 k.1, .int .i64 k.2] from rfl] at hla ⊢
    have hsl := slotI_leaf hs64
    have hso := fun F' => sslot_ok F' ((21 + s : Nat) : Int)
    rw [hsl] at hso
    generalize ((21 + s : Nat) : Int) = z at hso ⊢
    refine FT.of_body Tryz.func55 rfl Tryz.ntmps55 (by simp) fun C hC => ?_
    subst hC
    conv => whnf
    intro b2
    conv => whnf
    intro b4
    conv => whnf
    refine CallS.mk Tryz.call86 ⟨[], _, _, Sub.refl _, fun F' hF' => hso F', ?_⟩
    rintro ed A' ⟨rfl, rfl⟩
    conv => whnf
    refine SL.Late.Tree.drawTC nkT [6, 10, 11] [] [] [_] [] (fun b : Nat => [(4, .pointer (some ⟨b4, 0, none⟩)), (6, .pointer (some ⟨b, 0, none⟩))]) (fun b => [.cells b [.int .i64 k.1, .int .i64 k.2] 38 (0, 0), .cells b4 [.int .i64 0, .int .i64 0] 38 (0, 0)]) (fun _ => True)
      (by kernel_rfl) (by kernel_rfl) (by kernel_rfl) (by kernel_rfl) (by kernel_rfl) (by kernel_rfl) (by kernel_rfl) (by kernel_rfl) (by kernel_rfl) (Sub.sel [1] rfl) (Sub.sel [] rfl) ?_ ?_
    · conv => whnf
      refine ⟨by omega, ?_⟩
      conv => whnf
      refine LoadV.eq (b := b2) (o := 44 + s * 3) (by exact congrArg (fun o => (⟨b2, o, none⟩ : Addr)) (elem_off2 (o := 44) (n := 3) (by kernel_rfl) rfl)) ?_
      refine LoadV.p 3 _ rfl rfl (by show 44 + s * 3 + 3 ≤ (treeL t).length; omega) hpart ?_
      conv => whnf
      refine LoadV.s rfl rfl ?_
      conv => whnf
      refine ⟨?_, ?_, trivial⟩
      · refine CallS.mk Tryz.call87 ⟨[], [_, _], _, Sub.sel [0, 1] rfl, fun F' hF' => hla F', ?_⟩
        rintro ed A' ⟨rfl, rfl⟩
        conv => whnf
        refine ⟨⟨Sub.sel [1] rfl, fun _ => Sub.sel [] rfl⟩, ?_⟩
        conv => whnf
        refine ⟨?_, trivial⟩
        intro b6
        conv => whnf
        refine ⟨⟨Sub.sel [2] rfl, fun _ => Sub.sel [] rfl⟩, ?_⟩
        conv => whnf
        refine ⟨?_, trivial⟩
        refine StoreV.c rfl rfl (Nat.le_of_ble_eq_true rfl) rfl ?_
        conv => whnf
        refine ⟨⟨Sub.sel [2] rfl, fun _ => Sub.sel [] rfl⟩, ?_⟩
        conv => whnf
        exact ⟨b6, trivial, ⟨rfl, rfl, trivial⟩, Sub.sel [0, 1] rfl⟩
      · intro b6
        conv => whnf
        refine ⟨⟨Sub.sel [2] rfl, fun _ => Sub.sel [] rfl⟩, ?_⟩
        conv => whnf
        refine ⟨?_, trivial⟩
        refine CallS.mk Tryz.call87 ⟨[], [_, _, _], _, Sub.sel [0, 1, 2] rfl, fun F' hF' => hla F', ?_⟩
        rintro ed A' ⟨rfl, rfl⟩
        conv => whnf
        refine ⟨⟨Sub.sel [2] rfl, fun _ => Sub.sel [] rfl⟩, ?_⟩
        conv => whnf
        refine ⟨?_, trivial⟩
        refine StoreV.c rfl rfl (Nat.le_of_ble_eq_true rfl) rfl ?_
        conv => whnf
        refine ⟨⟨Sub.sel [2] rfl, fun _ => Sub.sel [] rfl⟩, ?_⟩
        conv => whnf
        exact ⟨b6, trivial, ⟨rfl, rfl, trivial⟩, Sub.sel [0, 1] rfl⟩
    rintro b6 f1 -
    dsimp only
    conv => whnf
    refine LoadV.a 2 rfl (Nat.le_of_ble_eq_true rfl) ?_
    conv => whnf
    refine StoreV.c rfl rfl (Nat.le_of_ble_eq_true rfl) rfl ?_
    conv => whnf
    refine RetI.cell1 Tryz.results55 rfl ?_
    conv => whnf
    refine LoadV.a 2 rfl (Nat.le_of_ble_eq_true rfl) ?_
    exact ⟨_, Sub.sel [] rfl, rfl, rfl⟩
end Go.Proofs.YtlfmckjehjedpaaGreatDoor

/- One item more. -/
namespace Go.Proofs.YtlfmckjehjedpaaGreatDoor
set_option linter.unusedVariables false
set_option linter.unusedSimpArgs false
set_option maxRecDepth 100000
open SL Go.RowKit Go.Maps
/-- The node's key sealed under another's. -/
def itemT (t : TreeI) (v c : Nat) : Item := ((v : Int), (c : Int), ((nodeK t c).1, (nodeK t c).2, (nodeK t v).1, (nodeK t v).2))
/-- A tree in memory, as a callee reads it. -/
def TreeF (F : Mem) (b : Nat) (t : TreeI) : Prop := ∀ j v, (treeL t)[j]? = some v → RdC F ⟨b, 0 + j, none⟩ v
theorem TreeF.ext {F F' : Mem} {B : Heap} {b : Nat} {t : TreeI} (h : TreeF F b t) (he : Ext F B F') : TreeF F' b t := fun j v hj => (h j v hj).ext he.F
theorem TreeF.cells {F F' : Mem} {B : Heap} {b : Nat} {t : TreeI} {T : TypeId} {fr : Nat × Nat} [hf : Find B b (treeL t) T fr] (he : Ext F B F') : TreeF F' b t := fun j v hj => rd_cell he (by rw [Nat.zero_add]; exact hj)
/-- A list of items that owns its row. -/
abbrev ownIt (g : Option (Nat × Nat)) (xs : List Item) : HObj := .own (svOf g xs.length) xs.length 75 6 (xs.flatMap itemF)
abbrev itT : SL.Late.Tree.Tr := (.q 0 (.q 1 (.q 3 (.q 4 (.b 2 (.b 5 (.b 6 (.q 7 (.q 8 (.q 9 (.b 10 (.b 11 (.q 12 .done) .nil) .nil)))) (.b 10 (.b 6 (.q 7 (.q 8 (.q 9 (.b 11 (.q 12 .done) .nil)))) .nil) .nil)) (.b 10 (.b 5 (.b 6 (.q 7 (.q 8 (.q 9 (.b 11 (.q 12 .done) .nil)))) .nil) .nil) .nil)) (.b 10 (.b 2 (.b 5 (.b 6 (.q 7 (.q 8 (.q 9 (.b 11 (.q 12 .done) .nil)))) .nil) .nil) .nil) .nil))))))
set_option maxHeartbeats 2000000 in
theorem put1_ok (F : Mem) (t : TreeI) (T : TreeOk t) (v c : Nat) (hv : HasK t v) (hc : HasK t c) (bt bo : Nat) (hT : TreeF F bt t) (g : Option (Nat × Nat)) (xs : List Item) (hn : xs.length ≤ 100000) :
    FT Tryz.prog 53 [.int .i64 (v : Int), .int .i64 (c : Int), .pointer (some ⟨bt, 0, none⟩), .pointer (some ⟨bo, 0, none⟩)].toArray F [.cells bo [svOf g xs.length] 29 (0, 0), ownIt g xs]
    (fun e H => e = .returned (.tuple #[]) ∧ ∃ gb gc, H = [.cells bo [svOf (some (gb, gc)) (xs ++ [itemT t v c]).length] 29 (0, 0), ownIt (some (gb, gc)) (xs ++ [itemT t v c])]) := by
  have hl := treeL_length T.shaped
  have hlk : kind Tryz.prog 62 = some (some (treeL t).length) := by rw [hl]; rfl
  refine FT.of_body Tryz.func53 rfl Tryz.ntmps53 (by simp) fun C hC => ?_
  subst hC
  conv => whnf
  refine SL.Late.Tree.drawTC itT [2, 5, 6, 10, 11] [] [] [] [] (fun b : Nat => [(0, .int .i64 (v : Int)), (1, .int .i64 (c : Int)), (3, .pointer (some ⟨bo, 0, none⟩)), (6, .pointer (some ⟨b, 0, none⟩)), (7, .int .i64 0)])
    (fun b => [.cells b [.int .i64 (nodeK t c).1, .int .i64 (nodeK t c).2, .int .i64 (nodeK t v).1, .int .i64 (nodeK t v).2] 40 (0, 0), .cells bo [svOf g xs.length] 29 (0, 0), ownIt g xs]) (fun _ => True)
    (by kernel_rfl) (by kernel_rfl) (by kernel_rfl) (by kernel_rfl) (by kernel_rfl) (by kernel_rfl) (by kernel_rfl) (by kernel_rfl) (by kernel_rfl) (Sub.sel [] rfl) (Sub.sel [] rfl) ?_ ?_
  · conv => whnf
    refine LoadV.fa (cs := treeL t) (fun j v hj => by rw [Addr_add]; exact hT j v hj) hlk ?_
    conv => whnf
    refine LoadV.fa (cs := treeL t) (fun j v hj => by rw [Addr_add]; exact hT j v hj) hlk ?_
    conv => whnf
    refine ⟨?_, ?_, trivial⟩
    · refine CallS.mk Tryz.call55 ⟨[], [_, _], _, Sub.sel [0, 1] rfl, fun F' hF' => nodeKey_ok F' t T c hc, ?_⟩
      rintro ed A' ⟨rfl, rfl⟩
      rw [show keyF (nodeK t c) = [.int .i64 (nodeK t c).1, .int .i64 (nodeK t c).2] from rfl]
      conv => whnf
      refine ⟨⟨Sub.sel [] rfl, fun _ => Sub.sel [] rfl⟩, ?_⟩
      conv => whnf
      refine ⟨?_, ?_, trivial⟩
      · refine CallS.mk Tryz.call55 ⟨[], [_, _], _, Sub.sel [0, 1] rfl, fun F' hF' => nodeKey_ok F' t T v hv, ?_⟩
        rintro ed A' ⟨rfl, rfl⟩
        rw [show keyF (nodeK t v) = [.int .i64 (nodeK t v).1, .int .i64 (nodeK t v).2] from rfl]
        conv => whnf
        refine ⟨⟨Sub.sel [] rfl, fun _ => Sub.sel [] rfl⟩, ?_⟩
        conv => whnf
        refine ⟨?_, ?_, trivial⟩
        · refine CallS.mk Tryz.call54 ⟨[], [_, _], _, Sub.sel [0, 1] rfl, fun F' hF' => seal_ok F' _ _ _ _ (hc.key T) (hv.key T), ?_⟩
          rintro ed A' ⟨rfl, rfl⟩
          conv => whnf
          refine ⟨⟨Sub.sel [] rfl, fun _ => Sub.sel [] rfl⟩, ?_⟩
          conv => whnf
          refine ⟨?_, trivial⟩
          intro b6
          conv => whnf
          refine ⟨⟨Sub.sel [] rfl, fun _ => Sub.sel [] rfl⟩, ?_⟩
          conv => whnf
          refine ⟨?_, trivial⟩
          refine StoreV.c rfl rfl (Nat.le_of_ble_eq_true rfl) rfl ?_
          conv => whnf
          refine ⟨⟨Sub.sel [] rfl, fun _ => Sub.sel [] rfl⟩, ?_⟩
          conv => whnf
          exact ⟨b6, trivial, ⟨rfl, rfl, rfl, rfl, rfl, trivial⟩, Sub.sel [0, 1, 2] rfl⟩
        · intro b6
          conv => whnf
          refine ⟨⟨Sub.sel [] rfl, fun _ => Sub.sel [] rfl⟩, ?_⟩
          conv => whnf
          refine ⟨?_, trivial⟩
          refine CallS.mk Tryz.call54 ⟨[], [_, _, _], _, Sub.sel [0, 1, 2] rfl, fun F' hF' => seal_ok F' _ _ _ _ (hc.key T) (hv.key T), ?_⟩
          rintro ed A' ⟨rfl, rfl⟩
          conv => whnf
          refine ⟨⟨Sub.sel [] rfl, fun _ => Sub.sel [] rfl⟩, ?_⟩
          conv => whnf
          refine ⟨?_, trivial⟩
          refine StoreV.c rfl rfl (Nat.le_of_ble_eq_true rfl) rfl ?_
          conv => whnf
          refine ⟨⟨Sub.sel [] rfl, fun _ => Sub.sel [] rfl⟩, ?_⟩
          conv => whnf
          exact ⟨b6, trivial, ⟨rfl, rfl, rfl, rfl, rfl, trivial⟩, Sub.sel [0, 1, 2] rfl⟩
      · intro b6
        conv => whnf
        refine ⟨⟨Sub.sel [] rfl, fun _ => Sub.sel [] rfl⟩, ?_⟩
        conv => whnf
        refine ⟨?_, trivial⟩
        refine CallS.mk Tryz.call55 ⟨[], [_, _, _], _, Sub.sel [0, 1, 2] rfl, fun F' hF' => nodeKey_ok F' t T v hv, ?_⟩
        rintro ed A' ⟨rfl, rfl⟩
        rw [show keyF (nodeK t v) = [.int .i64 (nodeK t v).1, .int .i64 (nodeK t v).2] from rfl]
        conv => whnf
        refine ⟨⟨Sub.sel [] rfl, fun _ => Sub.sel [] rfl⟩, ?_⟩
        conv => whnf
        refine ⟨?_, trivial⟩
        refine CallS.mk Tryz.call54 ⟨[], [_, _, _], _, Sub.sel [0, 1, 2] rfl, fun F' hF' => seal_ok F' _ _ _ _ (hc.key T) (hv.key T), ?_⟩
        rintro ed A' ⟨rfl, rfl⟩
        conv => whnf
        refine ⟨⟨Sub.sel [] rfl, fun _ => Sub.sel [] rfl⟩, ?_⟩
        conv => whnf
        refine ⟨?_, trivial⟩
        refine StoreV.c rfl rfl (Nat.le_of_ble_eq_true rfl) rfl ?_
        conv => whnf
        refine ⟨⟨Sub.sel [] rfl, fun _ => Sub.sel [] rfl⟩, ?_⟩
        conv => whnf
        exact ⟨b6, trivial, ⟨rfl, rfl, rfl, rfl, rfl, trivial⟩, Sub.sel [0, 1, 2] rfl⟩
    · intro b6
      conv => whnf
      refine ⟨⟨Sub.sel [] rfl, fun _ => Sub.sel [] rfl⟩, ?_⟩
      conv => whnf
      refine ⟨?_, trivial⟩
      refine CallS.mk Tryz.call55 ⟨[], [_, _, _], _, Sub.sel [0, 1, 2] rfl, fun F' hF' => nodeKey_ok F' t T c hc, ?_⟩
      rintro ed A' ⟨rfl, rfl⟩
      rw [show keyF (nodeK t c) = [.int .i64 (nodeK t c).1, .int .i64 (nodeK t c).2] from rfl]
      conv => whnf
      refine ⟨⟨Sub.sel [] rfl, fun _ => Sub.sel [] rfl⟩, ?_⟩
      conv => whnf
      refine ⟨?_, trivial⟩
      refine CallS.mk Tryz.call55 ⟨[], [_, _, _], _, Sub.sel [0, 1, 2] rfl, fun F' hF' => nodeKey_ok F' t T v hv, ?_⟩
      rintro ed A' ⟨rfl, rfl⟩
      rw [show keyF (nodeK t v) = [.int .i64 (nodeK t v).1, .int .i64 (nodeK t v).2] from rfl]
      conv => whnf
      refine ⟨⟨Sub.sel [] rfl, fun _ => Sub.sel [] rfl⟩, ?_⟩
      conv => whnf
      refine ⟨?_, trivial⟩
      refine CallS.mk Tryz.call54 ⟨[], [_, _, _], _, Sub.sel [0, 1, 2] rfl, fun F' hF' => seal_ok F' _ _ _ _ (hc.key T) (hv.key T), ?_⟩
      rintro ed A' ⟨rfl, rfl⟩
      conv => whnf
      refine ⟨⟨Sub.sel [] rfl, fun _ => Sub.sel [] rfl⟩, ?_⟩
      conv => whnf
      refine ⟨?_, trivial⟩
      refine StoreV.c rfl rfl (Nat.le_of_ble_eq_true rfl) rfl ?_
      conv => whnf
      refine ⟨⟨Sub.sel [] rfl, fun _ => Sub.sel [] rfl⟩, ?_⟩
      conv => whnf
      exact ⟨b6, trivial, ⟨rfl, rfl, rfl, rfl, rfl, trivial⟩, Sub.sel [0, 1, 2] rfl⟩
  rintro b6 f1 -
  dsimp only
  conv => whnf
  refine LoadV.s rfl rfl ?_
  conv => whnf
  refine LoadV.a 4 rfl (Nat.le_of_ble_eq_true rfl) ?_
  conv => whnf
  intro bl
  conv => whnf
  refine BuiltV.append (sv := svOf g xs.length) (m := 1) Tryz.underlying29 rfl rfl rfl rfl (by decide) (Row.cells 6) rfl (by decide) rfl (by show (xs.length + 1) * 48 ≤ _; omega) (by omega) fun gb gc => ?_
  conv => whnf
  refine StoreV.c rfl rfl (Nat.le_of_ble_eq_true rfl) rfl ?_
  conv => whnf
  refine RetI.none Tryz.results53 ?_
  refine ⟨_, Sub.sel [2, 3] rfl, rfl, gb, gc, ?_⟩
  dsimp only [ownIt]
  rw [own_snocF itemF, show (xs ++ [itemT t v c]).length = xs.length + 1 by simp]
  rfl
end Go.Proofs.YtlfmckjehjedpaaGreatDoor

/- The message's items. -/
namespace Go.Proofs.YtlfmckjehjedpaaGreatDoor
set_option linter.unusedVariables false
set_option linter.unusedSimpArgs false
set_option maxRecDepth 100000
open SL Go.RowKit Go.Maps
def heldB (t : TreeI) (c : Nat) : Bool := hits (takenN t.rs) c
def itV (t : TreeI) (v i : Nat) : List Item := ((List.range i).filter fun j => heldB t (4 * v + 1 + j)).map fun j => itemT t v (4 * v + 1 + j)
def itA (t : TreeI) (p : Nat → Bool) : Nat → List Item
  | 0 => []
  | j + 1 => itA t p j ++ (if p (20 - j) = true then itV t (20 - j) 4 else [])
def itP (t : TreeI) (p : Nat → Bool) (s : Nat) (l : List Nat) : List Item := (l.filter fun v => !p v).map fun v => itemT t v (21 + s)
def itB (t : TreeI) (p : Nat → Bool) (J : List Seat) : List Item := J.flatMap fun x => itP t p x.2.toNat (pathL x.2.toNat)
def itemsT (t : TreeI) (p : Nat → Bool) (J : List Seat) : List Item := itA t p 21 ++ itB t p J
theorem itV_succ (t : TreeI) (v i : Nat) : itV t v (i + 1) = itV t v i ++ (if heldB t (4 * v + 1 + i) = true then [itemT t v (4 * v + 1 + i)] else []) := by
  unfold itV
  rw [List.range_succ, List.filter_append, List.map_append]
  congr 1
  by_cases h : heldB t (4 * v + 1 + i) = true
  · rw [if_pos h]; simp [h]
  · rw [if_neg h]; simp [h]
theorem itV_len (t : TreeI) (v i : Nat) : (itV t v i).length ≤ i := by
  unfold itV; rw [List.length_map]; exact Nat.le_trans (List.length_filter_le _ _) (by simp)
theorem itA_len (t : TreeI) (p : Nat → Bool) : ∀ j, (itA t p j).length ≤ 4 * j
  | 0 => by simp [itA]
  | j + 1 => by
    have ih := itA_len t p j
    have hv := itV_len t (20 - j) 4
    unfold itA
    rw [List.length_append]
    split
    · omega
    · simp only [List.length_nil]; omega
theorem itP_len (t : TreeI) (p : Nat → Bool) (s : Nat) (l : List Nat) : (itP t p s l).length ≤ l.length := by
  unfold itP; rw [List.length_map]; exact List.length_filter_le _ _
theorem itB_len (t : TreeI) (p : Nat → Bool) : ∀ J, (itB t p J).length ≤ 3 * J.length
  | [] => by simp [itB]
  | x :: J => by
    have ih := itB_len t p J
    have h := itP_len t p x.2.toNat (pathL x.2.toNat)
    have h3 : (pathL x.2.toNat).length = 3 := rfl
    unfold itB at ih ⊢
    rw [List.flatMap_cons, List.length_append, List.length_cons]
    omega
theorem itB_snoc (t : TreeI) (p : Nat → Bool) (J : List Seat) {i : Nat} (h : i < J.length) : itB t p (J.take (i + 1)) = itB t p (J.take i) ++ itP t p J[i].2.toNat (pathL J[i].2.toNat) := by
  unfold itB; rw [take_snoc h, List.flatMap_append]; simp
theorem itP_snoc (t : TreeI) (p : Nat → Bool) (s : Nat) (l : List Nat) {i : Nat} (h : i < l.length) : itP t p s (l.take (i + 1)) = itP t p s (l.take i) ++ (if p l[i] = true then [] else [itemT t l[i] (21 + s)]) := by
  unfold itP
  rw [take_snoc h, List.filter_append, List.map_append]
  congr 1
  by_cases hp : p l[i] = true
  · rw [if_pos hp, List.filter_cons_of_neg (by simp [hp])]; rfl
  · rw [if_neg hp, List.filter_cons_of_pos (by simp [hp])]; rfl
theorem under_leaf {s i : Nat} (hs : s < 64) (hi : i < 64) : under (21 + s) i = decide (s = i) := by
  rw [← maskN_bit (by omega) hi, leaf_bit hs hi]
theorem held_has {t : TreeI} (T : TreeOk t) {c : Nat} (hc : c < 85) (h : heldB t c = true) : HasK t c := by
  by_cases h1 : c < 21
  · exact .inl h1
  · obtain ⟨i, hi, h2, h3⟩ := (hits_iff hc (takenN_lt T.R.len)).1 h
    obtain ⟨s, rfl⟩ : ∃ s, c = 21 + s := ⟨c - 21, by omega⟩
    rw [under_leaf (by omega) hi] at h3
    have := of_decide_eq_true h3
    subst this
    have hl : s < t.rs.length := by rw [T.R.len]; exact hi
    rw [takenN_bit _ _ hl] at h2
    exact .inr ⟨s, hl, rfl, (tkB_iff _).1 h2⟩
/-- The seats of those who joined. -/
def Seated (t : TreeI) (J : List Seat) : Prop := ∀ x ∈ J, 0 ≤ x.2 ∧ ∃ h : x.2.toNat < t.rs.length, tk t.rs[x.2.toNat]
theorem and1_not (m v : Nat) (hm : m < 4294967296) (hv : v ≤ 32) : (bits BinOp.and IntKind.u32 (Int.fdiv (m : Int) (2 ^ min (Int.toNat (v : Int)) IntKind.u32.bits)) 1 == 0) = !(bits BinOp.and IntKind.u32 (Int.fdiv (m : Int) (2 ^ min (Int.toNat (v : Int)) IntKind.u32.bits)) 1 == 1) := by
  rw [show IntKind.u32.bits = 32 from rfl, shr_le hv, show (1 : Int) = ((1 : Nat) : Int) from rfl, u32_and_nat _ 1 (Nat.lt_of_le_of_lt (Nat.div_le_self _ _) hm) (by decide), Nat.and_one_is_mod]
  have : m / 2 ^ v % 2 = 0 ∨ m / 2 ^ v % 2 = 1 := by omega
  rcases this with h | h <;> rw [h] <;> rfl
def rkL (ep : Int) (oL : Option Addr) (nL cL : Nat) (oJ : Option Addr) (nJ cJ : Nat) : List Value := [.int .i64 ep, .slice oL nL cL, .slice oJ nJ cJ, .slice none 0 0]
set_option maxHeartbeats 4000000 in
theorem items_ok (F : Mem) (t : TreeI) (T : TreeOk t) (ep : Int) (oL oJ : Option Addr) (cL cJ : Nat) (L J : List Seat) (hL : SlF F 2 oL L.length (L.flatMap seatF)) (hJ : SlF F 2 oJ J.length (J.flatMap seatF)) (nL : L.length ≤ 1000) (nJ : J.length ≤ 1000) (hS : SlotsOk L) (hSe : Seated t J) :
    FT Tryz.prog 23 [.agg (treeL t).toArray, .agg (rkL ep oL L.length cL oJ J.length cJ).toArray].toArray F []
    (fun e H => ∃ g, (g = none ↔ itemsT t (repP L) J = []) ∧ e = .returned (svOf g (itemsT t (repP L) J).length) ∧ H = [ownIt g (itemsT t (repP L) J)]) := by
  have hTs := T.shaped
  have hl := treeL_length hTs
  have hlr := rsV_len hTs.r
  have hm := nodesOf_lt32 (repP L) (Nat.le_refl 21)
  have hbit := fun v (hv : v < 21) => (bit_test (nodesOf (repP L) 21) v hm (by omega)).trans (nodesOf_fun (repP L) hv)
  have hrp := fun F' hL => repl_ok F' oL cL L hL (by omega) hS
  rw [show replN L = nodesOf (repP L) 21 from rfl] at hrp
  generalize nodesOf (repP L) 21 = m at hm hbit hrp
  have htn := takenN_lt T.R.len
  have htk := fun F' => taken_ok F' t.rs T.R.len
  have hheld : ∀ c, c < 85 → (((maskN c &&& takenN t.rs : Nat) : Int) != 0) = heldB t c := fun c hc => by unfold heldB hits; rw [Bool.eq_iff_iff]; simp
  generalize takenN t.rs = tn at htn htk hheld
  refine FT.of_body Tryz.func23 rfl Tryz.ntmps23 (by simp) fun C hC => ?_
  subst hC
  conv => whnf
  intro b2
  conv => whnf
  intro b3
  conv => whnf
  intro bo
  conv => whnf
  rw [cap0, cap2]
  refine DrawI.quiet (by kernel_rfl) (by kernel_rfl) ?_
  conv => whnf
  refine LoadV.p 192 (rsV t.rs) rfl hlr (by show 44 + 192 ≤ (treeL t).length; omega) (treeL_rs hTs) ?_
  conv => whnf
  refine CallQ.pure Tryz.call56 (fun F' _ => (htk F').mono fun _ _ h => h.1) ?_
  conv => whnf
  refine LoadV.s rfl rfl ?_
  conv => whnf
  refine CallQ.pure Tryz.call48 (fun F' hF' => (hrp F' (hL.ext hF'.F)).mono fun _ _ h => h.1) ?_
  conv => whnf
  refine LoopI.by_state (σ := Nat × Option (Nat × Nat)) (fun s => [(2, .pointer (some ⟨b2, 0, none⟩)), (3, .pointer (some ⟨b3, 0, none⟩)), (5, .pointer (some ⟨bo, 0, none⟩)), (6, .func (.func 53) #[] #[.pointer (some ⟨b2, 0, none⟩), .pointer (some ⟨bo, 0, none⟩)]), (7, .int .u64 (tn : Int)), (8, .int .u32 (m : Int)), (9, .int .i64 (20 - (s.1 : Int)))])
    (fun s => [.cells bo [svOf s.2 (itA t (repP L) s.1).length] 29 (0, 0), ownIt s.2 (itA t (repP L) s.1), .cells b3 (rkL ep oL L.length cL oJ J.length cJ) 31 (0, 0), .cells b2 (treeL t) 62 (0, 0)])
    (fun s => s.1 ≤ 21 ∧ (s.2 = none ↔ itA t (repP L) s.1 = [])) (fun s => 21 - s.1) (0, none) ⟨Nat.zero_le _, by simp [itA]⟩ ⟨rfl, rfl, rfl, rfl, rfl, rfl, rfl, trivial⟩ (Sub.trans (Sub.nil 75 6) (Sub.sel [1, 0, 2, 3] rfl)) ?_
  rintro ⟨j, g⟩ f0 ⟨hj, hg⟩
  dsimp only at hj hg ⊢
  have hjl := itA_len t (repP L) j
  generalize hvz : (20 - (j : Int)) = vz
  conv => whnf
  refine cond_dec (fun h => ?_) (fun h => ?_)
  · obtain ⟨v, hv⟩ : ∃ v, v = 20 - j := ⟨_, rfl⟩
    have hv21 : v < 21 := by omega
    obtain rfl : vz = (v : Int) := by omega
    have hAs : itA t (repP L) (j + 1) = itA t (repP L) j ++ (if repP L v = true then itV t v 4 else []) := by rw [hv]; rfl
    have hb := hbit v hv21
    generalize itA t (repP L) j = xs0 at hg hjl hAs ⊢
    conv => whnf
    refine LoopI.by_state (σ := Nat × Option (Nat × Nat)) (fun s => [(2, .pointer (some ⟨b2, 0, none⟩)), (3, .pointer (some ⟨b3, 0, none⟩)), (5, .pointer (some ⟨bo, 0, none⟩)), (6, .func (.func 53) #[] #[.pointer (some ⟨b2, 0, none⟩), .pointer (some ⟨bo, 0, none⟩)]), (7, .int .u64 (tn : Int)), (8, .int .u32 (m : Int)), (9, .int .i64 (v : Int)), (10, .int .i64 (s.1 : Int))])
      (fun s => [.cells bo [svOf s.2 (xs0 ++ itV t v s.1).length] 29 (0, 0), ownIt s.2 (xs0 ++ itV t v s.1), .cells b3 (rkL ep oL L.length cL oJ J.length cJ) 31 (0, 0), .cells b2 (treeL t) 62 (0, 0)])
      (fun s => s.1 ≤ 4 ∧ (repP L v = false → s.1 = 0) ∧ (s.2 = none ↔ xs0 ++ itV t v s.1 = [])) (fun s => 4 - s.1) (0, g) ⟨Nat.zero_le _, fun _ => rfl, by simpa [itV] using hg⟩ ⟨rfl, rfl, rfl, rfl, rfl, rfl, rfl, rfl, trivial⟩ (by simp only [itV, List.range_zero, List.filter_nil, List.map_nil, List.append_nil]; exact Sub.refl _) ?_
    rintro ⟨i, g2⟩ f1 ⟨hi, hp0, hg2⟩
    dsimp only at hi hp0 hg2 ⊢
    have hil := itV_len t v i
    have hst := itV_succ t v i
    have hst2 : xs0 ++ itV t v (i + 1) = (xs0 ++ itV t v i) ++ (if heldB t (4 * v + 1 + i) = true then [itemT t v (4 * v + 1 + i)] else []) := by rw [hst, List.append_assoc]
    have hxl : (xs0 ++ itV t v i).length ≤ 100 := by rw [List.length_append]; omega
    have hend : i = 4 ∨ repP L v = false → xs0 ++ itV t v i = itA t (repP L) (j + 1) := fun e => by
      rw [hAs]
      rcases e with rfl | e
      · by_cases hp : repP L v = true
        · rw [if_pos hp]
        · rw [Bool.not_eq_true] at hp
          have := hp0 hp; omega
      · rw [hp0 e, if_neg (by rw [e]; simp)]; simp [itV]
    generalize xs0 ++ itV t v i = xs at hg2 hst2 hxl hend ⊢
    conv => whnf
    refine ArI.toU64 (v : Int) rfl (by omega) ?_
    conv => whnf
    refine ⟨by omega, ?_⟩
    conv => whnf
    rw [hb]
    cases hp : repP L v with
    | false =>
      have he := hend (.inr hp)
      conv => whnf
      refine ArI.to64 (20 - ((j + 1 : Nat) : Int)) (by omega) (by omega) ?_
      conv => whnf
      exact ⟨(j + 1, g2), _, by dsimp only; omega, Sub.refl _, ⟨by dsimp only; omega, by dsimp only; rw [← he]; exact hg2⟩, ⟨rfl, rfl, rfl, rfl, rfl, rfl, rfl, trivial⟩, by dsimp only; rw [← he]⟩
    | true =>
      conv => whnf
      refine cond_dec (fun h2 => ?_) (fun h2 => ?_)
      · have hi4 : i < 4 := by omega
        have hch := fun F' => schild_ok F' (v : Int) (i : Int) (by omega) (by omega) (by omega) (by omega)
        have hc85 : 4 * v + 1 + i < 85 := by omega
        have hmk := fun F' => mask_ok F' ((4 * v + 1 + i : Nat) : Int)
        rw [maskN_eq hc85] at hmk
        have hhe := hheld (4 * v + 1 + i) hc85
        have hml := maskN_lt hc85
        rw [show 4 * (v : Int) + 1 + (i : Int) = ((4 * v + 1 + i : Nat) : Int) by omega] at hch
        have hhk := held_has T hc85
        generalize 4 * v + 1 + i = c at hst2 hch hmk hhe hml hhk hc85 ⊢
        have hput := fun F' (hB : TreeF F' b2 t) (hk : HasK t c) => put1_ok F' t T v c (.inl hv21) hk b2 bo hB g2 xs (by omega)
        generalize hcz : (c : Int) = z at hch hmk hput ⊢
        conv => whnf
        refine CallS.mk Tryz.call57 ⟨[], _, _, Sub.refl _, fun F' hF' => hch F', ?_⟩
        rintro e A' ⟨rfl, rfl⟩
        conv => whnf
        refine CallS.mk Tryz.call58 ⟨[], _, _, Sub.refl _, fun F' hF' => hmk F', ?_⟩
        rintro e A' ⟨rfl, rfl⟩
        conv => whnf
        rw [u64_and_nat _ _ hml htn]
        generalize maskN c &&& tn = y at hhe ⊢
        conv => whnf
        rw [hhe]
        cases hh : heldB t c with
        | true =>
          rw [if_pos hh] at hst2
          conv => whnf
          refine CallS.mk Tryz.call53 ⟨[_, _], [_, _], _, Sub.sel [0, 1, 2, 3] rfl, fun F' hF' => hput F' (TreeF.cells hF') (hhk hh), ?_⟩
          rintro e A' ⟨rfl, gb, gc, rfl⟩
          conv => whnf
          refine ArI.to64 ((i + 1 : Nat) : Int) (by omega) (by omega) ?_
          conv => whnf
          refine ⟨(i + 1, some (gb, gc)), _, by dsimp only; omega, Sub.sel [0, 1, 2, 3] rfl, ⟨by dsimp only; omega, fun e => (by cases e), by dsimp only; rw [hst2]; simp⟩, ⟨rfl, rfl, rfl, rfl, rfl, rfl, rfl, rfl, trivial⟩, ?_⟩
          dsimp only; rw [hst2]
        | false =>
          rw [if_neg (by rw [hh]; simp), List.append_nil] at hst2
          conv => whnf
          refine ArI.to64 ((i + 1 : Nat) : Int) (by omega) (by omega) ?_
          conv => whnf
          refine ⟨(i + 1, g2), _, by dsimp only; omega, Sub.sel [0, 1, 2, 3] rfl, ⟨by dsimp only; omega, fun e => (by cases e), by dsimp only; rw [hst2]; exact hg2⟩, ⟨rfl, rfl, rfl, rfl, rfl, rfl, rfl, rfl, trivial⟩, ?_⟩
          dsimp only; rw [hst2]
      · have he := hend (.inl (by omega))
        conv => whnf
        refine ArI.to64 (20 - ((j + 1 : Nat) : Int)) (by omega) (by omega) ?_
        conv => whnf
        exact ⟨(j + 1, g2), _, by dsimp only; omega, Sub.refl _, ⟨by dsimp only; omega, by dsimp only; rw [← he]; exact hg2⟩, ⟨rfl, rfl, rfl, rfl, rfl, rfl, rfl, trivial⟩, by dsimp only; rw [← he]⟩
  · obtain rfl : j = 21 := by omega
    generalize hA : itA t (repP L) 21 = xs0 at hg hjl ⊢
    conv => whnf
    refine LoadV.s rfl rfl ?_
    conv => whnf
    refine LoopI.by_state (σ := Nat × Option (Nat × Nat)) (fun s => [(5, .pointer (some ⟨bo, 0, none⟩)), (6, .func (.func 53) #[] #[.pointer (some ⟨b2, 0, none⟩), .pointer (some ⟨bo, 0, none⟩)]), (8, .int .u32 (m : Int)), (54, .slice oJ J.length cJ), (55, .int .i64 (J.length : Int)), (56, .int .i64 (s.1 : Int))])
      (fun s => [.cells bo [svOf s.2 (xs0 ++ itB t (repP L) (J.take s.1)).length] 29 (0, 0), ownIt s.2 (xs0 ++ itB t (repP L) (J.take s.1)), .cells b3 (rkL ep oL L.length cL oJ J.length cJ) 31 (0, 0), .cells b2 (treeL t) 62 (0, 0)])
      (fun s => s.1 ≤ J.length ∧ (s.2 = none ↔ xs0 ++ itB t (repP L) (J.take s.1) = [])) (fun s => J.length - s.1) (0, g) ⟨Nat.zero_le _, by simpa [itB] using hg⟩ ⟨rfl, rfl, rfl, rfl, rfl, rfl, trivial⟩ (by simp only [itB, List.take_zero, List.flatMap_nil, List.append_nil]; exact Sub.refl _) ?_
    rintro ⟨i, g2⟩ f1 ⟨hi, hg2⟩
    dsimp only at hi hg2 ⊢
    conv => whnf
    refine cond_dec (fun h2 => ?_) (fun h2 => ?_)
    · have hil : i < J.length := by omega
      have hx := hJ.at hil
      obtain ⟨xb, xo, rfl, hrow⟩ := hx
      have hrd := flat_row seatF_length hrow hil rfl
      have hse := hSe J[i] (List.getElem_mem hil)
      have hsn := itB_snoc t (repP L) J hil
      have hbl := itB_len t (repP L) (J.take i)
      rw [List.length_take, Nat.min_eq_left (by omega)] at hbl
      have hsn2 : xs0 ++ itB t (repP L) (J.take (i + 1)) = (xs0 ++ itB t (repP L) (J.take i)) ++ itP t (repP L) J[i].2.toNat (pathL J[i].2.toNat) := by rw [hsn, List.append_assoc]
      have hxl : (xs0 ++ itB t (repP L) (J.take i)).length ≤ 4000 := by rw [List.length_append]; omega
      generalize xs0 ++ itB t (repP L) (J.take i) = xs1 at hg2 hsn2 hxl ⊢
      generalize J[i] = x at hrd hse hsn2 ⊢
      obtain ⟨xw, xs⟩ := x
      dsimp only at hse hsn2
      rw [show seatF (xw, xs) = [.int .i64 xw, .int .i64 xs] from rfl] at hrd
      obtain ⟨s, rfl⟩ : ∃ s : Nat, xs = (s : Int) := ⟨xs.toNat, by omega⟩
      rw [Int.toNat_natCast] at hsn2
      obtain ⟨_, hsl, hstk⟩ := hse
      have hsl' : s < t.rs.length := by simpa using hsl
      have hs64 : s < 64 := by rw [← T.R.len]; exact hsl'
      have hkc : HasK t (21 + s) := .inr ⟨s, hsl', rfl, by simpa using hstk⟩
      conv => whnf
      refine ⟨by omega, ?_⟩
      conv => whnf
      refine LoadV.fa hrd rfl ?_
      conv => whnf
      intro b13
      conv => whnf
      refine StoreV.c rfl rfl (Nat.le_of_ble_eq_true rfl) rfl ?_
      conv => whnf
      refine LoadV.s rfl rfl ?_
      conv => whnf
      refine CallS.mk Tryz.call59 ⟨[], _, _, Sub.refl _, fun F' hF' => spath_ok F' s hs64, ?_⟩
      rintro e A' ⟨rfl, rfl⟩
      conv => whnf
      intro b14
      conv => whnf
      refine StoreV.c rfl rfl (Nat.le_of_ble_eq_true rfl) rfl ?_
      conv => whnf
      have hpl : (natsC (pathL s)).length = 3 := rfl
      have hpl2 : (pathL s).length = 3 := rfl
      have hpn : ∀ x ∈ pathL s, x < 21 := fun x hx => by
        simp only [pathL, List.mem_cons, List.not_mem_nil, or_false] at hx
        omega
      refine LoadV.p 3 (natsC (pathL s)) rfl rfl (Nat.le_of_ble_eq_true rfl) rfl ?_
      have hpv : ∀ k (hk : k < (pathL s).length), (natsC (pathL s))[k]? = some (.int .i64 (((pathL s)[k] : Nat) : Int)) := fun k hk => by unfold natsC; rw [List.getElem?_map, List.getElem?_eq_getElem hk]; rfl
      have hi0 : xs1 ++ itP t (repP L) s ((pathL s).take 0) = xs1 := by simp [itP]
      have hiN : xs1 ++ itP t (repP L) s ((pathL s).take 3) = xs0 ++ itB t (repP L) (J.take (i + 1)) := by rw [hsn2, List.take_of_length_le (by omega)]
      have hstp := fun k (hk : k < (pathL s).length) => itP_snoc t (repP L) s (pathL s) hk
      have hPl : ∀ k, k ≤ 3 → (itP t (repP L) s ((pathL s).take k)).length ≤ 3 := fun k hk => by
        have := itP_len t (repP L) s ((pathL s).take k)
        rw [List.length_take] at this; omega
      generalize natsC (pathL s) = NC at hpl hpv ⊢
      generalize pathL s = pl at hpl2 hpn hpv hi0 hiN hstp hPl
      conv => whnf
      refine LoopI.by_state (σ := Nat × Option (Nat × Nat)) (fun y => [(5, .pointer (some ⟨bo, 0, none⟩)), (6, .func (.func 53) #[] #[.pointer (some ⟨b2, 0, none⟩), .pointer (some ⟨bo, 0, none⟩)]), (8, .int .u32 (m : Int)), (13, .pointer (some ⟨b13, 0, none⟩)), (54, .slice (some ⟨xb, xo, none⟩) J.length cJ), (55, .int .i64 (J.length : Int)), (56, .int .i64 (i : Int)), (66, .agg NC.toArray), (67, .int .i64 (y.1 : Int))])
        (fun y => [.cells bo [svOf y.2 (xs1 ++ itP t (repP L) s (pl.take y.1)).length] 29 (0, 0), ownIt y.2 (xs1 ++ itP t (repP L) s (pl.take y.1)), .cells b13 [.int .i64 xw, .int .i64 (s : Int)] 97 (0, 0), .cells b3 (rkL ep oL L.length cL (some ⟨xb, xo, none⟩) J.length cJ) 31 (0, 0), .cells b2 (treeL t) 62 (0, 0)])
        (fun y => y.1 ≤ 3 ∧ (y.2 = none ↔ xs1 ++ itP t (repP L) s (pl.take y.1) = [])) (fun y => 3 - y.1) (0, g2) ⟨Nat.zero_le _, by dsimp only; rw [hi0]; exact hg2⟩ ⟨rfl, rfl, rfl, rfl, rfl, rfl, rfl, rfl, rfl, trivial⟩ (by dsimp only; rw [hi0]; exact Sub.sel [2, 3, 1, 4, 5] rfl) ?_
      rintro ⟨k, g3⟩ f2 ⟨hk, hg3⟩
      dsimp only at hk hg3 ⊢
      conv => whnf
      refine cond_dec (fun h3 => ?_) (fun h3 => ?_)
      · have hkl : k < pl.length := by omega
        have hpk := hpv k hkl
        have hst := hstp k hkl
        have hvn := hpn pl[k] (List.getElem_mem hkl)
        have hpk2 := hPl k hk
        have hst2 : xs1 ++ itP t (repP L) s (pl.take (k + 1)) = (xs1 ++ itP t (repP L) s (pl.take k)) ++ (if repP L pl[k] = true then [] else [itemT t pl[k] (21 + s)]) := by rw [hst, List.append_assoc]
        have hxl2 : (xs1 ++ itP t (repP L) s (pl.take k)).length ≤ 5000 := by rw [List.length_append]; omega
        generalize xs1 ++ itP t (repP L) s (pl.take k) = xs2 at hg3 hst2 hxl2 ⊢
        generalize pl[k] = v at hpk hvn hst2
        have hb := hbit v hvn
        conv => whnf
        refine IndexV.agg1 Tryz.underlying138 rfl rfl rfl rfl (by omega) (by rw [Int.toNat_natCast]; exact hpk) ?_
        conv => whnf
        refine ArI.toU64 (v : Int) rfl (by omega) ?_
        conv => whnf
        refine ⟨by omega, ?_⟩
        conv => whnf
        rw [show (bits BinOp.and IntKind.u32 (Int.fdiv (m : Int) (2 ^ min (Int.toNat (v : Int)) IntKind.u32.bits)) 1 == 0) = !repP L v by rw [← hb]; exact and1_not _ _ hm (by omega)]
        cases hp : repP L v with
        | true =>
          rw [if_pos hp, List.append_nil] at hst2
          conv => whnf
          refine ArI.to64 ((k + 1 : Nat) : Int) (by omega) (by omega) ?_
          conv => whnf
          exact ⟨(k + 1, g3), _, by dsimp only; omega, Sub.refl _, ⟨by dsimp only; omega, by dsimp only; rw [hst2]; exact hg3⟩, ⟨rfl, rfl, rfl, rfl, rfl, rfl, rfl, rfl, rfl, trivial⟩, by dsimp only; rw [hst2]⟩
        | false =>
          rw [if_neg (by rw [hp]; simp)] at hst2
          have hput := fun F' (hB : TreeF F' b2 t) => put1_ok F' t T v (21 + s) (.inl hvn) hkc b2 bo hB g3 xs2 (by omega)
          have hlf := fun F' => leaf_ok F' (s : Int)
          rw [leafI_in (by omega) (by omega), show (21 : Int) + (s : Int) = ((21 + s : Nat) : Int) by omega] at hlf
          generalize ((21 + s : Nat) : Int) = z at hput hlf ⊢
          conv => whnf
          refine LoadV.s rfl rfl ?_
          conv => whnf
          refine CallS.mk Tryz.call60 ⟨[], _, _, Sub.refl _, fun F' hF' => hlf F', ?_⟩
          rintro e A' ⟨rfl, rfl⟩
          conv => whnf
          refine CallS.mk Tryz.call53 ⟨[_, _], [_, _, _], _, Sub.sel [0, 1, 2, 3, 4] rfl, fun F' hF' => hput F' (TreeF.cells hF'), ?_⟩
          rintro e A' ⟨rfl, gb, gc, rfl⟩
          conv => whnf
          refine ArI.to64 ((k + 1 : Nat) : Int) (by omega) (by omega) ?_
          conv => whnf
          exact ⟨(k + 1, some (gb, gc)), _, by dsimp only; omega, Sub.refl _, ⟨by dsimp only; omega, by dsimp only; rw [hst2]; simp⟩, ⟨rfl, rfl, rfl, rfl, rfl, rfl, rfl, rfl, rfl, trivial⟩, by dsimp only; rw [hst2]⟩
      · obtain rfl : k = 3 := by omega
        rw [hiN] at hg3 ⊢
        conv => whnf
        refine ArI.to64 ((i + 1 : Nat) : Int) (by omega) (by omega) ?_
        conv => whnf
        exact ⟨(i + 1, g3), _, by dsimp only; omega, Sub.sel [0, 1, 3, 4] rfl, ⟨by dsimp only; omega, hg3⟩, ⟨rfl, rfl, rfl, rfl, rfl, rfl, trivial⟩, rfl⟩
    · obtain rfl : i = J.length := by omega
      rw [List.take_length, ← hA] at hg2 ⊢
      conv => whnf
      refine LoadV.s rfl rfl ?_
      conv => whnf
      repeat (first | (refine LoadV.s rfl rfl (forceV_of ?_); conv => whnf) | (refine LoadV.s rfl rfl ?_; conv => whnf) | (refine StoreV.c rfl rfl (Nat.le_of_ble_eq_true rfl) rfl ?_; conv => whnf) | (refine LoadV.a _ rfl (Nat.le_of_ble_eq_true rfl) ?_; conv => whnf) | (refine DrawI.quiet (by kernel_rfl) (by kernel_rfl) ?_; conv => whnf) | (refine ArI.in64 (by omega) ?_; conv => whnf) | (refine ArI.inU8 (by omega) ?_; conv => whnf) | (refine ArI.inU64 (by omega) ?_; conv => whnf) | (refine ArI.inU32 (by omega) ?_; conv => whnf) | (refine RetI.one Tryz.results23 rfl ?_; conv => whnf) | (refine RetI.two Tryz.results23 rfl rfl ?_; conv => whnf) | (refine RetI.three Tryz.results23 rfl rfl rfl ?_; conv => whnf) | (refine RetI.none Tryz.results23 ?_; conv => whnf) | (refine ⟨by first | decide | omega, ?_⟩; conv => whnf))
      exact ⟨_, Sub.sel [1] rfl, g2, hg2, rfl, rfl⟩
end Go.Proofs.YtlfmckjehjedpaaGreatDoor

/- One step and its message. -/
namespace Go.Proofs.YtlfmckjehjedpaaGreatDoor
set_option linter.unusedVariables false
set_option linter.unusedSimpArgs false
set_option maxRecDepth 100000
open SL Go.RowKit Go.Maps
theorem joinedL_at {r : List EntI} {L J : List Int} {x : Seat} (h : x ∈ joinedL r L J) : ∃ j, ∃ hj : j < J.length, ∃ hf : j < (freeL (leaveR r L)).length, x = (J[j], (((freeL (leaveR r L))[j] : Nat) : Int)) := by
  unfold joinedL at h
  obtain ⟨j, hj, e⟩ := List.getElem_of_mem h
  rw [List.length_zipWith] at hj
  exact ⟨j, by omega, by omega, by rw [← e, List.getElem_zipWith]⟩
theorem nextT_joined {t : TreeI} (T : TreeOk t) {L J : List Int} (h : Fit t.rs L J) {j : Nat} (hj : j < J.length) (hf : j < (freeL (leaveR t.rs L)).length) :
    (nextT t L J).rs[(freeL (leaveR t.rs L))[j]]? = some (J[j], t.fr + (cntN (repT t L) 21 : Nat) + (j : Nat), t.ep + 1) := by
  have hl : (leaveR t.rs L).length = 64 := by rw [leaveR_length]; exact T.R.len
  have hn : (freeL (leaveR t.rs L)).Nodup := (free_sorted _).imp fun h => Nat.ne_of_lt h
  obtain ⟨hlt, _⟩ := (mem_free hl).1 (List.getElem_mem hf)
  exact putJ_here (t.ep + 1) J (leaveR t.rs L) (freeL (leaveR t.rs L)) _ j hf hj hn hlt
theorem joined_seated {t : TreeI} (T : TreeOk t) {L J : List Int} (h : Fit t.rs L J) : Seated (nextT t L J) (joinedL t.rs L J) := fun x hx => by
  obtain ⟨j, hj, hf, rfl⟩ := joinedL_at hx
  have hat := nextT_joined T h hj hf
  have hfr := T.fr
  obtain ⟨hlt, he⟩ := List.getElem?_eq_some_iff.1 hat
  refine ⟨by dsimp only; omega, by dsimp only; rw [Int.toNat_natCast]; exact hlt, ?_⟩
  dsimp only
  simp only [Int.toNat_natCast]
  rw [he]
  show t.fr + (cntN (repT t L) 21 : Nat) + (j : Nat) ≠ 0
  omega
def itemsN (t : TreeI) (L J : List Int) : List Item := itemsT (nextT t L J) (repT t L) (joinedL t.rs L J)
def rekL (ep : Int) (g1 g2 g3 : Option (Nat × Nat)) (n1 n2 n3 : Nat) : List Value := [.int .i64 ep, svOf g1 n1, svOf g2 n2, svOf g3 n3]
def NextR (t : TreeI) (L J : List Int) (e : Ending) (H : Heap) : Prop :=
  (stepE t L J = 0 ∧ ∃ g1 g2 g3, (g1 = none ↔ leftL t.rs L = []) ∧ (g2 = none ↔ joinedL t.rs L J = []) ∧ (g3 = none ↔ itemsN t L J = []) ∧
    e = .returned (.tuple #[.agg (treeL (nextT t L J)).toArray, .agg (rekL (t.ep + 1) g1 g2 g3 (leftL t.rs L).length (joinedL t.rs L J).length (itemsN t L J).length).toArray, .int .i64 0]) ∧ H = [ownT g1 (leftL t.rs L), ownT g2 (joinedL t.rs L J), ownIt g3 (itemsN t L J)]) ∨
  (stepE t L J ≠ 0 ∧ e = .returned (.tuple #[.agg (treeL zeroT).toArray, .agg rk0.toArray, .int .i64 (stepE t L J)]) ∧ H = [])
set_option maxHeartbeats 2000000 in
theorem next_ok12 (F : Mem) (htab : TabA F) (t : TreeI) (T : TreeOk t) (L J : List Int) (s0 : BatS) (hB : BatF F L J s0) :
    FT Tryz.prog 10 [.agg (treeL t).toArray, .agg (batL L J s0).toArray].toArray F [] (NextR t L J) := by
  have hl := treeL_length T.shaped
  refine FT.of_body Tryz.func10 rfl Tryz.ntmps10 (by simp) fun C hC => ?_
  subst hC
  conv => whnf
  intro b2
  conv => whnf
  intro b3
  conv => whnf
  intro b4
  conv => whnf
  intro b5
  conv => whnf
  refine LoadV.p 236 (treeL t) rfl hl (by show 0 + 236 ≤ (treeL t).length; omega) (take_all0 hl) ?_
  conv => whnf
  refine LoadV.p 2 (batL L J s0) rfl rfl (Nat.le_of_ble_eq_true rfl) rfl ?_
  conv => whnf
  refine CallS.mk Tryz.call22 ⟨[], _, _, Sub.refl _, fun F' hF' => step_ok12 F' (htab.ext hF') t T L J s0 (hB.ext hF'), ?_⟩
  rintro e A' (⟨hz, g1, g2, hg1, hg2, rfl, rfl⟩ | ⟨hne, rfl, rfl⟩)
  · obtain ⟨h200, hfit⟩ := stepE_zero.1 hz
    have T2 := nextT_ok T h200 hfit
    have hl2 := treeL_length T2.shaped
    have ha2 := treeL_all (nextT t L J)
    have hnL := hfit.lenL T.R
    have hnJ := hfit.lenJ T.R
    have hlen : (leftL t.rs L).length = L.length := by simp [leftL]
    have hJl := joinedL_length T.R hfit
    have hio := fun F' h1 h2 => items_ok F' (nextT t L J) T2 (t.ep + 1) (oaOf g1) (oaOf g2) (capOf g1) (capOf g2) (leftL t.rs L) (joinedL t.rs L J) h1 h2 (by omega) (by omega) (leftL_slots T.R.len hfit.on) (joined_seated T hfit)
    rw [show itemsT (nextT t L J) (repP (leftL t.rs L)) (joinedL t.rs L J) = itemsN t L J from rfl] at hio
    generalize hNT : treeL (nextT t L J) = NT at hl2 ha2 hio ⊢
    conv => whnf
    intro b7
    conv => whnf
    intro b8
    conv => whnf
    refine StoreV.p 236 NT NT rfl hl2 rfl (Nat.le_of_ble_eq_true rfl) ha2 (by exact putAt_all (by rw [hl2]; rfl)) ?_
    conv => whnf
    refine StoreV.c rfl rfl (Nat.le_of_ble_eq_true rfl) rfl ?_
    conv => whnf
    refine LoadV.p 236 NT rfl hl2 (by omega) (take_all0 hl2) ?_
    conv => whnf
    refine LoadV.p 4 (rkL (t.ep + 1) (oaOf g1) (leftL t.rs L).length (capOf g1) (oaOf g2) (joinedL t.rs L J).length (capOf g2)) rfl rfl (Nat.le_of_ble_eq_true rfl) rfl ?_
    conv => whnf
    refine CallS.mk Tryz.call23 ⟨[], _, _, Sub.refl _, fun F' hF' => hio F' (SlF.sv hF' (by rw [flat_length seatF_length]) (fun e => by rw [hg1.1 e]; rfl)) (SlF.sv hF' (by rw [flat_length seatF_length]) (fun e => by rw [hg2.1 e]; rfl)), ?_⟩
    rintro e A' ⟨g3, hg3, rfl, rfl⟩
    conv => whnf
    refine StoreV.c rfl rfl (Nat.le_of_ble_eq_true rfl) rfl ?_
    conv => whnf
    refine DrawI.mixed [2, 3] [_, _] (by kernel_rfl) (by kernel_rfl) (by kernel_rfl) (by kernel_rfl) (by kernel_rfl) (Sub.sel [1, 2] rfl) ?_
    conv => whnf
    refine LoadV.p 236 NT rfl hl2 (by omega) (take_all0 hl2) ?_
    conv => whnf
    refine LoadV.p 4 (rekL (t.ep + 1) g1 g2 g3 (leftL t.rs L).length (joinedL t.rs L J).length (itemsN t L J).length) rfl rfl (Nat.le_of_ble_eq_true rfl) rfl ?_
    conv => whnf
    refine StoreV.p 236 NT NT rfl hl2 rfl (Nat.le_of_ble_eq_true rfl) ha2 (by exact putAt_all (by rw [hl2]; rfl)) ?_
    conv => whnf
    refine ⟨Sub.sel [1, 2] rfl, ?_⟩
    conv => whnf
    refine StoreV.p 4 (rekL (t.ep + 1) g1 g2 g3 (leftL t.rs L).length (joinedL t.rs L J).length (itemsN t L J).length) (rekL (t.ep + 1) g1 g2 g3 (leftL t.rs L).length (joinedL t.rs L J).length (itemsN t L J).length) rfl rfl rfl (Nat.le_of_ble_eq_true rfl) rfl (by exact putAt_all rfl) ?_
    conv => whnf
    refine ⟨Sub.sel [1, 2] rfl, ?_⟩
    conv => whnf
    refine RetI.cells2 Tryz.results10 rfl rfl rfl ?_
    conv => whnf
    refine LoadV.p 236 NT rfl hl2 (by omega) (take_all0 hl2) ?_
    conv => whnf
    refine LoadV.p 4 (rekL (t.ep + 1) g1 g2 g3 (leftL t.rs L).length (joinedL t.rs L J).length (itemsN t L J).length) rfl rfl (Nat.le_of_ble_eq_true rfl) rfl ?_
    exact ⟨_, Sub.sel [3, 4, 0] rfl, .inl ⟨hz, g1, g2, g3, hg1, hg2, hg3, by rw [← hNT], rfl⟩⟩
  · generalize hgc : stepE t L J = c at hne ⊢
    have hl0 : (treeL zeroT).length = 236 := rfl
    have ha0 : (treeL zeroT).all Value.oneCell' = true := treeL_all _
    have hz0 : treeL zeroT = treeL zeroT := rfl
    generalize hZ : treeL zeroT = Z at hl0 ha0
    conv => whnf
    intro b7
    conv => whnf
    intro b8
    conv => whnf
    refine StoreV.p 236 Z Z rfl hl0 rfl (Nat.le_of_ble_eq_true rfl) ha0 (by exact putAt_all (by rw [hl0]; rfl)) ?_
    conv => whnf
    refine StoreV.c rfl rfl (Nat.le_of_ble_eq_true rfl) rfl ?_
    conv => whnf
    rw [show (c != 0) = true from bne_iff_ne.2 hne]
    conv => whnf
    refine StoreV.c rfl rfl (Nat.le_of_ble_eq_true rfl) rfl ?_
    conv => whnf
    refine StoreV.c rfl rfl (Nat.le_of_ble_eq_true rfl) rfl ?_
    conv => whnf
    refine RetI.cells2 Tryz.results10 rfl rfl rfl ?_
    conv => whnf
    refine LoadV.p 236 (treeL zeroT) rfl rfl (Nat.le_of_ble_eq_true rfl) (by kernel_rfl) ?_
    conv => whnf
    refine LoadV.p 4 rk0 rfl rfl (Nat.le_of_ble_eq_true rfl) (by kernel_rfl) ?_
    exact ⟨_, Sub.sel [] rfl, .inr ⟨by rw [hgc]; exact hne, by rw [hgc], rfl⟩⟩
end Go.Proofs.YtlfmckjehjedpaaGreatDoor

/- One step: the reference's. -/
namespace Go.Proofs.YtlfmckjehjedpaaGreatDoor
set_option linter.unusedVariables false
set_option linter.unusedSimpArgs false
set_option maxRecDepth 100000
open SL Go.RowKit Go.Maps
def Next11R (t : TreeI) (L J : List Int) (e : Ending) (H : Heap) : Prop :=
  (stepE t L J = 0 ∧ ∃ g1 g2, (g1 = none ↔ leftL t.rs L = []) ∧ (g2 = none ↔ joinedL t.rs L J = []) ∧
    e = .returned (.tuple #[.agg (treeL (nextT t L J)).toArray, svOf g1 (leftL t.rs L).length, svOf g2 (joinedL t.rs L J).length, .int .i64 0]) ∧ H = [ownT g1 (leftL t.rs L), ownT g2 (joinedL t.rs L J)]) ∨
  (stepE t L J ≠ 0 ∧ e = .returned (.tuple #[.agg (treeL zeroT).toArray, .slice none 0 0, .slice none 0 0, .int .i64 (stepE t L J)]) ∧ H = [])
abbrev rnT : SL.Late.Tree.Tr := (.q 0 (.q 1 (.q 2 (.q 4 (.q 5 (.b 3 (.b 6 (.q 7 (.q 8 (.q 9 (.q 10 (.b 11 (.b 12 (.q 13 (.q 14 .done)) .nil) .nil))))) (.b 11 (.b 6 (.q 7 (.q 8 (.q 9 (.q 10 (.b 12 (.q 13 (.q 14 .done)) .nil))))) .nil) .nil)) (.b 11 (.b 3 (.b 6 (.q 7 (.q 8 (.q 9 (.q 10 (.b 12 (.q 13 (.q 14 .done)) .nil))))) .nil) .nil) .nil)))))))
set_option maxHeartbeats 4000000 in
theorem next11_ok (F : Mem) (t : TreeI) (T : TreeOk t) (L J : List Int) (s0 : BatS) (hB : BatF F L J s0) :
    FT Tryz.prog 24 [.agg (treeL t).toArray, .agg (batL L J s0).toArray].toArray F [] (Next11R t L J) := by
  have hS := T.shaped
  have hl := treeL_length hS
  have hlk := ksV_len hS.k
  have hlr := rsV_len hS.r
  have hep := T.ep
  have htop := T.top
  have hfr := T.fr
  have hstep : stepE t L J = if t.ep = 200 then 19 else fitsE t.rs L J := rfl
  refine FT.of_body Tryz.func24 rfl Tryz.ntmps24 (by simp) fun C hC => ?_
  subst hC
  conv => whnf
  intro b2
  conv => whnf
  intro b3
  conv => whnf
  intro b4
  conv => whnf
  refine LoadV.p 236 (treeL t) rfl hl (by show 0 + 236 ≤ (treeL t).length; omega) (take_all0 hl) ?_
  conv => whnf
  refine CallS.mk Tryz.call61 ⟨[], _, _, Sub.refl _, fun F' hF' => rtcheck_ok F' t T, ?_⟩
  rintro e A' ⟨rfl, rfl⟩
  conv => whnf
  refine LoadV.s rfl rfl ?_
  conv => whnf
  refine cond_split (fun h => ?_) (fun h => ?_)
  · have h : t.ep = 200 := by simpa using h
    rw [if_pos h] at hstep
    conv => whnf
    refine StoreV.c rfl rfl (Nat.le_of_ble_eq_true rfl) rfl ?_
    conv => whnf
    refine RetI.cell4 Tryz.results24 rfl rfl rfl rfl ?_
    conv => whnf
    refine LoadV.p 236 (treeL zeroT) rfl rfl (Nat.le_of_ble_eq_true rfl) (by kernel_rfl) ?_
    exact ⟨_, Sub.sel [] rfl, .inr ⟨by rw [hstep]; decide, by rw [hstep], rfl⟩⟩
  · have h : t.ep ≠ 200 := by simpa using h
    rw [if_neg h] at hstep
    conv => whnf
    refine LoadV.p 192 (rsV t.rs) rfl hlr (by show 44 + 192 ≤ (treeL t).length; omega) (treeL_rs hS) ?_
    conv => whnf
    refine LoadV.p 2 (batL L J s0) rfl rfl (Nat.le_of_ble_eq_true rfl) rfl ?_
    conv => whnf
    refine CallS.mk Tryz.call62 ⟨[], _, _, Sub.refl _, fun F' hF' => fits9_ok F' t.rs t.fr t.ep T.R (by omega) (by omega) L J s0 (hB.ext hF'), ?_⟩
    rintro e A' ⟨rfl, rfl⟩
    by_cases hfz : fitsE t.rs L J = 0
    · have hfit := fitsE_zero.1 hfz
      have hnL := hfit.lenL T.R
      have hnJ := hfit.lenJ T.R
      have hcl := cntN_le (repT t L) 21
      have hSl := leftL_slots T.R.len hfit.on
      have hlen : (leftL t.rs L).length = L.length := by simp [leftL]
      have hJl := joinedL_length T.R hfit
      have hturn := fun F' => rturn_ok F' t.ks t.fr t.ep T.K (by omega) (by omega) (repT t L) t.fr (by omega) (by omega) (by omega)
      rw [show nodesOf (repT t L) 21 = replN (leftL t.rs L) from rfl] at hturn
      have hTl : (turnK (repT t L) t.ks t.fr).length = 21 := by rw [turnK_length, hS.k]
      have hbt := built_tree (t.ep + 1) (t.fr + (cntN (repT t L) 21 : Nat) + (J.length : Nat)) hTl (show (moveR t.rs L J (t.ep + 1) (t.fr + (cntN (repT t L) 21 : Nat))).length = 64 from (moveR_ok T.R hfit (since := t.ep + 1) (base := t.fr + (cntN (repT t L) 21 : Nat)) (by omega) (by omega) ⟨by omega, by omega⟩).len)
      have hNs : Shaped (nextT t L J) := (nextT_ok T h hfit).shaped
      have hNl := treeL_length hNs
      have hNa := treeL_all (nextT t L J)
      have hmove := fun F' hB => move9_ok F' t.rs t.fr t.ep T.R (by omega) (by omega) L J s0 hB hfit (t.ep + 1) (t.fr + (cntN (repT t L) 21 : Nat)) ⟨by omega, by omega⟩ (by omega) (by omega) (by omega)
      unfold MoveR at hmove
      rw [show (⟨t.ep + 1, t.fr + (cntN (repT t L) 21 : Nat) + (J.length : Nat), turnK (repT t L) t.ks t.fr, moveR t.rs L J (t.ep + 1) (t.fr + (cntN (repT t L) 21 : Nat))⟩ : TreeI) = nextT t L J from rfl] at hbt
      have hTv := ksV_len hTl
      have hTa := ksV_all (turnK (repT t L) t.ks t.fr)
      have hMl : (rsV (moveR t.rs L J (t.ep + 1) (t.fr + (cntN (repT t L) 21 : Nat)))).length = 192 := rsV_len (moveR_ok T.R hfit (since := t.ep + 1) (base := t.fr + (cntN (repT t L) 21 : Nat)) (by omega) (by omega) ⟨by omega, by omega⟩).len
      have hMa := rsV_all (moveR t.rs L J (t.ep + 1) (t.fr + (cntN (repT t L) 21 : Nat)))
      generalize hc : ((cntN (repT t L) 21 : Nat) : Int) = c at hturn hbt hmove hMl hMa
      have hc2 : 0 ≤ c ∧ c ≤ 21 := by omega
      rw [hfz] at hstep ⊢
      conv => whnf
      refine LoadV.s rfl rfl ?_
      conv => whnf
      refine LoopI.by_state (σ := Nat × Option (Nat × Nat)) (fun s => [(2, .pointer (some ⟨b2, 0, none⟩)), (3, .pointer (some ⟨b3, 0, none⟩)), (4, .pointer (some ⟨b4, 0, none⟩)), (9, svOf s.2 (leftL t.rs (L.take s.1)).length), (34, .slice s0.oL L.length s0.cL), (35, .int .i64 (L.length : Int)), (36, .int .i64 (s.1 : Int))])
        (fun s => [ownT s.2 (leftL t.rs (L.take s.1)), .cells b4 (treeL zeroT) 62 (0, 0), .cells b3 (batL L J s0) 54 (0, 0), .cells b2 (treeL t) 62 (0, 0)]) (fun s => s.1 ≤ L.length ∧ (s.2 = none ↔ leftL t.rs (L.take s.1) = [])) (fun s => L.length - s.1) (0, none) ⟨Nat.zero_le _, by simp [leftL]⟩ ⟨rfl, rfl, rfl, rfl, rfl, rfl, rfl, trivial⟩ (Sub.nil 97 2) ?_
      rintro ⟨i, g⟩ f0 ⟨hi, hg⟩
      dsimp only at hi hg ⊢
      conv => whnf
      refine cond_dec (fun h3 => ?_) (fun h3 => ?_)
      · have hil : i < L.length := by omega
        have hx := hB.fL.at hil
        obtain ⟨xb, xo, hxe, hrow⟩ := hx
        rw [hxe]
        have hrd := hrow i (.int .i64 L[i]) (by rw [List.getElem?_map, List.getElem?_eq_getElem hil]; rfl)
        have hlst := leftL_snoc t.rs L hil
        have hle : (leftL t.rs (L.take i)).length = i := by simp [leftL]; omega
        generalize L[i] = w at hrd hlst ⊢
        generalize leftL t.rs (L.take i) = xs at hg hlst hle ⊢
        conv => whnf
        refine ⟨by omega, ?_⟩
        conv => whnf
        rw [elemOff_nat]
        rotate_left
        · kernel_rfl
        refine LoadV.f hrd rfl ?_
        conv => whnf
        refine LoadV.p 192 (rsV t.rs) rfl hlr (by show 44 + 192 ≤ (treeL t).length; omega) (treeL_rs hS) ?_
        conv => whnf
        refine CallS.mk Tryz.call63 ⟨[], _, _, Sub.refl _, fun F' hF' => rfind_ok F' t.rs T.R.len w, ?_⟩
        rintro e A' ⟨rfl, rfl⟩
        conv => whnf
        intro bl
        conv => whnf
        refine BuiltV.append (sv := svOf g xs.length) (m := 1) Tryz.underlying28 rfl rfl rfl rfl (by decide) (Row.cells 2) rfl (by decide) rfl (by show (xs.length + 1) * 16 ≤ _; omega) (by omega) fun gb gc => ?_
        conv => whnf
        refine ArI.to64 ((i + 1 : Nat) : Int) (by omega) (by omega) ?_
        conv => whnf
        refine ⟨(i + 1, some (gb, gc)), _, by dsimp only; omega, Sub.sel [1, 2, 3, 4] rfl, ⟨by dsimp only; omega, by rw [hlst]; simp⟩, ⟨rfl, rfl, rfl, ?_, rfl, rfl, rfl, trivial⟩, ?_⟩
        · dsimp only; rw [hlst, List.length_append]; rfl
        · dsimp only [ownT]; rw [hlst, own_snocF seatF]; rfl
      · obtain rfl : i = L.length := by omega
        rw [List.take_length] at hg ⊢
        generalize hTK : ksV (turnK (repT t L) t.ks t.fr) = TK at hTv hTa hbt hturn
        conv => whnf
        refine SL.Late.Tree.drawTC rnT [3, 6, 11, 12] [] [] [_] [] (fun b : Nat => [(2, .pointer (some ⟨b2, 0, none⟩)), (3, .pointer (some ⟨b3, 0, none⟩)), (4, .pointer (some ⟨b4, 0, none⟩)), (8, .int .i64 0), (12, .pointer (some ⟨b, 0, none⟩)), (13, .int .i64 (t.fr + c))])
          (fun b => [.cells b TK 56 (0, 0), .cells b4 (treeL zeroT) 62 (0, 0), .cells b3 (batL L J s0) 54 (0, 0), .cells b2 (treeL t) 62 (0, 0)]) (fun _ => True)
          (by kernel_rfl) (by kernel_rfl) (by kernel_rfl) (by kernel_rfl) (by kernel_rfl) (by kernel_rfl) (by kernel_rfl) (by kernel_rfl) (by kernel_rfl) (Sub.sel [3] rfl) (Sub.sel [] rfl) ?_ ?_
        · conv => whnf
          refine LoadV.p 42 (ksV t.ks) rfl hlk (by show 2 + 42 ≤ (treeL t).length; omega) (treeL_ks hS) ?_
          conv => whnf
          refine LoadV.s rfl rfl ?_
          conv => whnf
          refine ⟨?_, ?_, trivial⟩
          · refine CallS.mk Tryz.call65 ⟨[], [_, _, _, _], _, Sub.sel [0, 1, 2, 3] rfl, fun F' hF' => rrepl_ok F' (oaOf g) (capOf g) (leftL t.rs L) (SlF.sv hF' (by rw [flat_length seatF_length]) (fun e => by rw [hg.1 e]; rfl)) (by omega) hSl, ?_⟩
            rintro e A' ⟨rfl, rfl⟩
            conv => whnf
            refine ⟨⟨Sub.sel [3] rfl, fun _ => Sub.sel [] rfl⟩, ?_⟩
            conv => whnf
            refine ⟨?_, ?_, trivial⟩
            · refine CallS.mk Tryz.call64 ⟨[], [_, _, _, _], _, Sub.sel [0, 1, 2, 3] rfl, fun F' hF' => hturn F', ?_⟩
              rintro e A' ⟨rfl, rfl⟩
              conv => whnf
              refine ⟨⟨Sub.sel [3] rfl, fun _ => Sub.sel [] rfl⟩, ?_⟩
              conv => whnf
              refine ⟨?_, trivial⟩
              intro b12
              conv => whnf
              refine ⟨⟨Sub.sel [4] rfl, fun _ => Sub.sel [] rfl⟩, ?_⟩
              conv => whnf
              refine ⟨?_, trivial⟩
              refine StoreV.p 42 TK TK rfl hTv rfl (Nat.le_of_ble_eq_true rfl) hTa (by exact putAt_all (by rw [hTv]; rfl)) ?_
              conv => whnf
              refine ⟨⟨Sub.sel [4] rfl, fun _ => Sub.sel [] rfl⟩, ?_⟩
              conv => whnf
              exact ⟨b12, trivial, ⟨rfl, rfl, rfl, rfl, rfl, rfl, trivial⟩, Sub.sel [0, 2, 3, 4] rfl⟩
            · intro b12
              conv => whnf
              refine ⟨⟨Sub.sel [4] rfl, fun _ => Sub.sel [] rfl⟩, ?_⟩
              conv => whnf
              refine ⟨?_, trivial⟩
              refine CallS.mk Tryz.call64 ⟨[], [_, _, _, _, _], _, Sub.sel [0, 1, 2, 3, 4] rfl, fun F' hF' => hturn F', ?_⟩
              rintro e A' ⟨rfl, rfl⟩
              conv => whnf
              refine ⟨⟨Sub.sel [4] rfl, fun _ => Sub.sel [] rfl⟩, ?_⟩
              conv => whnf
              refine ⟨?_, trivial⟩
              refine StoreV.p 42 TK TK rfl hTv rfl (Nat.le_of_ble_eq_true rfl) hTa (by exact putAt_all (by rw [hTv]; rfl)) ?_
              conv => whnf
              refine ⟨⟨Sub.sel [4] rfl, fun _ => Sub.sel [] rfl⟩, ?_⟩
              conv => whnf
              exact ⟨b12, trivial, ⟨rfl, rfl, rfl, rfl, rfl, rfl, trivial⟩, Sub.sel [0, 2, 3, 4] rfl⟩
          · intro b12
            conv => whnf
            refine ⟨⟨Sub.sel [4] rfl, fun _ => Sub.sel [] rfl⟩, ?_⟩
            conv => whnf
            refine ⟨?_, trivial⟩
            refine CallS.mk Tryz.call65 ⟨[], [_, _, _, _, _], _, Sub.sel [0, 1, 2, 3, 4] rfl, fun F' hF' => rrepl_ok F' (oaOf g) (capOf g) (leftL t.rs L) (SlF.sv hF' (by rw [flat_length seatF_length]) (fun e => by rw [hg.1 e]; rfl)) (by omega) hSl, ?_⟩
            rintro e A' ⟨rfl, rfl⟩
            conv => whnf
            refine ⟨⟨Sub.sel [4] rfl, fun _ => Sub.sel [] rfl⟩, ?_⟩
            conv => whnf
            refine ⟨?_, trivial⟩
            refine CallS.mk Tryz.call64 ⟨[], [_, _, _, _, _], _, Sub.sel [0, 1, 2, 3, 4] rfl, fun F' hF' => hturn F', ?_⟩
            rintro e A' ⟨rfl, rfl⟩
            conv => whnf
            refine ⟨⟨Sub.sel [4] rfl, fun _ => Sub.sel [] rfl⟩, ?_⟩
            conv => whnf
            refine ⟨?_, trivial⟩
            refine StoreV.p 42 TK TK rfl hTv rfl (Nat.le_of_ble_eq_true rfl) hTa (by exact putAt_all (by rw [hTv]; rfl)) ?_
            conv => whnf
            refine ⟨⟨Sub.sel [4] rfl, fun _ => Sub.sel [] rfl⟩, ?_⟩
            conv => whnf
            exact ⟨b12, trivial, ⟨rfl, rfl, rfl, rfl, rfl, rfl, trivial⟩, Sub.sel [0, 2, 3, 4] rfl⟩
        rintro b12 f1 -
        conv => whnf
        refine LoadV.p 192 (rsV t.rs) rfl hlr (by show 44 + 192 ≤ (treeL t).length; omega) (treeL_rs hS) ?_
        conv => whnf
        refine LoadV.p 2 (batL L J s0) rfl rfl (Nat.le_of_ble_eq_true rfl) rfl ?_
        conv => whnf
        refine LoadV.s rfl rfl ?_
        conv => whnf
        refine ArI.to64 (t.ep + 1) rfl (by omega) ?_
        conv => whnf
        refine CallS.mk Tryz.call66 ⟨[], _, _, Sub.refl _, fun F' hF' => hmove F' (hB.ext hF'), ?_⟩
        rintro e A' ⟨g1, g2, hg1, hg2, rfl, rfl⟩
        generalize rsV (moveR t.rs L J (t.ep + 1) (t.fr + c)) = MR at hMl hMa hbt ⊢
        conv => whnf
        intro b14
        conv => whnf
        refine StoreV.p 192 MR MR rfl hMl rfl (Nat.le_of_ble_eq_true rfl) hMa (by exact putAt_all (by rw [hMl]; rfl)) ?_
        conv => whnf
        refine LoadV.s rfl rfl ?_
        conv => whnf
        refine ArI.to64 (t.ep + 1) rfl (by omega) ?_
        conv => whnf
        refine ArI.to64 (t.fr + c + (J.length : Nat)) (by rw [hJl]) (by omega) ?_
        conv => whnf
        refine LoadV.p 42 TK rfl hTv (by omega) (take_all0 hTv) ?_
        conv => whnf
        refine LoadV.p 192 MR rfl hMl (by omega) (take_all0 hMl) ?_
        conv => whnf
        generalize hD : Program.built _ _ _ = D
        obtain rfl : D = _ := hD.symm.trans (hbt)
        clear hD
        generalize hc : (treeL (nextT t L J)).toArray = c
        conv => whnf
        show forceL c.toList _
        rw [forceL_eq]
        subst hc
        generalize hNN : treeL (nextT t L J) = NT at hNl hNa ⊢
        have hz0 : (treeL zeroT).length = 236 := rfl
        conv => whnf
        refine StoreV.p 236 NT NT rfl hNl rfl (Nat.le_of_ble_eq_true rfl) hNa (by exact putAt_all (by rw [hNl]; rfl)) ?_
        conv => whnf
        refine RetI.cell4 Tryz.results24 rfl rfl rfl rfl ?_
        conv => whnf
        refine LoadV.p 236 NT rfl hNl (by omega) (take_all0 hNl) ?_
        exact ⟨_, Sub.sel [1, 2] rfl, .inl ⟨hstep, g1, g2, hg1, hg2, by rw [← hNN], rfl⟩⟩
    · rw [← hstep] at hfz ⊢
      have hne := hfz
      generalize hgc : stepE t L J = cc at hfz ⊢
      conv => whnf
      rw [show (cc != 0) = true from bne_iff_ne.2 hfz]
      conv => whnf
      refine StoreV.c rfl rfl (Nat.le_of_ble_eq_true rfl) rfl ?_
      conv => whnf
      refine RetI.cell4 Tryz.results24 rfl rfl rfl rfl ?_
      conv => whnf
      refine LoadV.p 236 (treeL zeroT) rfl rfl (Nat.le_of_ble_eq_true rfl) (by kernel_rfl) ?_
      exact ⟨_, Sub.sel [] rfl, .inr ⟨hne, by rw [hgc], rfl⟩⟩
end Go.Proofs.YtlfmckjehjedpaaGreatDoor

/- The tree at the beginning; paths and standing devices: the reference's. -/
namespace Go.Proofs.YtlfmckjehjedpaaGreatDoor
set_option linter.unusedVariables false
set_option linter.unusedSimpArgs false
set_option maxRecDepth 100000
open SL Go.RowKit Go.Maps
def startK (i : Nat) : List KeyI := (List.range 21).map fun v => if v < i then ((v : Int) + 1, 0) else (0, 0)
def startAt (i : Nat) : TreeI := ⟨0, 22, startK i, List.replicate 64 (0, 0, 0)⟩
def startT : TreeI := startAt 21
theorem startK_length (i : Nat) : (startK i).length = 21 := by simp [startK]
theorem startAt_shaped (i : Nat) : Shaped (startAt i) := ⟨startK_length i, by simp [startAt]⟩
theorem startK_at {i v : Nat} (h : v < 21) : (startK i)[v]'(by rw [startK_length]; exact h) = if v < i then ((v : Int) + 1, 0) else (0, 0) := by simp [startK]
theorem startK_set {i : Nat} (h : i < 21) : (startK i).set i ((i : Int) + 1, 0) = startK (i + 1) := by
  apply List.ext_getElem (by rw [List.length_set, startK_length, startK_length])
  intro j h1 h2
  rw [startK_length] at h2
  rw [List.getElem_set, startK_at h2, startK_at h2]
  by_cases e : i = j
  · subst e; rw [if_pos rfl, if_pos (by omega)]
  · rw [if_neg e]
    by_cases h3 : j < i
    · rw [if_pos h3, if_pos (by omega)]
    · rw [if_neg h3, if_neg (by omega)]
theorem treeL_putk {t : TreeI} (hS : Shaped t) {i : Nat} (hi : i < 21) (k : KeyI) : putAt (treeL t) (2 + i * 2) (keyF k) = treeL { t with ks := t.ks.set i k } := by
  have hk := hS.k
  have h := ksV_put (l := t.ks) (i := i) k (by omega)
  have hl : (ksV t.ks).length = 42 := ksV_len hk
  show _ = .int .i64 t.ep :: .int .i64 t.fr :: (ksV (t.ks.set i k) ++ rsV t.rs)
  rw [← h]
  unfold putAt treeL
  rw [show 2 + i * 2 = (i * 2) + 1 + 1 by omega, keyF_length, show i * 2 + 1 + 1 + 2 = (i * 2 + 2) + 1 + 1 by omega]
  simp only [List.take_succ_cons, List.drop_succ_cons, List.cons_append, List.append_assoc]
  rw [List.take_append_of_le_length (by omega), List.drop_append_of_le_length (by omega)]
theorem startT_key (v : Nat) (hv : v < startT.ks.length) : startT.ks[v] = ((v : Int) + 1, 0) := by
  have hv21 : v < 21 := by rw [← startK_length 21]; exact hv
  have := startK_at (i := 21) hv21
  rw [if_pos hv21] at this
  exact this
theorem startT_ros {e : EntI} (he : e ∈ startT.rs) : e = (0, 0, 0) := List.eq_of_mem_replicate he
theorem startT_len : startT.ks.length = 21 := startK_length 21
theorem startT_ok : TreeOk startT := by
  refine ⟨by decide, by decide, ⟨rfl, fun k hk => ?_, fun i j hi hj _ _ h => ?_⟩, ⟨by simp [startT, startAt], fun e he => .inl (startT_ros he), fun i j hi hj h => ?_, fun i j hi hj h => ?_⟩, fun k hk e he => ?_⟩
  · obtain ⟨v, hv, rfl⟩ := List.getElem_of_mem hk
    have := startT_len
    rw [startT_key v hv]
    show 1 ≤ (v : Int) + 1 ∧ (v : Int) + 1 < 22 ∧ (0 : Int) ≤ 0 ∧ (0 : Int) ≤ 0
    omega
  · rw [startT_key i hi, startT_key j hj] at h
    dsimp only at h; omega
  · rw [startT_ros (List.getElem_mem hi)] at h; exact absurd rfl h
  · rw [startT_ros (List.getElem_mem hi)] at h; exact absurd rfl h
  · obtain ⟨v, hv, rfl⟩ := List.getElem_of_mem hk
    rw [startT_ros he, startT_key v hv]
    show (v : Int) + 1 ≠ 0
    omega
set_option maxHeartbeats 1000000 in
theorem rstart_ok (F : Mem) : FT Tryz.prog 9 [].toArray F [] (Ret (.agg (treeL startT).toArray)) := by
  refine FT.of_body Tryz.func9 rfl Tryz.ntmps9 (by simp) fun C hC => ?_
  subst hC
  conv => whnf
  intro b0
  conv => whnf
  intro b1
  conv => whnf
  refine StoreV.c rfl rfl (Nat.le_of_ble_eq_true rfl) rfl ?_
  conv => whnf
  refine LoopI.by_state (σ := Nat) (fun i => [(0, .pointer (some ⟨b0, 0, none⟩)), (1, .pointer (some ⟨b1, 0, none⟩)), (2, .int .i64 (i : Int))]) (fun i => [.cells b1 (treeL (startAt i)) 62 (0, 0), .cells b0 (treeL zeroT) 62 (0, 0)]) (fun i => i ≤ 21) (fun i => 21 - i) 0 (Nat.zero_le _) ⟨rfl, rfl, rfl, trivial⟩ (Sub.refl _) ?_
  rintro i f0 hi
  have hl := treeL_length (startAt_shaped i)
  conv => whnf
  refine cond_dec (fun h => ?_) (fun h => ?_)
  · have hi21 : i < 21 := by omega
    have hput := treeL_putk (startAt_shaped i) hi21 ((i : Int) + 1, 0)
    rw [show ({ startAt i with ks := (startAt i).ks.set i ((i : Int) + 1, 0) } : TreeI) = startAt (i + 1) from (by show TreeI.mk 0 22 ((startK i).set i _) _ = _; rw [startK_set hi21]; rfl)] at hput
    generalize hz : (i : Int) + 1 = z at hput
    conv => whnf
    refine ArI.to64 z hz (by omega) ?_
    conv => whnf
    refine ⟨by omega, ?_⟩
    conv => whnf
    refine StoreV.eq (b := b1) (o := 2 + i * 2) (by exact congrArg (fun o => (⟨b1, o, none⟩ : Addr)) (elem_off2 (o := 2) (n := 2) (by kernel_rfl) rfl)) ?_
    refine StoreV.c rfl rfl (by show 2 + i * 2 + 2 ≤ _; omega) rfl ?_
    rw [show (Value.agg #[Value.int IntKind.i64 z, Value.int IntKind.i64 0]).cells.toList = keyF (z, 0) from rfl, hput]
    conv => whnf
    refine ArI.to64 ((i + 1 : Nat) : Int) (by omega) (by omega) ?_
    conv => whnf
    exact ⟨i + 1, _, by omega, Sub.refl _, by omega, ⟨rfl, rfl, rfl, trivial⟩, rfl⟩
  · obtain rfl : i = 21 := by omega
    have ha := treeL_all startT
    have hl0 : (treeL zeroT).length = 236 := rfl
    rw [show startAt 21 = startT from rfl] at hl ⊢
    generalize hST : treeL startT = ST at hl ha ⊢
    generalize treeL zeroT = Z at hl0
    conv => whnf
    refine LoadV.p 236 ST rfl hl (by omega) (take_all0 hl) ?_
    conv => whnf
    refine StoreV.p 236 ST ST rfl hl rfl (by omega) ha (putAt_all (by omega)) ?_
    conv => whnf
    refine RetI.cell1 Tryz.results9 rfl ?_
    conv => whnf
    refine LoadV.p 236 ST rfl hl (by omega) (take_all0 hl) ?_
    exact ⟨_, Sub.sel [] rfl, rfl, rfl⟩
end Go.Proofs.YtlfmckjehjedpaaGreatDoor

/- A path's keys; a device that stands at a tree: the reference's. -/
namespace Go.Proofs.YtlfmckjehjedpaaGreatDoor
set_option linter.unusedVariables false
set_option linter.unusedSimpArgs false
set_option maxRecDepth 100000
open SL Go.RowKit Go.Maps
end Go.Proofs.YtlfmckjehjedpaaGreatDoor

/- A device that stands at a tree: the reference's. -/
namespace Go.Proofs.YtlfmckjehjedpaaGreatDoor
set_option linter.unusedVariables false
set_option linter.unusedSimpArgs false
set_option maxRecDepth 100000
open SL Go.RowKit Go.Maps
end Go.Proofs.YtlfmckjehjedpaaGreatDoor

/- The batch between two trees of a row: the law. -/
namespace Go.Proofs.YtlfmckjehjedpaaGreatDoor
set_option linter.unusedVariables false
set_option linter.unusedSimpArgs false
set_option maxRecDepth 100000
open SL Go.RowKit Go.Maps
theorem ent_eq (x y : EntI) : cellsEq (entF x) (entF y) = decide (x = y) := by
  obtain ⟨a, b, c⟩ := x
  obtain ⟨d, e, f⟩ := y
  show ((a == d) && ((b == e) && ((c == f) && true))) = _
  rw [Bool.eq_iff_iff]
  simp [Prod.ext_iff]
/-- Who isn't there by the same entry any more. -/
def betL (r : List EntI) (L : List Int) : List Int := (r.filter fun e => tkB e && decide (e.1 ∈ L)).map Prod.fst
theorem betL_snoc (r : List EntI) (L : List Int) {i : Nat} (h : i < r.length) : betL (r.take (i + 1)) L = betL (r.take i) L ++ (if tkB r[i] = true ∧ r[i].1 ∈ L then [r[i].1] else []) := by
  unfold betL
  rw [take_snoc h, List.filter_append, List.map_append]
  congr 1
  by_cases hc : tkB r[i] = true ∧ r[i].1 ∈ L
  · rw [if_pos hc, List.filter_cons_of_pos (by rw [Bool.and_eq_true]; exact ⟨hc.1, decide_eq_true hc.2⟩)]; rfl
  · rw [if_neg hc, List.filter_cons_of_neg (by rw [Bool.and_eq_true]; exact fun h => hc ⟨h.1, of_decide_eq_true h.2⟩)]; rfl
theorem betL_len (r : List EntI) (L : List Int) : (betL r L).length ≤ r.length := by
  unfold betL; rw [List.length_map]; exact List.length_filter_le _ _
theorem betL_mem {r : List EntI} {L : List Int} (ho : ∀ w ∈ L, 0 ≤ findI r w 0) (w : Int) : w ∈ betL r L ↔ w ∈ L := by
  unfold betL
  rw [List.mem_map]
  constructor
  · rintro ⟨e, he, rfl⟩
    obtain ⟨_, h2⟩ := List.mem_filter.1 he
    rw [Bool.and_eq_true] at h2
    exact of_decide_eq_true h2.2
  · intro hw
    obtain ⟨i, hi, _, ht, hwq⟩ := find_on (ho w hw)
    exact ⟨r[i], List.mem_filter.2 ⟨List.getElem_mem hi, by rw [Bool.and_eq_true]; exact ⟨(tkB_iff _).2 ht, by rw [hwq]; exact decide_eq_true hw⟩⟩, hwq⟩
theorem betL_nodup {r : List EntI} (hA : Apart tk Prod.fst r) (L : List Int) : (betL r L).Nodup := by
  unfold betL
  have key : ∀ (r : List EntI), Apart tk Prod.fst r → (((r.filter fun e => tkB e && decide (e.1 ∈ L)).map Prod.fst) : List Int).Nodup := by
    intro r
    induction r with
    | nil => intro _; exact List.nodup_nil
    | cons x r ih =>
      intro hA
      have hA2 : Apart tk Prod.fst r := fun i j hi hj h1 h2 h3 => by
        have := hA (i + 1) (j + 1) (by simpa using hi) (by simpa using hj) h1 h2 h3
        omega
      rw [List.filter_cons]
      by_cases hc : (tkB x && decide (x.1 ∈ L)) = true
      · rw [if_pos hc, List.map_cons, List.nodup_cons]
        refine ⟨fun hm => ?_, ih hA2⟩
        obtain ⟨e, he, hw⟩ := List.mem_map.1 hm
        obtain ⟨h1, h2⟩ := List.mem_filter.1 he
        rw [Bool.and_eq_true] at h2 hc
        obtain ⟨j, hj, rfl⟩ := List.getElem_of_mem h1
        have := hA 0 (j + 1) (by simp) (by simpa using hj) ((tkB_iff _).1 hc.1) ((tkB_iff _).1 h2.1) hw.symm
        omega
      · rw [if_neg hc]; exact ih hA2
  exact key r hA
/-- What the second roster holds at a slot. -/
theorem next_slot {t : TreeI} (T : TreeOk t) {L J : List Int} (h : Fit t.rs L J) {k : Nat} (hk : k < t.rs.length) (hk2 : k < (nextT t L J).rs.length) :
    ((nextT t L J).rs[k] = (if tkB t.rs[k] = true ∧ t.rs[k].1 ∈ L then (0, 0, 0) else t.rs[k]) ∧ ∀ j (hj : j < J.length), (freeL (leaveR t.rs L))[j]? ≠ some k) ∨
    (¬ tk ((leaveR t.rs L)[k]'(by rw [leaveR_length]; exact hk)) ∧ ∃ j, ∃ hj : j < J.length, (freeL (leaveR t.rs L))[j]? = some k ∧ (nextT t L J).rs[k] = (J[j], t.fr + (cntN (repT t L) 21 : Nat) + (j : Nat), t.ep + 1)) := by
  have hl : (leaveR t.rs L).length = 64 := by rw [leaveR_length]; exact T.R.len
  have h64 := T.R.len
  rcases moveR_at T.R h (t.ep + 1) (t.fr + (cntN (repT t L) 21 : Nat)) k (by omega) with ⟨h1, h2⟩ | ⟨j, hj, h1, h2⟩
  · refine .inl ⟨?_, h2⟩
    rw [List.getElem?_eq_getElem (show k < (moveR t.rs L J (t.ep + 1) (t.fr + (cntN (repT t L) 21 : Nat))).length from hk2), List.getElem?_eq_getElem (by rw [leaveR_length]; exact hk)] at h1
    have h3 : (nextT t L J).rs[k] = (leaveR t.rs L)[k]'(by rw [leaveR_length]; exact hk) := Option.some.inj h1
    rw [h3, leaveR_at _ _ k hk]
  · refine .inr ⟨?_, j, hj, h1, ?_⟩
    · obtain ⟨hjf, e⟩ := List.getElem?_eq_some_iff.1 h1
      obtain ⟨_, hf⟩ := (mem_free hl).1 (show k ∈ freeL (leaveR t.rs L) by rw [← e]; exact List.getElem_mem hjf)
      exact hf
    · rw [List.getElem?_eq_getElem (show k < (moveR t.rs L J (t.ep + 1) (t.fr + (cntN (repT t L) 21 : Nat))).length from hk2)] at h2
      exact Option.some.inj h2
/-- Whose entry goes: just the leavers'. -/
theorem bet_cond {t : TreeI} (T : TreeOk t) {L J : List Int} (h : Fit t.rs L J) {k : Nat} (hk : k < t.rs.length) (hk2 : k < (nextT t L J).rs.length) (ht : tk t.rs[k]) :
    (t.rs[k] = (nextT t L J).rs[k]) ↔ t.rs[k].1 ∉ L := by
  have htb := (tkB_iff _).2 ht
  have hfr := T.fr
  rcases next_slot T h hk hk2 with ⟨h1, _⟩ | ⟨hf, j, hj, _, h1⟩
  · rw [h1]
    by_cases hL : t.rs[k].1 ∈ L
    · rw [if_pos ⟨htb, hL⟩]
      exact ⟨fun e => absurd (by rw [e]) ht, fun hn => absurd hL hn⟩
    · rw [if_neg fun hc => hL hc.2]
      exact ⟨fun _ => hL, fun _ => rfl⟩
  · have hL : t.rs[k].1 ∈ L := by
      by_cases hL : t.rs[k].1 ∈ L
      · exact hL
      · exact absurd ((leaveR_tk hk).2 ⟨ht, hL⟩) hf
    refine ⟨fun e => ?_, fun hn => absurd hL hn⟩
    have hr := (T.R.tk_rng (List.getElem_mem hk) ht).2.1
    rw [e, h1] at hr
    dsimp only at hr; omega
/-- Which entries come, from a name on: just the joiners' from there on. -/
theorem bet_new {t : TreeI} (T : TreeOk t) {L J : List Int} (h : Fit t.rs L J) {k : Nat} (hk : k < t.rs.length) (hk2 : k < (nextT t L J).rs.length) (n : Nat) (last : Int) (hlast : last = if n = 0 then 0 else t.fr + (cntN (repT t L) 21 : Nat) + ((n : Int) - 1)) :
    ((nextT t L J).rs[k].2.1 > last ∧ (nextT t L J).rs[k] ≠ t.rs[k]) ↔ ∃ j, n ≤ j ∧ j < J.length ∧ (freeL (leaveR t.rs L))[j]? = some k := by
  have hfr := T.fr
  rcases next_slot T h hk hk2 with ⟨h1, hno⟩ | ⟨hf, j, hj, hjk, h1⟩
  · rw [h1]
    constructor
    · rintro ⟨h2, h3⟩
      by_cases hc : tkB t.rs[k] = true ∧ t.rs[k].1 ∈ L
      · rw [if_pos hc] at h2
        dsimp only at h2
        split at hlast <;> omega
      · rw [if_neg hc] at h3; exact absurd rfl h3
    · rintro ⟨j, _, hj, e⟩; exact absurd e (hno j hj)
  · rw [h1]
    have hne : (J[j], t.fr + (cntN (repT t L) 21 : Nat) + (j : Nat), t.ep + 1) ≠ t.rs[k] := fun e => by
      rcases T.R.rng _ (List.getElem_mem hk) with hz | hz
      · rw [hz] at e; simp only [Prod.mk.injEq] at e; omega
      · rw [← e] at hz; dsimp only at hz; omega
    have hn : (freeL (leaveR t.rs L)).Nodup := (free_sorted _).imp fun h => Nat.ne_of_lt h
    constructor
    · rintro ⟨h2, _⟩
      refine ⟨j, ?_, hj, hjk⟩
      dsimp only at h2
      split at hlast <;> omega
    · rintro ⟨j2, hnj, hj2, hjk2⟩
      have : j2 = j := by
        obtain ⟨a1, a2⟩ := List.getElem?_eq_some_iff.1 hjk
        obtain ⟨b1, b2⟩ := List.getElem?_eq_some_iff.1 hjk2
        by_cases hlt : j < j2
        · exact absurd (a2.trans b2.symm) (List.pairwise_iff_getElem.1 hn j j2 a1 b1 hlt)
        · by_cases hlt2 : j2 < j
          · exact absurd (b2.trans a2.symm) (List.pairwise_iff_getElem.1 hn j2 j b1 a1 hlt2)
          · omega
      subst this
      refine ⟨?_, hne⟩
      dsimp only
      split at hlast <;> omega
/-- The batch between gives the same tree again. -/
theorem bet_fit {t : TreeI} (T : TreeOk t) {L J : List Int} (h : Fit t.rs L J) : Fit t.rs (betL t.rs L) J := by
  have hm := betL_mem h.on
  have hlen : (betL t.rs L).length = L.length := by
    have h1 := on_leave T.R.who L h.nL h.on
    have h2 := on_leave T.R.who (betL t.rs L) (betL_nodup T.R.who L) (fun w hw => h.on w ((hm w).1 hw))
    rw [leaveR_congr hm] at h2
    omega
  exact ⟨fun w hw => h.rL w ((hm w).1 hw), betL_nodup T.R.who L, fun w hw => h.on w ((hm w).1 hw), h.rJ, h.nJ, fun w hw hx => h.dJ w hw ((hm w).1 hx), h.off, by rw [hlen]; exact h.cap⟩
theorem bet_next {t : TreeI} {L J : List Int} (h : Fit t.rs L J) : nextT t (betL t.rs L) J = nextT t L J := by
  have hm := betL_mem h.on
  have hp : repT t (betL t.rs L) = repT t L := by
    funext v
    unfold repT repP
    rw [Bool.eq_iff_iff, List.any_eq_true, List.any_eq_true]
    constructor
    · rintro ⟨x, hx, e⟩
      obtain ⟨w, hw, rfl⟩ := List.mem_map.1 hx
      exact ⟨_, List.mem_map.2 ⟨w, (hm w).1 hw, rfl⟩, e⟩
    · rintro ⟨x, hx, e⟩
      obtain ⟨w, hw, rfl⟩ := List.mem_map.1 hx
      exact ⟨_, List.mem_map.2 ⟨w, (hm w).2 hw, rfl⟩, e⟩
  unfold nextT
  rw [hp]
  unfold moveR
  rw [leaveR_congr hm]
end Go.Proofs.YtlfmckjehjedpaaGreatDoor

/- The batch between two trees of a row: the walk. -/
namespace Go.Proofs.YtlfmckjehjedpaaGreatDoor
set_option linter.unusedVariables false
set_option linter.unusedSimpArgs false
set_option maxRecDepth 100000
open SL Go.RowKit Go.Maps
abbrev ownN (g : Option (Nat × Nat)) (xs : List Int) : HObj := .own (svOf g xs.length) xs.length 3 1 (intsV xs)
theorem own_snocI (xs : List Int) (x : Int) (gb gc : Nat) : ownN (some (gb, gc)) (xs ++ [x]) = .own (.slice (some ⟨gb, 0, none⟩) (xs.length + 1) gc) (xs.length + 1) 3 1 (intsV xs ++ [.int .i64 x]) := by
  unfold ownN; rw [List.length_append]; simp
abbrev btT : SL.Late.Tree.Tr := (.q 0 (.q 1 (.q 2 (.q 3 (.q 4 (.q 5 (.q 6 (.b 7 (.b 8 (.q 9 (.b 10 .done .nil)) .nil) .nil))))))))
set_option maxHeartbeats 8000000 in
theorem between_ok12 (F : Mem) (t : TreeI) (T : TreeOk t) (L J : List Int) (h200 : t.ep ≠ 200) (h : Fit t.rs L J) :
    FT Tryz.prog 25 [.agg (treeL t).toArray, .agg (treeL (nextT t L J)).toArray].toArray F []
    (fun e H => ∃ g1 g2, (g1 = none ↔ betL t.rs L = []) ∧ (g2 = none ↔ J = []) ∧ e = .returned (.agg #[svOf g1 (betL t.rs L).length, svOf g2 J.length]) ∧ H = [ownN g1 (betL t.rs L), ownN g2 J]) := by
  have hS := T.shaped
  have hl := treeL_length hS
  have T2 := nextT_ok T h200 h
  have hS2 := T2.shaped
  have hl2 := treeL_length hS2
  have hJ64 := h.lenJ T.R
  have hfr := T.fr
  have hcl := cntN_le (repT t L) 21
  have hep := T.ep
  have htop2 := T2.top
  have hroom := h.room T.R
  refine FT.of_body Tryz.func25 rfl Tryz.ntmps25 (by simp) fun C hC => ?_
  subst hC
  conv => whnf
  intro b2
  conv => whnf
  intro b3
  conv => whnf
  intro b4
  conv => whnf
  intro b5
  conv => whnf
  refine LoopI.by_state (σ := Nat × Option (Nat × Nat)) (fun s => [(2, .pointer (some ⟨b2, 0, none⟩)), (3, .pointer (some ⟨b3, 0, none⟩)), (4, .pointer (some ⟨b4, 0, none⟩)), (5, .pointer (some ⟨b5, 0, none⟩)), (6, .int .i64 (s.1 : Int))])
    (fun s => [.cells b5 [svOf s.2 (betL (t.rs.take s.1) L).length, .slice none 0 0] 54 (0, 0), ownN s.2 (betL (t.rs.take s.1) L), .cells b4 [.slice none 0 0, .slice none 0 0] 54 (0, 0), .cells b3 (treeL (nextT t L J)) 62 (0, 0), .cells b2 (treeL t) 62 (0, 0)])
    (fun s => s.1 ≤ 64 ∧ (s.2 = none ↔ betL (t.rs.take s.1) L = [])) (fun s => 64 - s.1) (0, none) ⟨Nat.zero_le _, by simp [betL]⟩ ⟨rfl, rfl, rfl, rfl, rfl, trivial⟩ (Sub.trans (Sub.nil 3 1) (Sub.sel [1, 0, 2, 3, 4] rfl)) ?_
  rintro ⟨i, g⟩ f0 ⟨hi, hg⟩
  dsimp only at hi hg ⊢
  conv => whnf
  refine cond_dec (fun h1 => ?_) (fun h1 => ?_)
  · have hi64 : i < 64 := by omega
    have hk : i < t.rs.length := by rw [hS.r]; exact hi64
    have hk2 : i < (nextT t L J).rs.length := by rw [hS2.r]; exact hi64
    have hat0 := treeL_rat hS (j := 0) hk (by omega)
    have hat1 := treeL_rat hS (j := 1) hk (by omega)
    have hp1 := treeL_ent hS hk
    have hp2 := treeL_ent hS2 hk2
    have hst := betL_snoc t.rs L hk
    have hbl := betL_len (t.rs.take i) L
    rw [List.length_take] at hbl
    have hcond := fun ht => bet_cond T h hk hk2 ht
    generalize betL (t.rs.take i) L = xs at hg hst hbl ⊢
    generalize t.rs[i] = e1 at hat0 hat1 hp1 hst hcond ⊢
    generalize (nextT t L J).rs[i] = e2 at hp2 hcond ⊢
    have hxl : xs.length ≤ 64 := by omega
    conv => whnf
    refine DrawI.quiet (by kernel_rfl) (by kernel_rfl) ?_
    conv => whnf
    refine ⟨by omega, ?_⟩
    conv => whnf
    refine LoadV.eq (b := b2) (o := 44 + (_ * 3 + 1)) (fld_addr2 (b := b2) (o := 44) (n := 3) (f' := 1) (by kernel_rfl) rfl (by kernel_rfl)) ?_
    refine LoadV.s rfl hat1 ?_
    conv => whnf
    refine cond_split (fun hb => ?_) (fun hb => ?_)
    · have ht : tk e1 := by simpa using hb
      conv => whnf
      refine ⟨by omega, ?_⟩
      conv => whnf
      refine LoadV.eq (b := b2) (o := 44 + i * 3) (by exact congrArg (fun o => (⟨b2, o, none⟩ : Addr)) (elem_off2 (o := 44) (n := 3) (by kernel_rfl) rfl)) ?_
      refine LoadV.p 3 (entF e1) rfl rfl (by omega) hp1 ?_
      conv => whnf
      refine ⟨by omega, ?_⟩
      conv => whnf
      refine LoadV.eq (b := b3) (o := 44 + i * 3) (by exact congrArg (fun o => (⟨b3, o, none⟩ : Addr)) (elem_off2 (o := 44) (n := 3) (by kernel_rfl) rfl)) ?_
      refine LoadV.p 3 (entF e2) rfl rfl (by omega) hp2 ?_
      conv => whnf
      refine EqV.neq (d := 3) (ks := [.i .i64, .i .i64, .i .i64]) (by kernel_rfl) rfl (by kernel_rfl) rfl rfl rfl ?_
      rw [ent_eq]
      by_cases he : e1 = e2
      · have hnL := (hcond ht).1 he
        rw [if_neg fun hc => hnL hc.2, List.append_nil] at hst
        rw [decide_eq_true he]
        conv => whnf
        refine ArI.to64 ((i + 1 : Nat) : Int) (by omega) (by omega) ?_
        conv => whnf
        exact ⟨(i + 1, g), _, by dsimp only; omega, Sub.refl _, ⟨by dsimp only; omega, by dsimp only; rw [hst]; exact hg⟩, ⟨rfl, rfl, rfl, rfl, rfl, trivial⟩, by dsimp only; rw [hst]⟩
      · have hL : e1.1 ∈ L := by
          by_cases hL : e1.1 ∈ L
          · exact hL
          · exact absurd ((hcond ht).2 hL) he
        rw [if_pos ⟨(tkB_iff _).2 ht, hL⟩] at hst
        rw [decide_eq_false he]
        obtain ⟨w, bs, si⟩ := e1
        rw [show entF (w, bs, si) = [.int .i64 w, .int .i64 bs, .int .i64 si] from rfl] at hat0
        conv => whnf
        refine SL.Late.Tree.drawT btT [7, 8, 10] [1] [10] [_] [_] (by kernel_rfl) (by kernel_rfl) (by kernel_rfl) (by kernel_rfl) (by kernel_rfl) (by kernel_rfl) (by kernel_rfl) (by kernel_rfl) (by kernel_rfl) (Sub.sel [4] rfl) (Sub.sel [0] rfl) ?_
        conv => whnf
        refine LoadV.s rfl rfl ?_
        conv => whnf
        refine ⟨by omega, ?_⟩
        conv => whnf
        refine LoadV.eq (b := b2) (o := 44 + (_ * 3 + 0)) (fld_addr2 (b := b2) (o := 44) (n := 3) (f' := 0) (by kernel_rfl) rfl (by kernel_rfl)) ?_
        refine LoadV.s rfl hat0 ?_
        conv => whnf
        refine ⟨?_, trivial⟩
        intro bl
        conv => whnf
        refine ⟨⟨Sub.sel [5] rfl, fun _ => Sub.sel [1] rfl⟩, ?_⟩
        conv => whnf
        refine ⟨?_, trivial⟩
        refine BuiltV.append (sv := svOf g xs.length) (m := 1) Tryz.underlying52 rfl rfl rfl rfl (by decide) (Row.cells 1) rfl (by decide) rfl (by show (xs.length + 1) * 8 ≤ _; omega) (by omega) fun gb gc => ?_
        conv => whnf
        refine ⟨⟨Sub.sel [5] rfl, fun _ => Sub.sel [1] rfl⟩, ?_⟩
        conv => whnf
        refine ⟨?_, trivial⟩
        refine StoreV.c rfl rfl (Nat.le_of_ble_eq_true rfl) rfl ?_
        conv => whnf
        refine ⟨⟨Sub.sel [5] rfl, fun h => by cases h⟩, ?_⟩
        conv => whnf
        refine ArI.to64 ((i + 1 : Nat) : Int) (by omega) (by omega) ?_
        conv => whnf
        refine ⟨(i + 1, some (gb, gc)), _, by dsimp only; omega, Sub.sel [1, 2, 3, 4, 5] rfl, ⟨by dsimp only; omega, by dsimp only; rw [hst]; simp⟩, ⟨rfl, rfl, rfl, rfl, rfl, trivial⟩, ?_⟩
        dsimp only
        rw [hst, own_snocI, List.length_append]
        rfl
    · have ht : ¬ tk e1 := by simpa using hb
      rw [if_neg fun hc => ht ((tkB_iff _).1 hc.1), List.append_nil] at hst
      conv => whnf
      refine ArI.to64 ((i + 1 : Nat) : Int) (by omega) (by omega) ?_
      conv => whnf
      exact ⟨(i + 1, g), _, by dsimp only; omega, Sub.refl _, ⟨by dsimp only; omega, by dsimp only; rw [hst]; exact hg⟩, ⟨rfl, rfl, rfl, rfl, rfl, trivial⟩, by dsimp only; rw [hst]⟩
  · obtain rfl : i = 64 := by omega
    rw [List.take_of_length_le (by rw [hS.r]; decide)] at hg ⊢
    have hr64 : (leaveR t.rs L).length = 64 := by rw [leaveR_length]; exact T.R.len
    have hnew : ∀ k (hk1 : k < t.rs.length) (hk2 : k < (nextT t L J).rs.length) (n : Nat) (last : Int), (last = if n = 0 then 0 else t.fr + (cntN (repT t L) 21 : Nat) + ((n : Int) - 1)) → (((nextT t L J).rs[k].2.1 > last ∧ (nextT t L J).rs[k] ≠ t.rs[k]) ↔ ∃ j, n ≤ j ∧ j < J.length ∧ (freeL (leaveR t.rs L))[j]? = some k) := fun k hk1 hk2 n last hl => bet_new T h hk1 hk2 n last hl
    have hsort : ∀ i j (hi : i < (freeL (leaveR t.rs L)).length) (hj : j < (freeL (leaveR t.rs L)).length), i < j → (freeL (leaveR t.rs L))[i] < (freeL (leaveR t.rs L))[j] := fun i j hi hj hij => List.pairwise_iff_getElem.1 (free_sorted _) i j hi hj hij
    have hfree : ∀ i (hi : i < (freeL (leaveR t.rs L)).length), (freeL (leaveR t.rs L))[i] < 64 := fun i hi => by
      obtain ⟨a, _⟩ := (mem_free hr64).1 (List.getElem_mem hi)
      omega
    have hjoin : ∀ j (hj : j < J.length) (hf : j < (freeL (leaveR t.rs L)).length), (nextT t L J).rs[(freeL (leaveR t.rs L))[j]]? = some (J[j], t.fr + (cntN (repT t L) 21 : Nat) + (j : Nat), t.ep + 1) := fun j hj hf => nextT_joined T h hj hf
    generalize freeL (leaveR t.rs L) = fs at hroom hnew hsort hfree hjoin
    generalize hb0 : t.fr + (cntN (repT t L) 21 : Nat) = base0 at hnew hjoin
    generalize betL t.rs L = xs0 at hg ⊢
    conv => whnf
    refine LoopI.by_state (σ := Nat × Option (Nat × Nat)) (fun s => [(2, .pointer (some ⟨b2, 0, none⟩)), (3, .pointer (some ⟨b3, 0, none⟩)), (4, .pointer (some ⟨b4, 0, none⟩)), (5, .pointer (some ⟨b5, 0, none⟩)), (7, .int .i64 (if s.1 = 0 then 0 else base0 + ((s.1 : Int) - 1)))])
      (fun s => [.cells b5 [svOf g xs0.length, svOf s.2 (J.take s.1).length] 54 (0, 0), ownN s.2 (J.take s.1), ownN g xs0, .cells b4 [.slice none 0 0, .slice none 0 0] 54 (0, 0), .cells b3 (treeL (nextT t L J)) 62 (0, 0), .cells b2 (treeL t) 62 (0, 0)])
      (fun s => s.1 ≤ J.length ∧ (s.2 = none ↔ J.take s.1 = [])) (fun s => J.length - s.1) (0, none) ⟨Nat.zero_le _, by simp⟩ ⟨rfl, rfl, rfl, rfl, rfl, trivial⟩ (Sub.trans (Sub.nil 3 1) (Sub.sel [1, 0, 2, 3, 4, 5] rfl)) ?_
    rintro ⟨k, g2⟩ f1 ⟨hk, hg2⟩
    dsimp only at hk hg2 ⊢
    obtain ⟨last, hlast⟩ : ∃ last : Int, last = if k = 0 then 0 else base0 + ((k : Int) - 1) := ⟨_, rfl⟩
    rw [← hlast]
    obtain ⟨q, hq⟩ : ∃ q, q = if h : k < fs.length then (if k < J.length then fs[k] else 64) else 64 := ⟨_, rfl⟩
    have hq64 : q ≤ 64 := by rw [hq]; split <;> (try split) <;> first | omega | exact Nat.le_of_lt (hfree _ _)
    have hqJ : k < J.length → ∃ hf : k < fs.length, q = fs[k] := fun hkJ => ⟨by omega, by rw [hq, dif_pos (by omega), if_pos hkJ]⟩
    have hqN : ¬ k < J.length → q = 64 := fun hkJ => by
      rw [hq]; split
      · simp only [if_neg hkJ]
      · rfl
    clear hq
    conv => whnf
    refine LoopI.by_state (σ := Nat) (fun n => [(2, .pointer (some ⟨b2, 0, none⟩)), (3, .pointer (some ⟨b3, 0, none⟩)), (4, .pointer (some ⟨b4, 0, none⟩)), (5, .pointer (some ⟨b5, 0, none⟩)), (7, .int .i64 last), (8, .int .i64 (if q < n then (q : Int) else -1)), (9, .int .i64 (n : Int))])
      (fun _ => [.cells b5 [svOf g xs0.length, svOf g2 (J.take k).length] 54 (0, 0), ownN g2 (J.take k), ownN g xs0, .cells b4 [.slice none 0 0, .slice none 0 0] 54 (0, 0), .cells b3 (treeL (nextT t L J)) 62 (0, 0), .cells b2 (treeL t) 62 (0, 0)])
      (fun n => n ≤ 64) (fun n => 64 - n) 0 (Nat.zero_le _) ⟨rfl, rfl, rfl, rfl, rfl, rfl, rfl, trivial⟩ (Sub.refl _) ?_
    rintro n f2 hn
    conv => whnf
    refine cond_dec (fun h2 => ?_) (fun h2 => ?_)
    · have hn64 : n < 64 := by omega
      have hk1 : n < t.rs.length := by rw [hS.r]; exact hn64
      have hk2 : n < (nextT t L J).rs.length := by rw [hS2.r]; exact hn64
      have hp1 := treeL_ent hS hk1
      have hp2 := treeL_ent hS2 hk2
      have hcond := hnew n hk1 hk2 k last hlast
      have hnq : n = q → k < J.length := fun e => by
        by_cases hkJ : k < J.length
        · exact hkJ
        · have := hqN hkJ; omega
      have hnb : ∀ j (hj : j < J.length), fs[j]? = some n → (nextT t L J).rs[n] = (J[j], base0 + (j : Nat), t.ep + 1) := fun j hj e => by
        obtain ⟨a, b⟩ := List.getElem?_eq_some_iff.1 e
        have := hjoin j hj a
        rw [b, List.getElem?_eq_getElem hk2] at this
        exact Option.some.inj this
      generalize hE1 : t.rs[n] = e1 at hp1 hcond
      generalize hE2 : (nextT t L J).rs[n] = e2 at hp2 hcond hnb
      obtain ⟨w, bs, si⟩ := e2
      dsimp only at hcond
      rw [show entF (w, bs, si) = [.int .i64 w, .int .i64 bs, .int .i64 si] from rfl] at hp2
      have hnext : ∀ (X : Prop), X → X := fun _ h => h
      conv => whnf
      refine ⟨by omega, ?_⟩
      conv => whnf
      refine LoadV.eq (b := b3) (o := 44 + n * 3) (by exact congrArg (fun o => (⟨b3, o, none⟩ : Addr)) (elem_off2 (o := 44) (n := 3) (by kernel_rfl) rfl)) ?_
      refine LoadV.p 3 [.int .i64 w, .int .i64 bs, .int .i64 si] rfl rfl (by omega) hp2 ?_
      conv => whnf
      intro b10
      conv => whnf
      refine StoreV.c rfl rfl (Nat.le_of_ble_eq_true rfl) rfl ?_
      conv => whnf
      refine DrawI.quiet (by kernel_rfl) (by kernel_rfl) ?_
      conv => whnf
      refine LoadV.s rfl rfl ?_
      conv => whnf
      refine cond_dec (fun hgt => ?_) (fun hgt => ?_)
      · conv => whnf
        refine LoadV.p 3 (entF (w, bs, si)) rfl rfl (Nat.le_of_ble_eq_true rfl) rfl ?_
        conv => whnf
        refine ⟨by omega, ?_⟩
        conv => whnf
        refine LoadV.eq (b := b2) (o := 44 + n * 3) (by exact congrArg (fun o => (⟨b2, o, none⟩ : Addr)) (elem_off2 (o := 44) (n := 3) (by kernel_rfl) rfl)) ?_
        refine LoadV.p 3 (entF e1) rfl rfl (by omega) hp1 ?_
        conv => whnf
        refine EqV.neq (d := 3) (ks := [.i .i64, .i .i64, .i .i64]) (by kernel_rfl) rfl (by kernel_rfl) rfl rfl rfl ?_
        rw [ent_eq]
        by_cases he : (w, bs, si) = e1
        · rw [decide_eq_true he]
          have hne : n ≠ q := fun e => by
            obtain ⟨hf, e2⟩ := hqJ (hnq e)
            exact (hcond.2 ⟨k, Nat.le_refl _, hnq e, by rw [List.getElem?_eq_getElem hf, ← e2, e]⟩).2 he
          have e8 : (if q < n then (q : Int) else -1) = if q < n + 1 then (q : Int) else -1 := by
            by_cases h5 : q < n
            · rw [if_pos h5, if_pos (by omega)]
            · rw [if_neg h5, if_neg (by omega)]
          conv => whnf
          refine ArI.to64 ((n + 1 : Nat) : Int) (by omega) (by omega) ?_
          conv => whnf
          exact ⟨n + 1, _, by omega, Sub.sel [1, 2, 3, 4, 5, 6] rfl, by omega, ⟨rfl, rfl, rfl, rfl, rfl, by rw [← e8]; rfl, rfl, trivial⟩, rfl⟩
        · rw [decide_eq_false he]
          obtain ⟨j, hkj, hjJ, hjn⟩ := hcond.1 ⟨hgt, he⟩
          have hkJ : k < J.length := by omega
          obtain ⟨hf, hqf⟩ := hqJ hkJ
          obtain ⟨hjf, hjn2⟩ := List.getElem?_eq_some_iff.1 hjn
          have hbsj := hnb j hjJ hjn
          simp only [Prod.mk.injEq] at hbsj
          by_cases hj : j = k
          · subst hj
            have hnq2 : n = q := by rw [hqf, hjn2]
            subst hnq2
            rw [if_neg (Nat.lt_irrefl n)]
            conv => whnf
            refine ArI.to64 ((n + 1 : Nat) : Int) (by omega) (by omega) ?_
            conv => whnf
            exact ⟨n + 1, _, by omega, Sub.sel [1, 2, 3, 4, 5, 6] rfl, by omega, ⟨rfl, rfl, rfl, rfl, rfl, by rw [if_pos (Nat.lt_succ_self n)]; rfl, rfl, trivial⟩, rfl⟩
          · have hqn : q < n := by
              have := hsort k j hf hjf (by omega)
              rw [hqf, ← hjn2]; exact this
            have hatq : (treeL (nextT t L J))[44 + (q * 3 + 1)]? = some (.int .i64 (base0 + (k : Nat))) := by
              have h3 := hjoin k hkJ hf
              rw [← hqf] at h3
              obtain ⟨h4, h5⟩ := List.getElem?_eq_some_iff.1 h3
              rw [treeL_rat hS2 h4 (by omega), h5]; rfl
            rw [if_pos hqn]
            generalize hqz : (q : Int) = qz
            conv => whnf
            refine cond_f (by omega) ?_
            conv => whnf
            refine LoadV.s rfl rfl ?_
            conv => whnf
            refine ⟨by omega, ?_⟩
            subst hqz
            conv => whnf
            refine LoadV.eq (b := b3) (o := 44 + (_ * 3 + 1)) (fld_addr2 (b := b3) (o := 44) (n := 3) (f' := 1) (by kernel_rfl) rfl (by kernel_rfl)) ?_
            refine LoadV.s rfl hatq ?_
            conv => whnf
            refine cond_f (by omega) ?_
            conv => whnf
            refine ArI.to64 ((n + 1 : Nat) : Int) (by omega) (by omega) ?_
            conv => whnf
            exact ⟨n + 1, _, by omega, Sub.sel [1, 2, 3, 4, 5, 6] rfl, by omega, ⟨rfl, rfl, rfl, rfl, rfl, by rw [if_pos (by omega)]; rfl, rfl, trivial⟩, rfl⟩
      · have hne : n ≠ q := fun e => by
          obtain ⟨hf, e2⟩ := hqJ (hnq e)
          exact hgt (hcond.2 ⟨k, Nat.le_refl _, hnq e, by rw [List.getElem?_eq_getElem hf, ← e2, e]⟩).1
        have e8 : (if q < n then (q : Int) else -1) = if q < n + 1 then (q : Int) else -1 := by
          by_cases h5 : q < n
          · rw [if_pos h5, if_pos (by omega)]
          · rw [if_neg h5, if_neg (by omega)]
        conv => whnf
        refine ArI.to64 ((n + 1 : Nat) : Int) (by omega) (by omega) ?_
        conv => whnf
        exact ⟨n + 1, _, by omega, Sub.sel [1, 2, 3, 4, 5, 6] rfl, by omega, ⟨rfl, rfl, rfl, rfl, rfl, by rw [← e8]; rfl, rfl, trivial⟩, rfl⟩
    · obtain rfl : n = 64 := by omega
      by_cases hkJ : k < J.length
      · obtain ⟨hf, hqf⟩ := hqJ hkJ
        have hq6 : q < 64 := by rw [hqf]; exact hfree _ _
        rw [if_pos hq6]
        have h3 := hjoin k hkJ hf
        rw [← hqf] at h3
        obtain ⟨h4, h5⟩ := List.getElem?_eq_some_iff.1 h3
        have hatq : (treeL (nextT t L J))[44 + (q * 3 + 1)]? = some (.int .i64 (base0 + (k : Nat))) := by rw [treeL_rat hS2 h4 (by omega), h5]; rfl
        have hatw : (treeL (nextT t L J))[44 + (q * 3 + 0)]? = some (.int .i64 J[k]) := by rw [treeL_rat hS2 h4 (by omega), h5]; rfl
        have hts : J.take (k + 1) = J.take k ++ [J[k]] := take_snoc hkJ
        have htl : (J.take k).length ≤ 64 := by rw [List.length_take]; omega
        generalize J[k] = w at hatw hts
        generalize J.take k = ys at hg2 hts htl ⊢
        generalize hqz : (q : Int) = qz
        conv => whnf
        refine cond_f (by omega) ?_
        conv => whnf
        refine ⟨by omega, ?_⟩
        subst hqz
        conv => whnf
        refine LoadV.eq (b := b3) (o := 44 + (_ * 3 + 1)) (fld_addr2 (b := b3) (o := 44) (n := 3) (f' := 1) (by kernel_rfl) rfl (by kernel_rfl)) ?_
        refine LoadV.s rfl hatq ?_
        conv => whnf
        refine SL.Late.Tree.drawT btT [7, 8, 10] [1] [10] [_] [_] (by kernel_rfl) (by kernel_rfl) (by kernel_rfl) (by kernel_rfl) (by kernel_rfl) (by kernel_rfl) (by kernel_rfl) (by kernel_rfl) (by kernel_rfl) (Sub.sel [4] rfl) (Sub.sel [0] rfl) ?_
        conv => whnf
        refine LoadV.s rfl rfl ?_
        conv => whnf
        refine ⟨by omega, ?_⟩
        conv => whnf
        refine LoadV.eq (b := b3) (o := 44 + (_ * 3 + 0)) (fld_addr2 (b := b3) (o := 44) (n := 3) (f' := 0) (by kernel_rfl) rfl (by kernel_rfl)) ?_
        refine LoadV.s rfl hatw ?_
        conv => whnf
        refine ⟨?_, trivial⟩
        intro bl
        conv => whnf
        refine ⟨⟨Sub.sel [5] rfl, fun _ => Sub.sel [1] rfl⟩, ?_⟩
        conv => whnf
        refine ⟨?_, trivial⟩
        refine BuiltV.append (sv := svOf g2 ys.length) (m := 1) Tryz.underlying52 rfl rfl rfl rfl (by decide) (Row.cells 1) rfl (by decide) rfl (by show (ys.length + 1) * 8 ≤ _; omega) (by omega) fun gb gc => ?_
        conv => whnf
        refine ⟨⟨Sub.sel [5] rfl, fun _ => Sub.sel [1] rfl⟩, ?_⟩
        conv => whnf
        refine ⟨?_, trivial⟩
        refine StoreV.c rfl rfl (Nat.le_of_ble_eq_true rfl) rfl ?_
        conv => whnf
        refine ⟨⟨Sub.sel [5] rfl, fun h => by cases h⟩, ?_⟩
        conv => whnf
        refine ⟨(k + 1, some (gb, gc)), _, by dsimp only; omega, Sub.sel [1, 2, 3, 4, 5, 6] rfl, ⟨by dsimp only; omega, by dsimp only; rw [hts]; simp⟩, ⟨rfl, rfl, rfl, rfl, ?_, trivial⟩, ?_⟩
        · dsimp only
          rw [if_neg (by omega), show ((k + 1 : Nat) : Int) - 1 = (k : Int) by omega]
          rfl
        · dsimp only
          rw [hts, own_snocI, List.length_append]
          rfl
      · obtain rfl : k = J.length := by omega
        have hq6 := hqN hkJ
        subst hq6
        rw [List.take_length] at hg2 ⊢
        conv => whnf
        refine LoadV.a 2 rfl (Nat.le_of_ble_eq_true rfl) ?_
        conv => whnf
        refine StoreV.c rfl rfl (Nat.le_of_ble_eq_true rfl) rfl ?_
        conv => whnf
        refine RetI.cell1 Tryz.results25 rfl ?_
        conv => whnf
        refine LoadV.a 2 rfl (Nat.le_of_ble_eq_true rfl) ?_
        exact ⟨_, Sub.sel [2, 1] rfl, g, g2, hg, hg2, rfl, rfl⟩
end Go.Proofs.YtlfmckjehjedpaaGreatDoor

/- Rows of trees: what they are; that they are found right. -/
namespace Go.Proofs.YtlfmckjehjedpaaGreatDoor
set_option linter.unusedVariables false
set_option linter.unusedSimpArgs false
set_option maxRecDepth 100000
open SL Go.RowKit Go.Maps
abbrev TreeS := {t : TreeI // Shaped t}
def treeF (t : TreeS) : List Value := treeL t.1
theorem treeF_length (t : TreeS) : (treeF t).length = 236 := treeL_length t.2
theorem treeF_all (t : TreeS) : (treeF t).all Value.oneCell' = true := treeL_all t.1
/-- A row that the program's steps lead to. -/
structure RowOk (row : List TreeS) : Prop where
  first : ∃ t, row[0]? = some t ∧ t.1 = startT
  step : ∀ i t u, row[i]? = some t → row[i + 1]? = some u → ∃ L J, t.1.ep ≠ 200 ∧ Fit t.1.rs L J ∧ u.1 = nextT t.1 L J
theorem RowOk.tree {row : List TreeS} (R : RowOk row) : ∀ (i : Nat) (t : TreeS), row[i]? = some t → TreeOk t.1 ∧ t.1.ep = (i : Int)
  | 0, t, h => by
    obtain ⟨t0, h1, h2⟩ := R.first
    rw [h1] at h; cases h
    rw [h2]; exact ⟨startT_ok, rfl⟩
  | i + 1, u, h => by
    have hlt : i < row.length := by have := (List.getElem?_eq_some_iff.1 h).1; omega
    obtain ⟨hT, he⟩ := RowOk.tree R i _ (List.getElem?_eq_getElem hlt)
    obtain ⟨L, J, h1, h2, h3⟩ := R.step i _ u (List.getElem?_eq_getElem hlt) h
    rw [h3]
    refine ⟨nextT_ok hT h1 h2, ?_⟩
    show row[i].1.ep + 1 = _
    rw [he]; omega
theorem RowOk.len {row : List TreeS} (R : RowOk row) : 1 ≤ row.length ∧ row.length ≤ 201 := by
  obtain ⟨t0, h1, _⟩ := R.first
  have h0 := (List.getElem?_eq_some_iff.1 h1).1
  refine ⟨by omega, ?_⟩
  have hlt : row.length - 1 < row.length := by omega
  obtain ⟨hT, he⟩ := R.tree _ _ (List.getElem?_eq_getElem hlt)
  have := hT.ep
  omega
theorem lk_tree (t : TreeI) (h : Shaped t) : okCells (repl 236 [.i .i64]) (treeL t) = true := by
  have key : ∀ (l : List Value), (∀ v ∈ l, okCell (.i .i64) v = true) → okCells (repl l.length [.i .i64]) l = true := by
    intro l
    induction l with
    | nil => intro _; rfl
    | cons x l ih =>
      intro h
      show (okCell (.i .i64) x && okCells (repl l.length [.i .i64]) l) = true
      rw [h x (by simp), ih fun v hv => h v (by simp [hv])]; rfl
  have h2 := key (treeL t) fun v hv => by
    rcases List.mem_cons.1 hv with rfl | hv
    · rfl
    rcases List.mem_cons.1 hv with rfl | hv
    · rfl
    rcases List.mem_append.1 hv with hv | hv
    · obtain ⟨k, _, hk⟩ := List.mem_flatMap.1 hv
      simp only [keyF, List.mem_cons, List.not_mem_nil, or_false] at hk
      rcases hk with rfl | rfl <;> rfl
    · obtain ⟨k, _, hk⟩ := List.mem_flatMap.1 hv
      simp only [entF, List.mem_cons, List.not_mem_nil, or_false] at hk
      rcases hk with rfl | rfl | rfl <;> rfl
  rwa [treeL_length h] at h2
theorem cellsEq_self : ∀ (l : List Value), (∀ v ∈ l, ∃ k n, v = .int k n) → cellsEq l l = true
  | [], _ => rfl
  | x :: l, h => by
    obtain ⟨k, n, rfl⟩ := h x (by simp)
    show ((n == n) && cellsEq l l) = true
    rw [beq_self_eq_true, cellsEq_self l fun v hv => h v (by simp [hv])]; rfl
theorem treeL_ints (t : TreeI) : ∀ v ∈ treeL t, ∃ k n, v = Value.int k n := fun v hv => by
  rcases List.mem_cons.1 hv with rfl | hv
  · exact ⟨_, _, rfl⟩
  rcases List.mem_cons.1 hv with rfl | hv
  · exact ⟨_, _, rfl⟩
  rcases List.mem_append.1 hv with hv | hv
  · obtain ⟨k, _, hk⟩ := List.mem_flatMap.1 hv
    simp only [keyF, List.mem_cons, List.not_mem_nil, or_false] at hk
    rcases hk with rfl | rfl <;> exact ⟨_, _, rfl⟩
  · obtain ⟨k, _, hk⟩ := List.mem_flatMap.1 hv
    simp only [entF, List.mem_cons, List.not_mem_nil, or_false] at hk
    rcases hk with rfl | rfl | rfl <;> exact ⟨_, _, rfl⟩
theorem shape_tree : shapeOf Tryz.prog 5 62 = some (repl 236 [.i .i64]) := by kernel_rfl
abbrev rrT : SL.Late.Tree.Tr := (.q 0 (.q 1 (.q 2 (.q 3 (.q 4 (.q 5 (.q 6 (.q 7 (.q 8 (.q 9 (.q 10 (.q 11 (.q 12 (.q 13 (.b 14 (.b 15 (.q 16 (.q 17 (.q 18 (.q 19 (.q 20 (.b 21 (.b 22 (.q 23 (.q 24 (.q 25 .done))) .nil) .nil)))))) (.b 21 (.b 15 (.q 16 (.q 17 (.q 18 (.q 19 (.q 20 (.b 22 (.q 23 (.q 24 (.q 25 .done))) .nil)))))) .nil) .nil)) (.b 21 (.b 14 (.b 15 (.q 16 (.q 17 (.q 18 (.q 19 (.q 20 (.b 22 (.q 23 (.q 24 (.q 25 .done))) .nil)))))) .nil) .nil) .nil))))))))))))))))
set_option maxHeartbeats 4000000 in
theorem rowRight_ok (F : Mem) (oa : Option Addr) (ca : Nat) (row : List TreeS) (hr : SlF F 236 oa row.length (row.flatMap treeF)) (R : RowOk row) :
    FT Tryz.prog 11 [.slice oa row.length ca].toArray F [] (Ret (.bool true)) := by
  obtain ⟨hlen, hlen2⟩ := R.len
  refine FT.of_body Tryz.func11 rfl Tryz.ntmps11 (by simp) fun C hC => ?_
  subst hC
  conv => whnf
  have h0 : 0 < row.length := by omega
  obtain ⟨ts, hts, hst⟩ := R.first
  have hrow0 : row[0]'h0 = ts := by rw [List.getElem?_eq_getElem h0] at hts; exact Option.some.inj hts
  have hx := hr.at h0
  obtain ⟨xb, xo, rfl, hrow⟩ := hx
  have hld : ∀ i (hi : i < row.length), ∀ j v, (treeF row[i])[j]? = some v → RdC C.F ((⟨xb, elemOff xo (i : Int) 236, none⟩ : Addr).add j) v := fun i hi => flat_row treeF_length hrow hi rfl
  have hkl : ∀ i (hi : i < row.length), kind Tryz.prog 62 = some (some (treeF row[i]).length) := fun i hi => by rw [treeF_length]; rfl
  refine DrawI.quiet (by kernel_rfl) (by kernel_rfl) ?_
  conv => whnf
  rw [show ((row.length : Int) == 0) = false from beq_eq_false_iff_ne.2 (by omega)]
  conv => whnf
  refine ⟨by omega, ?_⟩
  conv => whnf
  refine LoadV.fa (cs := treeF row[0]) (hld 0 h0) (hkl 0 h0) ?_
  rw [hrow0, show treeF ts = treeL startT by rw [← hst]; rfl]
  conv => whnf
  refine CallQ.pure Tryz.call9 (fun F' _ => (rstart_ok F').mono fun _ _ h => h.1) ?_
  have hlk := lk_tree startT startT_ok.shaped
  have hce := cellsEq_self _ (treeL_ints startT)
  generalize treeL startT = ST at hlk hce ⊢
  conv => whnf
  refine EqV.neq (d := 5) shape_tree rfl (by kernel_rfl) rfl hlk hlk ?_
  rw [hce]
  conv => whnf
  refine LoopI.by_state (σ := Nat) (fun i => [(0, .slice (some ⟨xb, xo, none⟩) row.length ca), (3, .int .i64 (i : Int))]) (fun _ => []) (fun i => 1 ≤ i ∧ i ≤ row.length) (fun i => row.length - i) 1 ⟨by omega, hlen⟩ ⟨rfl, rfl, trivial⟩ (Sub.refl _) ?_
  rintro i f0 ⟨hi1, hi⟩
  conv => whnf
  refine cond_dec (fun h => ?_) (fun h => ?_)
  · have hil : i < row.length := by omega
    have hpl : i - 1 < row.length := by omega
    obtain ⟨L, J, hne, hfit, hnext⟩ := R.step (i - 1) row[i - 1] row[i] (List.getElem?_eq_getElem hpl) (by rw [show i - 1 + 1 = i by omega]; exact List.getElem?_eq_getElem hil)
    obtain ⟨hT0, _⟩ := R.tree (i - 1) _ (List.getElem?_eq_getElem hpl)
    have hl0 := hld (i - 1) hpl
    have hl1 := hld i hil
    have hk0 := hkl (i - 1) hpl
    have hk1 := hkl i hil
    have hbn := bet_next hfit
    have hz : stepE row[i - 1].1 (betL row[i - 1].1.rs L) J = 0 := stepE_zero.2 ⟨hne, bet_fit hT0 hfit⟩
    have hi1' : ∀ w ∈ betL row[i - 1].1.rs L, I64 w := fun w hw => by have := (bet_fit hT0 hfit).rL w hw; exact ⟨by omega, by omega⟩
    have hi2' : ∀ w ∈ J, I64 w := fun w hw => by have := hfit.rJ w hw; exact ⟨by omega, by omega⟩
    have hn1' := (bet_fit hT0 hfit).lenL hT0.R
    have hn2' := hfit.lenJ hT0.R
    have hT1 := nextT_ok hT0 hne hfit
    generalize hR0 : row[i - 1] = t0 at hl0 hk0 hne hfit hnext hT0 hbn hz hi1' hn1' hT1
    generalize hR1 : row[i] = t1 at hl1 hk1 hnext
    have hN1 : treeL (nextT t0.1 L J) = treeF t1 := by unfold treeF; rw [hnext]
    have hNl : (treeF t1).length = 236 := treeF_length t1
    have hNa := treeF_all t1
    have hnx : treeL (nextT t0.1 (betL t0.1.rs L) J) = treeF t1 := by rw [hbn, hN1]
    have hlk := lk_tree t1.1 t1.2
    have hce := cellsEq_self _ (treeL_ints t1.1)
    rw [show treeL t1.1 = treeF t1 from rfl] at hlk hce
    have hbo := fun F' => between_ok12 F' t0.1 hT0 L J hne hfit
    rw [hN1] at hbo
    have hi1 := hi1'
    have hi2 := hi2'
    have hn1 : (betL t0.1.rs L).length ≤ 140737488355328 := by omega
    have hn2 : J.length ≤ 140737488355328 := by omega
    generalize treeF t1 = NT at hl1 hk1 hNl hNa hnx hlk hce hbo
    conv => whnf
    refine SL.Late.Tree.drawTC rrT [14, 15, 21, 22] [] [] [] [] (fun b : Nat => [(0, .slice (some ⟨xb, xo, none⟩) row.length ca), (3, .int .i64 (i : Int)), (4, .pointer (some ⟨b, 0, none⟩)), (7, .int .i64 0)]) (fun b => [.cells b NT 62 (0, 0)]) (fun _ => True)
      (by kernel_rfl) (by kernel_rfl) (by kernel_rfl) (by kernel_rfl) (by kernel_rfl) (by kernel_rfl) (by kernel_rfl) (by kernel_rfl) (by kernel_rfl) (Sub.sel [] rfl) (Sub.sel [] rfl) ?_ ?_
    · conv => whnf
      refine ArI.to64 ((i - 1 : Nat) : Int) (by omega) (by omega) ?_
      conv => whnf
      refine ⟨by omega, ?_⟩
      conv => whnf
      refine LoadV.fa (cs := treeF t0) hl0 hk0 ?_
      conv => whnf
      refine ArI.to64 ((i - 1 : Nat) : Int) (by omega) (by omega) ?_
      conv => whnf
      refine ⟨by omega, ?_⟩
      conv => whnf
      refine LoadV.fa (cs := treeF t0) hl0 hk0 ?_
      conv => whnf
      refine ⟨by omega, ?_⟩
      conv => whnf
      refine LoadV.fa (cs := NT) hl1 hk1 ?_
      conv => whnf
      refine ⟨?_, ?_, trivial⟩
      · refine CallS.mk Tryz.call25 ⟨[], _, _, Sub.refl _, fun F' hF' => hbo F', ?_⟩
        rintro ed A' ⟨g1, g2, hg1, hg2, rfl, rfl⟩
        conv => whnf
        refine ⟨⟨Sub.sel [] rfl, fun _ => Sub.sel [] rfl⟩, ?_⟩
        conv => whnf
        refine ⟨?_, ?_, trivial⟩
        · refine CallS.mk Tryz.call24 ⟨[], _, _, Sub.refl _, fun F' hF' => next11_ok F' t0.1 hT0 (betL t0.1.rs L) J ⟨oaOf g1, capOf g1, oaOf g2, capOf g2⟩ ⟨SlF.sv hF' (by rw [List.length_map, Nat.mul_one]) (fun e => by rw [hg1.1 e]; rfl), SlF.sv hF' (by rw [List.length_map, Nat.mul_one]) (fun e => by rw [hg2.1 e]; rfl), hi1, hi2, hn1, hn2⟩, ?_⟩
          rintro ed A' (⟨_, g3, g4, _, _, rfl, rfl⟩ | ⟨hx, _⟩)
          rotate_left
          · exact absurd hz hx
          rw [hnx]
          conv => whnf
          refine ⟨⟨Sub.sel [] rfl, fun _ => Sub.sel [] rfl⟩, ?_⟩
          conv => whnf
          refine ⟨?_, trivial⟩
          intro b4
          conv => whnf
          refine ⟨⟨Sub.sel [] rfl, fun _ => Sub.sel [] rfl⟩, ?_⟩
          conv => whnf
          refine ⟨?_, trivial⟩
          refine StoreV.p 236 NT NT rfl hNl rfl (Nat.le_of_ble_eq_true rfl) hNa (by exact putAt_all (by rw [hNl]; rfl)) ?_
          conv => whnf
          refine ⟨⟨Sub.sel [] rfl, fun _ => Sub.sel [] rfl⟩, ?_⟩
          conv => whnf
          exact ⟨b4, trivial, ⟨rfl, rfl, rfl, rfl, trivial⟩, Sub.sel [0] rfl⟩
        · intro b4
          conv => whnf
          refine ⟨⟨Sub.sel [] rfl, fun _ => Sub.sel [] rfl⟩, ?_⟩
          conv => whnf
          refine ⟨?_, trivial⟩
          refine CallS.mk Tryz.call24 ⟨[], _, _, Sub.refl _, fun F' hF' => next11_ok F' t0.1 hT0 (betL t0.1.rs L) J ⟨oaOf g1, capOf g1, oaOf g2, capOf g2⟩ ⟨SlF.sv hF' (by rw [List.length_map, Nat.mul_one]) (fun e => by rw [hg1.1 e]; rfl), SlF.sv hF' (by rw [List.length_map, Nat.mul_one]) (fun e => by rw [hg2.1 e]; rfl), hi1, hi2, hn1, hn2⟩, ?_⟩
          rintro ed A' (⟨_, g3, g4, _, _, rfl, rfl⟩ | ⟨hx, _⟩)
          rotate_left
          · exact absurd hz hx
          rw [hnx]
          conv => whnf
          refine ⟨⟨Sub.sel [] rfl, fun _ => Sub.sel [] rfl⟩, ?_⟩
          conv => whnf
          refine ⟨?_, trivial⟩
          refine StoreV.p 236 NT NT rfl hNl rfl (Nat.le_of_ble_eq_true rfl) hNa (by exact putAt_all (by rw [hNl]; rfl)) ?_
          conv => whnf
          refine ⟨⟨Sub.sel [] rfl, fun _ => Sub.sel [] rfl⟩, ?_⟩
          conv => whnf
          exact ⟨b4, trivial, ⟨rfl, rfl, rfl, rfl, trivial⟩, Sub.sel [2] rfl⟩
      · intro b4
        conv => whnf
        refine ⟨⟨Sub.sel [] rfl, fun _ => Sub.sel [] rfl⟩, ?_⟩
        conv => whnf
        refine ⟨?_, trivial⟩
        refine CallS.mk Tryz.call25 ⟨[], _, _, Sub.refl _, fun F' hF' => hbo F', ?_⟩
        rintro ed A' ⟨g1, g2, hg1, hg2, rfl, rfl⟩
        conv => whnf
        refine ⟨⟨Sub.sel [] rfl, fun _ => Sub.sel [] rfl⟩, ?_⟩
        conv => whnf
        refine ⟨?_, trivial⟩
        refine CallS.mk Tryz.call24 ⟨[], _, _, Sub.refl _, fun F' hF' => next11_ok F' t0.1 hT0 (betL t0.1.rs L) J ⟨oaOf g1, capOf g1, oaOf g2, capOf g2⟩ ⟨SlF.sv hF' (by rw [List.length_map, Nat.mul_one]) (fun e => by rw [hg1.1 e]; rfl), SlF.sv hF' (by rw [List.length_map, Nat.mul_one]) (fun e => by rw [hg2.1 e]; rfl), hi1, hi2, hn1, hn2⟩, ?_⟩
        rintro ed A' (⟨_, g3, g4, _, _, rfl, rfl⟩ | ⟨hx, _⟩)
        rotate_left
        · exact absurd hz hx
        rw [hnx]
        conv => whnf
        refine ⟨⟨Sub.sel [] rfl, fun _ => Sub.sel [] rfl⟩, ?_⟩
        conv => whnf
        refine ⟨?_, trivial⟩
        refine StoreV.p 236 NT NT rfl hNl rfl (Nat.le_of_ble_eq_true rfl) hNa (by exact putAt_all (by rw [hNl]; rfl)) ?_
        conv => whnf
        refine ⟨⟨Sub.sel [] rfl, fun _ => Sub.sel [] rfl⟩, ?_⟩
        conv => whnf
        exact ⟨b4, trivial, ⟨rfl, rfl, rfl, rfl, trivial⟩, Sub.sel [4] rfl⟩
    rintro b4 f1 -
    conv => whnf
    refine DrawI.quiet (by kernel_rfl) (by kernel_rfl) ?_
    conv => whnf
    refine LoadV.p 236 NT rfl hNl (by omega) (take_all0 hNl) ?_
    conv => whnf
    refine ⟨by omega, ?_⟩
    conv => whnf
    refine LoadV.fa (cs := NT) hl1 hk1 ?_
    conv => whnf
    refine EqV.neq (d := 5) shape_tree rfl (by kernel_rfl) rfl hlk hlk ?_
    rw [hce]
    conv => whnf
    refine ArI.to64 ((i + 1 : Nat) : Int) (by omega) (by omega) ?_
    conv => whnf
    exact ⟨i + 1, _, by omega, Sub.sel [] rfl, ⟨by omega, by omega⟩, ⟨rfl, rfl, trivial⟩, rfl⟩
  · conv => whnf
    repeat (first | (refine LoadV.s rfl rfl (forceV_of ?_); conv => whnf) | (refine LoadV.s rfl rfl ?_; conv => whnf) | (refine StoreV.c rfl rfl (Nat.le_of_ble_eq_true rfl) rfl ?_; conv => whnf) | (refine LoadV.a _ rfl (Nat.le_of_ble_eq_true rfl) ?_; conv => whnf) | (refine DrawI.quiet (by kernel_rfl) (by kernel_rfl) ?_; conv => whnf) | (refine ArI.in64 (by omega) ?_; conv => whnf) | (refine ArI.inU8 (by omega) ?_; conv => whnf) | (refine ArI.inU64 (by omega) ?_; conv => whnf) | (refine ArI.inU32 (by omega) ?_; conv => whnf) | (refine RetI.one Tryz.results11 rfl ?_; conv => whnf) | (refine RetI.two Tryz.results11 rfl rfl ?_; conv => whnf) | (refine RetI.three Tryz.results11 rfl rfl rfl ?_; conv => whnf) | (refine RetI.none Tryz.results11 ?_; conv => whnf) | (refine ⟨by first | decide | omega, ?_⟩; conv => whnf))
    exact ⟨_, Sub.sel [] rfl, rfl, rfl⟩
end Go.Proofs.YtlfmckjehjedpaaGreatDoor

/- Rows of trees: who was on, what is excused. -/
namespace Go.Proofs.YtlfmckjehjedpaaGreatDoor
set_option linter.unusedVariables false
set_option linter.unusedSimpArgs false
set_option maxRecDepth 100000
open SL Go.RowKit Go.Maps
/-- The person is on in each tree from one place to another. -/
def On (row : List TreeS) (who fr to : Int) : Prop := 0 ≤ fr ∧ to < row.length ∧ fr ≤ to ∧ ∀ (i : Nat) (t : TreeS), fr ≤ (i : Int) → (i : Int) ≤ to → row[i]? = some t → 0 ≤ findI t.1.rs who 0
end Go.Proofs.YtlfmckjehjedpaaGreatDoor

/- What follows from keys and boxes. -/
namespace Go.Proofs.YtlfmckjehjedpaaGreatDoor
set_option linter.unusedVariables false
set_option linter.unusedSimpArgs false
set_option maxRecDepth 100000
open SL Go.RowKit Go.Maps
structure Snd (ks : List KeyI) (bs : List Bx) (m : List (Int × Int)) : Prop where
  snd : ∀ (P : Int → Int → Prop), (∀ k ∈ ks, P k.1 k.2) → (∀ b ∈ bs, ∀ s, s ≤ b.2.1 → P b.1 s → P b.2.2.1 b.2.2.2) → ∀ a s, lookM m a = some s → P a s
  rng : ∀ a s, lookM m a = some s → 0 ≤ s ∧ s ≤ 255
def HasBy (m : List (Int × Int)) (a s : Int) : Prop := ∃ s', lookM m a = some s' ∧ s' ≤ s
theorem HasBy.put {m : List (Int × Int)} {a s b v : Int} (h : HasBy m a s) (hv : ∀ s', lookM m b = some s' → v ≤ s') : HasBy (putM m b v) a s := by
  obtain ⟨s', h1, h2⟩ := h
  unfold HasBy
  rw [lookM_putM]
  by_cases e : b = a
  · subst e; rw [if_pos rfl]; exact ⟨v, rfl, by have := hv s' h1; omega⟩
  · rw [if_neg e]; exact ⟨s', h1, h2⟩
theorem Snd.put {ks : List KeyI} {bs : List Bx} {m : List (Int × Int)} (h : Snd ks bs m) {a v : Int} (h1 : ∀ (P : Int → Int → Prop), (∀ k ∈ ks, P k.1 k.2) → (∀ b ∈ bs, ∀ s, s ≤ b.2.1 → P b.1 s → P b.2.2.1 b.2.2.2) → P a v) (h2 : 0 ≤ v ∧ v ≤ 255) : Snd ks bs (putM m a v) := by
  refine ⟨fun P hk hb c s hc => ?_, fun c s hc => ?_⟩
  · rw [lookM_putM] at hc
    by_cases e : a = c
    · subst e; rw [if_pos rfl] at hc; cases hc; exact h1 P hk hb
    · rw [if_neg e] at hc; exact h.snd P hk hb c s hc
  · rw [lookM_putM] at hc
    by_cases e : a = c
    · subst e; rw [if_pos rfl] at hc; cases hc; exact h2
    · rw [if_neg e] at hc; exact h.rng c s hc
theorem Snd.nil (ks : List KeyI) (bs : List Bx) : Snd ks bs [] := ⟨fun _ _ _ a s h => by simp [lookM] at h, fun a s h => by simp [lookM] at h⟩
end Go.Proofs.YtlfmckjehjedpaaGreatDoor
