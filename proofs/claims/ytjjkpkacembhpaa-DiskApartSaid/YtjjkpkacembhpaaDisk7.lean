/- The law DiskCuts, as a contract. -/
import Derived.Test.YtjjkpkacembhpaaDisk6
namespace Go.Proofs.Ytjjkpkacembhpaa
set_option linter.unusedVariables false
set_option linter.unusedSimpArgs false
open SL Go.RowKit Go.Maps

theorem replay_push (m lg : List (Int × ByteArray)) (p : Int × ByteArray) : replay m (lg ++ [p]) = putM (replay m lg) p.1 p.2 := by simp [replay]
theorem inDisk_replay {lg : List (Int × ByteArray)} (h : LogOk lg) : ∀ {m : List (Int × ByteArray)}, InDisk m → InDisk (replay m lg) := by
  induction lg with
  | nil => intro m hm; exact hm
  | cons p lg ih =>
    intro m hm
    have hp := h p (by simp)
    exact ih (fun q hq => h q (by simp [hq])) (inDisk_put hm ⟨hp.1, hp.2.1⟩)
theorem inDisk_nil : InDisk [] := fun p hp => by cases hp
theorem logOk_push {lg : List (Int × ByteArray)} (h : LogOk lg) {p : Int × ByteArray} (hp : 0 ≤ p.1 ∧ p.1 < 2048 ∧ p.2.size ≤ 32) : LogOk (lg ++ [p]) := fun q hq => by
  rcases List.mem_append.1 hq with hq | hq
  · exact h q hq
  · simp at hq; subst hq; exact hp
theorem imageL_le (m : List (Int × ByteArray)) (h : InDisk m) : (imageL m).length ≤ 2048 := by
  rw [imageL_length]; have := topM_small h; omega
/-- The heap in the first loop: the disk; the image and the log of then. -/
abbrev cutsH (d r rb : Nat) (es : Array MapEntry) (c : Nat) (g : Option (Nat × Nat)) (lg : List (Int × ByteArray)) (th : Option (Nat × Nat)) (im : List ByteArray) (gk : Option (Nat × Nat)) (lk : List (Int × ByteArray)) : Heap :=
  [.cells d [.map (some r), .map (some rb), svOf g lg.length, .bool true, .int .i64 (-1)] 59 (0, 0), .obj r (.map #[] 0), .obj rb (.map es c), .own (svOf g lg.length) lg.length 29 2 (logCells lg),
   .own (svOf th im.length) im.length 9 1 (strs im), .own (svOf gk lk.length) lk.length 29 2 (logCells lk)]
structure CutsInv (k i : Nat) (es : Array MapEntry) (c : Nat) (g : Option (Nat × Nat)) (lg : List (Int × ByteArray)) (th : Option (Nat × Nat)) (im : List ByteArray) (gk : Option (Nat × Nat)) (lk : List (Int × ByteArray)) : Prop where
  M : MapS es c (replay [] lg)
  ok : LogOk lg
  hg : g = none ↔ lg = []
  hle : lg.length ≤ i
  hgk : gk = none ↔ lk = []
  hth : th = none → im = []
  pre : i ≤ k → th = none ∧ im = [] ∧ lk = []
  post : k < i → im = imageL (replay [] lk) ∧ lk <+: lg
theorem modIn2 (v : Int) (n : Int) (h0 : 0 < n) (_h1 : n ≤ 9223372036854775807) : ∃ k : Nat, (IntKind.u64.wrap v).tmod n = (k : Int) ∧ (k : Int) < n := u64_mod v n h0
theorem share {n : Nat} {G : Prop} (P : Nat → Prop) (use : (∀ k, k ≤ n → P k) → G) (prove : ∀ k, k ≤ n → P k) : G := use prove
theorem cells_own {m : List (Int × ByteArray)} : (strs (imageL m)).length = (imageL m).length * 1 := by simp
theorem sub_own4 {b n T sz : Nat} {l : List Value} {H : Heap} (hl : l.length = n * sz) (hn : n ≤ maxLen) : Sub (.cells b l T (0, 0) :: H) (.own (svOf (some (b, n)) n) n T sz l :: H) := Sub.own hl hn
theorem flg (p : Int × ByteArray) : (fun (p : Int × ByteArray) => [Value.int .i64 p.1, .string p.2]) p = [.int .i64 p.1, .string p.2] := rfl
set_option maxHeartbeats 8000000 in
theorem cuts_ok (F : Mem) (oa : Option Addr) (ca : Nat) (ws : List (Int × ByteArray)) (n : Int) (hw : SlF F 2 oa ws.length (logCells ws)) (hlog : (ws.length + 2) * 24 ≤ 140737488355328) :
    FT Try.prog 3 [.slice oa ws.length ca, .int .i64 n].toArray F [] (Ret (.bool true)) := by
  refine FT.of_body Try.func3 rfl Try.ntmps3 (by simp) fun C hC => ?_
  subst hC
  conv => whnf
  refine CallS.mk Try.call7 ⟨[], _, _, Sub.refl _, fun F' hF' => lives_ok F', ?_⟩
  rintro e A' ⟨rfl, rfl⟩
  conv => whnf
  refine CallS.mk Try.call8 ⟨[], _, _, Sub.refl _, fun F' hF' => new_ok F', ?_⟩
  rintro e A' ⟨d, r, rb, rfl, rfl⟩
  conv => whnf
  apply share (n := ws.length)
  case use =>
    intro key
    refine cond_dec (fun h => ?_) (fun h => ?_)
    · conv => whnf
      refine ArI.keep ?_
      conv => whnf
      refine ArI.in64 (by omega) ?_
      conv => whnf
      refine ArI.inU64 (by omega) ?_
      conv => whnf
      refine ⟨⟨rfl, by omega⟩, ?_⟩
      obtain ⟨k, hkv, hk1⟩ := modIn2 n ((ws.length : Int) + 1) (by omega) (by omega)
      rw [hkv]
      refine ArI.in64 (by omega) ?_
      conv => whnf
      have hk : k ≤ ws.length := by omega
      refine LoopI.by_state (σ := Nat × Array MapEntry × Nat × Option (Nat × Nat) × List (Int × ByteArray) × Option (Nat × Nat) × List ByteArray × Option (Nat × Nat) × List (Int × ByteArray))
        (fun x => [(0, .slice oa ws.length ca), (5, .pointer (some ⟨d, 0, none⟩)), (6, .int .i64 (k : Int)), (7, svOf x.2.2.2.2.2.1 x.2.2.2.2.2.2.1.length), (8, svOf x.2.2.2.2.2.2.2.1 x.2.2.2.2.2.2.2.2.length), (30, .slice oa ws.length ca), (31, .int .i64 (ws.length : Int)), (32, .int .i64 (x.1 : Int))])
        (fun x => cutsH d r rb x.2.1 x.2.2.1 x.2.2.2.1 x.2.2.2.2.1 x.2.2.2.2.2.1 x.2.2.2.2.2.2.1 x.2.2.2.2.2.2.2.1 x.2.2.2.2.2.2.2.2)
        (fun x => x.1 ≤ ws.length ∧ CutsInv k x.1 x.2.1 x.2.2.1 x.2.2.2.1 x.2.2.2.2.1 x.2.2.2.2.2.1 x.2.2.2.2.2.2.1 x.2.2.2.2.2.2.2.1 x.2.2.2.2.2.2.2.2) (fun x => ws.length - x.1) (0, #[], 0, none, [], none, [], none, [])
        ⟨by simp, ⟨MapOk.empty, fun p hp => by (cases hp), by simp, by simp, by simp, by simp, by simp, fun h => by omega⟩⟩ ⟨rfl, rfl, rfl, rfl, rfl, rfl, rfl, rfl, trivial⟩ (Sub.trans (Sub.trans (Sub.nil 29 2) (Sub.nil 9 1)) (Sub.sel [2, 3, 4, 5, 0, 1] rfl)) ?_
      exact key k hk
    · conv => whnf
      obtain ⟨k, hk, hk0⟩ : ∃ k : Nat, k ≤ ws.length ∧ k = 0 := ⟨0, by omega, rfl⟩
      refine LoopI.by_state (σ := Nat × Array MapEntry × Nat × Option (Nat × Nat) × List (Int × ByteArray) × Option (Nat × Nat) × List ByteArray × Option (Nat × Nat) × List (Int × ByteArray))
        (fun x => [(0, .slice oa ws.length ca), (5, .pointer (some ⟨d, 0, none⟩)), (6, .int .i64 (k : Int)), (7, svOf x.2.2.2.2.2.1 x.2.2.2.2.2.2.1.length), (8, svOf x.2.2.2.2.2.2.2.1 x.2.2.2.2.2.2.2.2.length), (30, .slice oa ws.length ca), (31, .int .i64 (ws.length : Int)), (32, .int .i64 (x.1 : Int))])
        (fun x => cutsH d r rb x.2.1 x.2.2.1 x.2.2.2.1 x.2.2.2.2.1 x.2.2.2.2.2.1 x.2.2.2.2.2.2.1 x.2.2.2.2.2.2.2.1 x.2.2.2.2.2.2.2.2)
        (fun x => x.1 ≤ ws.length ∧ CutsInv k x.1 x.2.1 x.2.2.1 x.2.2.2.1 x.2.2.2.2.1 x.2.2.2.2.2.1 x.2.2.2.2.2.2.1 x.2.2.2.2.2.2.2.1 x.2.2.2.2.2.2.2.2) (fun x => ws.length - x.1) (0, #[], 0, none, [], none, [], none, [])
        ⟨by simp, ⟨MapOk.empty, fun p hp => by (cases hp), by simp, by simp, by simp, by simp, by simp, fun h => by omega⟩⟩ ⟨rfl, rfl, by subst hk0; rfl, rfl, rfl, rfl, rfl, rfl, trivial⟩ (Sub.trans (Sub.trans (Sub.nil 29 2) (Sub.nil 9 1)) (Sub.sel [2, 3, 4, 5, 0, 1] rfl)) ?_
      exact key k hk
  case prove =>
    rintro k hk ⟨i, es, c, g, lg, th, im, gk, lk⟩ f0 ⟨hi, I⟩
    dsimp only at hi I ⊢
    have hle := I.hle
    have hIn := inDisk_replay I.ok inDisk_nil
    have him := imageL_le _ hIn
    conv => whnf
    refine cond_dec (fun h => ?_) (fun h => ?_)
    · have hil : i < ws.length := by omega
      obtain ⟨xa, ya, rfl, hra⟩ := hw.at (i := i) hil
      conv => whnf
      refine ⟨by omega, ?_⟩
      conv => whnf
      refine LoadV.fa (cs := [.int .i64 (ws[i]).1, .string (ws[i]).2]) (row_at hra hil) rfl ?_
      obtain ⟨p, hp⟩ : ∃ p, ws[i] = p := ⟨_, rfl⟩
      rw [hp]
      conv => whnf
      intro b
      conv => whnf
      repeat (first | (refine LoadV.s rfl rfl (forceV_of ?_); conv => whnf) | (refine LoadV.s rfl rfl ?_; conv => whnf) | (refine StoreV.c rfl rfl (Nat.le_of_ble_eq_true rfl) rfl ?_; conv => whnf) | (refine LoadV.a _ rfl (Nat.le_of_ble_eq_true rfl) ?_; conv => whnf) | (refine DrawI.quiet (by kernel_rfl) (by kernel_rfl) ?_; conv => whnf) | (refine ArI.in64 (by omega) ?_; conv => whnf) | (refine ArI.inU8 (by omega) ?_; conv => whnf) | (refine ArI.inU64 (by omega) ?_; conv => whnf) | (refine ArI.inU32 (by omega) ?_; conv => whnf) | (refine RetI.one Try.results3 rfl ?_; conv => whnf) | (refine RetI.two Try.results3 rfl rfl ?_; conv => whnf) | (refine RetI.three Try.results3 rfl rfl rfl ?_; conv => whnf) | (refine RetI.none Try.results3 ?_; conv => whnf) | (refine ⟨by first | decide | omega, ?_⟩; conv => whnf))
      refine cond_split (fun h2 => ?_) (fun h2 => ?_)
      · have hik : i = k := by have := of_decide_eq_true h2; omega
        obtain ⟨rfl, rfl, rfl⟩ := I.pre (by omega)
        conv => whnf
        refine CallS.mk Try.call9 ⟨[_, _, _, _], [_], _, Sub.sel [1, 2, 3, 4, 0] rfl, fun F' hF' => image_ok F' d r rb _ es c _ I.M hIn _ lg true (-1), ?_⟩
        rintro e A' ⟨bi, rfl, rfl⟩
        conv => whnf
        refine CallS.mk Try.call10 ⟨[_, _, _, _], [_, _], _, Sub.sel [1, 2, 3, 4, 0, 5] rfl, fun F' hF' => writes_ok F' d r rb _ _ g lg true (-1) I.hg.1 (fun h e => h (I.hg.2 e)) (by omega), ?_⟩
        rintro e A' ⟨gw, hgw, rfl, rfl⟩
        conv => whnf
        repeat (first | (refine LoadV.s rfl rfl (forceV_of ?_); conv => whnf) | (refine LoadV.s rfl rfl ?_; conv => whnf) | (refine StoreV.c rfl rfl (Nat.le_of_ble_eq_true rfl) rfl ?_; conv => whnf) | (refine LoadV.a _ rfl (Nat.le_of_ble_eq_true rfl) ?_; conv => whnf) | (refine DrawI.quiet (by kernel_rfl) (by kernel_rfl) ?_; conv => whnf) | (refine ArI.in64 (by omega) ?_; conv => whnf) | (refine ArI.inU8 (by omega) ?_; conv => whnf) | (refine ArI.inU64 (by omega) ?_; conv => whnf) | (refine ArI.inU32 (by omega) ?_; conv => whnf) | (refine RetI.one Try.results3 rfl ?_; conv => whnf) | (refine RetI.two Try.results3 rfl rfl ?_; conv => whnf) | (refine RetI.three Try.results3 rfl rfl rfl ?_; conv => whnf) | (refine RetI.none Try.results3 ?_; conv => whnf) | (refine ⟨by first | decide | omega, ?_⟩; conv => whnf))
        refine CallS.mk Try.call11 ⟨[_, _, _, _], [_, _], _, Sub.sel [1, 2, 3, 4, 0, 5] rfl, fun F' hF' => write_ok F' d r rb (.map #[] 0) es c _ I.M (svOf g lg.length) lg true (-1) p.1 p.2 (by omega) (by omega), ?_⟩
        rintro e A' ⟨rfl, hA⟩
        rcases hA with ⟨h1, rfl⟩ | ⟨h1, _, es', c', g3, cap3, M', rfl⟩
        · conv => whnf
          refine ArI.to64 ((i + 1 : Nat) : Int) (by omega) (by omega) ?_
          conv => whnf
          refine ⟨(i + 1, es, c, g, lg, some (bi, (imageL (replay [] lg)).length), imageL (replay [] lg), gw, lg), _, by dsimp only; omega, Sub.trans (Sub.sel [5, 0, 1, 2, 3, 4] rfl) (Sub.trans (sub_own4 cells_own (by simp only [maxLen]; omega)) (Sub.sel [1, 2, 3, 4, 0, 5] rfl)), ⟨by dsimp only; omega, ⟨I.M, I.ok, I.hg, by dsimp only; omega, hgw.trans I.hg, by simp, fun h => by omega, fun _ => ⟨rfl, List.prefix_refl _⟩⟩⟩, ⟨rfl, rfl, rfl, rfl, rfl, rfl, rfl, rfl, trivial⟩, rfl⟩
        · have hp3 := wcode_at h1
          conv => whnf
          refine ArI.to64 ((i + 1 : Nat) : Int) (by omega) (by omega) ?_
          conv => whnf
          refine ⟨(i + 1, es', c', some (g3, cap3), lg ++ [(p.1, p.2)], some (bi, (imageL (replay [] lg)).length), imageL (replay [] lg), gw, lg), _, by dsimp only; omega, Sub.trans (Sub.sel [5, 0, 1, 2, 3, 4] rfl) (Sub.trans (sub_own4 cells_own (by simp only [maxLen]; omega)) (Sub.sel [1, 2, 3, 4, 0, 5] rfl)), ⟨by dsimp only; omega, ⟨by dsimp only; rw [replay_push]; exact M', logOk_push I.ok hp3, by simp, by dsimp only; rw [List.length_append, List.length_singleton]; omega, hgw.trans I.hg, by simp, fun h => by omega, fun _ => ⟨rfl, List.prefix_append _ _⟩⟩⟩, ⟨rfl, rfl, rfl, rfl, rfl, rfl, rfl, rfl, trivial⟩, ?_⟩
          dsimp only
          have e1 : svOf (some (g3, cap3)) (lg ++ [(p.1, p.2)]).length = .slice (some ⟨g3, 0, none⟩) (lg.length + 1) cap3 := by simp
          rw [cutsH, e1]; rfl
      · have hik : i ≠ k := by have := of_decide_eq_false h2; omega
        conv => whnf
        repeat (first | (refine LoadV.s rfl rfl (forceV_of ?_); conv => whnf) | (refine LoadV.s rfl rfl ?_; conv => whnf) | (refine StoreV.c rfl rfl (Nat.le_of_ble_eq_true rfl) rfl ?_; conv => whnf) | (refine LoadV.a _ rfl (Nat.le_of_ble_eq_true rfl) ?_; conv => whnf) | (refine DrawI.quiet (by kernel_rfl) (by kernel_rfl) ?_; conv => whnf) | (refine ArI.in64 (by omega) ?_; conv => whnf) | (refine ArI.inU8 (by omega) ?_; conv => whnf) | (refine ArI.inU64 (by omega) ?_; conv => whnf) | (refine ArI.inU32 (by omega) ?_; conv => whnf) | (refine RetI.one Try.results3 rfl ?_; conv => whnf) | (refine RetI.two Try.results3 rfl rfl ?_; conv => whnf) | (refine RetI.three Try.results3 rfl rfl rfl ?_; conv => whnf) | (refine RetI.none Try.results3 ?_; conv => whnf) | (refine ⟨by first | decide | omega, ?_⟩; conv => whnf))
        refine CallS.mk Try.call11 ⟨[_, _, _, _], [_, _], _, Sub.sel [1, 2, 3, 4, 5, 6] rfl, fun F' hF' => write_ok F' d r rb (.map #[] 0) es c _ I.M (svOf g lg.length) lg true (-1) p.1 p.2 (by omega) (by omega), ?_⟩
        rintro e A' ⟨rfl, hA⟩
        rcases hA with ⟨h1, rfl⟩ | ⟨h1, _, es', c', g3, cap3, M', rfl⟩
        · conv => whnf
          refine ArI.to64 ((i + 1 : Nat) : Int) (by omega) (by omega) ?_
          conv => whnf
          refine ⟨(i + 1, es, c, g, lg, th, im, gk, lk), _, by dsimp only; omega, Sub.refl _, ⟨by dsimp only; omega, ⟨I.M, I.ok, I.hg, by dsimp only; omega, I.hgk, I.hth, fun h => I.pre (by omega), fun h => I.post (by omega)⟩⟩, ⟨rfl, rfl, rfl, rfl, rfl, rfl, rfl, rfl, trivial⟩, rfl⟩
        · have hp3 := wcode_at h1
          conv => whnf
          refine ArI.to64 ((i + 1 : Nat) : Int) (by omega) (by omega) ?_
          conv => whnf
          refine ⟨(i + 1, es', c', some (g3, cap3), lg ++ [(p.1, p.2)], th, im, gk, lk), _, by dsimp only; omega, Sub.refl _, ⟨by dsimp only; omega, ⟨by dsimp only; rw [replay_push]; exact M', logOk_push I.ok hp3, by simp, by dsimp only; rw [List.length_append, List.length_singleton]; omega, I.hgk, I.hth, fun h => I.pre (by omega), fun h => ⟨(I.post (by omega)).1, (I.post (by omega)).2.trans (List.prefix_append _ _)⟩⟩⟩, ⟨rfl, rfl, rfl, rfl, rfl, rfl, rfl, rfl, trivial⟩, ?_⟩
          dsimp only
          have e1 : svOf (some (g3, cap3)) (lg ++ [(p.1, p.2)]).length = .slice (some ⟨g3, 0, none⟩) (lg.length + 1) cap3 := by simp
          rw [cutsH, e1]; rfl
    · obtain rfl : i = ws.length := by omega
      conv => whnf
      refine cond_split (fun h2 => ?_) (fun h2 => ?_)
      · have hik : k = ws.length := by have := of_decide_eq_true h2; omega
        obtain ⟨rfl, rfl, rfl⟩ := I.pre (by omega)
        conv => whnf
        refine CallS.mk Try.call9 ⟨[_, _, _, _], [], _, Sub.sel [0, 1, 2, 3] rfl, fun F' hF' => image_cp F' d r rb _ es c _ I.M hIn _ lg true (-1), ?_⟩
        rintro e A' ⟨bi0, im0, him0, rfl, rfl⟩
        rw [← him0] at him
        have hown : (strs im0).length = im0.length * 1 := by simp
        have hmax : im0.length ≤ maxLen := by simp only [maxLen]; omega
        conv => whnf
        refine CallS.mk Try.call10 ⟨[_, _, _, _], [_], _, Sub.sel [1, 2, 3, 4, 0] rfl, fun F' hF' => writes_cp F' d r rb _ _ g lg true (-1) I.hg (by omega), ?_⟩
        rintro e A' ⟨gw0, lk0, hlk0, hgk, rfl, rfl⟩
        have hpost : im0 = imageL (replay [] lk0) ∧ lk0 <+: lg := by rw [hlk0]; exact ⟨him0, List.prefix_refl _⟩
        have hth : some (bi0, im0.length) = none → im0 = [] := by simp
        clear him0 hlk0
        conv => whnf
        have hpre : lk0 = lg.take lk0.length := List.prefix_iff_eq_take.1 hpost.2
        have hcutk : cutN (lk0.length : Int) lg.length = lk0.length := by have := hpost.2.length_le; unfold cutN; omega
        have hkl := hpost.2.length_le
        have hIn := inDisk_replay I.ok inDisk_nil
        have hIk : InDisk (replay [] lk0) := inDisk_replay (fun p hp => I.ok p (hpost.2.subset hp)) inDisk_nil
        have him := imageL_le _ hIk
        have him2 := imageL_le _ hIn
        have hb0 : lg.length * 24 ≤ 140737488355328 := by omega
        have hbk : lk0.length * 24 ≤ 140737488355328 := by omega
        have hb1 : (lk0.length + 1) * 24 ≤ 140737488355328 := by omega
        have hb2 : ∀ _ : Unit, (lk0.length + 1 + 1) * 24 ≤ 140737488355328 := fun _ => Nat.le_trans (Nat.mul_le_mul_right 24 (Nat.add_le_add_right (Nat.le_trans hkl hle) 2)) hlog
        have hbl : lk0.length ≤ 9223372036854775807 := by omega
        have hi2 : (imageL (replay [] lg)).length ≤ 9223372036854775807 := by omega
        have hi1 : (imageL (replay [] lk0)).length ≤ 9223372036854775807 := by omega
        rw [← hpost.1] at hi1
        have hcutc := fun (F' : Mem) (on : Bool) => cut_ok F' d r rb #[] 0 [] MapOk.empty (.map es c) g lg on (-1) (lk0.length : Int) I.hg.1 I.ok hb0
        rw [hcutk, ← hpre] at hcutc
        refine CallS.mk Try.call9 ⟨[_, _, _, _], [_, _], _, Sub.trans (Sub.sel [5, 1, 2, 3, 4, 0] rfl) (Sub.trans (sub_own4 hown hmax) (Sub.sel [1, 2, 3, 4, 0, 5] rfl)), fun F' hF' => image_ok F' d r rb _ es c _ I.M hIn _ lg true (-1), ?_⟩
        rintro e A' ⟨bw, rfl, rfl⟩
        conv => whnf
        refine CallS.mk Try.call12 ⟨[_, _, _, _], [_, _, _], _, Sub.sel [1, 2, 3, 4, 0, 5, 6] rfl, fun F' hF' => hcutc F' true, ?_⟩
        rintro e A' ⟨d2, r2, rb2, es2, c2, g2, M2, hg2, rfl, rfl⟩
        have hg2' : g2 = none ↔ lk0 = [] := hg2.trans List.length_eq_zero_iff
        conv => whnf
        refine CallS.mk Try.call13 ⟨[_], [_, _, _, _, _, _, _, _, _, _], _, Sub.sel [4, 0, 1, 2, 3, 5, 6, 7, 8, 9, 10] rfl, fun F' hF' => on_ok F' d2 _ _ _ _ _, ?_⟩
        rintro e A' ⟨rfl, rfl⟩
        conv => whnf
        refine CallS.mk Try.call9 ⟨[_, _, _, _], [_, _, _, _, _, _, _], _, Sub.sel [0, 5, 6, 7, 1, 2, 3, 4, 8, 9, 10] rfl, fun F' hF' => image_ok F' d2 r2 rb2 _ es2 c2 _ M2 hIk _ lk0 true (-1), ?_⟩
        rintro e A' ⟨bi, rfl, rfl⟩
        rw [← hpost.1] at him ⊢
        conv => whnf
        refine CallS.mk Try.call14 ⟨[], _, _, Sub.refl _, fun F' hF' => same_ok F' (some ⟨bi, 0, none⟩) (oaOf (some (bi0, im0.length))) im0.length (capOf (some (bi0, im0.length))) im0 im0 (SlF.cells hF' (by simp)) (SlF.sv hF' (T := 9) (by simp) (fun e => by rw [hth e]; rfl)) hi1, ?_⟩
        rw [show decide (im0 = im0) = true from decide_eq_true rfl]
        rintro e A' ⟨rfl, rfl⟩
        conv => whnf
        refine CallS.mk Try.call10 ⟨[_, _, _, _], [_, _, _, _, _, _, _], _, Sub.sel [1, 2, 3, 4, 5, 6, 7, 8, 9, 10, 11] rfl, fun F' hF' => writes_ok F' d2 r2 rb2 _ _ g2 lk0 true (-1) hg2'.1 (fun h e => h (hg2'.2 e)) hbk, ?_⟩
        rintro e A' ⟨gw, hgw, rfl, rfl⟩
        conv => whnf
        refine CallS.mk Try.call15 ⟨[], _, _, Sub.refl _, fun F' hF' => samew_ok F' (oaOf gw) (oaOf gw0) (capOf gw) (capOf gw0) lk0 lk0 (SlF.sv hF' (T := 29) (logCells_length _) (fun e => by rw [hg2'.1 (hgw.1 e)]; rfl)) (SlF.sv hF' (T := 29) (logCells_length _) (fun e => by rw [hgk.1 e]; rfl)) hbl, ?_⟩
        rw [show decide (lk0 = lk0) = true from decide_eq_true rfl]
        rintro e A' ⟨rfl, rfl⟩
        conv => whnf
        refine CallS.mk Try.call8 ⟨[], [_, _, _, _, _, _, _, _, _, _, _], _, Sub.sel [1, 2, 3, 4, 5, 6, 7, 8, 9, 10, 11] rfl, fun F' hF' => new_ok F', ?_⟩
        rintro e A' ⟨a, ra, rba, rfl, rfl⟩
        conv => whnf
        refine CallS.mk Try.call10 ⟨[_, _, _, _], [_, _, _, _, _, _, _, _, _, _, _], _, Sub.sel [8, 9, 10, 11, 0, 1, 2, 3, 4, 5, 6, 7, 12, 13, 14] rfl, fun F' hF' => writes_ok F' d r rb _ _ g lg true (-1) I.hg.1 (fun h e => h (I.hg.2 e)) hb0, ?_⟩
        rintro e A' ⟨gd, hgd, rfl, rfl⟩
        conv => whnf
        have hgd' : gd = none ↔ lg = [] := hgd.trans I.hg
        refine LoopI.by_state (σ := Nat × Array MapEntry × Nat × Option (Nat × Nat)) (fun x => [(5, .pointer (some ⟨d, 0, none⟩)), (7, svOf (some (bi0, im0.length)) im0.length), (8, svOf gw0 lk0.length), (11, .slice (some ⟨bw, 0, none⟩) (imageL (replay [] lg)).length (imageL (replay [] lg)).length), (12, .pointer (some ⟨d2, 0, none⟩)), (13, .pointer (some ⟨a, 0, none⟩)), (88, svOf gd lg.length), (89, .int .i64 (lg.length : Int)), (90, .int .i64 (x.1 : Int))])
          (fun x => [.cells a [.map (some ra), .map (some rba), svOf x.2.2.2 (lg.take x.1).length, .bool true, .int .i64 (-1)] 59 (0, 0), .obj ra (.map #[] 0), .obj rba (.map x.2.1 x.2.2.1), .own (svOf x.2.2.2 (lg.take x.1).length) (lg.take x.1).length 29 2 (logCells (lg.take x.1)), .own (svOf gd lg.length) lg.length 29 2 (logCells lg), .cells d [.map (some r), .map (some rb), svOf g lg.length, .bool true, .int .i64 (-1)] 59 (0, 0), .obj r (.map #[] 0), .obj rb (.map es c), .own (svOf g lg.length) lg.length 29 2 (logCells lg),
            .cells d2 [.map (some r2), .map (some rb2), svOf g2 lk0.length, .bool true, .int .i64 (-1)] 59 (0, 0), .obj r2 (.map #[] 0), .obj rb2 (.map es2 c2), .own (svOf g2 lk0.length) lk0.length 29 2 (logCells lk0), .cells bw (strs (imageL (replay [] lg))) 9 (0, 0), .own (svOf (some (bi0, im0.length)) im0.length) im0.length 9 1 (strs im0), .own (svOf gw0 lk0.length) lk0.length 29 2 (logCells lk0)])
          (fun x => x.1 ≤ lg.length ∧ MapS x.2.1 x.2.2.1 (replay [] (lg.take x.1)) ∧ (x.2.2.2 = none ↔ x.1 = 0)) (fun x => lg.length - x.1) (0, #[], 0, none) ⟨by omega, by rw [List.take_zero]; exact MapOk.empty, by simp⟩ ⟨rfl, rfl, rfl, rfl, rfl, rfl, rfl, rfl, rfl, trivial⟩ (by simp only [List.take_zero]; exact Sub.sel [5, 6, 7, 8, 0, 1, 2, 3, 4, 9, 10, 11, 12, 13, 14, 15] rfl) ?_
        rintro ⟨j, es3, c3, ga⟩ f1 ⟨hj, M3, hga⟩
        dsimp only at hj M3 hga ⊢
        conv => whnf
        refine cond_dec (fun h3 => ?_) (fun h3 => ?_)
        · have hjl : j < lg.length := by omega
          obtain ⟨gdb, gdc, rfl⟩ := gsome hgd' (by intro e; rw [e] at hjl; simp at hjl)
          conv => whnf
          refine ⟨by omega, ?_⟩
          conv => whnf
          refine LoadV.oa 2 rfl (by show 0 + j * 2 + 2 ≤ (logCells lg).length; rw [logCells_length]; omega) ?_
          have hrow' : ((logCells lg).drop (elemOff 0 (j : Int) Try.prog.types[29].size)).take 2 = [.int .i64 (lg[j]).1, .string (lg[j]).2] := by show ((logCells lg).drop (0 + j * 2)).take 2 = _; rw [Nat.zero_add]; exact logCells_row lg j hjl
          rw [hrow']
          have hent := I.ok (lg[j]) (List.getElem_mem hjl)
          have htake := take_snoc hjl
          have hlen : (lg.take j).length = j := by simp; omega
          obtain ⟨p, hp⟩ : ∃ p, lg[j] = p := ⟨_, rfl⟩
          rw [hp] at hent htake ⊢
          conv => whnf
          intro b3
          conv => whnf
          repeat (first | (refine LoadV.s rfl rfl (forceV_of ?_); conv => whnf) | (refine LoadV.s rfl rfl ?_; conv => whnf) | (refine StoreV.c rfl rfl (Nat.le_of_ble_eq_true rfl) rfl ?_; conv => whnf) | (refine LoadV.a _ rfl (Nat.le_of_ble_eq_true rfl) ?_; conv => whnf) | (refine DrawI.quiet (by kernel_rfl) (by kernel_rfl) ?_; conv => whnf) | (refine ArI.in64 (by omega) ?_; conv => whnf) | (refine ArI.inU8 (by omega) ?_; conv => whnf) | (refine ArI.inU64 (by omega) ?_; conv => whnf) | (refine ArI.inU32 (by omega) ?_; conv => whnf) | (refine RetI.one Try.results3 rfl ?_; conv => whnf) | (refine RetI.two Try.results3 rfl rfl ?_; conv => whnf) | (refine RetI.three Try.results3 rfl rfl rfl ?_; conv => whnf) | (refine RetI.none Try.results3 ?_; conv => whnf) | (refine ⟨by first | decide | omega, ?_⟩; conv => whnf))
          refine CallS.mk Try.call11 ⟨[_, _, _, _], [_, _, _, _, _, _, _, _, _, _, _, _], _, Sub.sel [1, 2, 3, 4, 5, 6, 7, 8, 9, 10, 11, 12, 13, 14, 15, 16] rfl, fun F' hF' => write_ok F' a ra rba (.map #[] 0) es3 c3 _ M3 (svOf ga (lg.take j).length) (lg.take j) true (-1) p.1 p.2 (by rw [hlen]; omega) (by omega), ?_⟩
          rintro e A' ⟨rfl, hA⟩
          rcases hA with ⟨h1, _⟩ | ⟨_, _, es4, c4, g4, cap4, M4, rfl⟩
          · exact absurd (wcode_ok hent) h1
          rw [wcode_ok hent]
          conv => whnf
          refine ArI.to64 ((j + 1 : Nat) : Int) (by omega) (by omega) ?_
          conv => whnf
          refine ⟨(j + 1, es4, c4, some (g4, cap4)), _, by dsimp only; omega, Sub.refl _, ⟨by dsimp only; omega, by dsimp only; rw [htake, replay_push]; exact M4, by simp⟩, ⟨rfl, rfl, rfl, rfl, rfl, rfl, rfl, rfl, rfl, trivial⟩, ?_⟩
          dsimp only
          have e1 : svOf (some (g4, cap4)) (lg.take j ++ [p]).length = .slice (some ⟨g4, 0, none⟩) ((lg.take j).length + 1) cap4 := by simp
          rw [htake, e1]; rfl
        · obtain rfl : j = lg.length := by omega
          rw [List.take_length] at M3 ⊢
          conv => whnf
          refine CallS.mk Try.call9 ⟨[_, _, _, _], [_, _, _, _, _, _, _, _, _, _, _, _], _, Sub.sel [0, 1, 2, 3, 4, 5, 6, 7, 8, 9, 10, 11, 12, 13, 14, 15] rfl, fun F' hF' => image_ok F' a ra rba _ es3 c3 _ M3 hIn _ lg true (-1), ?_⟩
          rintro e A' ⟨ba, rfl, rfl⟩
          conv => whnf
          refine CallS.mk Try.call14 ⟨[], _, _, Sub.refl _, fun F' hF' => same_ok F' (some ⟨ba, 0, none⟩) (some ⟨bw, 0, none⟩) _ _ (imageL (replay [] lg)) (imageL (replay [] lg)) (SlF.cells hF' (by simp)) (SlF.cells hF' (by simp)) hi2, ?_⟩
          rw [show decide (imageL (replay [] lg) = imageL (replay [] lg)) = true from decide_eq_true rfl]
          rintro e A' ⟨rfl, rfl⟩
          conv => whnf
          obtain ⟨x1, hx1, hx1s⟩ : ∃ x : ByteArray, x = ⟨#[111, 116, 104, 101, 114]⟩ ∧ x.size ≤ 32 := ⟨_, rfl, by decide⟩
          rw [← hx1]
          refine CallS.mk Try.call11 ⟨[_, _, _, _], [_, _, _, _, _, _, _], _, Sub.sel [10, 11, 12, 13, 6, 7, 8, 9, 14, 15, 16] rfl, fun F' hF' => go_ok F' d2 r2 rb2 (.map #[] 0) es2 c2 _ M2 g2 lk0 7 x1 hb1 ⟨by decide, by decide, hx1s⟩, ?_⟩
          rintro e A' ⟨rfl, es5, c5, g5, M5, -, rfl⟩
          conv => whnf
          obtain ⟨x2, hx2, hx2s⟩ : ∃ x : ByteArray, x = ⟨#[]⟩ ∧ x.size ≤ 32 := ⟨_, rfl, by decide⟩
          rw [← hx2]
          have hl2 : ∀ _ : Unit, ((lk0 ++ [((7 : Int), x1)]).length + 1) * 24 ≤ 140737488355328 := fun _ => by rw [List.length_append, List.length_singleton]; exact hb2 ()
          have hr2 : (0 : Int) ≤ 1 ∧ (1 : Int) < 2048 ∧ x2.size ≤ 32 := ⟨by decide, by decide, hx2s⟩
          refine CallS.mk Try.call11 ⟨[_, _, _, _], [_, _, _, _, _, _, _], _, Sub.sel [0, 1, 2, 3, 4, 5, 6, 7, 8, 9, 10] rfl, fun F' hF' => go_ok F' d2 r2 rb2 (.map #[] 0) es5 c5 _ M5 g5 (lk0 ++ [((7 : Int), x1)]) 1 x2 (hl2 ()) hr2, ?_⟩
          rintro e A' ⟨rfl, es6, c6, g6, M6, -, rfl⟩
          conv => whnf
          refine CallS.mk Try.call9 ⟨[_, _, _, _], [_, _, _, _, _, _, _], _, Sub.sel [4, 5, 6, 7, 0, 1, 2, 3, 8, 9, 10] rfl, fun F' hF' => image_ok F' d r rb _ es c _ I.M hIn _ lg true (-1), ?_⟩
          rintro e A' ⟨bj, rfl, rfl⟩
          conv => whnf
          refine CallS.mk Try.call14 ⟨[], _, _, Sub.refl _, fun F' hF' => same_ok F' (some ⟨bj, 0, none⟩) (some ⟨bw, 0, none⟩) _ _ (imageL (replay [] lg)) (imageL (replay [] lg)) (SlF.cells hF' (by simp)) (SlF.cells hF' (by simp)) hi2, ?_⟩
          rw [show decide (imageL (replay [] lg) = imageL (replay [] lg)) = true from decide_eq_true rfl]
          rintro e A' ⟨rfl, rfl⟩
          conv => whnf
          refine CallS.mk Try.call16 ⟨[_], [_, _, _, _, _, _, _, _, _, _], _, Sub.sel [1, 2, 3, 4, 5, 6, 7, 8, 9, 10, 11] rfl, fun F' hF' => off_ok F' d _ _ _ _ _, ?_⟩
          rintro e A' ⟨rfl, rfl⟩
          conv => whnf
          refine CallS.mk Try.call13 ⟨[_], [_, _, _, _, _, _, _, _, _, _], _, Sub.sel [4, 0, 1, 2, 3, 5, 6, 7, 8, 9, 10] rfl, fun F' hF' => on_ok F' d2 _ _ _ _ _, ?_⟩
          rintro e A' ⟨rfl, rfl⟩
          conv => whnf
          refine CallS.mk Try.call13 ⟨[_], [_, _, _, _, _], _, Sub.sel [1, 2, 3, 4, 9, 10] rfl, fun F' hF' => on_ok F' d _ _ _ _ _, ?_⟩
          rintro e A' ⟨rfl, rfl⟩
          conv => whnf
          refine CallS.mk Try.call12 ⟨[_, _, _, _], [_, _], _, Sub.sel [0, 1, 2, 3, 4, 5] rfl, fun F' hF' => hcutc F' false, ?_⟩
          rintro e A' ⟨d3, r3, rb3, es7, c7, g7, M7, hg7, rfl, rfl⟩
          conv => whnf
          refine CallS.mk Try.call9 ⟨[_, _, _, _], [_, _], _, Sub.sel [4, 5, 6, 7, 8, 9] rfl, fun F' hF' => image_ok F' d3 r3 rb3 _ es7 c7 _ M7 hIk _ lk0 true (-1), ?_⟩
          rintro e A' ⟨bz, rfl, rfl⟩
          rw [← hpost.1]
          conv => whnf
          refine CallS.mk Try.call14 ⟨[], _, _, Sub.refl _, fun F' hF' => same_ok F' (some ⟨bz, 0, none⟩) (oaOf (some (bi0, im0.length))) im0.length (capOf (some (bi0, im0.length))) im0 im0 (SlF.cells hF' (by simp)) (SlF.sv hF' (T := 9) (by simp) (fun e => by rw [hth e]; rfl)) hi1, ?_⟩
          rw [show decide (im0 = im0) = true from decide_eq_true rfl]
          rintro e A' ⟨rfl, rfl⟩
          conv => whnf
          repeat (first | (refine LoadV.s rfl rfl (forceV_of ?_); conv => whnf) | (refine LoadV.s rfl rfl ?_; conv => whnf) | (refine StoreV.c rfl rfl (Nat.le_of_ble_eq_true rfl) rfl ?_; conv => whnf) | (refine LoadV.a _ rfl (Nat.le_of_ble_eq_true rfl) ?_; conv => whnf) | (refine DrawI.quiet (by kernel_rfl) (by kernel_rfl) ?_; conv => whnf) | (refine ArI.in64 (by omega) ?_; conv => whnf) | (refine ArI.inU8 (by omega) ?_; conv => whnf) | (refine ArI.inU64 (by omega) ?_; conv => whnf) | (refine ArI.inU32 (by omega) ?_; conv => whnf) | (refine RetI.one Try.results3 rfl ?_; conv => whnf) | (refine RetI.two Try.results3 rfl rfl ?_; conv => whnf) | (refine RetI.three Try.results3 rfl rfl rfl ?_; conv => whnf) | (refine RetI.none Try.results3 ?_; conv => whnf) | (refine ⟨by first | decide | omega, ?_⟩; conv => whnf))
          exact ⟨_, Sub.sel [] rfl, rfl, rfl⟩
      · have hik : k ≠ ws.length := by have := of_decide_eq_false h2; omega
        have hpost := I.post (by omega)
        have hth := I.hth
        have hgk := I.hgk
        conv => whnf
        have hpre : lk = lg.take lk.length := List.prefix_iff_eq_take.1 hpost.2
        have hcutk : cutN (lk.length : Int) lg.length = lk.length := by have := hpost.2.length_le; unfold cutN; omega
        have hkl := hpost.2.length_le
        have hIn := inDisk_replay I.ok inDisk_nil
        have hIk : InDisk (replay [] lk) := inDisk_replay (fun p hp => I.ok p (hpost.2.subset hp)) inDisk_nil
        have him := imageL_le _ hIk
        have him2 := imageL_le _ hIn
        have hb0 : lg.length * 24 ≤ 140737488355328 := by omega
        have hbk : lk.length * 24 ≤ 140737488355328 := by omega
        have hb1 : (lk.length + 1) * 24 ≤ 140737488355328 := by omega
        have hb2 : ∀ _ : Unit, (lk.length + 1 + 1) * 24 ≤ 140737488355328 := fun _ => Nat.le_trans (Nat.mul_le_mul_right 24 (Nat.add_le_add_right (Nat.le_trans hkl hle) 2)) hlog
        have hbl : lk.length ≤ 9223372036854775807 := by omega
        have hi2 : (imageL (replay [] lg)).length ≤ 9223372036854775807 := by omega
        have hi1 : (imageL (replay [] lk)).length ≤ 9223372036854775807 := by omega
        rw [← hpost.1] at hi1
        have hcutc := fun (F' : Mem) (on : Bool) => cut_ok F' d r rb #[] 0 [] MapOk.empty (.map es c) g lg on (-1) (lk.length : Int) I.hg.1 I.ok hb0
        rw [hcutk, ← hpre] at hcutc
        refine CallS.mk Try.call9 ⟨[_, _, _, _], [_, _], _, Sub.refl _, fun F' hF' => image_ok F' d r rb _ es c _ I.M hIn _ lg true (-1), ?_⟩
        rintro e A' ⟨bw, rfl, rfl⟩
        conv => whnf
        refine CallS.mk Try.call12 ⟨[_, _, _, _], [_, _, _], _, Sub.sel [1, 2, 3, 4, 0, 5, 6] rfl, fun F' hF' => hcutc F' true, ?_⟩
        rintro e A' ⟨d2, r2, rb2, es2, c2, g2, M2, hg2, rfl, rfl⟩
        have hg2' : g2 = none ↔ lk = [] := hg2.trans List.length_eq_zero_iff
        conv => whnf
        refine CallS.mk Try.call13 ⟨[_], [_, _, _, _, _, _, _, _, _, _], _, Sub.sel [4, 0, 1, 2, 3, 5, 6, 7, 8, 9, 10] rfl, fun F' hF' => on_ok F' d2 _ _ _ _ _, ?_⟩
        rintro e A' ⟨rfl, rfl⟩
        conv => whnf
        refine CallS.mk Try.call9 ⟨[_, _, _, _], [_, _, _, _, _, _, _], _, Sub.sel [0, 5, 6, 7, 1, 2, 3, 4, 8, 9, 10] rfl, fun F' hF' => image_ok F' d2 r2 rb2 _ es2 c2 _ M2 hIk _ lk true (-1), ?_⟩
        rintro e A' ⟨bi, rfl, rfl⟩
        rw [← hpost.1] at him ⊢
        conv => whnf
        refine CallS.mk Try.call14 ⟨[], _, _, Sub.refl _, fun F' hF' => same_ok F' (some ⟨bi, 0, none⟩) (oaOf th) im.length (capOf th) im im (SlF.cells hF' (by simp)) (SlF.sv hF' (T := 9) (by simp) (fun e => by rw [hth e]; rfl)) hi1, ?_⟩
        rw [show decide (im = im) = true from decide_eq_true rfl]
        rintro e A' ⟨rfl, rfl⟩
        conv => whnf
        refine CallS.mk Try.call10 ⟨[_, _, _, _], [_, _, _, _, _, _, _], _, Sub.sel [1, 2, 3, 4, 5, 6, 7, 8, 9, 10, 11] rfl, fun F' hF' => writes_ok F' d2 r2 rb2 _ _ g2 lk true (-1) hg2'.1 (fun h e => h (hg2'.2 e)) hbk, ?_⟩
        rintro e A' ⟨gw, hgw, rfl, rfl⟩
        conv => whnf
        refine CallS.mk Try.call15 ⟨[], _, _, Sub.refl _, fun F' hF' => samew_ok F' (oaOf gw) (oaOf gk) (capOf gw) (capOf gk) lk lk (SlF.sv hF' (T := 29) (logCells_length _) (fun e => by rw [hg2'.1 (hgw.1 e)]; rfl)) (SlF.sv hF' (T := 29) (logCells_length _) (fun e => by rw [hgk.1 e]; rfl)) hbl, ?_⟩
        rw [show decide (lk = lk) = true from decide_eq_true rfl]
        rintro e A' ⟨rfl, rfl⟩
        conv => whnf
        refine CallS.mk Try.call8 ⟨[], [_, _, _, _, _, _, _, _, _, _, _], _, Sub.sel [1, 2, 3, 4, 5, 6, 7, 8, 9, 10, 11] rfl, fun F' hF' => new_ok F', ?_⟩
        rintro e A' ⟨a, ra, rba, rfl, rfl⟩
        conv => whnf
        refine CallS.mk Try.call10 ⟨[_, _, _, _], [_, _, _, _, _, _, _, _, _, _, _], _, Sub.sel [8, 9, 10, 11, 0, 1, 2, 3, 4, 5, 6, 7, 12, 13, 14] rfl, fun F' hF' => writes_ok F' d r rb _ _ g lg true (-1) I.hg.1 (fun h e => h (I.hg.2 e)) hb0, ?_⟩
        rintro e A' ⟨gd, hgd, rfl, rfl⟩
        conv => whnf
        have hgd' : gd = none ↔ lg = [] := hgd.trans I.hg
        refine LoopI.by_state (σ := Nat × Array MapEntry × Nat × Option (Nat × Nat)) (fun x => [(5, .pointer (some ⟨d, 0, none⟩)), (7, svOf th im.length), (8, svOf gk lk.length), (11, .slice (some ⟨bw, 0, none⟩) (imageL (replay [] lg)).length (imageL (replay [] lg)).length), (12, .pointer (some ⟨d2, 0, none⟩)), (13, .pointer (some ⟨a, 0, none⟩)), (88, svOf gd lg.length), (89, .int .i64 (lg.length : Int)), (90, .int .i64 (x.1 : Int))])
          (fun x => [.cells a [.map (some ra), .map (some rba), svOf x.2.2.2 (lg.take x.1).length, .bool true, .int .i64 (-1)] 59 (0, 0), .obj ra (.map #[] 0), .obj rba (.map x.2.1 x.2.2.1), .own (svOf x.2.2.2 (lg.take x.1).length) (lg.take x.1).length 29 2 (logCells (lg.take x.1)), .own (svOf gd lg.length) lg.length 29 2 (logCells lg), .cells d [.map (some r), .map (some rb), svOf g lg.length, .bool true, .int .i64 (-1)] 59 (0, 0), .obj r (.map #[] 0), .obj rb (.map es c), .own (svOf g lg.length) lg.length 29 2 (logCells lg),
            .cells d2 [.map (some r2), .map (some rb2), svOf g2 lk.length, .bool true, .int .i64 (-1)] 59 (0, 0), .obj r2 (.map #[] 0), .obj rb2 (.map es2 c2), .own (svOf g2 lk.length) lk.length 29 2 (logCells lk), .cells bw (strs (imageL (replay [] lg))) 9 (0, 0), .own (svOf th im.length) im.length 9 1 (strs im), .own (svOf gk lk.length) lk.length 29 2 (logCells lk)])
          (fun x => x.1 ≤ lg.length ∧ MapS x.2.1 x.2.2.1 (replay [] (lg.take x.1)) ∧ (x.2.2.2 = none ↔ x.1 = 0)) (fun x => lg.length - x.1) (0, #[], 0, none) ⟨by omega, by rw [List.take_zero]; exact MapOk.empty, by simp⟩ ⟨rfl, rfl, rfl, rfl, rfl, rfl, rfl, rfl, rfl, trivial⟩ (by simp only [List.take_zero]; exact Sub.sel [5, 6, 7, 8, 0, 1, 2, 3, 4, 9, 10, 11, 12, 13, 14, 15] rfl) ?_
        rintro ⟨j, es3, c3, ga⟩ f1 ⟨hj, M3, hga⟩
        dsimp only at hj M3 hga ⊢
        conv => whnf
        refine cond_dec (fun h3 => ?_) (fun h3 => ?_)
        · have hjl : j < lg.length := by omega
          obtain ⟨gdb, gdc, rfl⟩ := gsome hgd' (by intro e; rw [e] at hjl; simp at hjl)
          conv => whnf
          refine ⟨by omega, ?_⟩
          conv => whnf
          refine LoadV.oa 2 rfl (by show 0 + j * 2 + 2 ≤ (logCells lg).length; rw [logCells_length]; omega) ?_
          have hrow' : ((logCells lg).drop (elemOff 0 (j : Int) Try.prog.types[29].size)).take 2 = [.int .i64 (lg[j]).1, .string (lg[j]).2] := by show ((logCells lg).drop (0 + j * 2)).take 2 = _; rw [Nat.zero_add]; exact logCells_row lg j hjl
          rw [hrow']
          have hent := I.ok (lg[j]) (List.getElem_mem hjl)
          have htake := take_snoc hjl
          have hlen : (lg.take j).length = j := by simp; omega
          obtain ⟨p, hp⟩ : ∃ p, lg[j] = p := ⟨_, rfl⟩
          rw [hp] at hent htake ⊢
          conv => whnf
          intro b3
          conv => whnf
          repeat (first | (refine LoadV.s rfl rfl (forceV_of ?_); conv => whnf) | (refine LoadV.s rfl rfl ?_; conv => whnf) | (refine StoreV.c rfl rfl (Nat.le_of_ble_eq_true rfl) rfl ?_; conv => whnf) | (refine LoadV.a _ rfl (Nat.le_of_ble_eq_true rfl) ?_; conv => whnf) | (refine DrawI.quiet (by kernel_rfl) (by kernel_rfl) ?_; conv => whnf) | (refine ArI.in64 (by omega) ?_; conv => whnf) | (refine ArI.inU8 (by omega) ?_; conv => whnf) | (refine ArI.inU64 (by omega) ?_; conv => whnf) | (refine ArI.inU32 (by omega) ?_; conv => whnf) | (refine RetI.one Try.results3 rfl ?_; conv => whnf) | (refine RetI.two Try.results3 rfl rfl ?_; conv => whnf) | (refine RetI.three Try.results3 rfl rfl rfl ?_; conv => whnf) | (refine RetI.none Try.results3 ?_; conv => whnf) | (refine ⟨by first | decide | omega, ?_⟩; conv => whnf))
          refine CallS.mk Try.call11 ⟨[_, _, _, _], [_, _, _, _, _, _, _, _, _, _, _, _], _, Sub.sel [1, 2, 3, 4, 5, 6, 7, 8, 9, 10, 11, 12, 13, 14, 15, 16] rfl, fun F' hF' => write_ok F' a ra rba (.map #[] 0) es3 c3 _ M3 (svOf ga (lg.take j).length) (lg.take j) true (-1) p.1 p.2 (by rw [hlen]; omega) (by omega), ?_⟩
          rintro e A' ⟨rfl, hA⟩
          rcases hA with ⟨h1, _⟩ | ⟨_, _, es4, c4, g4, cap4, M4, rfl⟩
          · exact absurd (wcode_ok hent) h1
          rw [wcode_ok hent]
          conv => whnf
          refine ArI.to64 ((j + 1 : Nat) : Int) (by omega) (by omega) ?_
          conv => whnf
          refine ⟨(j + 1, es4, c4, some (g4, cap4)), _, by dsimp only; omega, Sub.refl _, ⟨by dsimp only; omega, by dsimp only; rw [htake, replay_push]; exact M4, by simp⟩, ⟨rfl, rfl, rfl, rfl, rfl, rfl, rfl, rfl, rfl, trivial⟩, ?_⟩
          dsimp only
          have e1 : svOf (some (g4, cap4)) (lg.take j ++ [p]).length = .slice (some ⟨g4, 0, none⟩) ((lg.take j).length + 1) cap4 := by simp
          rw [htake, e1]; rfl
        · obtain rfl : j = lg.length := by omega
          rw [List.take_length] at M3 ⊢
          conv => whnf
          refine CallS.mk Try.call9 ⟨[_, _, _, _], [_, _, _, _, _, _, _, _, _, _, _, _], _, Sub.sel [0, 1, 2, 3, 4, 5, 6, 7, 8, 9, 10, 11, 12, 13, 14, 15] rfl, fun F' hF' => image_ok F' a ra rba _ es3 c3 _ M3 hIn _ lg true (-1), ?_⟩
          rintro e A' ⟨ba, rfl, rfl⟩
          conv => whnf
          refine CallS.mk Try.call14 ⟨[], _, _, Sub.refl _, fun F' hF' => same_ok F' (some ⟨ba, 0, none⟩) (some ⟨bw, 0, none⟩) _ _ (imageL (replay [] lg)) (imageL (replay [] lg)) (SlF.cells hF' (by simp)) (SlF.cells hF' (by simp)) hi2, ?_⟩
          rw [show decide (imageL (replay [] lg) = imageL (replay [] lg)) = true from decide_eq_true rfl]
          rintro e A' ⟨rfl, rfl⟩
          conv => whnf
          obtain ⟨x1, hx1, hx1s⟩ : ∃ x : ByteArray, x = ⟨#[111, 116, 104, 101, 114]⟩ ∧ x.size ≤ 32 := ⟨_, rfl, by decide⟩
          rw [← hx1]
          refine CallS.mk Try.call11 ⟨[_, _, _, _], [_, _, _, _, _, _, _], _, Sub.sel [10, 11, 12, 13, 6, 7, 8, 9, 14, 15, 16] rfl, fun F' hF' => go_ok F' d2 r2 rb2 (.map #[] 0) es2 c2 _ M2 g2 lk 7 x1 hb1 ⟨by decide, by decide, hx1s⟩, ?_⟩
          rintro e A' ⟨rfl, es5, c5, g5, M5, -, rfl⟩
          conv => whnf
          obtain ⟨x2, hx2, hx2s⟩ : ∃ x : ByteArray, x = ⟨#[]⟩ ∧ x.size ≤ 32 := ⟨_, rfl, by decide⟩
          rw [← hx2]
          have hl2 : ∀ _ : Unit, ((lk ++ [((7 : Int), x1)]).length + 1) * 24 ≤ 140737488355328 := fun _ => by rw [List.length_append, List.length_singleton]; exact hb2 ()
          have hr2 : (0 : Int) ≤ 1 ∧ (1 : Int) < 2048 ∧ x2.size ≤ 32 := ⟨by decide, by decide, hx2s⟩
          refine CallS.mk Try.call11 ⟨[_, _, _, _], [_, _, _, _, _, _, _], _, Sub.sel [0, 1, 2, 3, 4, 5, 6, 7, 8, 9, 10] rfl, fun F' hF' => go_ok F' d2 r2 rb2 (.map #[] 0) es5 c5 _ M5 g5 (lk ++ [((7 : Int), x1)]) 1 x2 (hl2 ()) hr2, ?_⟩
          rintro e A' ⟨rfl, es6, c6, g6, M6, -, rfl⟩
          conv => whnf
          refine CallS.mk Try.call9 ⟨[_, _, _, _], [_, _, _, _, _, _, _], _, Sub.sel [4, 5, 6, 7, 0, 1, 2, 3, 8, 9, 10] rfl, fun F' hF' => image_ok F' d r rb _ es c _ I.M hIn _ lg true (-1), ?_⟩
          rintro e A' ⟨bj, rfl, rfl⟩
          conv => whnf
          refine CallS.mk Try.call14 ⟨[], _, _, Sub.refl _, fun F' hF' => same_ok F' (some ⟨bj, 0, none⟩) (some ⟨bw, 0, none⟩) _ _ (imageL (replay [] lg)) (imageL (replay [] lg)) (SlF.cells hF' (by simp)) (SlF.cells hF' (by simp)) hi2, ?_⟩
          rw [show decide (imageL (replay [] lg) = imageL (replay [] lg)) = true from decide_eq_true rfl]
          rintro e A' ⟨rfl, rfl⟩
          conv => whnf
          refine CallS.mk Try.call16 ⟨[_], [_, _, _, _, _, _, _, _, _, _], _, Sub.sel [1, 2, 3, 4, 5, 6, 7, 8, 9, 10, 11] rfl, fun F' hF' => off_ok F' d _ _ _ _ _, ?_⟩
          rintro e A' ⟨rfl, rfl⟩
          conv => whnf
          refine CallS.mk Try.call13 ⟨[_], [_, _, _, _, _, _, _, _, _, _], _, Sub.sel [4, 0, 1, 2, 3, 5, 6, 7, 8, 9, 10] rfl, fun F' hF' => on_ok F' d2 _ _ _ _ _, ?_⟩
          rintro e A' ⟨rfl, rfl⟩
          conv => whnf
          refine CallS.mk Try.call13 ⟨[_], [_, _, _, _, _], _, Sub.sel [1, 2, 3, 4, 9, 10] rfl, fun F' hF' => on_ok F' d _ _ _ _ _, ?_⟩
          rintro e A' ⟨rfl, rfl⟩
          conv => whnf
          refine CallS.mk Try.call12 ⟨[_, _, _, _], [_, _], _, Sub.sel [0, 1, 2, 3, 4, 5] rfl, fun F' hF' => hcutc F' false, ?_⟩
          rintro e A' ⟨d3, r3, rb3, es7, c7, g7, M7, hg7, rfl, rfl⟩
          conv => whnf
          refine CallS.mk Try.call9 ⟨[_, _, _, _], [_, _], _, Sub.sel [4, 5, 6, 7, 8, 9] rfl, fun F' hF' => image_ok F' d3 r3 rb3 _ es7 c7 _ M7 hIk _ lk true (-1), ?_⟩
          rintro e A' ⟨bz, rfl, rfl⟩
          rw [← hpost.1]
          conv => whnf
          refine CallS.mk Try.call14 ⟨[], _, _, Sub.refl _, fun F' hF' => same_ok F' (some ⟨bz, 0, none⟩) (oaOf th) im.length (capOf th) im im (SlF.cells hF' (by simp)) (SlF.sv hF' (T := 9) (by simp) (fun e => by rw [hth e]; rfl)) hi1, ?_⟩
          rw [show decide (im = im) = true from decide_eq_true rfl]
          rintro e A' ⟨rfl, rfl⟩
          conv => whnf
          repeat (first | (refine LoadV.s rfl rfl (forceV_of ?_); conv => whnf) | (refine LoadV.s rfl rfl ?_; conv => whnf) | (refine StoreV.c rfl rfl (Nat.le_of_ble_eq_true rfl) rfl ?_; conv => whnf) | (refine LoadV.a _ rfl (Nat.le_of_ble_eq_true rfl) ?_; conv => whnf) | (refine DrawI.quiet (by kernel_rfl) (by kernel_rfl) ?_; conv => whnf) | (refine ArI.in64 (by omega) ?_; conv => whnf) | (refine ArI.inU8 (by omega) ?_; conv => whnf) | (refine ArI.inU64 (by omega) ?_; conv => whnf) | (refine ArI.inU32 (by omega) ?_; conv => whnf) | (refine RetI.one Try.results3 rfl ?_; conv => whnf) | (refine RetI.two Try.results3 rfl rfl ?_; conv => whnf) | (refine RetI.three Try.results3 rfl rfl rfl ?_; conv => whnf) | (refine RetI.none Try.results3 ?_; conv => whnf) | (refine ⟨by first | decide | omega, ?_⟩; conv => whnf))
          exact ⟨_, Sub.sel [] rfl, rfl, rfl⟩
end Go.Proofs.Ytjjkpkacembhpaa
