/- The bits, by the reference: packing, unpacking; the fixed answers. -/
import Derived.Test.YtlbdnkkaacccoaaBits5
namespace Go.Proofs.Ytlbdnkkaacccoaa
set_option linter.unusedVariables false
set_option linter.unusedSimpArgs false
set_option maxRecDepth 100000
open SL Go.RowKit Go.Maps

theorem rPack_ok (F : Mem) (oa : Option Addr) (ca : Nat) (fs : List (Nat × Int)) (hw : SlF F 2 oa fs.length (fs.flatMap fldF)) (hu : U64s fs) (hn : fs.length ≤ 549755813887) :
    FT Try.prog 46 [.slice oa fs.length ca].toArray F [] (Ret (.tuple #[.string (packR fs).1, .int .i64 (packR fs).2])) := by
  refine FT.of_body Try.func46 rfl Try.ntmps46 (by simp) fun C hC => ?_
  subst hC
  conv => whnf
  refine LoopI.by_state (σ := Nat × Option (Nat × Nat)) (fun x => [(4, svOf x.2 (fieldsBits (fs.take x.1)).length), (7, .slice oa fs.length ca), (8, .int .i64 (fs.length : Int)), (9, .int .i64 (x.1 : Int))]) (fun x => [bitO x.2 (fieldsBits (fs.take x.1))])
    (fun x => x.1 ≤ fs.length ∧ allFit (fs.take x.1) = true ∧ (x.2 = none ↔ fieldsBits (fs.take x.1) = [])) (fun x => fs.length - x.1) (0, none) ⟨by omega, rfl, by simp [fieldsBits]⟩ ⟨by rw [List.take_zero]; rfl, rfl, rfl, rfl, trivial⟩ (by simp only [List.take_zero]; exact Sub.nil 5 1) ?_
  rintro ⟨i, g⟩ f0 ⟨hi, hfit, hg⟩
  dsimp only at hi hfit hg ⊢
  conv => whnf
  refine cond_dec (fun h => ?_) (fun h => ?_)
  · have hil : i < fs.length := by omega
    obtain ⟨xa, ya, rfl, hra⟩ := hw.at (i := i) hil
    conv => whnf
    refine ⟨by omega, ?_⟩
    conv => whnf
    refine LoadV.fa (cs := fldF fs[i]) (flat_row fldF_length hra hil rfl) rfl ?_
    have hp64 := hu _ (List.getElem_mem hil)
    have hbad := allFit_false hil
    have htk := take_snoc hil
    have hbl := fieldsBits_length hfit
    rw [List.length_take] at hbl
    obtain ⟨p, hp⟩ : ∃ p, fs[i] = p := ⟨_, rfl⟩
    rw [hp] at hp64 hbad htk ⊢
    conv => whnf
    intro b
    conv => whnf
    repeat (first | (refine LoadV.s rfl rfl (forceV_of ?_); conv => whnf) | (refine LoadV.s rfl rfl ?_; conv => whnf) | (refine StoreV.c rfl rfl (Nat.le_of_ble_eq_true rfl) rfl ?_; conv => whnf) | (refine LoadV.a _ rfl (Nat.le_of_ble_eq_true rfl) ?_; conv => whnf) | (refine DrawI.quiet (by kernel_rfl) (by kernel_rfl) ?_; conv => whnf) | (refine ArI.in64 (by omega) ?_; conv => whnf) | (refine ArI.inU8 (by omega) ?_; conv => whnf) | (refine ArI.inU64 (by omega) ?_; conv => whnf) | (refine ArI.inU32 (by omega) ?_; conv => whnf) | (refine RetI.one Try.results46 rfl ?_; conv => whnf) | (refine RetI.two Try.results46 rfl rfl ?_; conv => whnf) | (refine RetI.three Try.results46 rfl rfl rfl ?_; conv => whnf) | (refine RetI.none Try.results46 ?_; conv => whnf) | (refine ⟨by first | decide | omega, ?_⟩; conv => whnf))
    refine CallS.mk Try.call63 ⟨[], _, _, Sub.refl _, fun F' hF' => rRight_ok F' p.1 p.2 hp64, ?_⟩
    rintro e A' ⟨rfl, rfl⟩
    cases hf : fitsB p.1 p.2 with
    | false =>
      conv => whnf
      repeat (first | (refine LoadV.s rfl rfl (forceV_of ?_); conv => whnf) | (refine LoadV.s rfl rfl ?_; conv => whnf) | (refine StoreV.c rfl rfl (Nat.le_of_ble_eq_true rfl) rfl ?_; conv => whnf) | (refine LoadV.a _ rfl (Nat.le_of_ble_eq_true rfl) ?_; conv => whnf) | (refine DrawI.quiet (by kernel_rfl) (by kernel_rfl) ?_; conv => whnf) | (refine ArI.in64 (by omega) ?_; conv => whnf) | (refine ArI.inU8 (by omega) ?_; conv => whnf) | (refine ArI.inU64 (by omega) ?_; conv => whnf) | (refine ArI.inU32 (by omega) ?_; conv => whnf) | (refine RetI.one Try.results46 rfl ?_; conv => whnf) | (refine RetI.two Try.results46 rfl rfl ?_; conv => whnf) | (refine RetI.three Try.results46 rfl rfl rfl ?_; conv => whnf) | (refine RetI.none Try.results46 ?_; conv => whnf) | (refine ⟨by first | decide | omega, ?_⟩; conv => whnf))
      exact ⟨_, Sub.sel [] rfl, by unfold packR; rw [if_neg (by rw [hbad hf]; simp)], rfl⟩
    | true =>
      have hw := fitsB_width hf
      obtain ⟨W, hW⟩ := Int.eq_ofNat_of_zero_le (show 0 ≤ p.2 by omega)
      conv => whnf
      repeat (first | (refine LoadV.s rfl rfl (forceV_of ?_); conv => whnf) | (refine LoadV.s rfl rfl ?_; conv => whnf) | (refine StoreV.c rfl rfl (Nat.le_of_ble_eq_true rfl) rfl ?_; conv => whnf) | (refine LoadV.a _ rfl (Nat.le_of_ble_eq_true rfl) ?_; conv => whnf) | (refine DrawI.quiet (by kernel_rfl) (by kernel_rfl) ?_; conv => whnf) | (refine ArI.in64 (by omega) ?_; conv => whnf) | (refine ArI.inU8 (by omega) ?_; conv => whnf) | (refine ArI.inU64 (by omega) ?_; conv => whnf) | (refine ArI.inU32 (by omega) ?_; conv => whnf) | (refine RetI.one Try.results46 rfl ?_; conv => whnf) | (refine RetI.two Try.results46 rfl rfl ?_; conv => whnf) | (refine RetI.three Try.results46 rfl rfl rfl ?_; conv => whnf) | (refine RetI.none Try.results46 ?_; conv => whnf) | (refine ⟨by first | decide | omega, ?_⟩; conv => whnf))
      rw [hW]
      refine CallS.mk Try.call64 ⟨[_], _, _, Sub.split [1] rfl, fun F' hF' => rAdd_ok F' g (fieldsBits (fs.take i)) p.1 W hg hp64 (by omega) (by omega), ?_⟩
      rintro e A' ⟨g', hg', rfl, rfl⟩
      conv => whnf
      refine ArI.to64 ((i + 1 : Nat) : Int) (by omega) (by omega) ?_
      conv => whnf
      have hbits : fieldsBits (fs.take (i + 1)) = fieldsBits (fs.take i) ++ bitsOf W p.1 := by rw [htk, fieldsBits_snoc, hW]; rfl
      refine ⟨(i + 1, g'), _, by dsimp only; omega, Sub.sel [0] rfl, ⟨by dsimp only; omega, by dsimp only; rw [htk, allFit_snoc, hfit, hf]; rfl, by dsimp only; rw [hbits]; exact hg'⟩, ⟨by dsimp only; rw [hbits]; rfl, rfl, rfl, rfl, trivial⟩, ?_⟩
      dsimp only
      rw [hbits]
  · have hie : i = fs.length := by omega
    subst hie
    rw [List.take_length] at hfit hg ⊢
    have hbl := fieldsBits_length hfit
    conv => whnf
    refine CallS.mk Try.call65 ⟨[], _, _, Sub.refl _, fun F' hF' => rBytes_ok F' (oaOf g) (capOf g) (fieldsBits fs) (SlF.sv hF' (T := 5) (by simp) (fun e => by rw [hg.1 e]; rfl)) (by omega), ?_⟩
    rintro e A' ⟨rfl, rfl⟩
    conv => whnf
    repeat (first | (refine LoadV.s rfl rfl (forceV_of ?_); conv => whnf) | (refine LoadV.s rfl rfl ?_; conv => whnf) | (refine StoreV.c rfl rfl (Nat.le_of_ble_eq_true rfl) rfl ?_; conv => whnf) | (refine LoadV.a _ rfl (Nat.le_of_ble_eq_true rfl) ?_; conv => whnf) | (refine DrawI.quiet (by kernel_rfl) (by kernel_rfl) ?_; conv => whnf) | (refine ArI.in64 (by omega) ?_; conv => whnf) | (refine ArI.inU8 (by omega) ?_; conv => whnf) | (refine ArI.inU64 (by omega) ?_; conv => whnf) | (refine ArI.inU32 (by omega) ?_; conv => whnf) | (refine RetI.one Try.results46 rfl ?_; conv => whnf) | (refine RetI.two Try.results46 rfl rfl ?_; conv => whnf) | (refine RetI.three Try.results46 rfl rfl rfl ?_; conv => whnf) | (refine RetI.none Try.results46 ?_; conv => whnf) | (refine ⟨by first | decide | omega, ?_⟩; conv => whnf))
    exact ⟨_, Sub.sel [] rfl, by unfold packR; rw [if_pos hfit], rfl⟩
end Go.Proofs.Ytlbdnkkaacccoaa
