/- The laws of the bits, as contracts: the first ones. -/
import Derived.Test.YtcmijlclenpjiaaBits6
import Derived.Test.YtcmijlclenpjiaaBitsLaw2
namespace Go.Proofs.Ytcmijlclenpjiaa
open SL Go.RowKit Go.Maps

theorem live_pack : packR [(5, 3), (1, 1), (0, 4)] = (⟨#[176]⟩, 0) := by rfl
theorem lt1 : textBits (txt ⟨#[176]⟩) = [true, false, true, true, false, false, false, false] := by decide +kernel
theorem lt2 : takeAll [true, false, true, true, false, false, false, false] 0 [3, 1] = some ([5, 1], 4) := by decide +kernel
theorem lt3 : doneB [true, false, true, true, false, false, false, false] 4 = true := by decide +kernel
theorem live_unpack : unpackR (unpackB (textBits (txt ⟨#[176]⟩)) [3, 1]) = ([5, 1], 0) := by
  rw [lt1]; unfold unpackB; rw [lt2]; simp only [lt3, if_true, unpackR]
theorem bPack_lit (F : Mem) (oa : Option Addr) (n ca : Nat) (fs : List (Nat × Int)) (hn0 : n = fs.length) (hw : SlF F 2 oa n (fs.flatMap fldF)) (hu : U64s fs) (hn : n ≤ 549755813887) {x0 : ByteArray} {er : Int} (h : packR fs = (x0, er)) :
    FT Try.prog 10 [.slice oa n ca].toArray F [] (fun e H => ∃ x, x = x0 ∧ e = .returned (.tuple #[.string x, .int .i64 er]) ∧ H = []) := by
  subst hn0
  have := bPack_ok F oa ca fs hw hu hn
  rw [h] at this
  exact this.mono fun e H ⟨h1, h2⟩ => ⟨x0, rfl, h1, h2⟩
theorem bUnpack_lit (F : Mem) (oa : Option Addr) (n ca : Nat) (s : ByteArray) (ws : List Int) (hn0 : n = ws.length) (hw : SlF F 1 oa n (intsV ws)) (hs : s.size ≤ 140737488355328) (hn : n ≤ 1099511627776) {l : List Nat} {er : Int} (h : unpackR (unpackB (textBits (txt s)) ws) = (l, er)) :
    FT Try.prog 12 [.string s, .slice oa n ca].toArray F [] (fun e H => ∃ g, (g = none ↔ l = []) ∧ e = .returned (.tuple #[svOf g l.length, .int .i64 er]) ∧ H = [.own (svOf g l.length) l.length 33 1 (u64V l)]) := by
  subst hn0
  have := bUnpack_ok F oa ca s ws hw hs hn
  rw [h] at this
  exact this
theorem lives03_ok (F : Mem) : FT Try.prog 9 [].toArray F [] (Ret (.bool true)) := by
  refine FT.of_body Try.func9 rfl Try.ntmps9 (by simp) fun C hC => ?_
  subst hC
  conv => whnf
  intro b
  conv => whnf
  refine CallS.mk Try.call10 ⟨[], _, _, Sub.refl _, fun F' hF' => bPack_lit F' (some ⟨b, 0, none⟩) 3 3 [(5, 3), (1, 1), (0, 4)] rfl (SlF.cells hF' rfl) (by intro p hp; simp at hp; rcases hp with rfl | rfl | rfl <;> decide) (by decide) live_pack, ?_⟩
  rintro e A' ⟨x, hx, rfl, rfl⟩
  conv => whnf
  intro b2
  conv => whnf
  refine CallS.mk Try.call12 ⟨[], _, _, Sub.refl _, fun F' hF' => bUnpack_lit F' (some ⟨b2, 0, none⟩) 2 2 ⟨#[176]⟩ [3, 1] rfl (SlF.cells hF' rfl) (by decide) (by decide) live_unpack, ?_⟩
  rintro e A' ⟨g, hg, rfl, rfl⟩
  conv => whnf
  refine cond_of_true (by rw [hx]; exact beq_self_eq_true _) ?_
  clear hx
  conv => whnf
  intro b3
  conv => whnf
  refine CallS.mk Try.call14 ⟨[], _, _, Sub.refl _, fun F' hF' => rSame_ok F' (oaOf g) (some ⟨b3, 0, none⟩) (capOf g) 2 [5, 1] [5, 1] (SlF.sv hF' (T := 33) rfl (fun e => by cases hg.1 e)) (SlF.cells hF' rfl) (by decide), ?_⟩
  rintro e A' ⟨rfl, rfl⟩
  conv => whnf
  refine CallS.mk Try.call15 ⟨[], _, _, Sub.refl _, fun F' hF' => bNew_ok F', ?_⟩
  rintro e A' ⟨w, rfl, rfl⟩
  conv => whnf
  refine CallS.mk Try.call22 ⟨[], _, _, Sub.refl _, fun F' hF' => bRead_ok F' ⟨#[120]⟩, ?_⟩
  rintro e A' ⟨r, rfl, rfl⟩
  conv => whnf
  repeat (first | (refine LoadV.s rfl rfl (forceV_of ?_); conv => whnf) | (refine LoadV.s rfl rfl ?_; conv => whnf) | (refine StoreV.c rfl rfl (Nat.le_of_ble_eq_true rfl) rfl ?_; conv => whnf) | (refine LoadV.a _ rfl (Nat.le_of_ble_eq_true rfl) ?_; conv => whnf) | (refine DrawI.quiet (by kernel_rfl) (by kernel_rfl) ?_; conv => whnf) | (refine ArI.in64 (by omega) ?_; conv => whnf) | (refine ArI.inU8 (by omega) ?_; conv => whnf) | (refine ArI.inU64 (by omega) ?_; conv => whnf) | (refine ArI.inU32 (by omega) ?_; conv => whnf) | (refine RetI.one Try.results9 rfl ?_; conv => whnf) | (refine RetI.two Try.results9 rfl rfl ?_; conv => whnf) | (refine RetI.three Try.results9 rfl rfl rfl ?_; conv => whnf) | (refine RetI.none Try.results9 ?_; conv => whnf) | (refine ⟨by first | decide | omega, ?_⟩; conv => whnf))
  exact ⟨_, Sub.sel [] rfl, rfl, rfl⟩
theorem BitsPacks_ok (F : Mem) (oa ob : Option Addr) (ca cb : Nat) (fs : List (Nat × Int)) (s : ByteArray) (ws : List Int) (hw : SlF F 2 oa fs.length (fs.flatMap fldF)) (hu : U64s fs) (hn : fs.length ≤ 1048576) (hs : s.size ≤ 1048576) (hv : SlF F 1 ob ws.length (intsV ws)) (hm : ws.length ≤ 1048576) :
    FT Try.prog 3 [.slice oa fs.length ca, .string s, .slice ob ws.length cb].toArray F [] (Ret (.bool true)) := by
  refine FT.of_body Try.func3 rfl Try.ntmps3 (by simp) fun C hC => ?_
  subst hC
  conv => whnf
  refine CallS.mk Try.call9 ⟨[], _, _, Sub.refl _, fun F' hF' => lives03_ok F', ?_⟩
  rintro e A' ⟨rfl, rfl⟩
  conv => whnf
  refine CallS.mk Try.call10 ⟨[], _, _, Sub.refl _, fun F' hF' => bPack_ok F' oa ca fs (hw.ext hF'.F) hu (by omega), ?_⟩
  rintro e A' ⟨rfl, rfl⟩
  conv => whnf
  refine CallS.mk Try.call11 ⟨[], _, _, Sub.refl _, fun F' hF' => rPack_ok F' oa ca fs (hw.ext hF'.F) hu (by omega), ?_⟩
  rintro e A' ⟨rfl, rfl⟩
  conv => whnf
  rw [show ((packR fs).1.toList == (packR fs).1.toList) = true from beq_self_eq_true _]
  conv => whnf
  rw [show ((packR fs).2 != (packR fs).2) = false from bne_self_eq_false _]
  conv => whnf
  refine CallS.mk Try.call12 ⟨[], _, _, Sub.refl _, fun F' hF' => bUnpack_ok F' ob cb s ws (hv.ext hF'.F) (by omega) (by omega), ?_⟩
  rintro e A' ⟨g, hg, rfl, rfl⟩
  conv => whnf
  refine CallS.mk Try.call13 ⟨[], _, _, Sub.refl _, fun F' hF' => rUnpack_ok F' ob cb s ws (hv.ext hF'.F) (by omega) (by omega), ?_⟩
  rintro e A' ⟨g2, hg2, rfl, rfl⟩
  generalize hR : unpackR (unpackB (textBits (txt s)) ws) = R at hg hg2 ⊢
  have hll := unpackR_le (T := textBits (txt s)) (ws := ws)
  rw [hR] at hll
  obtain ⟨l, er⟩ := R
  dsimp only at hg hg2 hll ⊢
  conv => whnf
  refine CallS.mk Try.call14 ⟨[], _, _, Sub.refl _, fun F' hF' => rSame_ok F' (oaOf g) (oaOf g2) (capOf g) (capOf g2) l l (SlF.sv hF' (T := 33) (by simp) (fun e => by rw [hg.1 e]; rfl)) (SlF.sv hF' (T := 33) (by simp) (fun e => by rw [hg2.1 e]; rfl)) (by omega), ?_⟩
  rintro e A' ⟨rfl, rfl⟩
  rw [show decide (l = l) = true from decide_eq_true rfl]
  conv => whnf
  rw [show (er == er) = true from beq_self_eq_true _]
  conv => whnf
  repeat (first | (refine LoadV.s rfl rfl (forceV_of ?_); conv => whnf) | (refine LoadV.s rfl rfl ?_; conv => whnf) | (refine StoreV.c rfl rfl (Nat.le_of_ble_eq_true rfl) rfl ?_; conv => whnf) | (refine LoadV.a _ rfl (Nat.le_of_ble_eq_true rfl) ?_; conv => whnf) | (refine DrawI.quiet (by kernel_rfl) (by kernel_rfl) ?_; conv => whnf) | (refine ArI.in64 (by omega) ?_; conv => whnf) | (refine ArI.inU8 (by omega) ?_; conv => whnf) | (refine ArI.inU64 (by omega) ?_; conv => whnf) | (refine ArI.inU32 (by omega) ?_; conv => whnf) | (refine RetI.one Try.results3 rfl ?_; conv => whnf) | (refine RetI.two Try.results3 rfl rfl ?_; conv => whnf) | (refine RetI.three Try.results3 rfl rfl rfl ?_; conv => whnf) | (refine RetI.none Try.results3 ?_; conv => whnf) | (refine ⟨by first | decide | omega, ?_⟩; conv => whnf))
  exact ⟨_, Sub.sel [] rfl, rfl, rfl⟩
end Go.Proofs.Ytcmijlclenpjiaa
