/- The law of packing, as a contract. -/
import Derived.Test.YtphnpchblkpjhaaFrame8
import Derived.Test.YtphnpchblkpjhaaSameStr
namespace Go.Proofs.Ytphnpchblkpjhaa
set_option linter.unusedVariables false
set_option linter.unusedSimpArgs false
set_option maxRecDepth 100000
open SL Go.RowKit Go.Maps

def blkP (p : Pc) : ByteArray := (blockR p.1 p.2.1 p.2.2.1 p.2.2.2).1
theorem pack_pieces (seq : Int) (s : ByteArray) : packF seq s = ((piecesF seq s).1.map blkP, (piecesF seq s).2) := by
  unfold packF piecesF
  split
  · rfl
  · split
    · rfl
    · simp only [List.map_map]; rfl
theorem rpack_ok (F : Mem) (seq : Int) (s : ByteArray) (hs : s.size ≤ 9223372036854775807) :
    FT Try.prog 11 [.int .i64 seq, .string s].toArray F [] (fun e H => ∃ g, (g = none ↔ (packF seq s).1 = []) ∧ e = .returned (.tuple #[svOf g (packF seq s).1.length, .int .i64 (packF seq s).2]) ∧ H = [.own (svOf g (packF seq s).1.length) (packF seq s).1.length 9 1 (strs (packF seq s).1)]) := by
  have hle : (piecesF seq s).1.length ≤ 255 := by
    unfold piecesF
    split
    · simp
    · split
      · simp
      · simp only [List.length_map, List.length_range]; unfold partsI; rw [if_neg (by omega)]; omega
  rw [pack_pieces]
  have hc := fun (F' : Mem) => rpieces_ok F' seq s hs
  generalize piecesF seq s = R at hle hc ⊢
  obtain ⟨l, er⟩ := R
  dsimp only at hle hc ⊢
  refine FT.of_body Try.func11 rfl Try.ntmps11 (by simp) fun C hC => ?_
  subst hC
  conv => whnf
  refine CallS.mk Try.call22 ⟨[], _, _, Sub.refl _, fun F' hF' => hc F', ?_⟩
  rintro e A' ⟨g, hg, rfl, rfl⟩
  conv => whnf
  refine LoopI.by_state (σ := Nat × Option (Nat × Nat)) (fun x => [(7, .int .i64 er), (8, svOf x.2 x.1), (19, svOf g l.length), (20, .int .i64 (l.length : Int)), (21, .int .i64 (x.1 : Int))])
    (fun x => [.own (svOf x.2 x.1) x.1 9 1 (strs ((l.take x.1).map blkP)), .own (svOf g l.length) l.length 31 4 (l.flatMap pcF)]) (fun x => x.1 ≤ l.length ∧ (x.2 = none ↔ x.1 = 0)) (fun x => l.length - x.1) (0, none) ⟨by dsimp only; omega, by simp⟩ ⟨rfl, rfl, rfl, rfl, rfl, trivial⟩ (Sub.nil 9 1) ?_
  rintro ⟨i, g1⟩ f0 ⟨hi, hg1⟩
  dsimp only at hi hg1 ⊢
  conv => whnf
  refine cond_dec (fun h => ?_) (fun h => ?_)
  · have hil : i < l.length := by omega
    obtain ⟨gb, gc, rfl⟩ := gsome hg (by intro e; rw [e] at hil; simp at hil)
    conv => whnf
    refine ⟨by omega, ?_⟩
    conv => whnf
    refine LoadV.oa 4 rfl (by show 0 + i * 4 + 4 ≤ (l.flatMap pcF).length; rw [flat_length pcF_length]; omega) ?_
    have hrow : ((l.flatMap pcF).drop (elemOff 0 (i : Int) Try.prog.types[31].size)).take 4 = pcF (l[i]) := by
      show ((l.flatMap pcF).drop (0 + i * 4)).take 4 = _
      rw [Nat.zero_add]
      apply List.ext_getElem?
      intro j
      rw [List.getElem?_take]
      by_cases hj : j < 4
      · rw [if_pos hj, List.getElem?_drop, flat_at pcF_length l i j hil hj]
      · rw [if_neg hj, List.getElem?_eq_none (by rw [pcF_length]; omega)]
    rw [hrow]
    have htk : (l.take (i + 1)).map blkP = (l.take i).map blkP ++ [blkP l[i]] := by rw [← List.take_append_getElem hil, List.map_append]; rfl
    generalize l[i] = p at htk ⊢
    obtain ⟨p1, p2, p3, p4⟩ := p
    dsimp only
    conv => whnf
    intro b3
    conv => whnf
    refine StoreV.c rfl rfl (Nat.le_of_ble_eq_true rfl) rfl ?_
    conv => whnf
    refine LoadV.a _ rfl (Nat.le_of_ble_eq_true rfl) ?_
    conv => whnf
    refine CallS.mk Try.call18 ⟨[], _, _, Sub.refl _, fun F' hF' => rblock_ok F' p1 p2 p3 p4, ?_⟩
    rintro e A' ⟨rfl, rfl⟩
    conv => whnf
    intro b4
    conv => whnf
    refine BuiltV.append (sv := svOf g1 i) (m := 1) Try.underlying23 rfl rfl rfl rfl (by decide) (Row.cells 1) rfl (by decide) rfl (by show (i + 1) * 16 ≤ _; omega) (by omega) fun g2 c2 => ?_
    conv => whnf
    refine ArI.to64 ((i + 1 : Nat) : Int) (by omega) (by omega) ?_
    conv => whnf
    refine ⟨(i + 1, some (g2, c2)), _, by dsimp only; omega, Sub.sel [2, 3] rfl, ⟨by dsimp only; omega, by simp⟩, ⟨rfl, rfl, rfl, rfl, rfl, trivial⟩, ?_⟩
    have e2 : strs ((l.take (i + 1)).map blkP) = strs ((l.take i).map blkP) ++ [.string (blockR p1 p2 p3 p4).1] := by
      rw [htk, strs, List.map_append]; rfl
    dsimp only
    rw [e2]
    rfl
  · obtain rfl : i = l.length := by omega
    conv => whnf
    repeat (first | (refine LoadV.s rfl rfl (forceV_of ?_); conv => whnf) | (refine LoadV.s rfl rfl ?_; conv => whnf) | (refine StoreV.c rfl rfl (Nat.le_of_ble_eq_true rfl) rfl ?_; conv => whnf) | (refine LoadV.a _ rfl (Nat.le_of_ble_eq_true rfl) ?_; conv => whnf) | (refine DrawI.quiet (by kernel_rfl) (by kernel_rfl) ?_; conv => whnf) | (refine ArI.in64 (by omega) ?_; conv => whnf) | (refine ArI.inU8 (by omega) ?_; conv => whnf) | (refine ArI.inU64 (by omega) ?_; conv => whnf) | (refine ArI.inU32 (by omega) ?_; conv => whnf) | (refine RetI.one Try.results11 rfl ?_; conv => whnf) | (refine RetI.two Try.results11 rfl rfl ?_; conv => whnf) | (refine RetI.three Try.results11 rfl rfl rfl ?_; conv => whnf) | (refine RetI.none Try.results11 ?_; conv => whnf) | (refine ⟨by first | decide | omega, ?_⟩; conv => whnf))
    refine ⟨_, Sub.sel [0] rfl, g1, ?_, ?_, ?_⟩
    · rw [hg1, List.map_eq_nil_iff, List.length_eq_zero_iff]
    · rw [List.length_map]
    · rw [List.length_map, List.take_length]
theorem putAt_str (X : List ByteArray) (k : Nat) (s : ByteArray) (h : k < X.length) : putAt (strs X) (0 + k) [.string s] = strs (X.set k s) := by
  have : strs (X.set k s) = (strs X).set k (.string s) := List.map_set
  rw [this, Nat.zero_add, List.set_eq_take_append_cons_drop, if_pos (by simpa using h)]
  simp [putAt]
theorem packF_le (seq : Int) (s : ByteArray) : (packF seq s).1.length ≤ 255 := by
  unfold packF
  split
  · simp
  · split
    · simp
    · simp only [List.length_map, List.length_range]; unfold partsI; rw [if_neg (by omega)]; omega
set_option maxHeartbeats 4000000 in
theorem packs_ok (F : Mem) (seq : Int) (s : ByteArray) (hs : s.size ≤ 9223372036854775807) : FT Try.prog 3 [.int .i64 seq, .string s].toArray F [] (Ret (.bool true)) := by
  have hle := packF_le seq s
  have hc := fun (F' : Mem) => fpack_ok F' seq s hs
  have hr := fun (F' : Mem) => rpack_ok F' seq s hs
  generalize packF seq s = R at hle hc hr
  obtain ⟨l, er⟩ := R
  dsimp only at hle hc hr
  have hn : l.length ≤ 9223372036854775807 := by omega
  refine FT.of_body Try.func3 rfl Try.ntmps3 (by simp) fun C hC => ?_
  subst hC
  conv => whnf
  refine CallS.mk Try.call9 ⟨[], _, _, Sub.refl _, fun F' hF' => lives06_ok F', ?_⟩
  rintro e A' ⟨rfl, rfl⟩
  conv => whnf
  refine CallS.mk Try.call10 ⟨[], _, _, Sub.refl _, fun F' hF' => hc F', ?_⟩
  rintro e A' ⟨g1, hg1, rfl, rfl⟩
  conv => whnf
  refine CallS.mk Try.call10 ⟨[], _, _, Sub.refl _, fun F' hF' => hc F', ?_⟩
  rintro e A' ⟨g2, hg2, rfl, rfl⟩
  conv => whnf
  refine CallS.mk Try.call11 ⟨[], _, _, Sub.refl _, fun F' hF' => hr F', ?_⟩
  rintro e A' ⟨g3, hg3, rfl, rfl⟩
  conv => whnf
  rw [show (er != er) = false from bne_self_eq_false _]
  conv => whnf
  rw [show (er != er) = false from bne_self_eq_false _]
  conv => whnf
  refine CallS.mk Try.call12 ⟨[], _, _, Sub.refl _, fun F' hF' => same_ok F' (oaOf g1) (oaOf g3) (capOf g1) (capOf g3) l l (SlF.sv hF' (T := 9) (by simp) (fun e => by rw [hg1.1 e]; rfl)) (SlF.sv hF' (T := 9) (by simp) (fun e => by rw [hg3.1 e]; rfl)) hn, ?_⟩
  rw [show decide (l = l) = true from decide_eq_true rfl]
  rintro e A' ⟨rfl, rfl⟩
  conv => whnf
  refine CallS.mk Try.call12 ⟨[], _, _, Sub.refl _, fun F' hF' => same_ok F' (oaOf g2) (oaOf g3) (capOf g2) (capOf g3) l l (SlF.sv hF' (T := 9) (by simp) (fun e => by rw [hg2.1 e]; rfl)) (SlF.sv hF' (T := 9) (by simp) (fun e => by rw [hg3.1 e]; rfl)) hn, ?_⟩
  rw [show decide (l = l) = true from decide_eq_true rfl]
  rintro e A' ⟨rfl, rfl⟩
  conv => whnf
  obtain ⟨xm, hxm⟩ : ∃ x : ByteArray, x = ⟨#[109, 97, 114, 107]⟩ := ⟨_, rfl⟩
  rw [← hxm]
  refine LoopI.by_state (σ := Nat × List ByteArray) (fun x => [(5, svOf g1 l.length), (7, svOf g2 l.length), (9, svOf g3 l.length), (53, .int .i64 (l.length : Int)), (54, .int .i64 (x.1 : Int))])
    (fun x => [.own (svOf g1 l.length) l.length 9 1 (strs x.2), .own (svOf g2 l.length) l.length 9 1 (strs l), .own (svOf g3 l.length) l.length 9 1 (strs l)])
    (fun x => x.1 ≤ l.length ∧ x.2.length = l.length) (fun x => l.length - x.1) (0, l) ⟨by simp, rfl⟩ ⟨rfl, rfl, rfl, rfl, rfl, trivial⟩ (Sub.sel [2, 1, 0] rfl) ?_
  rintro ⟨i, X⟩ f0 ⟨hi, hX⟩
  dsimp only at hi hX ⊢
  conv => whnf
  refine cond_dec (fun h => ?_) (fun h => ?_)
  · have hil : i < X.length := by omega
    obtain ⟨gb, gc, rfl⟩ := gsome hg1 (by intro e; rw [e] at hX; rw [hX] at hil; simp at hil)
    conv => whnf
    refine ⟨by omega, ?_⟩
    conv => whnf
    refine StoreV.os (l := strs X) rfl rfl (by show 0 + i + 1 ≤ _; simp; omega) rfl ?_
    rw [show (Value.string xm).cells.toList = [.string xm] from rfl]
    rw [show elemOff 0 (i : Int) (Try.prog.types[9]'(by decide)).size = 0 + i from rfl, putAt_str X i _ hil]
    conv => whnf
    refine ArI.to64 ((i + 1 : Nat) : Int) (by omega) (by omega) ?_
    conv => whnf
    exact ⟨(i + 1, X.set i xm), _, by dsimp only; omega, Sub.refl _, ⟨by dsimp only; omega, by simp [hX]⟩, ⟨rfl, rfl, rfl, rfl, rfl, trivial⟩, rfl⟩
  · conv => whnf
    intro bm
    conv => whnf
    refine BuiltV.append (sv := svOf g1 l.length) (m := 1) Try.underlying23 rfl rfl rfl rfl (by decide) (Row.cells 1) rfl (by decide) rfl (by show (l.length + 1) * 16 ≤ _; omega) (by omega) fun gb2 gc2 => ?_
    conv => whnf
    refine CallS.mk Try.call12 ⟨[], _, _, Sub.refl _, fun F' hF' => same_ok F' (oaOf g2) (oaOf g3) (capOf g2) (capOf g3) l l (SlF.sv hF' (T := 9) (by simp) (fun e => by rw [hg2.1 e]; rfl)) (SlF.sv hF' (T := 9) (by simp) (fun e => by rw [hg3.1 e]; rfl)) hn, ?_⟩
    rw [show decide (l = l) = true from decide_eq_true rfl]
    rintro e A' ⟨rfl, rfl⟩
    conv => whnf
    refine ArI.to64 ((l.length + 1 : Nat) : Int) (by omega) (by omega) ?_
    conv => whnf
    repeat (first | (refine LoadV.s rfl rfl (forceV_of ?_); conv => whnf) | (refine LoadV.s rfl rfl ?_; conv => whnf) | (refine StoreV.c rfl rfl (Nat.le_of_ble_eq_true rfl) rfl ?_; conv => whnf) | (refine LoadV.a _ rfl (Nat.le_of_ble_eq_true rfl) ?_; conv => whnf) | (refine DrawI.quiet (by kernel_rfl) (by kernel_rfl) ?_; conv => whnf) | (refine ArI.in64 (by omega) ?_; conv => whnf) | (refine ArI.inU8 (by omega) ?_; conv => whnf) | (refine ArI.inU64 (by omega) ?_; conv => whnf) | (refine ArI.inU32 (by omega) ?_; conv => whnf) | (refine RetI.one Try.results3 rfl ?_; conv => whnf) | (refine RetI.two Try.results3 rfl rfl ?_; conv => whnf) | (refine RetI.three Try.results3 rfl rfl rfl ?_; conv => whnf) | (refine RetI.none Try.results3 ?_; conv => whnf) | (refine ⟨by first | decide | omega, ?_⟩; conv => whnf))
    exact ⟨_, Sub.sel [] rfl, ret_bool (beq_self_eq_true _), rfl⟩
end Go.Proofs.Ytphnpchblkpjhaa
