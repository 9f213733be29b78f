/- The law of frames put together, as a contract. -/
import Derived.Test.YtphnpchblkpjhaaFrame14
namespace Go.Proofs.Ytphnpchblkpjhaa
set_option linter.unusedVariables false
set_option linter.unusedSimpArgs false
set_option maxRecDepth 100000
open SL Go.RowKit Go.Maps

theorem view_pc : ∀ row, okCells [.i .i64, .i .i64, .i .i64, .s] row = true → row.all wfCell = true → ∃ x : Pc, True ∧ row = pcF x := by
  intro row h hw
  match row, okCells_length h with
  | [a, b, c, d], _ =>
    cases a <;> simp [okCells, okCell] at h
    cases b <;> simp at h
    cases c <;> simp at h
    cases d <;> simp at h
    obtain ⟨rfl, rfl, rfl⟩ := h
    exact ⟨(_, _, _, _), trivial, rfl⟩
set_option maxHeartbeats 4000000 in
theorem wholes_ok (F : Mem) (oa : Option Addr) (ca : Nat) (l : List Pc) (ha : SlF F 4 oa l.length (l.flatMap pcF)) (hca : oa = none → ca = 0) (hn : (l.length + 1) * 40 ≤ 140737488355328) :
    FT Try.prog 4 [.slice oa l.length ca].toArray F [] (Ret (.bool true)) := by
  refine FT.of_body Try.func4 rfl Try.ntmps4 (by simp) fun C hC => ?_
  subst hC
  conv => whnf
  refine CallS.mk Try.call9 ⟨[], _, _, Sub.refl _, fun F' hF' => lives06_ok F', ?_⟩
  rintro e A' ⟨rfl, rfl⟩
  conv => whnf
  intro b0
  conv => whnf
  refine BuiltV.sub (Sub.own (n := 0) (sz := 4) rfl (by decide)) ?_
  refine BuiltV.append_sv (g := some (b0, 0)) (n := 0) (sz := 4) Try.underlying29 rfl rfl rfl rfl (by decide) (Src.foreign ha hca) (by rw [flat_length pcF_length]) (by
    rw [List.all_eq_true]
    intro v hv
    obtain ⟨p, _, hp⟩ := List.mem_flatMap.1 hv
    simp only [pcF, List.mem_cons, List.not_mem_nil, or_false] at hp
    rcases hp with rfl | rfl | rfl | rfl <;> rfl) (by show (0 + l.length) * 40 ≤ _; omega) (by omega) fun g hg => ?_
  obtain ⟨gb, gc, rfl⟩ : ∃ b c, g = some (b, c) := by
    cases g with
    | none => exact absurd (hg.1 rfl).1 (by simp)
    | some p => exact ⟨p.1, p.2, rfl⟩
  rw [Nat.zero_add]
  conv => whnf
  intro b1
  conv => whnf
  refine BuiltV.append (sv := svOf (some (gb, gc)) l.length) (m := 1) Try.underlying29 rfl rfl rfl rfl (by decide) (Row.cells 4) rfl (by decide) rfl (by show (l.length + 1) * 40 ≤ _; omega) (by omega) fun gs gsc => ?_
  have hrows : (([] : List Value) ++ l.flatMap pcF) ++ List.take 4 (List.drop 0 [Value.int .i64 (-9), .int .i64 0, .int .i64 0, .string ⟨#[]⟩]) = (l ++ [((-9 : Int), (0 : Int), (0 : Int), (⟨#[]⟩ : ByteArray))]).flatMap pcF := by simp
  rw [hrows]
  have hpre : ((l ++ [((-9 : Int), (0 : Int), (0 : Int), (⟨#[]⟩ : ByteArray))]).flatMap pcF).take (l.length * 4) = l.flatMap pcF := by
    rw [List.flatMap_append, List.take_left' (flat_length pcF_length l)]
  have hfl : ((l ++ [((-9 : Int), (0 : Int), (0 : Int), (⟨#[]⟩ : ByteArray))]).flatMap pcF).length = (l.length + 1) * 4 := by
    rw [flat_length pcF_length]; simp
  have hat : ∀ i, ∀ hi : i < l.length, (l ++ [((-9 : Int), (0 : Int), (0 : Int), (⟨#[]⟩ : ByteArray))])[i]? = some l[i] := fun i hi => by rw [List.getElem?_append_left hi, List.getElem?_eq_getElem hi]
  have hlast : ((l ++ [((-9 : Int), (0 : Int), (0 : Int), (⟨#[]⟩ : ByteArray))]).flatMap pcF)[l.length * 4]? = some (.int .i64 (-9)) := by
    rw [List.flatMap_append, List.getElem?_append_right (by rw [flat_length pcF_length]; omega), flat_length pcF_length, Nat.sub_self]; rfl
  have hll : (l ++ [((-9 : Int), (0 : Int), (0 : Int), (⟨#[]⟩ : ByteArray))]).length = l.length + 1 := by simp
  generalize l ++ [((-9 : Int), (0 : Int), (0 : Int), (⟨#[]⟩ : ByteArray))] = m at hpre hfl hat hlast hll ⊢
  have hw := fun (F' : Mem) (oa : Option Addr) (ca : Nat) (h : SlF F' 4 oa l.length (l.flatMap pcF)) => whole_ok F' oa ca l h (by omega)
  have hr := fun (F' : Mem) (oa : Option Addr) (ca : Nat) (h : SlF F' 4 oa l.length (l.flatMap pcF)) => rwhole_ok F' oa ca l h (by omega)
  generalize wholeR l = W at hw hr
  obtain ⟨sq, x, er⟩ := W
  dsimp only at hw hr
  conv => whnf
  refine DoV.slice_own Try.underlying29 rfl (by omega) (by omega) ?_
  conv => whnf
  refine CallS.mk Try.call13 ⟨[], _, _, Sub.refl _, fun F' hF' => hw F' (some ⟨gs, 0, none⟩) gsc (by have := SlF.own_pre (n := l.length) (sz := 4) (b := gs) hF' (by rw [hfl]; omega); rwa [hpre] at this), ?_⟩
  rintro e A' ⟨rfl, rfl⟩
  conv => whnf
  refine CallS.mk Try.call14 ⟨[], _, _, Sub.refl _, fun F' hF' => hr F' oa ca (ha.ext hF'.F), ?_⟩
  rintro e A' ⟨rfl, rfl⟩
  conv => whnf
  refine LoopI.by_state (σ := Nat) (fun i => [(0, .slice oa l.length ca), (3, .slice (some ⟨gs, 0, none⟩) (l.length + 1) gsc), (4, .int .i64 sq), (5, .string x), (6, .int .i64 er), (7, .int .i64 sq), (8, .string x), (9, .int .i64 er), (35, .int .i64 (l.length : Int)), (36, .int .i64 (i : Int))])
    (fun _ => [.own (.slice (some ⟨gs, 0, none⟩) (l.length + 1) gsc) (l.length + 1) 31 4 (m.flatMap pcF)]) (fun i => i ≤ l.length) (fun i => l.length - i) 0 (by omega) ⟨rfl, rfl, rfl, rfl, rfl, rfl, rfl, rfl, rfl, rfl, trivial⟩ (Sub.sel [1] rfl) ?_
  rintro i f0 hi
  conv => whnf
  refine cond_dec (fun h => ?_) (fun h => ?_)
  · have hil : i < l.length := by omega
    have him : i < m.length := by omega
    have hml : m[i] = l[i] := by have := hat i hil; rw [List.getElem?_eq_getElem him] at this; exact Option.some.inj this
    obtain ⟨xb, yb, rfl, hrb⟩ := ha.at (i := i) hil
    conv => whnf
    refine DrawI.quiet (by kernel_rfl) (by kernel_rfl) ?_
    conv => whnf
    refine ⟨by omega, ?_⟩
    conv => whnf
    refine LoadV.oa 4 rfl (by show 0 + i * 4 + 4 ≤ (m.flatMap pcF).length; omega) ?_
    rw [show ((m.flatMap pcF).drop (elemOff 0 (i : Int) Try.prog.types[31].size)).take 4 = pcF (l[i]) by show ((m.flatMap pcF).drop (0 + i * 4)).take 4 = _; rw [Nat.zero_add, pc_row m i him, hml]]
    conv => whnf
    refine ⟨by omega, ?_⟩
    conv => whnf
    refine LoadV.fa (cs := pcF (l[i])) (flat_row pcF_length hrb hil rfl) rfl ?_
    conv => whnf
    refine EqV.neq (d := 3) (ks := [.i .i64, .i .i64, .i .i64, .s]) (by kernel_rfl) rfl (by kernel_rfl) rfl rfl rfl ?_
    rw [piece_eq, decide_eq_true ⟨rfl, rfl, rfl, rfl⟩]
    conv => whnf
    refine ArI.to64 ((i + 1 : Nat) : Int) (by omega) (by omega) ?_
    conv => whnf
    exact ⟨i + 1, _, by omega, Sub.refl _, by omega, ⟨rfl, rfl, rfl, rfl, rfl, rfl, rfl, rfl, rfl, rfl, trivial⟩, rfl⟩
  · obtain rfl : i = l.length := by omega
    conv => whnf
    rw [show (sq == sq) = true from beq_self_eq_true _]
    conv => whnf
    rw [show (x.toList == x.toList) = true from beq_self_eq_true _]
    conv => whnf
    rw [show (er == er) = true from beq_self_eq_true _]
    conv => whnf
    refine ⟨by omega, ?_⟩
    conv => whnf
    refine LoadV.os (v := .int .i64 (-9)) rfl (by show (m.flatMap pcF)[0 + l.length * 4 + 0]? = _; rw [Nat.add_zero, Nat.zero_add]; exact hlast) ?_
    conv => whnf
    repeat (first | (refine LoadV.s rfl rfl (forceV_of ?_); conv => whnf) | (refine LoadV.s rfl rfl ?_; conv => whnf) | (refine StoreV.c rfl rfl (Nat.le_of_ble_eq_true rfl) rfl ?_; conv => whnf) | (refine LoadV.a _ rfl (Nat.le_of_ble_eq_true rfl) ?_; conv => whnf) | (refine DrawI.quiet (by kernel_rfl) (by kernel_rfl) ?_; conv => whnf) | (refine ArI.in64 (by omega) ?_; conv => whnf) | (refine ArI.inU8 (by omega) ?_; conv => whnf) | (refine ArI.inU64 (by omega) ?_; conv => whnf) | (refine ArI.inU32 (by omega) ?_; conv => whnf) | (refine RetI.one Try.results4 rfl ?_; conv => whnf) | (refine RetI.two Try.results4 rfl rfl ?_; conv => whnf) | (refine RetI.three Try.results4 rfl rfl rfl ?_; conv => whnf) | (refine RetI.none Try.results4 ?_; conv => whnf) | (refine ⟨by first | decide | omega, ?_⟩; conv => whnf))
    exact ⟨_, Sub.sel [] rfl, rfl, rfl⟩
end Go.Proofs.Ytphnpchblkpjhaa
