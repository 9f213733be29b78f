/- A message whose lists are longer behind their ends. -/
import Derived.Test.YtlbdnkkaacccoaaWireB1
import Derived.Test.YtlbdnkkaacccoaaTree
namespace Go.Proofs.Ytlbdnkkaacccoaa
set_option linter.unusedVariables false
set_option linter.unusedSimpArgs false
set_option maxRecDepth 100000
open SL Go.RowKit Go.Maps
/-- What always holds of owned rows. -/
def Caps (_ : Value) (H : Heap) : Prop := ∀ b n c T sz l, HObj.own (.slice (some ⟨b, 0, none⟩) n c) n T sz l ∈ H → n ≤ c
theorem BuiltV.caps {C : Ctx} {P : Program} {b : Builtin} {ts : Array TypeId} {t : TypeId} {cs : Array Bool} {args : List Value} {H : Heap} {K : Value → Heap → Prop} (k : SL.BuiltV C P b ts t cs args H (fun v H' => Caps v H' → K v H')) : SL.BuiltV C P b ts t cs args H K := by
  obtain ⟨R, hR, hk⟩ := k
  refine ⟨fun v H' => R v H' ∧ Caps v H', fun w hs => ?_, fun v H' h => hk v H' h.1 h.2⟩
  obtain ⟨v, w', H', h1, h2, h3⟩ := hR w hs
  exact ⟨v, w', H', h1, ⟨h2, fun b n c T sz l hm => own_cap (h3.objs _ hm)⟩, h3⟩
theorem seats_one (l : List Seat) : (l.flatMap seatF).all Value.oneCell' = true := by
  rw [List.all_eq_true]
  intro v hv
  obtain ⟨x, _, hx⟩ := List.mem_flatMap.1 hv
  simp [seatF] at hx
  rcases hx with rfl | rfl <;> rfl
theorem items_one (l : List Item) : (l.flatMap itemF).all Value.oneCell' = true := by
  rw [List.all_eq_true]
  intro v hv
  obtain ⟨x, _, hx⟩ := List.mem_flatMap.1 hv
  simp [itemF] at hx
  rcases hx with rfl | rfl | rfl | rfl | rfl | rfl <;> rfl
open SL.Late.Tree in
/-- The orders of a region that appends to a list that it appends to an empty one. -/
abbrev lnT : SL.Late.Tree.Tr := (.q 1 (.q 2 (.q 3 (.q 5 (.q 8 (.q 9 (.q 10 (.q 11 (.b 0 (.b 4 (.b 6 (.b 7 (.b 12 (.q 13 (.q 14 (.b 15 .done .nil))) .nil) .nil) .nil) (.b 6 (.b 4 (.b 7 (.b 12 (.q 13 (.q 14 (.b 15 .done .nil))) .nil) .nil) .nil) .nil)) (.b 6 (.b 0 (.b 4 (.b 7 (.b 12 (.q 13 (.q 14 (.b 15 .done .nil))) .nil) .nil) .nil) .nil) .nil))))))))))
set_option maxHeartbeats 4000000 in
theorem lent_ok (F : Mem) (m : Msg) (s : Sls) (hr : Rows14 F m s) (hL : m.L.length ≤ 1048576) (hJ : m.J.length ≤ 1048576) (hI : m.I.length ≤ 1048576) (hc : (s.oL = none → s.cL = 0) ∧ (s.oJ = none → s.cJ = 0) ∧ (s.oI = none → s.cI = 0)) :
    FT Try.prog 16 [.agg (msgL m s).toArray].toArray F [] (fun e H => ∃ gl cl gj cj gi ci, m.L.length + 1 ≤ cl ∧ m.J.length + 1 ≤ cj ∧ m.I.length + 1 ≤ ci ∧ e = .returned (.agg (msgL m ⟨some ⟨gl, 0, none⟩, cl, some ⟨gj, 0, none⟩, cj, some ⟨gi, 0, none⟩, ci⟩).toArray) ∧ H = [ownS (some (gl, cl)) (m.L ++ [(-7, 0)]), ownS (some (gj, cj)) (m.J ++ [(-8, 0)]), ownI (some (gi, ci)) (m.I ++ [(-9, 0, 0, 0, 0, 0)])]) := by
  refine FT.of_body Try.func16 rfl Try.ntmps16 (by simp) fun C hC => ?_
  subst hC
  conv => whnf
  intro p
  conv => whnf
  intro c
  conv => whnf
  refine SL.Late.Tree.drawTC lnT [0, 4, 6, 7, 12, 15] [3, 10] [15] [] [_]
    (fun y : Nat × Nat => [(1, .pointer (some ⟨p, 0, none⟩)), (2, .pointer (some ⟨c, 0, none⟩))]) (fun y => [.cells p (msgL m { s with oL := some ⟨y.1, 0, none⟩, cL := y.2 }) 38 (0, 0), ownS (some y) (m.L ++ [(-7, 0)]), .cells c (msgL zMsg zSls) 38 (0, 0)]) (fun y => m.L.length + 1 ≤ y.2)
    (by kernel_rfl) (by kernel_rfl) (by kernel_rfl) (by kernel_rfl) (by kernel_rfl) (by kernel_rfl) (by kernel_rfl) (by kernel_rfl) (by kernel_rfl) (Sub.sel [] rfl) (Sub.sel [1] rfl) ?_ ?_
  · conv => whnf
    refine (show LoadV _ _ _ ⟨p, 2, none⟩ _ _ from ?_)
    refine LoadV.s rfl rfl (forceV_of ?_)
    conv => whnf
    refine (show LoadV _ _ _ ⟨p, 2, none⟩ _ _ from ?_)
    refine LoadV.s rfl rfl (forceV_of ?_)
    conv => whnf
    refine ⟨?_, ?_⟩
    · intro b0
      conv => whnf
      refine ⟨⟨Sub.sel [] rfl, fun _ => Sub.sel [2] rfl⟩, ?_⟩
      conv => whnf
      refine ⟨?_, ?_⟩
      · refine BuiltV.sub (Sub.trans (Sub.refl _) (Sub.own (n := 0) (sz := 2) rfl (by decide))) ?_
        refine BuiltV.append_sv (oa := s.oL) (m := m.L.length) (news := m.L.flatMap seatF) (g := some (b0, 0)) (n := 0) (sz := 2) Try.underlying22 rfl rfl rfl rfl (by decide) (Src.foreign hr.L hc.1) (by rw [SL.flat_length seatF_length]) (by first | exact seats_one _ | exact items_one _) (by show (0 + m.L.length) * 16 ≤ _; omega) (by omega) fun g1 hg1 => ?_
        obtain ⟨x1, y1, rfl⟩ : ∃ b c, g1 = some (b, c) := by
          cases g1 with
          | none => exact absurd (hg1.1 rfl).1 (by simp)
          | some p => exact ⟨p.1, p.2, rfl⟩
        rw [Nat.zero_add, List.nil_append]
        conv => whnf
        refine ⟨⟨Sub.sel [] rfl, fun _ => Sub.sel [2] rfl⟩, ?_⟩
        conv => whnf
        refine ⟨?_, trivial⟩
        intro b1
        conv => whnf
        refine ⟨⟨Sub.sel [] rfl, fun _ => Sub.sel [3] rfl⟩, ?_⟩
        conv => whnf
        refine ⟨?_, trivial⟩
        refine BuiltV.caps (SL.BuiltV.append (sv := svOf (some (x1, y1)) m.L.length) (m := 1) Try.underlying22 rfl rfl rfl rfl (by decide) (Row.cells 2) rfl (by decide) rfl (by show (m.L.length + 1) * 16 ≤ _; omega) (by omega) fun gb gc hcap => ?_)
        replace hcap : m.L.length + 1 ≤ gc := hcap gb _ gc _ _ _ (by first | exact List.mem_cons_self | exact List.mem_cons_of_mem _ List.mem_cons_self)
        conv => whnf
        refine ⟨⟨Sub.sel [] rfl, fun _ => Sub.sel [3] rfl⟩, ?_⟩
        conv => whnf
        refine ⟨?_, trivial⟩
        conv => whnf
        refine DoV.slice_own Try.underlying22 rfl (by omega) (by omega) ?_
        rw [Int.toNat_natCast]
        conv => whnf
        refine ⟨⟨Sub.sel [] rfl, fun _ => Sub.sel [3] rfl⟩, ?_⟩
        conv => whnf
        refine ⟨?_, trivial⟩
        conv => whnf
        refine (show StoreV _ _ _ ⟨p, 2, none⟩ _ _ _ from ?_)
        refine StoreV.c rfl rfl (Nat.le_of_ble_eq_true rfl) rfl ?_
        conv => whnf
        refine ⟨⟨Sub.sel [] rfl, fun h => by cases h⟩, ?_⟩
        conv => whnf
        refine ⟨(gb, gc), hcap, ⟨rfl, rfl, trivial⟩, ?_⟩
        dsimp only [ownS, ownI]
        rw [own_snocF seatF m.L (-7, 0) gb gc]
        exact Sub.sel [3, 1, 2] rfl
      · refine ⟨?_, trivial⟩
        intro b1
        conv => whnf
        refine ⟨⟨Sub.sel [] rfl, fun _ => Sub.sel [3] rfl⟩, ?_⟩
        conv => whnf
        refine ⟨?_, trivial⟩
        refine BuiltV.sub (Sub.trans (Sub.sel [1, 0, 2, 3] rfl) (Sub.own (n := 0) (sz := 2) rfl (by decide))) ?_
        refine BuiltV.append_sv (oa := s.oL) (m := m.L.length) (news := m.L.flatMap seatF) (g := some (b0, 0)) (n := 0) (sz := 2) Try.underlying22 rfl rfl rfl rfl (by decide) (Src.foreign hr.L hc.1) (by rw [SL.flat_length seatF_length]) (by first | exact seats_one _ | exact items_one _) (by show (0 + m.L.length) * 16 ≤ _; omega) (by omega) fun g1 hg1 => ?_
        obtain ⟨x1, y1, rfl⟩ : ∃ b c, g1 = some (b, c) := by
          cases g1 with
          | none => exact absurd (hg1.1 rfl).1 (by simp)
          | some p => exact ⟨p.1, p.2, rfl⟩
        rw [Nat.zero_add, List.nil_append]
        conv => whnf
        refine ⟨⟨Sub.sel [] rfl, fun _ => Sub.sel [3] rfl⟩, ?_⟩
        conv => whnf
        refine ⟨?_, trivial⟩
        refine BuiltV.caps (SL.BuiltV.append (sv := svOf (some (x1, y1)) m.L.length) (m := 1) Try.underlying22 rfl rfl rfl rfl (by decide) (Row.cells 2) rfl (by decide) rfl (by show (m.L.length + 1) * 16 ≤ _; omega) (by omega) fun gb gc hcap => ?_)
        replace hcap : m.L.length + 1 ≤ gc := hcap gb _ gc _ _ _ (by first | exact List.mem_cons_self | exact List.mem_cons_of_mem _ List.mem_cons_self)
        conv => whnf
        refine ⟨⟨Sub.sel [] rfl, fun _ => Sub.sel [3] rfl⟩, ?_⟩
        conv => whnf
        refine ⟨?_, trivial⟩
        conv => whnf
        refine DoV.slice_own Try.underlying22 rfl (by omega) (by omega) ?_
        rw [Int.toNat_natCast]
        conv => whnf
        refine ⟨⟨Sub.sel [] rfl, fun _ => Sub.sel [3] rfl⟩, ?_⟩
        conv => whnf
        refine ⟨?_, trivial⟩
        conv => whnf
        refine (show StoreV _ _ _ ⟨p, 2, none⟩ _ _ _ from ?_)
        refine StoreV.c rfl rfl (Nat.le_of_ble_eq_true rfl) rfl ?_
        conv => whnf
        refine ⟨⟨Sub.sel [] rfl, fun h => by cases h⟩, ?_⟩
        conv => whnf
        refine ⟨(gb, gc), hcap, ⟨rfl, rfl, trivial⟩, ?_⟩
        dsimp only [ownS, ownI]
        rw [own_snocF seatF m.L (-7, 0) gb gc]
        exact Sub.sel [3, 0, 2] rfl
    · refine ⟨?_, trivial⟩
      intro b1
      conv => whnf
      refine ⟨⟨Sub.sel [] rfl, fun _ => Sub.sel [2] rfl⟩, ?_⟩
      conv => whnf
      refine ⟨?_, trivial⟩
      intro b0
      conv => whnf
      refine ⟨⟨Sub.sel [] rfl, fun _ => Sub.sel [3] rfl⟩, ?_⟩
      conv => whnf
      refine ⟨?_, trivial⟩
      refine BuiltV.sub (Sub.trans (Sub.refl _) (Sub.own (n := 0) (sz := 2) rfl (by decide))) ?_
      refine BuiltV.append_sv (oa := s.oL) (m := m.L.length) (news := m.L.flatMap seatF) (g := some (b0, 0)) (n := 0) (sz := 2) Try.underlying22 rfl rfl rfl rfl (by decide) (Src.foreign hr.L hc.1) (by rw [SL.flat_length seatF_length]) (by first | exact seats_one _ | exact items_one _) (by show (0 + m.L.length) * 16 ≤ _; omega) (by omega) fun g1 hg1 => ?_
      obtain ⟨x1, y1, rfl⟩ : ∃ b c, g1 = some (b, c) := by
        cases g1 with
        | none => exact absurd (hg1.1 rfl).1 (by simp)
        | some p => exact ⟨p.1, p.2, rfl⟩
      rw [Nat.zero_add, List.nil_append]
      conv => whnf
      refine ⟨⟨Sub.sel [] rfl, fun _ => Sub.sel [3] rfl⟩, ?_⟩
      conv => whnf
      refine ⟨?_, trivial⟩
      refine BuiltV.caps (SL.BuiltV.append (sv := svOf (some (x1, y1)) m.L.length) (m := 1) Try.underlying22 rfl rfl rfl rfl (by decide) (Row.cells 2) rfl (by decide) rfl (by show (m.L.length + 1) * 16 ≤ _; omega) (by omega) fun gb gc hcap => ?_)
      replace hcap : m.L.length + 1 ≤ gc := hcap gb _ gc _ _ _ (by first | exact List.mem_cons_self | exact List.mem_cons_of_mem _ List.mem_cons_self)
      conv => whnf
      refine ⟨⟨Sub.sel [] rfl, fun _ => Sub.sel [3] rfl⟩, ?_⟩
      conv => whnf
      refine ⟨?_, trivial⟩
      conv => whnf
      refine DoV.slice_own Try.underlying22 rfl (by omega) (by omega) ?_
      rw [Int.toNat_natCast]
      conv => whnf
      refine ⟨⟨Sub.sel [] rfl, fun _ => Sub.sel [3] rfl⟩, ?_⟩
      conv => whnf
      refine ⟨?_, trivial⟩
      conv => whnf
      refine (show StoreV _ _ _ ⟨p, 2, none⟩ _ _ _ from ?_)
      refine StoreV.c rfl rfl (Nat.le_of_ble_eq_true rfl) rfl ?_
      conv => whnf
      refine ⟨⟨Sub.sel [] rfl, fun h => by cases h⟩, ?_⟩
      conv => whnf
      refine ⟨(gb, gc), hcap, ⟨rfl, rfl, trivial⟩, ?_⟩
      dsimp only [ownS, ownI]
      rw [own_snocF seatF m.L (-7, 0) gb gc]
      exact Sub.sel [3, 0, 2] rfl
  rintro ⟨gl, cl⟩ f1 hcl
  dsimp only
  conv => whnf
  refine SL.Late.Tree.drawTC lnT [0, 4, 6, 7, 12, 15] [3, 10] [15] [] [_]
    (fun y : Nat × Nat => [(1, .pointer (some ⟨p, 0, none⟩)), (2, .pointer (some ⟨c, 0, none⟩))]) (fun y => [.cells p (msgL m { s with oL := some ⟨gl, 0, none⟩, cL := cl, oJ := some ⟨y.1, 0, none⟩, cJ := y.2 }) 38 (0, 0), ownS (some y) (m.J ++ [(-8, 0)]), ownS (some (gl, cl)) (m.L ++ [(-7, 0)]), .cells c (msgL zMsg zSls) 38 (0, 0)]) (fun y => m.J.length + 1 ≤ y.2)
    (by kernel_rfl) (by kernel_rfl) (by kernel_rfl) (by kernel_rfl) (by kernel_rfl) (by kernel_rfl) (by kernel_rfl) (by kernel_rfl) (by kernel_rfl) (Sub.sel [] rfl) (Sub.sel [0] rfl) ?_ ?_
  · conv => whnf
    refine (show LoadV _ _ _ ⟨p, 3, none⟩ _ _ from ?_)
    refine LoadV.s rfl rfl (forceV_of ?_)
    conv => whnf
    refine (show LoadV _ _ _ ⟨p, 3, none⟩ _ _ from ?_)
    refine LoadV.s rfl rfl (forceV_of ?_)
    conv => whnf
    refine ⟨?_, ?_⟩
    · intro b0
      conv => whnf
      refine ⟨⟨Sub.sel [] rfl, fun _ => Sub.sel [1] rfl⟩, ?_⟩
      conv => whnf
      refine ⟨?_, ?_⟩
      · refine BuiltV.sub (Sub.trans (Sub.refl _) (Sub.own (n := 0) (sz := 2) rfl (by decide))) ?_
        refine BuiltV.append_sv (oa := s.oJ) (m := m.J.length) (news := m.J.flatMap seatF) (g := some (b0, 0)) (n := 0) (sz := 2) Try.underlying22 rfl rfl rfl rfl (by decide) (Src.foreign hr.J hc.2.1) (by rw [SL.flat_length seatF_length]) (by first | exact seats_one _ | exact items_one _) (by show (0 + m.J.length) * 16 ≤ _; omega) (by omega) fun g1 hg1 => ?_
        obtain ⟨x1, y1, rfl⟩ : ∃ b c, g1 = some (b, c) := by
          cases g1 with
          | none => exact absurd (hg1.1 rfl).1 (by simp)
          | some p => exact ⟨p.1, p.2, rfl⟩
        rw [Nat.zero_add, List.nil_append]
        conv => whnf
        refine ⟨⟨Sub.sel [] rfl, fun _ => Sub.sel [1] rfl⟩, ?_⟩
        conv => whnf
        refine ⟨?_, trivial⟩
        intro b1
        conv => whnf
        refine ⟨⟨Sub.sel [] rfl, fun _ => Sub.sel [2] rfl⟩, ?_⟩
        conv => whnf
        refine ⟨?_, trivial⟩
        refine BuiltV.caps (SL.BuiltV.append (sv := svOf (some (x1, y1)) m.J.length) (m := 1) Try.underlying22 rfl rfl rfl rfl (by decide) (Row.cells 2) rfl (by decide) rfl (by show (m.J.length + 1) * 16 ≤ _; omega) (by omega) fun gb gc hcap => ?_)
        replace hcap : m.J.length + 1 ≤ gc := hcap gb _ gc _ _ _ (by first | exact List.mem_cons_self | exact List.mem_cons_of_mem _ List.mem_cons_self)
        conv => whnf
        refine ⟨⟨Sub.sel [] rfl, fun _ => Sub.sel [2] rfl⟩, ?_⟩
        conv => whnf
        refine ⟨?_, trivial⟩
        conv => whnf
        refine DoV.slice_own Try.underlying22 rfl (by omega) (by omega) ?_
        rw [Int.toNat_natCast]
        conv => whnf
        refine ⟨⟨Sub.sel [] rfl, fun _ => Sub.sel [2] rfl⟩, ?_⟩
        conv => whnf
        refine ⟨?_, trivial⟩
        conv => whnf
        refine (show StoreV _ _ _ ⟨p, 3, none⟩ _ _ _ from ?_)
        refine StoreV.c rfl rfl (Nat.le_of_ble_eq_true rfl) rfl ?_
        conv => whnf
        refine ⟨⟨Sub.sel [] rfl, fun h => by cases h⟩, ?_⟩
        conv => whnf
        refine ⟨(gb, gc), hcap, ⟨rfl, rfl, trivial⟩, ?_⟩
        dsimp only [ownS, ownI]
        rw [own_snocF seatF m.J (-8, 0) gb gc]
        exact Sub.sel [2, 1, 3, 4] rfl
      · refine ⟨?_, trivial⟩
        intro b1
        conv => whnf
        refine ⟨⟨Sub.sel [] rfl, fun _ => Sub.sel [2] rfl⟩, ?_⟩
        conv => whnf
        refine ⟨?_, trivial⟩
        refine BuiltV.sub (Sub.trans (Sub.sel [1, 0, 2, 3, 4] rfl) (Sub.own (n := 0) (sz := 2) rfl (by decide))) ?_
        refine BuiltV.append_sv (oa := s.oJ) (m := m.J.length) (news := m.J.flatMap seatF) (g := some (b0, 0)) (n := 0) (sz := 2) Try.underlying22 rfl rfl rfl rfl (by decide) (Src.foreign hr.J hc.2.1) (by rw [SL.flat_length seatF_length]) (by first | exact seats_one _ | exact items_one _) (by show (0 + m.J.length) * 16 ≤ _; omega) (by omega) fun g1 hg1 => ?_
        obtain ⟨x1, y1, rfl⟩ : ∃ b c, g1 = some (b, c) := by
          cases g1 with
          | none => exact absurd (hg1.1 rfl).1 (by simp)
          | some p => exact ⟨p.1, p.2, rfl⟩
        rw [Nat.zero_add, List.nil_append]
        conv => whnf
        refine ⟨⟨Sub.sel [] rfl, fun _ => Sub.sel [2] rfl⟩, ?_⟩
        conv => whnf
        refine ⟨?_, trivial⟩
        refine BuiltV.caps (SL.BuiltV.append (sv := svOf (some (x1, y1)) m.J.length) (m := 1) Try.underlying22 rfl rfl rfl rfl (by decide) (Row.cells 2) rfl (by decide) rfl (by show (m.J.length + 1) * 16 ≤ _; omega) (by omega) fun gb gc hcap => ?_)
        replace hcap : m.J.length + 1 ≤ gc := hcap gb _ gc _ _ _ (by first | exact List.mem_cons_self | exact List.mem_cons_of_mem _ List.mem_cons_self)
        conv => whnf
        refine ⟨⟨Sub.sel [] rfl, fun _ => Sub.sel [2] rfl⟩, ?_⟩
        conv => whnf
        refine ⟨?_, trivial⟩
        conv => whnf
        refine DoV.slice_own Try.underlying22 rfl (by omega) (by omega) ?_
        rw [Int.toNat_natCast]
        conv => whnf
        refine ⟨⟨Sub.sel [] rfl, fun _ => Sub.sel [2] rfl⟩, ?_⟩
        conv => whnf
        refine ⟨?_, trivial⟩
        conv => whnf
        refine (show StoreV _ _ _ ⟨p, 3, none⟩ _ _ _ from ?_)
        refine StoreV.c rfl rfl (Nat.le_of_ble_eq_true rfl) rfl ?_
        conv => whnf
        refine ⟨⟨Sub.sel [] rfl, fun h => by cases h⟩, ?_⟩
        conv => whnf
        refine ⟨(gb, gc), hcap, ⟨rfl, rfl, trivial⟩, ?_⟩
        dsimp only [ownS, ownI]
        rw [own_snocF seatF m.J (-8, 0) gb gc]
        exact Sub.sel [2, 0, 3, 4] rfl
    · refine ⟨?_, trivial⟩
      intro b1
      conv => whnf
      refine ⟨⟨Sub.sel [] rfl, fun _ => Sub.sel [1] rfl⟩, ?_⟩
      conv => whnf
      refine ⟨?_, trivial⟩
      intro b0
      conv => whnf
      refine ⟨⟨Sub.sel [] rfl, fun _ => Sub.sel [2] rfl⟩, ?_⟩
      conv => whnf
      refine ⟨?_, trivial⟩
      refine BuiltV.sub (Sub.trans (Sub.refl _) (Sub.own (n := 0) (sz := 2) rfl (by decide))) ?_
      refine BuiltV.append_sv (oa := s.oJ) (m := m.J.length) (news := m.J.flatMap seatF) (g := some (b0, 0)) (n := 0) (sz := 2) Try.underlying22 rfl rfl rfl rfl (by decide) (Src.foreign hr.J hc.2.1) (by rw [SL.flat_length seatF_length]) (by first | exact seats_one _ | exact items_one _) (by show (0 + m.J.length) * 16 ≤ _; omega) (by omega) fun g1 hg1 => ?_
      obtain ⟨x1, y1, rfl⟩ : ∃ b c, g1 = some (b, c) := by
        cases g1 with
        | none => exact absurd (hg1.1 rfl).1 (by simp)
        | some p => exact ⟨p.1, p.2, rfl⟩
      rw [Nat.zero_add, List.nil_append]
      conv => whnf
      refine ⟨⟨Sub.sel [] rfl, fun _ => Sub.sel [2] rfl⟩, ?_⟩
      conv => whnf
      refine ⟨?_, trivial⟩
      refine BuiltV.caps (SL.BuiltV.append (sv := svOf (some (x1, y1)) m.J.length) (m := 1) Try.underlying22 rfl rfl rfl rfl (by decide) (Row.cells 2) rfl (by decide) rfl (by show (m.J.length + 1) * 16 ≤ _; omega) (by omega) fun gb gc hcap => ?_)
      replace hcap : m.J.length + 1 ≤ gc := hcap gb _ gc _ _ _ (by first | exact List.mem_cons_self | exact List.mem_cons_of_mem _ List.mem_cons_self)
      conv => whnf
      refine ⟨⟨Sub.sel [] rfl, fun _ => Sub.sel [2] rfl⟩, ?_⟩
      conv => whnf
      refine ⟨?_, trivial⟩
      conv => whnf
      refine DoV.slice_own Try.underlying22 rfl (by omega) (by omega) ?_
      rw [Int.toNat_natCast]
      conv => whnf
      refine ⟨⟨Sub.sel [] rfl, fun _ => Sub.sel [2] rfl⟩, ?_⟩
      conv => whnf
      refine ⟨?_, trivial⟩
      conv => whnf
      refine (show StoreV _ _ _ ⟨p, 3, none⟩ _ _ _ from ?_)
      refine StoreV.c rfl rfl (Nat.le_of_ble_eq_true rfl) rfl ?_
      conv => whnf
      refine ⟨⟨Sub.sel [] rfl, fun h => by cases h⟩, ?_⟩
      conv => whnf
      refine ⟨(gb, gc), hcap, ⟨rfl, rfl, trivial⟩, ?_⟩
      dsimp only [ownS, ownI]
      rw [own_snocF seatF m.J (-8, 0) gb gc]
      exact Sub.sel [2, 0, 3, 4] rfl
  rintro ⟨gj, cj⟩ f2 hcj
  dsimp only
  conv => whnf
  refine SL.Late.Tree.drawTC lnT [0, 4, 6, 7, 12, 15] [3, 10] [15] [] [_]
    (fun y : Nat × Nat => [(1, .pointer (some ⟨p, 0, none⟩)), (2, .pointer (some ⟨c, 0, none⟩))]) (fun y => [.cells p (msgL m ⟨some ⟨gl, 0, none⟩, cl, some ⟨gj, 0, none⟩, cj, some ⟨y.1, 0, none⟩, y.2⟩) 38 (0, 0), ownI (some y) (m.I ++ [(-9, 0, 0, 0, 0, 0)]), ownS (some (gj, cj)) (m.J ++ [(-8, 0)]), ownS (some (gl, cl)) (m.L ++ [(-7, 0)]), .cells c (msgL zMsg zSls) 38 (0, 0)]) (fun y => m.I.length + 1 ≤ y.2)
    (by kernel_rfl) (by kernel_rfl) (by kernel_rfl) (by kernel_rfl) (by kernel_rfl) (by kernel_rfl) (by kernel_rfl) (by kernel_rfl) (by kernel_rfl) (Sub.sel [] rfl) (Sub.sel [0] rfl) ?_ ?_
  · conv => whnf
    refine (show LoadV _ _ _ ⟨p, 4, none⟩ _ _ from ?_)
    refine LoadV.s rfl rfl (forceV_of ?_)
    conv => whnf
    refine (show LoadV _ _ _ ⟨p, 4, none⟩ _ _ from ?_)
    refine LoadV.s rfl rfl (forceV_of ?_)
    conv => whnf
    refine ⟨?_, ?_⟩
    · intro b0
      conv => whnf
      refine ⟨⟨Sub.sel [] rfl, fun _ => Sub.sel [1] rfl⟩, ?_⟩
      conv => whnf
      refine ⟨?_, ?_⟩
      · refine BuiltV.sub (Sub.trans (Sub.refl _) (Sub.own (n := 0) (sz := 6) rfl (by decide))) ?_
        refine BuiltV.append_sv (oa := s.oI) (m := m.I.length) (news := m.I.flatMap itemF) (g := some (b0, 0)) (n := 0) (sz := 6) Try.underlying23 rfl rfl rfl rfl (by decide) (Src.foreign hr.I hc.2.2) (by rw [SL.flat_length itemF_length]) (by first | exact seats_one _ | exact items_one _) (by show (0 + m.I.length) * 48 ≤ _; omega) (by omega) fun g1 hg1 => ?_
        obtain ⟨x1, y1, rfl⟩ : ∃ b c, g1 = some (b, c) := by
          cases g1 with
          | none => exact absurd (hg1.1 rfl).1 (by simp)
          | some p => exact ⟨p.1, p.2, rfl⟩
        rw [Nat.zero_add, List.nil_append]
        conv => whnf
        refine ⟨⟨Sub.sel [] rfl, fun _ => Sub.sel [1] rfl⟩, ?_⟩
        conv => whnf
        refine ⟨?_, trivial⟩
        intro b1
        conv => whnf
        refine ⟨⟨Sub.sel [] rfl, fun _ => Sub.sel [2] rfl⟩, ?_⟩
        conv => whnf
        refine ⟨?_, trivial⟩
        refine BuiltV.caps (SL.BuiltV.append (sv := svOf (some (x1, y1)) m.I.length) (m := 1) Try.underlying23 rfl rfl rfl rfl (by decide) (Row.cells 6) rfl (by decide) rfl (by show (m.I.length + 1) * 48 ≤ _; omega) (by omega) fun gb gc hcap => ?_)
        replace hcap : m.I.length + 1 ≤ gc := hcap gb _ gc _ _ _ (by first | exact List.mem_cons_self | exact List.mem_cons_of_mem _ List.mem_cons_self)
        conv => whnf
        refine ⟨⟨Sub.sel [] rfl, fun _ => Sub.sel [2] rfl⟩, ?_⟩
        conv => whnf
        refine ⟨?_, trivial⟩
        conv => whnf
        refine DoV.slice_own Try.underlying23 rfl (by omega) (by omega) ?_
        rw [Int.toNat_natCast]
        conv => whnf
        refine ⟨⟨Sub.sel [] rfl, fun _ => Sub.sel [2] rfl⟩, ?_⟩
        conv => whnf
        refine ⟨?_, trivial⟩
        conv => whnf
        refine (show StoreV _ _ _ ⟨p, 4, none⟩ _ _ _ from ?_)
        refine StoreV.c rfl rfl (Nat.le_of_ble_eq_true rfl) rfl ?_
        conv => whnf
        refine ⟨⟨Sub.sel [] rfl, fun h => by cases h⟩, ?_⟩
        conv => whnf
        refine ⟨(gb, gc), hcap, ⟨rfl, rfl, trivial⟩, ?_⟩
        dsimp only [ownS, ownI]
        rw [own_snocF itemF m.I (-9, 0, 0, 0, 0, 0) gb gc]
        exact Sub.sel [2, 1, 3, 4, 5] rfl
      · refine ⟨?_, trivial⟩
        intro b1
        conv => whnf
        refine ⟨⟨Sub.sel [] rfl, fun _ => Sub.sel [2] rfl⟩, ?_⟩
        conv => whnf
        refine ⟨?_, trivial⟩
        refine BuiltV.sub (Sub.trans (Sub.sel [1, 0, 2, 3, 4, 5] rfl) (Sub.own (n := 0) (sz := 6) rfl (by decide))) ?_
        refine BuiltV.append_sv (oa := s.oI) (m := m.I.length) (news := m.I.flatMap itemF) (g := some (b0, 0)) (n := 0) (sz := 6) Try.underlying23 rfl rfl rfl rfl (by decide) (Src.foreign hr.I hc.2.2) (by rw [SL.flat_length itemF_length]) (by first | exact seats_one _ | exact items_one _) (by show (0 + m.I.length) * 48 ≤ _; omega) (by omega) fun g1 hg1 => ?_
        obtain ⟨x1, y1, rfl⟩ : ∃ b c, g1 = some (b, c) := by
          cases g1 with
          | none => exact absurd (hg1.1 rfl).1 (by simp)
          | some p => exact ⟨p.1, p.2, rfl⟩
        rw [Nat.zero_add, List.nil_append]
        conv => whnf
        refine ⟨⟨Sub.sel [] rfl, fun _ => Sub.sel [2] rfl⟩, ?_⟩
        conv => whnf
        refine ⟨?_, trivial⟩
        refine BuiltV.caps (SL.BuiltV.append (sv := svOf (some (x1, y1)) m.I.length) (m := 1) Try.underlying23 rfl rfl rfl rfl (by decide) (Row.cells 6) rfl (by decide) rfl (by show (m.I.length + 1) * 48 ≤ _; omega) (by omega) fun gb gc hcap => ?_)
        replace hcap : m.I.length + 1 ≤ gc := hcap gb _ gc _ _ _ (by first | exact List.mem_cons_self | exact List.mem_cons_of_mem _ List.mem_cons_self)
        conv => whnf
        refine ⟨⟨Sub.sel [] rfl, fun _ => Sub.sel [2] rfl⟩, ?_⟩
        conv => whnf
        refine ⟨?_, trivial⟩
        conv => whnf
        refine DoV.slice_own Try.underlying23 rfl (by omega) (by omega) ?_
        rw [Int.toNat_natCast]
        conv => whnf
        refine ⟨⟨Sub.sel [] rfl, fun _ => Sub.sel [2] rfl⟩, ?_⟩
        conv => whnf
        refine ⟨?_, trivial⟩
        conv => whnf
        refine (show StoreV _ _ _ ⟨p, 4, none⟩ _ _ _ from ?_)
        refine StoreV.c rfl rfl (Nat.le_of_ble_eq_true rfl) rfl ?_
        conv => whnf
        refine ⟨⟨Sub.sel [] rfl, fun h => by cases h⟩, ?_⟩
        conv => whnf
        refine ⟨(gb, gc), hcap, ⟨rfl, rfl, trivial⟩, ?_⟩
        dsimp only [ownS, ownI]
        rw [own_snocF itemF m.I (-9, 0, 0, 0, 0, 0) gb gc]
        exact Sub.sel [2, 0, 3, 4, 5] rfl
    · refine ⟨?_, trivial⟩
      intro b1
      conv => whnf
      refine ⟨⟨Sub.sel [] rfl, fun _ => Sub.sel [1] rfl⟩, ?_⟩
      conv => whnf
      refine ⟨?_, trivial⟩
      intro b0
      conv => whnf
      refine ⟨⟨Sub.sel [] rfl, fun _ => Sub.sel [2] rfl⟩, ?_⟩
      conv => whnf
      refine ⟨?_, trivial⟩
      refine BuiltV.sub (Sub.trans (Sub.refl _) (Sub.own (n := 0) (sz := 6) rfl (by decide))) ?_
      refine BuiltV.append_sv (oa := s.oI) (m := m.I.length) (news := m.I.flatMap itemF) (g := some (b0, 0)) (n := 0) (sz := 6) Try.underlying23 rfl rfl rfl rfl (by decide) (Src.foreign hr.I hc.2.2) (by rw [SL.flat_length itemF_length]) (by first | exact seats_one _ | exact items_one _) (by show (0 + m.I.length) * 48 ≤ _; omega) (by omega) fun g1 hg1 => ?_
      obtain ⟨x1, y1, rfl⟩ : ∃ b c, g1 = some (b, c) := by
        cases g1 with
        | none => exact absurd (hg1.1 rfl).1 (by simp)
        | some p => exact ⟨p.1, p.2, rfl⟩
      rw [Nat.zero_add, List.nil_append]
      conv => whnf
      refine ⟨⟨Sub.sel [] rfl, fun _ => Sub.sel [2] rfl⟩, ?_⟩
      conv => whnf
      refine ⟨?_, trivial⟩
      refine BuiltV.caps (SL.BuiltV.append (sv := svOf (some (x1, y1)) m.I.length) (m := 1) Try.underlying23 rfl rfl rfl rfl (by decide) (Row.cells 6) rfl (by decide) rfl (by show (m.I.length + 1) * 48 ≤ _; omega) (by omega) fun gb gc hcap => ?_)
      replace hcap : m.I.length + 1 ≤ gc := hcap gb _ gc _ _ _ (by first | exact List.mem_cons_self | exact List.mem_cons_of_mem _ List.mem_cons_self)
      conv => whnf
      refine ⟨⟨Sub.sel [] rfl, fun _ => Sub.sel [2] rfl⟩, ?_⟩
      conv => whnf
      refine ⟨?_, trivial⟩
      conv => whnf
      refine DoV.slice_own Try.underlying23 rfl (by omega) (by omega) ?_
      rw [Int.toNat_natCast]
      conv => whnf
      refine ⟨⟨Sub.sel [] rfl, fun _ => Sub.sel [2] rfl⟩, ?_⟩
      conv => whnf
      refine ⟨?_, trivial⟩
      conv => whnf
      refine (show StoreV _ _ _ ⟨p, 4, none⟩ _ _ _ from ?_)
      refine StoreV.c rfl rfl (Nat.le_of_ble_eq_true rfl) rfl ?_
      conv => whnf
      refine ⟨⟨Sub.sel [] rfl, fun h => by cases h⟩, ?_⟩
      conv => whnf
      refine ⟨(gb, gc), hcap, ⟨rfl, rfl, trivial⟩, ?_⟩
      dsimp only [ownS, ownI]
      rw [own_snocF itemF m.I (-9, 0, 0, 0, 0, 0) gb gc]
      exact Sub.sel [2, 0, 3, 4, 5] rfl
  rintro ⟨gi, ci⟩ f3 hci
  dsimp only
  conv => whnf
  refine LoadV.a 26 rfl (Nat.le_of_ble_eq_true rfl) ?_
  conv => whnf
  refine StoreV.c rfl rfl (Nat.le_of_ble_eq_true rfl) rfl ?_
  conv => whnf
  refine RetI.cell Try.results16 rfl ?_
  refine LoadV.a 26 rfl (Nat.le_of_ble_eq_true rfl) ?_
  conv => whnf
  exact ⟨_, Sub.sel [3, 2, 1] rfl, gl, cl, gj, cj, gi, ci, hcl, hcj, hci, rfl, rfl⟩
end Go.Proofs.Ytlbdnkkaacccoaa
