/- What the laws' proofs stand on, in one row: laws in numbers and lists, contracts of functions. No condition. -/
import Derived.Test.YtlfmckjehjedpaaGreatDoorQ1
/- Who sits where. -/
namespace Go.Proofs.YtlfmckjehjedpaaGreatDoor
set_option linter.unusedVariables false
set_option linter.unusedSimpArgs false
set_option maxRecDepth 100000
open SL Go.RowKit Go.Maps
def findI : List EntI → Int → Int → Int
  | [], _, _ => -1
  | e :: l, who, k => if tk e ∧ e.1 = who then k else findI l who (k + 1)
theorem findI_step {r : List EntI} {who : Int} {i : Nat} (h : i < r.length) : findI (r.drop i) who (i : Int) = if tk r[i] ∧ r[i].1 = who then (i : Int) else findI (r.drop (i + 1)) who ((i + 1 : Nat) : Int) := by
  rw [List.drop_eq_getElem_cons h]; rfl
theorem findI_end {r : List EntI} {who : Int} {i : Nat} (h : r.length ≤ i) (k : Int) : findI (r.drop i) who k = -1 := by
  rw [List.drop_of_length_le h]; rfl
/-- What is found: -1 where nobody is, else the first seat. -/
theorem findI_spec (who : Int) : ∀ (r : List EntI) (k : Int), 0 ≤ k → (findI r who k = -1 ∧ ∀ i (h : i < r.length), ¬ (tk r[i] ∧ r[i].1 = who)) ∨ ∃ i, ∃ h : i < r.length, findI r who k = k + i ∧ (tk r[i] ∧ r[i].1 = who) ∧ ∀ j (hj : j < i), ¬ (tk (r[j]'(by omega)) ∧ (r[j]'(by omega)).1 = who)
  | [], k, _ => .inl ⟨rfl, fun i h => by simp at h⟩
  | e :: l, k, hk => by
    by_cases h : tk e ∧ e.1 = who
    · refine .inr ⟨0, by simp, ?_, h, fun j hj => by omega⟩
      show (if tk e ∧ e.1 = who then k else _) = _
      rw [if_pos h]; simp
    · have hf : findI (e :: l) who k = findI l who (k + 1) := if_neg h
      rcases findI_spec who l (k + 1) (by omega) with ⟨h1, h2⟩ | ⟨i, hi, h1, h2, h3⟩
      · refine .inl ⟨by rw [hf, h1], fun i hi => ?_⟩
        cases i with
        | zero => exact h
        | succ i => exact h2 i (by simpa using hi)
      · refine .inr ⟨i + 1, by simpa using hi, by rw [hf, h1]; omega, h2, fun j hj => ?_⟩
        cases j with
        | zero => exact h
        | succ j => exact h3 j (by omega)
theorem hit_iff (e : EntI) (who : Int) : (tkB e && (e.1 == who)) = true ↔ tk e ∧ e.1 = who := by rw [Bool.and_eq_true, tkB_iff, beq_iff_eq]
theorem find1_ok (F : Mem) (e : EntI) (b : Nat) (who : Int) (hb : RdC F ⟨b, 0, none⟩ (.int .i64 who)) : FT Tryz.prog 103 [.agg (entF e).toArray, .pointer (some ⟨b, 0, none⟩)].toArray F [] (Ret (.bool (tkB e && (e.1 == who)))) := by
  obtain ⟨w, bs, si⟩ := e
  rw [show entF (w, bs, si) = [.int .i64 w, .int .i64 bs, .int .i64 si] from rfl]
  refine FT.of_body Tryz.func103 rfl Tryz.ntmps103 (by simp) fun C hC => ?_
  subst hC
  conv => whnf
  intro b2
  conv => whnf
  refine LoadV.s rfl rfl ?_
  conv => whnf
  refine cond_split (fun h => ?_) (fun h => ?_)
  · conv => whnf
    refine LoadV.s rfl rfl ?_
    conv => whnf
    refine LoadV.f hb rfl ?_
    conv => whnf
    repeat (first | (refine LoadV.s rfl rfl (forceV_of ?_); conv => whnf) | (refine LoadV.s rfl rfl ?_; conv => whnf) | (refine StoreV.c rfl rfl (Nat.le_of_ble_eq_true rfl) rfl ?_; conv => whnf) | (refine LoadV.a _ rfl (Nat.le_of_ble_eq_true rfl) ?_; conv => whnf) | (refine DrawI.quiet (by kernel_rfl) (by kernel_rfl) ?_; conv => whnf) | (refine ArI.in64 (by omega) ?_; conv => whnf) | (refine ArI.inU8 (by omega) ?_; conv => whnf) | (refine ArI.inU64 (by omega) ?_; conv => whnf) | (refine ArI.inU32 (by omega) ?_; conv => whnf) | (refine RetI.one Tryz.results103 rfl ?_; conv => whnf) | (refine RetI.two Tryz.results103 rfl rfl ?_; conv => whnf) | (refine RetI.three Tryz.results103 rfl rfl rfl ?_; conv => whnf) | (refine RetI.none Tryz.results103 ?_; conv => whnf) | (refine ⟨by first | decide | omega, ?_⟩; conv => whnf))
    exact ⟨_, Sub.sel [] rfl, ret_bool (by show _ = ((bs != 0) && (w == who)); rw [h]; rfl), rfl⟩
  · conv => whnf
    repeat (first | (refine LoadV.s rfl rfl (forceV_of ?_); conv => whnf) | (refine LoadV.s rfl rfl ?_; conv => whnf) | (refine StoreV.c rfl rfl (Nat.le_of_ble_eq_true rfl) rfl ?_; conv => whnf) | (refine LoadV.a _ rfl (Nat.le_of_ble_eq_true rfl) ?_; conv => whnf) | (refine DrawI.quiet (by kernel_rfl) (by kernel_rfl) ?_; conv => whnf) | (refine ArI.in64 (by omega) ?_; conv => whnf) | (refine ArI.inU8 (by omega) ?_; conv => whnf) | (refine ArI.inU64 (by omega) ?_; conv => whnf) | (refine ArI.inU32 (by omega) ?_; conv => whnf) | (refine RetI.one Tryz.results103 rfl ?_; conv => whnf) | (refine RetI.two Tryz.results103 rfl rfl ?_; conv => whnf) | (refine RetI.three Tryz.results103 rfl rfl rfl ?_; conv => whnf) | (refine RetI.none Tryz.results103 ?_; conv => whnf) | (refine ⟨by first | decide | omega, ?_⟩; conv => whnf))
    exact ⟨_, Sub.sel [] rfl, ret_bool (by show _ = ((bs != 0) && (w == who)); rw [h]; rfl), rfl⟩
theorem idxFind_ok (F : Mem) (oa : Option Addr) (c : Nat) (r : List EntI) (b : Nat) (who : Int) (hr : SlF F 3 oa r.length (rsV r)) (hn : r.length ≤ 1000) (hb : RdC F ⟨b, 0, none⟩ (.int .i64 who)) :
    FT Tryz.prog 102 [.slice oa r.length c, .func (.func 103) #[] #[.pointer (some ⟨b, 0, none⟩)]].toArray F [] (Ret (.int .i64 (findI r who 0))) := by
  refine FT.of_body Tryz.func102 rfl Tryz.ntmps102 (by simp) fun C hC => ?_
  subst hC
  conv => whnf
  refine LoopI.by_state (σ := Nat) (fun i => [(0, .slice oa r.length c), (1, .func (.func 103) #[] #[.pointer (some ⟨b, 0, none⟩)]), (7, .int .i64 (r.length : Int)), (8, .int .i64 (i : Int))]) (fun _ => []) (fun i => i ≤ r.length ∧ findI r who 0 = findI (r.drop i) who (i : Int)) (fun i => r.length - i) 0 ⟨Nat.zero_le _, rfl⟩ ⟨rfl, rfl, rfl, rfl, trivial⟩ (Sub.refl _) ?_
  rintro i f0 ⟨hi, hfi⟩
  conv => whnf
  refine cond_dec (fun h => ?_) (fun h => ?_)
  · have hil : i < r.length := by omega
    have hx := hr.at hil
    obtain ⟨xb, xo, rfl, hrow⟩ := hx
    rw [findI_step hil] at hfi
    have hrd := flat_row entF_length hrow hil rfl
    generalize r[i] = e at hfi hrd ⊢
    conv => whnf
    refine ⟨by omega, ?_⟩
    conv => whnf
    refine LoadV.fa hrd rfl ?_
    conv => whnf
    refine CallS.mk Tryz.call103 ⟨[], _, _, Sub.refl _, fun F' hF' => find1_ok F' e b who (hb.ext hF'.F), ?_⟩
    rintro ed A' ⟨rfl, rfl⟩
    cases hb2 : (tkB e && (e.1 == who)) with
    | true =>
      rw [if_pos ((hit_iff e who).1 hb2)] at hfi
      conv => whnf
      repeat (first | (refine LoadV.s rfl rfl (forceV_of ?_); conv => whnf) | (refine LoadV.s rfl rfl ?_; conv => whnf) | (refine StoreV.c rfl rfl (Nat.le_of_ble_eq_true rfl) rfl ?_; conv => whnf) | (refine LoadV.a _ rfl (Nat.le_of_ble_eq_true rfl) ?_; conv => whnf) | (refine DrawI.quiet (by kernel_rfl) (by kernel_rfl) ?_; conv => whnf) | (refine ArI.in64 (by omega) ?_; conv => whnf) | (refine ArI.inU8 (by omega) ?_; conv => whnf) | (refine ArI.inU64 (by omega) ?_; conv => whnf) | (refine ArI.inU32 (by omega) ?_; conv => whnf) | (refine RetI.one Tryz.results102 rfl ?_; conv => whnf) | (refine RetI.two Tryz.results102 rfl rfl ?_; conv => whnf) | (refine RetI.three Tryz.results102 rfl rfl rfl ?_; conv => whnf) | (refine RetI.none Tryz.results102 ?_; conv => whnf) | (refine ⟨by first | decide | omega, ?_⟩; conv => whnf))
      exact ⟨_, Sub.sel [] rfl, ret_int hfi.symm, rfl⟩
    | false =>
      rw [if_neg (fun hh => by rw [(hit_iff e who).2 hh] at hb2; cases hb2)] at hfi
      conv => whnf
      refine ArI.to64 ((i + 1 : Nat) : Int) (by omega) (by omega) ?_
      conv => whnf
      exact ⟨i + 1, _, by omega, Sub.sel [] rfl, ⟨by omega, hfi⟩, ⟨rfl, rfl, rfl, rfl, trivial⟩, rfl⟩
  · obtain rfl : i = r.length := by omega
    rw [findI_end (Nat.le_refl _)] at hfi
    rw [hfi]
    conv => whnf
    repeat (first | (refine LoadV.s rfl rfl (forceV_of ?_); conv => whnf) | (refine LoadV.s rfl rfl ?_; conv => whnf) | (refine StoreV.c rfl rfl (Nat.le_of_ble_eq_true rfl) rfl ?_; conv => whnf) | (refine LoadV.a _ rfl (Nat.le_of_ble_eq_true rfl) ?_; conv => whnf) | (refine DrawI.quiet (by kernel_rfl) (by kernel_rfl) ?_; conv => whnf) | (refine ArI.in64 (by omega) ?_; conv => whnf) | (refine ArI.inU8 (by omega) ?_; conv => whnf) | (refine ArI.inU64 (by omega) ?_; conv => whnf) | (refine ArI.inU32 (by omega) ?_; conv => whnf) | (refine RetI.one Tryz.results102 rfl ?_; conv => whnf) | (refine RetI.two Tryz.results102 rfl rfl ?_; conv => whnf) | (refine RetI.three Tryz.results102 rfl rfl rfl ?_; conv => whnf) | (refine RetI.none Tryz.results102 ?_; conv => whnf) | (refine ⟨by first | decide | omega, ?_⟩; conv => whnf))
    exact ⟨_, Sub.sel [] rfl, rfl, rfl⟩
set_option maxHeartbeats 400000 in
theorem find_ok (F : Mem) (r : List EntI) (hr : r.length = 64) (who : Int) : FT Tryz.prog 79 [.agg (rsV r).toArray, .int .i64 who].toArray F [] (Ret (.int .i64 (findI r who 0))) := by
  have hl := rsV_len hr
  refine FT.of_body Tryz.func79 rfl Tryz.ntmps79 (by simp) fun C hC => ?_
  subst hC
  conv => whnf
  intro b2
  conv => whnf
  intro b3
  conv => whnf
  refine DoV.slice_arr Tryz.underlying60 rfl ?_
  conv => whnf
  have hz := fun (F' : Mem) (h1 : SlF F' 3 (some ⟨b2, 0, none⟩) r.length (rsV r)) (h2 : RdC F' ⟨b3, 0, none⟩ (.int .i64 who)) => idxFind_ok F' (some ⟨b2, 0, none⟩) 64 r b3 who h1 (by omega) h2
  rw [hr] at hz
  rw [cap0, cap1]
  refine CallS.mk Tryz.call102 ⟨[], _, _, Sub.refl _, fun F' hF' => hz F' (SlF.cells hF' (by rw [hl])) (rd_cell hF' rfl), ?_⟩
  rintro e A' ⟨rfl, rfl⟩
  conv => whnf
  repeat (first | (refine LoadV.s rfl rfl (forceV_of ?_); conv => whnf) | (refine LoadV.s rfl rfl ?_; conv => whnf) | (refine StoreV.c rfl rfl (Nat.le_of_ble_eq_true rfl) rfl ?_; conv => whnf) | (refine LoadV.a _ rfl (Nat.le_of_ble_eq_true rfl) ?_; conv => whnf) | (refine DrawI.quiet (by kernel_rfl) (by kernel_rfl) ?_; conv => whnf) | (refine ArI.in64 (by omega) ?_; conv => whnf) | (refine ArI.inU8 (by omega) ?_; conv => whnf) | (refine ArI.inU64 (by omega) ?_; conv => whnf) | (refine ArI.inU32 (by omega) ?_; conv => whnf) | (refine RetI.one Tryz.results79 rfl ?_; conv => whnf) | (refine RetI.two Tryz.results79 rfl rfl ?_; conv => whnf) | (refine RetI.three Tryz.results79 rfl rfl rfl ?_; conv => whnf) | (refine RetI.none Tryz.results79 ?_; conv => whnf) | (refine ⟨by first | decide | omega, ?_⟩; conv => whnf))
  exact ⟨_, Sub.sel [] rfl, rfl, rfl⟩
set_option maxHeartbeats 400000 in
theorem rfind_ok (F : Mem) (r : List EntI) (hr : r.length = 64) (who : Int) : FT Tryz.prog 63 [.agg (rsV r).toArray, .int .i64 who].toArray F [] (Ret (.int .i64 (findI r who 0))) := by
  have hl := rsV_len hr
  refine FT.of_body Tryz.func63 rfl Tryz.ntmps63 (by simp) fun C hC => ?_
  subst hC
  conv => whnf
  intro b2
  conv => whnf
  refine LoopI.by_state (σ := Nat) (fun i => [(1, .int .i64 who), (2, .pointer (some ⟨b2, 0, none⟩)), (5, .int .i64 (i : Int))]) (fun _ => [.cells b2 (rsV r) 60 (0, 0)]) (fun i => i ≤ 64 ∧ findI r who 0 = findI (r.drop i) who (i : Int)) (fun i => 64 - i) 0 ⟨Nat.zero_le _, rfl⟩ ⟨rfl, rfl, rfl, trivial⟩ (Sub.refl _) ?_
  rintro i f0 ⟨hi, hfi⟩
  conv => whnf
  refine cond_dec (fun h => ?_) (fun h => ?_)
  · have hi64 : i < 64 := by omega
    rw [findI_step (by omega)] at hfi
    have h0 := rsV_at (l := r) (i := i) (j := 0) (by omega) (by omega)
    have h1 := rsV_at (l := r) (i := i) (j := 1) (by omega) (by omega)
    generalize r[i] = e at hfi h0 h1 ⊢
    conv => whnf
    refine ⟨by omega, ?_⟩
    conv => whnf
    rw [fld_addr (n := 3) (f' := 1)]
    rotate_left
    · kernel_rfl
    · rfl
    · kernel_rfl
    refine LoadV.s rfl h1 ?_
    conv => whnf
    refine cond_split (fun hb => ?_) (fun hb => ?_)
    · conv => whnf
      refine ⟨by omega, ?_⟩
      conv => whnf
      rw [fld_addr (n := 3) (f' := 0)]
      rotate_left
      · kernel_rfl
      · rfl
      · kernel_rfl
      refine LoadV.s rfl h0 ?_
      conv => whnf
      refine cond_split (fun hb2 => ?_) (fun hb2 => ?_)
      · rw [if_pos ((hit_iff e who).1 (by rw [Bool.and_eq_true]; exact ⟨hb, hb2⟩))] at hfi
        conv => whnf
        repeat (first | (refine LoadV.s rfl rfl (forceV_of ?_); conv => whnf) | (refine LoadV.s rfl rfl ?_; conv => whnf) | (refine StoreV.c rfl rfl (Nat.le_of_ble_eq_true rfl) rfl ?_; conv => whnf) | (refine LoadV.a _ rfl (Nat.le_of_ble_eq_true rfl) ?_; conv => whnf) | (refine DrawI.quiet (by kernel_rfl) (by kernel_rfl) ?_; conv => whnf) | (refine ArI.in64 (by omega) ?_; conv => whnf) | (refine ArI.inU8 (by omega) ?_; conv => whnf) | (refine ArI.inU64 (by omega) ?_; conv => whnf) | (refine ArI.inU32 (by omega) ?_; conv => whnf) | (refine RetI.one Tryz.results63 rfl ?_; conv => whnf) | (refine RetI.two Tryz.results63 rfl rfl ?_; conv => whnf) | (refine RetI.three Tryz.results63 rfl rfl rfl ?_; conv => whnf) | (refine RetI.none Tryz.results63 ?_; conv => whnf) | (refine ⟨by first | decide | omega, ?_⟩; conv => whnf))
        exact ⟨_, Sub.sel [] rfl, ret_int hfi.symm, rfl⟩
      · rw [if_neg (fun hh => by rw [← hit_iff, Bool.and_eq_true, hb2] at hh; cases hh.2)] at hfi
        conv => whnf
        refine ArI.to64 ((i + 1 : Nat) : Int) (by omega) (by omega) ?_
        conv => whnf
        exact ⟨i + 1, _, by omega, Sub.refl _, ⟨by omega, hfi⟩, ⟨rfl, rfl, rfl, trivial⟩, rfl⟩
    · rw [if_neg (fun hh => by rw [← hit_iff, Bool.and_eq_true] at hh; rw [show tkB e = false from hb] at hh; cases hh.1)] at hfi
      conv => whnf
      refine ArI.to64 ((i + 1 : Nat) : Int) (by omega) (by omega) ?_
      conv => whnf
      exact ⟨i + 1, _, by omega, Sub.refl _, ⟨by omega, hfi⟩, ⟨rfl, rfl, rfl, trivial⟩, rfl⟩
  · obtain rfl : i = 64 := by omega
    rw [findI_end (by omega)] at hfi
    rw [hfi]
    conv => whnf
    repeat (first | (refine LoadV.s rfl rfl (forceV_of ?_); conv => whnf) | (refine LoadV.s rfl rfl ?_; conv => whnf) | (refine StoreV.c rfl rfl (Nat.le_of_ble_eq_true rfl) rfl ?_; conv => whnf) | (refine LoadV.a _ rfl (Nat.le_of_ble_eq_true rfl) ?_; conv => whnf) | (refine DrawI.quiet (by kernel_rfl) (by kernel_rfl) ?_; conv => whnf) | (refine ArI.in64 (by omega) ?_; conv => whnf) | (refine ArI.inU8 (by omega) ?_; conv => whnf) | (refine ArI.inU64 (by omega) ?_; conv => whnf) | (refine ArI.inU32 (by omega) ?_; conv => whnf) | (refine RetI.one Tryz.results63 rfl ?_; conv => whnf) | (refine RetI.two Tryz.results63 rfl rfl ?_; conv => whnf) | (refine RetI.three Tryz.results63 rfl rfl rfl ?_; conv => whnf) | (refine RetI.none Tryz.results63 ?_; conv => whnf) | (refine ⟨by first | decide | omega, ?_⟩; conv => whnf))
    exact ⟨_, Sub.sel [] rfl, rfl, rfl⟩
end Go.Proofs.YtlfmckjehjedpaaGreatDoor

/- Maps from whole numbers to whole numbers. -/
namespace Go.Proofs.YtlfmckjehjedpaaGreatDoor
set_option linter.unusedVariables false
set_option linter.unusedSimpArgs false
set_option maxRecDepth 100000
open SL Go.RowKit Go.Maps
abbrev intI : Int → Value := fun a => .int .i64 a
abbrev MapI (es : Array MapEntry) (clock : Nat) (m : List (Int × Int)) : Prop := MapOk Tryz.prog 3 intI intI es clock m
theorem intI_inj : ∀ a b, intI a = intI b → a = b := fun a b h => by cases h; rfl
theorem keyedI : Keyed Tryz.prog 3 := int_keyed Tryz.underlying3
/-- A number of 64 bits. -/
def I64 (a : Int) : Prop := -9223372036854775808 ≤ a ∧ a ≤ 9223372036854775807
theorem keyI_wf {a : Int} (h : I64 a) : keyOf Tryz.prog 3 (intI a) = some (.int .i64 a) :=
  keyOf_int_mk Tryz.underlying3 (by have h0 := h.1; have h1 := h.2; simp [Lit.wf, IntKind.min, IntKind.max, IntKind.signed, IntKind.bits]; omega)
def lookI (m : List (Int × Int)) (a : Int) : Int := (lookM m a).getD 0
theorem lookupI {C : Ctx} {H : Heap} {KV : Value → Heap → Prop} {r : Nat} {es : Array MapEntry} {clock : Nat} {m : List (Int × Int)} {a : Int} [hf : FindO H r (.map es clock)] (M : MapI es clock m) (ha : I64 a) (kk : KV (.int .i64 (lookI m a)) H) :
    DoV C Tryz.prog (Instr.lookup 155 (.map (some r)) (.int .i64 a) false) H KV :=
  DoV.lookup (fk := intI) (fv := intI) M keyedI intI_inj Tryz.underlying155 rfl rfl (keyI_wf ha) (by unfold lookI; cases lookM m a <;> rfl) kk
theorem updateI {C : Ctx} {H : Heap} {KV : Value → Heap → Prop} {r : Nat} {es : Array MapEntry} {clock : Nat} {m : List (Int × Int)} {a v : Int} {G : Obj → Heap} [hf : FindO H r (.map es clock)] [hp : PutO H r G] (M : MapI es clock m) (ha : I64 a)
    (kk : ∀ es' clock', MapI es' clock' (putM m a v) → KV undef (G (.map es' clock'))) :
    DoV C Tryz.prog (do Instr.mapUpdate 155 (.map (some r)) (.int .i64 a) (.int .i64 v); pure undef) H KV :=
  DoV.update (fk := intI) (fv := intI) (a := a) (v := v) M keyedI intI_inj Tryz.underlying155 (keyI_wf ha) kk
/-- Each of these once, and nothing else. -/
def Once (m : List (Int × Int)) (seen : List Int) : Prop := ∀ a, lookI m a = if a ∈ seen then 1 else 0
theorem Once.nil : Once [] [] := fun a => by simp [lookI, lookM]
theorem lookI_put (m : List (Int × Int)) (a b v : Int) : lookI (putM m a v) b = if a = b then v else lookI m b := by
  unfold lookI
  rw [lookM_putM]
  split <;> rfl
theorem Once.put {m : List (Int × Int)} {seen : List Int} (h : Once m seen) (a : Int) : Once (putM m a 1) (seen ++ [a]) := fun b => by
  rw [lookI_put, h b]
  by_cases e : a = b
  · subst e; simp
  · rw [if_neg e]
    have : b ∈ seen ++ [a] ↔ b ∈ seen := by simp [Ne.symm e]
    simp only [this]
end Go.Proofs.YtlfmckjehjedpaaGreatDoor

/- Right keys are found right. -/
namespace Go.Proofs.YtlfmckjehjedpaaGreatDoor
set_option linter.unusedVariables false
set_option linter.unusedSimpArgs false
set_option maxRecDepth 100000
open SL Go.RowKit Go.Maps
theorem apart_not {α β : Type} {p : α → Prop} {f : α → β} {l : List α} (h : Apart p f l) {i : Nat} (hi : i < l.length) (hp : p l[i]) : ∀ x ∈ l.take i, p x → f x ≠ f l[i] := by
  intro x hx hpx e
  obtain ⟨j, hj, rfl⟩ := List.getElem_of_mem hx
  simp only [List.length_take] at hj
  have hj2 : j < i := by omega
  have := h j i (by omega) hi (by simpa using hpx) hp (by simpa using e)
  omega
set_option maxHeartbeats 400000 in
theorem kcheck_ok (F : Mem) (ks : List KeyI) (top ep : Int) (K : KeysOk ks top ep) (ht : top ≤ 32768) (he : ep ≤ 200) : FT Tryz.prog 76 [.agg (ksV ks).toArray].toArray F [] (Ret (.int .i64 0)) := by
  have hl := ksV_len K.len
  refine FT.of_body Tryz.func76 rfl Tryz.ntmps76 (by simp) fun C hC => ?_
  subst hC
  conv => whnf
  intro b1
  conv => whnf
  intro r
  conv => whnf
  refine LoadV.p 42 (ksV ks) rfl hl (by show 0 + 42 ≤ (ksV ks).length; omega) (take_all0 hl) ?_
  conv => whnf
  refine LoopI.by_state (σ := Nat × List (Int × Int) × Array MapEntry × Nat) (fun s => [(3, .map (some r)), (7, .agg (ksV ks).toArray), (8, .int .i64 (s.1 : Int))]) (fun s => [.obj r (.map s.2.2.1 s.2.2.2)])
    (fun s => s.1 ≤ 21 ∧ MapI s.2.2.1 s.2.2.2 s.2.1 ∧ Once s.2.1 ((ks.take s.1).map Prod.fst)) (fun s => 21 - s.1) (0, [], #[], 0) ⟨by simp, MapOk.empty, by simpa using Once.nil⟩ ⟨rfl, rfl, rfl, trivial⟩ (Sub.sel [0] rfl) ?_
  rintro ⟨i, m, es, cl⟩ f0 ⟨hi, M, hO⟩
  dsimp only at hi M hO ⊢
  conv => whnf
  refine cond_dec (fun h => ?_) (fun h => ?_)
  · have hi21 : i < 21 := by omega
    have hil : i < ks.length := by rw [K.len]; exact hi21
    have hr := K.rng ks[i] (List.getElem_mem hil)
    have hno : ks[i].1 ∉ (ks.take i).map Prod.fst := fun hm => by
      obtain ⟨x, hx, e⟩ := List.mem_map.1 hm
      exact apart_not K.dist hil trivial x hx trivial e
    have hO2 := hO.put ks[i].1
    have hz : lookI m ks[i].1 = 0 := by rw [hO, if_neg hno]
    rw [show (ks.take i).map Prod.fst ++ [ks[i].1] = (ks.take (i + 1)).map Prod.fst by rw [take_snoc hil, List.map_append]; rfl] at hO2
    conv => whnf
    refine ks_index K.len hi21 ?_
    have hin : ks[i].1 ∈ (ks.take (i + 1)).map Prod.fst := by rw [take_snoc hil, List.map_append]; simp
    have h1 := hO2 ks[i].1
    rw [if_pos hin] at h1
    generalize ks[i] = k at hr hO2 hz h1 ⊢
    obtain ⟨kb, kk⟩ := k
    dsimp only at hr hO2 hz h1
    rw [show keyF (kb, kk) = [.int .i64 kb, .int .i64 kk] from rfl]
    conv => whnf
    intro b5
    conv => whnf
    refine StoreV.c rfl rfl (Nat.le_of_ble_eq_true rfl) rfl ?_
    conv => whnf
    refine LoadV.s rfl rfl ?_
    conv => whnf
    refine lookupI M ⟨by omega, by omega⟩ ?_
    rw [hz]
    conv => whnf
    refine ArI.to64 1 (by omega) (by omega) ?_
    conv => whnf
    refine updateI M ⟨by omega, by omega⟩ ?_
    intro es2 cl2 M2
    conv => whnf
    refine LoadV.a 2 rfl (Nat.le_of_ble_eq_true rfl) ?_
    conv => whnf
    refine CallS.mk Tryz.call35 ⟨[], _, _, Sub.refl _, fun F' hF' => kgood_ok F' kb kk, ?_⟩
    rintro e A' ⟨rfl, rfl⟩
    rw [(keyB_spec kb kk).2 (by omega)]
    conv => whnf
    refine LoadV.s rfl rfl ?_
    conv => whnf
    refine cond_f (by omega) ?_
    conv => whnf
    refine LoadV.s rfl rfl ?_
    conv => whnf
    refine lookupI M2 ⟨by omega, by omega⟩ ?_
    rw [h1]
    conv => whnf
    refine ArI.to64 ((i + 1 : Nat) : Int) (by omega) (by omega) ?_
    conv => whnf
    exact ⟨(i + 1, _, es2, cl2), _, by dsimp only; omega, Sub.sel [1] rfl, ⟨by dsimp only; omega, M2, hO2⟩, ⟨rfl, rfl, rfl, trivial⟩, rfl⟩
  · conv => whnf
    repeat (first | (refine LoadV.s rfl rfl (forceV_of ?_); conv => whnf) | (refine LoadV.s rfl rfl ?_; conv => whnf) | (refine StoreV.c rfl rfl (Nat.le_of_ble_eq_true rfl) rfl ?_; conv => whnf) | (refine LoadV.a _ rfl (Nat.le_of_ble_eq_true rfl) ?_; conv => whnf) | (refine DrawI.quiet (by kernel_rfl) (by kernel_rfl) ?_; conv => whnf) | (refine ArI.in64 (by omega) ?_; conv => whnf) | (refine ArI.inU8 (by omega) ?_; conv => whnf) | (refine ArI.inU64 (by omega) ?_; conv => whnf) | (refine ArI.inU32 (by omega) ?_; conv => whnf) | (refine RetI.one Tryz.results76 rfl ?_; conv => whnf) | (refine RetI.two Tryz.results76 rfl rfl ?_; conv => whnf) | (refine RetI.three Tryz.results76 rfl rfl rfl ?_; conv => whnf) | (refine RetI.none Tryz.results76 ?_; conv => whnf) | (refine ⟨by first | decide | omega, ?_⟩; conv => whnf))
    exact ⟨_, Sub.sel [] rfl, rfl, rfl⟩
set_option maxHeartbeats 400000 in
theorem rkcheck_ok (F : Mem) (ks : List KeyI) (top ep : Int) (K : KeysOk ks top ep) (ht : top ≤ 32768) (he : ep ≤ 200) : FT Tryz.prog 91 [.agg (ksV ks).toArray].toArray F [] (Ret (.int .i64 0)) := by
  have hl := ksV_len K.len
  refine FT.of_body Tryz.func91 rfl Tryz.ntmps91 (by simp) fun C hC => ?_
  subst hC
  conv => whnf
  intro b1
  conv => whnf
  refine LoopI.by_state (σ := Nat) (fun i => [(1, .pointer (some ⟨b1, 0, none⟩)), (3, .int .i64 (i : Int))]) (fun _ => [.cells b1 (ksV ks) 56 (0, 0)]) (fun i => i ≤ 21) (fun i => 21 - i) 0 (Nat.zero_le _) ⟨rfl, rfl, trivial⟩ (Sub.refl _) ?_
  rintro i f0 hi
  conv => whnf
  refine cond_dec (fun h => ?_) (fun h => ?_)
  · have hi21 : i < 21 := by omega
    have hil : i < ks.length := by rw [K.len]; exact hi21
    have hr := K.rng ks[i] (List.getElem_mem hil)
    have hpart := ksV_part hil
    have hat := ksV_at (j := 0) hil (by omega)
    have hno := apart_not K.dist hil trivial
    generalize ks[i] = k at hr hpart hat hno ⊢
    obtain ⟨kb, kk⟩ := k
    dsimp only at hr hno
    conv => whnf
    refine ⟨by omega, ?_⟩
    conv => whnf
    rw [elem_off (n := 2)]
    rotate_left
    · kernel_rfl
    · rfl
    refine LoadV.p 2 [.int .i64 kb, .int .i64 kk] rfl rfl (by omega) hpart ?_
    conv => whnf
    refine CallS.mk Tryz.call109 ⟨[], _, _, Sub.refl _, fun F' hF' => r2good_ok F' kb kk, ?_⟩
    rintro e A' ⟨rfl, rfl⟩
    rw [(keyB_spec kb kk).2 (by omega)]
    conv => whnf
    refine ⟨by omega, ?_⟩
    conv => whnf
    rw [fld_addr (n := 2) (f' := 0)]
    rotate_left
    · kernel_rfl
    · rfl
    · kernel_rfl
    refine LoadV.s rfl hat ?_
    conv => whnf
    refine cond_f (by omega) ?_
    conv => whnf
    refine LoopI.by_state (σ := Nat) (fun j => [(1, .pointer (some ⟨b1, 0, none⟩)), (3, .int .i64 (i : Int)), (4, .int .i64 (j : Int))]) (fun _ => [.cells b1 (ksV ks) 56 (0, 0)]) (fun j => j ≤ i) (fun j => i - j) 0 (Nat.zero_le _) ⟨rfl, rfl, rfl, trivial⟩ (Sub.refl _) ?_
    rintro j f1 hj
    conv => whnf
    refine cond_dec (fun h2 => ?_) (fun h2 => ?_)
    · have hjl : j < ks.length := by omega
      have hat2 := ksV_at (l := ks) (i := j) (j := 0) hjl (by omega)
      have hne : ks[j].1 ≠ kb := hno ks[j] (List.mem_take_iff_getElem.2 ⟨j, by omega, rfl⟩) trivial
      generalize ks[j] = k2 at hat2 hne ⊢
      conv => whnf
      refine DrawI.quiet (by kernel_rfl) (by kernel_rfl) ?_
      conv => whnf
      refine ⟨by omega, ?_⟩
      conv => whnf
      rw [fld_addr (n := 2) (f' := 0)]
      rotate_left
      · kernel_rfl
      · rfl
      · kernel_rfl
      refine LoadV.s rfl hat2 ?_
      conv => whnf
      refine ⟨by omega, ?_⟩
      conv => whnf
      rw [fld_addr (n := 2) (f' := 0)]
      rotate_left
      · kernel_rfl
      · rfl
      · kernel_rfl
      refine LoadV.s rfl hat ?_
      conv => whnf
      rw [show (k2.1 == kb) = false from beq_eq_false_iff_ne.2 hne]
      conv => whnf
      refine ArI.to64 ((j + 1 : Nat) : Int) (by omega) (by omega) ?_
      conv => whnf
      exact ⟨j + 1, _, by omega, Sub.refl _, by omega, ⟨rfl, rfl, rfl, trivial⟩, rfl⟩
    · conv => whnf
      refine ArI.to64 ((i + 1 : Nat) : Int) (by omega) (by omega) ?_
      conv => whnf
      exact ⟨i + 1, _, by omega, Sub.refl _, by omega, ⟨rfl, rfl, trivial⟩, rfl⟩
  · conv => whnf
    repeat (first | (refine LoadV.s rfl rfl (forceV_of ?_); conv => whnf) | (refine LoadV.s rfl rfl ?_; conv => whnf) | (refine StoreV.c rfl rfl (Nat.le_of_ble_eq_true rfl) rfl ?_; conv => whnf) | (refine LoadV.a _ rfl (Nat.le_of_ble_eq_true rfl) ?_; conv => whnf) | (refine DrawI.quiet (by kernel_rfl) (by kernel_rfl) ?_; conv => whnf) | (refine ArI.in64 (by omega) ?_; conv => whnf) | (refine ArI.inU8 (by omega) ?_; conv => whnf) | (refine ArI.inU64 (by omega) ?_; conv => whnf) | (refine ArI.inU32 (by omega) ?_; conv => whnf) | (refine RetI.one Tryz.results91 rfl ?_; conv => whnf) | (refine RetI.two Tryz.results91 rfl rfl ?_; conv => whnf) | (refine RetI.three Tryz.results91 rfl rfl rfl ?_; conv => whnf) | (refine RetI.none Tryz.results91 ?_; conv => whnf) | (refine ⟨by first | decide | omega, ?_⟩; conv => whnf))
    exact ⟨_, Sub.sel [] rfl, rfl, rfl⟩
theorem right_ok (F : Mem) (e : EntI) (h : (0 ≤ e.1 ∧ e.1 < 256) ∧ (1 ≤ e.2.1 ∧ e.2.1 < 32768) ∧ 1 ≤ e.2.2 ∧ e.2.2 ≤ 200) : FT Tryz.prog 101 [.agg (entF e).toArray].toArray F [] (Ret (.bool true)) := by
  obtain ⟨w, bs, si⟩ := e
  obtain ⟨h1, h2, h3⟩ := h
  dsimp only at h1 h2 h3
  rw [show entF (w, bs, si) = [.int .i64 w, .int .i64 bs, .int .i64 si] from rfl]
  refine FT.of_body Tryz.func101 rfl Tryz.ntmps101 (by simp) fun C hC => ?_
  subst hC
  conv => whnf
  intro b2
  conv => whnf
  refine LoadV.s rfl rfl ?_
  conv => whnf
  refine cond_t (by omega) ?_
  conv => whnf
  refine LoadV.s rfl rfl ?_
  conv => whnf
  refine cond_t (by omega) ?_
  conv => whnf
  refine LoadV.s rfl rfl ?_
  conv => whnf
  refine cond_t (by omega) ?_
  conv => whnf
  refine LoadV.s rfl rfl ?_
  conv => whnf
  refine cond_t (by omega) ?_
  conv => whnf
  refine LoadV.s rfl rfl ?_
  conv => whnf
  refine cond_t (by omega) ?_
  conv => whnf
  refine LoadV.s rfl rfl ?_
  conv => whnf
  refine RetI.one Tryz.results101 rfl ?_
  conv => whnf
  exact ⟨_, Sub.sel [] rfl, ret_bool (decide_eq_true (by omega)), rfl⟩
theorem rright_ok (F : Mem) (e : EntI) (h : (0 ≤ e.1 ∧ e.1 < 256) ∧ (1 ≤ e.2.1 ∧ e.2.1 < 32768) ∧ 1 ≤ e.2.2 ∧ e.2.2 ≤ 200) : FT Tryz.prog 110 [.agg (entF e).toArray].toArray F [] (Ret (.bool true)) := by
  obtain ⟨w, bs, si⟩ := e
  obtain ⟨h1, h2, h3⟩ := h
  dsimp only at h1 h2 h3
  rw [show entF (w, bs, si) = [.int .i64 w, .int .i64 bs, .int .i64 si] from rfl]
  refine FT.of_body Tryz.func110 rfl Tryz.ntmps110 (by simp) fun C hC => ?_
  subst hC
  conv => whnf
  intro b2
  conv => whnf
  refine LoadV.s rfl rfl ?_
  conv => whnf
  refine cond_t (by omega) ?_
  conv => whnf
  refine LoadV.s rfl rfl ?_
  conv => whnf
  refine cond_t (by omega) ?_
  conv => whnf
  refine LoadV.s rfl rfl ?_
  conv => whnf
  refine cond_t (by omega) ?_
  conv => whnf
  refine LoadV.s rfl rfl ?_
  conv => whnf
  refine cond_t (by omega) ?_
  conv => whnf
  refine LoadV.s rfl rfl ?_
  conv => whnf
  refine cond_t (by omega) ?_
  conv => whnf
  refine LoadV.s rfl rfl ?_
  conv => whnf
  refine RetI.one Tryz.results110 rfl ?_
  conv => whnf
  exact ⟨_, Sub.sel [] rfl, ret_bool (decide_eq_true (by omega)), rfl⟩
end Go.Proofs.YtlfmckjehjedpaaGreatDoor

/- Right rosters are found right; right trees too. -/
namespace Go.Proofs.YtlfmckjehjedpaaGreatDoor
set_option linter.unusedVariables false
set_option linter.unusedSimpArgs false
set_option maxRecDepth 100000
open SL Go.RowKit Go.Maps
theorem zero_eq {r : List EntI} {top ep : Int} (R : RosOk r top ep) {e : EntI} (he : e ∈ r) : cellsEq (entF e) (entF (0, 0, 0)) = !tkB e := by
  rcases R.rng e he with rfl | h
  · rfl
  · have h1 : (e.2.1 == 0) = false := beq_eq_false_iff_ne.2 (by omega)
    show ((e.1 == 0) && ((e.2.1 == 0) && ((e.2.2 == 0) && true))) = !(e.2.1 != 0)
    rw [h1, bne, h1]; simp
/-- Who is on, seat by seat. -/
def onL (r : List EntI) : List EntI := r.filter tkB
theorem onL_take {r : List EntI} {i : Nat} (h : i < r.length) : onL (r.take (i + 1)) = onL (r.take i) ++ (if tkB r[i] = true then [r[i]] else []) := by
  unfold onL
  rw [take_snoc h, List.filter_append]
  congr 1
  by_cases hb : tkB r[i] = true
  · rw [if_pos hb, List.filter_cons_of_pos hb]; rfl
  · rw [if_neg hb, List.filter_cons_of_neg hb]; rfl
theorem apart_on {β : Type} {f : EntI → β} {l : List EntI} (h : Apart tk f l) {i : Nat} (hi : i < l.length) (hp : tk l[i]) : f l[i] ∉ (onL (l.take i)).map f := fun hm => by
  obtain ⟨x, hx, e⟩ := List.mem_map.1 hm
  obtain ⟨hx1, hx2⟩ := List.mem_filter.1 hx
  exact apart_not h hi hp x hx1 ((tkB_iff x).1 hx2) e
set_option maxHeartbeats 1000000 in
theorem rocheck_ok (F : Mem) (r : List EntI) (top ep : Int) (R : RosOk r top ep) (ht : top ≤ 32768) (he : ep ≤ 200) : FT Tryz.prog 77 [.agg (rsV r).toArray].toArray F [] (Ret (.int .i64 0)) := by
  have hl := rsV_len R.len
  refine FT.of_body Tryz.func77 rfl Tryz.ntmps77 (by simp) fun C hC => ?_
  subst hC
  conv => whnf
  intro b1
  conv => whnf
  intro m1
  conv => whnf
  intro m2
  conv => whnf
  refine LoadV.p 192 (rsV r) rfl hl (by show 0 + 192 ≤ (rsV r).length; omega) (take_all0 hl) ?_
  conv => whnf
  refine LoopI.by_state (σ := Nat × (List (Int × Int) × Array MapEntry × Nat) × (List (Int × Int) × Array MapEntry × Nat)) (fun s => [(3, .map (some m1)), (4, .map (some m2)), (9, .agg (rsV r).toArray), (10, .int .i64 (s.1 : Int))]) (fun s => [.obj m1 (.map s.2.1.2.1 s.2.1.2.2), .obj m2 (.map s.2.2.2.1 s.2.2.2.2)])
    (fun s => s.1 ≤ 64 ∧ (MapI s.2.1.2.1 s.2.1.2.2 s.2.1.1 ∧ Once s.2.1.1 ((onL (r.take s.1)).map Prod.fst)) ∧ (MapI s.2.2.2.1 s.2.2.2.2 s.2.2.1 ∧ Once s.2.2.1 ((onL (r.take s.1)).map fun e => e.2.1))) (fun s => 64 - s.1) (0, ([], #[], 0), ([], #[], 0)) ⟨by simp, ⟨MapOk.empty, by simpa [onL] using Once.nil⟩, ⟨MapOk.empty, by simpa [onL] using Once.nil⟩⟩ ⟨rfl, rfl, rfl, rfl, trivial⟩ (Sub.sel [1, 0] rfl) ?_
  rintro ⟨i, ⟨p, es, cl⟩, ⟨q, fs, dl⟩⟩ f0 ⟨hi, ⟨M, hO⟩, ⟨M', hO'⟩⟩
  dsimp only at hi M hO M' hO' ⊢
  conv => whnf
  refine cond_dec (fun h => ?_) (fun h => ?_)
  · have hi64 : i < 64 := by omega
    have hil : i < r.length := by rw [R.len]; exact hi64
    have hmem := List.getElem_mem hil
    have hz := zero_eq R hmem
    have htr := fun ht => R.tk_rng hmem ht
    have hst := onL_take hil
    have hw := fun ht => apart_on R.who hil ht
    have hb := fun ht => apart_on R.base hil ht
    conv => whnf
    refine ros_index R.len hi64 ?_
    generalize r[i] = e at hz htr hst hw hb ⊢
    obtain ⟨w, bs, si⟩ := e
    dsimp only at htr
    rw [show entF (w, bs, si) = [.int .i64 w, .int .i64 bs, .int .i64 si] from rfl]
    conv => whnf
    intro b6
    conv => whnf
    refine StoreV.c rfl rfl (Nat.le_of_ble_eq_true rfl) rfl ?_
    conv => whnf
    refine LoadV.a 3 rfl (Nat.le_of_ble_eq_true rfl) ?_
    conv => whnf
    refine EqV.eql (d := 3) (ks := [.i .i64, .i .i64, .i .i64]) (by kernel_rfl) rfl (by kernel_rfl) rfl rfl rfl ?_
    rw [show cellsEq [Value.int IntKind.i64 w, Value.int IntKind.i64 bs, Value.int IntKind.i64 si] [Value.int IntKind.i64 0, Value.int IntKind.i64 0, Value.int IntKind.i64 0] = !tkB (w, bs, si) from hz]
    cases hbt : tkB (w, bs, si) with
    | false =>
      rw [if_neg (by rw [hbt]; simp), List.append_nil] at hst
      conv => whnf
      refine ArI.to64 ((i + 1 : Nat) : Int) (by omega) (by omega) ?_
      conv => whnf
      exact ⟨(i + 1, (p, es, cl), (q, fs, dl)), _, by dsimp only; omega, Sub.sel [1, 2] rfl, ⟨by dsimp only; omega, ⟨M, by dsimp only; rw [hst]; exact hO⟩, ⟨M', by dsimp only; rw [hst]; exact hO'⟩⟩, ⟨rfl, rfl, rfl, rfl, trivial⟩, rfl⟩
    | true =>
      rw [if_pos hbt] at hst
      have htk := (tkB_iff _).1 hbt
      have hr := htr htk
      have hz1 : lookI p w = 0 := by rw [hO, if_neg (hw htk)]
      have hz2 : lookI q bs = 0 := by rw [hO', if_neg (hb htk)]
      have hP := hO.put w
      have hQ := hO'.put bs
      rw [show (onL (r.take i)).map Prod.fst ++ [w] = (onL (r.take (i + 1))).map Prod.fst by rw [hst, List.map_append]; rfl] at hP
      rw [show (onL (r.take i)).map (fun e => e.2.1) ++ [bs] = (onL (r.take (i + 1))).map (fun e => e.2.1) by rw [hst, List.map_append]; rfl] at hQ
      have h1 := hP w
      rw [if_pos (by rw [hst, List.map_append]; simp)] at h1
      have h2 := hQ bs
      rw [if_pos (by rw [hst, List.map_append]; simp)] at h2
      conv => whnf
      refine LoadV.s rfl rfl ?_
      conv => whnf
      refine lookupI M ⟨by omega, by omega⟩ ?_
      rw [hz1]
      conv => whnf
      refine ArI.to64 1 (by omega) (by omega) ?_
      conv => whnf
      refine updateI M ⟨by omega, by omega⟩ ?_
      intro es2 cl2 M2
      conv => whnf
      refine LoadV.s rfl rfl ?_
      conv => whnf
      refine lookupI M' ⟨by omega, by omega⟩ ?_
      rw [hz2]
      conv => whnf
      refine ArI.to64 1 (by omega) (by omega) ?_
      conv => whnf
      refine updateI M' ⟨by omega, by omega⟩ ?_
      intro fs2 dl2 M2'
      conv => whnf
      refine LoadV.a 3 rfl (Nat.le_of_ble_eq_true rfl) ?_
      conv => whnf
      refine CallS.mk Tryz.call101 ⟨[], _, _, Sub.refl _, fun F' hF' => right_ok F' (w, bs, si) ⟨by dsimp only; omega, by dsimp only; omega, by dsimp only; omega⟩, ?_⟩
      rintro e A' ⟨rfl, rfl⟩
      conv => whnf
      refine LoadV.s rfl rfl ?_
      conv => whnf
      refine lookupI M2 ⟨by omega, by omega⟩ ?_
      rw [h1]
      conv => whnf
      refine LoadV.s rfl rfl ?_
      conv => whnf
      refine lookupI M2' ⟨by omega, by omega⟩ ?_
      rw [h2]
      conv => whnf
      refine ArI.to64 ((i + 1 : Nat) : Int) (by omega) (by omega) ?_
      conv => whnf
      exact ⟨(i + 1, (_, es2, cl2), (_, fs2, dl2)), _, by dsimp only; omega, Sub.sel [1, 2] rfl, ⟨by dsimp only; omega, ⟨M2, hP⟩, ⟨M2', hQ⟩⟩, ⟨rfl, rfl, rfl, rfl, trivial⟩, rfl⟩
  · conv => whnf
    repeat (first | (refine LoadV.s rfl rfl (forceV_of ?_); conv => whnf) | (refine LoadV.s rfl rfl ?_; conv => whnf) | (refine StoreV.c rfl rfl (Nat.le_of_ble_eq_true rfl) rfl ?_; conv => whnf) | (refine LoadV.a _ rfl (Nat.le_of_ble_eq_true rfl) ?_; conv => whnf) | (refine DrawI.quiet (by kernel_rfl) (by kernel_rfl) ?_; conv => whnf) | (refine ArI.in64 (by omega) ?_; conv => whnf) | (refine ArI.inU8 (by omega) ?_; conv => whnf) | (refine ArI.inU64 (by omega) ?_; conv => whnf) | (refine ArI.inU32 (by omega) ?_; conv => whnf) | (refine RetI.one Tryz.results77 rfl ?_; conv => whnf) | (refine RetI.two Tryz.results77 rfl rfl ?_; conv => whnf) | (refine RetI.three Tryz.results77 rfl rfl rfl ?_; conv => whnf) | (refine RetI.none Tryz.results77 ?_; conv => whnf) | (refine ⟨by first | decide | omega, ?_⟩; conv => whnf))
    exact ⟨_, Sub.sel [] rfl, rfl, rfl⟩
set_option maxHeartbeats 1000000 in
theorem r9check_ok (F : Mem) (r : List EntI) (top ep : Int) (R : RosOk r top ep) (ht : top ≤ 32768) (he : ep ≤ 200) : FT Tryz.prog 92 [.agg (rsV r).toArray].toArray F [] (Ret (.int .i64 0)) := by
  have hl := rsV_len R.len
  refine FT.of_body Tryz.func92 rfl Tryz.ntmps92 (by simp) fun C hC => ?_
  subst hC
  conv => whnf
  intro b1
  conv => whnf
  refine LoopI.by_state (σ := Nat) (fun i => [(1, .pointer (some ⟨b1, 0, none⟩)), (3, .int .i64 (i : Int))]) (fun _ => [.cells b1 (rsV r) 60 (0, 0)]) (fun i => i ≤ 64) (fun i => 64 - i) 0 (Nat.zero_le _) ⟨rfl, rfl, trivial⟩ (Sub.refl _) ?_
  rintro i f0 hi
  conv => whnf
  refine cond_dec (fun h => ?_) (fun h => ?_)
  · have hi64 : i < 64 := by omega
    have hil : i < r.length := by rw [R.len]; exact hi64
    have hmem := List.getElem_mem hil
    have hz := zero_eq R hmem
    have htr := fun ht => R.tk_rng hmem ht
    have hpart := rsV_part hil
    have hat0 := rsV_at (j := 0) hil (by omega)
    have hat1 := rsV_at (j := 1) hil (by omega)
    have hw := fun ht => apart_not R.who hil ht
    have hb := fun ht => apart_not R.base hil ht
    generalize r[i] = e at hz htr hpart hat0 hat1 hw hb ⊢
    obtain ⟨w, bs, si⟩ := e
    dsimp only at htr hw hb
    conv => whnf
    refine ⟨by omega, ?_⟩
    conv => whnf
    rw [elem_off (n := 3)]
    rotate_left
    · kernel_rfl
    · rfl
    refine LoadV.p 3 [.int .i64 w, .int .i64 bs, .int .i64 si] rfl rfl (by omega) hpart ?_
    conv => whnf
    refine EqV.eql (d := 3) (ks := [.i .i64, .i .i64, .i .i64]) (by kernel_rfl) rfl (by kernel_rfl) rfl rfl rfl ?_
    rw [show cellsEq [Value.int IntKind.i64 w, Value.int IntKind.i64 bs, Value.int IntKind.i64 si] [Value.int IntKind.i64 0, Value.int IntKind.i64 0, Value.int IntKind.i64 0] = !tkB (w, bs, si) from hz]
    cases hbt : tkB (w, bs, si) with
    | false =>
      conv => whnf
      refine ArI.to64 ((i + 1 : Nat) : Int) (by omega) (by omega) ?_
      conv => whnf
      exact ⟨i + 1, _, by omega, Sub.refl _, by omega, ⟨rfl, rfl, trivial⟩, rfl⟩
    | true =>
      have htk := (tkB_iff _).1 hbt
      have hr := htr htk
      have hw := hw htk
      have hb := hb htk
      conv => whnf
      refine ⟨by omega, ?_⟩
      conv => whnf
      rw [elem_off (n := 3)]
      rotate_left
      · kernel_rfl
      · rfl
      refine LoadV.p 3 [.int .i64 w, .int .i64 bs, .int .i64 si] rfl rfl (by omega) hpart ?_
      conv => whnf
      refine CallS.mk Tryz.call110 ⟨[], _, _, Sub.refl _, fun F' hF' => rright_ok F' (w, bs, si) ⟨by dsimp only; omega, by dsimp only; omega, by dsimp only; omega⟩, ?_⟩
      rintro e A' ⟨rfl, rfl⟩
      conv => whnf
      refine LoopI.by_state (σ := Nat) (fun j => [(1, .pointer (some ⟨b1, 0, none⟩)), (3, .int .i64 (i : Int)), (4, .int .i64 (j : Int))]) (fun _ => [.cells b1 (rsV r) 60 (0, 0)]) (fun j => j ≤ i) (fun j => i - j) 0 (Nat.zero_le _) ⟨rfl, rfl, rfl, trivial⟩ (Sub.refl _) ?_
      rintro j f1 hj
      conv => whnf
      refine cond_dec (fun h2 => ?_) (fun h2 => ?_)
      · have hjl : j < r.length := by omega
        have hjm : r[j] ∈ r.take i := List.mem_take_iff_getElem.2 ⟨j, by omega, rfl⟩
        have hat0j := rsV_at (l := r) (i := j) (j := 0) hjl (by omega)
        have hat1j := rsV_at (l := r) (i := j) (j := 1) hjl (by omega)
        have hwj := hw _ hjm
        have hbj := hb _ hjm
        generalize r[j] = e2 at hat0j hat1j hwj hbj ⊢
        conv => whnf
        refine DrawI.quiet (by kernel_rfl) (by kernel_rfl) ?_
        conv => whnf
        refine ⟨by omega, ?_⟩
        conv => whnf
        rw [fld_addr (n := 3) (f' := 1)]
        rotate_left
        · kernel_rfl
        · rfl
        · kernel_rfl
        refine LoadV.s rfl hat1j ?_
        conv => whnf
        refine cond_split (fun hq => ?_) (fun hq => ?_)
        · have htq : tk e2 := by simpa using hq
          conv => whnf
          refine ⟨by omega, ?_⟩
          conv => whnf
          rw [fld_addr (n := 3) (f' := 0)]
          rotate_left
          · kernel_rfl
          · rfl
          · kernel_rfl
          refine LoadV.s rfl hat0j ?_
          conv => whnf
          refine ⟨by omega, ?_⟩
          conv => whnf
          rw [fld_addr (n := 3) (f' := 0)]
          rotate_left
          · kernel_rfl
          · rfl
          · kernel_rfl
          refine LoadV.s rfl hat0 ?_
          conv => whnf
          rw [show (e2.1 == w) = false from beq_eq_false_iff_ne.2 (hwj htq)]
          conv => whnf
          refine ⟨by omega, ?_⟩
          conv => whnf
          rw [fld_addr (n := 3) (f' := 1)]
          rotate_left
          · kernel_rfl
          · rfl
          · kernel_rfl
          refine LoadV.s rfl hat1j ?_
          conv => whnf
          refine ⟨by omega, ?_⟩
          conv => whnf
          rw [fld_addr (n := 3) (f' := 1)]
          rotate_left
          · kernel_rfl
          · rfl
          · kernel_rfl
          refine LoadV.s rfl hat1 ?_
          conv => whnf
          rw [show (e2.2.1 == bs) = false from beq_eq_false_iff_ne.2 (hbj htq)]
          conv => whnf
          refine ArI.to64 ((j + 1 : Nat) : Int) (by omega) (by omega) ?_
          conv => whnf
          exact ⟨j + 1, _, by omega, Sub.refl _, by omega, ⟨rfl, rfl, rfl, trivial⟩, rfl⟩
        · conv => whnf
          refine ArI.to64 ((j + 1 : Nat) : Int) (by omega) (by omega) ?_
          conv => whnf
          exact ⟨j + 1, _, by omega, Sub.refl _, by omega, ⟨rfl, rfl, rfl, trivial⟩, rfl⟩
      · conv => whnf
        refine ArI.to64 ((i + 1 : Nat) : Int) (by omega) (by omega) ?_
        conv => whnf
        exact ⟨i + 1, _, by omega, Sub.refl _, by omega, ⟨rfl, rfl, trivial⟩, rfl⟩
  · conv => whnf
    repeat (first | (refine LoadV.s rfl rfl (forceV_of ?_); conv => whnf) | (refine LoadV.s rfl rfl ?_; conv => whnf) | (refine StoreV.c rfl rfl (Nat.le_of_ble_eq_true rfl) rfl ?_; conv => whnf) | (refine LoadV.a _ rfl (Nat.le_of_ble_eq_true rfl) ?_; conv => whnf) | (refine DrawI.quiet (by kernel_rfl) (by kernel_rfl) ?_; conv => whnf) | (refine ArI.in64 (by omega) ?_; conv => whnf) | (refine ArI.inU8 (by omega) ?_; conv => whnf) | (refine ArI.inU64 (by omega) ?_; conv => whnf) | (refine ArI.inU32 (by omega) ?_; conv => whnf) | (refine RetI.one Tryz.results92 rfl ?_; conv => whnf) | (refine RetI.two Tryz.results92 rfl rfl ?_; conv => whnf) | (refine RetI.three Tryz.results92 rfl rfl rfl ?_; conv => whnf) | (refine RetI.none Tryz.results92 ?_; conv => whnf) | (refine ⟨by first | decide | omega, ?_⟩; conv => whnf))
    exact ⟨_, Sub.sel [] rfl, rfl, rfl⟩
end Go.Proofs.YtlfmckjehjedpaaGreatDoor

/- Right trees are found right. -/
namespace Go.Proofs.YtlfmckjehjedpaaGreatDoor
set_option linter.unusedVariables false
set_option linter.unusedSimpArgs false
set_option maxRecDepth 100000
open SL Go.RowKit Go.Maps
theorem treeL_kat {t : TreeI} (h : Shaped t) {i j : Nat} (hi : i < t.ks.length) (hj : j < 2) : (treeL t)[2 + (i * 2 + j)]? = (keyF t.ks[i])[j]? := by
  rw [show 2 + (i * 2 + j) = (i * 2 + j) + 1 + 1 by omega]
  show (ksV t.ks ++ rsV t.rs)[i * 2 + j]? = _
  rw [List.getElem?_append_left (by rw [ksV_length]; omega), ksV_at hi hj]
theorem treeL_rat {t : TreeI} (h : Shaped t) {i j : Nat} (hi : i < t.rs.length) (hj : j < 3) : (treeL t)[44 + (i * 3 + j)]? = (entF t.rs[i])[j]? := by
  rw [show 44 + (i * 3 + j) = (42 + (i * 3 + j)) + 1 + 1 by omega]
  show (ksV t.ks ++ rsV t.rs)[42 + (i * 3 + j)]? = _
  rw [List.getElem?_append_right (by rw [ksV_len h.k]; omega), ksV_len h.k, show 42 + (i * 3 + j) - 42 = i * 3 + j by omega, rsV_at hi hj]
theorem treeL_ent {t : TreeI} (h : Shaped t) {i : Nat} (hi : i < t.rs.length) : ((treeL t).drop (44 + i * 3)).take 3 = entF t.rs[i] := by
  rw [show 44 + i * 3 = (42 + i * 3) + 1 + 1 by omega]
  show ((ksV t.ks ++ rsV t.rs).drop (42 + i * 3)).take 3 = _
  rw [← List.drop_drop, List.drop_left' (ksV_len h.k), rsV_part hi]
theorem treeL_key {t : TreeI} (h : Shaped t) {i : Nat} (hi : i < t.ks.length) : ((treeL t).drop (2 + i * 2)).take 2 = keyF t.ks[i] := by
  rw [show 2 + i * 2 = (i * 2) + 1 + 1 by omega]
  show ((ksV t.ks ++ rsV t.rs).drop (i * 2)).take 2 = _
  have h0 := h.k
  rw [List.drop_append_of_le_length (by rw [ksV_length]; omega), List.take_append_of_le_length (by rw [List.length_drop, ksV_length]; omega), ksV_part hi]
theorem fld_addr2 {b o i sz f n f' : Nat} (hs : sz = n) (hn : Nat.beq n 1 = false) (hf : f = f') : (⟨b, elemOff o (i : Int) sz, none⟩ : Addr).add f = ⟨b, o + (i * n + f'), none⟩ := by
  subst hs; subst hf
  unfold elemOff
  rw [hn, Addr_add]
  simp [Nat.add_assoc]
set_option maxHeartbeats 1000000 in
theorem tcheck_ok (F : Mem) (t : TreeI) (T : TreeOk t) : FT Tryz.prog 46 [.agg (treeL t).toArray].toArray F [] (Ret (.int .i64 0)) := by
  have hS := T.shaped
  have hl := treeL_length hS
  have hlk := ksV_len hS.k
  have hlr := rsV_len hS.r
  have hep := T.ep
  have htop := T.top
  have hfr := T.fr
  refine FT.of_body Tryz.func46 rfl Tryz.ntmps46 (by simp) fun C hC => ?_
  subst hC
  conv => whnf
  intro b1
  conv => whnf
  refine LoadV.s rfl rfl ?_
  conv => whnf
  refine cond_f (by omega) ?_
  conv => whnf
  refine LoadV.s rfl rfl ?_
  conv => whnf
  refine cond_f (by omega) ?_
  conv => whnf
  refine LoadV.s rfl rfl ?_
  conv => whnf
  refine cond_f (by omega) ?_
  conv => whnf
  refine LoadV.s rfl rfl ?_
  conv => whnf
  refine cond_f (by omega) ?_
  conv => whnf
  refine LoadV.p 42 (ksV t.ks) rfl hlk (by show 2 + 42 ≤ (treeL t).length; omega) (treeL_ks hS) ?_
  conv => whnf
  refine CallS.mk Tryz.call76 ⟨[], _, _, Sub.refl _, fun F' hF' => kcheck_ok F' t.ks t.fr t.ep T.K (by omega) (by omega), ?_⟩
  rintro e A' ⟨rfl, rfl⟩
  conv => whnf
  refine LoadV.p 192 (rsV t.rs) rfl hlr (by show 44 + 192 ≤ (treeL t).length; omega) (treeL_rs hS) ?_
  conv => whnf
  refine CallS.mk Tryz.call77 ⟨[], _, _, Sub.refl _, fun F' hF' => rocheck_ok F' t.rs t.fr t.ep T.R (by omega) (by omega), ?_⟩
  rintro e A' ⟨rfl, rfl⟩
  conv => whnf
  intro r
  conv => whnf
  refine LoadV.p 42 (ksV t.ks) rfl hlk (by show 2 + 42 ≤ (treeL t).length; omega) (treeL_ks hS) ?_
  conv => whnf
  refine LoopI.by_state (σ := Nat × List (Int × Int) × Array MapEntry × Nat) (fun s => [(1, .pointer (some ⟨b1, 0, none⟩)), (3, .map (some r)), (38, .agg (ksV t.ks).toArray), (39, .int .i64 (s.1 : Int))]) (fun s => [.obj r (.map s.2.2.1 s.2.2.2), .cells b1 (treeL t) 62 (0, 0)])
    (fun s => s.1 ≤ 21 ∧ MapI s.2.2.1 s.2.2.2 s.2.1 ∧ Once s.2.1 ((t.ks.take s.1).map Prod.fst)) (fun s => 21 - s.1) (0, [], #[], 0) ⟨by simp, MapOk.empty, by simpa using Once.nil⟩ ⟨rfl, rfl, rfl, rfl, trivial⟩ (Sub.refl _) ?_
  rintro ⟨i, m, es, cl⟩ f0 ⟨hi, M, hO⟩
  dsimp only at hi M hO ⊢
  conv => whnf
  refine cond_dec (fun h => ?_) (fun h => ?_)
  · have hi21 : i < 21 := by omega
    have hil : i < t.ks.length := by rw [hS.k]; exact hi21
    have hr := T.K.rng t.ks[i] (List.getElem_mem hil)
    have hno : t.ks[i].1 ∉ (t.ks.take i).map Prod.fst := fun hm => by
      obtain ⟨x, hx, e⟩ := List.mem_map.1 hm
      exact apart_not T.K.dist hil trivial x hx trivial e
    have hO2 := hO.put t.ks[i].1
    have hz : lookI m t.ks[i].1 = 0 := by rw [hO, if_neg hno]
    rw [show (t.ks.take i).map Prod.fst ++ [t.ks[i].1] = (t.ks.take (i + 1)).map Prod.fst by rw [take_snoc hil, List.map_append]; rfl] at hO2
    conv => whnf
    refine ks_index hS.k hi21 ?_
    generalize t.ks[i] = k at hr hO2 hz ⊢
    obtain ⟨kb, kk⟩ := k
    dsimp only at hr hO2 hz
    rw [show keyF (kb, kk) = [.int .i64 kb, .int .i64 kk] from rfl]
    conv => whnf
    intro b5
    conv => whnf
    refine StoreV.c rfl rfl (Nat.le_of_ble_eq_true rfl) rfl ?_
    conv => whnf
    refine LoadV.s rfl rfl ?_
    conv => whnf
    refine lookupI M ⟨by omega, by omega⟩ ?_
    rw [hz]
    conv => whnf
    refine ArI.to64 1 (by omega) (by omega) ?_
    conv => whnf
    refine updateI M ⟨by omega, by omega⟩ ?_
    intro es2 cl2 M2
    conv => whnf
    refine LoadV.s rfl rfl ?_
    conv => whnf
    refine LoadV.s rfl rfl ?_
    conv => whnf
    refine cond_f (by omega) ?_
    conv => whnf
    refine LoadV.s rfl rfl ?_
    conv => whnf
    refine LoadV.s rfl rfl ?_
    conv => whnf
    refine cond_f (by omega) ?_
    conv => whnf
    refine ArI.to64 ((i + 1 : Nat) : Int) (by omega) (by omega) ?_
    conv => whnf
    exact ⟨(i + 1, _, es2, cl2), _, by dsimp only; omega, Sub.sel [1, 2] rfl, ⟨by dsimp only; omega, M2, hO2⟩, ⟨rfl, rfl, rfl, rfl, trivial⟩, rfl⟩
  · obtain rfl : i = 21 := by omega
    rw [List.take_of_length_le (by rw [hS.k]; decide)] at hO
    conv => whnf
    refine LoadV.p 192 (rsV t.rs) rfl hlr (by show 44 + 192 ≤ (treeL t).length; omega) (treeL_rs hS) ?_
    conv => whnf
    refine LoopI.by_state (σ := Nat) (fun i => [(1, .pointer (some ⟨b1, 0, none⟩)), (3, .map (some r)), (61, .agg (rsV t.rs).toArray), (62, .int .i64 (i : Int))]) (fun _ => [.obj r (.map es cl), .cells b1 (treeL t) 62 (0, 0)])
      (fun i => i ≤ 64) (fun i => 64 - i) 0 (Nat.zero_le _) ⟨rfl, rfl, rfl, rfl, trivial⟩ (Sub.refl _) ?_
    rintro i f1 hi2
    conv => whnf
    refine cond_dec (fun h2 => ?_) (fun h2 => ?_)
    · have hi64 : i < 64 := by omega
      have hil : i < t.rs.length := by rw [hS.r]; exact hi64
      have hmem := List.getElem_mem hil
      have hrg := T.R.rng _ hmem
      have hkr : t.rs[i].2.1 ∉ t.ks.map Prod.fst := fun hm => by
        obtain ⟨k, hk, e⟩ := List.mem_map.1 hm
        exact T.kr k hk _ hmem e
      have hz := hO t.rs[i].2.1
      rw [if_neg hkr] at hz
      conv => whnf
      refine ros_index hS.r hi64 ?_
      generalize t.rs[i] = e at hrg hz ⊢
      obtain ⟨w, bs, si⟩ := e
      have hrg : (0 ≤ bs ∧ bs < t.fr) ∧ 0 ≤ si ∧ si ≤ t.ep := by
        dsimp only at hrg
        rcases hrg with hrg | hrg
        · simp only [Prod.mk.injEq] at hrg; omega
        · omega
      dsimp only at hz
      rw [show entF (w, bs, si) = [.int .i64 w, .int .i64 bs, .int .i64 si] from rfl]
      conv => whnf
      intro b7
      conv => whnf
      refine StoreV.c rfl rfl (Nat.le_of_ble_eq_true rfl) rfl ?_
      conv => whnf
      refine LoadV.s rfl rfl ?_
      conv => whnf
      refine lookupI M ⟨by omega, by omega⟩ ?_
      rw [hz]
      conv => whnf
      refine LoadV.s rfl rfl ?_
      conv => whnf
      refine LoadV.s rfl rfl ?_
      conv => whnf
      refine cond_f (by omega) ?_
      conv => whnf
      refine LoadV.s rfl rfl ?_
      conv => whnf
      refine LoadV.s rfl rfl ?_
      conv => whnf
      refine cond_f (by omega) ?_
      conv => whnf
      refine ArI.to64 ((i + 1 : Nat) : Int) (by omega) (by omega) ?_
      conv => whnf
      exact ⟨i + 1, _, by omega, Sub.sel [1, 2] rfl, by omega, ⟨rfl, rfl, rfl, rfl, trivial⟩, rfl⟩
    · conv => whnf
      repeat (first | (refine LoadV.s rfl rfl (forceV_of ?_); conv => whnf) | (refine LoadV.s rfl rfl ?_; conv => whnf) | (refine StoreV.c rfl rfl (Nat.le_of_ble_eq_true rfl) rfl ?_; conv => whnf) | (refine LoadV.a _ rfl (Nat.le_of_ble_eq_true rfl) ?_; conv => whnf) | (refine DrawI.quiet (by kernel_rfl) (by kernel_rfl) ?_; conv => whnf) | (refine ArI.in64 (by omega) ?_; conv => whnf) | (refine ArI.inU8 (by omega) ?_; conv => whnf) | (refine ArI.inU64 (by omega) ?_; conv => whnf) | (refine ArI.inU32 (by omega) ?_; conv => whnf) | (refine RetI.one Tryz.results46 rfl ?_; conv => whnf) | (refine RetI.two Tryz.results46 rfl rfl ?_; conv => whnf) | (refine RetI.three Tryz.results46 rfl rfl rfl ?_; conv => whnf) | (refine RetI.none Tryz.results46 ?_; conv => whnf) | (refine ⟨by first | decide | omega, ?_⟩; conv => whnf))
      exact ⟨_, Sub.sel [] rfl, rfl, rfl⟩
set_option maxHeartbeats 1000000 in
theorem rtcheck_ok (F : Mem) (t : TreeI) (T : TreeOk t) : FT Tryz.prog 61 [.agg (treeL t).toArray].toArray F [] (Ret (.int .i64 0)) := by
  have hS := T.shaped
  have hl := treeL_length hS
  have hlk := ksV_len hS.k
  have hlr := rsV_len hS.r
  have hep := T.ep
  have htop := T.top
  have hfr := T.fr
  refine FT.of_body Tryz.func61 rfl Tryz.ntmps61 (by simp) fun C hC => ?_
  subst hC
  conv => whnf
  intro b1
  conv => whnf
  refine LoadV.s rfl rfl ?_
  conv => whnf
  refine cond_f (by omega) ?_
  conv => whnf
  refine LoadV.s rfl rfl ?_
  conv => whnf
  refine cond_f (by omega) ?_
  conv => whnf
  refine LoadV.s rfl rfl ?_
  conv => whnf
  refine cond_f (by omega) ?_
  conv => whnf
  refine LoadV.s rfl rfl ?_
  conv => whnf
  refine cond_f (by omega) ?_
  conv => whnf
  refine LoadV.p 42 (ksV t.ks) rfl hlk (by show 2 + 42 ≤ (treeL t).length; omega) (treeL_ks hS) ?_
  conv => whnf
  refine CallS.mk Tryz.call91 ⟨[], _, _, Sub.refl _, fun F' hF' => rkcheck_ok F' t.ks t.fr t.ep T.K (by omega) (by omega), ?_⟩
  rintro e A' ⟨rfl, rfl⟩
  conv => whnf
  refine LoadV.p 192 (rsV t.rs) rfl hlr (by show 44 + 192 ≤ (treeL t).length; omega) (treeL_rs hS) ?_
  conv => whnf
  refine CallS.mk Tryz.call92 ⟨[], _, _, Sub.refl _, fun F' hF' => r9check_ok F' t.rs t.fr t.ep T.R (by omega) (by omega), ?_⟩
  rintro e A' ⟨rfl, rfl⟩
  conv => whnf
  refine LoopI.by_state (σ := Nat) (fun i => [(1, .pointer (some ⟨b1, 0, none⟩)), (3, .int .i64 (i : Int))]) (fun _ => [.cells b1 (treeL t) 62 (0, 0)]) (fun i => i ≤ 21) (fun i => 21 - i) 0 (Nat.zero_le _) ⟨rfl, rfl, trivial⟩ (Sub.refl _) ?_
  rintro i f0 hi
  conv => whnf
  refine cond_dec (fun h => ?_) (fun h => ?_)
  · have hi21 : i < 21 := by omega
    have hil : i < t.ks.length := by rw [hS.k]; exact hi21
    have hr := T.K.rng t.ks[i] (List.getElem_mem hil)
    have hat0 := treeL_kat hS (j := 0) hil (by omega)
    have hat1 := treeL_kat hS (j := 1) hil (by omega)
    generalize t.ks[i] = k at hr hat0 hat1 ⊢
    conv => whnf
    refine DrawI.quiet (by kernel_rfl) (by kernel_rfl) ?_
    conv => whnf
    refine ⟨by omega, ?_⟩
    conv => whnf
    refine LoadV.eq (b := b1) (o := 2 + (_ * 2 + 0)) (fld_addr2 (b := b1) (o := 2) (n := 2) (f' := 0) (by kernel_rfl) rfl (by kernel_rfl)) ?_
    refine LoadV.s rfl hat0 ?_
    conv => whnf
    refine LoadV.s rfl rfl ?_
    conv => whnf
    refine cond_f (by omega) ?_
    conv => whnf
    refine ⟨by omega, ?_⟩
    conv => whnf
    refine LoadV.eq (b := b1) (o := 2 + (_ * 2 + 1)) (fld_addr2 (b := b1) (o := 2) (n := 2) (f' := 1) (by kernel_rfl) rfl (by kernel_rfl)) ?_
    refine LoadV.s rfl hat1 ?_
    conv => whnf
    refine LoadV.s rfl rfl ?_
    conv => whnf
    refine cond_f (by omega) ?_
    conv => whnf
    refine ArI.to64 ((i + 1 : Nat) : Int) (by omega) (by omega) ?_
    conv => whnf
    exact ⟨i + 1, _, by omega, Sub.refl _, by omega, ⟨rfl, rfl, trivial⟩, rfl⟩
  · conv => whnf
    refine LoopI.by_state (σ := Nat) (fun i => [(1, .pointer (some ⟨b1, 0, none⟩)), (4, .int .i64 (i : Int))]) (fun _ => [.cells b1 (treeL t) 62 (0, 0)]) (fun i => i ≤ 64) (fun i => 64 - i) 0 (Nat.zero_le _) ⟨rfl, rfl, trivial⟩ (Sub.refl _) ?_
    rintro i f1 hi2
    conv => whnf
    refine cond_dec (fun h2 => ?_) (fun h2 => ?_)
    · have hi64 : i < 64 := by omega
      have hil : i < t.rs.length := by rw [hS.r]; exact hi64
      have hmem := List.getElem_mem hil
      have hrg := T.R.rng _ hmem
      have hkr := fun k hk => T.kr k hk _ hmem
      have hat1 := treeL_rat hS (j := 1) hil (by omega)
      have hat2 := treeL_rat hS (j := 2) hil (by omega)
      generalize t.rs[i] = e at hrg hkr hat1 hat2 ⊢
      obtain ⟨w, bs, si⟩ := e
      have hrg : (0 ≤ bs ∧ bs < t.fr) ∧ 0 ≤ si ∧ si ≤ t.ep := by
        dsimp only at hrg
        rcases hrg with hrg | hrg
        · simp only [Prod.mk.injEq] at hrg; omega
        · omega
      dsimp only at hkr
      rw [show entF (w, bs, si) = [.int .i64 w, .int .i64 bs, .int .i64 si] from rfl] at hat1 hat2
      conv => whnf
      refine DrawI.quiet (by kernel_rfl) (by kernel_rfl) ?_
      conv => whnf
      refine ⟨by omega, ?_⟩
      conv => whnf
      refine LoadV.eq (b := b1) (o := 44 + (_ * 3 + 1)) (fld_addr2 (b := b1) (o := 44) (n := 3) (f' := 1) (by kernel_rfl) rfl (by kernel_rfl)) ?_
      refine LoadV.s rfl hat1 ?_
      conv => whnf
      refine LoadV.s rfl rfl ?_
      conv => whnf
      refine cond_f (by omega) ?_
      conv => whnf
      refine ⟨by omega, ?_⟩
      conv => whnf
      refine LoadV.eq (b := b1) (o := 44 + (_ * 3 + 2)) (fld_addr2 (b := b1) (o := 44) (n := 3) (f' := 2) (by kernel_rfl) rfl (by kernel_rfl)) ?_
      refine LoadV.s rfl hat2 ?_
      conv => whnf
      refine LoadV.s rfl rfl ?_
      conv => whnf
      refine cond_f (by omega) ?_
      conv => whnf
      refine LoopI.by_state (σ := Nat) (fun j => [(1, .pointer (some ⟨b1, 0, none⟩)), (4, .int .i64 (i : Int)), (5, .int .i64 (j : Int))]) (fun _ => [.cells b1 (treeL t) 62 (0, 0)]) (fun j => j ≤ 21) (fun j => 21 - j) 0 (Nat.zero_le _) ⟨rfl, rfl, rfl, trivial⟩ (Sub.refl _) ?_
      rintro j f2 hj
      conv => whnf
      refine cond_dec (fun h3 => ?_) (fun h3 => ?_)
      · have hj21 : j < 21 := by omega
        have hjl : j < t.ks.length := by rw [hS.k]; exact hj21
        have hkj := hkr _ (List.getElem_mem hjl)
        have hat0 := treeL_kat hS (j := 0) hjl (by omega)
        generalize t.ks[j] = k at hkj hat0 ⊢
        conv => whnf
        refine DrawI.quiet (by kernel_rfl) (by kernel_rfl) ?_
        conv => whnf
        refine ⟨by omega, ?_⟩
        conv => whnf
        refine LoadV.eq (b := b1) (o := 2 + (_ * 2 + 0)) (fld_addr2 (b := b1) (o := 2) (n := 2) (f' := 0) (by kernel_rfl) rfl (by kernel_rfl)) ?_
        refine LoadV.s rfl hat0 ?_
        conv => whnf
        refine ⟨by omega, ?_⟩
        conv => whnf
        refine LoadV.eq (b := b1) (o := 44 + (_ * 3 + 1)) (fld_addr2 (b := b1) (o := 44) (n := 3) (f' := 1) (by kernel_rfl) rfl (by kernel_rfl)) ?_
        refine LoadV.s rfl hat1 ?_
        conv => whnf
        rw [show (k.1 == bs) = false from beq_eq_false_iff_ne.2 hkj]
        conv => whnf
        refine ArI.to64 ((j + 1 : Nat) : Int) (by omega) (by omega) ?_
        conv => whnf
        exact ⟨j + 1, _, by omega, Sub.refl _, by omega, ⟨rfl, rfl, rfl, trivial⟩, rfl⟩
      · conv => whnf
        refine ArI.to64 ((i + 1 : Nat) : Int) (by omega) (by omega) ?_
        conv => whnf
        exact ⟨i + 1, _, by omega, Sub.refl _, by omega, ⟨rfl, rfl, trivial⟩, rfl⟩
    · conv => whnf
      repeat (first | (refine LoadV.s rfl rfl (forceV_of ?_); conv => whnf) | (refine LoadV.s rfl rfl ?_; conv => whnf) | (refine StoreV.c rfl rfl (Nat.le_of_ble_eq_true rfl) rfl ?_; conv => whnf) | (refine LoadV.a _ rfl (Nat.le_of_ble_eq_true rfl) ?_; conv => whnf) | (refine DrawI.quiet (by kernel_rfl) (by kernel_rfl) ?_; conv => whnf) | (refine ArI.in64 (by omega) ?_; conv => whnf) | (refine ArI.inU8 (by omega) ?_; conv => whnf) | (refine ArI.inU64 (by omega) ?_; conv => whnf) | (refine ArI.inU32 (by omega) ?_; conv => whnf) | (refine RetI.one Tryz.results61 rfl ?_; conv => whnf) | (refine RetI.two Tryz.results61 rfl rfl ?_; conv => whnf) | (refine RetI.three Tryz.results61 rfl rfl rfl ?_; conv => whnf) | (refine RetI.none Tryz.results61 ?_; conv => whnf) | (refine ⟨by first | decide | omega, ?_⟩; conv => whnf))
      exact ⟨_, Sub.sel [] rfl, rfl, rfl⟩
end Go.Proofs.YtlfmckjehjedpaaGreatDoor

/- Does a batch fit? The program's way. -/
namespace Go.Proofs.YtlfmckjehjedpaaGreatDoor
set_option linter.unusedVariables false
set_option linter.unusedSimpArgs false
set_option maxRecDepth 100000
open SL Go.RowKit Go.Maps
/-- What is wrong with somebody of a batch, behind those seen. -/
def errAt (r : List EntI) (seen : List Int) (who : Int) (on : Bool) : Int :=
  if who < 0 then 14 else if who ≥ 256 then 14 else if who ∈ seen then 15 else if decide (0 ≤ findI r who 0) = on then 0 else if on = true then 16 else 17
def askE (r : List EntI) (on : Bool) : List Int → List Int → Int
  | _, [] => 0
  | seen, w :: l => if errAt r seen w on = 0 then askE r on (seen ++ [w]) l else errAt r seen w on
def fitsE (r : List EntI) (L J : List Int) : Int :=
  if askE r true [] L = 0 then if askE r false L J = 0 then if (J.length : Int) > 64 - ((slots (takenN r)).length : Int) + L.length then 18 else 0 else askE r false L J else askE r true [] L
theorem askE_step {r : List EntI} {on : Bool} {seen l : List Int} {i : Nat} (h : i < l.length) : askE r on (seen ++ l.take i) (l.drop i) = if errAt r (seen ++ l.take i) l[i] on = 0 then askE r on (seen ++ l.take (i + 1)) (l.drop (i + 1)) else errAt r (seen ++ l.take i) l[i] on := by
  rw [List.drop_eq_getElem_cons h, take_snoc h, ← List.append_assoc]; rfl
/-- Where a batch's lists lie. -/
structure BatS where
  oL : Option Addr
  cL : Nat
  oJ : Option Addr
  cJ : Nat
def batL (L J : List Int) (s : BatS) : List Value := [.slice s.oL L.length s.cL, .slice s.oJ J.length s.cJ]
structure BatF (F : Mem) (L J : List Int) (s : BatS) : Prop where
  fL : SlF F 1 s.oL L.length (intsV L)
  fJ : SlF F 1 s.oJ J.length (intsV J)
  rL : ∀ w ∈ L, I64 w
  rJ : ∀ w ∈ J, I64 w
  nL : L.length ≤ 140737488355328
  nJ : J.length ≤ 140737488355328
theorem BatF.ext {F F' : Mem} {B : Heap} {L J : List Int} {s : BatS} (h : BatF F L J s) (he : Ext F B F') : BatF F' L J s := ⟨h.fL.ext he.F, h.fJ.ext he.F, h.rL, h.rJ, h.nL, h.nJ⟩
/-- A roster in memory, as a callee reads it. -/
def RosF (F : Mem) (b : Nat) (r : List EntI) : Prop := ∀ j v, (rsV r)[j]? = some v → RdC F ⟨b, 0 + j, none⟩ v
set_option maxHeartbeats 1000000 in
theorem fits1_ok (F : Mem) (oa : Option Addr) (ca : Nat) (l : List Int) (on : Bool) (wrong : Int) (hw : wrong = if on = true then 16 else 17) (bs br ms : Nat) (r : List EntI) (hr : r.length = 64) (es : Array MapEntry) (cl : Nat) (m : List (Int × Int)) (seen : List Int)
    (hl : SlF F 1 oa l.length (intsV l)) (hn : l.length ≤ 140737488355328) (hI : ∀ w ∈ l, I64 w) (hR : RosF F br r) (M : MapI es cl m) (hO : Once m seen) :
    FT Tryz.prog 78 [.slice oa l.length ca, .bool on, .int .i64 wrong, .pointer (some ⟨bs, 0, none⟩), .pointer (some ⟨br, 0, none⟩)].toArray F [.cells bs [.map (some ms)] 155 (0, 0), .obj ms (.map es cl)]
    (fun e H => e = .returned (.int .i64 (askE r on seen l)) ∧ ∃ es' cl' m', H = [.cells bs [.map (some ms)] 155 (0, 0), .obj ms (.map es' cl')] ∧ MapI es' cl' m' ∧ (askE r on seen l = 0 → Once m' (seen ++ l))) := by
  refine FT.of_body Tryz.func78 rfl Tryz.ntmps78 (by simp) fun C hC => ?_
  subst hC
  conv => whnf
  refine LoopI.by_state (σ := Nat × List (Int × Int) × Array MapEntry × Nat) (fun s => [(1, .bool on), (2, .int .i64 wrong), (3, .pointer (some ⟨bs, 0, none⟩)), (4, .pointer (some ⟨br, 0, none⟩)), (11, .slice oa l.length ca), (12, .int .i64 (l.length : Int)), (13, .int .i64 (s.1 : Int))])
    (fun s => [.cells bs [.map (some ms)] 155 (0, 0), .obj ms (.map s.2.2.1 s.2.2.2)]) (fun s => s.1 ≤ l.length ∧ MapI s.2.2.1 s.2.2.2 s.2.1 ∧ Once s.2.1 (seen ++ l.take s.1) ∧ askE r on seen l = askE r on (seen ++ l.take s.1) (l.drop s.1)) (fun s => l.length - s.1)
    (0, m, es, cl) ⟨Nat.zero_le _, M, by simpa using hO, by simp⟩ ⟨rfl, rfl, rfl, rfl, rfl, rfl, rfl, trivial⟩ (Sub.refl _) ?_
  rintro ⟨i, m, es, cl⟩ f0 ⟨hi, M, hO, hk⟩
  dsimp only at hi M hO hk ⊢
  conv => whnf
  refine cond_dec (fun h => ?_) (fun h => ?_)
  · have hil : i < l.length := by omega
    have hx := hl.at hil
    obtain ⟨xb, xo, rfl, hrow⟩ := hx
    have hI := hI l[i] (List.getElem_mem hil)
    rw [askE_step hil] at hk
    have hst : seen ++ l.take (i + 1) = (seen ++ l.take i) ++ [l[i]] := by rw [take_snoc hil, List.append_assoc]
    have hrd := hrow i (.int .i64 l[i]) (by rw [List.getElem?_map, List.getElem?_eq_getElem hil]; rfl)
    have hput := hO.put l[i]
    rw [← hst] at hput
    have hO1 := hO l[i]
    generalize l[i] = w at hI hk hst hrd hput hO1 ⊢
    conv => whnf
    refine ⟨by omega, ?_⟩
    conv => whnf
    rw [elemOff_nat]
    rotate_left
    · kernel_rfl
    refine LoadV.f hrd rfl ?_
    conv => whnf
    refine LoadV.s rfl rfl ?_
    conv => whnf
    refine lookupI M hI ?_
    have hb : lookI m w = 0 ∨ lookI m w = 1 := by rw [hO1]; split <;> simp
    refine ArI.to64 (lookI m w + 1) rfl (by omega) ?_
    conv => whnf
    refine updateI M hI ?_
    intro es2 cl2 M2
    by_cases h0 : w < 0
    · have he : errAt r (seen ++ l.take i) w on = 14 := by unfold errAt; rw [if_pos h0]
      rw [he, if_neg (by decide)] at hk
      conv => whnf
      refine cond_t h0 ?_
      conv => whnf
      repeat (first | (refine LoadV.s rfl rfl (forceV_of ?_); conv => whnf) | (refine LoadV.s rfl rfl ?_; conv => whnf) | (refine StoreV.c rfl rfl (Nat.le_of_ble_eq_true rfl) rfl ?_; conv => whnf) | (refine LoadV.a _ rfl (Nat.le_of_ble_eq_true rfl) ?_; conv => whnf) | (refine DrawI.quiet (by kernel_rfl) (by kernel_rfl) ?_; conv => whnf) | (refine ArI.in64 (by omega) ?_; conv => whnf) | (refine ArI.inU8 (by omega) ?_; conv => whnf) | (refine ArI.inU64 (by omega) ?_; conv => whnf) | (refine ArI.inU32 (by omega) ?_; conv => whnf) | (refine RetI.one Tryz.results78 rfl ?_; conv => whnf) | (refine RetI.two Tryz.results78 rfl rfl ?_; conv => whnf) | (refine RetI.three Tryz.results78 rfl rfl rfl ?_; conv => whnf) | (refine RetI.none Tryz.results78 ?_; conv => whnf) | (refine ⟨by first | decide | omega, ?_⟩; conv => whnf))
      exact ⟨_, Sub.refl _, ret_int hk.symm, es2, cl2, _, rfl, M2, fun e => by rw [hk] at e; cases e⟩
    · conv => whnf
      refine cond_f h0 ?_
      by_cases h1 : w ≥ 256
      · have he : errAt r (seen ++ l.take i) w on = 14 := by unfold errAt; rw [if_neg h0, if_pos h1]
        rw [he, if_neg (by decide)] at hk
        conv => whnf
        refine cond_t h1 ?_
        conv => whnf
        repeat (first | (refine LoadV.s rfl rfl (forceV_of ?_); conv => whnf) | (refine LoadV.s rfl rfl ?_; conv => whnf) | (refine StoreV.c rfl rfl (Nat.le_of_ble_eq_true rfl) rfl ?_; conv => whnf) | (refine LoadV.a _ rfl (Nat.le_of_ble_eq_true rfl) ?_; conv => whnf) | (refine DrawI.quiet (by kernel_rfl) (by kernel_rfl) ?_; conv => whnf) | (refine ArI.in64 (by omega) ?_; conv => whnf) | (refine ArI.inU8 (by omega) ?_; conv => whnf) | (refine ArI.inU64 (by omega) ?_; conv => whnf) | (refine ArI.inU32 (by omega) ?_; conv => whnf) | (refine RetI.one Tryz.results78 rfl ?_; conv => whnf) | (refine RetI.two Tryz.results78 rfl rfl ?_; conv => whnf) | (refine RetI.three Tryz.results78 rfl rfl rfl ?_; conv => whnf) | (refine RetI.none Tryz.results78 ?_; conv => whnf) | (refine ⟨by first | decide | omega, ?_⟩; conv => whnf))
        exact ⟨_, Sub.refl _, ret_int hk.symm, es2, cl2, _, rfl, M2, fun e => by rw [hk] at e; cases e⟩
      · conv => whnf
        refine cond_f h1 ?_
        conv => whnf
        refine LoadV.s rfl rfl ?_
        conv => whnf
        refine lookupI M2 hI ?_
        rw [lookI_put, if_pos rfl, hO1]
        by_cases hs : w ∈ seen ++ l.take i
        · have he : errAt r (seen ++ l.take i) w on = 15 := by unfold errAt; rw [if_neg h0, if_neg h1, if_pos hs]
          rw [he, if_neg (by decide)] at hk
          rw [if_pos hs]
          conv => whnf
          repeat (first | (refine LoadV.s rfl rfl (forceV_of ?_); conv => whnf) | (refine LoadV.s rfl rfl ?_; conv => whnf) | (refine StoreV.c rfl rfl (Nat.le_of_ble_eq_true rfl) rfl ?_; conv => whnf) | (refine LoadV.a _ rfl (Nat.le_of_ble_eq_true rfl) ?_; conv => whnf) | (refine DrawI.quiet (by kernel_rfl) (by kernel_rfl) ?_; conv => whnf) | (refine ArI.in64 (by omega) ?_; conv => whnf) | (refine ArI.inU8 (by omega) ?_; conv => whnf) | (refine ArI.inU64 (by omega) ?_; conv => whnf) | (refine ArI.inU32 (by omega) ?_; conv => whnf) | (refine RetI.one Tryz.results78 rfl ?_; conv => whnf) | (refine RetI.two Tryz.results78 rfl rfl ?_; conv => whnf) | (refine RetI.three Tryz.results78 rfl rfl rfl ?_; conv => whnf) | (refine RetI.none Tryz.results78 ?_; conv => whnf) | (refine ⟨by first | decide | omega, ?_⟩; conv => whnf))
          exact ⟨_, Sub.refl _, ret_int hk.symm, es2, cl2, _, rfl, M2, fun e => by rw [hk] at e; cases e⟩
        · have he : errAt r (seen ++ l.take i) w on = if decide (0 ≤ findI r w 0) = on then 0 else if on = true then 16 else 17 := by unfold errAt; rw [if_neg h0, if_neg h1, if_neg hs]
          rw [he, ← hw] at hk
          rw [hO1, if_neg hs] at M2
          rw [if_neg hs]
          have hwz : wrong ≠ 0 := by rw [hw]; split <;> decide
          conv => whnf
          refine LoadV.fa (cs := rsV r) (fun j v hj => by rw [Addr_add]; exact hR j v hj) (by rw [rsV_len hr]; rfl) ?_
          conv => whnf
          refine CallS.mk Tryz.call79 ⟨[], _, _, Sub.refl _, fun F' hF' => find_ok F' r hr w, ?_⟩
          rintro e A' ⟨rfl, rfl⟩
          conv => whnf
          have hdec : (!(decide (findI r w 0 ≥ 0) == on)) = !decide (decide (0 ≤ findI r w 0) = on) := by cases on <;> cases decide (0 ≤ findI r w 0) <;> rfl
          rw [hdec]
          by_cases hf : decide (0 ≤ findI r w 0) = on
          · rw [if_pos hf, if_pos rfl] at hk
            rw [decide_eq_true hf]
            conv => whnf
            refine ArI.to64 ((i + 1 : Nat) : Int) (by omega) (by omega) ?_
            conv => whnf
            exact ⟨(i + 1, _, es2, cl2), _, by dsimp only; omega, Sub.refl _, ⟨by dsimp only; omega, M2, hput, hk⟩, ⟨rfl, rfl, rfl, rfl, rfl, rfl, rfl, trivial⟩, rfl⟩
          · rw [if_neg hf, if_neg hwz] at hk
            rw [decide_eq_false hf]
            conv => whnf
            repeat (first | (refine LoadV.s rfl rfl (forceV_of ?_); conv => whnf) | (refine LoadV.s rfl rfl ?_; conv => whnf) | (refine StoreV.c rfl rfl (Nat.le_of_ble_eq_true rfl) rfl ?_; conv => whnf) | (refine LoadV.a _ rfl (Nat.le_of_ble_eq_true rfl) ?_; conv => whnf) | (refine DrawI.quiet (by kernel_rfl) (by kernel_rfl) ?_; conv => whnf) | (refine ArI.in64 (by omega) ?_; conv => whnf) | (refine ArI.inU8 (by omega) ?_; conv => whnf) | (refine ArI.inU64 (by omega) ?_; conv => whnf) | (refine ArI.inU32 (by omega) ?_; conv => whnf) | (refine RetI.one Tryz.results78 rfl ?_; conv => whnf) | (refine RetI.two Tryz.results78 rfl rfl ?_; conv => whnf) | (refine RetI.three Tryz.results78 rfl rfl rfl ?_; conv => whnf) | (refine RetI.none Tryz.results78 ?_; conv => whnf) | (refine ⟨by first | decide | omega, ?_⟩; conv => whnf))
            exact ⟨_, Sub.refl _, ret_int hk.symm, es2, cl2, _, rfl, M2, fun e => by rw [hk] at e; exact absurd e hwz⟩
  · obtain rfl : i = l.length := by omega
    rw [List.take_length] at hO
    rw [List.drop_length] at hk
    conv => whnf
    repeat (first | (refine LoadV.s rfl rfl (forceV_of ?_); conv => whnf) | (refine LoadV.s rfl rfl ?_; conv => whnf) | (refine StoreV.c rfl rfl (Nat.le_of_ble_eq_true rfl) rfl ?_; conv => whnf) | (refine LoadV.a _ rfl (Nat.le_of_ble_eq_true rfl) ?_; conv => whnf) | (refine DrawI.quiet (by kernel_rfl) (by kernel_rfl) ?_; conv => whnf) | (refine ArI.in64 (by omega) ?_; conv => whnf) | (refine ArI.inU8 (by omega) ?_; conv => whnf) | (refine ArI.inU64 (by omega) ?_; conv => whnf) | (refine ArI.inU32 (by omega) ?_; conv => whnf) | (refine RetI.one Tryz.results78 rfl ?_; conv => whnf) | (refine RetI.two Tryz.results78 rfl rfl ?_; conv => whnf) | (refine RetI.three Tryz.results78 rfl rfl rfl ?_; conv => whnf) | (refine RetI.none Tryz.results78 ?_; conv => whnf) | (refine ⟨by first | decide | omega, ?_⟩; conv => whnf))
    exact ⟨_, Sub.refl _, ret_int hk.symm, es, cl, m, rfl, M, fun _ => hO⟩
end Go.Proofs.YtlfmckjehjedpaaGreatDoor

/- Does a batch fit? The program's answer, whole; the reference's. -/
namespace Go.Proofs.YtlfmckjehjedpaaGreatDoor
set_option linter.unusedVariables false
set_option linter.unusedSimpArgs false
set_option maxRecDepth 100000
open SL Go.RowKit Go.Maps
theorem RosF.cells {F F' : Mem} {B : Heap} {b : Nat} {r : List EntI} {T : TypeId} {fr : Nat × Nat} [hf : Find B b (rsV r) T fr] (he : Ext F B F') : RosF F' b r := fun j v hj => rd_cell he (by rw [Nat.zero_add]; exact hj)
set_option maxHeartbeats 2000000 in
theorem fits_ok (F : Mem) (r : List EntI) (top ep : Int) (R : RosOk r top ep) (ht : top ≤ 32768) (he : ep ≤ 200) (L J : List Int) (s : BatS) (hB : BatF F L J s) :
    FT Tryz.prog 47 [.agg (rsV r).toArray, .agg (batL L J s).toArray].toArray F [] (Ret (.int .i64 (fitsE r L J))) := by
  have hl := rsV_len R.len
  have hcnt := slots_length_le (takenN r)
  refine FT.of_body Tryz.func47 rfl Tryz.ntmps47 (by simp) fun C hC => ?_
  subst hC
  conv => whnf
  intro b2
  conv => whnf
  intro b3
  conv => whnf
  refine LoadV.p 192 (rsV r) rfl hl (by show 0 + 192 ≤ (rsV r).length; omega) (take_all0 hl) ?_
  conv => whnf
  refine CallS.mk Tryz.call77 ⟨[], _, _, Sub.refl _, fun F' hF' => rocheck_ok F' r top ep R ht he, ?_⟩
  rintro e A' ⟨rfl, rfl⟩
  conv => whnf
  intro ms
  conv => whnf
  intro bs
  conv => whnf
  refine StoreV.c rfl rfl (Nat.le_of_ble_eq_true rfl) rfl ?_
  conv => whnf
  refine LoadV.s rfl rfl ?_
  conv => whnf
  rw [cap0, cap2]
  refine CallS.mk Tryz.call78 ⟨[_, _], [_, _], _, Sub.sel [0, 1, 2, 3] rfl, fun F' hF' => fits1_ok F' s.oL s.cL L true 16 rfl bs b2 ms r R.len #[] 0 [] [] (hB.ext hF').fL hB.nL hB.rL (RosF.cells hF') MapOk.empty Once.nil, ?_⟩
  rintro e A' ⟨rfl, es, cl, m, rfl, M, hO⟩
  unfold fitsE
  by_cases h1 : askE r true [] L = 0
  · rw [if_pos h1, h1]
    have hO := hO h1
    rw [List.nil_append] at hO
    conv => whnf
    refine LoadV.s rfl rfl ?_
    conv => whnf
    refine CallS.mk Tryz.call78 ⟨[_, _], [_, _], _, Sub.sel [0, 1, 2, 3] rfl, fun F' hF' => fits1_ok F' s.oJ s.cJ J false 17 rfl bs b2 ms r R.len es cl m L (hB.ext hF').fJ hB.nJ hB.rJ (RosF.cells hF') M hO, ?_⟩
    rintro e A' ⟨rfl, es2, cl2, m2, rfl, M2, hO2⟩
    by_cases h2 : askE r false L J = 0
    · rw [if_pos h2, h2]
      conv => whnf
      refine DrawI.quiet (by kernel_rfl) (by kernel_rfl) ?_
      conv => whnf
      refine LoadV.s rfl rfl ?_
      conv => whnf
      refine LoadV.p 192 (rsV r) rfl hl (by show 0 + 192 ≤ (rsV r).length; omega) (take_all0 hl) ?_
      conv => whnf
      refine CallQ.pure Tryz.call56 (fun F' _ => (taken_ok F' r R.len).mono fun _ _ h => h.1) ?_
      conv => whnf
      refine CallQ.pure Tryz.call80 (fun F' _ => (count_ok F' (takenN r) (takenN_lt R.len)).mono fun _ _ h => h.1) ?_
      generalize (slots (takenN r)).length = c at hcnt ⊢
      conv => whnf
      refine ArI.to64 (64 - (c : Int)) rfl (by omega) ?_
      conv => whnf
      refine LoadV.s rfl rfl ?_
      conv => whnf
      have := hB.nL
      refine ArI.to64 (64 - (c : Int) + L.length) rfl (by omega) ?_
      conv => whnf
      refine cond_dec (fun h3 => ?_) (fun h3 => ?_)
      · rw [if_pos h3]
        conv => whnf
        repeat (first | (refine LoadV.s rfl rfl (forceV_of ?_); conv => whnf) | (refine LoadV.s rfl rfl ?_; conv => whnf) | (refine StoreV.c rfl rfl (Nat.le_of_ble_eq_true rfl) rfl ?_; conv => whnf) | (refine LoadV.a _ rfl (Nat.le_of_ble_eq_true rfl) ?_; conv => whnf) | (refine DrawI.quiet (by kernel_rfl) (by kernel_rfl) ?_; conv => whnf) | (refine ArI.in64 (by omega) ?_; conv => whnf) | (refine ArI.inU8 (by omega) ?_; conv => whnf) | (refine ArI.inU64 (by omega) ?_; conv => whnf) | (refine ArI.inU32 (by omega) ?_; conv => whnf) | (refine RetI.one Tryz.results47 rfl ?_; conv => whnf) | (refine RetI.two Tryz.results47 rfl rfl ?_; conv => whnf) | (refine RetI.three Tryz.results47 rfl rfl rfl ?_; conv => whnf) | (refine RetI.none Tryz.results47 ?_; conv => whnf) | (refine ⟨by first | decide | omega, ?_⟩; conv => whnf))
        exact ⟨_, Sub.sel [] rfl, rfl, rfl⟩
      · rw [if_neg h3]
        conv => whnf
        repeat (first | (refine LoadV.s rfl rfl (forceV_of ?_); conv => whnf) | (refine LoadV.s rfl rfl ?_; conv => whnf) | (refine StoreV.c rfl rfl (Nat.le_of_ble_eq_true rfl) rfl ?_; conv => whnf) | (refine LoadV.a _ rfl (Nat.le_of_ble_eq_true rfl) ?_; conv => whnf) | (refine DrawI.quiet (by kernel_rfl) (by kernel_rfl) ?_; conv => whnf) | (refine ArI.in64 (by omega) ?_; conv => whnf) | (refine ArI.inU8 (by omega) ?_; conv => whnf) | (refine ArI.inU64 (by omega) ?_; conv => whnf) | (refine ArI.inU32 (by omega) ?_; conv => whnf) | (refine RetI.one Tryz.results47 rfl ?_; conv => whnf) | (refine RetI.two Tryz.results47 rfl rfl ?_; conv => whnf) | (refine RetI.three Tryz.results47 rfl rfl rfl ?_; conv => whnf) | (refine RetI.none Tryz.results47 ?_; conv => whnf) | (refine ⟨by first | decide | omega, ?_⟩; conv => whnf))
        exact ⟨_, Sub.sel [] rfl, rfl, rfl⟩
    · rw [if_neg h2]
      generalize askE r false L J = c at h2 ⊢
      conv => whnf
      rw [show (c != 0) = true from bne_iff_ne.2 h2]
      conv => whnf
      repeat (first | (refine LoadV.s rfl rfl (forceV_of ?_); conv => whnf) | (refine LoadV.s rfl rfl ?_; conv => whnf) | (refine StoreV.c rfl rfl (Nat.le_of_ble_eq_true rfl) rfl ?_; conv => whnf) | (refine LoadV.a _ rfl (Nat.le_of_ble_eq_true rfl) ?_; conv => whnf) | (refine DrawI.quiet (by kernel_rfl) (by kernel_rfl) ?_; conv => whnf) | (refine ArI.in64 (by omega) ?_; conv => whnf) | (refine ArI.inU8 (by omega) ?_; conv => whnf) | (refine ArI.inU64 (by omega) ?_; conv => whnf) | (refine ArI.inU32 (by omega) ?_; conv => whnf) | (refine RetI.one Tryz.results47 rfl ?_; conv => whnf) | (refine RetI.two Tryz.results47 rfl rfl ?_; conv => whnf) | (refine RetI.three Tryz.results47 rfl rfl rfl ?_; conv => whnf) | (refine RetI.none Tryz.results47 ?_; conv => whnf) | (refine ⟨by first | decide | omega, ?_⟩; conv => whnf))
      exact ⟨_, Sub.sel [] rfl, rfl, rfl⟩
  · rw [if_neg h1]
    generalize askE r true [] L = c at h1 ⊢
    conv => whnf
    rw [show (c != 0) = true from bne_iff_ne.2 h1]
    conv => whnf
    repeat (first | (refine LoadV.s rfl rfl (forceV_of ?_); conv => whnf) | (refine LoadV.s rfl rfl ?_; conv => whnf) | (refine StoreV.c rfl rfl (Nat.le_of_ble_eq_true rfl) rfl ?_; conv => whnf) | (refine LoadV.a _ rfl (Nat.le_of_ble_eq_true rfl) ?_; conv => whnf) | (refine DrawI.quiet (by kernel_rfl) (by kernel_rfl) ?_; conv => whnf) | (refine ArI.in64 (by omega) ?_; conv => whnf) | (refine ArI.inU8 (by omega) ?_; conv => whnf) | (refine ArI.inU64 (by omega) ?_; conv => whnf) | (refine ArI.inU32 (by omega) ?_; conv => whnf) | (refine RetI.one Tryz.results47 rfl ?_; conv => whnf) | (refine RetI.two Tryz.results47 rfl rfl ?_; conv => whnf) | (refine RetI.three Tryz.results47 rfl rfl rfl ?_; conv => whnf) | (refine RetI.none Tryz.results47 ?_; conv => whnf) | (refine ⟨by first | decide | omega, ?_⟩; conv => whnf))
    exact ⟨_, Sub.sel [] rfl, rfl, rfl⟩
end Go.Proofs.YtlfmckjehjedpaaGreatDoor

/- Does a batch fit? The reference's answer. -/
namespace Go.Proofs.YtlfmckjehjedpaaGreatDoor
set_option linter.unusedVariables false
set_option linter.unusedSimpArgs false
set_option maxRecDepth 100000
open SL Go.RowKit Go.Maps
/-- Who was seen, as the reference keeps it. -/
def SeenB (sb : List Bool) (seen : List Int) : Prop := sb.length = 256 ∧ ∀ w : Nat, w < 256 → sb[w]? = some (decide ((w : Int) ∈ seen))
theorem SeenB.none : SeenB (List.replicate 256 false) [] := ⟨by simp, fun w hw => by rw [List.getElem?_replicate, if_pos hw]; simp⟩
theorem SeenB.put {sb : List Bool} {seen : List Int} (h : SeenB sb seen) {w : Nat} (hw : w < 256) : SeenB (sb.set w true) (seen ++ [(w : Int)]) := ⟨by rw [List.length_set]; exact h.1, fun v hv => by
  rw [List.getElem?_set]
  by_cases e : w = v
  · subst e; rw [if_pos rfl, if_pos (by rw [h.1]; exact hw)]; simp
  · rw [if_neg e, h.2 v hv]
    have : ¬ (v : Int) = (w : Int) := by omega
    simp [this]⟩
set_option maxHeartbeats 1000000 in
theorem person9_ok (F : Mem) (r : List EntI) (hr : r.length = 64) (sb : List Bool) (seen : List Int) (hs : SeenB sb seen) (who : Int) (on : Bool) :
    FT Tryz.prog 93 [.agg (rsV r).toArray, .agg (boolsV sb).toArray, .int .i64 who, .bool on].toArray F [] (Ret (.int .i64 (errAt r seen who on))) := by
  have hl := rsV_len hr
  have hlb : (boolsV sb).length = 256 := by rw [List.length_map]; exact hs.1
  refine FT.of_body Tryz.func93 rfl Tryz.ntmps93 (by simp) fun C hC => ?_
  subst hC
  conv => whnf
  intro b4
  conv => whnf
  intro b5
  conv => whnf
  unfold errAt
  by_cases h0 : who < 0
  · rw [if_pos h0]
    refine cond_t h0 ?_
    conv => whnf
    repeat (first | (refine LoadV.s rfl rfl (forceV_of ?_); conv => whnf) | (refine LoadV.s rfl rfl ?_; conv => whnf) | (refine StoreV.c rfl rfl (Nat.le_of_ble_eq_true rfl) rfl ?_; conv => whnf) | (refine LoadV.a _ rfl (Nat.le_of_ble_eq_true rfl) ?_; conv => whnf) | (refine DrawI.quiet (by kernel_rfl) (by kernel_rfl) ?_; conv => whnf) | (refine ArI.in64 (by omega) ?_; conv => whnf) | (refine ArI.inU8 (by omega) ?_; conv => whnf) | (refine ArI.inU64 (by omega) ?_; conv => whnf) | (refine ArI.inU32 (by omega) ?_; conv => whnf) | (refine RetI.one Tryz.results93 rfl ?_; conv => whnf) | (refine RetI.two Tryz.results93 rfl rfl ?_; conv => whnf) | (refine RetI.three Tryz.results93 rfl rfl rfl ?_; conv => whnf) | (refine RetI.none Tryz.results93 ?_; conv => whnf) | (refine ⟨by first | decide | omega, ?_⟩; conv => whnf))
    exact ⟨_, Sub.sel [] rfl, rfl, rfl⟩
  · rw [if_neg h0]
    refine cond_f h0 ?_
    conv => whnf
    by_cases h1 : who ≥ 256
    · rw [if_pos h1]
      refine cond_t h1 ?_
      conv => whnf
      repeat (first | (refine LoadV.s rfl rfl (forceV_of ?_); conv => whnf) | (refine LoadV.s rfl rfl ?_; conv => whnf) | (refine StoreV.c rfl rfl (Nat.le_of_ble_eq_true rfl) rfl ?_; conv => whnf) | (refine LoadV.a _ rfl (Nat.le_of_ble_eq_true rfl) ?_; conv => whnf) | (refine DrawI.quiet (by kernel_rfl) (by kernel_rfl) ?_; conv => whnf) | (refine ArI.in64 (by omega) ?_; conv => whnf) | (refine ArI.inU8 (by omega) ?_; conv => whnf) | (refine ArI.inU64 (by omega) ?_; conv => whnf) | (refine ArI.inU32 (by omega) ?_; conv => whnf) | (refine RetI.one Tryz.results93 rfl ?_; conv => whnf) | (refine RetI.two Tryz.results93 rfl rfl ?_; conv => whnf) | (refine RetI.three Tryz.results93 rfl rfl rfl ?_; conv => whnf) | (refine RetI.none Tryz.results93 ?_; conv => whnf) | (refine ⟨by first | decide | omega, ?_⟩; conv => whnf))
      exact ⟨_, Sub.sel [] rfl, rfl, rfl⟩
    · rw [if_neg h1]
      refine cond_f h1 ?_
      conv => whnf
      refine LoadV.p 192 (rsV r) rfl hl (by show 0 + 192 ≤ (rsV r).length; omega) (take_all0 hl) ?_
      conv => whnf
      refine CallS.mk Tryz.call63 ⟨[], _, _, Sub.refl _, fun F' hF' => rfind_ok F' r hr who, ?_⟩
      rintro e A' ⟨rfl, rfl⟩
      generalize hf : findI r who 0 = f
      have hat := hs.2 who.toNat (by omega)
      rw [Int.toNat_of_nonneg (by omega)] at hat
      generalize hx : decide (who ∈ seen) = x at hat
      obtain ⟨wn, rfl⟩ : ∃ wn : Nat, who = (wn : Int) := ⟨who.toNat, by omega⟩
      rw [Int.toNat_natCast] at hat
      have hat2 : (boolsV sb)[wn]? = some (.bool x) := by rw [List.getElem?_map, hat]; rfl
      conv => whnf
      refine ⟨by omega, ?_⟩
      conv => whnf
      rw [elemOff_nat]
      rotate_left
      · kernel_rfl
      rw [Nat.zero_add]
      refine LoadV.s rfl hat2 ?_
      conv => whnf
      cases x with
      | true =>
        rw [if_pos (of_decide_eq_true hx)]
        conv => whnf
        repeat (first | (refine LoadV.s rfl rfl (forceV_of ?_); conv => whnf) | (refine LoadV.s rfl rfl ?_; conv => whnf) | (refine StoreV.c rfl rfl (Nat.le_of_ble_eq_true rfl) rfl ?_; conv => whnf) | (refine LoadV.a _ rfl (Nat.le_of_ble_eq_true rfl) ?_; conv => whnf) | (refine DrawI.quiet (by kernel_rfl) (by kernel_rfl) ?_; conv => whnf) | (refine ArI.in64 (by omega) ?_; conv => whnf) | (refine ArI.inU8 (by omega) ?_; conv => whnf) | (refine ArI.inU64 (by omega) ?_; conv => whnf) | (refine ArI.inU32 (by omega) ?_; conv => whnf) | (refine RetI.one Tryz.results93 rfl ?_; conv => whnf) | (refine RetI.two Tryz.results93 rfl rfl ?_; conv => whnf) | (refine RetI.three Tryz.results93 rfl rfl rfl ?_; conv => whnf) | (refine RetI.none Tryz.results93 ?_; conv => whnf) | (refine ⟨by first | decide | omega, ?_⟩; conv => whnf))
        exact ⟨_, Sub.sel [] rfl, rfl, rfl⟩
      | false =>
        rw [if_neg (of_decide_eq_false hx)]
        have hfd : decide (f ≥ 0) = decide (0 ≤ f) := rfl
        cases on with
        | true =>
          conv => whnf
          rw [hfd]
          by_cases h2 : 0 ≤ f
          · rw [decide_eq_true h2, if_pos rfl]
            conv => whnf
            repeat (first | (refine LoadV.s rfl rfl (forceV_of ?_); conv => whnf) | (refine LoadV.s rfl rfl ?_; conv => whnf) | (refine StoreV.c rfl rfl (Nat.le_of_ble_eq_true rfl) rfl ?_; conv => whnf) | (refine LoadV.a _ rfl (Nat.le_of_ble_eq_true rfl) ?_; conv => whnf) | (refine DrawI.quiet (by kernel_rfl) (by kernel_rfl) ?_; conv => whnf) | (refine ArI.in64 (by omega) ?_; conv => whnf) | (refine ArI.inU8 (by omega) ?_; conv => whnf) | (refine ArI.inU64 (by omega) ?_; conv => whnf) | (refine ArI.inU32 (by omega) ?_; conv => whnf) | (refine RetI.one Tryz.results93 rfl ?_; conv => whnf) | (refine RetI.two Tryz.results93 rfl rfl ?_; conv => whnf) | (refine RetI.three Tryz.results93 rfl rfl rfl ?_; conv => whnf) | (refine RetI.none Tryz.results93 ?_; conv => whnf) | (refine ⟨by first | decide | omega, ?_⟩; conv => whnf))
            exact ⟨_, Sub.sel [] rfl, rfl, rfl⟩
          · rw [decide_eq_false h2, if_neg (by decide), if_pos rfl]
            conv => whnf
            repeat (first | (refine LoadV.s rfl rfl (forceV_of ?_); conv => whnf) | (refine LoadV.s rfl rfl ?_; conv => whnf) | (refine StoreV.c rfl rfl (Nat.le_of_ble_eq_true rfl) rfl ?_; conv => whnf) | (refine LoadV.a _ rfl (Nat.le_of_ble_eq_true rfl) ?_; conv => whnf) | (refine DrawI.quiet (by kernel_rfl) (by kernel_rfl) ?_; conv => whnf) | (refine ArI.in64 (by omega) ?_; conv => whnf) | (refine ArI.inU8 (by omega) ?_; conv => whnf) | (refine ArI.inU64 (by omega) ?_; conv => whnf) | (refine ArI.inU32 (by omega) ?_; conv => whnf) | (refine RetI.one Tryz.results93 rfl ?_; conv => whnf) | (refine RetI.two Tryz.results93 rfl rfl ?_; conv => whnf) | (refine RetI.three Tryz.results93 rfl rfl rfl ?_; conv => whnf) | (refine RetI.none Tryz.results93 ?_; conv => whnf) | (refine ⟨by first | decide | omega, ?_⟩; conv => whnf))
            exact ⟨_, Sub.sel [] rfl, rfl, rfl⟩
        | false =>
          conv => whnf
          rw [hfd]
          by_cases h2 : 0 ≤ f
          · rw [decide_eq_true h2, if_neg (by decide), if_neg (by decide)]
            conv => whnf
            repeat (first | (refine LoadV.s rfl rfl (forceV_of ?_); conv => whnf) | (refine LoadV.s rfl rfl ?_; conv => whnf) | (refine StoreV.c rfl rfl (Nat.le_of_ble_eq_true rfl) rfl ?_; conv => whnf) | (refine LoadV.a _ rfl (Nat.le_of_ble_eq_true rfl) ?_; conv => whnf) | (refine DrawI.quiet (by kernel_rfl) (by kernel_rfl) ?_; conv => whnf) | (refine ArI.in64 (by omega) ?_; conv => whnf) | (refine ArI.inU8 (by omega) ?_; conv => whnf) | (refine ArI.inU64 (by omega) ?_; conv => whnf) | (refine ArI.inU32 (by omega) ?_; conv => whnf) | (refine RetI.one Tryz.results93 rfl ?_; conv => whnf) | (refine RetI.two Tryz.results93 rfl rfl ?_; conv => whnf) | (refine RetI.three Tryz.results93 rfl rfl rfl ?_; conv => whnf) | (refine RetI.none Tryz.results93 ?_; conv => whnf) | (refine ⟨by first | decide | omega, ?_⟩; conv => whnf))
            exact ⟨_, Sub.sel [] rfl, rfl, rfl⟩
          · rw [decide_eq_false h2, if_pos rfl]
            conv => whnf
            repeat (first | (refine LoadV.s rfl rfl (forceV_of ?_); conv => whnf) | (refine LoadV.s rfl rfl ?_; conv => whnf) | (refine StoreV.c rfl rfl (Nat.le_of_ble_eq_true rfl) rfl ?_; conv => whnf) | (refine LoadV.a _ rfl (Nat.le_of_ble_eq_true rfl) ?_; conv => whnf) | (refine DrawI.quiet (by kernel_rfl) (by kernel_rfl) ?_; conv => whnf) | (refine ArI.in64 (by omega) ?_; conv => whnf) | (refine ArI.inU8 (by omega) ?_; conv => whnf) | (refine ArI.inU64 (by omega) ?_; conv => whnf) | (refine ArI.inU32 (by omega) ?_; conv => whnf) | (refine RetI.one Tryz.results93 rfl ?_; conv => whnf) | (refine RetI.two Tryz.results93 rfl rfl ?_; conv => whnf) | (refine RetI.three Tryz.results93 rfl rfl rfl ?_; conv => whnf) | (refine RetI.none Tryz.results93 ?_; conv => whnf) | (refine ⟨by first | decide | omega, ?_⟩; conv => whnf))
            exact ⟨_, Sub.sel [] rfl, rfl, rfl⟩
theorem errAt_in {r : List EntI} {seen : List Int} {w : Int} {on : Bool} (h : errAt r seen w on = 0) : 0 ≤ w ∧ w < 256 := by
  unfold errAt at h
  by_cases h0 : w < 0
  · rw [if_pos h0] at h; cases h
  · rw [if_neg h0] at h
    by_cases h1 : w ≥ 256
    · rw [if_pos h1] at h; cases h
    · omega
set_option maxHeartbeats 2000000 in
theorem fits9_ok (F : Mem) (r : List EntI) (top ep : Int) (R : RosOk r top ep) (ht : top ≤ 32768) (he : ep ≤ 200) (L J : List Int) (s0 : BatS) (hB : BatF F L J s0) :
    FT Tryz.prog 62 [.agg (rsV r).toArray, .agg (batL L J s0).toArray].toArray F [] (Ret (.int .i64 (fitsE r L J))) := by
  have hl := rsV_len R.len
  have hcnt := slots_length_le (takenN r)
  have hnL := hB.nL
  have hnJ := hB.nJ
  refine FT.of_body Tryz.func62 rfl Tryz.ntmps62 (by simp) fun C hC => ?_
  subst hC
  conv => whnf
  intro b2
  conv => whnf
  intro b3
  conv => whnf
  refine LoadV.p 192 (rsV r) rfl hl (by show 0 + 192 ≤ (rsV r).length; omega) (take_all0 hl) ?_
  conv => whnf
  refine CallS.mk Tryz.call92 ⟨[], _, _, Sub.refl _, fun F' hF' => r9check_ok F' r top ep R ht he, ?_⟩
  rintro e A' ⟨rfl, rfl⟩
  conv => whnf
  intro b5
  conv => whnf
  refine LoadV.s rfl rfl ?_
  conv => whnf
  have hSB : SeenB (List.replicate 256 false) [] := SeenB.none
  refine LoopI.by_state (σ := Nat × List Bool) (fun s => [(2, .pointer (some ⟨b2, 0, none⟩)), (3, .pointer (some ⟨b3, 0, none⟩)), (5, .pointer (some ⟨b5, 0, none⟩)), (16, .slice s0.oL L.length s0.cL), (17, .int .i64 (L.length : Int)), (18, .int .i64 (s.1 : Int))])
    (fun s => [.cells b5 (boolsV s.2) 168 (0, 0), .cells b3 (batL L J s0) 54 (0, 0), .cells b2 (rsV r) 60 (0, 0)]) (fun s => s.1 ≤ L.length ∧ SeenB s.2 (([] : List Int) ++ L.take s.1) ∧ askE r true ([] : List Int) L = askE r true (([] : List Int) ++ L.take s.1) (L.drop s.1)) (fun s => L.length - s.1)
    (0, List.replicate 256 false) ⟨Nat.zero_le _, by simpa using hSB, by simp⟩ ⟨rfl, rfl, rfl, rfl, rfl, rfl, trivial⟩ (Sub.refl _) ?_
  rintro ⟨i, sb⟩ f0 ⟨hi, hsb, hk⟩
  dsimp only at hi hsb hk ⊢
  conv => whnf
  refine cond_dec (fun h => ?_) (fun h => ?_)
  · have hil : i < L.length := by omega
    have hx := (hB.fL).at hil
    obtain ⟨xb, xo, hxe, hrow⟩ := hx
    rw [hxe]
    rw [askE_step hil] at hk
    have hst : ([] : List Int) ++ L.take (i + 1) = (([] : List Int) ++ L.take i) ++ [L[i]] := by rw [take_snoc hil, List.append_assoc]
    have hrd := hrow i (.int .i64 L[i]) (by rw [List.getElem?_map, List.getElem?_eq_getElem hil]; rfl)
    have hlb : (boolsV sb).length = 256 := by rw [List.length_map]; exact hsb.1
    generalize L[i] = w at hk hst hrd ⊢
    conv => whnf
    refine ⟨by omega, ?_⟩
    conv => whnf
    rw [elemOff_nat]
    rotate_left
    · kernel_rfl
    refine LoadV.f hrd rfl ?_
    conv => whnf
    refine LoadV.p 192 (rsV r) rfl hl (by show 0 + 192 ≤ (rsV r).length; omega) (take_all0 hl) ?_
    conv => whnf
    refine LoadV.p 256 (boolsV sb) rfl hlb (by show 0 + 256 ≤ (boolsV sb).length; omega) (take_all0 hlb) ?_
    conv => whnf
    refine CallS.mk Tryz.call93 ⟨[], _, _, Sub.refl _, fun F' hF' => person9_ok F' r R.len sb (([] : List Int) ++ L.take i) hsb w true, ?_⟩
    rintro e A' ⟨rfl, rfl⟩
    by_cases he : errAt r (([] : List Int) ++ L.take i) w true = 0
    · have hin := errAt_in he
      rw [if_pos he] at hk
      rw [he]
      obtain ⟨wn, rfl⟩ : ∃ wn : Nat, w = (wn : Int) := ⟨w.toNat, by omega⟩
      have hput := hsb.put (w := wn) (by omega)
      rw [← hst] at hput
      conv => whnf
      refine ⟨by omega, ?_⟩
      conv => whnf
      rw [elemOff_nat]
      rotate_left
      · kernel_rfl
      rw [Nat.zero_add]
      refine StoreV.c rfl rfl (by show wn + 1 ≤ _; omega) rfl ?_
      rw [show (Value.bool true).cells.toList = [Value.bool true] from rfl, putAt_one _ (by omega), show (boolsV sb).set wn (.bool true) = boolsV (sb.set wn true) from List.map_set.symm]
      conv => whnf
      refine ArI.to64 ((i + 1 : Nat) : Int) (by omega) (by omega) ?_
      conv => whnf
      exact ⟨(i + 1, _), _, by dsimp only; omega, Sub.refl _, ⟨by dsimp only; omega, hput, hk⟩, ⟨rfl, rfl, rfl, rfl, rfl, rfl, trivial⟩, rfl⟩
    · rw [if_neg he] at hk
      generalize errAt r (([] : List Int) ++ L.take i) w true = c at hk he ⊢
      conv => whnf
      rw [show (c != 0) = true from bne_iff_ne.2 he]
      conv => whnf
      repeat (first | (refine LoadV.s rfl rfl (forceV_of ?_); conv => whnf) | (refine LoadV.s rfl rfl ?_; conv => whnf) | (refine StoreV.c rfl rfl (Nat.le_of_ble_eq_true rfl) rfl ?_; conv => whnf) | (refine LoadV.a _ rfl (Nat.le_of_ble_eq_true rfl) ?_; conv => whnf) | (refine DrawI.quiet (by kernel_rfl) (by kernel_rfl) ?_; conv => whnf) | (refine ArI.in64 (by omega) ?_; conv => whnf) | (refine ArI.inU8 (by omega) ?_; conv => whnf) | (refine ArI.inU64 (by omega) ?_; conv => whnf) | (refine ArI.inU32 (by omega) ?_; conv => whnf) | (refine RetI.one Tryz.results62 rfl ?_; conv => whnf) | (refine RetI.two Tryz.results62 rfl rfl ?_; conv => whnf) | (refine RetI.three Tryz.results62 rfl rfl rfl ?_; conv => whnf) | (refine RetI.none Tryz.results62 ?_; conv => whnf) | (refine ⟨by first | decide | omega, ?_⟩; conv => whnf))
      exact ⟨_, Sub.sel [] rfl, ret_int (by unfold fitsE; rw [hk, if_neg he]), rfl⟩
  · obtain rfl : i = L.length := by omega
    rw [List.take_length, List.nil_append] at hsb
    rw [List.drop_length] at hk
    have h1 : askE r true [] L = 0 := hk
    conv => whnf
    refine LoadV.s rfl rfl ?_
    conv => whnf
    have hSB := hsb
    generalize sb = sb0 at hSB
    clear hsb hk hi h
    refine LoopI.by_state (σ := Nat × List Bool) (fun s => [(2, .pointer (some ⟨b2, 0, none⟩)), (3, .pointer (some ⟨b3, 0, none⟩)), (5, .pointer (some ⟨b5, 0, none⟩)), (33, .slice s0.oJ J.length s0.cJ), (34, .int .i64 (J.length : Int)), (35, .int .i64 (s.1 : Int))])
      (fun s => [.cells b5 (boolsV s.2) 168 (0, 0), .cells b3 (batL L J s0) 54 (0, 0), .cells b2 (rsV r) 60 (0, 0)]) (fun s => s.1 ≤ J.length ∧ SeenB s.2 (L ++ J.take s.1) ∧ askE r false L J = askE r false (L ++ J.take s.1) (J.drop s.1)) (fun s => J.length - s.1)
      (0, sb0) ⟨Nat.zero_le _, by simpa using hSB, by simp⟩ ⟨rfl, rfl, rfl, rfl, rfl, rfl, trivial⟩ (Sub.refl _) ?_
    rintro ⟨i, sb⟩ f0 ⟨hi, hsb, hk⟩
    dsimp only at hi hsb hk ⊢
    conv => whnf
    refine cond_dec (fun h => ?_) (fun h => ?_)
    · have hil : i < J.length := by omega
      have hx := (hB.fJ).at hil
      obtain ⟨xb, xo, hxe, hrow⟩ := hx
      rw [hxe]
      rw [askE_step hil] at hk
      have hst : L ++ J.take (i + 1) = (L ++ J.take i) ++ [J[i]] := by rw [take_snoc hil, List.append_assoc]
      have hrd := hrow i (.int .i64 J[i]) (by rw [List.getElem?_map, List.getElem?_eq_getElem hil]; rfl)
      have hlb : (boolsV sb).length = 256 := by rw [List.length_map]; exact hsb.1
      generalize J[i] = w at hk hst hrd ⊢
      conv => whnf
      refine ⟨by omega, ?_⟩
      conv => whnf
      rw [elemOff_nat]
      rotate_left
      · kernel_rfl
      refine LoadV.f hrd rfl ?_
      conv => whnf
      refine LoadV.p 192 (rsV r) rfl hl (by show 0 + 192 ≤ (rsV r).length; omega) (take_all0 hl) ?_
      conv => whnf
      refine LoadV.p 256 (boolsV sb) rfl hlb (by show 0 + 256 ≤ (boolsV sb).length; omega) (take_all0 hlb) ?_
      conv => whnf
      refine CallS.mk Tryz.call93 ⟨[], _, _, Sub.refl _, fun F' hF' => person9_ok F' r R.len sb (L ++ J.take i) hsb w false, ?_⟩
      rintro e A' ⟨rfl, rfl⟩
      by_cases he : errAt r (L ++ J.take i) w false = 0
      · have hin := errAt_in he
        rw [if_pos he] at hk
        rw [he]
        obtain ⟨wn, rfl⟩ : ∃ wn : Nat, w = (wn : Int) := ⟨w.toNat, by omega⟩
        have hput := hsb.put (w := wn) (by omega)
        rw [← hst] at hput
        conv => whnf
        refine ⟨by omega, ?_⟩
        conv => whnf
        rw [elemOff_nat]
        rotate_left
        · kernel_rfl
        rw [Nat.zero_add]
        refine StoreV.c rfl rfl (by show wn + 1 ≤ _; omega) rfl ?_
        rw [show (Value.bool true).cells.toList = [Value.bool true] from rfl, putAt_one _ (by omega), show (boolsV sb).set wn (.bool true) = boolsV (sb.set wn true) from List.map_set.symm]
        conv => whnf
        refine ArI.to64 ((i + 1 : Nat) : Int) (by omega) (by omega) ?_
        conv => whnf
        exact ⟨(i + 1, _), _, by dsimp only; omega, Sub.refl _, ⟨by dsimp only; omega, hput, hk⟩, ⟨rfl, rfl, rfl, rfl, rfl, rfl, trivial⟩, rfl⟩
      · rw [if_neg he] at hk
        generalize errAt r (L ++ J.take i) w false = c at hk he ⊢
        conv => whnf
        rw [show (c != 0) = true from bne_iff_ne.2 he]
        conv => whnf
        repeat (first | (refine LoadV.s rfl rfl (forceV_of ?_); conv => whnf) | (refine LoadV.s rfl rfl ?_; conv => whnf) | (refine StoreV.c rfl rfl (Nat.le_of_ble_eq_true rfl) rfl ?_; conv => whnf) | (refine LoadV.a _ rfl (Nat.le_of_ble_eq_true rfl) ?_; conv => whnf) | (refine DrawI.quiet (by kernel_rfl) (by kernel_rfl) ?_; conv => whnf) | (refine ArI.in64 (by omega) ?_; conv => whnf) | (refine ArI.inU8 (by omega) ?_; conv => whnf) | (refine ArI.inU64 (by omega) ?_; conv => whnf) | (refine ArI.inU32 (by omega) ?_; conv => whnf) | (refine RetI.one Tryz.results62 rfl ?_; conv => whnf) | (refine RetI.two Tryz.results62 rfl rfl ?_; conv => whnf) | (refine RetI.three Tryz.results62 rfl rfl rfl ?_; conv => whnf) | (refine RetI.none Tryz.results62 ?_; conv => whnf) | (refine ⟨by first | decide | omega, ?_⟩; conv => whnf))
        exact ⟨_, Sub.sel [] rfl, ret_int (by unfold fitsE; rw [if_pos h1, hk, if_neg he]), rfl⟩
    · obtain rfl : i = J.length := by omega
      rw [List.drop_length] at hk
      have h2 : askE r false L J = 0 := hk
      conv => whnf
      refine DrawI.quiet (by kernel_rfl) (by kernel_rfl) ?_
      conv => whnf
      refine LoadV.s rfl rfl ?_
      conv => whnf
      refine LoadV.p 192 (rsV r) rfl hl (by show 0 + 192 ≤ (rsV r).length; omega) (take_all0 hl) ?_
      conv => whnf
      refine CallQ.pure Tryz.call95 (fun F' _ => (rtaken_ok F' r R.len).mono fun _ _ h => h.1) ?_
      conv => whnf
      refine CallQ.pure Tryz.call94 (fun F' _ => (rcount_ok F' (takenN r) (takenN_lt R.len)).mono fun _ _ h => h.1) ?_
      unfold fitsE
      rw [if_pos h1, if_pos h2]
      generalize (slots (takenN r)).length = c at hcnt ⊢
      conv => whnf
      refine ArI.to64 (64 - (c : Int)) rfl (by omega) ?_
      conv => whnf
      refine LoadV.s rfl rfl ?_
      conv => whnf
      refine ArI.to64 (64 - (c : Int) + L.length) rfl (by omega) ?_
      conv => whnf
      refine cond_dec (fun h3 => ?_) (fun h3 => ?_)
      · rw [if_pos h3]
        conv => whnf
        repeat (first | (refine LoadV.s rfl rfl (forceV_of ?_); conv => whnf) | (refine LoadV.s rfl rfl ?_; conv => whnf) | (refine StoreV.c rfl rfl (Nat.le_of_ble_eq_true rfl) rfl ?_; conv => whnf) | (refine LoadV.a _ rfl (Nat.le_of_ble_eq_true rfl) ?_; conv => whnf) | (refine DrawI.quiet (by kernel_rfl) (by kernel_rfl) ?_; conv => whnf) | (refine ArI.in64 (by omega) ?_; conv => whnf) | (refine ArI.inU8 (by omega) ?_; conv => whnf) | (refine ArI.inU64 (by omega) ?_; conv => whnf) | (refine ArI.inU32 (by omega) ?_; conv => whnf) | (refine RetI.one Tryz.results62 rfl ?_; conv => whnf) | (refine RetI.two Tryz.results62 rfl rfl ?_; conv => whnf) | (refine RetI.three Tryz.results62 rfl rfl rfl ?_; conv => whnf) | (refine RetI.none Tryz.results62 ?_; conv => whnf) | (refine ⟨by first | decide | omega, ?_⟩; conv => whnf))
        exact ⟨_, Sub.sel [] rfl, rfl, rfl⟩
      · rw [if_neg h3]
        conv => whnf
        repeat (first | (refine LoadV.s rfl rfl (forceV_of ?_); conv => whnf) | (refine LoadV.s rfl rfl ?_; conv => whnf) | (refine StoreV.c rfl rfl (Nat.le_of_ble_eq_true rfl) rfl ?_; conv => whnf) | (refine LoadV.a _ rfl (Nat.le_of_ble_eq_true rfl) ?_; conv => whnf) | (refine DrawI.quiet (by kernel_rfl) (by kernel_rfl) ?_; conv => whnf) | (refine ArI.in64 (by omega) ?_; conv => whnf) | (refine ArI.inU8 (by omega) ?_; conv => whnf) | (refine ArI.inU64 (by omega) ?_; conv => whnf) | (refine ArI.inU32 (by omega) ?_; conv => whnf) | (refine RetI.one Tryz.results62 rfl ?_; conv => whnf) | (refine RetI.two Tryz.results62 rfl rfl ?_; conv => whnf) | (refine RetI.three Tryz.results62 rfl rfl rfl ?_; conv => whnf) | (refine RetI.none Tryz.results62 ?_; conv => whnf) | (refine ⟨by first | decide | omega, ?_⟩; conv => whnf))
        exact ⟨_, Sub.sel [] rfl, rfl, rfl⟩
end Go.Proofs.YtlfmckjehjedpaaGreatDoor

/- The nodes that are replaced: the program's and the reference's; leavers. -/
namespace Go.Proofs.YtlfmckjehjedpaaGreatDoor
set_option linter.unusedVariables false
set_option linter.unusedSimpArgs false
set_option maxRecDepth 100000
open SL Go.RowKit Go.Maps
/-- Does one of the seats lie below the node? -/
def repP (l : List Seat) (v : Nat) : Bool := l.any fun x => under v x.2.toNat
def replN (l : List Seat) : Nat := nodesOf (repP l) 21
/-- All seats are slots. -/
def SlotsOk (l : List Seat) : Prop := ∀ x ∈ l, 0 ≤ x.2 ∧ x.2 < 64
def slotsN (l : List Seat) : Nat := l.foldl (fun s x => s ||| maskN (21 + x.2.toNat)) 0
theorem slotsN_snoc (l : List Seat) (i : Nat) (h : i < l.length) : slotsN (l.take (i + 1)) = slotsN (l.take i) ||| maskN (21 + l[i].2.toNat) := by
  unfold slotsN; rw [take_snoc h, List.foldl_append]; rfl
theorem slotsN_lt {l : List Seat} (h : SlotsOk l) : slotsN l < 18446744073709551616 := by
  have key : ∀ (l : List Seat) (s : Nat), SlotsOk l → s < 18446744073709551616 → l.foldl (fun s x => s ||| maskN (21 + x.2.toNat)) s < 18446744073709551616 := by
    intro l
    induction l with
    | nil => intro s _ hs; exact hs
    | cons x l ih =>
      intro s hl hs
      have hx := hl x (by simp)
      exact ih _ (fun y hy => hl y (by simp [hy])) (or_lt hs (maskN_lt (by omega)))
  exact key l 0 h (by decide)
theorem leaf_bit {i j : Nat} (hi : i < 64) (hj : j < 64) : (maskN (21 + i)).testBit j = decide (i = j) := by
  have : ∀ i : Fin 64, ∀ j : Fin 64, (maskN (21 + i.1)).testBit j.1 = decide (i.1 = j.1) := by decide +kernel
  exact this ⟨i, hi⟩ ⟨j, hj⟩
theorem slotsN_bit {l : List Seat} (h : SlotsOk l) {j : Nat} (hj : j < 64) : (slotsN l).testBit j = l.any fun x => x.2.toNat == j := by
  have key : ∀ (l : List Seat) (s : Nat), SlotsOk l → (l.foldl (fun s x => s ||| maskN (21 + x.2.toNat)) s).testBit j = (s.testBit j || l.any fun x => x.2.toNat == j) := by
    intro l
    induction l with
    | nil => intro s _; simp
    | cons x l ih =>
      intro s hl
      have hx := hl x (by simp)
      rw [List.foldl_cons, ih _ (fun y hy => hl y (by simp [hy])), Nat.testBit_or, leaf_bit (by omega) hj, List.any_cons, Bool.or_assoc]
      rfl
  have := key l 0 h
  rw [Nat.zero_testBit, Bool.false_or] at this
  exact this
theorem hits_rep {l : List Seat} (h : SlotsOk l) {v : Nat} (hv : v < 85) : hits (slotsN l) v = repP l v := by
  rw [Bool.eq_iff_iff, hits_iff hv (slotsN_lt h)]
  unfold repP
  rw [List.any_eq_true]
  constructor
  · rintro ⟨i, hi, h1, h2⟩
    rw [slotsN_bit h hi, List.any_eq_true] at h1
    obtain ⟨x, hx, e⟩ := h1
    exact ⟨x, hx, by rw [beq_iff_eq.1 e]; exact h2⟩
  · rintro ⟨x, hx, h2⟩
    have := h x hx
    exact ⟨x.2.toNat, by omega, by rw [slotsN_bit h (by omega), List.any_eq_true]; exact ⟨x, hx, by simp⟩, h2⟩
theorem repl_ok (F : Mem) (oa : Option Addr) (ca : Nat) (l : List Seat) (hl : SlF F 2 oa l.length (l.flatMap seatF)) (hn : l.length ≤ 140737488355328) (hS : SlotsOk l) :
    FT Tryz.prog 48 [.slice oa l.length ca].toArray F [] (Ret (.int .u32 ((replN l : Nat) : Int))) := by
  refine FT.of_body Tryz.func48 rfl Tryz.ntmps48 (by simp) fun C hC => ?_
  subst hC
  conv => whnf
  refine LoopI.by_state (σ := Nat) (fun i => [(3, .int .u64 ((slotsN (l.take i) : Nat) : Int)), (6, .slice oa l.length ca), (7, .int .i64 (l.length : Int)), (8, .int .i64 (i : Int))]) (fun _ => []) (fun i => i ≤ l.length) (fun i => l.length - i) 0 (Nat.zero_le _) ⟨rfl, rfl, rfl, rfl, trivial⟩ (Sub.refl _) ?_
  rintro i f0 hi
  conv => whnf
  refine cond_dec (fun h => ?_) (fun h => ?_)
  · have hil : i < l.length := by omega
    have hx := hl.at hil
    obtain ⟨xb, xo, rfl, hrow⟩ := hx
    have hrd := flat_row seatF_length hrow hil rfl
    have hs1 := hS l[i] (List.getElem_mem hil)
    have hst := slotsN_snoc l i hil
    have hlt : slotsN (l.take i) < 18446744073709551616 := slotsN_lt fun x hx => hS x (List.mem_of_mem_take hx)
    generalize l[i] = x at hrd hs1 hst ⊢
    obtain ⟨xw, xs⟩ := x
    dsimp only at hs1 hst
    rw [show seatF (xw, xs) = [.int .i64 xw, .int .i64 xs] from rfl] at hrd
    obtain ⟨n, rfl⟩ : ∃ n : Nat, xs = (n : Int) := ⟨xs.toNat, by omega⟩
    rw [Int.toNat_natCast] at hst
    conv => whnf
    refine ⟨by omega, ?_⟩
    conv => whnf
    refine LoadV.fa hrd rfl ?_
    conv => whnf
    intro b5
    conv => whnf
    refine StoreV.c rfl rfl (Nat.le_of_ble_eq_true rfl) rfl ?_
    conv => whnf
    refine LoadV.s rfl rfl ?_
    conv => whnf
    refine CallS.mk Tryz.call60 ⟨[], _, _, Sub.refl _, fun F' hF' => leaf_ok F' (n : Int), ?_⟩
    rintro e A' ⟨rfl, rfl⟩
    rw [leafI_in (by omega) (by omega), show (21 : Int) + (n : Int) = ((21 + n : Nat) : Int) by omega]
    have hm := maskN_lt (show 21 + n < 85 by omega)
    have hmk := fun F' => mask_ok F' ((21 + n : Nat) : Int)
    rw [maskN_eq (show 21 + n < 85 by omega)] at hmk
    generalize hy : maskN (21 + n) = y at hst hm hmk
    generalize ((21 + n : Nat) : Int) = z at hmk ⊢
    conv => whnf
    refine CallS.mk Tryz.call58 ⟨[], _, _, Sub.refl _, fun F' hF' => hmk F', ?_⟩
    rintro e A' ⟨rfl, rfl⟩
    conv => whnf
    rw [u64_or_nat _ _ hlt hm, ← hst]
    conv => whnf
    refine ArI.to64 ((i + 1 : Nat) : Int) (by omega) (by omega) ?_
    conv => whnf
    exact ⟨i + 1, _, by omega, Sub.sel [] rfl, by omega, ⟨rfl, rfl, rfl, rfl, trivial⟩, rfl⟩
  · obtain rfl : i = l.length := by omega
    rw [List.take_length]
    have hlt := slotsN_lt hS
    conv => whnf
    refine CallS.mk Tryz.call81 ⟨[], _, _, Sub.refl _, fun F' hF' => above_ok F' (slotsN l) hlt, ?_⟩
    rintro e A' ⟨rfl, rfl⟩
    rw [nodesOf_congr (q := repP l) (fun v hv => hits_rep hS (by omega)), show nodesOf (repP l) 21 = replN l from rfl]
    conv => whnf
    repeat (first | (refine LoadV.s rfl rfl (forceV_of ?_); conv => whnf) | (refine LoadV.s rfl rfl ?_; conv => whnf) | (refine StoreV.c rfl rfl (Nat.le_of_ble_eq_true rfl) rfl ?_; conv => whnf) | (refine LoadV.a _ rfl (Nat.le_of_ble_eq_true rfl) ?_; conv => whnf) | (refine DrawI.quiet (by kernel_rfl) (by kernel_rfl) ?_; conv => whnf) | (refine ArI.in64 (by omega) ?_; conv => whnf) | (refine ArI.inU8 (by omega) ?_; conv => whnf) | (refine ArI.inU64 (by omega) ?_; conv => whnf) | (refine ArI.inU32 (by omega) ?_; conv => whnf) | (refine RetI.one Tryz.results48 rfl ?_; conv => whnf) | (refine RetI.two Tryz.results48 rfl rfl ?_; conv => whnf) | (refine RetI.three Tryz.results48 rfl rfl rfl ?_; conv => whnf) | (refine RetI.none Tryz.results48 ?_; conv => whnf) | (refine ⟨by first | decide | omega, ?_⟩; conv => whnf))
    exact ⟨_, Sub.sel [] rfl, rfl, rfl⟩
theorem nodesOf_add (p : Nat → Bool) (n : Nat) : nodesOf p (n + 1) = nodesOf p n + (if p n = true then 2 ^ n else 0) := by
  rw [nodesOf_succ]
  by_cases h : p n = true
  · rw [if_pos h]
    have := Nat.two_pow_add_eq_or_of_lt (nodesOf_lt p n) 1
    rw [Nat.mul_one] at this
    rw [Nat.or_comm, ← this, Nat.add_comm]
  · rw [if_neg h, Nat.or_zero, Nat.add_zero]
set_option maxHeartbeats 400000 in
theorem rrepl_ok (F : Mem) (oa : Option Addr) (ca : Nat) (l : List Seat) (hl : SlF F 2 oa l.length (l.flatMap seatF)) (hn : l.length ≤ 140737488355328) (hS : SlotsOk l) :
    FT Tryz.prog 65 [.slice oa l.length ca].toArray F [] (Ret (.int .u32 ((replN l : Nat) : Int))) := by
  refine FT.of_body Tryz.func65 rfl Tryz.ntmps65 (by simp) fun C hC => ?_
  subst hC
  conv => whnf
  refine LoopI.by_state (σ := Nat) (fun v => [(0, .slice oa l.length ca), (3, .int .u32 ((nodesOf (repP l) v : Nat) : Int)), (4, .int .u32 ((2 ^ v : Nat) : Int)), (5, .int .i64 (v : Int))]) (fun _ => []) (fun v => v ≤ 21) (fun v => 21 - v) 0 (Nat.zero_le _) ⟨rfl, rfl, rfl, rfl, trivial⟩ (Sub.refl _) ?_
  rintro v f0 hv
  have hpw : 2 ^ v ≤ 2 ^ 21 := Nat.pow_le_pow_right (by decide) hv
  have hps : 2 ^ (v + 1) = 2 ^ v * 2 := Nat.pow_succ 2 v
  have hlt := nodesOf_lt (repP l) v
  have hst := nodesOf_add (repP l) v
  generalize hp : 2 ^ v = pw at hpw hlt hst hps ⊢
  conv => whnf
  refine cond_dec (fun h => ?_) (fun h => ?_)
  · have hv21 : v < 21 := by omega
    generalize hm : nodesOf (repP l) v = m at hlt hst ⊢
    conv => whnf
    refine LoopI.by_state (σ := Nat) (fun i => [(0, .slice oa l.length ca), (3, .int .u32 (m : Int)), (4, .int .u32 (pw : Int)), (5, .int .i64 (v : Int)), (12, .slice oa l.length ca), (13, .int .i64 (l.length : Int)), (14, .int .i64 (i : Int))]) (fun _ => []) (fun i => i ≤ l.length ∧ ∀ x ∈ l.take i, under v x.2.toNat = false) (fun i => l.length - i) 0 ⟨Nat.zero_le _, by simp⟩ ⟨rfl, rfl, rfl, rfl, rfl, rfl, rfl, trivial⟩ (Sub.refl _) ?_
    rintro i f1 ⟨hi, hno⟩
    conv => whnf
    refine cond_dec (fun h2 => ?_) (fun h2 => ?_)
    · have hil : i < l.length := by omega
      have hx := hl.at hil
      obtain ⟨xb, xo, rfl, hrow⟩ := hx
      have hrd := flat_row seatF_length hrow hil rfl
      have hs1 := hS l[i] (List.getElem_mem hil)
      have hmem := List.getElem_mem hil
      have hst2 : l.take (i + 1) = l.take i ++ [l[i]] := take_snoc hil
      generalize l[i] = x at hrd hs1 hst2 hmem ⊢
      obtain ⟨xw, xs⟩ := x
      dsimp only at hs1
      rw [show seatF (xw, xs) = [.int .i64 xw, .int .i64 xs] from rfl] at hrd
      obtain ⟨n, rfl⟩ : ∃ n : Nat, xs = (n : Int) := ⟨xs.toNat, by omega⟩
      conv => whnf
      refine ⟨by omega, ?_⟩
      conv => whnf
      refine LoadV.fa hrd rfl ?_
      conv => whnf
      intro b7
      conv => whnf
      refine StoreV.c rfl rfl (Nat.le_of_ble_eq_true rfl) rfl ?_
      conv => whnf
      refine LoadV.s rfl rfl ?_
      conv => whnf
      refine CallS.mk Tryz.call100 ⟨[], _, _, Sub.refl _, fun F' hF' => rleaf_ok F' (n : Int), ?_⟩
      rintro e A' ⟨rfl, rfl⟩
      rw [leafI_in (by omega) (by omega), show (21 : Int) + (n : Int) = ((21 + n : Nat) : Int) by omega]
      have hbl := fun F' => rbelow_ok F' (v : Int) ((21 + n : Nat) : Int)
      rw [show isBelow (v : Int) ((21 + n : Nat) : Int) = under v n from rfl] at hbl
      generalize ((21 + n : Nat) : Int) = z at hbl ⊢
      conv => whnf
      refine CallS.mk Tryz.call99 ⟨[], _, _, Sub.refl _, fun F' hF' => hbl F', ?_⟩
      rintro e A' ⟨rfl, rfl⟩
      cases hu : under v n with
      | true =>
        have hrp : repP l v = true := List.any_eq_true.2 ⟨_, hmem, by simpa using hu⟩
        rw [if_pos hrp] at hst
        conv => whnf
        refine ArI.inU32 (by omega) ?_
        conv => whnf
        refine ArI.inU32 (by omega) ?_
        conv => whnf
        refine ArI.to64 ((v + 1 : Nat) : Int) (by omega) (by omega) ?_
        conv => whnf
        exact ⟨v + 1, _, by omega, Sub.sel [] rfl, by omega, ⟨rfl, by rw [hst]; rfl, by rw [hps]; rfl, rfl, trivial⟩, rfl⟩
      | false =>
        conv => whnf
        refine ArI.to64 ((i + 1 : Nat) : Int) (by omega) (by omega) ?_
        conv => whnf
        refine ⟨i + 1, _, by omega, Sub.sel [] rfl, ⟨by omega, ?_⟩, ⟨rfl, rfl, rfl, rfl, rfl, rfl, rfl, trivial⟩, rfl⟩
        rw [hst2]
        intro x hx
        rcases List.mem_append.1 hx with hx | hx
        · exact hno x hx
        · simp only [List.mem_singleton] at hx
          subst hx
          exact hu
    · obtain rfl : i = l.length := by omega
      rw [List.take_length] at hno
      have hrp : repP l v = false := by
        rw [← Bool.not_eq_true]; intro hh
        obtain ⟨x, hx, e⟩ := List.any_eq_true.1 hh
        rw [hno x hx] at e; cases e
      rw [if_neg (by rw [hrp]; simp), Nat.add_zero] at hst
      conv => whnf
      refine ArI.inU32 (by omega) ?_
      conv => whnf
      refine ArI.to64 ((v + 1 : Nat) : Int) (by omega) (by omega) ?_
      conv => whnf
      exact ⟨v + 1, _, by omega, Sub.sel [] rfl, by omega, ⟨rfl, by rw [hst]; rfl, by rw [hps]; rfl, rfl, trivial⟩, rfl⟩
  · obtain rfl : v = 21 := by omega
    rw [show nodesOf (repP l) 21 = replN l from rfl]
    conv => whnf
    repeat (first | (refine LoadV.s rfl rfl (forceV_of ?_); conv => whnf) | (refine LoadV.s rfl rfl ?_; conv => whnf) | (refine StoreV.c rfl rfl (Nat.le_of_ble_eq_true rfl) rfl ?_; conv => whnf) | (refine LoadV.a _ rfl (Nat.le_of_ble_eq_true rfl) ?_; conv => whnf) | (refine DrawI.quiet (by kernel_rfl) (by kernel_rfl) ?_; conv => whnf) | (refine ArI.in64 (by omega) ?_; conv => whnf) | (refine ArI.inU8 (by omega) ?_; conv => whnf) | (refine ArI.inU64 (by omega) ?_; conv => whnf) | (refine ArI.inU32 (by omega) ?_; conv => whnf) | (refine RetI.one Tryz.results65 rfl ?_; conv => whnf) | (refine RetI.two Tryz.results65 rfl rfl ?_; conv => whnf) | (refine RetI.three Tryz.results65 rfl rfl rfl ?_; conv => whnf) | (refine RetI.none Tryz.results65 ?_; conv => whnf) | (refine ⟨by first | decide | omega, ?_⟩; conv => whnf))
    exact ⟨_, Sub.sel [] rfl, rfl, rfl⟩
end Go.Proofs.YtlfmckjehjedpaaGreatDoor

/- Counting nodes; is a node among them? -/
namespace Go.Proofs.YtlfmckjehjedpaaGreatDoor
set_option linter.unusedVariables false
set_option linter.unusedSimpArgs false
set_option maxRecDepth 100000
open SL Go.RowKit Go.Maps
theorem rin_ok (F : Mem) (m v : Nat) (hm : m < 4294967296) (hv : v < 32) : FT Tryz.prog 96 [.int .u32 (m : Int), .int .i64 (v : Int)].toArray F [] (Ret (.bool (m.testBit v))) := by
  generalize hz : (v : Int) = z
  refine FT.of_body Tryz.func96 rfl Tryz.ntmps96 (by simp) fun C hC => ?_
  subst hC
  conv => whnf
  refine cond_f (by omega) ?_
  conv => whnf
  refine cond_f (by omega) ?_
  subst hz
  conv => whnf
  refine LoopI.by_state (σ := Nat) (fun i => [(0, .int .u32 ((m / 2 ^ i : Nat) : Int)), (1, .int .i64 (v : Int)), (5, .int .i64 (i : Int))]) (fun _ => []) (fun i => i ≤ v) (fun i => v - i) 0 (Nat.zero_le _) ⟨by rw [Nat.pow_zero, Nat.div_one]; rfl, rfl, rfl, trivial⟩ (Sub.refl _) ?_
  rintro i f0 hi
  have hx : m / 2 ^ i < 4294967296 := Nat.lt_of_le_of_lt (Nat.div_le_self _ _) hm
  have hd : m / 2 ^ i / 2 = m / 2 ^ (i + 1) := by rw [Nat.div_div_eq_div_mul, ← Nat.pow_succ]
  have htb := testBit_half m i
  generalize m / 2 ^ i = x at hx hd htb ⊢
  conv => whnf
  refine cond_dec (fun h => ?_) (fun h => ?_)
  · conv => whnf
    refine ⟨⟨rfl, by decide⟩, ?_⟩
    refine ArI.mk ((m / 2 ^ (i + 1) : Nat) : Int) (by rw [← hd, IntKind.wrap_u32', Int.tdiv_eq_ediv_of_nonneg (by omega)]; omega) ?_
    conv => whnf
    refine ArI.to64 ((i + 1 : Nat) : Int) (by omega) (by omega) ?_
    conv => whnf
    exact ⟨i + 1, _, by omega, Sub.refl _, by omega, ⟨rfl, rfl, rfl, trivial⟩, rfl⟩
  · obtain rfl : i = v := by omega
    conv => whnf
    refine ⟨⟨rfl, by decide⟩, ?_⟩
    conv => whnf
    rw [htb]
    repeat (first | (refine LoadV.s rfl rfl (forceV_of ?_); conv => whnf) | (refine LoadV.s rfl rfl ?_; conv => whnf) | (refine StoreV.c rfl rfl (Nat.le_of_ble_eq_true rfl) rfl ?_; conv => whnf) | (refine LoadV.a _ rfl (Nat.le_of_ble_eq_true rfl) ?_; conv => whnf) | (refine DrawI.quiet (by kernel_rfl) (by kernel_rfl) ?_; conv => whnf) | (refine ArI.in64 (by omega) ?_; conv => whnf) | (refine ArI.inU8 (by omega) ?_; conv => whnf) | (refine ArI.inU64 (by omega) ?_; conv => whnf) | (refine ArI.inU32 (by omega) ?_; conv => whnf) | (refine RetI.one Tryz.results96 rfl ?_; conv => whnf) | (refine RetI.two Tryz.results96 rfl rfl ?_; conv => whnf) | (refine RetI.three Tryz.results96 rfl rfl rfl ?_; conv => whnf) | (refine RetI.none Tryz.results96 ?_; conv => whnf) | (refine ⟨by first | decide | omega, ?_⟩; conv => whnf))
    exact ⟨_, Sub.refl _, rfl, rfl⟩
/-- How many nodes below n are in. -/
def cntN (p : Nat → Bool) (n : Nat) : Nat := ((List.range n).filter p).length
theorem cntN_succ (p : Nat → Bool) (n : Nat) : cntN p (n + 1) = cntN p n + (if p n = true then 1 else 0) := by
  unfold cntN
  rw [List.range_succ, List.filter_append, List.length_append]
  congr 1
  by_cases h : p n = true
  · rw [if_pos h, List.filter_cons_of_pos h]; rfl
  · rw [if_neg h, List.filter_cons_of_neg h]; rfl
theorem cntN_le (p : Nat → Bool) (n : Nat) : cntN p n ≤ n := by
  unfold cntN; exact Nat.le_trans (List.length_filter_le _ _) (by simp)
theorem cntN_congr {p q : Nat → Bool} {n : Nat} (h : ∀ v, v < n → p v = q v) : cntN p n = cntN q n := by
  unfold cntN
  congr 1
  exact List.filter_congr fun v hv => h v (by simpa using hv)
theorem rcnt_ok (F : Mem) (m : Nat) (hm : m < 4294967296) : FT Tryz.prog 97 [.int .u32 (m : Int)].toArray F [] (Ret (.int .i64 ((cntN m.testBit 21 : Nat) : Int))) := by
  refine FT.of_body Tryz.func97 rfl Tryz.ntmps97 (by simp) fun C hC => ?_
  subst hC
  conv => whnf
  refine LoopI.by_state (σ := Nat) (fun v => [(0, .int .u32 (m : Int)), (3, .int .i64 ((cntN m.testBit v : Nat) : Int)), (4, .int .i64 (v : Int))]) (fun _ => []) (fun v => v ≤ 21) (fun v => 21 - v) 0 (Nat.zero_le _) ⟨rfl, rfl, rfl, trivial⟩ (Sub.refl _) ?_
  rintro v f0 hv
  have hst := cntN_succ m.testBit v
  have hle := cntN_le m.testBit v
  generalize hc : cntN m.testBit v = c at hst hle ⊢
  conv => whnf
  refine cond_dec (fun h => ?_) (fun h => ?_)
  · conv => whnf
    refine CallS.mk Tryz.call96 ⟨[], _, _, Sub.refl _, fun F' hF' => rin_ok F' m v hm (by omega), ?_⟩
    rintro e A' ⟨rfl, rfl⟩
    cases hb : m.testBit v with
    | true =>
      rw [if_pos hb] at hst
      conv => whnf
      refine ArI.to64 ((c + 1 : Nat) : Int) (by omega) (by omega) ?_
      conv => whnf
      refine ArI.to64 ((v + 1 : Nat) : Int) (by omega) (by omega) ?_
      conv => whnf
      exact ⟨v + 1, _, by omega, Sub.refl _, by omega, ⟨rfl, by rw [hst]; rfl, rfl, trivial⟩, rfl⟩
    | false =>
      rw [if_neg (by rw [hb]; simp), Nat.add_zero] at hst
      conv => whnf
      refine ArI.to64 ((v + 1 : Nat) : Int) (by omega) (by omega) ?_
      conv => whnf
      exact ⟨v + 1, _, by omega, Sub.refl _, by omega, ⟨rfl, by rw [hst]; rfl, rfl, trivial⟩, rfl⟩
  · obtain rfl : v = 21 := by omega
    conv => whnf
    repeat (first | (refine LoadV.s rfl rfl (forceV_of ?_); conv => whnf) | (refine LoadV.s rfl rfl ?_; conv => whnf) | (refine StoreV.c rfl rfl (Nat.le_of_ble_eq_true rfl) rfl ?_; conv => whnf) | (refine LoadV.a _ rfl (Nat.le_of_ble_eq_true rfl) ?_; conv => whnf) | (refine DrawI.quiet (by kernel_rfl) (by kernel_rfl) ?_; conv => whnf) | (refine ArI.in64 (by omega) ?_; conv => whnf) | (refine ArI.inU8 (by omega) ?_; conv => whnf) | (refine ArI.inU64 (by omega) ?_; conv => whnf) | (refine ArI.inU32 (by omega) ?_; conv => whnf) | (refine RetI.one Tryz.results97 rfl ?_; conv => whnf) | (refine RetI.two Tryz.results97 rfl rfl ?_; conv => whnf) | (refine RetI.three Tryz.results97 rfl rfl rfl ?_; conv => whnf) | (refine RetI.none Tryz.results97 ?_; conv => whnf) | (refine ⟨by first | decide | omega, ?_⟩; conv => whnf))
    exact ⟨_, Sub.refl _, ret_int (by rw [hc]), rfl⟩
/-- The table of math/bits. -/
abbrev popTab : ByteArray := ⟨((([0, 1, 1, 2, 1, 2, 2, 3, 1, 2, 2, 3, 2, 3, 3, 4, 1, 2, 2, 3, 2, 3, 3, 4, 2, 3, 3, 4, 3, 4, 4, 5, 1, 2, 2, 3, 2, 3, 3, 4, 2, 3, 3, 4, 3, 4, 4, 5, 2, 3, 3, 4, 3, 4, 4, 5, 3, 4, 4, 5, 4, 5, 5, 6] : List UInt8).append [1, 2, 2, 3, 2, 3, 3, 4, 2, 3, 3, 4, 3, 4, 4, 5, 2, 3, 3, 4, 3, 4, 4, 5, 3, 4, 4, 5, 4, 5, 5, 6, 2, 3, 3, 4, 3, 4, 4, 5, 3, 4, 4, 5, 4, 5, 5, 6, 3, 4, 4, 5, 4, 5, 5, 6, 4, 5, 5, 6, 5, 6, 6, 7]).append (([1, 2, 2, 3, 2, 3, 3, 4, 2, 3, 3, 4, 3, 4, 4, 5, 2, 3, 3, 4, 3, 4, 4, 5, 3, 4, 4, 5, 4, 5, 5, 6, 2, 3, 3, 4, 3, 4, 4, 5, 3, 4, 4, 5, 4, 5, 5, 6, 3, 4, 4, 5, 4, 5, 5, 6, 4, 5, 5, 6, 5, 6, 6, 7] : List UInt8).append [2, 3, 3, 4, 3, 4, 4, 5, 3, 4, 4, 5, 4, 5, 5, 6, 3, 4, 4, 5, 4, 5, 5, 6, 4, 5, 5, 6, 5, 6, 6, 7, 3, 4, 4, 5, 4, 5, 5, 6, 4, 5, 5, 6, 5, 6, 6, 7, 4, 5, 5, 6, 5, 6, 6, 7, 5, 6, 6, 7, 6, 7, 7, 8])).toArray⟩
theorem popTab_at : ∀ b : Fin 256, byteAt popTab ((b.1 : Nat) : Int) = ((popB b.1 : Nat) : Int) := by decide +kernel
theorem popTab_size : popTab.size = 256 := by decide +kernel
theorem pop_at {b : Nat} (h : b < 256) {S : ByteArray} (hS : S = popTab) : byteAt S (b : Int) = ((popB b : Nat) : Int) := by rw [hS]; exact popTab_at ⟨b, h⟩
theorem pop_in {b : Nat} (h : b < 256) {S : ByteArray} (hS : S = popTab) : (b : Int) < S.size := by rw [hS, popTab_size]; omega
theorem u32_low (x : Nat) (h : x < 4294967296) : bits .and .u32 (x : Int) 255 = ((x % 256 : Nat) : Int) := by
  rw [show (255 : Int) = ((255 : Nat) : Int) from rfl, u32_and_nat _ _ h (by decide)]
  congr 1
  exact Nat.and_two_pow_sub_one_eq_mod x 8
set_option maxHeartbeats 1000000 in
theorem ones32_ok (F : Mem) (m : Nat) (hm : m < 4294967296) : FT Tryz.prog 50 [.int .u32 (m : Int)].toArray F [] (Ret (.int .i64 ((cntN m.testBit 32 : Nat) : Int))) := by
  refine FT.of_body Tryz.func50 rfl Tryz.ntmps50 (by simp) fun C hC => ?_
  subst hC
  conv => whnf
  refine DrawI.quiet (by kernel_rfl) (by kernel_rfl) ?_
  conv => whnf
  have e1 : Int.fdiv (m : Int) (2 ^ min (Int.toNat 24) IntKind.u32.bits) = ((m / 16777216 : Nat) : Int) := shr_lit m 24 _ 24 rfl (by decide)
  have e2 : Int.fdiv (m : Int) (2 ^ min (Int.toNat 16) IntKind.u32.bits) = ((m / 65536 : Nat) : Int) := shr_lit m 16 _ 16 rfl (by decide)
  have e3 : Int.fdiv (m : Int) (2 ^ min (Int.toNat 8) IntKind.u32.bits) = ((m / 256 : Nat) : Int) := shr_lit m 8 _ 8 rfl (by decide)
  refine ⟨by decide, ?_⟩
  rw [e1]
  have b0 : m / 16777216 < 256 := by omega
  generalize hb0 : m / 16777216 = x0 at b0 ⊢
  have p0 := (pop_fact b0).2.2.2.2.1
  conv => whnf
  refine ⟨⟨by omega, pop_in b0 (by kernel_rfl)⟩, ?_⟩
  rw [pop_at b0]
  rotate_left
  · kernel_rfl
  generalize hq0 : popB x0 = q0 at p0 ⊢
  conv => whnf
  refine ⟨by decide, ?_⟩
  rw [e2]
  have c1 : m / 65536 < 4294967296 := by omega
  have b1 : m / 65536 % 256 < 256 := by omega
  generalize hc1 : m / 65536 = y1 at b1 c1 ⊢
  conv => whnf
  rw [u32_low y1 c1]
  generalize hb1 : y1 % 256 = x1 at b1 ⊢
  have p1 := (pop_fact b1).2.2.2.2.1
  conv => whnf
  refine ⟨⟨by omega, pop_in b1 (by kernel_rfl)⟩, ?_⟩
  rw [pop_at b1]
  rotate_left
  · kernel_rfl
  generalize hq1 : popB x1 = q1 at p1 ⊢
  conv => whnf
  refine ArI.toU8 ((q0 + q1 : Nat) : Int) (by omega) (by omega) ?_
  conv => whnf
  refine ⟨by decide, ?_⟩
  rw [e3]
  have c2 : m / 256 < 4294967296 := by omega
  have b2 : m / 256 % 256 < 256 := by omega
  generalize hc2 : m / 256 = y2 at b2 c2 ⊢
  conv => whnf
  rw [u32_low y2 c2]
  generalize hb2 : y2 % 256 = x2 at b2 ⊢
  have p2 := (pop_fact b2).2.2.2.2.1
  conv => whnf
  refine ⟨⟨by omega, pop_in b2 (by kernel_rfl)⟩, ?_⟩
  rw [pop_at b2]
  rotate_left
  · kernel_rfl
  generalize hq2 : popB x2 = q2 at p2 ⊢
  conv => whnf
  refine ArI.toU8 ((q0 + q1 + q2 : Nat) : Int) (by omega) (by omega) ?_
  conv => whnf
  rw [u32_low m hm]
  have b3 : m % 256 < 256 := by omega
  generalize hb3 : m % 256 = x3 at b3 ⊢
  have p3 := (pop_fact b3).2.2.2.2.1
  conv => whnf
  refine ⟨⟨by omega, pop_in b3 (by kernel_rfl)⟩, ?_⟩
  rw [pop_at b3]
  rotate_left
  · kernel_rfl
  generalize hq3 : popB x3 = q3 at p3 ⊢
  conv => whnf
  refine ArI.toU8 ((q0 + q1 + q2 + q3 : Nat) : Int) (by omega) (by omega) ?_
  conv => whnf
  refine ArI.in64 (by omega) ?_
  conv => whnf
  repeat (first | (refine LoadV.s rfl rfl (forceV_of ?_); conv => whnf) | (refine LoadV.s rfl rfl ?_; conv => whnf) | (refine StoreV.c rfl rfl (Nat.le_of_ble_eq_true rfl) rfl ?_; conv => whnf) | (refine LoadV.a _ rfl (Nat.le_of_ble_eq_true rfl) ?_; conv => whnf) | (refine DrawI.quiet (by kernel_rfl) (by kernel_rfl) ?_; conv => whnf) | (refine ArI.in64 (by omega) ?_; conv => whnf) | (refine ArI.inU8 (by omega) ?_; conv => whnf) | (refine ArI.inU64 (by omega) ?_; conv => whnf) | (refine ArI.inU32 (by omega) ?_; conv => whnf) | (refine RetI.one Tryz.results50 rfl ?_; conv => whnf) | (refine RetI.two Tryz.results50 rfl rfl ?_; conv => whnf) | (refine RetI.three Tryz.results50 rfl rfl rfl ?_; conv => whnf) | (refine RetI.none Tryz.results50 ?_; conv => whnf) | (refine ⟨by first | decide | omega, ?_⟩; conv => whnf))
  refine ⟨_, Sub.refl _, ?_, rfl⟩
  have hs : cntN m.testBit 32 = sumB 4 m := sumB_slots 4 m
  have h4 : sumB 4 m = popB (m % 256) + (popB (m / 256 % 256) + (popB (m / 256 / 256 % 256) + (popB (m / 256 / 256 / 256 % 256) + 0))) := by rw [sumB, sumB, sumB, sumB, sumB]
  have d1 : m / 256 / 256 = y1 := by rw [Nat.div_div_eq_div_mul]; exact hc1
  have d2 : m / 256 / 256 / 256 % 256 = x0 := by rw [Nat.div_div_eq_div_mul, Nat.div_div_eq_div_mul]; show m / 16777216 % 256 = _; omega
  rw [hs, h4, d2, d1, hc2, hb3, hb2, hb1, hq0, hq1, hq2, hq3]
  exact ret_int (by omega)
end Go.Proofs.YtlfmckjehjedpaaGreatDoor

/- The keys one epoch on. -/
namespace Go.Proofs.YtlfmckjehjedpaaGreatDoor
set_option linter.unusedVariables false
set_option linter.unusedSimpArgs false
set_option maxRecDepth 100000
open SL Go.RowKit Go.Maps
/-- How many nodes above n are in. -/
def cntA (p : Nat → Bool) (n : Nat) : Nat := cntN p 21 - cntN p n
theorem cntN_mono (p : Nat → Bool) {a : Nat} : ∀ {b : Nat}, a ≤ b → cntN p a ≤ cntN p b
  | b, h => by
    induction b with
    | zero => have : a = 0 := by omega
              subst this; exact Nat.le_refl _
    | succ b ih =>
      by_cases e : a = b + 1
      · subst e; exact Nat.le_refl _
      · have := ih (by omega)
        rw [cntN_succ]; omega
theorem cntA_step (p : Nat → Bool) {v : Nat} (h : v < 21) : cntA p v = cntA p (v + 1) + (if p v = true then 1 else 0) := by
  have h1 := cntN_mono p (show v + 1 ≤ 21 by omega)
  have h2 := cntN_succ p v
  unfold cntA; omega
theorem cntA_end (p : Nat → Bool) : cntA p 21 = 0 := by unfold cntA; omega
theorem cntA_zero (p : Nat → Bool) : cntA p 0 = cntN p 21 := by
  have : cntN p 0 = 0 := by have := cntN_le p 0; omega
  unfold cntA; omega
theorem cntA_le (p : Nat → Bool) (v : Nat) : cntA p v ≤ 21 := by unfold cntA; have := cntN_le p 21; omega
/-- The node's new key. -/
def newKey (p : Nat → Bool) (fresh : Int) (v : Nat) (k : KeyI) : KeyI := if p v = true then (fresh + (cntA p (v + 1) : Nat), 0) else (k.1, k.2 + 1)
/-- The keys while they are turned: from here up they are new. -/
def midK (p : Nat → Bool) (ks : List KeyI) (fresh : Int) (v : Nat) : List KeyI := ks.mapIdx fun u k => if v ≤ u then newKey p fresh u k else k
def turnK (p : Nat → Bool) (ks : List KeyI) (fresh : Int) : List KeyI := midK p ks fresh 0
theorem midK_length (p : Nat → Bool) (ks : List KeyI) (fresh : Int) (v : Nat) : (midK p ks fresh v).length = ks.length := by simp [midK]
theorem midK_at (p : Nat → Bool) (ks : List KeyI) (fresh : Int) (v u : Nat) (h : u < ks.length) : (midK p ks fresh v)[u]'(by rw [midK_length]; exact h) = if v ≤ u then newKey p fresh u ks[u] else ks[u] := by simp [midK]
theorem midK_top (p : Nat → Bool) {ks : List KeyI} (h : ks.length = 21) (fresh : Int) : midK p ks fresh 21 = ks := by
  apply List.ext_getElem (by rw [midK_length])
  intro i h1 h2
  rw [midK_at p ks fresh 21 i h2, if_neg (by omega)]
theorem midK_set (p : Nat → Bool) {ks : List KeyI} (fresh : Int) {v : Nat} (hv : v < ks.length) : (midK p ks fresh (v + 1)).set v (newKey p fresh v ks[v]) = midK p ks fresh v := by
  apply List.ext_getElem (by rw [List.length_set, midK_length, midK_length])
  intro i h1 h2
  rw [midK_length] at h2
  rw [List.getElem_set, midK_at p ks fresh v i h2]
  by_cases e : v = i
  · subst e; rw [if_pos rfl, if_pos (Nat.le_refl _)]
  · rw [if_neg e, midK_at p ks fresh (v + 1) i h2]
    by_cases h : v ≤ i
    · rw [if_pos (by omega), if_pos h]
    · rw [if_neg (by omega), if_neg h]
theorem midK_old (p : Nat → Bool) {ks : List KeyI} (fresh : Int) {v : Nat} (hv : v < ks.length) : (midK p ks fresh (v + 1))[v]'(by rw [midK_length]; exact hv) = ks[v] := by
  rw [midK_at p ks fresh (v + 1) v hv, if_neg (by omega)]
theorem nodesOf_top (p : Nat → Bool) : nodesOf p 21 / 2097152 = 0 := by
  have := nodesOf_lt p 21
  exact Nat.div_eq_of_lt (by simpa using this)
theorem nodesOf_fun (p : Nat → Bool) {v : Nat} (h : v < 21) : (nodesOf p 21).testBit v = p v := by rw [nodesOf_bit, decide_eq_true h, Bool.true_and]
theorem nodesOf_cnt (p : Nat → Bool) (n : Nat) (h : 21 ≤ n) : cntN (nodesOf p 21).testBit n = cntN p 21 := by
  have e : cntN (nodesOf p 21).testBit 21 = cntN p 21 := cntN_congr fun v hv => nodesOf_fun p hv
  rw [← e]
  clear e
  induction n with
  | zero => omega
  | succ n ih =>
    by_cases h2 : n + 1 = 21
    · rw [h2]
    · rw [cntN_succ, ih (by omega), nodesOf_bit, decide_eq_false (by omega), Bool.false_and, if_neg (by decide), Nat.add_zero]
theorem free_ok (F : Mem) (ks : List KeyI) (top ep : Int) (K : KeysOk ks top ep) (fresh : Int) (n : Nat) (h1 : top ≤ fresh) (h2 : 22 ≤ fresh) (h3 : fresh + n ≤ 32768) :
    FT Tryz.prog 82 [.agg (ksV ks).toArray, .int .i64 fresh, .int .i64 (n : Int)].toArray F [] (Ret (.bool true)) := by
  have hl := ksV_len K.len
  generalize hz : (n : Int) = z
  refine FT.of_body Tryz.func82 rfl Tryz.ntmps82 (by simp) fun C hC => ?_
  subst hC
  conv => whnf
  intro b3
  conv => whnf
  refine cond_split (fun h0 => ?_) (fun h0 => ?_)
  · conv => whnf
    repeat (first | (refine LoadV.s rfl rfl (forceV_of ?_); conv => whnf) | (refine LoadV.s rfl rfl ?_; conv => whnf) | (refine StoreV.c rfl rfl (Nat.le_of_ble_eq_true rfl) rfl ?_; conv => whnf) | (refine LoadV.a _ rfl (Nat.le_of_ble_eq_true rfl) ?_; conv => whnf) | (refine DrawI.quiet (by kernel_rfl) (by kernel_rfl) ?_; conv => whnf) | (refine ArI.in64 (by omega) ?_; conv => whnf) | (refine ArI.inU8 (by omega) ?_; conv => whnf) | (refine ArI.inU64 (by omega) ?_; conv => whnf) | (refine ArI.inU32 (by omega) ?_; conv => whnf) | (refine RetI.one Tryz.results82 rfl ?_; conv => whnf) | (refine RetI.two Tryz.results82 rfl rfl ?_; conv => whnf) | (refine RetI.three Tryz.results82 rfl rfl rfl ?_; conv => whnf) | (refine RetI.none Tryz.results82 ?_; conv => whnf) | (refine ⟨by first | decide | omega, ?_⟩; conv => whnf))
    exact ⟨_, Sub.sel [] rfl, rfl, rfl⟩
  · conv => whnf
    refine cond_f (by omega) ?_
    conv => whnf
    refine ArI.in64 (by omega) ?_
    conv => whnf
    refine cond_f (by omega) ?_
    conv => whnf
    refine LoadV.p 42 (ksV ks) rfl hl (by show 0 + 42 ≤ (ksV ks).length; omega) (take_all0 hl) ?_
    conv => whnf
    refine LoopI.by_state (σ := Nat) (fun i => [(1, .int .i64 fresh), (2, .int .i64 z), (19, .agg (ksV ks).toArray), (20, .int .i64 (i : Int))]) (fun _ => []) (fun i => i ≤ 21) (fun i => 21 - i) 0 (Nat.zero_le _) ⟨rfl, rfl, rfl, rfl, trivial⟩ (Sub.sel [] rfl) ?_
    rintro i f0 hi
    conv => whnf
    refine cond_dec (fun h => ?_) (fun h => ?_)
    · have hi21 : i < 21 := by omega
      have hil : i < ks.length := by rw [K.len]; exact hi21
      have hr := K.rng ks[i] (List.getElem_mem hil)
      conv => whnf
      refine ks_index K.len hi21 ?_
      generalize ks[i] = k at hr ⊢
      obtain ⟨kb, kk⟩ := k
      dsimp only at hr
      rw [show keyF (kb, kk) = [.int .i64 kb, .int .i64 kk] from rfl]
      conv => whnf
      intro b8
      conv => whnf
      refine StoreV.c rfl rfl (Nat.le_of_ble_eq_true rfl) rfl ?_
      conv => whnf
      refine LoadV.s rfl rfl ?_
      conv => whnf
      refine cond_f (by omega) ?_
      conv => whnf
      refine ArI.to64 ((i + 1 : Nat) : Int) (by omega) (by omega) ?_
      conv => whnf
      exact ⟨i + 1, _, by omega, Sub.sel [] rfl, by omega, ⟨rfl, rfl, rfl, rfl, trivial⟩, rfl⟩
    · conv => whnf
      repeat (first | (refine LoadV.s rfl rfl (forceV_of ?_); conv => whnf) | (refine LoadV.s rfl rfl ?_; conv => whnf) | (refine StoreV.c rfl rfl (Nat.le_of_ble_eq_true rfl) rfl ?_; conv => whnf) | (refine LoadV.a _ rfl (Nat.le_of_ble_eq_true rfl) ?_; conv => whnf) | (refine DrawI.quiet (by kernel_rfl) (by kernel_rfl) ?_; conv => whnf) | (refine ArI.in64 (by omega) ?_; conv => whnf) | (refine ArI.inU8 (by omega) ?_; conv => whnf) | (refine ArI.inU64 (by omega) ?_; conv => whnf) | (refine ArI.inU32 (by omega) ?_; conv => whnf) | (refine RetI.one Tryz.results82 rfl ?_; conv => whnf) | (refine RetI.two Tryz.results82 rfl rfl ?_; conv => whnf) | (refine RetI.three Tryz.results82 rfl rfl rfl ?_; conv => whnf) | (refine RetI.none Tryz.results82 ?_; conv => whnf) | (refine ⟨by first | decide | omega, ?_⟩; conv => whnf))
      exact ⟨_, Sub.sel [] rfl, rfl, rfl⟩
end Go.Proofs.YtlfmckjehjedpaaGreatDoor

/- The keys one epoch on: the program's and the reference's. -/
namespace Go.Proofs.YtlfmckjehjedpaaGreatDoor
set_option linter.unusedVariables false
set_option linter.unusedSimpArgs false
set_option maxRecDepth 100000
open SL Go.RowKit Go.Maps
theorem newKey_hit {p : Nat → Bool} {v : Nat} (h : p v = true) (fresh : Int) (k : KeyI) : newKey p fresh v k = (fresh + (cntA p (v + 1) : Nat), 0) := by unfold newKey; rw [if_pos h]
theorem newKey_miss {p : Nat → Bool} {v : Nat} (h : p v = false) (fresh : Int) (k : KeyI) : newKey p fresh v k = (k.1, k.2 + 1) := by unfold newKey; rw [if_neg (by rw [h]; simp)]
set_option maxHeartbeats 2000000 in
theorem turn_ok (F : Mem) (ks : List KeyI) (top ep : Int) (K : KeysOk ks top ep) (ht : top ≤ 32768) (he : ep ≤ 200) (p : Nat → Bool) (fresh : Int) (h1 : top ≤ fresh) (h2 : 22 ≤ fresh) (h3 : fresh + (cntN p 21 : Nat) ≤ 32768) :
    FT Tryz.prog 51 [.agg (ksV ks).toArray, .int .u32 ((nodesOf p 21 : Nat) : Int), .int .i64 fresh].toArray F []
    (Ret (.tuple #[.agg (ksV (turnK p ks fresh)).toArray, .int .i64 (fresh + (cntN p 21 : Nat)), .int .i64 0])) := by
  have hl := ksV_len K.len
  have hm := nodesOf_lt32 p (Nat.le_refl 21)
  have hshr : Int.fdiv ((nodesOf p 21 : Nat) : Int) (2 ^ min (Int.toNat 21) IntKind.u32.bits) = 0 := by
    have := shr_lit (nodesOf p 21) 21 32 21 rfl (by decide)
    rw [show (2 : Nat) ^ 21 = 2097152 by decide, nodesOf_top p] at this
    exact this
  have hcnt := nodesOf_cnt p 32 (by omega)
  have hbit := fun v (hv : v < 21) => (bit_test (nodesOf p 21) v hm (by omega)).trans (nodesOf_fun p hv)
  generalize nodesOf p 21 = m at hm hshr hcnt hbit ⊢
  refine FT.of_body Tryz.func51 rfl Tryz.ntmps51 (by simp) fun C hC => ?_
  subst hC
  conv => whnf
  intro b3
  conv => whnf
  intro b6
  conv => whnf
  refine LoadV.p 42 (ksV ks) rfl hl (by show 0 + 42 ≤ (ksV ks).length; omega) (take_all0 hl) ?_
  conv => whnf
  refine CallS.mk Tryz.call76 ⟨[], _, _, Sub.refl _, fun F' hF' => kcheck_ok F' ks top ep K ht he, ?_⟩
  rintro e A' ⟨rfl, rfl⟩
  conv => whnf
  refine ⟨by decide, ?_⟩
  rw [hshr]
  conv => whnf
  refine DrawI.quiet (by kernel_rfl) (by kernel_rfl) ?_
  conv => whnf
  refine LoadV.p 42 (ksV ks) rfl hl (by show 0 + 42 ≤ (ksV ks).length; omega) (take_all0 hl) ?_
  conv => whnf
  have ho := fun F' => ones32_ok F' m hm
  rw [hcnt] at ho
  refine CallQ.pure Tryz.call50 (fun F' _ => (ho F').mono fun _ _ h => h.1) ?_
  conv => whnf
  refine CallQ.pure Tryz.call82 (fun F' _ => (free_ok F' ks top ep K fresh (cntN p 21) h1 h2 h3).mono fun _ _ h => h.1) ?_
  conv => whnf
  refine LoopI.by_state (σ := Nat) (fun i => [(1, .int .u32 (m : Int)), (2, .int .i64 (fresh + (cntA p (21 - i) : Nat))), (3, .pointer (some ⟨b3, 0, none⟩)), (6, .pointer (some ⟨b6, 0, none⟩)), (31, .int .i64 (i : Int))])
    (fun i => [.cells b6 (ksV (List.replicate 21 (0, 0))) 56 (0, 0), .cells b3 (ksV (midK p ks fresh (21 - i))) 56 (0, 0)]) (fun i => i ≤ 21) (fun i => 21 - i) 0 (Nat.zero_le _)
    ⟨rfl, by rw [cntA_end, Int.natCast_zero, Int.add_zero]; rfl, rfl, rfl, rfl, trivial⟩ (by rw [midK_top p K.len]; exact Sub.refl _) ?_
  rintro i f0 hi
  conv => whnf
  refine cond_dec (fun h => ?_) (fun h => ?_)
  · obtain ⟨v, hv⟩ : ∃ v, v = 20 - i := ⟨_, rfl⟩
    have hv21 : v < 21 := by omega
    have e1 : 21 - i = v + 1 := by omega
    have e2 : 21 - (i + 1) = v := by omega
    rw [e1]
    have hvl : v < ks.length := by rw [K.len]; exact hv21
    have hset := midK_set p fresh hvl
    have hold := midK_old p fresh hvl
    have hml := midK_length p ks fresh (v + 1)
    have hcs := cntA_step p hv21
    have hca := cntA_le p v
    have hb := hbit v hv21
    have hr := K.rng ks[v] (List.getElem_mem hvl)
    have hkl : (ksV (midK p ks fresh (v + 1))).length = 42 := ksV_len (by rw [hml, K.len])
    conv => whnf
    refine ArI.to64 ((v : Nat) : Int) (by omega) (by omega) ?_
    conv => whnf
    refine ArI.toU64 ((v : Nat) : Int) rfl (by omega) ?_
    conv => whnf
    refine ⟨by omega, ?_⟩
    conv => whnf
    rw [hb]
    cases hp : p v with
    | true =>
      rw [newKey_hit hp] at hset
      rw [hp, if_pos rfl] at hcs
      generalize hfr : fresh + ((cntA p (v + 1) : Nat) : Int) = fr at hset ⊢
      conv => whnf
      refine ⟨by omega, ?_⟩
      conv => whnf
      rw [elem_off (n := 2)]
      rotate_left
      · kernel_rfl
      · rfl
      refine StoreV.c rfl rfl (by show v * 2 + 2 ≤ _; rw [hkl]; omega) rfl ?_
      rw [show (Value.agg #[Value.int IntKind.i64 fr, Value.int IntKind.i64 0]).cells.toList = keyF (fr, 0) from rfl, ksV_put (fr, 0) (by rw [hml]; exact hvl), hset]
      conv => whnf
      refine ArI.to64 (fr + 1) rfl (by omega) ?_
      conv => whnf
      refine ArI.to64 ((i + 1 : Nat) : Int) (by omega) (by omega) ?_
      conv => whnf
      exact ⟨i + 1, _, by omega, Sub.refl _, by omega, ⟨rfl, by rw [e2, hcs, ← hfr]; show Value.int _ _ = .int _ _; congr 1; omega, rfl, rfl, rfl, trivial⟩, by rw [e2]⟩
    | false =>
      rw [newKey_miss hp] at hset
      rw [hp, if_neg (by decide), Nat.add_zero] at hcs
      have hpart := ksV_part (l := midK p ks fresh (v + 1)) (i := v) (by rw [hml]; exact hvl)
      rw [hold] at hpart
      generalize ks[v] = k at hset hpart hr ⊢
      obtain ⟨kb, kk⟩ := k
      dsimp only at hset hr
      rw [show keyF (kb, kk) = [.int .i64 kb, .int .i64 kk] from rfl] at hpart
      conv => whnf
      refine ⟨by omega, ?_⟩
      conv => whnf
      rw [elem_off (n := 2)]
      rotate_left
      · kernel_rfl
      · rfl
      refine LoadV.p 2 [.int .i64 kb, .int .i64 kk] rfl rfl (by rw [hkl]; omega) hpart ?_
      conv => whnf
      refine CallS.mk Tryz.call83 ⟨[], _, _, Sub.refl _, fun F' hF' => ahead_ok F' kb kk 1 ((keyB_spec _ _).2 (by omega)) (by decide) (by omega), ?_⟩
      rintro e A' ⟨rfl, rfl⟩
      generalize hk1 : kk + 1 = k1 at hset ⊢
      conv => whnf
      intro b11
      conv => whnf
      refine StoreV.c rfl rfl (Nat.le_of_ble_eq_true rfl) rfl ?_
      conv => whnf
      refine LoadV.a 2 rfl (Nat.le_of_ble_eq_true rfl) ?_
      conv => whnf
      refine ⟨by omega, ?_⟩
      conv => whnf
      rw [elem_off (n := 2)]
      rotate_left
      · kernel_rfl
      · rfl
      refine StoreV.c rfl rfl (by show v * 2 + 2 ≤ _; rw [hkl]; omega) rfl ?_
      rw [show (Value.agg #[Value.int IntKind.i64 kb, Value.int IntKind.i64 k1]).cells.toList = keyF (kb, k1) from rfl, ksV_put (kb, k1) (by rw [hml]; exact hvl), hset]
      conv => whnf
      refine ArI.to64 ((i + 1 : Nat) : Int) (by omega) (by omega) ?_
      conv => whnf
      exact ⟨i + 1, _, by omega, Sub.sel [1, 2] rfl, by omega, ⟨rfl, by rw [e2, hcs]; rfl, rfl, rfl, rfl, trivial⟩, by rw [e2]⟩
  · obtain rfl : i = 21 := by omega
    rw [Nat.sub_self, cntA_zero, show midK p ks fresh 0 = turnK p ks fresh from rfl]
    have hll : (ksV (turnK p ks fresh)).length = 42 := ksV_len (by unfold turnK; rw [midK_length, K.len])
    have hall := ksV_all (turnK p ks fresh)
    have h6 : (ksV (List.replicate 21 (0, 0))).length = 42 := ksV_len rfl
    generalize ksV (turnK p ks fresh) = L at hll hall ⊢
    generalize ksV (List.replicate 21 (0, 0)) = Z at h6 ⊢
    conv => whnf
    refine LoadV.p 42 L rfl hll (by omega) (take_all0 hll) ?_
    conv => whnf
    refine StoreV.p 42 L L rfl hll rfl (by omega) hall (putAt_all (by omega)) ?_
    conv => whnf
    refine RetI.cell3 Tryz.results51 rfl rfl rfl ?_
    conv => whnf
    refine LoadV.p 42 L rfl hll (by omega) (take_all0 hll) ?_
    exact ⟨_, Sub.sel [] rfl, rfl, rfl⟩
set_option maxHeartbeats 2000000 in
theorem rturn_ok (F : Mem) (ks : List KeyI) (top ep : Int) (K : KeysOk ks top ep) (ht : top ≤ 32768) (he : ep ≤ 200) (p : Nat → Bool) (fresh : Int) (h1 : top ≤ fresh) (h2 : 22 ≤ fresh) (h3 : fresh + (cntN p 21 : Nat) ≤ 32768) :
    FT Tryz.prog 64 [.agg (ksV ks).toArray, .int .u32 ((nodesOf p 21 : Nat) : Int), .int .i64 fresh].toArray F []
    (Ret (.tuple #[.agg (ksV (turnK p ks fresh)).toArray, .int .i64 (fresh + (cntN p 21 : Nat)), .int .i64 0])) := by
  have hl := ksV_len K.len
  have hm := nodesOf_lt32 p (Nat.le_refl 21)
  have hcnt := nodesOf_cnt p 21 (by omega)
  have hbit := fun v (hv : v < 21) => nodesOf_fun p hv
  have hoff : ∀ v, 21 ≤ v → (nodesOf p 21).testBit v = false := fun v hv => by rw [nodesOf_bit, decide_eq_false (by omega), Bool.false_and]
  have hcle := cntN_le p 21
  generalize nodesOf p 21 = m at hm hcnt hbit hoff ⊢
  refine FT.of_body Tryz.func64 rfl Tryz.ntmps64 (by simp) fun C hC => ?_
  subst hC
  conv => whnf
  intro b3
  conv => whnf
  intro b6
  conv => whnf
  refine LoadV.p 42 (ksV ks) rfl hl (by show 0 + 42 ≤ (ksV ks).length; omega) (take_all0 hl) ?_
  conv => whnf
  refine CallS.mk Tryz.call91 ⟨[], _, _, Sub.refl _, fun F' hF' => rkcheck_ok F' ks top ep K ht he, ?_⟩
  rintro e A' ⟨rfl, rfl⟩
  conv => whnf
  refine LoopI.by_state (σ := Nat) (fun i => [(1, .int .u32 (m : Int)), (2, .int .i64 fresh), (3, .pointer (some ⟨b3, 0, none⟩)), (6, .pointer (some ⟨b6, 0, none⟩)), (9, .int .i64 (i : Int))])
    (fun _ => [.cells b6 (ksV (List.replicate 21 (0, 0))) 56 (0, 0), .cells b3 (ksV ks) 56 (0, 0)]) (fun i => 21 ≤ i ∧ i ≤ 32) (fun i => 32 - i) 21 ⟨by omega, by omega⟩
    ⟨rfl, rfl, rfl, rfl, rfl, trivial⟩ (Sub.refl _) ?_
  rintro i f0 ⟨hi1, hi2⟩
  conv => whnf
  refine cond_dec (fun h => ?_) (fun h => ?_)
  · conv => whnf
    have hri := fun F' => rin_ok F' m i hm (by omega)
    rw [hoff i hi1] at hri
    refine CallS.mk Tryz.call96 ⟨[], _, _, Sub.refl _, fun F' hF' => hri F', ?_⟩
    rintro e A' ⟨rfl, rfl⟩
    conv => whnf
    refine ArI.to64 ((i + 1 : Nat) : Int) (by omega) (by omega) ?_
    conv => whnf
    exact ⟨i + 1, _, by omega, Sub.refl _, by omega, ⟨rfl, rfl, rfl, rfl, rfl, trivial⟩, rfl⟩
  · conv => whnf
    have hco := fun F' => rcnt_ok F' m hm
    rw [hcnt] at hco
    refine CallS.mk Tryz.call97 ⟨[], _, _, Sub.refl _, fun F' hF' => hco F', ?_⟩
    rintro e A' ⟨rfl, rfl⟩
    generalize hz : ((cntN p 21 : Nat) : Int) = z at h3 ⊢
    have hz0 : 0 ≤ z := by omega
    conv => whnf
    refine cond_dec (fun hc0 => ?_) (fun hc0 => ?_)
    · conv => whnf
      refine cond_f (by omega) ?_
      conv => whnf
      refine ArI.in64 (by omega) ?_
      conv => whnf
      refine cond_f (by omega) ?_
      conv => whnf
      refine LoopI.by_state (σ := Nat) (fun i => [(1, .int .u32 (m : Int)), (2, .int .i64 fresh), (3, .pointer (some ⟨b3, 0, none⟩)), (6, .pointer (some ⟨b6, 0, none⟩)), (10, .int .i64 z), (11, .int .i64 (i : Int))])
        (fun _ => [.cells b6 (ksV (List.replicate 21 (0, 0))) 56 (0, 0), .cells b3 (ksV ks) 56 (0, 0)]) (fun i => i ≤ 21) (fun i => 21 - i) 0 (Nat.zero_le _)
        ⟨rfl, rfl, rfl, rfl, rfl, rfl, trivial⟩ (Sub.refl _) ?_
      rintro i f1 hi3
      conv => whnf
      refine cond_dec (fun h4 => ?_) (fun h4 => ?_)
      · have hi21 : i < 21 := by omega
        have hil : i < ks.length := by rw [K.len]; exact hi21
        have hr := K.rng ks[i] (List.getElem_mem hil)
        have hat := ksV_at (j := 0) hil (by omega)
        generalize ks[i] = k at hr hat ⊢
        conv => whnf
        refine cond_t (by omega) ?_
        conv => whnf
        refine ⟨by omega, ?_⟩
        conv => whnf
        rw [fld_addr (n := 2) (f' := 0)]
        rotate_left
        · kernel_rfl
        · rfl
        · kernel_rfl
        refine LoadV.s rfl hat ?_
        conv => whnf
        refine cond_f (by omega) ?_
        conv => whnf
        refine ArI.to64 ((i + 1 : Nat) : Int) (by omega) (by omega) ?_
        conv => whnf
        exact ⟨i + 1, _, by omega, Sub.refl _, by omega, ⟨rfl, rfl, rfl, rfl, rfl, rfl, trivial⟩, rfl⟩
      · conv => whnf
        refine LoopI.by_state (σ := Nat) (fun i => [(1, .int .u32 (m : Int)), (2, .int .i64 (fresh + (cntA p (21 - i) : Nat))), (3, .pointer (some ⟨b3, 0, none⟩)), (6, .pointer (some ⟨b6, 0, none⟩)), (12, .int .i64 (20 - (i : Int)))])
          (fun i => [.cells b6 (ksV (List.replicate 21 (0, 0))) 56 (0, 0), .cells b3 (ksV (midK p ks fresh (21 - i))) 56 (0, 0)]) (fun i => i ≤ 21) (fun i => 21 - i) 0 (Nat.zero_le _)
          ⟨rfl, by rw [cntA_end, Int.natCast_zero, Int.add_zero]; rfl, rfl, rfl, rfl, trivial⟩ (by rw [midK_top p K.len]; exact Sub.refl _) ?_
        rintro i f9 hi
        generalize hvz : (20 - (i : Int)) = vz
        conv => whnf
        refine cond_dec (fun h => ?_) (fun h => ?_)
        · obtain ⟨v, hv⟩ : ∃ v, v = 20 - i := ⟨_, rfl⟩
          have hv21 : v < 21 := by omega
          have e1 : 21 - i = v + 1 := by omega
          have e2 : 21 - (i + 1) = v := by omega
          obtain rfl : vz = (v : Int) := by omega
          rw [e1]
          have hvl : v < ks.length := by rw [K.len]; exact hv21
          have hset := midK_set p fresh hvl
          have hold := midK_old p fresh hvl
          have hml := midK_length p ks fresh (v + 1)
          have hcs := cntA_step p hv21
          have hca := cntA_le p v
          have hri := fun F' => rin_ok F' m v hm (by omega)
          rw [hbit v hv21] at hri
          have hr := K.rng ks[v] (List.getElem_mem hvl)
          have hkl : (ksV (midK p ks fresh (v + 1))).length = 42 := ksV_len (by rw [hml, K.len])
          conv => whnf
          refine CallS.mk Tryz.call96 ⟨[], _, _, Sub.refl _, fun F' hF' => hri F', ?_⟩
          rintro e A' ⟨rfl, rfl⟩
          cases hp : p v with
          | true =>
            rw [newKey_hit hp] at hset
            rw [hp, if_pos rfl] at hcs
            generalize hfr : fresh + ((cntA p (v + 1) : Nat) : Int) = fr at hset ⊢
            conv => whnf
            refine ⟨by omega, ?_⟩
            conv => whnf
            rw [elem_off (n := 2)]
            rotate_left
            · kernel_rfl
            · rfl
            refine StoreV.c rfl rfl (by show v * 2 + 2 ≤ _; rw [hkl]; omega) rfl ?_
            rw [show (Value.agg #[Value.int IntKind.i64 fr, Value.int IntKind.i64 0]).cells.toList = keyF (fr, 0) from rfl, ksV_put (fr, 0) (by rw [hml]; exact hvl), hset]
            conv => whnf
            refine ArI.to64 (fr + 1) rfl (by omega) ?_
            conv => whnf
            refine ArI.to64 (20 - ((i + 1 : Nat) : Int)) (by omega) (by omega) ?_
            conv => whnf
            exact ⟨i + 1, _, by omega, Sub.refl _, by omega, ⟨rfl, by rw [e2, hcs, ← hfr]; show Value.int _ _ = .int _ _; congr 1; omega, rfl, rfl, rfl, trivial⟩, by rw [e2]⟩
          | false =>
            rw [newKey_miss hp] at hset
            rw [hp, if_neg (by decide), Nat.add_zero] at hcs
            have hpart := ksV_part (l := midK p ks fresh (v + 1)) (i := v) (by rw [hml]; exact hvl)
            rw [hold] at hpart
            generalize ks[v] = k at hset hpart hr ⊢
            obtain ⟨kb, kk⟩ := k
            dsimp only at hset hr
            rw [show keyF (kb, kk) = [.int .i64 kb, .int .i64 kk] from rfl] at hpart
            conv => whnf
            refine ⟨by omega, ?_⟩
            conv => whnf
            rw [elem_off (n := 2)]
            rotate_left
            · kernel_rfl
            · rfl
            refine LoadV.p 2 [.int .i64 kb, .int .i64 kk] rfl rfl (by rw [hkl]; omega) hpart ?_
            conv => whnf
            refine CallS.mk Tryz.call98 ⟨[], _, _, Sub.refl _, fun F' hF' => rahead_ok F' kb kk 1 ((keyB_spec _ _).2 (by omega)) (by decide) (by omega), ?_⟩
            rintro e A' ⟨rfl, rfl⟩
            generalize hk1 : kk + 1 = k1 at hset ⊢
            conv => whnf
            intro b11
            conv => whnf
            refine StoreV.c rfl rfl (Nat.le_of_ble_eq_true rfl) rfl ?_
            conv => whnf
            refine LoadV.a 2 rfl (Nat.le_of_ble_eq_true rfl) ?_
            conv => whnf
            refine ⟨by omega, ?_⟩
            conv => whnf
            rw [elem_off (n := 2)]
            rotate_left
            · kernel_rfl
            · rfl
            refine StoreV.c rfl rfl (by show v * 2 + 2 ≤ _; rw [hkl]; omega) rfl ?_
            rw [show (Value.agg #[Value.int IntKind.i64 kb, Value.int IntKind.i64 k1]).cells.toList = keyF (kb, k1) from rfl, ksV_put (kb, k1) (by rw [hml]; exact hvl), hset]
            conv => whnf
            refine ArI.to64 (20 - ((i + 1 : Nat) : Int)) (by omega) (by omega) ?_
            conv => whnf
            exact ⟨i + 1, _, by omega, Sub.sel [1, 2] rfl, by omega, ⟨rfl, by rw [e2, hcs]; rfl, rfl, rfl, rfl, trivial⟩, by rw [e2]⟩
        · obtain rfl : i = 21 := by omega
          rw [Nat.sub_self, cntA_zero, show midK p ks fresh 0 = turnK p ks fresh from rfl]
          have hll : (ksV (turnK p ks fresh)).length = 42 := ksV_len (by unfold turnK; rw [midK_length, K.len])
          have hall := ksV_all (turnK p ks fresh)
          have h6 : (ksV (List.replicate 21 (0, 0))).length = 42 := ksV_len rfl
          generalize ksV (turnK p ks fresh) = L at hll hall ⊢
          generalize ksV (List.replicate 21 (0, 0)) = Z at h6 ⊢
          conv => whnf
          refine LoadV.p 42 L rfl hll (by omega) (take_all0 hll) ?_
          conv => whnf
          refine StoreV.p 42 L L rfl hll rfl (by omega) hall (putAt_all (by omega)) ?_
          conv => whnf
          refine RetI.cell3 Tryz.results64 rfl rfl rfl ?_
          conv => whnf
          refine LoadV.p 42 L rfl hll (by omega) (take_all0 hll) ?_
          exact ⟨_, Sub.sel [] rfl, by rw [← hz], rfl⟩
    · conv => whnf
      refine LoopI.by_state (σ := Nat) (fun i => [(1, .int .u32 (m : Int)), (2, .int .i64 fresh), (3, .pointer (some ⟨b3, 0, none⟩)), (6, .pointer (some ⟨b6, 0, none⟩)), (10, .int .i64 z), (11, .int .i64 (i : Int))])
        (fun _ => [.cells b6 (ksV (List.replicate 21 (0, 0))) 56 (0, 0), .cells b3 (ksV ks) 56 (0, 0)]) (fun i => i ≤ 21) (fun i => 21 - i) 0 (Nat.zero_le _)
        ⟨rfl, rfl, rfl, rfl, rfl, rfl, trivial⟩ (Sub.refl _) ?_
      rintro i f1 hi3
      conv => whnf
      refine cond_dec (fun h4 => ?_) (fun h4 => ?_)
      · conv => whnf
        refine cond_f hc0 ?_
        conv => whnf
        refine LoopI.by_state (σ := Nat) (fun i => [(1, .int .u32 (m : Int)), (2, .int .i64 (fresh + (cntA p (21 - i) : Nat))), (3, .pointer (some ⟨b3, 0, none⟩)), (6, .pointer (some ⟨b6, 0, none⟩)), (12, .int .i64 (20 - (i : Int)))])
          (fun i => [.cells b6 (ksV (List.replicate 21 (0, 0))) 56 (0, 0), .cells b3 (ksV (midK p ks fresh (21 - i))) 56 (0, 0)]) (fun i => i ≤ 21) (fun i => 21 - i) 0 (Nat.zero_le _)
          ⟨rfl, by rw [cntA_end, Int.natCast_zero, Int.add_zero]; rfl, rfl, rfl, rfl, trivial⟩ (by rw [midK_top p K.len]; exact Sub.refl _) ?_
        rintro i f9 hi
        generalize hvz : (20 - (i : Int)) = vz
        conv => whnf
        refine cond_dec (fun h => ?_) (fun h => ?_)
        · obtain ⟨v, hv⟩ : ∃ v, v = 20 - i := ⟨_, rfl⟩
          have hv21 : v < 21 := by omega
          have e1 : 21 - i = v + 1 := by omega
          have e2 : 21 - (i + 1) = v := by omega
          obtain rfl : vz = (v : Int) := by omega
          rw [e1]
          have hvl : v < ks.length := by rw [K.len]; exact hv21
          have hset := midK_set p fresh hvl
          have hold := midK_old p fresh hvl
          have hml := midK_length p ks fresh (v + 1)
          have hcs := cntA_step p hv21
          have hca := cntA_le p v
          have hri := fun F' => rin_ok F' m v hm (by omega)
          rw [hbit v hv21] at hri
          have hr := K.rng ks[v] (List.getElem_mem hvl)
          have hkl : (ksV (midK p ks fresh (v + 1))).length = 42 := ksV_len (by rw [hml, K.len])
          conv => whnf
          refine CallS.mk Tryz.call96 ⟨[], _, _, Sub.refl _, fun F' hF' => hri F', ?_⟩
          rintro e A' ⟨rfl, rfl⟩
          cases hp : p v with
          | true =>
            rw [newKey_hit hp] at hset
            rw [hp, if_pos rfl] at hcs
            generalize hfr : fresh + ((cntA p (v + 1) : Nat) : Int) = fr at hset ⊢
            conv => whnf
            refine ⟨by omega, ?_⟩
            conv => whnf
            rw [elem_off (n := 2)]
            rotate_left
            · kernel_rfl
            · rfl
            refine StoreV.c rfl rfl (by show v * 2 + 2 ≤ _; rw [hkl]; omega) rfl ?_
            rw [show (Value.agg #[Value.int IntKind.i64 fr, Value.int IntKind.i64 0]).cells.toList = keyF (fr, 0) from rfl, ksV_put (fr, 0) (by rw [hml]; exact hvl), hset]
            conv => whnf
            refine ArI.to64 (fr + 1) rfl (by omega) ?_
            conv => whnf
            refine ArI.to64 (20 - ((i + 1 : Nat) : Int)) (by omega) (by omega) ?_
            conv => whnf
            exact ⟨i + 1, _, by omega, Sub.refl _, by omega, ⟨rfl, by rw [e2, hcs, ← hfr]; show Value.int _ _ = .int _ _; congr 1; omega, rfl, rfl, rfl, trivial⟩, by rw [e2]⟩
          | false =>
            rw [newKey_miss hp] at hset
            rw [hp, if_neg (by decide), Nat.add_zero] at hcs
            have hpart := ksV_part (l := midK p ks fresh (v + 1)) (i := v) (by rw [hml]; exact hvl)
            rw [hold] at hpart
            generalize ks[v] = k at hset hpart hr ⊢
            obtain ⟨kb, kk⟩ := k
            dsimp only at hset hr
            rw [show keyF (kb, kk) = [.int .i64 kb, .int .i64 kk] from rfl] at hpart
            conv => whnf
            refine ⟨by omega, ?_⟩
            conv => whnf
            rw [elem_off (n := 2)]
            rotate_left
            · kernel_rfl
            · rfl
            refine LoadV.p 2 [.int .i64 kb, .int .i64 kk] rfl rfl (by rw [hkl]; omega) hpart ?_
            conv => whnf
            refine CallS.mk Tryz.call98 ⟨[], _, _, Sub.refl _, fun F' hF' => rahead_ok F' kb kk 1 ((keyB_spec _ _).2 (by omega)) (by decide) (by omega), ?_⟩
            rintro e A' ⟨rfl, rfl⟩
            generalize hk1 : kk + 1 = k1 at hset ⊢
            conv => whnf
            intro b11
            conv => whnf
            refine StoreV.c rfl rfl (Nat.le_of_ble_eq_true rfl) rfl ?_
            conv => whnf
            refine LoadV.a 2 rfl (Nat.le_of_ble_eq_true rfl) ?_
            conv => whnf
            refine ⟨by omega, ?_⟩
            conv => whnf
            rw [elem_off (n := 2)]
            rotate_left
            · kernel_rfl
            · rfl
            refine StoreV.c rfl rfl (by show v * 2 + 2 ≤ _; rw [hkl]; omega) rfl ?_
            rw [show (Value.agg #[Value.int IntKind.i64 kb, Value.int IntKind.i64 k1]).cells.toList = keyF (kb, k1) from rfl, ksV_put (kb, k1) (by rw [hml]; exact hvl), hset]
            conv => whnf
            refine ArI.to64 (20 - ((i + 1 : Nat) : Int)) (by omega) (by omega) ?_
            conv => whnf
            exact ⟨i + 1, _, by omega, Sub.sel [1, 2] rfl, by omega, ⟨rfl, by rw [e2, hcs]; rfl, rfl, rfl, rfl, trivial⟩, by rw [e2]⟩
        · obtain rfl : i = 21 := by omega
          rw [Nat.sub_self, cntA_zero, show midK p ks fresh 0 = turnK p ks fresh from rfl]
          have hll : (ksV (turnK p ks fresh)).length = 42 := ksV_len (by unfold turnK; rw [midK_length, K.len])
          have hall := ksV_all (turnK p ks fresh)
          have h6 : (ksV (List.replicate 21 (0, 0))).length = 42 := ksV_len rfl
          generalize ksV (turnK p ks fresh) = L at hll hall ⊢
          generalize ksV (List.replicate 21 (0, 0)) = Z at h6 ⊢
          conv => whnf
          refine LoadV.p 42 L rfl hll (by omega) (take_all0 hll) ?_
          conv => whnf
          refine StoreV.p 42 L L rfl hll rfl (by omega) hall (putAt_all (by omega)) ?_
          conv => whnf
          refine RetI.cell3 Tryz.results64 rfl rfl rfl ?_
          conv => whnf
          refine LoadV.p 42 L rfl hll (by omega) (take_all0 hll) ?_
          exact ⟨_, Sub.sel [] rfl, by rw [← hz], rfl⟩
      · conv => whnf
        refine LoopI.by_state (σ := Nat) (fun i => [(1, .int .u32 (m : Int)), (2, .int .i64 (fresh + (cntA p (21 - i) : Nat))), (3, .pointer (some ⟨b3, 0, none⟩)), (6, .pointer (some ⟨b6, 0, none⟩)), (12, .int .i64 (20 - (i : Int)))])
          (fun i => [.cells b6 (ksV (List.replicate 21 (0, 0))) 56 (0, 0), .cells b3 (ksV (midK p ks fresh (21 - i))) 56 (0, 0)]) (fun i => i ≤ 21) (fun i => 21 - i) 0 (Nat.zero_le _)
          ⟨rfl, by rw [cntA_end, Int.natCast_zero, Int.add_zero]; rfl, rfl, rfl, rfl, trivial⟩ (by rw [midK_top p K.len]; exact Sub.refl _) ?_
        rintro i f9 hi
        generalize hvz : (20 - (i : Int)) = vz
        conv => whnf
        refine cond_dec (fun h => ?_) (fun h => ?_)
        · obtain ⟨v, hv⟩ : ∃ v, v = 20 - i := ⟨_, rfl⟩
          have hv21 : v < 21 := by omega
          have e1 : 21 - i = v + 1 := by omega
          have e2 : 21 - (i + 1) = v := by omega
          obtain rfl : vz = (v : Int) := by omega
          rw [e1]
          have hvl : v < ks.length := by rw [K.len]; exact hv21
          have hset := midK_set p fresh hvl
          have hold := midK_old p fresh hvl
          have hml := midK_length p ks fresh (v + 1)
          have hcs := cntA_step p hv21
          have hca := cntA_le p v
          have hri := fun F' => rin_ok F' m v hm (by omega)
          rw [hbit v hv21] at hri
          have hr := K.rng ks[v] (List.getElem_mem hvl)
          have hkl : (ksV (midK p ks fresh (v + 1))).length = 42 := ksV_len (by rw [hml, K.len])
          conv => whnf
          refine CallS.mk Tryz.call96 ⟨[], _, _, Sub.refl _, fun F' hF' => hri F', ?_⟩
          rintro e A' ⟨rfl, rfl⟩
          cases hp : p v with
          | true =>
            rw [newKey_hit hp] at hset
            rw [hp, if_pos rfl] at hcs
            generalize hfr : fresh + ((cntA p (v + 1) : Nat) : Int) = fr at hset ⊢
            conv => whnf
            refine ⟨by omega, ?_⟩
            conv => whnf
            rw [elem_off (n := 2)]
            rotate_left
            · kernel_rfl
            · rfl
            refine StoreV.c rfl rfl (by show v * 2 + 2 ≤ _; rw [hkl]; omega) rfl ?_
            rw [show (Value.agg #[Value.int IntKind.i64 fr, Value.int IntKind.i64 0]).cells.toList = keyF (fr, 0) from rfl, ksV_put (fr, 0) (by rw [hml]; exact hvl), hset]
            conv => whnf
            refine ArI.to64 (fr + 1) rfl (by omega) ?_
            conv => whnf
            refine ArI.to64 (20 - ((i + 1 : Nat) : Int)) (by omega) (by omega) ?_
            conv => whnf
            exact ⟨i + 1, _, by omega, Sub.refl _, by omega, ⟨rfl, by rw [e2, hcs, ← hfr]; show Value.int _ _ = .int _ _; congr 1; omega, rfl, rfl, rfl, trivial⟩, by rw [e2]⟩
          | false =>
            rw [newKey_miss hp] at hset
            rw [hp, if_neg (by decide), Nat.add_zero] at hcs
            have hpart := ksV_part (l := midK p ks fresh (v + 1)) (i := v) (by rw [hml]; exact hvl)
            rw [hold] at hpart
            generalize ks[v] = k at hset hpart hr ⊢
            obtain ⟨kb, kk⟩ := k
            dsimp only at hset hr
            rw [show keyF (kb, kk) = [.int .i64 kb, .int .i64 kk] from rfl] at hpart
            conv => whnf
            refine ⟨by omega, ?_⟩
            conv => whnf
            rw [elem_off (n := 2)]
            rotate_left
            · kernel_rfl
            · rfl
            refine LoadV.p 2 [.int .i64 kb, .int .i64 kk] rfl rfl (by rw [hkl]; omega) hpart ?_
            conv => whnf
            refine CallS.mk Tryz.call98 ⟨[], _, _, Sub.refl _, fun F' hF' => rahead_ok F' kb kk 1 ((keyB_spec _ _).2 (by omega)) (by decide) (by omega), ?_⟩
            rintro e A' ⟨rfl, rfl⟩
            generalize hk1 : kk + 1 = k1 at hset ⊢
            conv => whnf
            intro b11
            conv => whnf
            refine StoreV.c rfl rfl (Nat.le_of_ble_eq_true rfl) rfl ?_
            conv => whnf
            refine LoadV.a 2 rfl (Nat.le_of_ble_eq_true rfl) ?_
            conv => whnf
            refine ⟨by omega, ?_⟩
            conv => whnf
            rw [elem_off (n := 2)]
            rotate_left
            · kernel_rfl
            · rfl
            refine StoreV.c rfl rfl (by show v * 2 + 2 ≤ _; rw [hkl]; omega) rfl ?_
            rw [show (Value.agg #[Value.int IntKind.i64 kb, Value.int IntKind.i64 k1]).cells.toList = keyF (kb, k1) from rfl, ksV_put (kb, k1) (by rw [hml]; exact hvl), hset]
            conv => whnf
            refine ArI.to64 (20 - ((i + 1 : Nat) : Int)) (by omega) (by omega) ?_
            conv => whnf
            exact ⟨i + 1, _, by omega, Sub.sel [1, 2] rfl, by omega, ⟨rfl, by rw [e2, hcs]; rfl, rfl, rfl, rfl, trivial⟩, by rw [e2]⟩
        · obtain rfl : i = 21 := by omega
          rw [Nat.sub_self, cntA_zero, show midK p ks fresh 0 = turnK p ks fresh from rfl]
          have hll : (ksV (turnK p ks fresh)).length = 42 := ksV_len (by unfold turnK; rw [midK_length, K.len])
          have hall := ksV_all (turnK p ks fresh)
          have h6 : (ksV (List.replicate 21 (0, 0))).length = 42 := ksV_len rfl
          generalize ksV (turnK p ks fresh) = L at hll hall ⊢
          generalize ksV (List.replicate 21 (0, 0)) = Z at h6 ⊢
          conv => whnf
          refine LoadV.p 42 L rfl hll (by omega) (take_all0 hll) ?_
          conv => whnf
          refine StoreV.p 42 L L rfl hll rfl (by omega) hall (putAt_all (by omega)) ?_
          conv => whnf
          refine RetI.cell3 Tryz.results64 rfl rfl rfl ?_
          conv => whnf
          refine LoadV.p 42 L rfl hll (by omega) (take_all0 hll) ?_
          exact ⟨_, Sub.sel [] rfl, by rw [← hz], rfl⟩
end Go.Proofs.YtlfmckjehjedpaaGreatDoor

/- Who leaves, who joins: plain laws. -/
namespace Go.Proofs.YtlfmckjehjedpaaGreatDoor
set_option linter.unusedVariables false
set_option linter.unusedSimpArgs false
set_option maxRecDepth 100000
open SL Go.RowKit Go.Maps
structure Fit (r : List EntI) (L J : List Int) : Prop where
  rL : ∀ w ∈ L, 0 ≤ w ∧ w < 256
  nL : L.Nodup
  on : ∀ w ∈ L, 0 ≤ findI r w 0
  rJ : ∀ w ∈ J, 0 ≤ w ∧ w < 256
  nJ : J.Nodup
  dJ : ∀ w ∈ J, w ∉ L
  off : ∀ w ∈ J, findI r w 0 < 0
  cap : (J.length : Int) ≤ 64 - ((slots (takenN r)).length : Int) + L.length
theorem errAt_zero {r : List EntI} {seen : List Int} {w : Int} {on : Bool} : errAt r seen w on = 0 ↔ (0 ≤ w ∧ w < 256) ∧ w ∉ seen ∧ decide (0 ≤ findI r w 0) = on := by
  unfold errAt
  by_cases h0 : w < 0
  · rw [if_pos h0]; constructor
    · intro h; cases h
    · intro h; omega
  rw [if_neg h0]
  by_cases h1 : w ≥ 256
  · rw [if_pos h1]; constructor
    · intro h; cases h
    · intro h; omega
  rw [if_neg h1]
  by_cases h2 : w ∈ seen
  · rw [if_pos h2]; constructor
    · intro h; cases h
    · intro h; exact absurd h2 h.2.1
  rw [if_neg h2]
  by_cases h3 : decide (0 ≤ findI r w 0) = on
  · rw [if_pos h3]; exact ⟨fun _ => ⟨by omega, h2, h3⟩, fun _ => rfl⟩
  · rw [if_neg h3]; constructor
    · intro h; split at h <;> cases h
    · intro h; exact absurd h.2.2 h3
theorem askE_zero {r : List EntI} {on : Bool} : ∀ (l seen : List Int), askE r on seen l = 0 ↔ (∀ w ∈ l, (0 ≤ w ∧ w < 256) ∧ w ∉ seen ∧ decide (0 ≤ findI r w 0) = on) ∧ l.Nodup
  | [], seen => by simp [askE]
  | w :: l, seen => by
    have ih := askE_zero (r := r) (on := on) l (seen ++ [w])
    unfold askE
    by_cases h : errAt r seen w on = 0
    · rw [if_pos h, ih]
      rw [errAt_zero] at h
      rw [List.nodup_cons]
      constructor
      · rintro ⟨h1, h2⟩
        refine ⟨fun x hx => ?_, fun hm => ?_, h2⟩
        · rcases List.mem_cons.1 hx with rfl | hx
          · exact h
          · have := h1 x hx
            exact ⟨this.1, fun hs => this.2.1 (by simp [hs]), this.2.2⟩
        · exact (h1 w hm).2.1 (by simp)
      · rintro ⟨h1, h2, h3⟩
        refine ⟨fun x hx => ?_, h3⟩
        have := h1 x (by simp [hx])
        refine ⟨this.1, fun hs => ?_, this.2.2⟩
        rcases List.mem_append.1 hs with hs | hs
        · exact this.2.1 hs
        · simp only [List.mem_singleton] at hs; subst hs; exact h2 hx
    · rw [if_neg h]
      constructor
      · intro e; exact absurd e h
      · rintro ⟨h1, _⟩; exact absurd (errAt_zero.2 (h1 w (by simp))) h
theorem fitsE_zero {r : List EntI} {L J : List Int} : fitsE r L J = 0 ↔ Fit r L J := by
  unfold fitsE
  have hL := askE_zero (r := r) (on := true) L []
  have hJ := askE_zero (r := r) (on := false) J L
  by_cases h1 : askE r true [] L = 0
  · rw [if_pos h1]
    obtain ⟨a1, a2⟩ := hL.1 h1
    by_cases h2 : askE r false L J = 0
    · rw [if_pos h2]
      obtain ⟨b1, b2⟩ := hJ.1 h2
      by_cases h3 : (J.length : Int) > 64 - ((slots (takenN r)).length : Int) + L.length
      · rw [if_pos h3]
        exact ⟨fun e => (by cases e), fun e => (by have := e.cap; omega)⟩
      · rw [if_neg h3]
        exact ⟨fun _ => ⟨fun w hw => (a1 w hw).1, a2, fun w hw => of_decide_eq_true (a1 w hw).2.2, fun w hw => (b1 w hw).1, b2, fun w hw => (b1 w hw).2.1, fun w hw => by have := of_decide_eq_false (b1 w hw).2.2; omega, by omega⟩, fun _ => rfl⟩
    · rw [if_neg h2]
      refine ⟨fun e => absurd e h2, fun e => absurd (hJ.2 ⟨fun w hw => ⟨e.rJ w hw, e.dJ w hw, decide_eq_false (by have := e.off w hw; omega)⟩, e.nJ⟩) h2⟩
  · rw [if_neg h1]
    refine ⟨fun e => absurd e h1, fun e => absurd (hL.2 ⟨fun w hw => ⟨e.rL w hw, by simp, decide_eq_true (e.on w hw)⟩, e.nL⟩) h1⟩
/-- Who is on sits somewhere. -/
theorem find_on {r : List EntI} {w : Int} (h : 0 ≤ findI r w 0) : ∃ i, ∃ hi : i < r.length, findI r w 0 = (i : Int) ∧ tk r[i] ∧ r[i].1 = w := by
  rcases findI_spec w r 0 (by omega) with ⟨h1, _⟩ | ⟨i, hi, h1, h2, _⟩
  · omega
  · exact ⟨i, hi, by omega, h2.1, h2.2⟩
theorem find_off {r : List EntI} {w : Int} : findI r w 0 < 0 ↔ ∀ e ∈ r, tk e → e.1 ≠ w := by
  rcases findI_spec w r 0 (by omega) with ⟨h1, h2⟩ | ⟨i, hi, h1, h2, _⟩
  · refine ⟨fun _ e he ht hw => ?_, fun _ => by omega⟩
    obtain ⟨j, hj, rfl⟩ := List.getElem_of_mem he
    exact h2 j hj ⟨ht, hw⟩
  · refine ⟨fun h => by omega, fun h => absurd h2.2 (h _ (List.getElem_mem hi) h2.1)⟩
theorem find_at {r : List EntI} (hw : Apart tk Prod.fst r) {i : Nat} (hi : i < r.length) (ht : tk r[i]) : findI r r[i].1 0 = (i : Int) := by
  have h0 : 0 ≤ findI r r[i].1 0 := by
    by_cases h : findI r r[i].1 0 < 0
    · exact absurd rfl (find_off.1 h _ (List.getElem_mem hi) ht)
    · omega
  obtain ⟨j, hj, e, htj, hwj⟩ := find_on h0
  have := hw j i hj hi htj ht hwj
  rw [e, this]
/-- The roster without these. -/
def leaveR (r : List EntI) (S : List Int) : List EntI := r.map fun e => if tkB e = true ∧ e.1 ∈ S then (0, 0, 0) else e
theorem leaveR_length (r : List EntI) (S : List Int) : (leaveR r S).length = r.length := by simp [leaveR]
theorem leaveR_nil (r : List EntI) : leaveR r [] = r := by simp [leaveR]
theorem leaveR_at (r : List EntI) (S : List Int) (i : Nat) (h : i < r.length) : (leaveR r S)[i]'(by rw [leaveR_length]; exact h) = if tkB r[i] = true ∧ r[i].1 ∈ S then (0, 0, 0) else r[i] := by simp [leaveR]
theorem leaveR_tk {r : List EntI} {S : List Int} {i : Nat} (h : i < r.length) : tk ((leaveR r S)[i]'(by rw [leaveR_length]; exact h)) ↔ tk r[i] ∧ r[i].1 ∉ S := by
  rw [leaveR_at r S i h]
  by_cases hc : tkB r[i] = true ∧ r[i].1 ∈ S
  · rw [if_pos hc]; exact ⟨fun h => absurd rfl h, fun h => absurd hc.2 h.2⟩
  · rw [if_neg hc]; exact ⟨fun h => ⟨h, fun hm => hc ⟨(tkB_iff _).2 h, hm⟩⟩, fun h => h.1⟩
theorem leaveR_keep {r : List EntI} {S : List Int} {i : Nat} (h : i < r.length) (ht : tk ((leaveR r S)[i]'(by rw [leaveR_length]; exact h))) : (leaveR r S)[i]'(by rw [leaveR_length]; exact h) = r[i] := by
  rw [leaveR_at r S i h]
  rw [leaveR_tk h] at ht
  rw [if_neg fun hc => ht.2 hc.2]
theorem findI_leave {S : List Int} {w : Int} (hw : w ∉ S) : ∀ (r : List EntI) (k : Int), findI (leaveR r S) w k = findI r w k
  | [], k => rfl
  | e :: r, k => by
    have ih := findI_leave hw r (k + 1)
    show (if tk (if tkB e = true ∧ e.1 ∈ S then (0, 0, 0) else e) ∧ (if tkB e = true ∧ e.1 ∈ S then (0, 0, 0) else e).1 = w then k else findI (leaveR r S) w (k + 1)) = if tk e ∧ e.1 = w then k else findI r w (k + 1)
    rw [ih]
    by_cases hc : tkB e = true ∧ e.1 ∈ S
    · rw [if_pos hc, if_neg fun h => h.1 rfl, if_neg fun h => hw (by rw [← h.2]; exact hc.2)]
    · rw [if_neg hc]
theorem leaveR_set {r : List EntI} (hA : Apart tk Prod.fst r) {S : List Int} {i : Nat} (hi : i < r.length) (ht : tk r[i]) : (leaveR r S).set i (0, 0, 0) = leaveR r (S ++ [r[i].1]) := by
  apply List.ext_getElem (by rw [List.length_set, leaveR_length, leaveR_length])
  intro j h1 h2
  rw [leaveR_length] at h2
  rw [List.getElem_set, leaveR_at r (S ++ [r[i].1]) j h2]
  by_cases e : i = j
  · subst e; rw [if_pos rfl, if_pos ⟨(tkB_iff _).2 ht, by simp⟩]
  · rw [if_neg e, leaveR_at r S j h2]
    have hiff : (tkB r[j] = true ∧ r[j].1 ∈ S) ↔ (tkB r[j] = true ∧ r[j].1 ∈ S ++ [r[i].1]) := by
      constructor
      · rintro ⟨a, b⟩; exact ⟨a, by simp [b]⟩
      · rintro ⟨a, b⟩
        refine ⟨a, ?_⟩
        rcases List.mem_append.1 b with b | b
        · exact b
        · simp only [List.mem_singleton] at b
          exact absurd (hA i j hi h2 ht ((tkB_iff _).1 a) b.symm) e
    by_cases hc : tkB r[j] = true ∧ r[j].1 ∈ S
    · rw [if_pos hc, if_pos (hiff.1 hc)]
    · rw [if_neg hc, if_neg fun h => hc (hiff.2 h)]
theorem leaveR_congr {r : List EntI} {S T : List Int} (h : ∀ w, w ∈ S ↔ w ∈ T) : leaveR r S = leaveR r T := by
  unfold leaveR
  refine List.map_congr_left fun e _ => ?_
  simp only [h]
theorem leaveR_ok {r : List EntI} {top ep : Int} (R : RosOk r top ep) (S : List Int) : RosOk (leaveR r S) top ep := by
  refine ⟨by rw [leaveR_length]; exact R.len, fun e he => ?_, fun i j hi hj h1 h2 h3 => ?_, fun i j hi hj h1 h2 h3 => ?_⟩
  · obtain ⟨x, hx, rfl⟩ := List.mem_map.1 he
    split
    · exact .inl rfl
    · exact R.rng x hx
  · rw [leaveR_length] at hi hj
    have k1 := leaveR_keep hi h1
    have k2 := leaveR_keep hj h2
    rw [k1] at h1 h3
    rw [k2] at h2 h3
    exact R.who i j hi hj h1 h2 h3
  · rw [leaveR_length] at hi hj
    have k1 := leaveR_keep hi h1
    have k2 := leaveR_keep hj h2
    rw [k1] at h1 h3
    rw [k2] at h2 h3
    exact R.base i j hi hj h1 h2 h3
/-! ### Counting -/
theorem slots_on {r : List EntI} (h : r.length = 64) : (slots (takenN r)).length = (onL r).length := by
  have e : slots (takenN r) = (List.range r.length).filter fun i => (r[i]?.map tkB).getD false := by
    unfold slots
    rw [h]
    refine List.filter_congr fun i hi => ?_
    have hi : i < r.length := by rw [h]; exact List.mem_range.1 hi
    rw [takenN_bit r i hi, List.getElem?_eq_getElem hi]; rfl
  rw [e]
  clear e h
  have key : ∀ (r : List EntI), ((List.range r.length).filter fun i => (r[i]?.map tkB).getD false).length = (onL r).length := by
    intro r
    induction r with
    | nil => rfl
    | cons x r ih =>
      have e2 : (List.range (r.length + 1)) = 0 :: (List.range r.length).map Nat.succ := List.range_succ_eq_map
      rw [List.length_cons, e2, List.filter_cons, List.filter_map]
      have e3 : ((fun i => ((x :: r)[i]?.map tkB).getD false) ∘ Nat.succ) = fun i => (r[i]?.map tkB).getD false := by funext i; simp
      rw [e3]
      show (if tkB x = true then _ else _ : List Nat).length = (List.filter tkB (x :: r)).length
      rw [List.filter_cons]
      by_cases hb : tkB x = true
      · rw [if_pos hb, if_pos hb, List.length_cons, List.length_cons, List.length_map, ih]; rfl
      · rw [if_neg hb, if_neg hb, List.length_map, ih]; rfl
  exact key r
theorem on_set {r : List EntI} : ∀ {i : Nat} (hi : i < r.length), tk r[i] → (onL (r.set i (0, 0, 0))).length + 1 = (onL r).length := by
  induction r with
  | nil => intro i hi; simp at hi
  | cons x r ih =>
    intro i hi ht
    cases i with
    | zero =>
      have ht : tkB x = true := (tkB_iff x).2 ht
      show (List.filter tkB ((0, 0, 0) :: r)).length + 1 = (List.filter tkB (x :: r)).length
      rw [List.filter_cons_of_pos ht, List.filter_cons_of_neg (by decide)]; rfl
    | succ i =>
      have := ih (i := i) (by simpa using hi) ht
      show (List.filter tkB (x :: r.set i (0, 0, 0))).length + 1 = (List.filter tkB (x :: r)).length
      unfold onL at this
      rw [List.filter_cons, List.filter_cons]
      split <;> (try simp only [List.length_cons]) <;> omega
theorem on_leave {r : List EntI} (hA : Apart tk Prod.fst r) : ∀ (L : List Int), L.Nodup → (∀ w ∈ L, 0 ≤ findI r w 0) → (onL (leaveR r L)).length + L.length = (onL r).length := by
  have key : ∀ (L S : List Int), (S ++ L).Nodup → (∀ w ∈ L, 0 ≤ findI r w 0) → (onL (leaveR r (S ++ L))).length + L.length = (onL (leaveR r S)).length := by
    intro L
    induction L with
    | nil => intro S _ _; simp
    | cons w L ih =>
      intro S hn ho
      obtain ⟨i, hi, e, ht, hw⟩ := find_on (ho w (by simp))
      have hn2 : ((S ++ [w]) ++ L).Nodup := by rw [List.append_assoc]; exact hn
      have := ih (S ++ [w]) hn2 fun x hx => ho x (by simp [hx])
      rw [List.append_assoc] at this
      have hset := leaveR_set hA (S := S) hi ht
      rw [hw] at hset
      rw [← hset] at this
      have hws : w ∉ S := by
        rw [List.nodup_append] at hn
        intro hm
        exact hn.2.2 w hm w (by simp) rfl
      have hd := on_set (r := leaveR r S) (i := i) (by rw [leaveR_length]; exact hi) (by rw [leaveR_tk hi, hw]; exact ⟨ht, hws⟩)
      simp only [List.length_cons]
      have e5 : S ++ ([w] ++ L) = S ++ w :: L := rfl
      rw [e5] at this
      omega
  intro L hn ho
  have := key L [] hn ho
  rwa [leaveR_nil] at this
end Go.Proofs.YtlfmckjehjedpaaGreatDoor

/- Who joins, and where: plain laws. -/
namespace Go.Proofs.YtlfmckjehjedpaaGreatDoor
set_option linter.unusedVariables false
set_option linter.unusedSimpArgs false
set_option maxRecDepth 100000
open SL Go.RowKit Go.Maps
/-- The free slots, rising. -/
def freeL (r : List EntI) : List Nat := slots (cmp (takenN r))
theorem mem_free {r : List EntI} (h : r.length = 64) {i : Nat} : i ∈ freeL r ↔ ∃ hi : i < r.length, ¬ tk r[i] := by
  unfold freeL
  rw [mem_slots, cmp_bit (takenN_lt h)]
  constructor
  · rintro ⟨h1, h2⟩
    have hi : i < r.length := by omega
    refine ⟨hi, fun ht => ?_⟩
    rw [takenN_bit r i hi, (tkB_iff _).2 ht] at h2
    simp at h2
  · rintro ⟨hi, ht⟩
    refine ⟨by omega, ?_⟩
    rw [takenN_bit r i hi]
    have : tkB r[i] = false := by rw [← Bool.not_eq_true, tkB_iff]; exact ht
    rw [this]; simp; omega
theorem free_sorted (r : List EntI) : (freeL r).Pairwise (· < ·) := slots_sorted _
theorem free_len {r : List EntI} (h : r.length = 64) : (freeL r).length + (onL r).length = 64 := by
  have := count_cmp (takenN_lt h)
  rw [slots_on h] at this
  exact this
/-- The joiners put to these slots. -/
def putJ (since : Int) : List EntI → List Nat → List Int → Int → List EntI
  | r, s :: ss, w :: ws, b => putJ since (r.set s (w, b, since)) ss ws (b + 1)
  | r, _, _, _ => r
theorem putJ_nil (since : Int) (r : List EntI) (ss : List Nat) (b : Int) : putJ since r ss [] b = r := by cases ss <;> rfl
theorem putJ_length (since : Int) : ∀ (J : List Int) (r : List EntI) (ss : List Nat) (b : Int), (putJ since r ss J b).length = r.length
  | [], r, ss, b => by rw [putJ_nil]
  | w :: J, r, [], b => rfl
  | w :: J, r, s :: ss, b => by
    show (putJ since (r.set s (w, b, since)) ss J (b + 1)).length = _
    rw [putJ_length since J, List.length_set]
theorem putJ_snoc (since : Int) : ∀ (J : List Int) (r : List EntI) (ss : List Nat) (b : Int) (s : Nat) (w : Int), ss.length = J.length → putJ since r (ss ++ [s]) (J ++ [w]) b = (putJ since r ss J b).set s (w, b + (J.length : Nat), since)
  | [], r, [], b, s, w, _ => by
    show (r.set s (w, b, since)) = r.set s (w, b + ((0 : Nat) : Int), since)
    rw [Int.natCast_zero, Int.add_zero]
  | [], r, _ :: _, b, s, w, h => by simp at h
  | _ :: J, r, [], b, s, w, h => by simp at h
  | x :: J, r, t :: ss, b, s, w, h => by
    show putJ since (r.set t (x, b, since)) (ss ++ [s]) (J ++ [w]) (b + 1) = (putJ since (r.set t (x, b, since)) ss J (b + 1)).set s _
    rw [putJ_snoc since J _ ss (b + 1) s w (by simpa using h)]
    congr 2
    simp only [List.length_cons]
    rw [show b + 1 + (J.length : Int) = b + ((J.length + 1 : Nat) : Int) by omega]
theorem putJ_step (since : Int) (r : List EntI) (ss : List Nat) (J : List Int) (b : Int) {i : Nat} (hs : i < ss.length) (hJ : i < J.length) :
    putJ since r (ss.take (i + 1)) (J.take (i + 1)) b = (putJ since r (ss.take i) (J.take i) b).set ss[i] (J[i], b + (i : Nat), since) := by
  rw [take_snoc hs, take_snoc hJ, putJ_snoc since _ _ _ _ _ _ (by simp; omega), List.length_take, Nat.min_eq_left (by omega)]
/-- Elsewhere nothing changes. -/
theorem putJ_other (since : Int) : ∀ (J : List Int) (r : List EntI) (ss : List Nat) (b : Int) (k : Nat), k ∉ ss → (putJ since r ss J b)[k]? = r[k]?
  | [], r, ss, b, k, _ => by rw [putJ_nil]
  | w :: J, r, [], b, k, _ => rfl
  | w :: J, r, s :: ss, b, k, h => by
    show (putJ since (r.set s (w, b, since)) ss J (b + 1))[k]? = _
    simp only [List.mem_cons, not_or] at h
    rw [putJ_other since J _ ss (b + 1) k h.2, List.getElem?_set_ne (Ne.symm h.1)]
/-- What stands where somebody joined. -/
theorem putJ_here (since : Int) : ∀ (J : List Int) (r : List EntI) (ss : List Nat) (b : Int) (j : Nat) (hs : j < ss.length) (hJ : j < J.length), ss.Nodup → ss[j] < r.length → (putJ since r ss J b)[ss[j]]? = some (J[j], b + (j : Nat), since)
  | [], r, ss, b, j, _, hJ, _, _ => by simp at hJ
  | w :: J, r, [], b, j, hs, _, _, _ => by simp at hs
  | w :: J, r, s :: ss, b, 0, hs, hJ, hn, hl => by
    show (putJ since (r.set s (w, b, since)) ss J (b + 1))[s]? = some (w, b + ((0 : Nat) : Int), since)
    have hl : s < r.length := hl
    rw [putJ_other since J _ ss (b + 1) s (List.nodup_cons.1 hn).1, List.getElem?_set_self hl, Int.natCast_zero, Int.add_zero]
  | w :: J, r, s :: ss, b, j + 1, hs, hJ, hn, hl => by
    show (putJ since (r.set s (w, b, since)) ss J (b + 1))[ss[j]'(by simpa using hs)]? = some (J[j]'(by simpa using hJ), b + ((j + 1 : Nat) : Int), since)
    have hl : ss[j]'(by simpa using hs) < r.length := hl
    rw [putJ_here since J _ ss (b + 1) j (by simpa using hs) (by simpa using hJ) (List.nodup_cons.1 hn).2 (by rw [List.length_set]; exact hl), show b + 1 + (j : Int) = b + ((j + 1 : Nat) : Int) by omega]
/-- One more joiner leaves the roster right. -/
theorem RosOk.join {r : List EntI} {top ep : Int} (R : RosOk r top ep) {s : Nat} (hs : s < r.length) (hf : ¬ tk r[s]) {w b since : Int} (hw : 0 ≤ w ∧ w < 256) (hb : top ≤ b) (hb1 : 1 ≤ b) (hsi : 1 ≤ since ∧ ep ≤ since) (ho : ∀ e ∈ r, tk e → e.1 ≠ w) : RosOk (r.set s (w, b, since)) (b + 1) since := by
  have hin : ∀ i (hi : i < r.length), (r.set s (w, b, since))[i]'(by rw [List.length_set]; exact hi) = if s = i then (w, b, since) else r[i] := fun i hi => List.getElem_set _
  refine ⟨by rw [List.length_set]; exact R.len, fun e he => ?_, fun i j hi hj h1 h2 h3 => ?_, fun i j hi hj h1 h2 h3 => ?_⟩
  · rcases List.mem_or_eq_of_mem_set he with he | rfl
    · rcases R.rng e he with h | h
      · exact .inl h
      · exact .inr (by omega)
    · exact .inr ⟨by dsimp only; omega, by dsimp only; omega, by dsimp only; omega, by dsimp only; omega⟩
  · rw [List.length_set] at hi hj
    rw [hin i hi] at h1 h3
    rw [hin j hj] at h2 h3
    by_cases e1 : s = i <;> by_cases e2 : s = j
    · omega
    · rw [if_pos e1, if_neg e2] at h3; rw [if_neg e2] at h2
      exact absurd h3.symm (ho _ (List.getElem_mem hj) h2)
    · rw [if_neg e1, if_pos e2] at h3; rw [if_neg e1] at h1
      exact absurd h3 (ho _ (List.getElem_mem hi) h1)
    · rw [if_neg e1, if_neg e2] at h3; rw [if_neg e1] at h1; rw [if_neg e2] at h2
      exact R.who i j hi hj h1 h2 h3
  · rw [List.length_set] at hi hj
    rw [hin i hi] at h1 h3
    rw [hin j hj] at h2 h3
    by_cases e1 : s = i <;> by_cases e2 : s = j
    · omega
    · rw [if_pos e1, if_neg e2] at h3; rw [if_neg e2] at h2
      have := R.tk_rng (List.getElem_mem hj) h2
      dsimp only at h3; omega
    · rw [if_neg e1, if_pos e2] at h3; rw [if_neg e1] at h1
      have := R.tk_rng (List.getElem_mem hi) h1
      dsimp only at h3; omega
    · rw [if_neg e1, if_neg e2] at h3; rw [if_neg e1] at h1; rw [if_neg e2] at h2
      exact R.base i j hi hj h1 h2 h3
theorem RosOk.weak {r : List EntI} {top ep top' ep' : Int} (R : RosOk r top ep) (h1 : top ≤ top') (h2 : ep ≤ ep') : RosOk r top' ep' :=
  ⟨R.len, fun e he => (R.rng e he).imp id fun h => by omega, R.who, R.base⟩
/-- The roster behind all joins is right. -/
theorem putJ_ok (since : Int) : ∀ (J : List Int) (r : List EntI) (ss : List Nat) (b top ep : Int), RosOk r top ep → (∀ s ∈ ss, ∃ h : s < r.length, ¬ tk r[s]) → ss.Nodup → J.length ≤ ss.length → (∀ w ∈ J, 0 ≤ w ∧ w < 256) → J.Nodup → (∀ w ∈ J, ∀ e ∈ r, tk e → e.1 ≠ w) → top ≤ b → 1 ≤ b → (1 ≤ since ∧ ep ≤ since) →
    RosOk (putJ since r ss J b) (b + (J.length : Nat)) since
  | [], r, ss, b, top, ep, R, _, _, _, _, _, _, h1, _, h2 => by rw [putJ_nil]; exact R.weak (by simp; omega) h2.2
  | w :: J, r, [], b, top, ep, R, _, _, h, _, _, _, _, _, _ => by simp at h
  | w :: J, r, s :: ss, b, top, ep, R, hf, hn, hl, hr, hnJ, ho, h1, h1b, h2 => by
    obtain ⟨hs, hfs⟩ := hf s (by simp)
    have hJn := List.nodup_cons.1 hnJ
    have hsn := List.nodup_cons.1 hn
    have R2 := R.join hs hfs (hr w (by simp)) h1 h1b h2 (ho w (by simp))
    have ih := putJ_ok since J (r.set s (w, b, since)) ss (b + 1) (b + 1) since R2 (fun t ht => by
        obtain ⟨h, hft⟩ := hf t (by simp [ht])
        refine ⟨by rw [List.length_set]; exact h, ?_⟩
        rw [List.getElem_set, if_neg fun e => hsn.1 (by rw [e]; exact ht)]
        exact hft) hsn.2 (by simpa using hl) (fun x hx => hr x (by simp [hx])) hJn.2 (fun x hx e he ht => by
        rcases List.mem_or_eq_of_mem_set he with he | rfl
        · exact ho x (by simp [hx]) e he ht
        · exact fun e2 => hJn.1 (by dsimp only at e2; rw [e2]; exact hx)) (Int.le_refl _) (by omega) ⟨h2.1, Int.le_refl _⟩
    show RosOk (putJ since (r.set s (w, b, since)) ss J (b + 1)) _ since
    rw [show b + ((w :: J).length : Nat) = b + 1 + (J.length : Nat) by simp only [List.length_cons]; omega]
    exact ih
/-- The roster behind a batch. -/
def moveR (r : List EntI) (L J : List Int) (since base : Int) : List EntI := putJ since (leaveR r L) (freeL (leaveR r L)) J base
def leftL (r : List EntI) (L : List Int) : List Seat := L.map fun w => (w, findI r w 0)
def joinedL (r : List EntI) (L J : List Int) : List Seat := List.zipWith (fun w s => (w, ((s : Nat) : Int))) J (freeL (leaveR r L))
theorem Fit.room {r : List EntI} {top ep : Int} (R : RosOk r top ep) {L J : List Int} (h : Fit r L J) : J.length ≤ (freeL (leaveR r L)).length := by
  have h1 := on_leave R.who L h.nL h.on
  have h2 := free_len (r := leaveR r L) (by rw [leaveR_length]; exact R.len)
  have h3 := h.cap
  rw [slots_on R.len] at h3
  omega
theorem Fit.lenL {r : List EntI} {top ep : Int} (R : RosOk r top ep) {L J : List Int} (h : Fit r L J) : L.length ≤ 64 := by
  have h1 := on_leave R.who L h.nL h.on
  have h2 := free_len R.len
  omega
theorem Fit.lenJ {r : List EntI} {top ep : Int} (R : RosOk r top ep) {L J : List Int} (h : Fit r L J) : J.length ≤ 64 := by
  have h1 := h.room R
  have h2 := free_len (r := leaveR r L) (by rw [leaveR_length]; exact R.len)
  omega
theorem joinedL_length {r : List EntI} {top ep : Int} (R : RosOk r top ep) {L J : List Int} (h : Fit r L J) : (joinedL r L J).length = J.length := by
  have := h.room R
  unfold joinedL; rw [List.length_zipWith]; omega
theorem moveR_ok {r : List EntI} {top ep : Int} (R : RosOk r top ep) {L J : List Int} (h : Fit r L J) {since base : Int} (hb : top ≤ base) (hb1 : 1 ≤ base) (hs : 1 ≤ since ∧ ep ≤ since) : RosOk (moveR r L J since base) (base + (J.length : Nat)) since := by
  have hl : (leaveR r L).length = 64 := by rw [leaveR_length]; exact R.len
  refine putJ_ok since J _ _ base top ep (leaveR_ok R L) (fun s hs => (mem_free hl).1 hs) ((free_sorted _).imp fun h => Nat.ne_of_lt h) (h.room R) h.rJ h.nJ (fun w hw e he ht => ?_) hb hb1 hs
  obtain ⟨i, hi, rfl⟩ := List.getElem_of_mem he
  rw [leaveR_length] at hi
  have hk := leaveR_keep hi ht
  rw [hk] at ht ⊢
  exact find_off.1 (h.off w hw) _ (List.getElem_mem hi) ht
end Go.Proofs.YtlfmckjehjedpaaGreatDoor

/- The roster behind a batch: the program's way. -/
namespace Go.Proofs.YtlfmckjehjedpaaGreatDoor
set_option linter.unusedVariables false
set_option linter.unusedSimpArgs false
set_option maxRecDepth 100000
open SL Go.RowKit Go.Maps
/-- A list of seats that owns its row. -/
abbrev ownT (g : Option (Nat × Nat)) (xs : List Seat) : HObj := .own (svOf g xs.length) xs.length 97 2 (xs.flatMap seatF)
theorem names1_ok (F : Mem) (e : EntI) (b c : Nat) (base n : Int) (hb : RdC F ⟨b, 0, none⟩ (.int .i64 base)) (hc : RdC F ⟨c, 0, none⟩ (.int .i64 n)) (h : e.2.1 < base) (hn : 0 ≤ n ∧ base + n ≤ 32768) (h0 : 0 ≤ base) :
    FT Tryz.prog 106 [.agg (entF e).toArray, .pointer (some ⟨b, 0, none⟩), .pointer (some ⟨c, 0, none⟩)].toArray F [] (Ret (.bool false)) := by
  obtain ⟨w, bs, si⟩ := e
  dsimp only at h
  rw [show entF (w, bs, si) = [.int .i64 w, .int .i64 bs, .int .i64 si] from rfl]
  refine FT.of_body Tryz.func106 rfl Tryz.ntmps106 (by simp) fun C hC => ?_
  subst hC
  conv => whnf
  intro b2
  conv => whnf
  refine LoadV.f hb rfl ?_
  conv => whnf
  refine LoadV.s rfl rfl ?_
  conv => whnf
  refine cond_f (by omega) ?_
  conv => whnf
  repeat (first | (refine LoadV.s rfl rfl (forceV_of ?_); conv => whnf) | (refine LoadV.s rfl rfl ?_; conv => whnf) | (refine StoreV.c rfl rfl (Nat.le_of_ble_eq_true rfl) rfl ?_; conv => whnf) | (refine LoadV.a _ rfl (Nat.le_of_ble_eq_true rfl) ?_; conv => whnf) | (refine DrawI.quiet (by kernel_rfl) (by kernel_rfl) ?_; conv => whnf) | (refine ArI.in64 (by omega) ?_; conv => whnf) | (refine ArI.inU8 (by omega) ?_; conv => whnf) | (refine ArI.inU64 (by omega) ?_; conv => whnf) | (refine ArI.inU32 (by omega) ?_; conv => whnf) | (refine RetI.one Tryz.results106 rfl ?_; conv => whnf) | (refine RetI.two Tryz.results106 rfl rfl ?_; conv => whnf) | (refine RetI.three Tryz.results106 rfl rfl rfl ?_; conv => whnf) | (refine RetI.none Tryz.results106 ?_; conv => whnf) | (refine ⟨by first | decide | omega, ?_⟩; conv => whnf))
  exact ⟨_, Sub.sel [] rfl, rfl, rfl⟩
theorem idxNames_ok (F : Mem) (oa : Option Addr) (ca : Nat) (r : List EntI) (b c : Nat) (base n : Int) (hr : SlF F 3 oa r.length (rsV r)) (hl : r.length ≤ 1000) (hb : RdC F ⟨b, 0, none⟩ (.int .i64 base)) (hc : RdC F ⟨c, 0, none⟩ (.int .i64 n)) (h : ∀ e ∈ r, e.2.1 < base) (hn : 0 ≤ n ∧ base + n ≤ 32768) (h0 : 0 ≤ base) :
    FT Tryz.prog 102 [.slice oa r.length ca, .func (.func 106) #[] #[.pointer (some ⟨b, 0, none⟩), .pointer (some ⟨c, 0, none⟩)]].toArray F [] (Ret (.int .i64 (-1))) := by
  refine FT.of_body Tryz.func102 rfl Tryz.ntmps102 (by simp) fun C hC => ?_
  subst hC
  conv => whnf
  refine LoopI.by_state (σ := Nat) (fun i => [(0, .slice oa r.length ca), (1, .func (.func 106) #[] #[.pointer (some ⟨b, 0, none⟩), .pointer (some ⟨c, 0, none⟩)]), (7, .int .i64 (r.length : Int)), (8, .int .i64 (i : Int))]) (fun _ => []) (fun i => i ≤ r.length) (fun i => r.length - i) 0 (Nat.zero_le _) ⟨rfl, rfl, rfl, rfl, trivial⟩ (Sub.refl _) ?_
  rintro i f0 hi
  conv => whnf
  refine cond_dec (fun h2 => ?_) (fun h2 => ?_)
  · have hil : i < r.length := by omega
    have hx := hr.at hil
    obtain ⟨xb, xo, rfl, hrow⟩ := hx
    have hrd := flat_row entF_length hrow hil rfl
    have he := h r[i] (List.getElem_mem hil)
    generalize r[i] = e at he hrd ⊢
    conv => whnf
    refine ⟨by omega, ?_⟩
    conv => whnf
    refine LoadV.fa hrd rfl ?_
    conv => whnf
    refine CallS.mk Tryz.call106 ⟨[], _, _, Sub.refl _, fun F' hF' => names1_ok F' e b c base n (hb.ext hF'.F) (hc.ext hF'.F) he hn h0, ?_⟩
    rintro ed A' ⟨rfl, rfl⟩
    conv => whnf
    refine ArI.to64 ((i + 1 : Nat) : Int) (by omega) (by omega) ?_
    conv => whnf
    exact ⟨i + 1, _, by omega, Sub.sel [] rfl, by omega, ⟨rfl, rfl, rfl, rfl, trivial⟩, rfl⟩
  · conv => whnf
    repeat (first | (refine LoadV.s rfl rfl (forceV_of ?_); conv => whnf) | (refine LoadV.s rfl rfl ?_; conv => whnf) | (refine StoreV.c rfl rfl (Nat.le_of_ble_eq_true rfl) rfl ?_; conv => whnf) | (refine LoadV.a _ rfl (Nat.le_of_ble_eq_true rfl) ?_; conv => whnf) | (refine DrawI.quiet (by kernel_rfl) (by kernel_rfl) ?_; conv => whnf) | (refine ArI.in64 (by omega) ?_; conv => whnf) | (refine ArI.inU8 (by omega) ?_; conv => whnf) | (refine ArI.inU64 (by omega) ?_; conv => whnf) | (refine ArI.inU32 (by omega) ?_; conv => whnf) | (refine RetI.one Tryz.results102 rfl ?_; conv => whnf) | (refine RetI.two Tryz.results102 rfl rfl ?_; conv => whnf) | (refine RetI.three Tryz.results102 rfl rfl rfl ?_; conv => whnf) | (refine RetI.none Tryz.results102 ?_; conv => whnf) | (refine ⟨by first | decide | omega, ?_⟩; conv => whnf))
    exact ⟨_, Sub.sel [] rfl, rfl, rfl⟩
theorem contNames_ok (F : Mem) (oa : Option Addr) (ca : Nat) (r : List EntI) (b c : Nat) (base n : Int) (hr : SlF F 3 oa r.length (rsV r)) (hl : r.length ≤ 1000) (hb : RdC F ⟨b, 0, none⟩ (.int .i64 base)) (hc : RdC F ⟨c, 0, none⟩ (.int .i64 n)) (h : ∀ e ∈ r, e.2.1 < base) (hn : 0 ≤ n ∧ base + n ≤ 32768) (h0 : 0 ≤ base) :
    FT Tryz.prog 105 [.slice oa r.length ca, .func (.func 106) #[] #[.pointer (some ⟨b, 0, none⟩), .pointer (some ⟨c, 0, none⟩)]].toArray F [] (Ret (.bool false)) := by
  refine FT.of_body Tryz.func105 rfl Tryz.ntmps105 (by simp) fun C hC => ?_
  subst hC
  conv => whnf
  refine CallS.mk Tryz.call102 ⟨[], _, _, Sub.refl _, fun F' hF' => idxNames_ok F' oa ca r b c base n (hr.ext hF'.F) hl (hb.ext hF'.F) (hc.ext hF'.F) h hn h0, ?_⟩
  rintro ed A' ⟨rfl, rfl⟩
  conv => whnf
  repeat (first | (refine LoadV.s rfl rfl (forceV_of ?_); conv => whnf) | (refine LoadV.s rfl rfl ?_; conv => whnf) | (refine StoreV.c rfl rfl (Nat.le_of_ble_eq_true rfl) rfl ?_; conv => whnf) | (refine LoadV.a _ rfl (Nat.le_of_ble_eq_true rfl) ?_; conv => whnf) | (refine DrawI.quiet (by kernel_rfl) (by kernel_rfl) ?_; conv => whnf) | (refine ArI.in64 (by omega) ?_; conv => whnf) | (refine ArI.inU8 (by omega) ?_; conv => whnf) | (refine ArI.inU64 (by omega) ?_; conv => whnf) | (refine ArI.inU32 (by omega) ?_; conv => whnf) | (refine RetI.one Tryz.results105 rfl ?_; conv => whnf) | (refine RetI.two Tryz.results105 rfl rfl ?_; conv => whnf) | (refine RetI.three Tryz.results105 rfl rfl rfl ?_; conv => whnf) | (refine RetI.none Tryz.results105 ?_; conv => whnf) | (refine ⟨by first | decide | omega, ?_⟩; conv => whnf))
  exact ⟨_, Sub.sel [] rfl, rfl, rfl⟩
theorem RosOk.below {r : List EntI} {top ep : Int} (R : RosOk r top ep) {base : Int} (h : top ≤ base) (h1 : 1 ≤ base) : ∀ e ∈ r, e.2.1 < base := fun e he => by
  rcases R.rng e he with rfl | h2
  · show (0 : Int) < base; omega
  · omega
set_option maxHeartbeats 1000000 in
theorem names_ok (F : Mem) (r : List EntI) (top ep : Int) (R : RosOk r top ep) (base : Int) (n : Nat) (h : top ≤ base) (h1 : 1 ≤ base) (hn : base + n ≤ 32768) :
    FT Tryz.prog 84 [.agg (rsV r).toArray, .int .i64 base, .int .i64 (n : Int)].toArray F [] (Ret (.bool true)) := by
  have hl := rsV_len R.len
  have hbe := R.below h h1
  have hz0 : 0 ≤ (n : Int) := by omega
  generalize (n : Int) = z at hn hz0 ⊢
  refine FT.of_body Tryz.func84 rfl Tryz.ntmps84 (by simp) fun C hC => ?_
  subst hC
  conv => whnf
  intro b3
  conv => whnf
  intro b4
  conv => whnf
  intro b5
  conv => whnf
  refine LoadV.s rfl rfl ?_
  conv => whnf
  refine cond_split (fun h0 => ?_) (fun h0 => ?_)
  · conv => whnf
    repeat (first | (refine LoadV.s rfl rfl (forceV_of ?_); conv => whnf) | (refine LoadV.s rfl rfl ?_; conv => whnf) | (refine StoreV.c rfl rfl (Nat.le_of_ble_eq_true rfl) rfl ?_; conv => whnf) | (refine LoadV.a _ rfl (Nat.le_of_ble_eq_true rfl) ?_; conv => whnf) | (refine DrawI.quiet (by kernel_rfl) (by kernel_rfl) ?_; conv => whnf) | (refine ArI.in64 (by omega) ?_; conv => whnf) | (refine ArI.inU8 (by omega) ?_; conv => whnf) | (refine ArI.inU64 (by omega) ?_; conv => whnf) | (refine ArI.inU32 (by omega) ?_; conv => whnf) | (refine RetI.one Tryz.results84 rfl ?_; conv => whnf) | (refine RetI.two Tryz.results84 rfl rfl ?_; conv => whnf) | (refine RetI.three Tryz.results84 rfl rfl rfl ?_; conv => whnf) | (refine RetI.none Tryz.results84 ?_; conv => whnf) | (refine ⟨by first | decide | omega, ?_⟩; conv => whnf))
    exact ⟨_, Sub.sel [] rfl, rfl, rfl⟩
  · conv => whnf
    refine LoadV.s rfl rfl ?_
    conv => whnf
    refine cond_f (by omega) ?_
    conv => whnf
    refine LoadV.s rfl rfl ?_
    conv => whnf
    refine LoadV.s rfl rfl ?_
    conv => whnf
    refine ArI.in64 (by omega) ?_
    conv => whnf
    refine cond_f (by omega) ?_
    conv => whnf
    refine DoV.slice_arr Tryz.underlying60 rfl ?_
    conv => whnf
    have hz := fun (F' : Mem) (h1 : SlF F' 3 (some ⟨b3, 0, none⟩) r.length (rsV r)) (h2 : RdC F' ⟨b4, 0, none⟩ (.int .i64 base)) (h3 : RdC F' ⟨b5, 0, none⟩ (.int .i64 z)) => contNames_ok F' (some ⟨b3, 0, none⟩) 64 r b4 b5 base z h1 (by rw [R.len]; decide) h2 h3 hbe ⟨hz0, hn⟩ (by omega)
    rw [R.len] at hz
    rw [cap0, cap2]
    refine CallS.mk Tryz.call105 ⟨[], _, _, Sub.refl _, fun F' hF' => hz F' (SlF.cells hF' (by rw [hl])) (rd_cell hF' rfl) (rd_cell hF' rfl), ?_⟩
    rintro e A' ⟨rfl, rfl⟩
    conv => whnf
    repeat (first | (refine LoadV.s rfl rfl (forceV_of ?_); conv => whnf) | (refine LoadV.s rfl rfl ?_; conv => whnf) | (refine StoreV.c rfl rfl (Nat.le_of_ble_eq_true rfl) rfl ?_; conv => whnf) | (refine LoadV.a _ rfl (Nat.le_of_ble_eq_true rfl) ?_; conv => whnf) | (refine DrawI.quiet (by kernel_rfl) (by kernel_rfl) ?_; conv => whnf) | (refine ArI.in64 (by omega) ?_; conv => whnf) | (refine ArI.inU8 (by omega) ?_; conv => whnf) | (refine ArI.inU64 (by omega) ?_; conv => whnf) | (refine ArI.inU32 (by omega) ?_; conv => whnf) | (refine RetI.one Tryz.results84 rfl ?_; conv => whnf) | (refine RetI.two Tryz.results84 rfl rfl ?_; conv => whnf) | (refine RetI.three Tryz.results84 rfl rfl rfl ?_; conv => whnf) | (refine RetI.none Tryz.results84 ?_; conv => whnf) | (refine ⟨by first | decide | omega, ?_⟩; conv => whnf))
    exact ⟨_, Sub.sel [] rfl, rfl, rfl⟩
end Go.Proofs.YtlfmckjehjedpaaGreatDoor

/- The roster behind a batch: the program's way, whole. -/
namespace Go.Proofs.YtlfmckjehjedpaaGreatDoor
set_option linter.unusedVariables false
set_option linter.unusedSimpArgs false
set_option maxRecDepth 100000
open SL Go.RowKit Go.Maps
def MoveR (r : List EntI) (L J : List Int) (since base : Int) (e : Ending) (H : Heap) : Prop :=
  ∃ g1 g2, (g1 = none ↔ leftL r L = []) ∧ (g2 = none ↔ joinedL r L J = []) ∧ e = .returned (.tuple #[.agg (rsV (moveR r L J since base)).toArray, svOf g1 (leftL r L).length, svOf g2 (joinedL r L J).length, .int .i64 0]) ∧ H = [ownT g1 (leftL r L), ownT g2 (joinedL r L J)]
theorem leftL_snoc (r : List EntI) (L : List Int) {i : Nat} (h : i < L.length) : leftL r (L.take (i + 1)) = leftL r (L.take i) ++ [(L[i], findI r L[i] 0)] := by
  unfold leftL; rw [take_snoc h, List.map_append]; rfl
theorem joinedL_snoc (r : List EntI) (L J : List Int) {i : Nat} (h : i < J.length) (h2 : i < (freeL (leaveR r L)).length) : joinedL r L (J.take (i + 1)) = joinedL r L (J.take i) ++ [(J[i], (((freeL (leaveR r L))[i] : Nat) : Int))] := by
  unfold joinedL
  generalize freeL (leaveR r L) = fs at h2 ⊢
  have key : ∀ (J : List Int) (fs : List Nat) (i : Nat) (h : i < J.length) (h2 : i < fs.length), List.zipWith (fun w (s : Nat) => (w, (s : Int))) (J.take (i + 1)) fs = List.zipWith (fun w (s : Nat) => (w, (s : Int))) (J.take i) fs ++ [(J[i], ((fs[i] : Nat) : Int))] := by
    intro J
    induction J with
    | nil => intro fs i h; simp at h
    | cons x J ih =>
      intro fs i h h2
      cases fs with
      | nil => simp at h2
      | cons f fs =>
        cases i with
        | zero => simp
        | succ i => simp only [List.take_succ_cons, List.zipWith_cons_cons, List.getElem_cons_succ, List.cons_append]; rw [ih fs i (by simpa using h) (by simpa using h2)]
  exact key J fs i h h2
theorem nodup_take {l : List Int} (h : l.Nodup) {i : Nat} (hi : i < l.length) : l[i] ∉ l.take i := by
  intro hm
  obtain ⟨j, hj, e⟩ := List.getElem_of_mem hm
  simp only [List.length_take] at hj
  have e2 : l[j]'(by omega) = l[i] := by simpa using e
  exact List.pairwise_iff_getElem.1 h j i (by omega) hi (by omega) e2
set_option maxHeartbeats 4000000 in
theorem move_ok (F : Mem) (htab : TabA F) (r : List EntI) (top ep : Int) (R : RosOk r top ep) (ht : top ≤ 32768) (he : ep ≤ 200) (L J : List Int) (s0 : BatS) (hB : BatF F L J s0) (hfit : Fit r L J) (since base : Int) (hs : 1 ≤ since ∧ since ≤ 200) (hb : top ≤ base) (hb1 : 1 ≤ base) (hbj : base + (J.length : Nat) ≤ 32768) :
    FT Tryz.prog 52 [.agg (rsV r).toArray, .agg (batL L J s0).toArray, .int .i64 since, .int .i64 base].toArray F [] (MoveR r L J since base) := by
  have hl := rsV_len R.len
  have hnL := hfit.lenL R
  have hnJ := hfit.lenJ R
  have hroom := hfit.room R
  have hfz := fitsE_zero.2 hfit
  have hleft := on_leave R.who L hfit.nL hfit.on
  have hlr : ∀ S, (leaveR r S).length = 64 := fun S => by rw [leaveR_length]; exact R.len
  refine FT.of_body Tryz.func52 rfl Tryz.ntmps52 (by simp) fun C hC => ?_
  subst hC
  conv => whnf
  intro b4
  conv => whnf
  intro b5
  conv => whnf
  intro b8
  conv => whnf
  refine LoadV.p 192 (rsV r) rfl hl (by show 0 + 192 ≤ (rsV r).length; omega) (take_all0 hl) ?_
  conv => whnf
  refine LoadV.p 2 (batL L J s0) rfl rfl (Nat.le_of_ble_eq_true rfl) rfl ?_
  conv => whnf
  have hfo := fun F' hB => fits_ok F' r top ep R ht he L J s0 hB
  rw [hfz] at hfo
  refine CallS.mk Tryz.call47 ⟨[], _, _, Sub.refl _, fun F' hF' => hfo F' (hB.ext hF'), ?_⟩
  rintro e A' ⟨rfl, rfl⟩
  conv => whnf
  refine cond_f (by omega) ?_
  conv => whnf
  refine cond_f (by omega) ?_
  conv => whnf
  refine LoadV.p 192 (rsV r) rfl hl (by show 0 + 192 ≤ (rsV r).length; omega) (take_all0 hl) ?_
  conv => whnf
  refine LoadV.s rfl rfl ?_
  conv => whnf
  refine CallS.mk Tryz.call84 ⟨[], _, _, Sub.refl _, fun F' hF' => names_ok F' r top ep R base J.length hb hb1 hbj, ?_⟩
  rintro e A' ⟨rfl, rfl⟩
  conv => whnf
  refine LoadV.s rfl rfl ?_
  conv => whnf
  refine LoopI.by_state (σ := Nat × Option (Nat × Nat)) (fun s => [(2, .int .i64 since), (3, .int .i64 base), (4, .pointer (some ⟨b4, 0, none⟩)), (5, .pointer (some ⟨b5, 0, none⟩)), (8, .pointer (some ⟨b8, 0, none⟩)), (13, svOf s.2 (leftL r (L.take s.1)).length), (14, .slice none 0 0), (49, .slice s0.oL L.length s0.cL), (50, .int .i64 (L.length : Int)), (51, .int .i64 (s.1 : Int))])
    (fun s => [ownT s.2 (leftL r (L.take s.1)), .cells b8 (rsV (List.replicate 64 (0, 0, 0))) 60 (0, 0), .cells b5 (batL L J s0) 54 (0, 0), .cells b4 (rsV (leaveR r (L.take s.1))) 60 (0, 0)])
    (fun s => s.1 ≤ L.length ∧ (s.2 = none ↔ leftL r (L.take s.1) = [])) (fun s => L.length - s.1) (0, none) ⟨Nat.zero_le _, by simp [leftL]⟩ ⟨rfl, rfl, rfl, rfl, rfl, rfl, rfl, rfl, rfl, rfl, trivial⟩ (by rw [show L.take (0, (none : Option (Nat × Nat))).1 = [] from rfl, leaveR_nil]; exact Sub.nil 97 2) ?_
  rintro ⟨i, g⟩ f0 ⟨hi, hg⟩
  dsimp only at hi hg ⊢
  conv => whnf
  refine cond_dec (fun h => ?_) (fun h => ?_)
  · have hil : i < L.length := by omega
    have hx := hB.fL.at hil
    obtain ⟨xb, xo, hxe, hrow⟩ := hx
    rw [hxe]
    have hrd := hrow i (.int .i64 L[i]) (by rw [List.getElem?_map, List.getElem?_eq_getElem hil]; rfl)
    have hst : leaveR r (L.take (i + 1)) = leaveR r (L.take i ++ [L[i]]) := by rw [take_snoc hil]
    have hlst := leftL_snoc r L hil
    have hon := hfit.on L[i] (List.getElem_mem hil)
    have hni := nodup_take hfit.nL hil
    generalize L[i] = w at hrd hst hlst hon hni ⊢
    have hfe := findI_leave hni r 0
    obtain ⟨q, hq, hfq, htq, hwq⟩ := find_on hon
    have hset := leaveR_set R.who (S := L.take i) hq htq
    rw [hwq, ← hst] at hset
    rw [hfq] at hlst
    have hq64 : q < 64 := by rw [← R.len]; exact hq
    have hlri := hlr (L.take i)
    have hlen := leftL r (L.take i)
    have hle : (leftL r (L.take i)).length = i := by simp [leftL]; omega
    rw [hfq] at hfe
    clear hlen
    have hrl : (rsV (leaveR r (L.take i))).length = 192 := rsV_len hlri
    generalize leaveR r (L.take i) = ri at hset hlri hfe hrl ⊢
    generalize leftL r (L.take i) = xs at hg hlst hle ⊢
    conv => whnf
    refine ⟨by omega, ?_⟩
    conv => whnf
    rw [elemOff_nat]
    rotate_left
    · kernel_rfl
    refine LoadV.f hrd rfl ?_
    conv => whnf
    refine LoadV.p 192 (rsV ri) rfl hrl (by show 0 + 192 ≤ (rsV ri).length; omega) (take_all0 hrl) ?_
    conv => whnf
    have hfind := fun F' => find_ok F' ri hlri w
    rw [hfe] at hfind
    refine CallS.mk Tryz.call79 ⟨[], _, _, Sub.refl _, fun F' hF' => hfind F', ?_⟩
    rintro e A' ⟨rfl, rfl⟩
    conv => whnf
    refine ⟨by omega, ?_⟩
    conv => whnf
    rw [elem_off (n := 3)]
    rotate_left
    · kernel_rfl
    · rfl
    refine StoreV.c rfl rfl (by show q * 3 + 3 ≤ _; omega) rfl ?_
    rw [show (Value.agg #[Value.int IntKind.i64 0, Value.int IntKind.i64 0, Value.int IntKind.i64 0]).cells.toList = entF (0, 0, 0) from rfl, rsV_put (0, 0, 0) (by omega), hset]
    conv => whnf
    intro bl
    conv => whnf
    refine BuiltV.append (sv := svOf g xs.length) (m := 1) Tryz.underlying28 rfl rfl rfl rfl (by decide) (Row.cells 2) rfl (by decide) rfl (by show (xs.length + 1) * 16 ≤ _; omega) (by omega) fun gb gc => ?_
    conv => whnf
    refine ArI.to64 ((i + 1 : Nat) : Int) (by omega) (by omega) ?_
    conv => whnf
    refine ⟨(i + 1, some (gb, gc)), _, by dsimp only; omega, Sub.sel [1, 2, 3, 4] rfl, ⟨by dsimp only; omega, by rw [hlst]; simp⟩, ⟨rfl, rfl, rfl, rfl, rfl, ?_, rfl, rfl, rfl, rfl, trivial⟩, ?_⟩
    · dsimp only; rw [hlst, List.length_append]; rfl
    · dsimp only [ownT]; rw [hlst, own_snocF seatF]; rfl
  · obtain rfl : i = L.length := by omega
    rw [List.take_length] at hg ⊢
    have hll : (leftL r L).length = L.length := by simp [leftL]
    have hr2 := hlr L
    have hrl2 := rsV_len hr2
    have hJl := joinedL_length R hfit
    have htk : takeL (takenN (leaveR r L)) (J.length : Int) = (freeL (leaveR r L)).take J.length := by
      unfold takeL
      have h1 := free_len hr2
      rw [if_neg (by rw [slots_on hr2]; omega), Int.toNat_natCast]; rfl
    have hto := fun F' ht => take_ok F' ht (takenN (leaveR r L)) (takenN_lt hr2) (J.length : Int) (by omega)
    unfold TakeR at hto
    rw [htk] at hto
    have hfl : ((freeL (leaveR r L)).take J.length).length = J.length := by rw [List.length_take]; omega
    rw [hfl] at hto
    conv => whnf
    refine DrawI.mixed [1, 5] [_, _] (by kernel_rfl) (by kernel_rfl) (by kernel_rfl) (by kernel_rfl) (by kernel_rfl) (Sub.sel [2, 3] rfl) ?_
    conv => whnf
    refine LoadV.p 192 (rsV (leaveR r L)) rfl hrl2 (by show 0 + 192 ≤ (rsV (leaveR r L)).length; omega) (take_all0 hrl2) ?_
    conv => whnf
    refine CallS.mk Tryz.call56 ⟨[], [_, _, _, _], _, Sub.sel [0, 1, 2, 3] rfl, fun F' hF' => taken_ok F' (leaveR r L) hr2, ?_⟩
    rintro e A' ⟨rfl, rfl⟩
    conv => whnf
    refine ⟨Sub.sel [2, 3] rfl, ?_⟩
    refine LoadV.s rfl rfl ?_
    conv => whnf
    refine CallS.mk Tryz.call85 ⟨[], [_, _, _, _], _, Sub.sel [0, 1, 2, 3] rfl, fun F' hF' => hto F' (htab.ext hF'), ?_⟩
    rintro e A' ⟨gt, hgt, rfl, rfl⟩
    have hsn : ((freeL (leaveR r L)).take J.length).Nodup := (List.Pairwise.sublist (List.take_sublist _ _) (free_sorted _)).imp fun h => Nat.ne_of_lt h
    have hfree : ∀ s ∈ (freeL (leaveR r L)).take J.length, s < 64 := fun s hs => by
      obtain ⟨h, _⟩ := (mem_free hr2).1 (List.mem_of_mem_take hs)
      omega
    have hjs := fun i (h : i < J.length) => joinedL_snoc r L J h (show i < (freeL (leaveR r L)).length by omega)
    have hps := fun i (h : i < J.length) => putJ_step since (leaveR r L) (freeL (leaveR r L)) J base (show i < (freeL (leaveR r L)).length by omega) h
    have hget : ∀ i (h : i < J.length), (freeL (leaveR r L))[i]'(by omega) = ((freeL (leaveR r L)).take J.length)[i]'(by omega) := fun i h => by rw [List.getElem_take]
    have hend : putJ since (leaveR r L) ((freeL (leaveR r L)).take J.length) (J.take J.length) base = moveR r L J since base := by
      unfold moveR
      rw [List.take_length]
      have key : ∀ (J : List Int) (r : List EntI) (ss : List Nat) (b : Int), putJ since r (ss.take J.length) J b = putJ since r ss J b := by
        intro J
        induction J with
        | nil => intro r ss b; rw [putJ_nil, putJ_nil]
        | cons w J ih => intro r ss b; cases ss with
          | nil => rfl
          | cons s ss => exact ih (r.set s (w, b, since)) ss (b + 1)
      exact key J _ _ base
    have hpl := fun i => putJ_length since (J.take i) (leaveR r L) ((freeL (leaveR r L)).take i) base
    have hp0 : putJ since (leaveR r L) ((freeL (leaveR r L)).take 0) (J.take 0) base = leaveR r L := rfl
    have hj0 : joinedL r L (J.take 0) = [] := by simp [joinedL]
    generalize hQ : (fun i => putJ since (leaveR r L) ((freeL (leaveR r L)).take i) (J.take i) base) = Q
    have hQi : ∀ i, Q i = putJ since (leaveR r L) ((freeL (leaveR r L)).take i) (J.take i) base := fun i => by rw [← hQ]
    have hps2 : ∀ i (h : i < J.length) s, ((freeL (leaveR r L)).take J.length)[i]? = some s → Q (i + 1) = (Q i).set s (J[i], base + (i : Nat), since) := fun i h s hs => by
      rw [hQi, hQi, hps i h, hget i h]
      rw [List.getElem?_eq_getElem (by omega)] at hs
      cases hs; rfl
    have hQl : ∀ i, (Q i).length = 64 := fun i => by rw [hQi, hpl, hr2]
    rw [← hQi] at hend hp0
    have hjs2 : ∀ i (h : i < J.length) s, ((freeL (leaveR r L)).take J.length)[i]? = some s → joinedL r L (J.take (i + 1)) = joinedL r L (J.take i) ++ [(J[i], ((s : Nat) : Int))] := fun i h s hs => by
      rw [hjs i h, hget i h]
      rw [List.getElem?_eq_getElem (by omega)] at hs
      cases hs; rfl
    clear hQ hQi hps hjs hget htk hto hpl
    generalize (freeL (leaveR r L)).take J.length = fs at hfl hgt hsn hfree hps2 hjs2 ⊢
    generalize takeS (takenN (leaveR r L)) (J.length : Int) = ts
    generalize takeE (takenN (leaveR r L)) (J.length : Int) = te
    rw [← hp0]
    conv => whnf
    refine ⟨Sub.sel [3, 4] rfl, ?_⟩
    conv => whnf
    refine LoopI.by_state (σ := Nat × Option (Nat × Nat)) (fun s => [(2, .int .i64 since), (3, .int .i64 base), (4, .pointer (some ⟨b4, 0, none⟩)), (5, .pointer (some ⟨b5, 0, none⟩)), (8, .pointer (some ⟨b8, 0, none⟩)), (13, svOf g (leftL r L).length), (14, svOf s.2 (joinedL r L (J.take s.1)).length), (78, svOf gt J.length), (79, .int .i64 (J.length : Int)), (80, .int .i64 (s.1 : Int))])
      (fun s => [ownT s.2 (joinedL r L (J.take s.1)), ownL gt fs, ownT g (leftL r L), .cells b8 (rsV (List.replicate 64 (0, 0, 0))) 60 (0, 0), .cells b5 (batL L J s0) 54 (0, 0), .cells b4 (rsV (Q s.1)) 60 (0, 0)])
      (fun s => s.1 ≤ J.length ∧ (s.2 = none ↔ joinedL r L (J.take s.1) = [])) (fun s => J.length - s.1) (0, none) ⟨Nat.zero_le _, by dsimp only; rw [hj0]; simp⟩ ⟨rfl, rfl, rfl, rfl, rfl, rfl, by dsimp only; rw [hj0]; rfl, rfl, rfl, rfl, trivial⟩ (by dsimp only; rw [hj0]; exact Sub.trans (Sub.nil 97 2) (Sub.sel [0, 1, 2, 3, 4, 5] rfl)) ?_
    rintro ⟨i, g2⟩ f1 ⟨hi2, hg2⟩
    dsimp only at hi2 hg2 ⊢
    conv => whnf
    refine cond_dec (fun h2 => ?_) (fun h2 => ?_)
    · have hiJ : i < J.length := by omega
      have hif : i < fs.length := by omega
      have hx := hB.fJ.at hiJ
      obtain ⟨xb, xo, hxe, hrow⟩ := hx
      have hrd := hrow i (.int .i64 J[i]) (by rw [List.getElem?_map, List.getElem?_eq_getElem hiJ]; rfl)
      have hst := hps2 i hiJ fs[i] (List.getElem?_eq_getElem hif)
      have hjst := hjs2 i hiJ fs[i] (List.getElem?_eq_getElem hif)
      have hs64 := hfree fs[i] (List.getElem_mem hif)
      have hfat : (natsV fs)[i]? = some (.int .i64 ((fs[i] : Nat) : Int)) := by rw [List.getElem?_map, List.getElem?_eq_getElem hif]; rfl
      have hQi := hQl i
      have hQv := rsV_len hQi
      have hxl : (joinedL r L (J.take i)).length ≤ 64 := by
        unfold joinedL; rw [List.length_zipWith, List.length_take]; omega
      obtain ⟨gtb, gtc, hgte⟩ := gsome hgt (by intro e; rw [e] at hfl; simp at hfl; omega)
      subst hgte
      generalize fs[i] = q at hst hjst hs64 hfat ⊢
      generalize J[i] = w at hrd hst hjst ⊢
      generalize Q i = ri at hst hQi hQv ⊢
      generalize joinedL r L (J.take i) = xs at hg2 hjst hxl ⊢
      have hown : ownL (some (gtb, gtc)) fs = .own (.slice (some ⟨gtb, 0, none⟩) J.length gtc) J.length 3 1 (natsV fs) := by unfold ownL; rw [hfl]
      rw [hown]
      conv => whnf
      refine ⟨by omega, ?_⟩
      conv => whnf
      rw [elemOff_nat]
      rotate_left
      · kernel_rfl
      rw [Nat.zero_add]
      refine LoadV.os rfl hfat ?_
      conv => whnf
      refine LoadV.s rfl rfl ?_
      rw [hxe]
      conv => whnf
      refine ⟨by omega, ?_⟩
      conv => whnf
      rw [elemOff_nat]
      rotate_left
      · kernel_rfl
      refine LoadV.f hrd rfl ?_
      conv => whnf
      refine ArI.to64 (base + (i : Nat)) rfl (by omega) ?_
      generalize hbi : base + ((i : Nat) : Int) = bi at hst ⊢
      conv => whnf
      refine ⟨by omega, ?_⟩
      conv => whnf
      rw [elem_off (n := 3)]
      rotate_left
      · kernel_rfl
      · rfl
      refine StoreV.c rfl rfl (by show q * 3 + 3 ≤ _; omega) rfl ?_
      rw [show (Value.agg #[Value.int IntKind.i64 w, Value.int IntKind.i64 bi, Value.int IntKind.i64 since]).cells.toList = entF (w, bi, since) from rfl, rsV_put (w, bi, since) (by omega), ← hst]
      conv => whnf
      refine LoadV.s rfl rfl ?_
      rw [hxe]
      conv => whnf
      refine ⟨by omega, ?_⟩
      conv => whnf
      rw [elemOff_nat]
      rotate_left
      · kernel_rfl
      refine LoadV.f hrd rfl ?_
      conv => whnf
      intro bl
      conv => whnf
      refine BuiltV.append (sv := svOf g2 xs.length) (m := 1) Tryz.underlying28 rfl rfl rfl rfl (by decide) (Row.cells 2) rfl (by decide) rfl (by show (xs.length + 1) * 16 ≤ _; omega) (by omega) fun gb gc => ?_
      conv => whnf
      refine ArI.to64 ((i + 1 : Nat) : Int) (by omega) (by omega) ?_
      conv => whnf
      refine ⟨(i + 1, some (gb, gc)), _, by dsimp only; omega, Sub.sel [1, 2, 3, 4, 5, 6] rfl, ⟨by dsimp only; omega, by rw [hjst]; simp⟩, ⟨rfl, rfl, rfl, rfl, rfl, rfl, ?_, rfl, rfl, rfl, trivial⟩, ?_⟩
      · dsimp only; rw [hjst, List.length_append]; rfl
      · dsimp only [ownT]; rw [hjst, own_snocF seatF, ← hown]; rfl
    · obtain rfl : i = J.length := by omega
      rw [List.take_length] at hg2 ⊢
      have hml : (moveR r L J since base).length = 64 := by rw [← hend]; exact hQl _
      rw [hend]
      have hvl := rsV_len hml
      have hall := rsV_all (moveR r L J since base)
      have hz : (rsV (List.replicate 64 (0, 0, 0))).length = 192 := rsV_len (by simp)
      generalize hM : rsV (moveR r L J since base) = M at hvl hall ⊢
      generalize rsV (List.replicate 64 (0, 0, 0)) = Z at hz ⊢
      conv => whnf
      refine LoadV.p 192 M rfl hvl (by omega) (take_all0 hvl) ?_
      conv => whnf
      refine StoreV.p 192 M M rfl hvl rfl (by omega) hall (putAt_all (by omega)) ?_
      conv => whnf
      refine RetI.cell4 Tryz.results52 rfl rfl rfl rfl ?_
      conv => whnf
      refine LoadV.p 192 M rfl hvl (by omega) (take_all0 hvl) ?_
      exact ⟨_, Sub.sel [2, 0] rfl, g, g2, hg, hg2, by rw [← hM], rfl⟩
end Go.Proofs.YtlfmckjehjedpaaGreatDoor
