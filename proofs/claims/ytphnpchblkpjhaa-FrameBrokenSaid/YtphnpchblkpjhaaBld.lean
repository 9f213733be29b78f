/- strings.Builder: its writing and its text. -/
import Derived.Test.YtphnpchblkpjhaaRep
namespace Go.Proofs.Ytphnpchblkpjhaa
set_option linter.unusedVariables false
set_option linter.unusedSimpArgs false
set_option maxRecDepth 100000
open SL Go.RowKit Go.Maps

theorem cc_fresh (F : Mem) (b : Nat) (sv : Value) : FT Try.prog 34 [.pointer (some ⟨b, 0, none⟩)].toArray F [.cells b [.pointer none, sv] 52 (0, 0)]
    (fun e H => e = .returned (.tuple #[]) ∧ H = [.cells b [.pointer (some ⟨b, 0, none⟩), sv] 52 (0, 0)]) := by
  intro w hF hs
  have hg : w.heap[b]? = some (.cells #[.pointer none, sv] 52 (0, 0)) := hs.objs (.cells b [.pointer none, sv] 52 (0, 0)) (by simp)
  refine (Any.Builder_copyCheck_fresh (P := Try.prog) (ρ := Try.lays105_ren) { Try.lays105 with } Try.Builder_Extra_105.toX72 b w (by simp [World.cell?, hg]) (by simp [World.shape?, hg]; rfl) (by simp [World.frozen?, hg])).mono fun e w' ⟨he, hw⟩ => ⟨by rw [he]; simp, _, ⟨he, rfl⟩, ?_⟩
  subst hw
  rw [setCell_eq_setRow w b 0 _ 52 (0, 0) _ hg]
  exact Sat.setRow (A := []) (B := []) (l' := [.pointer (some ⟨b, 0, none⟩), sv]) hs
theorem cc_used (F : Mem) (b : Nat) (sv : Value) : FT Try.prog 34 [.pointer (some ⟨b, 0, none⟩)].toArray F [.cells b [.pointer (some ⟨b, 0, none⟩), sv] 52 (0, 0)]
    (fun e H => e = .returned (.tuple #[]) ∧ H = [.cells b [.pointer (some ⟨b, 0, none⟩), sv] 52 (0, 0)]) := by
  intro w hF hs
  have hg : w.heap[b]? = some (.cells #[.pointer (some ⟨b, 0, none⟩), sv] 52 (0, 0)) := hs.objs (.cells b [.pointer (some ⟨b, 0, none⟩), sv] 52 (0, 0)) (by simp)
  refine (Any.Builder_copyCheck_used (P := Try.prog) (ρ := Try.lays105_ren) { Try.lays105 with } Try.Builder_Extra_105.toX72 b w (by simp [World.cell?, hg])).mono fun e w' ⟨he, hw⟩ => ⟨by rw [he]; simp, _, ⟨he, rfl⟩, ?_⟩
  subst hw
  exact hs
/-- A builder that holds these bytes. -/
abbrev bldH (b : Nat) (p : Option Addr) (g : Option (Nat × Nat)) (l : List Nat) : Heap := [.cells b [.pointer p, svOf g l.length] 52 (0, 0), .own (svOf g l.length) l.length 5 1 (bytesV l)]
theorem sbw_ok (F : Mem) (b : Nat) (p : Option Addr) (hp : p = none ∨ p = some ⟨b, 0, none⟩) (g : Option (Nat × Nat)) (l : List Nat) (s : ByteArray) (hb : l.length + s.size ≤ 140737488355328) :
    FT Try.prog 24 [.pointer (some ⟨b, 0, none⟩), .string s].toArray F (bldH b p g l)
    (fun e H => e = .returned (.tuple #[.int .i64 (s.size : Int), .nilIface]) ∧ ∃ g', (g' = none ↔ g = none ∧ s.size = 0) ∧ H = bldH b (some ⟨b, 0, none⟩) g' (l ++ txt s)) := by
  have hc : ∀ F' : Mem, FT Try.prog 34 [.pointer (some ⟨b, 0, none⟩)].toArray F' [.cells b [.pointer p, svOf g l.length] 52 (0, 0)]
      (fun e H => e = .returned (.tuple #[]) ∧ H = [.cells b [.pointer (some ⟨b, 0, none⟩), svOf g l.length] 52 (0, 0)]) := fun F' => by
    rcases hp with rfl | rfl
    · exact cc_fresh F' b _
    · exact cc_used F' b _
  refine FT.of_body Try.func24 rfl Try.ntmps24 (by simp) fun C hC => ?_
  subst hC
  conv => whnf
  refine CallS.mk Try.call34 ⟨[_], _, _, Sub.split [0] rfl, fun F' hF' => hc F', ?_⟩
  rintro e A' ⟨rfl, rfl⟩
  conv => whnf
  refine LoadV.s rfl rfl (forceV_of ?_)
  conv => whnf
  refine BuiltV.append_str (g := g) (n := l.length) Try.underlying42 Try.underlying9 rfl rfl rfl rfl hb fun g' hg' => ?_
  conv => whnf
  refine StoreV.c rfl rfl (Nat.le_of_ble_eq_true rfl) rfl ?_
  conv => whnf
  repeat (first | (refine LoadV.s rfl rfl (forceV_of ?_); conv => whnf) | (refine LoadV.s rfl rfl ?_; conv => whnf) | (refine StoreV.c rfl rfl (Nat.le_of_ble_eq_true rfl) rfl ?_; conv => whnf) | (refine LoadV.a _ rfl (Nat.le_of_ble_eq_true rfl) ?_; conv => whnf) | (refine DrawI.quiet (by kernel_rfl) (by kernel_rfl) ?_; conv => whnf) | (refine ArI.in64 (by omega) ?_; conv => whnf) | (refine ArI.inU8 (by omega) ?_; conv => whnf) | (refine ArI.inU64 (by omega) ?_; conv => whnf) | (refine ArI.inU32 (by omega) ?_; conv => whnf) | (refine RetI.one Try.results24 rfl ?_; conv => whnf) | (refine RetI.two Try.results24 rfl rfl ?_; conv => whnf) | (refine RetI.three Try.results24 rfl rfl rfl ?_; conv => whnf) | (refine RetI.none Try.results24 ?_; conv => whnf) | (refine ⟨by first | decide | omega, ?_⟩; conv => whnf))
  refine ⟨_, Sub.sel [0, 1] rfl, rfl, g', hg', ?_⟩
  have hl := txt_length s
  have e : bytesV (l ++ txt s) = bytesV l ++ bytesV (txt s) := List.map_append
  rw [bldH, List.length_append, hl, e]
  rfl
theorem sbs_ok (F : Mem) (b : Nat) (p : Option Addr) (g : Option (Nat × Nat)) (l : List Nat) (hg : g = none ↔ l = []) (hl : ∀ x ∈ l, x < 256) (hb : l.length ≤ 9223372036854775807) :
    FT Try.prog 25 [.pointer (some ⟨b, 0, none⟩)].toArray F (bldH b p g l) (Ret (.string (strB l))) := by
  refine FT.of_body Try.func25 rfl Try.ntmps25 (by simp) fun C hC => ?_
  subst hC
  conv => whnf
  refine DrawI.mixed [4, 10] [_] (by kernel_rfl) (by kernel_rfl) (by kernel_rfl) (by kernel_rfl) (by kernel_rfl) (Sub.sel [0] rfl) ?_
  conv => whnf
  refine LoadV.s rfl rfl (forceV_of ?_)
  conv => whnf
  cases g with
  | none =>
    obtain rfl := hg.1 rfl
    refine BuiltV.sliceData_nil ?_
    conv => whnf
    refine ⟨Sub.sel [0] rfl, ?_⟩
    conv => whnf
    refine LoadV.s rfl rfl (forceV_of ?_)
    conv => whnf
    refine BuiltV.unsafeString_none ?_
    conv => whnf
    refine ⟨Sub.sel [0] rfl, ?_⟩
    conv => whnf
    repeat (first | (refine LoadV.s rfl rfl (forceV_of ?_); conv => whnf) | (refine LoadV.s rfl rfl ?_; conv => whnf) | (refine StoreV.c rfl rfl (Nat.le_of_ble_eq_true rfl) rfl ?_; conv => whnf) | (refine LoadV.a _ rfl (Nat.le_of_ble_eq_true rfl) ?_; conv => whnf) | (refine DrawI.quiet (by kernel_rfl) (by kernel_rfl) ?_; conv => whnf) | (refine ArI.in64 (by omega) ?_; conv => whnf) | (refine ArI.inU8 (by omega) ?_; conv => whnf) | (refine ArI.inU64 (by omega) ?_; conv => whnf) | (refine ArI.inU32 (by omega) ?_; conv => whnf) | (refine RetI.one Try.results25 rfl ?_; conv => whnf) | (refine RetI.two Try.results25 rfl rfl ?_; conv => whnf) | (refine RetI.three Try.results25 rfl rfl rfl ?_; conv => whnf) | (refine RetI.none Try.results25 ?_; conv => whnf) | (refine ⟨by first | decide | omega, ?_⟩; conv => whnf))
    exact ⟨_, Sub.sel [] rfl, rfl, rfl⟩
  | some q =>
    obtain ⟨gb, gc⟩ := q
    have h0 : l.length ≠ 0 := fun e => by have := hg.2 (List.length_eq_zero_iff.1 e); cases this
    refine BuiltV.sliceData h0 ?_
    conv => whnf
    refine ⟨Sub.sel [0] rfl, ?_⟩
    conv => whnf
    refine LoadV.s rfl rfl (forceV_of ?_)
    conv => whnf
    refine BuiltV.unsafeString (b := gb) (c := gc) (L := l) Try.underlying72 rfl h0 rfl hl ?_
    conv => whnf
    refine ⟨Sub.sel [0] rfl, ?_⟩
    conv => whnf
    repeat (first | (refine LoadV.s rfl rfl (forceV_of ?_); conv => whnf) | (refine LoadV.s rfl rfl ?_; conv => whnf) | (refine StoreV.c rfl rfl (Nat.le_of_ble_eq_true rfl) rfl ?_; conv => whnf) | (refine LoadV.a _ rfl (Nat.le_of_ble_eq_true rfl) ?_; conv => whnf) | (refine DrawI.quiet (by kernel_rfl) (by kernel_rfl) ?_; conv => whnf) | (refine ArI.in64 (by omega) ?_; conv => whnf) | (refine ArI.inU8 (by omega) ?_; conv => whnf) | (refine ArI.inU64 (by omega) ?_; conv => whnf) | (refine ArI.inU32 (by omega) ?_; conv => whnf) | (refine RetI.one Try.results25 rfl ?_; conv => whnf) | (refine RetI.two Try.results25 rfl rfl ?_; conv => whnf) | (refine RetI.three Try.results25 rfl rfl rfl ?_; conv => whnf) | (refine RetI.none Try.results25 ?_; conv => whnf) | (refine ⟨by first | decide | omega, ?_⟩; conv => whnf))
    exact ⟨_, Sub.sel [] rfl, rfl, rfl⟩
end Go.Proofs.Ytphnpchblkpjhaa
