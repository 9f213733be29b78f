/- Parse of a set's digits: the program's and the reference's. -/
import Derived.Test.YtpcefmocphbdgaaDoorSeat10
import Derived.Test.YtpcefmocphbdgaaDoorShelf
namespace Go.Proofs.YtpcefmocphbdgaaDoor
set_option linter.unusedVariables false
set_option linter.unusedSimpArgs false
set_option maxRecDepth 100000
open SL Go.RowKit Go.Maps
theorem FT.of_belowQ {P : Program} {f : FuncId} {args : Array Value} {F : Mem} {Q : Ending → Prop} (hQ : ∀ e, Q e → ∃ v, e = .returned v) (h : ∀ w : World, (∀ r o, F r = some o → w.heap[r]? = some o) → Calls P f args w fun e w' => Q e ∧ Below w.heap.size w w') : FT P f args F [] (fun e H => H = [] ∧ Q e) := by
  intro w hF hs
  refine (h w fun r o hr => (hF r o hr).2).mono fun e w' ⟨he, hb⟩ => ⟨by obtain ⟨v, rfl⟩ := hQ e he; simp, [], ⟨rfl, he⟩, ?_⟩
  exact ⟨hb.os.trans hs.os, hb.tape.trans hs.tape, hb.output.trans hs.output, Nat.le_trans hs.size hb.size, fun r hr hm => (hb.block r (Nat.lt_of_lt_of_le hr hs.size)).trans (hs.keep r hr hm), (by intro o ho; cases ho), List.nodup_nil, (by intro r hr; cases hr)⟩
/-- The two listed errors. -/
def ErrA (F : Mem) : Prop := (∃ t p, RdC F ⟨2, 0, none⟩ (.iface t p)) ∧ ∃ t p, RdC F ⟨3, 0, none⟩ (.iface t p)
theorem ErrA.ext {F F' : Mem} {B : Heap} (h : ErrA F) (he : Ext F B F') : ErrA F' := by
  obtain ⟨⟨t, p, h1⟩, u, q, h2⟩ := h
  exact ⟨⟨t, p, RdC.ext h1 he.F⟩, u, q, RdC.ext h2 he.F⟩
def IsIf (e : Ending) : Prop := ∃ t p, e = .returned (.iface t p)
theorem toErr_ok (F : Mem) (h : ErrA F) (fn s : ByteArray) (hs : s.size ≤ 140737488355328) (k : Int) (hk : k = 1 ∨ k = 2) : FT Tryd.prog 53 [.string fn, .string s, .int .i64 16, .int .i64 64, .iface 85 (.int .i64 k)].toArray F [] (fun e H => H = [] ∧ IsIf e) := by
  obtain ⟨⟨t, p, h1⟩, u, q, h2⟩ := h
  refine FT.of_belowQ (fun e ⟨t, p, h⟩ => ⟨_, h⟩) fun w hw => ?_
  rcases hk with rfl | rfl
  · exact (Tryd.strconv_toError_range fn s 16 64 (.iface u q) w (by omega) (h2 w hw) (.inr ⟨u, q, rfl⟩)).mono fun e w' ⟨N, he, _, _, hb⟩ => ⟨⟨_, _, he⟩, hb⟩
  · exact (Tryd.strconv_toError_syntax fn s 16 64 (.iface t p) w (by omega) (h1 w hw) (.inr ⟨t, p, rfl⟩)).mono fun e w' ⟨N, he, _, _, hb⟩ => ⟨⟨_, _, he⟩, hb⟩
/-- What the public ParseUint answers. -/
def PsR (s : ByteArray) : Ending → Heap → Prop := fun e H => H = [] ∧ ((∃ n : Nat, n < 18446744073709551616 ∧ e = .returned (.tuple #[.int .u64 (n : Int), .nilIface]) ∧ ∀ v, v < 18446744073709551616 → txt s = hexL 16 v → n = v) ∨
  (∃ (x : Nat) (t : TypeId) (p : Value), x < 18446744073709551616 ∧ e = .returned (.tuple #[.int .u64 (x : Int), .iface t p]) ∧ ∀ v, v < 18446744073709551616 → txt s ≠ hexL 16 v))
theorem spuint_ok (F : Mem) (h : ErrA F) (s : ByteArray) (hs : s.size ≤ 140737488355328) : FT Tryd.prog 42 [.string s, .int .i64 16, .int .i64 64].toArray F [] (PsR s) := by
  refine FT.of_body Tryd.func42 rfl Tryd.ntmps42 (by simp) fun C hC => ?_
  subst hC
  conv => whnf
  refine CallS.mk Tryd.call52 ⟨[], _, _, Sub.refl _, fun F' hF' => puint_ok F' s hs, ?_⟩
  rintro e A' ⟨rfl, ⟨n, hn, rfl, hv⟩ | ⟨x, k, hx, hk, rfl, hv⟩⟩
  · conv => whnf
    refine RetI.two Tryd.results42 rfl rfl ?_
    conv => whnf
    exact ⟨_, Sub.refl _, rfl, .inl ⟨n, hn, rfl, hv⟩⟩
  · conv => whnf
    refine CallS.mk Tryd.call53 ⟨[], _, _, Sub.refl _, fun F' hF' => toErr_ok F' (h.ext hF') _ s hs k hk, ?_⟩
    rintro e A' ⟨rfl, t, p, rfl⟩
    conv => whnf
    refine RetI.two Tryd.results42 rfl rfl ?_
    conv => whnf
    exact ⟨_, Sub.refl _, rfl, .inr ⟨x, t, p, hx, rfl, hv⟩⟩
/-- What a text is as a set. -/
def pvS (s : ByteArray) : Nat × Int := if txt s = hexL 16 (hexV (txt s)) then (hexV (txt s), 0) else (0, 25)
theorem hex_is {s : ByteArray} {n : Nat} (hn : n < 18446744073709551616) : (strB (hexL 16 n) = s) ↔ txt s = hexL 16 n := by
  constructor
  · rintro rfl; exact txt_strB (hexL_lt 16 n)
  · intro h; rw [← h, strB_txt]
theorem pvS_of {s : ByteArray} {n : Nat} (hn : n < 18446744073709551616) (h : txt s = hexL 16 n) : pvS s = (n, 0) := by
  unfold pvS
  have e : hexV (txt s) = n := by rw [h, hexV_hex hn]
  rw [e, if_pos h]
theorem pvS_no {s : ByteArray} (h : ∀ v, v < 18446744073709551616 → txt s ≠ hexL 16 v) : pvS s = (0, 25) := by
  unfold pvS
  rw [if_neg (h _ (hexV_lt _))]
theorem hparse_ok (F : Mem) (ht : TabA F) (h : ErrA F) (s : ByteArray) (hs : s.size ≤ 140737488355328) : FT Tryd.prog 30 [.string s].toArray F [] (Ret (.tuple #[.int .u64 ((pvS s).1 : Nat), .int .i64 (pvS s).2])) := by
  refine FT.of_body Tryd.func30 rfl Tryd.ntmps30 (by simp) fun C hC => ?_
  subst hC
  conv => whnf
  refine CallS.mk Tryd.call42 ⟨[], _, _, Sub.refl _, fun F' hF' => spuint_ok F' (h.ext hF') s hs, ?_⟩
  rintro e A' ⟨rfl, ⟨n, hn, rfl, hv⟩ | ⟨x, t, p, hx, rfl, hv⟩⟩
  · conv => whnf
    refine CallS.mk Tryd.call28 ⟨[], _, _, Sub.refl _, fun F' hF' => hex_ok F' (ht.ext hF') n hn, ?_⟩
    rintro e A' ⟨rfl, rfl⟩
    by_cases he : txt s = hexL 16 n
    · rw [pvS_of hn he]
      have e1 : strB (hexL 16 n) = s := (hex_is hn).2 he
      generalize strB (hexL 16 n) = y at e1 ⊢
      conv => whnf
      rw [show (y.toList == s.toList) = true by rw [toList_beq]; exact decide_eq_true e1]
      conv => whnf
      refine RetI.two Tryd.results30 rfl rfl ?_
      conv => whnf
      exact ⟨_, Sub.refl _, rfl, rfl⟩
    · rw [pvS_no (fun v hv2 hh => he (by rw [hv v hv2 hh]; exact hh))]
      have e1 : strB (hexL 16 n) ≠ s := fun hh => he ((hex_is hn).1 hh)
      generalize strB (hexL 16 n) = y at e1 ⊢
      conv => whnf
      rw [show (y.toList == s.toList) = false by rw [toList_beq]; exact decide_eq_false e1]
      conv => whnf
      refine RetI.two Tryd.results30 rfl rfl ?_
      conv => whnf
      exact ⟨_, Sub.refl _, rfl, rfl⟩
  · rw [pvS_no hv]
    conv => whnf
    refine RetI.two Tryd.results30 rfl rfl ?_
    conv => whnf
    exact ⟨_, Sub.refl _, rfl, rfl⟩
end Go.Proofs.YtpcefmocphbdgaaDoor
