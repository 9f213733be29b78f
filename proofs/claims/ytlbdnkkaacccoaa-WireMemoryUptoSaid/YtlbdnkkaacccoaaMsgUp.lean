/- A message as an argument of a small bulk. -/
import Derived.Test.YtlbdnkkaacccoaaMsgView
import Derived.Test.YtlbdnkkaacccoaaBulk
namespace Go.Proofs.Ytlbdnkkaacccoaa
set_option linter.unusedVariables false
set_option linter.unusedSimpArgs false
set_option maxRecDepth 100000
open SL Go.RowKit
abbrev zInt (H : Type) : DataW H := .lit (.int .i64 0)
abbrev zKey (H : Type) : DataW H := .agg [zInt H, zInt H]
abbrev zBox (H : Type) : DataW H := .agg [zKey H, zKey H]
/-- The zero message, as data. -/
abbrev zMsgD (H : Type) : DataW H := .agg [zInt H, .agg [zInt H, .nil, .nil, .nil], .agg [zInt H, zInt H], .agg [zInt H, zInt H, zInt H, .agg [zBox H, zBox H, zBox H]], .agg [zInt H, zKey H, .lit (.string [])]]
theorem msg_up {H : Type} {m : Msg} {d dk de dL dJ dI dq dr ds : DataW H} (hd : d = .agg [dk, .agg [de, dL, dJ, dI], dq, dr, ds]) (htx : m.tx.size ≤ maxLen) (hL : Dn dL m.L.length) (hJ : Dn dJ m.J.length) (hI : Dn dI m.I.length) (hb : Rows.uptoBulk d ≤ 1048576) : m.L.length ≤ 1048576 ∧ m.J.length ≤ 1048576 ∧ m.I.length ≤ 1048576 ∧ Sz m := by
  have h1 := bulks.slice hL
  have h2 := bulks.slice hJ
  have h3 := bulks.slice hI
  subst hd
  simp only [Rows.uptoBulk, Rows.uptoBulkAll] at hb
  exact ⟨by omega, by omega, by omega, ⟨by omega, by omega, by omega, htx⟩⟩
end Go.Proofs.Ytlbdnkkaacccoaa
