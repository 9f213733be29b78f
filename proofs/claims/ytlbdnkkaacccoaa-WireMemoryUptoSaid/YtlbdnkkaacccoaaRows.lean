/-
  No cell of these rows narrows 'for every input' (looked for: loops, veiled, ifaces, maps, wideKeys, modest, calm, conditions, laid).
  DERIVED. THE GIVEN ROWS OF THIS SEAT. 5 by the template 'for every input the law returns true; each argument reads behind the call as it read before'; 0 by the template 'total and deterministic' (their statements: YtlbdnkkaacccoaaTotals.lean).
  GIVEN WITH THE SEED: the statements are not yours to turn. If you find one false, say at which input.
  Laid BY PROGRAM, IN A SANDBOX (cutbox-rows.mjs): the forced cells as the released guide's own fill.sh prints them over the translation daf1530c330e0458… (all of the seat's roots in one cut). By AI agents, Wed Nov 11 2026. No macro, syntax, notation, axiom, sorry.
-/
import Derived.Test.YtlbdnkkaacccoaaChecked
import GoSem.Claim
import GoSem.ClaimJoined
import GoSem.ClaimMapViews
import Derived.JoinedTies
import Derived.KernelRfl
namespace Go.Proofs.Ytlbdnkkaacccoaa
/- THE CELL 'sum', in the pinned program and in every row, IS THE sha256 OF THE DUMP (.gsa) THAT YtlbdnkkaacccoaaProg.lean LOADS. Nothing in Lean hashes anything: it is a label: what it is worth is what the hold of that sum in a sandbox is worth. -/
noncomputable def Try.pinned : Pinned := { name := "ytlbdnkkaacccoaa", sum := "daf1530c330e0458d8dae9bf1a74a7738a2531fa9a8ed0a47b08aebd44b6c2f7", checked := Try.checked }
namespace Rows
def none {H : Type} : Left H := { results := [], args := [] }

/-- 'coterielaw14.WireBytes': WHATEVER THE INPUT: true; the input reads as it did. -/
def wireBytesSpec : ChangeSpec := { name := "wireBytes", fn := fun _ => fun
  | [d1, d2] => { results := [.lit (.bool true)], args := [d1, d2] }
  | _ => none }
def wireBytesRow : OpenClaim := { program := "ytlbdnkkaacccoaa", sum := "daf1530c330e0458d8dae9bf1a74a7738a2531fa9a8ed0a47b08aebd44b6c2f7", func := "coterie/coterielaw14.WireBytes", spec := "wireBytes", unfollowed := true, recurses := true, apart := false }
def WireBytesSaid : Prop := wireBytesRow.holds Try.pinned (OpenSpec.ofChange wireBytesSpec)

/-- ITS FALSE NEIGHBOUR: 'it returns false'. Refute it at one input. -/
def wireBytesWrong : ChangeSpec := { name := "wireBytes", fn := fun _ => fun
  | [d1, d2] => { results := [.lit (.bool false)], args := [d1, d2] }
  | _ => none }
def WireBytesWrongFalsely : Prop := wireBytesRow.holds Try.pinned (OpenSpec.ofChange wireBytesWrong)

/-- 'coterielaw14.WireBack': WHATEVER THE INPUT: true; the input reads as it did. -/
def wireBackSpec : ChangeSpec := { name := "wireBack", fn := fun _ => fun
  | [d1, d2] => { results := [.lit (.bool true)], args := [d1, d2] }
  | _ => none }
def wireBackRow : OpenClaim := { program := "ytlbdnkkaacccoaa", sum := "daf1530c330e0458d8dae9bf1a74a7738a2531fa9a8ed0a47b08aebd44b6c2f7", func := "coterie/coterielaw14.WireBack", spec := "wireBack", unfollowed := true, recurses := true, apart := false }
def WireBackSaid : Prop := wireBackRow.holds Try.pinned (OpenSpec.ofChange wireBackSpec)

/-- ITS FALSE NEIGHBOUR: 'it returns false'. Refute it at one input. -/
def wireBackWrong : ChangeSpec := { name := "wireBack", fn := fun _ => fun
  | [d1, d2] => { results := [.lit (.bool false)], args := [d1, d2] }
  | _ => none }
def WireBackWrongFalsely : Prop := wireBackRow.holds Try.pinned (OpenSpec.ofChange wireBackWrong)

/-- 'coterielaw14.WireWhole': WHATEVER THE INPUT: true; the input reads as it did. -/
def wireWholeSpec : ChangeSpec := { name := "wireWhole", fn := fun _ => fun
  | [d1, d2] => { results := [.lit (.bool true)], args := [d1, d2] }
  | _ => none }
def wireWholeRow : OpenClaim := { program := "ytlbdnkkaacccoaa", sum := "daf1530c330e0458d8dae9bf1a74a7738a2531fa9a8ed0a47b08aebd44b6c2f7", func := "coterie/coterielaw14.WireWhole", spec := "wireWhole", unfollowed := true, recurses := true, apart := false }
def WireWholeSaid : Prop := wireWholeRow.holds Try.pinned (OpenSpec.ofChange wireWholeSpec)

/-- ITS FALSE NEIGHBOUR: 'it returns false'. Refute it at one input. -/
def wireWholeWrong : ChangeSpec := { name := "wireWhole", fn := fun _ => fun
  | [d1, d2] => { results := [.lit (.bool false)], args := [d1, d2] }
  | _ => none }
def WireWholeWrongFalsely : Prop := wireWholeRow.holds Try.pinned (OpenSpec.ofChange wireWholeWrong)

/-- 'coterielaw14.WireUnlike': WHATEVER THE INPUT: true; the input reads as it did. -/
def wireUnlikeSpec : ChangeSpec := { name := "wireUnlike", fn := fun _ => fun
  | [d1, d2] => { results := [.lit (.bool true)], args := [d1, d2] }
  | _ => none }
def wireUnlikeRow : OpenClaim := { program := "ytlbdnkkaacccoaa", sum := "daf1530c330e0458d8dae9bf1a74a7738a2531fa9a8ed0a47b08aebd44b6c2f7", func := "coterie/coterielaw14.WireUnlike", spec := "wireUnlike", unfollowed := true, recurses := true, apart := false }
def WireUnlikeSaid : Prop := wireUnlikeRow.holds Try.pinned (OpenSpec.ofChange wireUnlikeSpec)

/-- ITS FALSE NEIGHBOUR: 'it returns false'. Refute it at one input. -/
def wireUnlikeWrong : ChangeSpec := { name := "wireUnlike", fn := fun _ => fun
  | [d1, d2] => { results := [.lit (.bool false)], args := [d1, d2] }
  | _ => none }
def WireUnlikeWrongFalsely : Prop := wireUnlikeRow.holds Try.pinned (OpenSpec.ofChange wireUnlikeWrong)

/-- 'coterielaw14.WireMemory': WHATEVER THE INPUT: true; the input reads as it did. -/
def wireMemorySpec : ChangeSpec := { name := "wireMemory", fn := fun _ => fun
  | [d1, d2] => { results := [.lit (.bool true)], args := [d1, d2] }
  | _ => none }
def wireMemoryRow : OpenClaim := { program := "ytlbdnkkaacccoaa", sum := "daf1530c330e0458d8dae9bf1a74a7738a2531fa9a8ed0a47b08aebd44b6c2f7", func := "coterie/coterielaw14.WireMemory", spec := "wireMemory", unfollowed := true, recurses := true, apart := false }
def WireMemorySaid : Prop := wireMemoryRow.holds Try.pinned (OpenSpec.ofChange wireMemorySpec)

/-- ITS FALSE NEIGHBOUR: 'it returns false'. Refute it at one input. -/
def wireMemoryWrong : ChangeSpec := { name := "wireMemory", fn := fun _ => fun
  | [d1, d2] => { results := [.lit (.bool false)], args := [d1, d2] }
  | _ => none }
def WireMemoryWrongFalsely : Prop := wireMemoryRow.holds Try.pinned (OpenSpec.ofChange wireMemoryWrong)

/- THE SECOND FORM. 'bulk': how many values and letters a reading holds, each counted each time it is reached (what is shared counts as often as it is met; a slice's spare places count too). A statement '..UptoSaid' is the law's where the arguments, and the package variables that the reading takes, are together of bulk at most 1048576: NARROWER than '..Said'. Prove '..Said' where nothing that the law and all that it calls make is longer than what came in: it says more and counts as full. Else prove '..UptoSaid'. A law counts once. -/
mutual
def uptoBulk {H : Type} : DataW H → Nat
  | .lit (.string bytes) => bytes.length + 1
  | .lit _ => 1
  | .nil => 1
  | .ptr d => uptoBulk d + 1
  | .slice elems spare => uptoBulkAll elems + uptoBulkAll spare + 1
  | .agg parts => uptoBulkAll parts + 1
  | .iface _ d => uptoBulk d + 1
  | .map entries => uptoBulkEntries entries + 1
  | .held _ => 1
def uptoBulkAll {H : Type} : List (DataW H) → Nat
  | [] => 0
  | d :: r => uptoBulk d + uptoBulkAll r
def uptoBulkEntries {H : Type} : List (Lit × DataW H) → Nat
  | [] => 0
  | x :: r => uptoBulkEntry x + uptoBulkEntries r
def uptoBulkEntry {H : Type} : Lit × DataW H → Nat
  | (.string bytes, d) => bytes.length + uptoBulk d + 1
  | (_, d) => uptoBulk d + 1
 end
def uptoSmall : (H : Type) → List (DataW H) → Bool := fun _ ds => decide (uptoBulkAll ds ≤ 1048576)
def OpenSpec.upto (s : _root_.Go.ChangeSpec) : _root_.Go.OpenSpec := { _root_.Go.OpenSpec.ofChange s with cond := some uptoSmall }

/-- 'coterielaw14.WireBytes', WHERE WHAT IT READS IS OF BULK AT MOST 1048576: true; the input reads as it did. -/
def wireBytesUptoRow : OpenClaim := { program := "ytlbdnkkaacccoaa", sum := "daf1530c330e0458d8dae9bf1a74a7738a2531fa9a8ed0a47b08aebd44b6c2f7", func := "coterie/coterielaw14.WireBytes", spec := "wireBytes", unfollowed := true, recurses := true, apart := false, narrowed := true }
def WireBytesUptoSaid : Prop := wireBytesUptoRow.holds Try.pinned (OpenSpec.upto wireBytesSpec)

/-- 'coterielaw14.WireBack', WHERE WHAT IT READS IS OF BULK AT MOST 1048576: true; the input reads as it did. -/
def wireBackUptoRow : OpenClaim := { program := "ytlbdnkkaacccoaa", sum := "daf1530c330e0458d8dae9bf1a74a7738a2531fa9a8ed0a47b08aebd44b6c2f7", func := "coterie/coterielaw14.WireBack", spec := "wireBack", unfollowed := true, recurses := true, apart := false, narrowed := true }
def WireBackUptoSaid : Prop := wireBackUptoRow.holds Try.pinned (OpenSpec.upto wireBackSpec)

/-- 'coterielaw14.WireWhole', WHERE WHAT IT READS IS OF BULK AT MOST 1048576: true; the input reads as it did. -/
def wireWholeUptoRow : OpenClaim := { program := "ytlbdnkkaacccoaa", sum := "daf1530c330e0458d8dae9bf1a74a7738a2531fa9a8ed0a47b08aebd44b6c2f7", func := "coterie/coterielaw14.WireWhole", spec := "wireWhole", unfollowed := true, recurses := true, apart := false, narrowed := true }
def WireWholeUptoSaid : Prop := wireWholeUptoRow.holds Try.pinned (OpenSpec.upto wireWholeSpec)

/-- 'coterielaw14.WireUnlike', WHERE WHAT IT READS IS OF BULK AT MOST 1048576: true; the input reads as it did. -/
def wireUnlikeUptoRow : OpenClaim := { program := "ytlbdnkkaacccoaa", sum := "daf1530c330e0458d8dae9bf1a74a7738a2531fa9a8ed0a47b08aebd44b6c2f7", func := "coterie/coterielaw14.WireUnlike", spec := "wireUnlike", unfollowed := true, recurses := true, apart := false, narrowed := true }
def WireUnlikeUptoSaid : Prop := wireUnlikeUptoRow.holds Try.pinned (OpenSpec.upto wireUnlikeSpec)

/-- 'coterielaw14.WireMemory', WHERE WHAT IT READS IS OF BULK AT MOST 1048576: true; the input reads as it did. -/
def wireMemoryUptoRow : OpenClaim := { program := "ytlbdnkkaacccoaa", sum := "daf1530c330e0458d8dae9bf1a74a7738a2531fa9a8ed0a47b08aebd44b6c2f7", func := "coterie/coterielaw14.WireMemory", spec := "wireMemory", unfollowed := true, recurses := true, apart := false, narrowed := true }
def WireMemoryUptoSaid : Prop := wireMemoryUptoRow.holds Try.pinned (OpenSpec.upto wireMemorySpec)

end Rows
end Go.Proofs.Ytlbdnkkaacccoaa
