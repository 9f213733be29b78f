/-
  No cell of these rows narrows 'for every input' (looked for: loops, veiled, ifaces, maps, wideKeys, modest, calm, conditions, laid).
  DERIVED. THE GIVEN ROWS OF THIS SEAT. 6 by the template 'for every input the law returns true; each argument reads behind the call as it read before'; 0 by the template 'total and deterministic' (their statements: YtphnpchblkpjhaaTotals.lean).
  GIVEN WITH THE SEED: the statements are not yours to turn. If you find one false, say at which input.
  Laid BY PROGRAM, IN A SANDBOX (cutbox-rows.mjs): the forced cells as the released guide's own fill.sh prints them over the translation 0527c57da51b3f9a… (all of the seat's roots in one cut). By AI agents, Wed Nov 11 2026. No macro, syntax, notation, axiom, sorry.
-/
import Derived.Test.YtphnpchblkpjhaaChecked
import GoSem.Claim
import GoSem.ClaimJoined
import GoSem.ClaimMapViews
import Derived.JoinedTies
import Derived.KernelRfl
namespace Go.Proofs.Ytphnpchblkpjhaa
/- THE CELL 'sum', in the pinned program and in every row, IS THE sha256 OF THE DUMP (.gsa) THAT YtphnpchblkpjhaaProg.lean LOADS. Nothing in Lean hashes anything: it is a label: what it is worth is what the hold of that sum in a sandbox is worth. -/
noncomputable def Try.pinned : Pinned := { name := "ytphnpchblkpjhaa", sum := "0527c57da51b3f9aa2582df69566ada2b9364ec8f90268214ad117901a57b2a4", checked := Try.checked }
namespace Rows
def none {H : Type} : Left H := { results := [], args := [] }

/-- 'coterielaw06.FramePacks': WHATEVER THE INPUT: true; the input reads as it did. -/
def framePacksSpec : ChangeSpec := { name := "framePacks", fn := fun _ => fun
  | [d1, d2] => { results := [.lit (.bool true)], args := [d1, d2] }
  | _ => none }
def framePacksRow : OpenClaim := { program := "ytphnpchblkpjhaa", sum := "0527c57da51b3f9aa2582df69566ada2b9364ec8f90268214ad117901a57b2a4", func := "coterie/coterielaw06.FramePacks", spec := "framePacks", inPlace := ["internal/abi.NoEscape", "internal/bytealg.MakeNoZero"], apart := false }
def FramePacksSaid : Prop := framePacksRow.holds Try.pinned (OpenSpec.ofChange framePacksSpec)

/-- ITS FALSE NEIGHBOUR: 'it returns false'. Refute it at one input. -/
def framePacksWrong : ChangeSpec := { name := "framePacks", fn := fun _ => fun
  | [d1, d2] => { results := [.lit (.bool false)], args := [d1, d2] }
  | _ => none }
def FramePacksWrongFalsely : Prop := framePacksRow.holds Try.pinned (OpenSpec.ofChange framePacksWrong)

/-- 'coterielaw06.FrameWholes': WHATEVER THE INPUT: true; the input reads as it did. -/
def frameWholesSpec : ChangeSpec := { name := "frameWholes", fn := fun _ => fun
  | [d] => { results := [.lit (.bool true)], args := [d] }
  | _ => none }
def frameWholesRow : OpenClaim := { program := "ytphnpchblkpjhaa", sum := "0527c57da51b3f9aa2582df69566ada2b9364ec8f90268214ad117901a57b2a4", func := "coterie/coterielaw06.FrameWholes", spec := "frameWholes", inPlace := ["internal/abi.NoEscape", "internal/bytealg.MakeNoZero"], apart := false }
def FrameWholesSaid : Prop := frameWholesRow.holds Try.pinned (OpenSpec.ofChange frameWholesSpec)

/-- ITS FALSE NEIGHBOUR: 'it returns false'. Refute it at one input. -/
def frameWholesWrong : ChangeSpec := { name := "frameWholes", fn := fun _ => fun
  | [d] => { results := [.lit (.bool false)], args := [d] }
  | _ => none }
def FrameWholesWrongFalsely : Prop := frameWholesRow.holds Try.pinned (OpenSpec.ofChange frameWholesWrong)

/-- 'coterielaw06.FrameBlocks': WHATEVER THE INPUT: true; the input reads as it did. -/
def frameBlocksSpec : ChangeSpec := { name := "frameBlocks", fn := fun _ => fun
  | [d1, d2, d3] => { results := [.lit (.bool true)], args := [d1, d2, d3] }
  | _ => none }
def frameBlocksRow : OpenClaim := { program := "ytphnpchblkpjhaa", sum := "0527c57da51b3f9aa2582df69566ada2b9364ec8f90268214ad117901a57b2a4", func := "coterie/coterielaw06.FrameBlocks", spec := "frameBlocks", inPlace := ["internal/abi.NoEscape", "internal/bytealg.MakeNoZero"], apart := false }
def FrameBlocksSaid : Prop := frameBlocksRow.holds Try.pinned (OpenSpec.ofChange frameBlocksSpec)

/-- ITS FALSE NEIGHBOUR: 'it returns false'. Refute it at one input. -/
def frameBlocksWrong : ChangeSpec := { name := "frameBlocks", fn := fun _ => fun
  | [d1, d2, d3] => { results := [.lit (.bool false)], args := [d1, d2, d3] }
  | _ => none }
def FrameBlocksWrongFalsely : Prop := frameBlocksRow.holds Try.pinned (OpenSpec.ofChange frameBlocksWrong)

/-- 'coterielaw06.FrameTurned': WHATEVER THE INPUT: true; the input reads as it did. -/
def frameTurnedSpec : ChangeSpec := { name := "frameTurned", fn := fun _ => fun
  | [d1, d2, d3] => { results := [.lit (.bool true)], args := [d1, d2, d3] }
  | _ => none }
def frameTurnedRow : OpenClaim := { program := "ytphnpchblkpjhaa", sum := "0527c57da51b3f9aa2582df69566ada2b9364ec8f90268214ad117901a57b2a4", func := "coterie/coterielaw06.FrameTurned", spec := "frameTurned", inPlace := ["internal/abi.NoEscape", "internal/bytealg.MakeNoZero"], apart := false }
def FrameTurnedSaid : Prop := frameTurnedRow.holds Try.pinned (OpenSpec.ofChange frameTurnedSpec)

/-- ITS FALSE NEIGHBOUR: 'it returns false'. Refute it at one input. -/
def frameTurnedWrong : ChangeSpec := { name := "frameTurned", fn := fun _ => fun
  | [d1, d2, d3] => { results := [.lit (.bool false)], args := [d1, d2, d3] }
  | _ => none }
def FrameTurnedWrongFalsely : Prop := frameTurnedRow.holds Try.pinned (OpenSpec.ofChange frameTurnedWrong)

/-- 'coterielaw06.FrameBack': WHATEVER THE INPUT: true; the input reads as it did. -/
def frameBackSpec : ChangeSpec := { name := "frameBack", fn := fun _ => fun
  | [d1, d2] => { results := [.lit (.bool true)], args := [d1, d2] }
  | _ => none }
def frameBackRow : OpenClaim := { program := "ytphnpchblkpjhaa", sum := "0527c57da51b3f9aa2582df69566ada2b9364ec8f90268214ad117901a57b2a4", func := "coterie/coterielaw06.FrameBack", spec := "frameBack", inPlace := ["internal/abi.NoEscape", "internal/bytealg.MakeNoZero"], apart := false }
def FrameBackSaid : Prop := frameBackRow.holds Try.pinned (OpenSpec.ofChange frameBackSpec)

/-- ITS FALSE NEIGHBOUR: 'it returns false'. Refute it at one input. -/
def frameBackWrong : ChangeSpec := { name := "frameBack", fn := fun _ => fun
  | [d1, d2] => { results := [.lit (.bool false)], args := [d1, d2] }
  | _ => none }
def FrameBackWrongFalsely : Prop := frameBackRow.holds Try.pinned (OpenSpec.ofChange frameBackWrong)

/-- 'coterielaw06.FrameBroken': WHATEVER THE INPUT: true; the input reads as it did. -/
def frameBrokenSpec : ChangeSpec := { name := "frameBroken", fn := fun _ => fun
  | [d1, d2, d3] => { results := [.lit (.bool true)], args := [d1, d2, d3] }
  | _ => none }
def frameBrokenRow : OpenClaim := { program := "ytphnpchblkpjhaa", sum := "0527c57da51b3f9aa2582df69566ada2b9364ec8f90268214ad117901a57b2a4", func := "coterie/coterielaw06.FrameBroken", spec := "frameBroken", inPlace := ["internal/abi.NoEscape", "internal/bytealg.MakeNoZero"], apart := false }
def FrameBrokenSaid : Prop := frameBrokenRow.holds Try.pinned (OpenSpec.ofChange frameBrokenSpec)

/-- ITS FALSE NEIGHBOUR: 'it returns false'. Refute it at one input. -/
def frameBrokenWrong : ChangeSpec := { name := "frameBroken", fn := fun _ => fun
  | [d1, d2, d3] => { results := [.lit (.bool false)], args := [d1, d2, d3] }
  | _ => none }
def FrameBrokenWrongFalsely : Prop := frameBrokenRow.holds Try.pinned (OpenSpec.ofChange frameBrokenWrong)

/- THE SECOND FORM. 'bulk': how many values and letters a reading holds, each counted each time it is reached (what is shared counts as often as it is met; a slice's spare places count too). A statement '..UptoSaid' is the law's where the arguments, and the package variables that the reading takes, are together of bulk at most 1048576: NARROWER than '..Said'. Prove '..Said' where nothing that the law and all that it calls make is longer than what came in: it says more and counts as full. Else prove '..UptoSaid'. A law counts once. -/
mutual
def uptoBulk {H : Type} : DataW H → Nat
  | .lit (.string bytes) => bytes.length + 1
  | .lit _ => 1
  | .nil => 1
  | .ptr d => uptoBulk d + 1
  | .slice elems spare => uptoBulkAll elems + uptoBulkAll spare + 1
  | .agg parts => uptoBulkAll parts + 1
  | .iface _ d => uptoBulk d + 1
  | .map entries => uptoBulkEntries entries + 1
  | .held _ => 1
def uptoBulkAll {H : Type} : List (DataW H) → Nat
  | [] => 0
  | d :: r => uptoBulk d + uptoBulkAll r
def uptoBulkEntries {H : Type} : List (Lit × DataW H) → Nat
  | [] => 0
  | x :: r => uptoBulkEntry x + uptoBulkEntries r
def uptoBulkEntry {H : Type} : Lit × DataW H → Nat
  | (.string bytes, d) => bytes.length + uptoBulk d + 1
  | (_, d) => uptoBulk d + 1
 end
def uptoSmall : (H : Type) → List (DataW H) → Bool := fun _ ds => decide (uptoBulkAll ds ≤ 1048576)
def OpenSpec.upto (s : _root_.Go.ChangeSpec) : _root_.Go.OpenSpec := { _root_.Go.OpenSpec.ofChange s with cond := some uptoSmall }

/-- 'coterielaw06.FramePacks', WHERE WHAT IT READS IS OF BULK AT MOST 1048576: true; the input reads as it did. -/
def framePacksUptoRow : OpenClaim := { program := "ytphnpchblkpjhaa", sum := "0527c57da51b3f9aa2582df69566ada2b9364ec8f90268214ad117901a57b2a4", func := "coterie/coterielaw06.FramePacks", spec := "framePacks", inPlace := ["internal/abi.NoEscape", "internal/bytealg.MakeNoZero"], apart := false, narrowed := true }
def FramePacksUptoSaid : Prop := framePacksUptoRow.holds Try.pinned (OpenSpec.upto framePacksSpec)

/-- 'coterielaw06.FrameWholes', WHERE WHAT IT READS IS OF BULK AT MOST 1048576: true; the input reads as it did. -/
def frameWholesUptoRow : OpenClaim := { program := "ytphnpchblkpjhaa", sum := "0527c57da51b3f9aa2582df69566ada2b9364ec8f90268214ad117901a57b2a4", func := "coterie/coterielaw06.FrameWholes", spec := "frameWholes", inPlace := ["internal/abi.NoEscape", "internal/bytealg.MakeNoZero"], apart := false, narrowed := true }
def FrameWholesUptoSaid : Prop := frameWholesUptoRow.holds Try.pinned (OpenSpec.upto frameWholesSpec)

/-- 'coterielaw06.FrameBlocks', WHERE WHAT IT READS IS OF BULK AT MOST 1048576: true; the input reads as it did. -/
def frameBlocksUptoRow : OpenClaim := { program := "ytphnpchblkpjhaa", sum := "0527c57da51b3f9aa2582df69566ada2b9364ec8f90268214ad117901a57b2a4", func := "coterie/coterielaw06.FrameBlocks", spec := "frameBlocks", inPlace := ["internal/abi.NoEscape", "internal/bytealg.MakeNoZero"], apart := false, narrowed := true }
def FrameBlocksUptoSaid : Prop := frameBlocksUptoRow.holds Try.pinned (OpenSpec.upto frameBlocksSpec)

/-- 'coterielaw06.FrameTurned', WHERE WHAT IT READS IS OF BULK AT MOST 1048576: true; the input reads as it did. -/
def frameTurnedUptoRow : OpenClaim := { program := "ytphnpchblkpjhaa", sum := "0527c57da51b3f9aa2582df69566ada2b9364ec8f90268214ad117901a57b2a4", func := "coterie/coterielaw06.FrameTurned", spec := "frameTurned", inPlace := ["internal/abi.NoEscape", "internal/bytealg.MakeNoZero"], apart := false, narrowed := true }
def FrameTurnedUptoSaid : Prop := frameTurnedUptoRow.holds Try.pinned (OpenSpec.upto frameTurnedSpec)

/-- 'coterielaw06.FrameBack', WHERE WHAT IT READS IS OF BULK AT MOST 1048576: true; the input reads as it did. -/
def frameBackUptoRow : OpenClaim := { program := "ytphnpchblkpjhaa", sum := "0527c57da51b3f9aa2582df69566ada2b9364ec8f90268214ad117901a57b2a4", func := "coterie/coterielaw06.FrameBack", spec := "frameBack", inPlace := ["internal/abi.NoEscape", "internal/bytealg.MakeNoZero"], apart := false, narrowed := true }
def FrameBackUptoSaid : Prop := frameBackUptoRow.holds Try.pinned (OpenSpec.upto frameBackSpec)

/-- 'coterielaw06.FrameBroken', WHERE WHAT IT READS IS OF BULK AT MOST 1048576: true; the input reads as it did. -/
def frameBrokenUptoRow : OpenClaim := { program := "ytphnpchblkpjhaa", sum := "0527c57da51b3f9aa2582df69566ada2b9364ec8f90268214ad117901a57b2a4", func := "coterie/coterielaw06.FrameBroken", spec := "frameBroken", inPlace := ["internal/abi.NoEscape", "internal/bytealg.MakeNoZero"], apart := false, narrowed := true }
def FrameBrokenUptoSaid : Prop := frameBrokenUptoRow.holds Try.pinned (OpenSpec.upto frameBrokenSpec)

end Rows
end Go.Proofs.Ytphnpchblkpjhaa
