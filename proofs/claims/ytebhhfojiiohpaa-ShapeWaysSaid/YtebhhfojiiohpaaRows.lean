/-
  No cell of these rows narrows 'for every input' (looked for: loops, veiled, ifaces, maps, wideKeys, modest, calm, conditions, laid).
  DERIVED. THE GIVEN ROWS OF THIS SEAT. 7 by the template 'for every input the law returns true; each argument reads behind the call as it read before'; 0 by the template 'total and deterministic' (their statements: YtebhhfojiiohpaaTotals.lean).
  GIVEN WITH THE SEED: the statements are not yours to turn. If you find one false, say at which input.
  Laid BY PROGRAM, IN A SANDBOX (cutbox-rows.mjs): the forced cells as the released guide's own fill.sh prints them over the translation 94872fe7c9fbb1a2… (all of the seat's roots in one cut). By AI agents, Wed Nov 11 2026. No macro, syntax, notation, axiom, sorry.
-/
import Derived.Test.YtebhhfojiiohpaaChecked
import GoSem.Claim
import GoSem.ClaimJoined
import GoSem.ClaimMapViews
import Derived.JoinedTies
import Derived.KernelRfl
namespace Go.Proofs.Ytebhhfojiiohpaa
/- THE CELL 'sum', in the pinned program and in every row, IS THE sha256 OF THE DUMP (.gsa) THAT YtebhhfojiiohpaaProg.lean LOADS. Nothing in Lean hashes anything: it is a label: what it is worth is what the hold of that sum in a sandbox is worth. -/
noncomputable def Try.pinned : Pinned := { name := "ytebhhfojiiohpaa", sum := "94872fe7c9fbb1a2ef25d93a550380e33c703bca2870ad2c3e7b10719c78d140", checked := Try.checked }
namespace Rows
def none {H : Type} : Left H := { results := [], args := [] }

/-- 'coterielaw01.ShapeMasks': WHATEVER THE INPUT: true; the input reads as it did. -/
def shapeMasksSpec : ChangeSpec := { name := "shapeMasks", fn := fun _ => fun
  | [d1, d2] => { results := [.lit (.bool true)], args := [d1, d2] }
  | _ => none }
def shapeMasksRow : OpenClaim := { program := "ytebhhfojiiohpaa", sum := "94872fe7c9fbb1a2ef25d93a550380e33c703bca2870ad2c3e7b10719c78d140", func := "coterie/coterielaw01.ShapeMasks", spec := "shapeMasks", apart := false }
def ShapeMasksSaid : Prop := shapeMasksRow.holds Try.pinned (OpenSpec.ofChange shapeMasksSpec)

/-- ITS FALSE NEIGHBOUR: 'it returns false'. Refute it at one input. -/
def shapeMasksWrong : ChangeSpec := { name := "shapeMasks", fn := fun _ => fun
  | [d1, d2] => { results := [.lit (.bool false)], args := [d1, d2] }
  | _ => none }
def ShapeMasksWrongFalsely : Prop := shapeMasksRow.holds Try.pinned (OpenSpec.ofChange shapeMasksWrong)

/-- 'coterielaw01.ShapeMeets': WHATEVER THE INPUT: true; the input reads as it did. -/
def shapeMeetsSpec : ChangeSpec := { name := "shapeMeets", fn := fun _ => fun
  | [d1, d2] => { results := [.lit (.bool true)], args := [d1, d2] }
  | _ => none }
def shapeMeetsRow : OpenClaim := { program := "ytebhhfojiiohpaa", sum := "94872fe7c9fbb1a2ef25d93a550380e33c703bca2870ad2c3e7b10719c78d140", func := "coterie/coterielaw01.ShapeMeets", spec := "shapeMeets", apart := false }
def ShapeMeetsSaid : Prop := shapeMeetsRow.holds Try.pinned (OpenSpec.ofChange shapeMeetsSpec)

/-- ITS FALSE NEIGHBOUR: 'it returns false'. Refute it at one input. -/
def shapeMeetsWrong : ChangeSpec := { name := "shapeMeets", fn := fun _ => fun
  | [d1, d2] => { results := [.lit (.bool false)], args := [d1, d2] }
  | _ => none }
def ShapeMeetsWrongFalsely : Prop := shapeMeetsRow.holds Try.pinned (OpenSpec.ofChange shapeMeetsWrong)

/-- 'coterielaw01.ShapeParts': WHATEVER THE INPUT: true; the input reads as it did. -/
def shapePartsSpec : ChangeSpec := { name := "shapeParts", fn := fun _ => fun
  | [d1, d2] => { results := [.lit (.bool true)], args := [d1, d2] }
  | _ => none }
def shapePartsRow : OpenClaim := { program := "ytebhhfojiiohpaa", sum := "94872fe7c9fbb1a2ef25d93a550380e33c703bca2870ad2c3e7b10719c78d140", func := "coterie/coterielaw01.ShapeParts", spec := "shapeParts", apart := false }
def ShapePartsSaid : Prop := shapePartsRow.holds Try.pinned (OpenSpec.ofChange shapePartsSpec)

/-- ITS FALSE NEIGHBOUR: 'it returns false'. Refute it at one input. -/
def shapePartsWrong : ChangeSpec := { name := "shapeParts", fn := fun _ => fun
  | [d1, d2] => { results := [.lit (.bool false)], args := [d1, d2] }
  | _ => none }
def ShapePartsWrongFalsely : Prop := shapePartsRow.holds Try.pinned (OpenSpec.ofChange shapePartsWrong)

/-- 'coterielaw01.ShapeNodes': WHATEVER THE INPUT: true; the input reads as it did. -/
def shapeNodesSpec : ChangeSpec := { name := "shapeNodes", fn := fun _ => fun
  | [d1, d2] => { results := [.lit (.bool true)], args := [d1, d2] }
  | _ => none }
def shapeNodesRow : OpenClaim := { program := "ytebhhfojiiohpaa", sum := "94872fe7c9fbb1a2ef25d93a550380e33c703bca2870ad2c3e7b10719c78d140", func := "coterie/coterielaw01.ShapeNodes", spec := "shapeNodes", apart := false }
def ShapeNodesSaid : Prop := shapeNodesRow.holds Try.pinned (OpenSpec.ofChange shapeNodesSpec)

/-- ITS FALSE NEIGHBOUR: 'it returns false'. Refute it at one input. -/
def shapeNodesWrong : ChangeSpec := { name := "shapeNodes", fn := fun _ => fun
  | [d1, d2] => { results := [.lit (.bool false)], args := [d1, d2] }
  | _ => none }
def ShapeNodesWrongFalsely : Prop := shapeNodesRow.holds Try.pinned (OpenSpec.ofChange shapeNodesWrong)

/-- 'coterielaw01.ShapeFamily': WHATEVER THE INPUT: true; the input reads as it did. -/
def shapeFamilySpec : ChangeSpec := { name := "shapeFamily", fn := fun _ => fun
  | [d1, d2] => { results := [.lit (.bool true)], args := [d1, d2] }
  | _ => none }
def shapeFamilyRow : OpenClaim := { program := "ytebhhfojiiohpaa", sum := "94872fe7c9fbb1a2ef25d93a550380e33c703bca2870ad2c3e7b10719c78d140", func := "coterie/coterielaw01.ShapeFamily", spec := "shapeFamily", apart := false }
def ShapeFamilySaid : Prop := shapeFamilyRow.holds Try.pinned (OpenSpec.ofChange shapeFamilySpec)

/-- ITS FALSE NEIGHBOUR: 'it returns false'. Refute it at one input. -/
def shapeFamilyWrong : ChangeSpec := { name := "shapeFamily", fn := fun _ => fun
  | [d1, d2] => { results := [.lit (.bool false)], args := [d1, d2] }
  | _ => none }
def ShapeFamilyWrongFalsely : Prop := shapeFamilyRow.holds Try.pinned (OpenSpec.ofChange shapeFamilyWrong)

/-- 'coterielaw01.ShapePaths': WHATEVER THE INPUT: true; the input reads as it did. -/
def shapePathsSpec : ChangeSpec := { name := "shapePaths", fn := fun _ => fun
  | [d1, d2] => { results := [.lit (.bool true)], args := [d1, d2] }
  | _ => none }
def shapePathsRow : OpenClaim := { program := "ytebhhfojiiohpaa", sum := "94872fe7c9fbb1a2ef25d93a550380e33c703bca2870ad2c3e7b10719c78d140", func := "coterie/coterielaw01.ShapePaths", spec := "shapePaths", apart := false }
def ShapePathsSaid : Prop := shapePathsRow.holds Try.pinned (OpenSpec.ofChange shapePathsSpec)

/-- ITS FALSE NEIGHBOUR: 'it returns false'. Refute it at one input. -/
def shapePathsWrong : ChangeSpec := { name := "shapePaths", fn := fun _ => fun
  | [d1, d2] => { results := [.lit (.bool false)], args := [d1, d2] }
  | _ => none }
def ShapePathsWrongFalsely : Prop := shapePathsRow.holds Try.pinned (OpenSpec.ofChange shapePathsWrong)

/-- 'coterielaw01.ShapeWays': WHATEVER THE INPUT: true; the input reads as it did. -/
def shapeWaysSpec : ChangeSpec := { name := "shapeWays", fn := fun _ => fun
  | [d] => { results := [.lit (.bool true)], args := [d] }
  | _ => none }
def shapeWaysRow : OpenClaim := { program := "ytebhhfojiiohpaa", sum := "94872fe7c9fbb1a2ef25d93a550380e33c703bca2870ad2c3e7b10719c78d140", func := "coterie/coterielaw01.ShapeWays", spec := "shapeWays", apart := false }
def ShapeWaysSaid : Prop := shapeWaysRow.holds Try.pinned (OpenSpec.ofChange shapeWaysSpec)

/-- ITS FALSE NEIGHBOUR: 'it returns false'. Refute it at one input. -/
def shapeWaysWrong : ChangeSpec := { name := "shapeWays", fn := fun _ => fun
  | [d] => { results := [.lit (.bool false)], args := [d] }
  | _ => none }
def ShapeWaysWrongFalsely : Prop := shapeWaysRow.holds Try.pinned (OpenSpec.ofChange shapeWaysWrong)

/- THE SECOND FORM. 'bulk': how many values and letters a reading holds, each counted each time it is reached (what is shared counts as often as it is met; a slice's spare places count too). A statement '..UptoSaid' is the law's where the arguments, and the package variables that the reading takes, are together of bulk at most 1048576: NARROWER than '..Said'. Prove '..Said' where nothing that the law and all that it calls make is longer than what came in: it says more and counts as full. Else prove '..UptoSaid'. A law counts once. -/
mutual
def uptoBulk {H : Type} : DataW H → Nat
  | .lit (.string bytes) => bytes.length + 1
  | .lit _ => 1
  | .nil => 1
  | .ptr d => uptoBulk d + 1
  | .slice elems spare => uptoBulkAll elems + uptoBulkAll spare + 1
  | .agg parts => uptoBulkAll parts + 1
  | .iface _ d => uptoBulk d + 1
  | .map entries => uptoBulkEntries entries + 1
  | .held _ => 1
def uptoBulkAll {H : Type} : List (DataW H) → Nat
  | [] => 0
  | d :: r => uptoBulk d + uptoBulkAll r
def uptoBulkEntries {H : Type} : List (Lit × DataW H) → Nat
  | [] => 0
  | x :: r => uptoBulkEntry x + uptoBulkEntries r
def uptoBulkEntry {H : Type} : Lit × DataW H → Nat
  | (.string bytes, d) => bytes.length + uptoBulk d + 1
  | (_, d) => uptoBulk d + 1
 end
def uptoSmall : (H : Type) → List (DataW H) → Bool := fun _ ds => decide (uptoBulkAll ds ≤ 1048576)
def OpenSpec.upto (s : _root_.Go.ChangeSpec) : _root_.Go.OpenSpec := { _root_.Go.OpenSpec.ofChange s with cond := some uptoSmall }

/-- 'coterielaw01.ShapeMasks', WHERE WHAT IT READS IS OF BULK AT MOST 1048576: true; the input reads as it did. -/
def shapeMasksUptoRow : OpenClaim := { program := "ytebhhfojiiohpaa", sum := "94872fe7c9fbb1a2ef25d93a550380e33c703bca2870ad2c3e7b10719c78d140", func := "coterie/coterielaw01.ShapeMasks", spec := "shapeMasks", apart := false, narrowed := true }
def ShapeMasksUptoSaid : Prop := shapeMasksUptoRow.holds Try.pinned (OpenSpec.upto shapeMasksSpec)

/-- 'coterielaw01.ShapeMeets', WHERE WHAT IT READS IS OF BULK AT MOST 1048576: true; the input reads as it did. -/
def shapeMeetsUptoRow : OpenClaim := { program := "ytebhhfojiiohpaa", sum := "94872fe7c9fbb1a2ef25d93a550380e33c703bca2870ad2c3e7b10719c78d140", func := "coterie/coterielaw01.ShapeMeets", spec := "shapeMeets", apart := false, narrowed := true }
def ShapeMeetsUptoSaid : Prop := shapeMeetsUptoRow.holds Try.pinned (OpenSpec.upto shapeMeetsSpec)

/-- 'coterielaw01.ShapeParts', WHERE WHAT IT READS IS OF BULK AT MOST 1048576: true; the input reads as it did. -/
def shapePartsUptoRow : OpenClaim := { program := "ytebhhfojiiohpaa", sum := "94872fe7c9fbb1a2ef25d93a550380e33c703bca2870ad2c3e7b10719c78d140", func := "coterie/coterielaw01.ShapeParts", spec := "shapeParts", apart := false, narrowed := true }
def ShapePartsUptoSaid : Prop := shapePartsUptoRow.holds Try.pinned (OpenSpec.upto shapePartsSpec)

/-- 'coterielaw01.ShapeNodes', WHERE WHAT IT READS IS OF BULK AT MOST 1048576: true; the input reads as it did. -/
def shapeNodesUptoRow : OpenClaim := { program := "ytebhhfojiiohpaa", sum := "94872fe7c9fbb1a2ef25d93a550380e33c703bca2870ad2c3e7b10719c78d140", func := "coterie/coterielaw01.ShapeNodes", spec := "shapeNodes", apart := false, narrowed := true }
def ShapeNodesUptoSaid : Prop := shapeNodesUptoRow.holds Try.pinned (OpenSpec.upto shapeNodesSpec)

/-- 'coterielaw01.ShapeFamily', WHERE WHAT IT READS IS OF BULK AT MOST 1048576: true; the input reads as it did. -/
def shapeFamilyUptoRow : OpenClaim := { program := "ytebhhfojiiohpaa", sum := "94872fe7c9fbb1a2ef25d93a550380e33c703bca2870ad2c3e7b10719c78d140", func := "coterie/coterielaw01.ShapeFamily", spec := "shapeFamily", apart := false, narrowed := true }
def ShapeFamilyUptoSaid : Prop := shapeFamilyUptoRow.holds Try.pinned (OpenSpec.upto shapeFamilySpec)

/-- 'coterielaw01.ShapePaths', WHERE WHAT IT READS IS OF BULK AT MOST 1048576: true; the input reads as it did. -/
def shapePathsUptoRow : OpenClaim := { program := "ytebhhfojiiohpaa", sum := "94872fe7c9fbb1a2ef25d93a550380e33c703bca2870ad2c3e7b10719c78d140", func := "coterie/coterielaw01.ShapePaths", spec := "shapePaths", apart := false, narrowed := true }
def ShapePathsUptoSaid : Prop := shapePathsUptoRow.holds Try.pinned (OpenSpec.upto shapePathsSpec)

/-- 'coterielaw01.ShapeWays', WHERE WHAT IT READS IS OF BULK AT MOST 1048576: true; the input reads as it did. -/
def shapeWaysUptoRow : OpenClaim := { program := "ytebhhfojiiohpaa", sum := "94872fe7c9fbb1a2ef25d93a550380e33c703bca2870ad2c3e7b10719c78d140", func := "coterie/coterielaw01.ShapeWays", spec := "shapeWays", apart := false, narrowed := true }
def ShapeWaysUptoSaid : Prop := shapeWaysUptoRow.holds Try.pinned (OpenSpec.upto shapeWaysSpec)

end Rows
end Go.Proofs.Ytebhhfojiiohpaa
