/- The library's contracts, laid at this program by the kit's tool. -/
import Derived.Shelf.Strings.Builder1
import Derived.Shelf.Strings.Builder2
import Derived.Shelf.Strings.BuilderF
import Derived.Shelf.Strings.Prefix
import Derived.Shelf.Bits.Mul64
import Derived.Shelf.Strings.Repeat
import Derived.Test.YtigbpmiemlejaaaDoorProg
namespace Go.Proofs
open Go.Shelf
def Tryd.lays105_ren : Go.Shelf.Ren := ⟨fun | 105 => 21 | 212 => 23 | 99 => 24 | 165 => 25 | 166 => 26 | 170 => 27 | 169 => 28 | 263 => 33 | 264 => 34 | 206 => 35 | 240 => 36 | 241 => 37 | 276 => 43 | 277 => 44 | n => n, fun | 9 => 9 | 3 => 3 | 4 => 4 | 20 => 20 | 0 => 0 | 46 => 30 | 109 => 42 | 5 => 5 | 72 => 47 | 76 => 51 | 51 => 22 | 146 => 61 | 53 => 40 | 148 => 63 | 70 => 45 | 37 => 27 | 75 => 50 | 127 => 65 | 164 => 72 | 80 => 54 | n => n, fun | n => n⟩
theorem Tryd.lays105 : Go.Proofs.Lays.n105 Tryd.prog Tryd.lays105_ren := {
  mixed := by kernel_rfl
  f99 := Tryd.func24.trans (congrArg some (by kernel_rfl))
  f105 := Tryd.func21.trans (congrArg some (by kernel_rfl))
  f165 := Tryd.func25.trans (congrArg some (by kernel_rfl))
  f166 := Tryd.func26.trans (congrArg some (by kernel_rfl))
  f169 := Tryd.func28.trans (congrArg some (by kernel_rfl))
  f170 := Tryd.func27.trans (congrArg some (by kernel_rfl))
  f206 := Tryd.func35.trans (congrArg some (by kernel_rfl))
  f212 := Tryd.func23.trans (congrArg some (by kernel_rfl))
  f240 := Tryd.func36.trans (congrArg some (by kernel_rfl))
  f241 := Tryd.func37.trans (congrArg some (by kernel_rfl))
  f263 := Tryd.func33.trans (congrArg some (by kernel_rfl))
  f264 := Tryd.func34.trans (congrArg some (by kernel_rfl))
  f276 := Tryd.func43.trans (congrArg some (by kernel_rfl))
  f277 := Tryd.func44.trans (congrArg some (by kernel_rfl))
  t0 := Tryd.underlying0
  a0 := Tryd.isAgg0
  z0 := Tryd.sizeOf0
  v0 := Tryd.zeroValue0
  t3 := Tryd.underlying3
  a3 := Tryd.isAgg3
  z3 := Tryd.sizeOf3
  v3 := Tryd.zeroValue3
  t4 := Tryd.underlying4
  a4 := Tryd.isAgg4
  z4 := Tryd.sizeOf4
  v4 := Tryd.zeroValue4
  t5 := Tryd.underlying5
  a5 := Tryd.isAgg5
  z5 := Tryd.sizeOf5
  v5 := Tryd.zeroValue5
  t9 := Tryd.underlying9
  a9 := Tryd.isAgg9
  z9 := Tryd.sizeOf9
  v9 := Tryd.zeroValue9
  t20 := Tryd.underlying20
  a20 := Tryd.isAgg20
  z20 := Tryd.sizeOf20
  v20 := Tryd.zeroValue20
  t37 := Tryd.underlying27
  a37 := Tryd.isAgg27
  z37 := Tryd.sizeOf27
  v37 := Tryd.zeroValue27
  t46 := Tryd.underlying30
  a46 := Tryd.isAgg30
  z46 := Tryd.sizeOf30
  v46 := Tryd.zeroValue30
  t51 := Tryd.underlying22
  a51 := Tryd.isAgg22
  z51 := Tryd.sizeOf22
  v51 := Tryd.zeroValue22
  t53 := Tryd.underlying40
  a53 := Tryd.isAgg40
  z53 := Tryd.sizeOf40
  v53 := Tryd.zeroValue40
  t70 := Tryd.underlying45
  a70 := Tryd.isAgg45
  z70 := Tryd.sizeOf45
  v70 := Tryd.zeroValue45
  t72 := Tryd.underlying47
  a72 := Tryd.isAgg47
  z72 := Tryd.sizeOf47
  v72 := Tryd.zeroValue47
  t75 := Tryd.underlying50
  a75 := Tryd.isAgg50
  z75 := Tryd.sizeOf50
  v75 := Tryd.zeroValue50
  t76 := Tryd.underlying51
  a76 := Tryd.isAgg51
  z76 := Tryd.sizeOf51
  v76 := Tryd.zeroValue51
  t109 := Tryd.underlying42
  a109 := Tryd.isAgg42
  z109 := Tryd.sizeOf42
  v109 := Tryd.zeroValue42
  t127 := Tryd.underlying65
  a127 := Tryd.isAgg65
  z127 := Tryd.sizeOf65
  v127 := Tryd.zeroValue65
  t146 := Tryd.underlying61
  a146 := Tryd.isAgg61
  z146 := Tryd.sizeOf61
  v146 := Tryd.zeroValue61
  t148 := Tryd.underlying63
  a148 := Tryd.isAgg63
  z148 := Tryd.sizeOf63
  v148 := Tryd.zeroValue63
  t164 := Tryd.underlying72
  a164 := Tryd.isAgg72
  z164 := Tryd.sizeOf72
  v164 := Tryd.zeroValue72 }
theorem Tryd.Builder_Extra_105 : Builder.Extra Tryd.prog Tryd.lays105_ren := {
  sizeBuilder := by kernel_rfl
  liesBuilder := by kernel_rfl
  t5 := Tryd.underlying5
  a5 := Tryd.isAgg5
  z5 := Tryd.sizeOf5
  v5 := Tryd.zeroValue5
  infoByte := by kernel_rfl
  cellsByte := by kernel_rfl
  sizeByte := by kernel_rfl
  neB5 := by decide }
open Go.RowKit Go.Lib in
/-- THE MAIN CASE: at least two copies of a string that is not empty. (LAID: no walk: one application.) -/
theorem Tryd.strings_Repeat (s : ByteArray) (c : Nat) (w : World) (hc : c ≤ 9223372036854775807) (hlen : s.size * c ≤ 140737488355328) :
    Calls Tryd.prog 21 #[.string s, .int .i64 c] w fun e w' => e = .returned (.string ⟨(Lib.repeatL s.data.toList c).toArray⟩) ∧ Below w.heap.size w w' := Any.strings_Repeat Tryd.lays105 Tryd.Builder_Extra_105 s c w hc hlen

end Go.Proofs
