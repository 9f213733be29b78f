/- strings.Repeat of one byte. -/
import Derived.Test.YtpcefmocphbdgaaDoorCom
import Derived.Test.YtpcefmocphbdgaaDoorShelf
namespace Go.Proofs.YtpcefmocphbdgaaDoor
set_option linter.unusedVariables false
set_option linter.unusedSimpArgs false
set_option maxRecDepth 100000
open SL Go.RowKit Go.Maps

theorem rep_bytes (x : Nat) : ∀ c : Nat, (⟨(Lib.repeatL (strB [x]).data.toList c).toArray⟩ : ByteArray) = strB (List.replicate c x)
  | 0 => rfl
  | c + 1 => by
    have ih := rep_bytes x c
    have e : Lib.repeatL (strB [x]).data.toList c = (List.replicate c x).map UInt8.ofNat := by
      have := congrArg (fun b : ByteArray => b.data.toList) ih
      simpa [strB] using this
    rw [Lib.repeatL, e]
    simp [strB, List.replicate_succ]
theorem repeat_ok (F : Mem) (x c : Nat) (hc : c ≤ 140737488355328) : FT Tryd.prog 41 [.string (strB [x]), .int .i64 (c : Int)].toArray F [] (Ret (.string (strB (List.replicate c x)))) :=
  FT.of_below fun w _ => by
    have := Tryd.strings_Repeat (strB [x]) c w (by omega) (by rw [strB_size]; simpa using hc)
    rwa [rep_bytes] at this
end Go.Proofs.YtpcefmocphbdgaaDoor
