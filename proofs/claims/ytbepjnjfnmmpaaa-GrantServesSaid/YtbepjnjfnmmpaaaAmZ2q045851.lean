/- Appending to growable slices: the new block. -/
import Derived.Test.YtbepjnjfnmmpaaaAmZ
set_option linter.unusedSimpArgs false
set_option linter.unusedVariables false
namespace Go.AM
open Go
def Fr (d : D) (j : Nat) : Prop := ∀ sz off n, d ≠ .sl j sz off n
theorem Fr.sl {k j sz off n : Nat} (h : k ≠ j) : Fr (.sl k sz off n) j := fun _ _ _ he => by injection he; contradiction
theorem Fr.nil {j : Nat} : Fr .nil j := fun _ _ _ he => by cases he
def Dis (d d' : D) : Prop := ∀ j, Fr d j ∨ Fr d' j
theorem Dis.symm {d d' : D} (h : Dis d d') : Dis d' d := fun j => (h j).symm
end Go.AM
