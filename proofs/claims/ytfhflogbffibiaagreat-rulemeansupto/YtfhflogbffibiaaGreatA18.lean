/-
  The fixed fact of a law: the machine, run by the kernel.
-/
import Derived.Test.YtfhflogbffibiaaGreatVY
import Derived.Test.YtfhflogbffibiaaGreatKZ
import Derived.KernelRfl
namespace Go.Proofs.YtfhflogbffibiaaGreat
open Go
set_option linter.unusedSimpArgs false
set_option linter.unusedVariables false

theorem awake18 : (match mF pures codes 3000 200 18 [] .leaf 0 with | some o => (match o.v with | .bool b => b | _ => false) | none => false) = true := by kernel_rfl

end Go.Proofs.YtfhflogbffibiaaGreat
