/- For every vtree that the reference finds valid, the blocks below an inner node are those below its left child followed by those below its right child; no condition. -/
import Derived.Test.YticedbngmmcbjaaKd3
import Derived.KernelRfl
set_option linter.all false
namespace Go.Proofs.AM
open Go
noncomputable def isTrueE : Value → AH → Bool := fun v _ => dBool v fun b => b
theorem I28.awakeK : runK (fun _ _ => none) I28.tbl.get 1000000 5 [] ⟨0, .nil⟩ isTrueE = true := by kernel_rfl
end Go.Proofs.AM
