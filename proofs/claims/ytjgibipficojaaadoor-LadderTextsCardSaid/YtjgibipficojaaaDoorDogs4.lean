/- Dogs: the reference's Right; the sound joints. -/
import Derived.Test.YtjgibipficojaaaDoorDogs3
set_option linter.unusedSimpArgs false
set_option linter.unusedVariables false
namespace Go.Proofs.YtjgibipficojaaaDoor
open Go.RowKit
attribute [local go_sem] Later.cell

def bothX (c : Clb) (l : List J) (ds : List Int) (k : Nat) : Bool := ascX l.length ds k && stepX c l ds k
theorem rightB_both (c : Clb) (l : List J) (ds : List Int) : rightB c l ds = ((vC c && vJ l) && (!ds.isEmpty && ((List.range ds.length).all (bothX c l ds) && lastB c l ds))) := by
  unfold rightB
  rw [right_both]; rfl
end Go.Proofs.YtjgibipficojaaaDoor
