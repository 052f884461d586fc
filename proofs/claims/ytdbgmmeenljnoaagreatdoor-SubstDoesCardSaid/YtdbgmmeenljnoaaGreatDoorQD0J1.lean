/-
  PROVED: the row's closed cells are what the program forces. No condition.
-/
import Derived.Test.YtdbgmmeenljnoaaGreatDoorCards
import Derived.Test.YtdbgmmeenljnoaaGreatDoorTie
import Derived.WideShapes
import Derived.ProofKit
set_option maxRecDepth 100000
namespace Go.Proofs.YtdbgmmeenljnoaaGreatDoor
open Go
set_option maxHeartbeats 400000000 in
theorem joined : joinedFacts Tryz.pinned.checked.prog 3 Tryz.f3 Rows.substDoesSpec Rows.substDoesRow = true := by
  simp only [joinedFacts, Bool.and_eq_true]
  repeat' apply And.intro
  all_goals (as_aux_lemma => kernel_rfl)
end Go.Proofs.YtdbgmmeenljnoaaGreatDoor
