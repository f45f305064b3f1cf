/-
  The closed facts of the statement's row.
  Conditions: none.
-/
import Derived.Test.YtlpbgmbiollimaaGreatRows
import Derived.JoinedOf
import Derived.KernelRfl
namespace Go.Proofs.YtlpbgmbiollimaaGreat
open Go

theorem both {a b : Bool} (h : a = true) (k : b = true) : (a && b) = true := by subst h; subst k; rfl

set_option maxRecDepth 100000 in
set_option maxHeartbeats 20000000 in
theorem closed : joinedFacts Tryz.prog 3 Tryz.f3 Rows.suiteFullSpec Rows.suiteFullRow = true := by
  unfold joinedFacts
  refine both (both (both (both (both (both (both (both (both (both (both (both (both (both (both (both (both (both (both (both (both (both (both (both (both (both (both (both (both (both (both ?_ ?_) ?_) ?_) ?_) ?_) ?_) ?_) ?_) ?_) ?_) ?_) ?_) ?_) ?_) ?_) ?_) ?_) ?_) ?_) ?_) ?_) ?_) ?_) ?_) ?_) ?_) ?_) ?_) ?_) ?_) ?_
  all_goals (as_aux_lemma => kernel_rfl)

end Go.Proofs.YtlpbgmbiollimaaGreat
