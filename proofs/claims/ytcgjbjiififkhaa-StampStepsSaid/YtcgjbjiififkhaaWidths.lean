/- The widths of pack: an array that is given back by value. -/
import Derived.Test.YtcgjbjiififkhaaPackPlain
import Derived.Laws.Rows
import Derived.Deep.WholeRow
namespace Go.Proofs.Ytcgjbjiififkhaa
open Go.RowKit
set_option linter.unusedVariables false

def wArr : Array Value := #[.int .i64 1, .int .i64 2, .int .i64 3, .int .i64 4, .int .i64 5, .int .i64 6, .int .i64 7, .int .i64 8, .int .i64 10, .int .i64 12, .int .i64 15, .int .i64 20, .int .i64 30, .int .i64 60]

set_option maxHeartbeats 2000000 in
set_option maxRecDepth 100000 in
theorem widths_any (w : World) :
    Calls Try.prog 33 #[] w fun e w' => e = .returned (.agg wArr) ∧ w' = w.alloc (.cells wArr 64) := by
  go_enter Try.func33, Try.ntmps33
  go_wp2
  refine bodyPost_ret (v := .agg wArr) ?_ rfl ⟨rfl, rfl⟩
  simp [results, wArr, Try.results33, go_sem]
end Go.Proofs.Ytcgjbjiififkhaa
