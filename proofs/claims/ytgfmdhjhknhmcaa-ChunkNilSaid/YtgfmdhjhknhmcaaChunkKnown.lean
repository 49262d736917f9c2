/- What must come of fixed calls of package chunk: the quick machine finds it. -/
import Derived.Test.YtgfmdhjhknhmcaaEvR
namespace Go.Proofs.Ytgfmdhjhknhmcaa
open Go Go.RowKit
theorem chunk_known_ran : isTrue (callq evQ 60 24 [] .nil 0 topq) = true := by kernel_rfl
end Go.Proofs.Ytgfmdhjhknhmcaa
