/- Layer 12: the document's doing. Own work. -/
import Derived.Test.YtkeidnhfahfiiaaDoorLm
namespace Go.Proofs.YtkeidnhfahfiiaaDoor
open Go Go.Shade
variable {Γ : Globs}
end Go.Proofs.YtkeidnhfahfiiaaDoor
