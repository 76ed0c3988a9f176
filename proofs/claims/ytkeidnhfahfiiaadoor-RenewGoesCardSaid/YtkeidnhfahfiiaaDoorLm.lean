/- Layer 12: the document's doing; the chapter's examples. Own work. -/
import Derived.Test.YtkeidnhfahfiiaaDoorLk
namespace Go.Proofs.YtkeidnhfahfiiaaDoor
open Go Go.Shade
variable {Γ : Globs}
end Go.Proofs.YtkeidnhfahfiiaaDoor
