/- Layer 12: the document's doing; the chapter's examples. Own work. -/
import Derived.Test.YthbblbjfbcmdlaaDoorLk
namespace Go.Proofs.YthbblbjfbcmdlaaDoor
open Go Go.Shade
variable {Γ : Globs}
end Go.Proofs.YthbblbjfbcmdlaaDoor
