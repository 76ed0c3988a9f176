/- Layer 12: the document's doing; the chapter's examples. Own work. -/
import Derived.Test.YtmkblhinpnodaaaDoorZ3
import Derived.Test.YtmkblhinpnodaaaDoorLk
namespace Go.Proofs.YtmkblhinpnodaaaDoor
open Go Go.Shade
variable {Γ : Globs}
end Go.Proofs.YtmkblhinpnodaaaDoor
