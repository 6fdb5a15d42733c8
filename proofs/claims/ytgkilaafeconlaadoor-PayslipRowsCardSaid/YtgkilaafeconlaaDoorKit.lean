/- Small facts that several walks use. -/
import Derived.Test.YtgkilaafeconlaaDoorDigW2
import Derived.OpenShut
namespace Go.Proofs.YtgkilaafeconlaaDoor
open Go.RowKit
end Go.Proofs.YtgkilaafeconlaaDoor
