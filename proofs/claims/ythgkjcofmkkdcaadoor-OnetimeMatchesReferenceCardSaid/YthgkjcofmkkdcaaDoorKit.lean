/- Small facts that several walks use. -/
import Derived.Test.YthgkjcofmkkdcaaDoorDigW2
import Derived.OpenShut
namespace Go.Proofs.YthgkjcofmkkdcaaDoor
open Go.RowKit
end Go.Proofs.YthgkjcofmkkdcaaDoor
