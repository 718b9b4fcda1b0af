/- Layer 5: what the rows' tables are. -/
import Derived.Test.YtflgagglkkehiaaDoorBkH
import Derived.Test.YtflgagglkkehiaaDoorLaw
import Derived.Test.YtflgagglkkehiaaDoorOpen
import Derived.LaidLaws
import Derived.LaidMore
import Derived.LaidHandle
import Derived.OpenShut
import Derived.ProofKit
import Derived.Lay
import Derived.Stop.Joined
namespace Go.Proofs.YtflgagglkkehiaaDoor
open Go.ChangeShapes Go.WideShapes Go.ChangeAt Go.RowKit

def laidU : List (String × DataW Unit) := [("unicode/utf8.acceptRanges", Rows.laid_unicode_utf8_acceptRanges), ("unicode/utf8.first", Rows.laid_unicode_utf8_first)]
end Go.Proofs.YtflgagglkkehiaaDoor
