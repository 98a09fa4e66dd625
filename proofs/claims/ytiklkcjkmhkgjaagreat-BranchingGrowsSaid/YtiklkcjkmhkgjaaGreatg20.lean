/- GN2 -/
import Derived.Test.YtiklkcjkmhkgjaaGreatg18
namespace Go.AM
open Go Go.Proofs Go.RowKit
end Go.AM
