/- CrC -/
import Derived.Test.YtiklkcjkmhkgjaaGreatg13
namespace Go.AM
open Go Go.Proofs Go.RowKit
end Go.AM
