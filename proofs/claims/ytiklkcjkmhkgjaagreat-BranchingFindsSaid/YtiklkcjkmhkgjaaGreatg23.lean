/- GN6 GO -/
import Derived.Test.YtiklkcjkmhkgjaaGreatg18
import Derived.Test.YtiklkcjkmhkgjaaGreatg19
import Derived.Test.YtiklkcjkmhkgjaaGreatg20
import Derived.Test.YtiklkcjkmhkgjaaGreatg21
import Derived.Test.YtiklkcjkmhkgjaaGreatg22
namespace Go.AM
open Go Go.Proofs Go.RowKit
end Go.AM
