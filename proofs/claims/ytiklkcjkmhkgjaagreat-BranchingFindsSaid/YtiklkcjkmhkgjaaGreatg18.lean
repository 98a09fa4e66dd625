/- GJ GK GL GM GN0 -/
import Derived.Test.YtiklkcjkmhkgjaaGreatg13
import Derived.Test.YtiklkcjkmhkgjaaGreatg17
namespace Go.AM
open Go Go.Proofs Go.RowKit
def q7 (m : MD) (r : RD) : Bool := if r.src = -1 then r.second == -1 && r.need.all fun x => betweenB x 0 0 else betweenB r.second (-1) ((m.states.length : Int) - 1)
end Go.AM
