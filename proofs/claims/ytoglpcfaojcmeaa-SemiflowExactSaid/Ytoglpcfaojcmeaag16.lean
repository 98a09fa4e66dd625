/- CrC -/
import Derived.Test.Ytoglpcfaojcmeaag15
namespace Go.AM
open Go Go.Proofs Go.RowKit
end Go.AM
