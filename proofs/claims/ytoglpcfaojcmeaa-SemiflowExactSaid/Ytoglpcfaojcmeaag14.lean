/- CmL CmM -/
import Derived.Test.Ytoglpcfaojcmeaag13
namespace Go.AM
open Go Go.Proofs Go.RowKit
end Go.AM
