/- Terms: the program's Right. -/
import Derived.Test.YtjbomjnkjcafcaaTmRight
namespace Go.Proofs.Ytjbomjnkjcafcaa
open Go.RowKit

end Go.Proofs.Ytjbomjnkjcafcaa
