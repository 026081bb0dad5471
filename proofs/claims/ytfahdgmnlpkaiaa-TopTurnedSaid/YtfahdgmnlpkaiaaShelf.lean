/- No contract of the shelf is needed at this program: this text holds none. -/
import Derived.Shelf.Lay
import Derived.Shelf.LaySoft
import Derived.Test.YtfahdgmnlpkaiaaProg
namespace Go.Proofs
end Go.Proofs
