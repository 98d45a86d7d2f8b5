/- What the law needs. -/
import Derived.Test.YtdipfegofpfhaaaGreatProg
import Derived.Shelf.SlMaps.Clone
import Derived.Tactics
section
namespace Go.Proofs.YtdipfegofpfhaaaGreatE
open Go Go.RowKit Go.Proofs
end Go.Proofs.YtdipfegofpfhaaaGreatE
end
