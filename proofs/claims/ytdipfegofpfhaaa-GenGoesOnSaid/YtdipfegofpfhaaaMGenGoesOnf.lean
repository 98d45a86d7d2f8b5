/- What the law needs. -/
import Derived.Test.YtdipfegofpfhaaaProg
import Derived.Shelf.SlMaps.Clone
import Derived.Tactics
section
namespace Go.Proofs.YtdipfegofpfhaaaE
open Go Go.RowKit Go.Proofs
end Go.Proofs.YtdipfegofpfhaaaE
end
