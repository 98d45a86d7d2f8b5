/- What the law needs. -/
import Derived.Test.YtdalpckomnkilaaMCacheAparta
import Derived.Shelf.SlIterI.Nil
import Derived.Shelf.SlIterI.Sorted
import Derived.Shelf.SortM.Plain
import Derived.Shelf.SortM.SortNone
import Derived.Test.YtdalpckomnkilaaProg
section
namespace Go.Proofs.Ytdalpckomnkilaa
open Go Go.Shelf Go.Proofs
end Go.Proofs.Ytdalpckomnkilaa
namespace Go.Proofs.Ytdalpckomnkilaa
open Go Go.RowKit Go.Hp Go.Maps Go.Sort Go.Shelf Go.Proofs
open Go.WideElems (Fit rd rg pl rd_val elemAt rd_mk rg_of)
open Go.WideShapes (sorted_perm)
set_option linter.unusedVariables false
set_option linter.unusedSimpArgs false
set_option maxRecDepth 100000
end Go.Proofs.Ytdalpckomnkilaa
end
