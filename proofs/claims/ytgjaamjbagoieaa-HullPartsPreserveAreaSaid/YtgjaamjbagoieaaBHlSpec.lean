import Derived.Test.YtgjaamjbagoieaaBSlSort
import Derived.Test.YtgjaamjbagoieaaBHuDed
set_option linter.unusedVariables false
set_option linter.unusedSimpArgs false
set_option linter.unnecessarySimpa false
/-
  Functions of this program that are told and not walked: Clone and SortFunc at points.
-/
namespace Go.Hl
open Go Go.Am
def specHTab (g : FuncId) : Option SpecF := if g = 27 then some (specClone PtT) else if g = 39 then some (specClone PtT) else if g = 28 then some (specSort PtT 29 Hu.sortPts) else none
end Go.Hl
