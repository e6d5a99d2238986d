import Derived.Test.YtlgocmlcniindaaBSlSort
import Derived.Test.YtlgocmlcniindaaBHuDed
set_option linter.unusedVariables false
set_option linter.unusedSimpArgs false
set_option linter.unnecessarySimpa false
/-
  Functions of this program that are told and not walked: Clone and SortFunc at points.
-/
namespace Go.Sw
open Go Go.Am
def specHTab (g : FuncId) : Option SpecF := if g = 33 then some (specClone PtT) else if g = 34 then some (specSort PtT 35 Hu.sortPts) else none
end Go.Sw
