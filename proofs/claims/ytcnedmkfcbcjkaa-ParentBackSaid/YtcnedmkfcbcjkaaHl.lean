/- The library's contracts that are proved once, laid at this program. -/
import Derived.Shelf.Lay
import Derived.Shelf.Sort.Plain
import Derived.Shelf.Slices.In.SortNone
import Derived.Ground.NamesProg
import Derived.Ground.Names2Prog
import Derived.Ground.SlgnProg
import Derived.Ground.SlgfProg
import Derived.Shelf.SlicesE.Clone
import Derived.Shelf.SlicesE.DeleteFunc
import Derived.Shelf.Slices.Cells
import Derived.Lib.OwnBridge
import Derived.Shelf.Slices.Turned
import Derived.Test.YtcnedmkfcbcjkaaRt
set_option linter.unusedVariables false
set_option linter.unusedSimpArgs false
namespace Go.Proofs
open Go.Shelf
shelf_lay Lays.n189 Nm 189 at Try as Ytcnedmkfcbcjkaa.laysSort
shelf_lay Lays2.n20 Nm2 20 at Try as Ytcnedmkfcbcjkaa.laysCompact
shelf_lay Lays.n107 Nm 107 at Try as Ytcnedmkfcbcjkaa.laysContains
shelf_lay_g SlLaysH.n10 Slgf 10 at Try 68 as Ytcnedmkfcbcjkaa.laysDelete
shelf_lay_g SlLaysE0.n41 Slgn 41 at Try 67 as Ytcnedmkfcbcjkaa.laysCloneI
shelf_lay_g SlLaysE0.n41 Slgn 41 at Try 61 as Ytcnedmkfcbcjkaa.laysCloneB
end Go.Proofs
namespace Go.Proofs.Ytcnedmkfcbcjkaa.Ra
open Go Go.RowKit Go.Shelf Go.Lib Go.Sort Go.Proofs.Try
set_option linter.unusedVariables false
end Go.Proofs.Ytcnedmkfcbcjkaa.Ra
