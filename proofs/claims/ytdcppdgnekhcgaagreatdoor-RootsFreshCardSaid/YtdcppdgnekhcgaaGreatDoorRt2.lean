/-
  Roots: the document's New.
-/
import Derived.Test.YtdcppdgnekhcgaaGreatDoorRt1
import Derived.Deep.AppendLies
namespace Go.Proofs.YtdcppdgnekhcgaaGreatDoor
open Go.RowKit
set_option maxRecDepth 100000
set_option linter.unusedVariables false

end Go.Proofs.YtdcppdgnekhcgaaGreatDoor
