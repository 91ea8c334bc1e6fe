/-
  LAYER 4: the document's disk, by its contracts; a nil disk.
-/
import Derived.Test.YtggidllaodloiaaDisk
import Derived.Deep.RegionLaw
namespace Go.Proofs.Ytggidllaodloiaa
open Go Go.RowKit

end Go.Proofs.Ytggidllaodloiaa
