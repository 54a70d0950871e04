/- The law Names of humpyardtop answers true: every constant of api has its number and its text. A closed statement; no conditions. -/
import Derived.Test.YtagcfcjkpbcfhaaPNamesx1
namespace Go.Proofs.Ytagcfcjkpbcfhaa.Pure
open Go.RowKit Go.Proofs.Ytagcfcjkpbcfhaa.PNames Go.Proofs.YtagcfcjkpbcfhaaW.PrintWords Go.Proofs.YtagcfcjkpbcfhaaW.PrintLast

/-- Every constant has its number and its text. -/
theorem Names : humpyardtop_Names.Pure := by
  rfl

end Go.Proofs.Ytagcfcjkpbcfhaa.Pure
