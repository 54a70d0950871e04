/- The law SealBack answers true: Open undoes Seal, and nine bytes stand behind. For every text. -/
import Derived.Test.YtagcfcjkpbcfhaaPSealx2
import Derived.Test.YtagcfcjkpbcfhaaPSealx3
import Derived.Test.YtagcfcjkpbcfhaaOpen
namespace Go.Proofs.Ytagcfcjkpbcfhaa.Pure
open Go.RowKit Go.Proofs.Ytagcfcjkpbcfhaa.PSeal Go.Proofs.YtagcfcjkpbcfhaaW.PrintWords Go.Proofs.YtagcfcjkpbcfhaaW.PrintLast
open Go.Proofs.Ytagcfcjkpbcfhaa.Plain

theorem SealBack : humpyardlaw06_SealBack.Pure := by
  intro s hs
  refine ⟨s.size + 30, ?_⟩
  unfold humpyardlaw06_SealBack.f
  rw [awake_tells _ (by omega), seal_tells s (by omega)]
  simp only [Option.bind_some]
  rw [open_tells (sealOf s) (by rw [sealOf_size]; omega) _ (by rw [sealOf_size]; omega), open_back]
  simp only [Option.bind_some, if_true]
  rw [sealOf_size, show wrap64 ((s.size : Int) + 9) = (s.size : Int) + 9 from by unfold wrap64; omega]
  simp

end Go.Proofs.Ytagcfcjkpbcfhaa.Pure
