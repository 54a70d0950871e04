/- The law SealTwice answers true: what is sealed twice is opened twice; unlike texts have unlike seals. For every two texts. -/
import Derived.Test.YtagcfcjkpbcfhaaPSealx2
import Derived.Test.YtagcfcjkpbcfhaaPSealx3
import Derived.Test.YtagcfcjkpbcfhaaOpen
namespace Go.Proofs.Ytagcfcjkpbcfhaa.Pure
open Go.RowKit Go.Proofs.Ytagcfcjkpbcfhaa.PSeal Go.Proofs.YtagcfcjkpbcfhaaW.PrintWords Go.Proofs.YtagcfcjkpbcfhaaW.PrintLast
open Go.Proofs.Ytagcfcjkpbcfhaa.Plain

theorem SealTwice : humpyardlaw06_SealTwice.Pure := by
  intro s t hs ht
  refine ⟨s.size + 50, ?_⟩
  unfold humpyardlaw06_SealTwice.f
  rw [awake_tells _ (by omega), seal_tells s (by omega), seal_tells t (by omega)]
  simp only [Option.bind_some]
  rw [seal_tells (sealOf s) (by rw [sealOf_size]; omega)]
  simp only [Option.bind_some]
  rw [open_tells (sealOf (sealOf s)) (by rw [sealOf_size, sealOf_size]; omega) _ (by rw [sealOf_size, sealOf_size]; omega), open_back]
  simp only [Option.bind_some]
  rw [open_tells (sealOf s) (by rw [sealOf_size]; omega) _ (by rw [sealOf_size]; omega), open_back]
  simp only [Option.bind_some, if_true, Lib.toList_data]
  by_cases e : s = t
  · subst e
    simp
  · have h1 : ¬ s.data.toList = t.data.toList := fun h => e (bytes_ext h)
    have h2 : ¬ (sealOf s).data.toList = (sealOf t).data.toList := fun h => e (sealOf_inj _ _ (bytes_ext h))
    rw [beq_eq_false_iff_ne.mpr h1, beq_eq_false_iff_ne.mpr h2]
    rfl

end Go.Proofs.Ytagcfcjkpbcfhaa.Pure
