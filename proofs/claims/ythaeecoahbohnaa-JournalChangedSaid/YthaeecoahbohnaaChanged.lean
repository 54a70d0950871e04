/- Plain law behind JournalChanged: a journal of which one byte behind a record's length is another one reads as the records ahead of that record. -/
import Derived.Test.YthaeecoahbohnaaOpen
import Derived.Test.YthaeecoahbohnaaLaid
import Derived.Test.YthaeecoahbohnaaBytes
namespace Go.Proofs.Ythaeecoahbohnaa.Plain
open Go Go.RowKit Go.Proofs.Ythaeecoahbohnaa.PJour Go.Proofs.YthaeecoahbohnaaW.PrintWords Go.Proofs.YthaeecoahbohnaaW.PrintLast Go.Proofs.YthaeecoahbohnaaW.PrintMore
set_option linter.unusedVariables false
theorem flat_cons (x : Rec) (l : List Rec) : flat (x :: l) = recB x ++ flat l := rfl
theorem split_at (l : List UInt8) (p : Nat) (h : p < l.length) : l = l.take p ++ l[p] :: l.drop (p + 1) := by
  rw [List.getElem_cons_drop, List.take_append_drop]
/-- One byte of the k-th record changed, behind its length. -/
theorem changed_reads (out : List S29) (hr : ∀ x ∈ out, Right (recS x)) (k j : Nat) (hk : k < out.length) (hj : j + 4 < (recB (recS (rd_T29 out (k : Int)))).length) (c d : UInt8)
    (hc : (recB (recS (rd_T29 out (k : Int))))[4 + j]? = some c) (hcd : c ≠ d) :
    Reads ((flat (out.map recS)).set ((flat ((out.take k).map recS)).length + (4 + j)) d) ((out.take k).map recS) := by
  obtain ⟨R, hR⟩ : ∃ R, R = recB (recS (rd_T29 out (k : Int))) := ⟨_, rfl⟩
  have hx := hr _ (rd_mem out k hk)
  have hsp : flat (out.map recS) = flat ((out.take k).map recS) ++ (R ++ flat ((out.drop (k + 1)).map recS)) := by
    rw [hR, ← flat_cons, ← List.map_cons (f := recS), ← rd_drop out k hk, ← flat_append, ← List.map_append, List.take_append_drop]
  rw [← hR] at hj hc
  have hjl : 4 + j < R.length := by omega
  obtain ⟨_, hcj⟩ := List.getElem?_eq_some_iff.mp hc
  have hRs := split_at R (4 + j) hjl
  rw [hcj] at hRs
  refine ⟨right_map _ fun x hx => hr x (List.mem_of_mem_take hx), (R.take (4 + j)) ++ d :: (R.drop (4 + j + 1)) ++ flat ((out.drop (k + 1)).map recS), ?_, ?_⟩
  · rw [hsp, List.set_append_right _ _ (Nat.le_add_right _ _), Nat.add_sub_cancel_left, List.set_append_left _ _ hjl]
    congr 1
    congr 1
    rw [List.set_eq_take_append_cons_drop, if_pos hjl]
  · exact noRec_changed _ hx (R.take (4 + j)) (R.drop (4 + j + 1)) _ c d (by rw [List.length_take]; omega) (by rw [← hR]; exact hRs) hcd
end Go.Proofs.Ythaeecoahbohnaa.Plain
