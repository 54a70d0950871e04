/- Plain law on the printed laid: the records laid one behind the other. -/
import Derived.Test.YthaeecoahbohnaaAwake
import Derived.Test.YthaeecoahbohnaaPJourx9
namespace Go.Proofs.Ythaeecoahbohnaa.Plain
open Go Go.RowKit Go.Proofs.Ythaeecoahbohnaa.PJour Go.Proofs.YthaeecoahbohnaaW.PrintWords Go.Proofs.YthaeecoahbohnaaW.PrintLast Go.Proofs.YthaeecoahbohnaaW.PrintMore
set_option linter.unusedVariables false
/-- The records laid one behind the other. -/
theorem laid_step (x0 : List S29) (acc : ByteArray) (sz : List Int) (i K : Nat) (hi : i < x0.length) (hr : Right (recS (rd_T29 x0 (i : Int)))) (hs : acc.size + (recBytes (rd_T29 x0 (i : Int))).size ≤ 9223372036854775807) (hz : sz.length < 17592186044416) (hw : wrap64 ((i : Int) + 1) = ((i + 1 : Nat) : Int)) :
    humpyardlaw15_laid.l0 (K + 1) x0 acc sz (i : Int) = humpyardlaw15_laid.l0 K x0 (acc ++ recBytes (rd_T29 x0 (i : Int))) (sz ++ [((recBytes (rd_T29 x0 (i : Int))).size : Int)]) ((i + 1 : Nat) : Int) := by
  have h1 : (i : Int) < (x0.length : Int) := by omega
  have h2 : (0 : Int) ≤ (i : Int) := by omega
  rw [humpyardlaw15_laid.l0]
  rw [if_pos h1, if_pos h2, lay_right _ hr, Option.bind_some, if_pos hs, if_pos hz, hw]
theorem laid_l0 (x0 : List S29) (hr : ∀ x ∈ x0, Right (recS x)) (d : Nat) : ∀ (i : Nat) (acc : ByteArray) (sz : List Int), x0.length - i = d → i ≤ x0.length → sz.length = i → acc.size + (flat ((x0.drop i).map recS)).length ≤ 140737488355328 → x0.length < 17592186044416 →
    EvK (fun K => humpyardlaw15_laid.l0 K x0 acc sz (i : Int)) (acc ++ flatBytes (x0.drop i), sz ++ (x0.drop i).map (fun x => ((recBytes x).size : Int))) := by
  induction d with
  | zero =>
    intro i acc sz hd hi hz hs hn
    obtain rfl : i = x0.length := by omega
    have h : EvK (fun K => humpyardlaw15_laid.l0 K x0 acc sz (x0.length : Int)) (acc, sz) := (EvK.now (acc, sz)).succ fun K => by
      have h1 : ¬ ((x0.length : Int) < (x0.length : Int)) := by omega
      show humpyardlaw15_laid.l0 (K + 1) x0 acc sz (x0.length : Int) = _
      rw [humpyardlaw15_laid.l0]
      rw [if_neg h1]
    rw [List.drop_length]
    have e : acc ++ flatBytes [] = acc := bytes_ext (by rw [list_append]; exact List.append_nil _)
    rw [e, List.map_nil, List.append_nil]
    exact h
  | succ d ih =>
    intro i acc sz hd hi hz hs hn
    have hlt : i < x0.length := by omega
    have hdr := rd_drop x0 i hlt
    have hR := hr _ (rd_mem x0 i hlt)
    rw [hdr, List.map_cons] at hs
    have hfl : (flat (recS (rd_T29 x0 (i : Int)) :: (x0.drop (i + 1)).map recS)).length = (recBytes (rd_T29 x0 (i : Int))).size + (flat ((x0.drop (i + 1)).map recS)).length := by
      show (recB _ ++ flat _).length = _
      rw [List.length_append]
      rfl
    rw [hfl] at hs
    have hw : wrap64 ((i : Int) + 1) = ((i + 1 : Nat) : Int) := by unfold wrap64; omega
    have h := ih (i + 1) (acc ++ recBytes (rd_T29 x0 (i : Int))) (sz ++ [((recBytes (rd_T29 x0 (i : Int))).size : Int)]) (by omega) (by omega) (by rw [List.length_append, List.length_singleton, hz]) (by rw [ByteArray.size_append]; omega) hn
    have h' := h.succ (f := fun K => humpyardlaw15_laid.l0 K x0 acc sz (i : Int)) (fun K => laid_step x0 acc sz i K hlt hR (by omega) (by omega) hw)
    have e1 : acc ++ recBytes (rd_T29 x0 (i : Int)) ++ flatBytes (x0.drop (i + 1)) = acc ++ flatBytes (x0.drop i) := by
      apply bytes_ext
      rw [list_append, list_append, list_append, hdr, List.append_assoc]
      rfl
    have e2 : sz ++ [((recBytes (rd_T29 x0 (i : Int))).size : Int)] ++ (x0.drop (i + 1)).map (fun x => ((recBytes x).size : Int)) = sz ++ (x0.drop i).map (fun x => ((recBytes x).size : Int)) := by
      rw [hdr, List.map_cons, List.append_assoc]
      rfl
    rw [e1, e2] at h'
    exact h'
theorem laid_tells (l : List S29) (hr : ∀ x ∈ l, Right (recS x)) (hs : (flat (l.map recS)).length ≤ 140737488355328) :
    EvK (fun K => humpyardlaw15_laid.f K l) (flatBytes l, l.map (fun x => ((recBytes x).size : Int))) := by
  have hfl := flat_len (l.map recS)
  rw [List.length_map] at hfl
  have h := laid_l0 l hr l.length 0 (⟨#[]⟩ : ByteArray) [] rfl (by omega) rfl (by
    rw [List.drop_zero]
    show 0 + _ ≤ _
    omega) (by omega)
  have e : (⟨#[]⟩ : ByteArray) ++ flatBytes (l.drop 0) = flatBytes l := bytes_ext (by rw [list_append]; rfl)
  rw [e, List.nil_append, List.drop_zero] at h
  exact h
end Go.Proofs.Ythaeecoahbohnaa.Plain
