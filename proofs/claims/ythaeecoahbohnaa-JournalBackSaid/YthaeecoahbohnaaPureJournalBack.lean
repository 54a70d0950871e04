/- Plain law of JournalBack: the printed function says true of every list of records whose numbers are ints. -/
import Derived.Test.YthaeecoahbohnaaOpen
namespace Go.Proofs.Ythaeecoahbohnaa.Pure
open Go Go.RowKit Go.Proofs.Ythaeecoahbohnaa.PJour Go.Proofs.YthaeecoahbohnaaW.PrintWords Go.Proofs.YthaeecoahbohnaaW.PrintLast Go.Proofs.YthaeecoahbohnaaW.PrintMore
open Go.Proofs.Ythaeecoahbohnaa.Plain
set_option linter.unusedVariables false
theorem JournalBack (l : List S29) (hl : ∀ x ∈ l, Fits x) (hm : l.length ≤ maxLen) : ∃ k, humpyardlaw15_JournalBack.f k l = some true := by
  obtain ⟨out, ho, hg, hn⟩ := fit_tells l (fun x hx => (hl x hx).r)
  have hr : ∀ x ∈ out, Right (recS x) := fun x hx => (hg x hx).right
  have hf := flat_good out hg
  have hla := laid_tells out hr (by omega)
  have hrd := read_of (flatBytes out) (by rw [flatBytes_size]; omega) out (reads_flat _ (right_map out hr))
  have hs : journal_Same.f out out = some true := same_self out (by omega) hr
  have hrs := refsame_tells out out (by omega) (fun x hx => by have := (hg x hx).n; omega)
  rw [sameB_self] at hrs
  refine EvK.one (EvK.bind awake_tells (ho.bind (hla.bind (hrd.bind ?_))))
  refine (hrs.bind (EvK.now true)).of fun K => ?_
  have hz : (((flat (out.map recS)).length : Int)) = ((flatBytes out).size : Int) := rfl
  show (if true = true then (journal_Same.f out out).bind _ else _) = _
  rw [if_pos rfl, hs, Option.bind_some, if_pos rfl]
  exact if_pos hz
end Go.Proofs.Ythaeecoahbohnaa.Pure
