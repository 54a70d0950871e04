/-
  No cell of these rows narrows 'for every input' (looked for: loops, veiled, ifaces, maps, wideKeys, modest, calm, conditions, laid).
  DERIVED. THE GIVEN ROWS OF THIS SEAT. 6 by the template 'for every input the law returns true; each argument reads behind the call as it read before'; 0 by the template 'total and deterministic' (their statements: YthaeecoahbohnaaTotals.lean).
  GIVEN WITH THE SEED: the statements are not yours to turn. If you find one false, say at which input.
  Laid BY PROGRAM, IN A SANDBOX (cutbox-rows.mjs): the forced cells as the released guide's own fill.sh prints them over the translation 479fc0d6636308de… (all of the seat's roots in one cut). By AI agents, Wed Nov 11 2026. No macro, syntax, notation, axiom, sorry.
-/
import Derived.Test.YthaeecoahbohnaaChecked
import GoSem.Claim
import GoSem.ClaimJoined
import GoSem.ClaimMapViews
import Derived.JoinedTies
import Derived.KernelRfl
namespace Go.Proofs.Ythaeecoahbohnaa
/- THE CELL 'sum', in the pinned program and in every row, IS THE sha256 OF THE DUMP (.gsa) THAT YthaeecoahbohnaaProg.lean LOADS. Nothing in Lean hashes anything: it is a label: what it is worth is what the hold of that sum in a sandbox is worth. -/
noncomputable def Try.pinned : Pinned := { name := "ythaeecoahbohnaa", sum := "479fc0d6636308de3bed3596384c73ededeebc86e43e956dbe46370c26342f10", checked := Try.checked }
namespace Rows
def none {H : Type} : Left H := { results := [], args := [] }

/-- 'humpyardlaw15.JournalTells': WHATEVER THE INPUT: true; the input reads as it did. -/
def journalTellsSpec : ChangeSpec := { name := "journalTells", fn := fun _ => fun
  | [d1, d2, d3, d4, d5, d6] => { results := [.lit (.bool true)], args := [d1, d2, d3, d4, d5, d6] }
  | _ => none }
def journalTellsRow : OpenClaim := { program := "ythaeecoahbohnaa", sum := "479fc0d6636308de3bed3596384c73ededeebc86e43e956dbe46370c26342f10", func := "humpyard/humpyardlaw15.JournalTells", spec := "journalTells", unfollowed := true, recurses := true, apart := false }
def JournalTellsSaid : Prop := journalTellsRow.holds Try.pinned (OpenSpec.ofChange journalTellsSpec)

/-- ITS FALSE NEIGHBOUR: 'it returns false'. Refute it at one input. -/
def journalTellsWrong : ChangeSpec := { name := "journalTells", fn := fun _ => fun
  | [d1, d2, d3, d4, d5, d6] => { results := [.lit (.bool false)], args := [d1, d2, d3, d4, d5, d6] }
  | _ => none }
def JournalTellsWrongFalsely : Prop := journalTellsRow.holds Try.pinned (OpenSpec.ofChange journalTellsWrong)

/-- 'humpyardlaw15.JournalBack': WHATEVER THE INPUT: true; the input reads as it did. -/
def journalBackSpec : ChangeSpec := { name := "journalBack", fn := fun _ => fun
  | [d] => { results := [.lit (.bool true)], args := [d] }
  | _ => none }
def journalBackRow : OpenClaim := { program := "ythaeecoahbohnaa", sum := "479fc0d6636308de3bed3596384c73ededeebc86e43e956dbe46370c26342f10", func := "humpyard/humpyardlaw15.JournalBack", spec := "journalBack", unfollowed := true, recurses := true, apart := false }
def JournalBackSaid : Prop := journalBackRow.holds Try.pinned (OpenSpec.ofChange journalBackSpec)

/-- ITS FALSE NEIGHBOUR: 'it returns false'. Refute it at one input. -/
def journalBackWrong : ChangeSpec := { name := "journalBack", fn := fun _ => fun
  | [d] => { results := [.lit (.bool false)], args := [d] }
  | _ => none }
def JournalBackWrongFalsely : Prop := journalBackRow.holds Try.pinned (OpenSpec.ofChange journalBackWrong)

/-- 'humpyardlaw15.JournalCut': WHATEVER THE INPUT: true; the input reads as it did. -/
def journalCutSpec : ChangeSpec := { name := "journalCut", fn := fun _ => fun
  | [d1, d2] => { results := [.lit (.bool true)], args := [d1, d2] }
  | _ => none }
def journalCutRow : OpenClaim := { program := "ythaeecoahbohnaa", sum := "479fc0d6636308de3bed3596384c73ededeebc86e43e956dbe46370c26342f10", func := "humpyard/humpyardlaw15.JournalCut", spec := "journalCut", unfollowed := true, recurses := true, apart := false }
def JournalCutSaid : Prop := journalCutRow.holds Try.pinned (OpenSpec.ofChange journalCutSpec)

/-- ITS FALSE NEIGHBOUR: 'it returns false'. Refute it at one input. -/
def journalCutWrong : ChangeSpec := { name := "journalCut", fn := fun _ => fun
  | [d1, d2] => { results := [.lit (.bool false)], args := [d1, d2] }
  | _ => none }
def JournalCutWrongFalsely : Prop := journalCutRow.holds Try.pinned (OpenSpec.ofChange journalCutWrong)

/-- 'humpyardlaw15.JournalChanged': WHATEVER THE INPUT: true; the input reads as it did. -/
def journalChangedSpec : ChangeSpec := { name := "journalChanged", fn := fun _ => fun
  | [d1, d2, d3, d4] => { results := [.lit (.bool true)], args := [d1, d2, d3, d4] }
  | _ => none }
def journalChangedRow : OpenClaim := { program := "ythaeecoahbohnaa", sum := "479fc0d6636308de3bed3596384c73ededeebc86e43e956dbe46370c26342f10", func := "humpyard/humpyardlaw15.JournalChanged", spec := "journalChanged", unfollowed := true, recurses := true, apart := false }
def JournalChangedSaid : Prop := journalChangedRow.holds Try.pinned (OpenSpec.ofChange journalChangedSpec)

/-- ITS FALSE NEIGHBOUR: 'it returns false'. Refute it at one input. -/
def journalChangedWrong : ChangeSpec := { name := "journalChanged", fn := fun _ => fun
  | [d1, d2, d3, d4] => { results := [.lit (.bool false)], args := [d1, d2, d3, d4] }
  | _ => none }
def JournalChangedWrongFalsely : Prop := journalChangedRow.holds Try.pinned (OpenSpec.ofChange journalChangedWrong)

/-- 'humpyardlaw15.JournalJoins': WHATEVER THE INPUT: true; the input reads as it did. -/
def journalJoinsSpec : ChangeSpec := { name := "journalJoins", fn := fun _ => fun
  | [d1, d2, d3] => { results := [.lit (.bool true)], args := [d1, d2, d3] }
  | _ => none }
def journalJoinsRow : OpenClaim := { program := "ythaeecoahbohnaa", sum := "479fc0d6636308de3bed3596384c73ededeebc86e43e956dbe46370c26342f10", func := "humpyard/humpyardlaw15.JournalJoins", spec := "journalJoins", unfollowed := true, recurses := true, apart := false }
def JournalJoinsSaid : Prop := journalJoinsRow.holds Try.pinned (OpenSpec.ofChange journalJoinsSpec)

/-- ITS FALSE NEIGHBOUR: 'it returns false'. Refute it at one input. -/
def journalJoinsWrong : ChangeSpec := { name := "journalJoins", fn := fun _ => fun
  | [d1, d2, d3] => { results := [.lit (.bool false)], args := [d1, d2, d3] }
  | _ => none }
def JournalJoinsWrongFalsely : Prop := journalJoinsRow.holds Try.pinned (OpenSpec.ofChange journalJoinsWrong)

/-- 'humpyardlaw15.JournalApart': WHATEVER THE INPUT: true; the input reads as it did. -/
def journalApartSpec : ChangeSpec := { name := "journalApart", fn := fun _ => fun
  | [d1, d2] => { results := [.lit (.bool true)], args := [d1, d2] }
  | _ => none }
def journalApartRow : OpenClaim := { program := "ythaeecoahbohnaa", sum := "479fc0d6636308de3bed3596384c73ededeebc86e43e956dbe46370c26342f10", func := "humpyard/humpyardlaw15.JournalApart", spec := "journalApart", unfollowed := true, recurses := true, apart := false }
def JournalApartSaid : Prop := journalApartRow.holds Try.pinned (OpenSpec.ofChange journalApartSpec)

/-- ITS FALSE NEIGHBOUR: 'it returns false'. Refute it at one input. -/
def journalApartWrong : ChangeSpec := { name := "journalApart", fn := fun _ => fun
  | [d1, d2] => { results := [.lit (.bool false)], args := [d1, d2] }
  | _ => none }
def JournalApartWrongFalsely : Prop := journalApartRow.holds Try.pinned (OpenSpec.ofChange journalApartWrong)

/- THE SECOND FORM. 'bulk': how many values and letters a reading holds, each counted each time it is reached (what is shared counts as often as it is met; a slice's spare places count too). A statement '..UptoSaid' is the law's where the arguments, and the package variables that the reading takes, are together of bulk at most 1048576: NARROWER than '..Said'. Prove '..Said' where nothing that the law and all that it calls make is longer than what came in: it says more and counts as full. Else prove '..UptoSaid'. A law counts once. -/
mutual
def uptoBulk {H : Type} : DataW H → Nat
  | .lit (.string bytes) => bytes.length + 1
  | .lit _ => 1
  | .nil => 1
  | .ptr d => uptoBulk d + 1
  | .slice elems spare => uptoBulkAll elems + uptoBulkAll spare + 1
  | .agg parts => uptoBulkAll parts + 1
  | .iface _ d => uptoBulk d + 1
  | .map entries => uptoBulkEntries entries + 1
  | .held _ => 1
def uptoBulkAll {H : Type} : List (DataW H) → Nat
  | [] => 0
  | d :: r => uptoBulk d + uptoBulkAll r
def uptoBulkEntries {H : Type} : List (Lit × DataW H) → Nat
  | [] => 0
  | x :: r => uptoBulkEntry x + uptoBulkEntries r
def uptoBulkEntry {H : Type} : Lit × DataW H → Nat
  | (.string bytes, d) => bytes.length + uptoBulk d + 1
  | (_, d) => uptoBulk d + 1
 end
def uptoSmall : (H : Type) → List (DataW H) → Bool := fun _ ds => decide (uptoBulkAll ds ≤ 1048576)
def OpenSpec.upto (s : _root_.Go.ChangeSpec) : _root_.Go.OpenSpec := { _root_.Go.OpenSpec.ofChange s with cond := some uptoSmall }

/-- 'humpyardlaw15.JournalTells', WHERE WHAT IT READS IS OF BULK AT MOST 1048576: true; the input reads as it did. -/
def journalTellsUptoRow : OpenClaim := { program := "ythaeecoahbohnaa", sum := "479fc0d6636308de3bed3596384c73ededeebc86e43e956dbe46370c26342f10", func := "humpyard/humpyardlaw15.JournalTells", spec := "journalTells", unfollowed := true, recurses := true, apart := false, narrowed := true }
def JournalTellsUptoSaid : Prop := journalTellsUptoRow.holds Try.pinned (OpenSpec.upto journalTellsSpec)

/-- 'humpyardlaw15.JournalBack', WHERE WHAT IT READS IS OF BULK AT MOST 1048576: true; the input reads as it did. -/
def journalBackUptoRow : OpenClaim := { program := "ythaeecoahbohnaa", sum := "479fc0d6636308de3bed3596384c73ededeebc86e43e956dbe46370c26342f10", func := "humpyard/humpyardlaw15.JournalBack", spec := "journalBack", unfollowed := true, recurses := true, apart := false, narrowed := true }
def JournalBackUptoSaid : Prop := journalBackUptoRow.holds Try.pinned (OpenSpec.upto journalBackSpec)

/-- 'humpyardlaw15.JournalCut', WHERE WHAT IT READS IS OF BULK AT MOST 1048576: true; the input reads as it did. -/
def journalCutUptoRow : OpenClaim := { program := "ythaeecoahbohnaa", sum := "479fc0d6636308de3bed3596384c73ededeebc86e43e956dbe46370c26342f10", func := "humpyard/humpyardlaw15.JournalCut", spec := "journalCut", unfollowed := true, recurses := true, apart := false, narrowed := true }
def JournalCutUptoSaid : Prop := journalCutUptoRow.holds Try.pinned (OpenSpec.upto journalCutSpec)

/-- 'humpyardlaw15.JournalChanged', WHERE WHAT IT READS IS OF BULK AT MOST 1048576: true; the input reads as it did. -/
def journalChangedUptoRow : OpenClaim := { program := "ythaeecoahbohnaa", sum := "479fc0d6636308de3bed3596384c73ededeebc86e43e956dbe46370c26342f10", func := "humpyard/humpyardlaw15.JournalChanged", spec := "journalChanged", unfollowed := true, recurses := true, apart := false, narrowed := true }
def JournalChangedUptoSaid : Prop := journalChangedUptoRow.holds Try.pinned (OpenSpec.upto journalChangedSpec)

/-- 'humpyardlaw15.JournalJoins', WHERE WHAT IT READS IS OF BULK AT MOST 1048576: true; the input reads as it did. -/
def journalJoinsUptoRow : OpenClaim := { program := "ythaeecoahbohnaa", sum := "479fc0d6636308de3bed3596384c73ededeebc86e43e956dbe46370c26342f10", func := "humpyard/humpyardlaw15.JournalJoins", spec := "journalJoins", unfollowed := true, recurses := true, apart := false, narrowed := true }
def JournalJoinsUptoSaid : Prop := journalJoinsUptoRow.holds Try.pinned (OpenSpec.upto journalJoinsSpec)

/-- 'humpyardlaw15.JournalApart', WHERE WHAT IT READS IS OF BULK AT MOST 1048576: true; the input reads as it did. -/
def journalApartUptoRow : OpenClaim := { program := "ythaeecoahbohnaa", sum := "479fc0d6636308de3bed3596384c73ededeebc86e43e956dbe46370c26342f10", func := "humpyard/humpyardlaw15.JournalApart", spec := "journalApart", unfollowed := true, recurses := true, apart := false, narrowed := true }
def JournalApartUptoSaid : Prop := journalApartUptoRow.holds Try.pinned (OpenSpec.upto journalApartSpec)

end Rows
end Go.Proofs.Ythaeecoahbohnaa
