/- Plain law of JournalJoins: two journals, one behind the other, read as both; what is read of any text is laid as it stood there. -/
import Derived.Test.YthaeecoahbohnaaOpen
import Derived.Test.YthaeecoahbohnaaLaid
namespace Go.Proofs.Ythaeecoahbohnaa.Pure
open Go Go.RowKit Go.Proofs.Ythaeecoahbohnaa.PJour Go.Proofs.YthaeecoahbohnaaW.PrintWords Go.Proofs.YthaeecoahbohnaaW.PrintLast Go.Proofs.YthaeecoahbohnaaW.PrintMore
open Go.Proofs.Ythaeecoahbohnaa.Plain
set_option linter.unusedVariables false
theorem wrap_sum (a b : Nat) (ha : a ≤ 4000) (hb : b ≤ 4000) : wrap64 ((a : Int) + (b : Int)) = ((a + b : Nat) : Int) := by unfold wrap64; omega
theorem size_small (a b : Nat) (ha : a ≤ 4000) (hb : b ≤ 4000) : a + b ≤ 9223372036854775807 ∧ a + b ≤ 29320310074000 := by omega
theorem len_small (a b : Nat) (ha : a ≤ 12) (hb : b ≤ 12) : 0 + a < 2932031007402 ∧ a + b < 2932031007402 ∧ a + b ≤ 9223372036854775807 := by omega
theorem joins_last (a b out : List S29) (s : ByteArray) (ha : ∀ x ∈ a, Right (recS x)) (hb : ∀ x ∈ b, Right (recS x)) (hna : a.length ≤ 12) (hnb : b.length ≤ 12) (hfa : (flat (a.map recS)).length ≤ 4000) (hfb : (flat (b.map recS)).length ≤ 4000)
    (hR : Reads s.data.toList (out.map recS)) :
    (if true = true then (if ([] : List (S29)).length + a.length < 2932031007402 then ((some (([] : List (S29)) ++ a : List (S29))).bind fun y305 => (if y305.length + b.length < 2932031007402 then ((journal_Same.f (a ++ b) (y305 ++ b)).bind fun t311 => (if t311 = true then (if ((flat ((a ++ b).map recS)).length : Int) = (wrap64 (((flatBytes a).size : Int) + ((flatBytes b).size : Int))) then (if ((flat (out.map recS)).length : Int) ≤ (s.size : Int) then (if 0 ≤ ((flat (out.map recS)).length : Int) then (some ((flatBytes out).toList == (s.extract 0 ((flat (out.map recS)).length : Int).toNat).toList)) else (none)) else (some false)) else (some false)) else (some false))) else (none))) else (none)) else (some false)) = some true := by
  obtain ⟨l1, l2, l3⟩ := len_small a.length b.length hna hnb
  obtain ⟨_, rest, hs, _⟩ := hR
  have hsl : (flat (out.map recS)).length ≤ s.size := by
    have e := congrArg List.length hs
    rw [data_length, List.length_append] at e
    rw [e]
    exact Nat.le_add_right _ _
  have c1 : ([] : List S29).length + a.length < 2932031007402 := l1
  have c2 : (([] : List S29) ++ a).length + b.length < 2932031007402 := l2
  have hr : ∀ x ∈ a ++ b, Right (recS x) := fun x hx => by
    rcases List.mem_append.mp hx with h | h
    · exact ha x h
    · exact hb x h
  have hls : (a ++ b).length ≤ 9223372036854775807 := by
    rw [List.length_append]
    exact l3
  have hsame : journal_Same.f (a ++ b) (([] : List S29) ++ a ++ b) = some true := same_self _ hls hr
  have c3 : ((flat ((a ++ b).map recS)).length : Int) = (wrap64 (((flatBytes a).size : Int) + ((flatBytes b).size : Int))) := by
    rw [flatBytes_size, flatBytes_size, wrap_sum _ _ hfa hfb, List.map_append, flat_append, List.length_append]
  have c4 : ((flat (out.map recS)).length : Int) ≤ (s.size : Int) := Int.ofNat_le.mpr hsl
  have c5 : (0 : Int) ≤ ((flat (out.map recS)).length : Int) := Int.natCast_nonneg _
  have c6 : ((flatBytes out).toList == (s.extract 0 (flat (out.map recS)).length).toList) = true := by
    rw [Lib.toList_data, Lib.toList_data, ext_list, List.drop_zero, Nat.sub_zero, hs, List.take_left' rfl]
    exact beq_self_eq_true _
  rw [if_pos rfl, if_pos c1, Option.bind_some, if_pos c2, hsame, Option.bind_some, if_pos rfl, if_pos c3, if_pos c4, if_pos c5, Int.toNat_natCast, c6]
theorem JournalJoins (l : List S29) (hl : ∀ x ∈ l, Fits x) (hm : l.length ≤ maxLen) (q : List S29) (hq : ∀ x ∈ q, Fits x) (hqm : q.length ≤ maxLen) (s : ByteArray) (hs : s.size ≤ 1048576) : ∃ k, humpyardlaw15_JournalJoins.f k l q s = some true := by
  obtain ⟨a, hoa, hga, hna⟩ := fit_tells l (fun x hx => (hl x hx).r)
  obtain ⟨b, hob, hgb, hnb⟩ := fit_tells q (fun x hx => (hq x hx).r)
  have ha : ∀ x ∈ a, Right (recS x) := fun x hx => (hga x hx).right
  have hb : ∀ x ∈ b, Right (recS x) := fun x hx => (hgb x hx).right
  have hfa : (flat (a.map recS)).length ≤ 4000 := Nat.le_trans (flat_good a hga) (by omega)
  have hfb : (flat (b.map recS)).length ≤ 4000 := Nat.le_trans (flat_good b hgb) (by omega)
  have hla := laid_tells a ha (Nat.le_trans hfa (by decide))
  have hlb := laid_tells b hb (Nat.le_trans hfb (by decide))
  obtain ⟨z1, z2⟩ := size_small _ _ hfa hfb
  have hAB : (flatBytes a ++ flatBytes b).data.toList = flat ((a ++ b).map recS) := by
    rw [list_append, List.map_append, flat_append]
    rfl
  have hr : ∀ x ∈ a ++ b, Right (recS x) := fun x hx => by
    rcases List.mem_append.mp hx with h | h
    · exact ha x h
    · exact hb x h
  have hsz : (flatBytes a ++ flatBytes b).size ≤ 29320310074000 := by
    rw [ByteArray.size_append]
    exact z2
  have hrd := read_of (flatBytes a ++ flatBytes b) hsz (a ++ b) (by rw [hAB]; exact reads_flat _ (right_map _ hr))
  obtain ⟨out, hro, hR⟩ := read_tells s (Nat.le_trans hs (by decide))
  have hor : ∀ x ∈ out, Right (recS x) := fun x hx => hR.1 _ (List.mem_map_of_mem hx)
  have hfo : (flat (out.map recS)).length ≤ 1048576 := by
    obtain ⟨_, rest, e, _⟩ := hR
    have e := congrArg List.length e
    rw [data_length, List.length_append] at e
    exact Nat.le_trans (Nat.le_add_right _ _) (e ▸ hs)
  have hlo := laid_tells out hor (Nat.le_trans hfo (by decide))
  refine EvK.one (EvK.bind awake_tells (hoa.bind (hob.bind (hla.bind (hlb.bind ?_)))))
  have c0 : (flatBytes a).size + (flatBytes b).size ≤ 9223372036854775807 := z1
  refine EvK.of ?_ (fun K => if_pos c0)
  refine hrd.bind (hro.bind (hlo.bind ?_))
  exact (EvK.now true).of fun K => joins_last a b out s ha hb hna hnb hfa hfb hR
end Go.Proofs.Ythaeecoahbohnaa.Pure
