/- Plain law of JournalCut: a journal cut anywhere reads as the records that stand whole ahead of the cut. -/
import Derived.Test.YthaeecoahbohnaaOpen
namespace Go.Proofs.Ythaeecoahbohnaa.Pure
open Go Go.RowKit Go.Proofs.Ythaeecoahbohnaa.PJour Go.Proofs.YthaeecoahbohnaaW.PrintWords Go.Proofs.YthaeecoahbohnaaW.PrintLast Go.Proofs.YthaeecoahbohnaaW.PrintMore
open Go.Proofs.Ythaeecoahbohnaa.Plain
set_option linter.unusedVariables false
theorem rd_sizes (out : List S29) (i : Nat) (h : i < out.length) : rd (out.map (fun x => ((recBytes x).size : Int))) (i : Int) = ((recBytes (rd_T29 out (i : Int))).size : Int) := by
  unfold rd rd_T29
  rw [Int.toNat_natCast, List.getD_eq_getElem?_getD, List.getElem?_map, List.getD_eq_getElem?_getD, List.getElem?_eq_getElem h]
  rfl
theorem flat_take_next (out : List S29) (i : Nat) (h : i < out.length) : flat ((out.take (i + 1)).map recS) = flat ((out.take i).map recS) ++ recB (recS (rd_T29 out (i : Int))) := by
  have e : out.take (i + 1) = out.take i ++ [rd_T29 out (i : Int)] := by
    unfold rd_T29
    rw [Int.toNat_natCast, List.getD_eq_getElem?_getD, List.getElem?_eq_getElem h, List.take_succ_eq_append_getElem h]
    rfl
  rw [e, List.map_append, flat_append]
  rw [List.map_cons, List.map_nil, flat_one]
theorem flat_split (out : List S29) (i : Nat) : flat (out.map recS) = flat ((out.take i).map recS) ++ flat ((out.drop i).map recS) := by
  rw [← flat_append, ← List.map_append, List.take_append_drop]
theorem wrap_add (a b c : Nat) (h : c = a + b) (hb : c ≤ 4000) : wrap64 ((a : Int) + (b : Int)) = (c : Int) := by unfold wrap64; omega
theorem wrap_one (i : Nat) (h : i ≤ 4000) : wrap64 ((i : Int) + 1) = ((i + 1 : Nat) : Int) := by unfold wrap64; omega
/-- What a cut leaves. -/
theorem cut_reads (out : List S29) (hr : ∀ x ∈ out, Right (recS x)) (i n : Nat) (hi : i ≤ out.length) (hn : n ≤ (flat (out.map recS)).length) (h0 : (flat ((out.take i).map recS)).length ≤ n)
    (h1 : i < out.length → n < (flat ((out.take (i + 1)).map recS)).length) : Reads ((flat (out.map recS)).take n) ((out.take i).map recS) := by
  refine ⟨right_map _ fun x hx => hr x (List.mem_of_mem_take hx), (flat ((out.drop i).map recS)).take (n - (flat ((out.take i).map recS)).length), ?_, ?_⟩
  · rw [flat_split out i, List.take_append, List.take_of_length_le h0]
  · by_cases h : i < out.length
    · have h2 := h1 h
      rw [flat_take_next out i h, List.length_append] at h2
      rw [rd_drop out i h, List.map_cons]
      have e : flat (recS (rd_T29 out (i : Int)) :: (out.drop (i + 1)).map recS) = recB (recS (rd_T29 out (i : Int))) ++ flat ((out.drop (i + 1)).map recS) := rfl
      rw [e, List.take_append_of_le_length (by omega)]
      exact noRec_cut _ (hr _ (rd_mem out i h)) _ (List.take_prefix _ _) (by rw [List.length_take]; omega)
    · have e : out.drop i = [] := List.drop_eq_nil_of_le (by omega)
      rw [e]
      have e2 : flat (([] : List S29).map recS) = [] := rfl
      rw [e2, List.take_nil]
      exact noRec_nil
theorem cut_end (out : List S29) (hr : ∀ x ∈ out, Right (recS x)) (hl : out.length ≤ 12) (i n : Nat) (hi : i ≤ out.length) (hs : (flat (out.map recS)).length ≤ 4000) (hn : n ≤ (flat (out.map recS)).length) (h0 : (flat ((out.take i).map recS)).length ≤ n)
    (h1 : i < out.length → n < (flat ((out.take (i + 1)).map recS)).length) :
    EvK (fun K => (journal_Read.f K ((flatBytes out).extract 0 n)).bind fun b => (journal_Same.f b.1 (out.take i)).bind fun t => (if t = true then (some (b.2 == ((flat ((out.take i).map recS)).length : Int))) else (some false))) true := by
  have hre : Reads ((flatBytes out).extract 0 n).data.toList ((out.take i).map recS) := by
    rw [ext_list, List.drop_zero, Nat.sub_zero]
    exact cut_reads out hr i n hi hn h0 h1
  have hez : ((flatBytes out).extract 0 n).size = n - 0 := ext_size _ _ _ (by rw [flatBytes_size]; exact hn)
  have hez2 : ((flatBytes out).extract 0 n).size ≤ 29320310074000 := by omega
  have hrd := read_of ((flatBytes out).extract 0 n) hez2 (out.take i) hre
  have hsame : journal_Same.f (out.take i) (out.take i) = some true := same_self _ (by have e : (out.take i).length ≤ out.length := List.length_take_le' _ _; omega) fun x hx => hr x (List.mem_of_mem_take hx)
  refine hrd.bind ((EvK.now true).of fun K => ?_)
  show (journal_Same.f (out.take i) (out.take i)).bind _ = _
  rw [hsame, Option.bind_some, if_pos rfl]
  exact congrArg some (beq_self_eq_true _)
theorem cut_l0 (out : List S29) (hr : ∀ x ∈ out, Right (recS x)) (hl : out.length ≤ 12) (n : Nat) (hs : (flat (out.map recS)).length ≤ 4000) (hn : n ≤ (flat (out.map recS)).length) (d : Nat) : ∀ i : Nat, out.length - i = d → i ≤ out.length → (flat ((out.take i).map recS)).length ≤ n →
    EvK (fun K => humpyardlaw15_JournalCut.l0 K true out (flatBytes out) (out.map (fun x => ((recBytes x).size : Int))) (n : Int) (i : Int) ((flat ((out.take i).map recS)).length : Int)) true := by
  have c3 : (0 : Int) ≤ (n : Int) := Int.natCast_nonneg n
  have c4 : (n : Int) ≤ ((flatBytes out).size : Int) := Int.ofNat_le.mpr hn
  induction d with
  | zero =>
    intro i hd hi h0
    have c1 : ¬ ((i : Int) < (out.length : Int)) := by omega
    have c5 : (0 : Int) ≤ (i : Int) := Int.natCast_nonneg i
    have c6 : (i : Int) ≤ (out.length : Int) := Int.ofNat_le.mpr hi
    have h1 : i < out.length → n < (flat ((out.take (i + 1)).map recS)).length := fun h => absurd (Int.ofNat_lt.mpr h) c1
    refine (cut_end out hr hl i n hi hs hn h0 h1).succ fun K => ?_
    show humpyardlaw15_JournalCut.l0 (K + 1) _ _ _ _ _ _ _ = _
    rw [humpyardlaw15_JournalCut.l0]
    rw [if_neg c1, if_pos c3, if_pos c4, Int.toNat_natCast]
    congr 1
    funext b
    rw [if_pos rfl, if_pos c5, if_pos c6, Int.toNat_natCast]
  | succ d ih =>
    intro i hd hi h0
    have hil : i < out.length := by omega
    have hd' : out.length - (i + 1) = d := by omega
    have c1 : (i : Int) < (out.length : Int) := Int.ofNat_lt.mpr hil
    have c2 : (0 : Int) ≤ (i : Int) := Int.natCast_nonneg i
    have c5 : (i : Int) < ((out.map (fun x => ((recBytes x).size : Int))).length : Int) := by rw [List.length_map]; exact c1
    have c6 : (i : Int) ≤ (out.length : Int) := Int.ofNat_le.mpr hi
    have hnx : (flat ((out.take (i + 1)).map recS)).length = (flat ((out.take i).map recS)).length + (recBytes (rd_T29 out (i : Int))).size :=
      (congrArg List.length (flat_take_next out i hil)).trans List.length_append
    have hle : (flat ((out.take (i + 1)).map recS)).length ≤ (flat (out.map recS)).length := by
      rw [flat_split out (i + 1), List.length_append]
      exact Nat.le_add_right _ _
    have hw1 : wrap64 (((flat ((out.take i).map recS)).length : Int) + rd (out.map (fun x => ((recBytes x).size : Int))) (i : Int)) = ((flat ((out.take (i + 1)).map recS)).length : Int) := by
      rw [rd_sizes out i hil]
      exact wrap_add _ _ _ hnx (Nat.le_trans hle hs)
    have hw2 : wrap64 ((i : Int) + 1) = ((i + 1 : Nat) : Int) := wrap_one i (Nat.le_trans hi (Nat.le_trans hl (by decide)))
    by_cases hc : (flat ((out.take (i + 1)).map recS)).length ≤ n
    · have c7 : ((flat ((out.take (i + 1)).map recS)).length : Int) ≤ (n : Int) := Int.ofNat_le.mpr hc
      refine (ih (i + 1) hd' hil hc).succ fun K => ?_
      show humpyardlaw15_JournalCut.l0 (K + 1) _ _ _ _ _ _ _ = _
      rw [humpyardlaw15_JournalCut.l0]
      rw [if_pos c1, if_pos c2, if_pos c5, hw1, if_pos c7, hw2]
    · have c7 : ¬ (((flat ((out.take (i + 1)).map recS)).length : Int) ≤ (n : Int)) := fun h => hc (Int.ofNat_le.mp h)
      refine (cut_end out hr hl i n hi hs hn h0 (fun _ => Nat.lt_of_not_le hc)).succ fun K => ?_
      show humpyardlaw15_JournalCut.l0 (K + 1) _ _ _ _ _ _ _ = _
      rw [humpyardlaw15_JournalCut.l0]
      rw [if_pos c1, if_pos c2, if_pos c5, hw1, if_neg c7, if_pos c3, if_pos c4, Int.toNat_natCast]
      congr 1
      funext b
      rw [if_pos rfl, if_pos c6, Int.toNat_natCast]
theorem JournalCut (l : List S29) (hl : ∀ x ∈ l, Fits x) (hm : l.length ≤ maxLen) (a : Int) (ha : (Lit.int .i64 a).wf = true) : ∃ k, humpyardlaw15_JournalCut.f k l a = some true := by
  obtain ⟨out, ho, hg, hn⟩ := fit_tells l (fun x hx => (hl x hx).r)
  have hr : ∀ x ∈ out, Right (recS x) := fun x hx => (hg x hx).right
  have hf := flat_good out hg
  have hf2 : (flat (out.map recS)).length ≤ 4000 := by omega
  have hla := laid_tells out hr (by omega)
  have hw : wrap64 (((flatBytes out).size : Int) + 1) = (((flat (out.map recS)).length + 1 : Nat) : Int) := by
    rw [flatBytes_size]
    unfold wrap64
    omega
  obtain ⟨n, hnl, hp⟩ := pick_nat a ((flat (out.map recS)).length + 1) (int_range ha) (by omega)
  have hc := cut_l0 out hr hn n hf2 (by omega) out.length 0 rfl (by omega) (Nat.zero_le _)
  refine EvK.one (EvK.bind awake_tells (ho.bind (hla.bind ?_)))
  refine hc.of fun K => ?_
  show (humpyardlaw15_pick.f a (wrap64 (((flatBytes out).size : Int) + 1))).bind _ = _
  rw [hw, hp, Option.bind_some]
  rfl
end Go.Proofs.Ythaeecoahbohnaa.Pure
