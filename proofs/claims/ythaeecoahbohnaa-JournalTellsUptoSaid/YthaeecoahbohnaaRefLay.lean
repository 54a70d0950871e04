/- Plain laws on the document's num, Lay and value of chapter 15. -/
import Derived.Test.YthaeecoahbohnaaFit
import Derived.Test.YthaeecoahbohnaaPJourx4
namespace Go.Proofs.Ythaeecoahbohnaa.Plain
open Go Go.RowKit Go.Proofs.Ythaeecoahbohnaa.PJour Go.Proofs.YthaeecoahbohnaaW.PrintWords Go.Proofs.YthaeecoahbohnaaW.PrintLast Go.Proofs.YthaeecoahbohnaaW.PrintMore
set_option linter.unusedVariables false
def beB (n : Nat) (v : Int) : ByteArray := ⟨(be n v).toArray⟩
theorem beB_list (n : Nat) (v : Int) : (beB n v).data.toList = be n v := rfl
theorem beB_size (n : Nat) (v : Int) : (beB n v).size = n := be_len n v
theorem one_byte (d : Int) : (strOfNums ([d] : List Int)).data.toList = [UInt8.ofNat d.toNat] := by simp [strOfNums]
theorem div_step (v : Int) (i : Nat) : v / 256 ^ i / 256 = v / 256 ^ (i + 1) := by
  rw [Int.pow_succ, Int.ediv_ediv_of_nonneg (Int.le_of_lt (Int.pow_pos (by decide)))]
theorem num_step (n i K : Nat) (v : Int) (hi : i < n) (hn : n ≤ 8) : humpyardref15_num.l0 (K + 1) (n : Int) (v / 256 ^ i) (beB i v) (i : Int) = humpyardref15_num.l0 K (n : Int) (v / 256 ^ (i + 1)) (beB (i + 1) v) ((i + 1 : Nat) : Int) := by
  have hw : wrap64 ((i : Int) + 1) = ((i + 1 : Nat) : Int) := by unfold wrap64; omega
  have c1 : (i : Int) < (n : Int) := Int.ofNat_lt.mpr hi
  have e1 : strOfNums ([v / 256 ^ i % 256] : List Int) ++ beB i v = beB (i + 1) v := by
    apply bytes_ext
    rw [list_append, one_byte]
    rfl
  have e2 : (strOfNums ([v / 256 ^ i % 256] : List Int)).size = 1 := by
    rw [← data_length, one_byte]
    rfl
  have c2 : (strOfNums ([v / 256 ^ i % 256] : List Int)).size + (beB i v).size ≤ 9223372036854775807 := by
    rw [e2, beB_size]
    omega
  rw [humpyardref15_num.l0]
  rw [if_pos c1, Option.bind_some, if_pos c2, e1, hw, div_step]
theorem num_l0 (n : Nat) (v : Int) (hn : n ≤ 8) (d : Nat) : ∀ i : Nat, n - i = d → i ≤ n → EvK (fun K => humpyardref15_num.l0 K (n : Int) (v / 256 ^ i) (beB i v) (i : Int)) (beB n v) := by
  induction d with
  | zero =>
    intro i hd hi
    obtain rfl : i = n := by omega
    have c1 : ¬ ((i : Int) < (i : Int)) := Int.lt_irrefl _
    refine (EvK.now _).succ fun K => ?_
    show humpyardref15_num.l0 (K + 1) (i : Int) (v / 256 ^ i) (beB i v) (i : Int) = _
    rw [humpyardref15_num.l0]
    rw [if_neg c1]
  | succ d ih =>
    intro i hd hi
    exact (ih (i + 1) (by omega) (by omega)).succ fun K => num_step n i K v (by omega) hn
theorem num_tells (n : Nat) (v : Int) (hn : n ≤ 8) : EvK (fun K => humpyardref15_num.f K (n : Int) v) (beB n v) := by
  have h := num_l0 n v hn n 0 (by omega) (by omega)
  refine h.of fun K => ?_
  show humpyardref15_num.l0 K (n : Int) v (⟨#[]⟩ : ByteArray) 0 = humpyardref15_num.l0 K (n : Int) (v / 1) (beB 0 v) ((0 : Nat) : Int)
  rw [Int.ediv_one]
  rfl
/-- The document's Lay: the loop over the numbers. -/
def numsB (ns : List Int) : ByteArray := ⟨(ns.flatMap (be 8)).toArray⟩
theorem rdi_drop (l : List Int) (i : Nat) (h : i < l.length) : l.drop i = rd l (i : Int) :: l.drop (i + 1) := by
  unfold rd
  rw [Int.toNat_natCast, List.drop_eq_getElem_cons h, List.getD_eq_getElem?_getD, List.getElem?_eq_getElem h]
  rfl
def tailF (K : Nat) (x4 t : ByteArray) : Option (ByteArray × Int) := (if x4.size + t.size ≤ 9223372036854775807 then ((humpyardref15_num.f K 4 ((x4 ++ t).size : Int)).bind fun t153 => (if t153.size + (x4 ++ t).size ≤ 9223372036854775807 then ((humpyardref06_Sum.f (t153 ++ (x4 ++ t))).bind fun t154 => ((humpyardref15_num.f K 4 (wrap64 (t154))).bind fun t155 => (if (t153 ++ (x4 ++ t)).size + t155.size ≤ 9223372036854775807 then (some ((t153 ++ (x4 ++ t)) ++ t155, 0)) else (none)))) else (none))) else (none))
theorem tail_ev (k : Int) (ns : List Int) (t x4 : ByteArray) (hns : ns.length ≤ 255) (ht : t.size ≤ 20000) (hx : x4.data.toList = be 1 k ++ be 1 ns.length ++ ns.flatMap (be 8)) :
    EvK (fun K => tailF K x4 t) (⟨(recOf k ns t.data.toList).toArray⟩, 0) := by
  have hb : (x4 ++ t).data.toList = bodyOf k ns t.data.toList := by
    rw [list_append, hx]
    rfl
  have hxs : x4.size = 2 + 8 * ns.length := by
    rw [← data_length, hx, List.length_append, List.length_append, be_len, be_len, flat8_len]
  have hbs : (x4 ++ t).size = (bodyOf k ns t.data.toList).length := by rw [← data_length, hb]
  have hbs2 : (x4 ++ t).size ≤ 30000 := by rw [ByteArray.size_append]; omega
  have h1 := num_tells 4 ((x4 ++ t).size : Int) (by omega)
  have hh : (beB 4 ((x4 ++ t).size : Int) ++ (x4 ++ t)).data.toList = headOf k ns t.data.toList := by
    rw [list_append, beB_list, hb, hbs]
    rfl
  have hhs : (beB 4 ((x4 ++ t).size : Int) ++ (x4 ++ t)).size ≤ 30004 := by rw [ByteArray.size_append, beB_size]; omega
  have hsum : humpyardref06_Sum.f (beB 4 ((x4 ++ t).size : Int) ++ (x4 ++ t)) = some (fnv 2166136261 (headOf k ns t.data.toList)) := by
    have c : (beB 4 ((x4 ++ t).size : Int) ++ (x4 ++ t)).size ≤ 9223372036854775807 := by omega
    rw [← hh]
    exact if_pos c
  have hr := fnv_range (headOf k ns t.data.toList) 2166136261 (by decide) (by decide)
  have hw : wrap64 (fnv 2166136261 (headOf k ns t.data.toList)) = fnv 2166136261 (headOf k ns t.data.toList) := by
    obtain ⟨z, hz⟩ : ∃ z, z = fnv 2166136261 (headOf k ns t.data.toList) := ⟨_, rfl⟩
    rw [← hz] at hr ⊢
    unfold wrap64
    omega
  have h2 := num_tells 4 (fnv 2166136261 (headOf k ns t.data.toList)) (by omega)
  have c1 : x4.size + t.size ≤ 9223372036854775807 := by omega
  have c2 : (beB 4 ((x4 ++ t).size : Int)).size + (x4 ++ t).size ≤ 9223372036854775807 := by rw [beB_size]; omega
  have c3 : (beB 4 ((x4 ++ t).size : Int) ++ (x4 ++ t)).size + (beB 4 (fnv 2166136261 (headOf k ns t.data.toList))).size ≤ 9223372036854775807 := by rw [beB_size]; omega
  have hfin : (beB 4 ((x4 ++ t).size : Int) ++ (x4 ++ t)) ++ beB 4 (fnv 2166136261 (headOf k ns t.data.toList)) = ⟨(recOf k ns t.data.toList).toArray⟩ := by
    apply bytes_ext
    rw [list_append, hh, beB_list]
    rfl
  obtain ⟨K1, h1⟩ := h1
  obtain ⟨K2, h2⟩ := h2
  refine ⟨K1 + K2, fun K hK => ?_⟩
  have a1 : humpyardref15_num.f K 4 ((x4 ++ t).size : Int) = some (beB 4 ((x4 ++ t).size : Int)) := h1 K (by omega)
  have a2 : humpyardref15_num.f K 4 (fnv 2166136261 (headOf k ns t.data.toList)) = some (beB 4 (fnv 2166136261 (headOf k ns t.data.toList))) := h2 K (by omega)
  show tailF K x4 t = _
  unfold tailF
  rw [if_pos c1, a1, Option.bind_some, if_pos c2, hsum, Option.bind_some, hw, a2, Option.bind_some, if_pos c3, hfin]
theorem reflay_l0 (k : Int) (ns : List Int) (t : ByteArray) (hns : ns.length ≤ 255) (ht : t.size ≤ 20000) (d : Nat) : ∀ (i : Nat) (x4 : ByteArray), ns.length - i = d → i ≤ ns.length → x4.data.toList = be 1 k ++ be 1 ns.length ++ (ns.take i).flatMap (be 8) →
    EvK (fun K => humpyardref15_Lay.l0 K x4 (i : Int) k ns t) (⟨(recOf k ns t.data.toList).toArray⟩, 0) := by
  induction d with
  | zero =>
    intro i x4 hd hi hx
    have c1 : ¬ ((i : Int) < (ns.length : Int)) := by omega
    rw [List.take_of_length_le (by omega)] at hx
    refine (tail_ev k ns t x4 hns ht hx).succ fun K => ?_
    show humpyardref15_Lay.l0 (K + 1) x4 (i : Int) k ns t = _
    rw [humpyardref15_Lay.l0]
    rw [if_neg c1]
    rfl
  | succ d ih =>
    intro i x4 hd hi hx
    have hil : i < ns.length := by omega
    have c1 : (i : Int) < (ns.length : Int) := by omega
    have c2 : (0 : Int) ≤ (i : Int) := by omega
    have hw : wrap64 ((i : Int) + 1) = ((i + 1 : Nat) : Int) := by unfold wrap64; omega
    have hxs : x4.size ≤ 3000 := by
      rw [← data_length, hx, List.length_append, List.length_append, be_len, be_len, flat8_len, List.length_take]
      omega
    have c3 : x4.size + (beB 8 (rd ns (i : Int))).size ≤ 9223372036854775807 := by rw [beB_size]; omega
    have hnx : (x4 ++ beB 8 (rd ns (i : Int))).data.toList = be 1 k ++ be 1 ns.length ++ (ns.take (i + 1)).flatMap (be 8) := by
      have e : ns.take (i + 1) = ns.take i ++ [rd ns (i : Int)] := by
        unfold rd
        rw [Int.toNat_natCast, List.getD_eq_getElem?_getD, List.getElem?_eq_getElem hil, List.take_succ_eq_append_getElem hil]
        rfl
      rw [list_append, hx, e, List.flatMap_append, beB_list, List.append_assoc]
      congr 1
    have hn := num_tells 8 (rd ns (i : Int)) (by omega)
    refine EvK.succ (hn.bind (g := fun K t152 => (if x4.size + t152.size ≤ 9223372036854775807 then (humpyardref15_Lay.l0 K (x4 ++ t152) ((i + 1 : Nat) : Int) k ns t) else (none))) ((ih (i + 1) _ (by omega) (by omega) hnx).of fun K => if_pos c3)) fun K => ?_
    show humpyardref15_Lay.l0 (K + 1) x4 (i : Int) k ns t = _
    rw [humpyardref15_Lay.l0]
    rw [if_pos c1, if_pos c2, hw]
    rfl
theorem reflay_tells (k : Int) (ns : List Int) (t : ByteArray) : EvK (fun K => humpyardref15_Lay.f K k ns t) (layOf k ns t) := by
  have bad : EvK (fun K => humpyardref15_Lay.j0 K true k ns t) ((⟨#[]⟩ : ByteArray), 1) := (EvK.now _).succ fun K => by
    show humpyardref15_Lay.j0 (K + 1) true k ns t = _
    rw [humpyardref15_Lay.j0]
    exact if_pos rfl
  by_cases h0 : k < 0 ∨ 255 < k ∨ 255 < ns.length ∨ 20000 < t.size
  · have e : layOf k ns t = ((⟨#[]⟩ : ByteArray), 1) := if_pos h0
    rw [e]
    refine bad.of fun K => ?_
    show humpyardref15_Lay.f K k ns t = _
    unfold humpyardref15_Lay.f
    by_cases a1 : k < 0
    · rw [if_pos a1]
    rw [if_neg a1]
    by_cases a2 : k > 255
    · rw [if_pos a2]
    rw [if_neg a2]
    by_cases a3 : (ns.length : Int) > 255
    · rw [if_pos a3]
    rw [if_neg a3]
    have a4 : (t.size : Int) > 20000 := by omega
    rw [decide_eq_true a4]
  · have e : layOf k ns t = (⟨(recOf k ns t.data.toList).toArray⟩, 0) := if_neg h0
    rw [e]
    have a1 : ¬ (k < 0) := fun h => h0 (.inl h)
    have a2 : ¬ (k > 255) := fun h => h0 (.inr (.inl h))
    have hns : ns.length ≤ 255 := by omega
    have hts : t.size ≤ 20000 := by omega
    have a3 : ¬ ((ns.length : Int) > 255) := by omega
    have a4 : ¬ ((t.size : Int) > 20000) := by omega
    have n1 := num_tells 1 k (by omega)
    have n2 := num_tells 1 (ns.length : Int) (by omega)
    have c1 : (beB 1 k).size + (beB 1 (ns.length : Int)).size ≤ 9223372036854775807 := by rw [beB_size, beB_size]; decide
    have hx : (beB 1 k ++ beB 1 (ns.length : Int)).data.toList = be 1 k ++ be 1 ns.length ++ (ns.take 0).flatMap (be 8) := by
      rw [list_append]
      exact (List.append_nil _).symm
    have hl := reflay_l0 k ns t hns hts ns.length 0 _ rfl (Nat.zero_le _) hx
    have hj : EvK (fun K => humpyardref15_Lay.j0 K false k ns t) (⟨(recOf k ns t.data.toList).toArray⟩, 0) := by
      refine EvK.succ (n1.bind (g := fun K t149 => ((humpyardref15_num.f K ((1 : Nat) : Int) (ns.length : Int)).bind fun t150 => (if t149.size + t150.size ≤ 9223372036854775807 then (humpyardref15_Lay.l0 K (t149 ++ t150) 0 k ns t) else (none)))) (n2.bind (hl.of fun K => if_pos c1))) fun K => ?_
      show humpyardref15_Lay.j0 (K + 1) false k ns t = _
      rw [humpyardref15_Lay.j0]
      exact if_neg (by decide)
    refine hj.of fun K => ?_
    show humpyardref15_Lay.f K k ns t = _
    unfold humpyardref15_Lay.f
    rw [if_neg a1, if_neg a2, if_neg a3, decide_eq_false a4]
end Go.Proofs.Ythaeecoahbohnaa.Plain
