/- Plain laws on the document's value and Read of chapter 15. For texts of at most 29320310074000 bytes. -/
import Derived.Test.YthaeecoahbohnaaRefLay
import Derived.Test.YthaeecoahbohnaaPJourx6
namespace Go.Proofs.Ythaeecoahbohnaa.Plain
open Go Go.RowKit Go.Proofs.Ythaeecoahbohnaa.PJour Go.Proofs.YthaeecoahbohnaaW.PrintWords Go.Proofs.YthaeecoahbohnaaW.PrintLast Go.Proofs.YthaeecoahbohnaaW.PrintMore
set_option linter.unusedVariables false
theorem refvalue_l0 (s : ByteArray) (hs : s.size ≤ 140737488355328) (d : Nat) : ∀ i : Nat, s.size - i = d → i ≤ s.size → EvK (fun K => humpyardref15_value.l0 K s (bigOf (s.data.toList.take i)) (i : Int)) (bigOf s.data.toList) := by
  have hsl : s.data.toList.length = s.size := data_length s
  induction d with
  | zero =>
    intro i hd hi
    have c1 : ¬ ((i : Int) < (s.size : Int)) := by omega
    rw [List.take_of_length_le (by omega)]
    refine (EvK.now _).succ fun K => ?_
    show humpyardref15_value.l0 (K + 1) s _ (i : Int) = _
    rw [humpyardref15_value.l0]
    rw [if_neg c1]
  | succ d ih =>
    intro i hd hi
    have hil : i < s.size := by omega
    have c1 : (i : Int) < (s.size : Int) := by omega
    have c2 : (0 : Int) ≤ (i : Int) := by omega
    have hw : wrap64 ((i : Int) + 1) = ((i + 1 : Nat) : Int) := by unfold wrap64; omega
    refine (ih (i + 1) (by omega) (by omega)).succ fun K => ?_
    have e : bigOf (s.data.toList.take (i + 1)) = Go.bits .or .i64 (wrap64 (bigOf (s.data.toList.take i) * 256)) (wrap64 (bt s (i : Int))) := by
      rw [List.take_succ_eq_append_getElem (by omega : i < s.data.toList.length), bigOf_snoc, bt_list s i hil]
      rfl
    show humpyardref15_value.l0 (K + 1) s _ (i : Int) = _
    rw [humpyardref15_value.l0]
    rw [if_pos c1, if_pos c2, ← e, hw]
theorem refvalue_tells (s : ByteArray) (hs : s.size ≤ 140737488355328) : EvK (fun K => humpyardref15_value.f K s) (bigOf s.data.toList) :=
  refvalue_l0 s hs s.size 0 rfl (Nat.zero_le _)
def finF (s : ByteArray) (acc : List S29) (o n : Nat) (k : Int) (nums : List Int) (txt : ByteArray) (K : Nat) : Option (List S29 × Int) :=
  ((humpyardref15_Lay.f K k nums txt).bind fun bt172 => (if bt172.2 = 0 then (if 0 ≤ (o : Int) then (if (o : Int) ≤ ((o + n + 8 : Nat) : Int) then (if ((o + n + 8 : Nat) : Int) ≤ (s.size : Int) then (if bt172.1.toList = (s.extract o (o + n + 8)).toList then (if acc.length < 2932031007402 then (humpyardref15_Read.l0 K s (acc ++ [(⟨k, nums, txt⟩ : S29)]) ((o + n + 8 : Nat) : Int)) else (none)) else (some (acc, (o : Int)))) else (none)) else (none)) else (none)) else (some (acc, (o : Int)))))
theorem l1_last (s b : ByteArray) (acc : List S29) (o n m : Nat) (k : Int) (nums : List Int) (z : ByteArray) (K : Nat) (hm : m ≤ 255) (hfit : 2 + 8 * m ≤ b.size) (hw : wrap64 ((wrap64 ((o : Int) + (n : Int))) + 8) = ((o + n + 8 : Nat) : Int)) :
    humpyardref15_Read.l1 (K + 1) s acc (o : Int) (n : Int) b (m : Int) (m : Int) k nums z = finF s acc o n k nums (b.extract (2 + 8 * m) b.size) K := by
  have e : wrap64 (2 + wrap64 (8 * (m : Int))) = ((2 + 8 * m : Nat) : Int) := by unfold wrap64; omega
  have h1 : ¬ ((m : Int) < (m : Int)) := Int.lt_irrefl _
  have h2 : (0 : Int) ≤ ((2 + 8 * m : Nat) : Int) := by omega
  have h3 : ((2 + 8 * m : Nat) : Int) ≤ (b.size : Int) := by omega
  rw [humpyardref15_Read.l1]
  rw [if_neg h1, e, if_pos h2, if_pos h3, hw, Int.toNat_natCast, Int.toNat_natCast, Int.toNat_natCast]
  rfl
theorem l1_more (s b : ByteArray) (acc : List S29) (o n m i : Nat) (k : Int) (nums : List Int) (z : ByteArray) (K : Nat) (hm : m ≤ 255) (him : i < m) (hfit : 2 + 8 * m ≤ b.size) :
    humpyardref15_Read.l1 (K + 1) s acc (o : Int) (n : Int) b (m : Int) (i : Int) k nums z = ((humpyardref15_value.f K (b.extract (2 + 8 * i) (2 + 8 * i + 8))).bind fun t168 => (if nums.length < 17592186044416 then (humpyardref15_Read.l1 K s acc (o : Int) (n : Int) b (m : Int) ((i + 1 : Nat) : Int) k (nums ++ [t168]) z) else (none))) := by
  have e1 : wrap64 (2 + wrap64 (8 * (i : Int))) = ((2 + 8 * i : Nat) : Int) := by unfold wrap64; omega
  have e2 : wrap64 ((i : Int) + 1) = ((i + 1 : Nat) : Int) := by unfold wrap64; omega
  have e3 : wrap64 (10 + wrap64 (8 * (i : Int))) = ((2 + 8 * i + 8 : Nat) : Int) := by unfold wrap64; omega
  have h1 : (i : Int) < (m : Int) := by omega
  have h2 : (0 : Int) ≤ ((2 + 8 * i : Nat) : Int) := by omega
  have h3 : ((2 + 8 * i : Nat) : Int) ≤ ((2 + 8 * i + 8 : Nat) : Int) := by omega
  have h4 : ((2 + 8 * i + 8 : Nat) : Int) ≤ (b.size : Int) := by omega
  rw [humpyardref15_Read.l1]
  rw [if_pos h1, e1, e2, e3, if_pos h2, if_pos h3, if_pos h4, Int.toNat_natCast, Int.toNat_natCast]
theorem l1_all (s b : ByteArray) (acc : List S29) (o n m : Nat) (k : Int) (z : ByteArray) (r : List S29 × Int) (hb : b.size ≤ 140737488355328) (hm : m ≤ 255) (hfit : 2 + 8 * m ≤ b.size) (hw : wrap64 ((wrap64 ((o : Int) + (n : Int))) + 8) = ((o + n + 8 : Nat) : Int))
    (hfin : EvK (finF s acc o n k (nums8 m (b.data.toList.drop 2)) (b.extract (2 + 8 * m) b.size)) r) (d : Nat) : ∀ (i : Nat) (nums : List Int), i ≤ m → m - i = d → nums.length ≤ i → nums ++ nums8 d (b.data.toList.drop (2 + 8 * i)) = nums8 m (b.data.toList.drop 2) →
    EvK (fun K => humpyardref15_Read.l1 K s acc (o : Int) (n : Int) b (m : Int) (i : Int) k nums z) r := by
  induction d with
  | zero =>
    intro i nums hi hd hl hn
    obtain rfl : i = m := by omega
    rw [nums8, List.append_nil] at hn
    rw [← hn] at hfin
    exact hfin.succ fun K => l1_last s b acc o n i k nums z K hm hfit hw
  | succ d ih =>
    intro i nums hi hd hl hn
    have hz : (b.extract (2 + 8 * i) (2 + 8 * i + 8)).size = 2 + 8 * i + 8 - (2 + 8 * i) := ext_size _ _ _ (by omega)
    have hv := refvalue_tells (b.extract (2 + 8 * i) (2 + 8 * i + 8)) (by omega)
    rw [ext_list, show 2 + 8 * i + 8 - (2 + 8 * i) = 8 from by omega] at hv
    have hla : nums.length < 17592186044416 := Nat.lt_of_le_of_lt (Nat.le_trans hl (Nat.le_trans hi hm)) (by decide)
    have hl2 : (nums ++ [bigOf ((b.data.toList.drop (2 + 8 * i)).take 8)]).length ≤ i + 1 := by rw [List.length_append, List.length_singleton]; omega
    have hn2 : (nums ++ [bigOf ((b.data.toList.drop (2 + 8 * i)).take 8)]) ++ nums8 d (b.data.toList.drop (2 + 8 * (i + 1))) = nums8 m (b.data.toList.drop 2) := by
      rw [nums8, List.drop_drop] at hn
      rw [List.append_assoc, List.singleton_append]
      exact hn
    exact (hv.bind ((ih (i + 1) _ (by omega) (by omega) hl2 hn2).of fun K => if_pos hla)).succ fun K => l1_more s b acc o n m i k nums z K hm (by omega) hfit
end Go.Proofs.Ythaeecoahbohnaa.Plain
