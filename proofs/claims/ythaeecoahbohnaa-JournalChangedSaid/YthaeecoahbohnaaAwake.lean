/- Plain laws on the printed functions of chapter 15's laws: Lay, Same, awake. -/
import Derived.Test.YthaeecoahbohnaaRead
import Derived.Test.YthaeecoahbohnaaPJourx5
import Derived.Test.YthaeecoahbohnaaPJourx7
namespace Go.Proofs.Ythaeecoahbohnaa.Plain
open Go Go.RowKit Go.Proofs.Ythaeecoahbohnaa.PJour Go.Proofs.YthaeecoahbohnaaW.PrintWords Go.Proofs.YthaeecoahbohnaaW.PrintLast Go.Proofs.YthaeecoahbohnaaW.PrintMore
set_option linter.unusedVariables false
theorem rd_drop (l : List S29) (i : Nat) (h : i < l.length) : l.drop i = rd_T29 l (i : Int) :: l.drop (i + 1) := by
  unfold rd_T29
  rw [Int.toNat_natCast, List.drop_eq_getElem_cons h, List.getD_eq_getElem?_getD, List.getElem?_eq_getElem h]
  rfl
theorem rd_mem (l : List S29) (i : Nat) (h : i < l.length) : rd_T29 l (i : Int) ∈ l := by
  have := rd_drop l i h
  exact List.mem_of_mem_drop (i := i) (by rw [this]; exact List.mem_cons_self)
theorem list_append (a b : ByteArray) : (a ++ b).data.toList = a.data.toList ++ b.data.toList := by
  rw [ByteArray.data_append, Array.toList_append]
def recBytes (x : S29) : ByteArray := ⟨(recB (recS x)).toArray⟩
theorem recBytes_list (x : S29) : (recBytes x).data.toList = recB (recS x) := rfl
theorem recBytes_size (x : S29) : (recBytes x).size = (recB (recS x)).length := rfl
def flatBytes (l : List S29) : ByteArray := ⟨(flat (l.map recS)).toArray⟩
theorem flatBytes_list (l : List S29) : (flatBytes l).data.toList = flat (l.map recS) := rfl
theorem flatBytes_size (l : List S29) : (flatBytes l).size = (flat (l.map recS)).length := rfl
theorem lay_right (x : S29) (h : Right (recS x)) : journal_Lay.f x.f0 x.f1 x.f2 = some (recBytes x, 0) := by
  have h0 : ¬ (x.f0 < 0 ∨ 255 < x.f0 ∨ 255 < x.f1.length ∨ 20000 < x.f2.size) := by
    have a : 0 ≤ x.f0 := h.k0
    have b : x.f0 ≤ 255 := h.k1
    have c : x.f1.length ≤ 255 := h.n
    have d : x.f2.data.toList.length ≤ 20000 := h.t
    rw [data_length] at d
    omega
  unfold journal_Lay.f layOf
  rw [if_neg h0]
  rfl
/-- Equal records. -/
theorem sameR_iff (x y : S29) : sameR x y = true ↔ x = y := by
  obtain ⟨a, b, c⟩ := x
  obtain ⟨a', b', c'⟩ := y
  unfold sameR
  simp only [Bool.and_eq_true, beq_iff_eq]
  constructor
  · rintro ⟨rfl, h, rfl⟩
    rw [bytes_ext h]
  · intro h
    cases h
    exact ⟨rfl, rfl, rfl⟩
theorem sameB_iff (a : List S29) : ∀ b : List S29, sameB a b = true ↔ a = b := by
  induction a with
  | nil => intro b; cases b <;> simp [sameB]
  | cons x xs ih =>
    intro b
    cases b with
    | nil => simp [sameB]
    | cons y ys => simp only [sameB, Bool.and_eq_true, sameR_iff, ih, List.cons.injEq]
theorem sameB_self (a : List S29) : sameB a a = true := (sameB_iff a a).mpr rfl
theorem same_self (a : List S29) (h : a.length ≤ 9223372036854775807) (hn : ∀ x ∈ a, Right (recS x)) : journal_Same.f a a = some true := by
  unfold journal_Same.f
  rw [if_pos ⟨h, fun x hx => by have : x.f1.length ≤ 255 := (hn x hx).n; omega⟩, sameB_self]
/-- The example of the document. -/
def ex7 : S29 := ⟨7, [], ⟨#[97]⟩⟩
theorem ex7_right : Right (recS ex7) := ⟨by decide, by decide, by decide, by decide, fun v hv => absurd hv (by show ¬ v ∈ ([] : List Int); simp)⟩
theorem awake_tells : EvK (fun K => humpyardlaw15_awake.f K) true := by
  have hl : journal_Lay.f 7 ([] : List Int) (⟨#[97]⟩ : ByteArray) = some (recBytes ex7, 0) := lay_right ex7 ex7_right
  have h256 : journal_Lay.f 256 ([] : List Int) (⟨#[]⟩ : ByteArray) = some ((⟨#[]⟩ : ByteArray), 1) := by
    unfold journal_Lay.f layOf
    rw [if_pos (by decide)]
  have hsz : (recBytes ex7).size = 11 := recB_len _
  have hre : Reads (recBytes ex7 ++ (⟨#[120]⟩ : ByteArray)).data.toList ([ex7].map recS) := by
    refine ⟨fun x hx => ?_, [120], ?_, noRec_short _ (by decide)⟩
    · rw [List.mem_singleton.mp hx]
      exact ex7_right
    · rw [list_append]
      show recB (recS ex7) ++ [120] = flat [recS ex7] ++ [120]
      rw [flat_one]
  have hrd := read_of (recBytes ex7 ++ (⟨#[120]⟩ : ByteArray)) (by rw [ByteArray.size_append, hsz]; decide) [ex7] hre
  have hfl : (flat ([ex7].map recS)).length = 11 := by
    show (flat [recS ex7]).length = 11
    rw [flat_one]
    exact recB_len _
  rw [hfl] at hrd
  have hsame : journal_Same.f [ex7] [ex7] = some true := same_self [ex7] (by decide) (fun x hx => by rw [List.mem_singleton.mp hx]; exact ex7_right)
  have h7 : ((recBytes ex7).extract 0 7).toList = ([0, 0, 0, 3, 7, 0, 97] : List UInt8) := by
    have e : ((recBytes ex7).extract 0 7).data.toList = (recB (recS ex7)).take 7 := ext_list _ 0 7
    have hh : (recB (recS ex7)).take 7 = headB (recS ex7) := List.take_left' (headB_len _)
    have hd : headB (recS ex7) = [0, 0, 0, 3, 7, 0, 97] := by decide
    rw [hh, hd] at e
    have : (recBytes ex7).extract 0 7 = ⟨#[0, 0, 0, 3, 7, 0, 97]⟩ := bytes_ext e
    rw [this, Lib.toList_data]
  obtain ⟨K0, hrd⟩ := hrd
  refine ⟨K0, fun K hK => ?_⟩
  have hk := hrd K hK
  show humpyardlaw15_awake.f K = some true
  unfold humpyardlaw15_awake.f
  rw [hl, Option.bind_some]
  have c1 : (recBytes ex7).size + 1 ≤ 9223372036854775807 := by omega
  have c2 : ((recBytes ex7).size : Int) = 11 := by omega
  have c3 : (7 : Int) ≤ ((recBytes ex7).size : Int) := by omega
  have hk' : journal_Read.f K (recBytes ex7 ++ (⟨#[120]⟩ : ByteArray)) = some ([ex7], 11) := hk
  rw [if_pos c1, hk', Option.bind_some, h256, Option.bind_some, if_pos rfl, if_pos c2, if_pos (by decide), if_pos c3, if_pos h7]
  have hs' : journal_Same.f [ex7] [(⟨7, ([] : List Int), (⟨#[97]⟩ : ByteArray)⟩ : S29)] = some true := hsame
  rw [hs', Option.bind_some, if_pos rfl, if_pos rfl]
  rfl
end Go.Proofs.Ythaeecoahbohnaa.Plain
