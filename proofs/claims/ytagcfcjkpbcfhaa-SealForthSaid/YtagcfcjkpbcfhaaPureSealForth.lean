/- The law SealForth answers true: Seal undoes Open. For every text, and for a sealed one with some bytes in others' places. -/
import Derived.Test.YtagcfcjkpbcfhaaPSealx2
import Derived.Test.YtagcfcjkpbcfhaaPSealx3
import Derived.Test.YtagcfcjkpbcfhaaPick
namespace Go.Proofs.Ytagcfcjkpbcfhaa.Pure
open Go.RowKit Go.Proofs.Ytagcfcjkpbcfhaa.PSeal Go.Proofs.YtagcfcjkpbcfhaaW.PrintWords Go.Proofs.YtagcfcjkpbcfhaaW.PrintLast Go.Proofs.YtagcfcjkpbcfhaaW.PrintMore
open Go.Proofs.Ytagcfcjkpbcfhaa.Plain

theorem forth_rounds (l : List ByteArray) (b : Bool) (M : Nat) (hl : l.length ≤ 9223372036854775806) (h : ∀ t ∈ l, t.size ≤ M) (hM : M + 9 ≤ 9223372036854775807) (d : Nat) : ∀ (k : Nat) (i : Int), 0 ≤ i → i ≤ l.length → (l.length : Int) - i = d → M + d < k →
    humpyardlaw06_SealForth.l0 k b l (l.length : Int) i = some b := by
  induction d with
  | zero =>
    intro k i h0 h1 hd hk
    obtain ⟨k, rfl⟩ : ∃ m, k = m + 1 := ⟨k - 1, by omega⟩
    simp only [humpyardlaw06_SealForth.l0]
    rw [if_neg (by omega)]
  | succ d ih =>
    intro k i h0 h1 hd hk
    obtain ⟨k, rfl⟩ : ∃ m, k = m + 1 := ⟨k - 1, by omega⟩
    have hi : i.toNat < l.length := by omega
    have hm : rdOf ByteArray.empty l i = l[i.toNat] := by unfold rdOf; rw [List.getD_eq_getElem?_getD, List.getElem?_eq_getElem hi]; rfl
    have ht := h _ (List.getElem_mem hi)
    have hn := ih k (i + 1) (by omega) (by omega) (by omega) (by omega)
    simp only [humpyardlaw06_SealForth.l0]
    rw [if_pos (by omega), if_pos h0, if_pos (by omega), hm, open_tells _ (by omega) k (by omega)]
    simp only [Option.bind_some]
    rw [show wrap64 (i + 1) = i + 1 from by unfold wrap64; omega]
    unfold openB
    by_cases hS : Sealed (l[i.toNat]).data.toList
    · rw [if_pos hS]
      simp only [if_true]
      rw [seal_tells _ (by rw [ByteArray.size_extract]; omega)]
      simp only [Option.bind_some]
      rw [if_pos (by rw [open_yes _ hS])]
      exact hn
    · rw [if_neg hS]
      simp only [if_true]
      rw [if_neg (by decide), if_pos (by rw [Lib.toList_data])]
      exact hn

theorem SealForth : humpyardlaw06_SealForth.Pure := by
  intro s c m hs hc hm
  refine ⟨2 * s.size + 2 * m.size + 100, ?_⟩
  unfold humpyardlaw06_SealForth.f
  obtain ⟨i, hi, hp⟩ := pick_tells c ((sealOf s).size + 1) hc (by omega)
  have hq := sealOf_size s
  have hw : wrap64 (((sealOf s).size : Int) + 1) = (((sealOf s).size + 1 : Nat) : Int) := by unfold wrap64; omega
  have hv : wrap64 ((i : Int) + (m.size : Int)) = (i : Int) + m.size := by unfold wrap64; omega
  have hmn : ∃ j : Nat, mn ((i : Int) + m.size) ((sealOf s).size : Int) = (j : Int) ∧ j ≤ (sealOf s).size := by
    unfold mn
    split
    · exact ⟨(sealOf s).size, rfl, Nat.le_refl _⟩
    · exact ⟨i + m.size, by omega, by omega⟩
  obtain ⟨j, hj, hj2⟩ := hmn
  have s1 : ((sealOf s).extract 0 i).size = i := by rw [ByteArray.size_extract]; omega
  have s2 : ((sealOf s).extract j (sealOf s).size).size = (sealOf s).size - j := by rw [ByteArray.size_extract]; omega
  have s3 : ((sealOf s).extract 0 i ++ m).size = i + m.size := by rw [ByteArray.size_append, s1]
  rw [awake_tells _ (by omega), seal_tells s (by omega)]
  simp only [Option.bind_some]
  rw [hw, hp]
  simp only [Option.bind_some]
  rw [hv, hj, if_pos (by omega), if_pos (by omega), Int.toNat_natCast, if_pos (by omega), if_pos (by omega), if_pos (by omega), Int.toNat_natCast, if_pos (by omega)]
  refine forth_rounds _ true (2 * s.size + m.size + 18) (by simp) ?_ (by omega) 2 _ 0 (by omega) (by simp) (by simp) (by omega)
  intro t ht
  simp only [List.mem_cons, List.not_mem_nil, or_false] at ht
  rcases ht with rfl | rfl
  · omega
  · rw [ByteArray.size_append, s3, s2]; omega

end Go.Proofs.Ytagcfcjkpbcfhaa.Pure
