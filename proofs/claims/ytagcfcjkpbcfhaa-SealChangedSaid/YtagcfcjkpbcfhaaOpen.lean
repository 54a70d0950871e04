/- Plain laws on the printed functions of chapter 6: what Open and the document's Seal and Open come to, for every text whose seal's length is an int. -/
import Derived.Test.YtagcfcjkpbcfhaaPlain
import Derived.Test.YtagcfcjkpbcfhaaPSealx1
namespace Go.Proofs.Ytagcfcjkpbcfhaa.Plain
open Go Go.RowKit Go.Proofs.Ytagcfcjkpbcfhaa.PSeal Go.Proofs.YtagcfcjkpbcfhaaW.PrintWords Go.Proofs.YtagcfcjkpbcfhaaW.PrintLast Go.Proofs.YtagcfcjkpbcfhaaW.PrintMore
theorem bt_list (s : ByteArray) (i : Nat) (h : i < s.size) : bt s (i : Int) = ((s.data.toList[i]'(by rw [data_length]; exact h)).toNat : Int) := by
  unfold bt
  rw [Int.toNat_natCast, dif_pos h]
  rfl
/-- Where a byte stands last. -/
theorem last_tells (s : ByteArray) (c : UInt8) (hs : s.size ≤ 9223372036854775807) (d : Nat) : ∀ (k : Nat) (i : Int), -1 ≤ i → i < (s.size : Int) → i + 1 = d → d < k →
    ∃ r, bytealg_LastIndexByteString.l0 k s (c.toNat : Int) i = some r ∧ (∀ j : Nat, r < (j : Int) → (j : Int) ≤ i → s.data.toList[j]? ≠ some c) ∧ -1 ≤ r ∧ r ≤ i ∧ (0 ≤ r → s.data.toList[r.toNat]? = some c) := by
  induction d with
  | zero =>
    intro k i h0 h1 hd hk
    obtain ⟨k, rfl⟩ : ∃ m, k = m + 1 := ⟨k - 1, by omega⟩
    refine ⟨-1, by simp only [bytealg_LastIndexByteString.l0]; rw [if_neg (by omega)], fun j hj hj2 => by omega, by omega, by omega, fun h => by omega⟩
  | succ d ih =>
    intro k i h0 h1 hd hk
    obtain ⟨k, rfl⟩ : ∃ m, k = m + 1 := ⟨k - 1, by omega⟩
    obtain ⟨n, rfl⟩ : ∃ n : Nat, i = n := ⟨i.toNat, by omega⟩
    have hn : n < s.data.toList.length := by rw [data_length]; omega
    have hb := bt_list s n (by omega)
    by_cases hc : s.data.toList[n] = c
    · refine ⟨n, ?_, fun j hj hj2 => by omega, by omega, by omega, fun _ => by rw [Int.toNat_natCast, List.getElem?_eq_getElem hn, hc]⟩
      simp only [bytealg_LastIndexByteString.l0]
      rw [if_pos (by omega), if_pos (by omega), if_pos (by omega), if_pos (by rw [hb, hc])]
    · obtain ⟨r, hr, h2, h3, h4, h5⟩ := ih k ((n : Int) - 1) (by omega) (by omega) (by omega) (by omega)
      refine ⟨r, ?_, fun j hj hj2 => ?_, h3, by omega, h5⟩
      · simp only [bytealg_LastIndexByteString.l0]
        rw [if_pos (by omega), if_pos (by omega), if_pos (by omega), if_neg (by rw [hb]; intro e; exact hc (UInt8.toNat_inj.mp (Int.ofNat.inj e)))]
        rw [show wrap64 ((n : Int) - 1) = (n : Int) - 1 from by unfold wrap64; omega]
        exact hr
      · by_cases e : (j : Int) = n
        · obtain rfl : j = n := by omega
          rw [List.getElem?_eq_getElem hn]
          intro h
          exact hc (Option.some.inj h)
        · exact h2 j hj (by omega)
theorem open_tells (s : ByteArray) (hs : s.size + 9 ≤ 9223372036854775807) (k : Nat) (hk : s.size < k) : seal_Open.f k s = some (openB s) := by
  obtain ⟨r, hr, h2, h3, h4, h5⟩ := last_tells s 35 (by omega) s.size k ((s.size : Int) - 1) (by omega) (by omega) (by omega) hk
  have hL : strings_LastIndex.f k s (⟨#[35]⟩ : ByteArray) = some r := by
    unfold strings_LastIndex.f bytealg_LastIndexByteString.f
    rw [if_pos (by rfl), show bt (⟨#[35]⟩ : ByteArray) 0 = (((35 : UInt8).toNat : Nat) : Int) from by rfl, show wrap64 ((s.size : Int) - 1) = (s.size : Int) - 1 from by unfold wrap64; omega]
    exact hr
  have hlen : s.data.toList.length = s.size := data_length s
  unfold seal_Open.f
  rw [hL]
  simp only [Option.bind_some]
  -- a sealed text has its last mark nine bytes ahead of its end
  have hmark : Sealed s.data.toList → r = ((s.size - 9 : Nat) : Int) := by
    intro hS
    have h9 := sealed_length _ hS
    have hx : s.data.toList = sl (s.data.toList.take (s.size - 9)) := by
      have := hS
      unfold Sealed at this
      rw [hlen] at this
      exact this.symm
    have hl2 : (s.data.toList.take (s.size - 9)).length = s.size - 9 := by rw [List.length_take]; omega
    have hat : s.data.toList[s.size - 9]? = some 35 := by
      rw [hx, sl, List.getElem?_append_right (by omega), hl2, Nat.sub_self]
      rfl
    have hge : ((s.size - 9 : Nat) : Int) ≤ r := by
      apply Classical.byContradiction
      intro hn
      exact h2 (s.size - 9) (by omega) (by omega) hat
    apply Classical.byContradiction
    intro hne
    obtain ⟨m, rfl⟩ : ∃ m : Nat, r = m := ⟨r.toNat, by omega⟩
    have hm := h5 (by omega)
    rw [Int.toNat_natCast, hx, sl, List.getElem?_append_right (by omega), hl2] at hm
    obtain ⟨q, hq⟩ : ∃ q, m - (s.size - 9) = q + 1 := ⟨m - (s.size - 9) - 1, by omega⟩
    rw [hq, List.getElem?_cons_succ] at hm
    exact hex8_mark _ 35 (List.mem_of_getElem? hm) rfl
  by_cases hr0 : r < 0
  · rw [if_pos hr0]
    unfold openB
    rw [if_neg (fun hS => by have := hmark hS; omega)]
  · rw [if_neg hr0, if_pos (by omega), if_pos (by omega)]
    obtain ⟨m, rfl⟩ : ∃ m : Nat, r = m := ⟨r.toNat, by omega⟩
    have hsz : (s.extract 0 m).size = m := by rw [ByteArray.size_extract]; omega
    have hSe : seal_Seal.f k (s.extract 0 (m : Int).toNat) = some (sealOf (s.extract 0 m)) := by
      rw [Int.toNat_natCast]
      exact if_pos (by omega)
    rw [hSe]
    simp only [Option.bind_some, Int.toNat_natCast, Lib.toList_data]
    unfold openB
    by_cases hS : Sealed s.data.toList
    · have hm := hmark hS
      obtain rfl : m = s.size - 9 := by omega
      rw [if_pos (by rw [open_yes s hS]), if_pos hS]
    · rw [if_neg, if_neg hS]
      intro e
      rw [sealOf_list] at e
      exact hS (sealed_of _ _ e)
theorem seal_tells (s : ByteArray) (hs : s.size + 9 ≤ 9223372036854775807) (k : Nat) : seal_Seal.f k s = some (sealOf s) := if_pos hs
theorem sum_tells (s : ByteArray) (hs : s.size ≤ 9223372036854775807) (k : Nat) : seal_Sum.f k s = some (sumOf s) := if_pos hs
theorem and15_i (m : Nat) (hm : m < 4294967296) : Go.bits .and .u32 (m : Int) 15 = ((m % 16 : Nat) : Int) := and15 m hm
theorem awake_tells (k : Nat) (hk : 10 < k) : humpyardlaw06_awake.f k = some true := by
  unfold humpyardlaw06_awake.f
  rw [open_tells (⟨#[97, 35, 101, 52, 48, 99, 50, 57, 50, 99]⟩ : ByteArray) (by decide) k hk, open_tells (⟨#[98, 35, 101, 52, 48, 99, 50, 57, 50, 99]⟩ : ByteArray) (by decide) k hk, sum_tells (⟨#[]⟩ : ByteArray) (by decide), seal_tells (⟨#[97]⟩ : ByteArray) (by decide)]
  decide +kernel
end Go.Proofs.Ytagcfcjkpbcfhaa.Plain
