/- Plain laws on the printed functions of chapter 6: pick, and the document's Seal and Open. For every text whose seal's length is an int. -/
import Derived.Test.YtagcfcjkpbcfhaaOpen
namespace Go.Proofs.Ytagcfcjkpbcfhaa.Plain
open Go Go.RowKit Go.Proofs.Ytagcfcjkpbcfhaa.PSeal Go.Proofs.YtagcfcjkpbcfhaaW.PrintWords Go.Proofs.YtagcfcjkpbcfhaaW.PrintLast Go.Proofs.YtagcfcjkpbcfhaaW.PrintMore
/-- A raw number speaks of one of n things. -/
theorem pick_tells (c : Int) (n : Nat) (hc : (Lit.int .i64 c).wf = true) (hn : 0 < n) : ∃ i : Nat, i < n ∧ humpyardlaw06_pick.f c (n : Int) = some (i : Int) := by
  have hr : -9223372036854775808 ≤ c ∧ c ≤ 9223372036854775807 := by
    have e1 : IntKind.i64.min = -9223372036854775808 := by decide
    have e2 : IntKind.i64.max = 9223372036854775807 := by decide
    simpa only [Lit.wf, e1, e2, Bool.and_eq_true, decide_eq_true_eq] using hc
  have key : ∀ d : Int, 0 ≤ d → ∃ i : Nat, i < n ∧ Int.tmod d (n : Int) = (i : Int) := by
    intro d hd
    obtain ⟨m, rfl⟩ := Int.eq_ofNat_of_zero_le hd
    exact ⟨m % n, Nat.mod_lt _ hn, rfl⟩
  unfold humpyardlaw06_pick.f
  by_cases h : c < 0
  · obtain ⟨i, hi, e⟩ := key (wrap64 (-(wrap64 (c + 1)))) (by unfold wrap64; omega)
    exact ⟨i, hi, by rw [if_pos h, if_neg (by omega), e]⟩
  · obtain ⟨i, hi, e⟩ := key c (by omega)
    exact ⟨i, hi, by rw [if_neg h, if_neg (by omega), e]⟩
/-- One round of the document's Seal. -/
theorem refSeal_round (n i : Nat) (x : ByteArray) (k : Nat) (hn : n < 4294967296) (hi : i ≤ 7) (hx : x.size + 1 ≤ 9223372036854775807) :
    humpyardref06_Seal.l0 (k + 1) (n : Int) x ((4 * i : Nat) : Int) = humpyardref06_Seal.l0 k (n : Int) (x ++ ⟨#[hexDigit (n / 16 ^ i % 16)]⟩) (((4 * i : Nat) : Int) - 4) := by
  have hs : shr .u32 (n : Int) ((4 * i : Nat) : Int) = ((n / 16 ^ i : Nat) : Int) := by
    unfold shr
    rw [Int.toNat_natCast, show min (4 * i) (IntKind.u32.bits) = 4 * i from Nat.min_eq_left (by show 4 * i ≤ 32; omega)]
    have e : ((2 : Int) ^ (4 * i)) = ((16 ^ i : Nat) : Int) := by
      rw [show (16 : Nat) = 2 ^ 4 from rfl, ← Nat.pow_mul]
      simp
    rw [e]
    simp
  have hlt : n / 16 ^ i < 4294967296 := Nat.lt_of_le_of_lt (Nat.div_le_self _ _) hn
  have hd : n / 16 ^ i % 16 < 16 := Nat.mod_lt _ (by decide)
  have hb : bt (⟨#[48, 49, 50, 51, 52, 53, 54, 55, 56, 57, 97, 98, 99, 100, 101, 102]⟩ : ByteArray) ((n / 16 ^ i % 16 : Nat) : Int) = ((hexDigit (n / 16 ^ i % 16)).toNat : Int) := by
    rw [bt_list _ _ hd]
    exact congrArg (fun c : UInt8 => (c.toNat : Int)) (hexDigit_at _ hd)
  simp only [humpyardref06_Seal.l0]
  rw [hs, and15 _ hlt, hb, if_pos (by omega), if_pos (by omega), if_pos (by omega), if_pos (by omega)]
  simp only [Option.bind_some]
  have ho : strOfNums [((hexDigit (n / 16 ^ i % 16)).toNat : Int)] = ⟨#[hexDigit (n / 16 ^ i % 16)]⟩ := by
    simp [strOfNums]
  have h1 : (⟨#[hexDigit (n / 16 ^ i % 16)]⟩ : ByteArray).size = 1 := rfl
  rw [ho, if_pos (by rw [h1]; exact hx), show wrap64 (((4 * i : Nat) : Int) - 4) = ((4 * i : Nat) : Int) - 4 from by unfold wrap64; omega]
theorem refSeal_tells (s : ByteArray) (hs : s.size + 9 ≤ 9223372036854775807) (k : Nat) (hk : 9 ≤ k) : humpyardref06_Seal.f k s = some (sealOf s) := by
  obtain ⟨k, rfl⟩ : ∃ m, k = m + 9 := ⟨k - 9, by omega⟩
  have hr := fnv_range s.data.toList 2166136261 (by decide) (by decide)
  obtain ⟨n, hn⟩ : ∃ n : Nat, sumOf s = (n : Int) := ⟨(sumOf s).toNat, by unfold sumOf; omega⟩
  have hn2 : n < 4294967296 := by have : sumOf s < 4294967296 := hr.2; omega
  have hsum : humpyardref06_Sum.f (k + 9) s = some (sumOf s) := if_pos (by omega)
  unfold humpyardref06_Seal.f
  rw [hsum]
  simp only [Option.bind_some]
  rw [if_pos (by omega), hn]
  have z : ∀ (x : ByteArray) (c : UInt8), (x ++ (⟨#[c]⟩ : ByteArray)).size = x.size + 1 := fun x c => by rw [ByteArray.size_append]; rfl
  have r := fun (i : Nat) (x : ByteArray) (m : Nat) => refSeal_round n i x m hn2
  have e7 := r 7 (s ++ ⟨#[35]⟩) (k + 8) (by omega) (by rw [z]; omega)
  have e6 := r 6 (s ++ ⟨#[35]⟩ ++ ⟨#[hexDigit (n / 16 ^ 7 % 16)]⟩) (k + 7) (by omega) (by rw [z, z]; omega)
  have e5 := r 5 (s ++ ⟨#[35]⟩ ++ ⟨#[hexDigit (n / 16 ^ 7 % 16)]⟩ ++ ⟨#[hexDigit (n / 16 ^ 6 % 16)]⟩) (k + 6) (by omega) (by rw [z, z, z]; omega)
  have e4 := r 4 (s ++ ⟨#[35]⟩ ++ ⟨#[hexDigit (n / 16 ^ 7 % 16)]⟩ ++ ⟨#[hexDigit (n / 16 ^ 6 % 16)]⟩ ++ ⟨#[hexDigit (n / 16 ^ 5 % 16)]⟩) (k + 5) (by omega) (by rw [z, z, z, z]; omega)
  have e3 := r 3 (s ++ ⟨#[35]⟩ ++ ⟨#[hexDigit (n / 16 ^ 7 % 16)]⟩ ++ ⟨#[hexDigit (n / 16 ^ 6 % 16)]⟩ ++ ⟨#[hexDigit (n / 16 ^ 5 % 16)]⟩ ++ ⟨#[hexDigit (n / 16 ^ 4 % 16)]⟩) (k + 4) (by omega) (by rw [z, z, z, z, z]; omega)
  have e2 := r 2 (s ++ ⟨#[35]⟩ ++ ⟨#[hexDigit (n / 16 ^ 7 % 16)]⟩ ++ ⟨#[hexDigit (n / 16 ^ 6 % 16)]⟩ ++ ⟨#[hexDigit (n / 16 ^ 5 % 16)]⟩ ++ ⟨#[hexDigit (n / 16 ^ 4 % 16)]⟩ ++ ⟨#[hexDigit (n / 16 ^ 3 % 16)]⟩) (k + 3) (by omega) (by rw [z, z, z, z, z, z]; omega)
  have e1 := r 1 (s ++ ⟨#[35]⟩ ++ ⟨#[hexDigit (n / 16 ^ 7 % 16)]⟩ ++ ⟨#[hexDigit (n / 16 ^ 6 % 16)]⟩ ++ ⟨#[hexDigit (n / 16 ^ 5 % 16)]⟩ ++ ⟨#[hexDigit (n / 16 ^ 4 % 16)]⟩ ++ ⟨#[hexDigit (n / 16 ^ 3 % 16)]⟩ ++ ⟨#[hexDigit (n / 16 ^ 2 % 16)]⟩) (k + 2) (by omega) (by rw [z, z, z, z, z, z, z]; omega)
  have e0 := r 0 (s ++ ⟨#[35]⟩ ++ ⟨#[hexDigit (n / 16 ^ 7 % 16)]⟩ ++ ⟨#[hexDigit (n / 16 ^ 6 % 16)]⟩ ++ ⟨#[hexDigit (n / 16 ^ 5 % 16)]⟩ ++ ⟨#[hexDigit (n / 16 ^ 4 % 16)]⟩ ++ ⟨#[hexDigit (n / 16 ^ 3 % 16)]⟩ ++ ⟨#[hexDigit (n / 16 ^ 2 % 16)]⟩ ++ ⟨#[hexDigit (n / 16 ^ 1 % 16)]⟩) (k + 1) (by omega) (by rw [z, z, z, z, z, z, z, z]; omega)
  have e7' := e7.trans e6
  have e5' := e5.trans e4
  have e3' := e3.trans e2
  have e1' := e1.trans e0
  refine (e7'.trans (e5'.trans (e3'.trans e1'))).trans ?_
  simp only [humpyardref06_Seal.l0]
  rw [if_neg (by decide)]
  congr 1
  apply bytes_ext
  rw [sealOf_list, sl, hex8_list]
  have hs2 : (fnv 2166136261 s.data.toList).toNat = n := by
    have : sumOf s = fnv 2166136261 s.data.toList := rfl
    omega
  rw [hs2]
  simp [ByteArray.data_append]
theorem refOpen_tells (s : ByteArray) (hs : s.size + 9 ≤ 9223372036854775807) (k : Nat) (hk : 9 ≤ k) : humpyardref06_Open.f k s = some (openB s) := by
  have hlen : s.data.toList.length = s.size := data_length s
  unfold humpyardref06_Open.f openB
  by_cases h9 : s.size < 9
  · rw [if_pos (by omega), if_neg (fun h => by have := sealed_length _ h; omega)]
  · have e : wrap64 ((s.size : Int) - 9) = ((s.size - 9 : Nat) : Int) := by unfold wrap64; omega
    have hsz : (s.extract 0 (s.size - 9)).size = s.size - 9 := by rw [ByteArray.size_extract]; omega
    rw [if_neg (by omega), e, if_pos (by omega), if_pos (by omega), Int.toNat_natCast, refSeal_tells _ (by omega) k hk]
    simp only [Option.bind_some, Lib.toList_data]
    by_cases hS : Sealed s.data.toList
    · rw [if_pos (by rw [open_yes s hS]), if_pos hS]
    · rw [if_neg, if_neg hS]
      intro e2
      rw [sealOf_list] at e2
      exact hS (sealed_of _ _ e2)
theorem refSum_tells (s : ByteArray) (hs : s.size ≤ 9223372036854775807) (k : Nat) : humpyardref06_Sum.f k s = some (sumOf s) := if_pos hs
end Go.Proofs.Ytagcfcjkpbcfhaa.Plain
