/- Plain words on chapter 6's sum: the sum as a fold over bytes, its step, and what a sealed text is. No program, no memory; no conditions. -/
import Derived.Laws.BitsAllLaws
import Derived.Laws.BitsLemmas
import Derived.RowKit
namespace Go.Proofs.Ytagcfcjkpbcfhaa.Plain
open Go
def fnvStep (h : Int) (c : UInt8) : Int := (Go.bits .xor .u32 h ((c.toNat : Int) % 4294967296) * 16777619) % 4294967296
def fnv (h : Int) (l : List UInt8) : Int := l.foldl fnvStep h
def sumOf (s : ByteArray) : Int := fnv 2166136261 s.data.toList
theorem fnvStep_range (h : Int) (c : UInt8) : 0 ≤ fnvStep h c ∧ fnvStep h c < 4294967296 := by
  unfold fnvStep
  omega
theorem fnv_range (l : List UInt8) : ∀ h : Int, 0 ≤ h → h < 4294967296 → 0 ≤ fnv h l ∧ fnv h l < 4294967296 := by
  induction l with
  | nil => intro h h0 h1; exact ⟨h0, h1⟩
  | cons c l ih => intro h _ _; exact ih _ (fnvStep_range h c).1 (fnvStep_range h c).2
theorem fnv_append (h : Int) (l m : List UInt8) : fnv h (l ++ m) = fnv (fnv h l) m := List.foldl_append ..
theorem fnv_snoc (h : Int) (l : List UInt8) (c : UInt8) : fnv h (l ++ [c]) = fnvStep (fnv h l) c := by rw [fnv_append]; rfl
/-- A sum's eight digits, the highest first. -/
def hexDigit (n : Nat) : UInt8 := if n < 10 then UInt8.ofNat (48 + n) else UInt8.ofNat (87 + n)
def hex8 (h : Nat) : List UInt8 := (List.range 8).map fun i => hexDigit (h / 16 ^ (7 - i) % 16)
def sealOf (s : ByteArray) : ByteArray := ⟨s.data ++ (35 :: hex8 (sumOf s).toNat).toArray⟩
/-- The eight cells of the digits' array when i of them stand, the lowest first. -/
def digs (n i : Nat) : Array Value := ((List.range 8).map fun j => if 7 - j < i then Value.int .u8 (((hexDigit (n / 16 ^ (7 - j) % 16)).toNat : Nat) : Int) else Value.int .u8 0).toArray
theorem digs_size (n i : Nat) : (digs n i).size = 8 := by simp [digs]
theorem digs_zero (n : Nat) : digs n 0 = #[Value.int .u8 0, Value.int .u8 0, Value.int .u8 0, Value.int .u8 0, Value.int .u8 0, Value.int .u8 0, Value.int .u8 0, Value.int .u8 0] := by
  simp [digs, List.range, List.range.loop]
theorem digs_succ (n i : Nat) (hi : i < 8) : (digs n i).setIfInBounds (7 - i) (Value.int .u8 (((hexDigit (n / 16 ^ i % 16)).toNat : Nat) : Int)) = digs n (i + 1) := by
  apply Array.ext
  · simp [digs]
  · intro j h1 h2
    have hj : j < 8 := by rw [digs_size] at h2; exact h2
    rw [Array.getElem_setIfInBounds (by rw [digs_size]; exact hj)]
    by_cases he : 7 - i = j
    · subst he
      rw [if_pos rfl]
      have e1 : 7 - (7 - i) = i := by omega
      simp only [digs, List.getElem_toArray, List.getElem_map, List.getElem_range, e1]
      simp
    · rw [if_neg he]
      have e3 : (7 - j < i + 1) = (7 - j < i) := by
        apply propext
        omega
      simp only [digs, List.getElem_toArray, List.getElem_map, List.getElem_range, e3]
theorem digs_cell (n j : Nat) (hj : j < 8) : (digs n 8)[j]? = some (Value.int .u8 ((((hex8 n)[j]'(by simp [hex8]; exact hj)).toNat : Nat) : Int)) := by
  have e : 7 - j < 8 := by omega
  rw [Array.getElem?_eq_getElem (by rw [digs_size]; exact hj)]
  simp only [digs, hex8, List.getElem_toArray, List.getElem_map, List.getElem_range, e, if_true]
theorem hexDigit_at (d : Nat) (hd : d < 16) : (⟨#[48, 49, 50, 51, 52, 53, 54, 55, 56, 57, 97, 98, 99, 100, 101, 102]⟩ : ByteArray).data[d]'hd = hexDigit d := by
  have h : ∀ d : Fin 16, (#[48, 49, 50, 51, 52, 53, 54, 55, 56, 57, 97, 98, 99, 100, 101, 102] : Array UInt8)[d.val]'d.isLt = hexDigit d.val := by decide
  exact h ⟨d, hd⟩
theorem and15 (m : Nat) (hm : m < 4294967296) : Go.bits .and .u32 (m : Int) 15 = ((m % 16 : Nat) : Int) := by
  have h := bits_mask .u32 32 (by decide) (fun n h0 h1 => by rw [IntKind.wrap_u32]; omega) 4 (by decide) (m : Int) (by omega) (by omega)
  rw [show ((2 : Int) ^ 4 - 1) = 15 from rfl] at h
  rw [h]
  omega
end Go.Proofs.Ytagcfcjkpbcfhaa.Plain
