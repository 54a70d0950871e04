/- Plain words on the sum of chapter 6 and the bytes of chapter 15: the sum as a fold over bytes, a number's bytes, a record's bytes. No program, no memory; no conditions. -/
import Derived.Laws.BitsAllLaws
import Derived.Laws.BitsLemmas
import Derived.RowKit
namespace Go.Proofs.Ythaeecoahbohnaa.Plain
open Go Go.RowKit
def fnvStep (h : Int) (c : UInt8) : Int := (Go.bits .xor .u32 h ((c.toNat : Int) % 4294967296) * 16777619) % 4294967296
def fnv (h : Int) (l : List UInt8) : Int := l.foldl fnvStep h
def sumOf (s : ByteArray) : Int := fnv 2166136261 s.data.toList
theorem fnvStep_range (h : Int) (c : UInt8) : 0 ≤ fnvStep h c ∧ fnvStep h c < 4294967296 := by
  unfold fnvStep
  omega
theorem fnv_range (l : List UInt8) : ∀ h : Int, 0 ≤ h → h < 4294967296 → 0 ≤ fnv h l ∧ fnv h l < 4294967296 := by
  induction l with
  | nil => intro h h0 h1; exact ⟨h0, h1⟩
  | cons c l ih => intro h _ _; exact ih _ (fnvStep_range h c).1 (fnvStep_range h c).2
theorem fnv_append (h : Int) (l m : List UInt8) : fnv h (l ++ m) = fnv (fnv h l) m := List.foldl_append ..
theorem fnv_snoc (h : Int) (l : List UInt8) (c : UInt8) : fnv h (l ++ [c]) = fnvStep (fnv h l) c := by rw [fnv_append]; rfl
/-- A number out of bytes, the highest first. -/
def bigStep (v : Int) (c : UInt8) : Int := Go.bits .or .i64 (wrap64 (v * 256)) (wrap64 (c.toNat : Int))
def bigOf (l : List UInt8) : Int := l.foldl bigStep 0
theorem bigOf_snoc (l : List UInt8) (c : UInt8) : bigOf (l ++ [c]) = bigStep (bigOf l) c := List.foldl_append ..
/-- A number by n bytes, the highest first. -/
def be : Nat → Int → List UInt8
  | 0, _ => []
  | n + 1, v => UInt8.ofNat (v / 256 ^ n % 256).toNat :: be n v
/-- A record's body, and all its bytes. -/
def bodyOf (k : Int) (ns : List Int) (t : List UInt8) : List UInt8 := be 1 k ++ be 1 ns.length ++ ns.flatMap (be 8) ++ t
def headOf (k : Int) (ns : List Int) (t : List UInt8) : List UInt8 := be 4 (bodyOf k ns t).length ++ bodyOf k ns t
def recOf (k : Int) (ns : List Int) (t : List UInt8) : List UInt8 := headOf k ns t ++ be 4 (fnv 2166136261 (headOf k ns t))
def layOf (k : Int) (ns : List Int) (t : ByteArray) : ByteArray × Int :=
  if k < 0 ∨ 255 < k ∨ 255 < ns.length ∨ 20000 < t.size then (⟨#[]⟩, 1) else (⟨(recOf k ns t.data.toList).toArray⟩, 0)
end Go.Proofs.Ythaeecoahbohnaa.Plain
