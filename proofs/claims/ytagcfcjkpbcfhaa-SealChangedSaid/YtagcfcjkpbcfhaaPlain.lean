/- Plain laws on chapter 6: a sum tells any one altered byte; a sealed text tells what it seals. No program, no memory; no conditions. -/
import Derived.Test.YtagcfcjkpbcfhaaSum
import Derived.Lib.Strings
namespace Go.Proofs.Ytagcfcjkpbcfhaa.Plain
open Go
theorem mul_back (x : Int) (h0 : 0 ≤ x) (h1 : x < 4294967296) : (x * 16777619 % 4294967296) * 899433627 % 4294967296 = x := by
  have e : (x * 16777619 % 4294967296) * 899433627 = x + 4294967296 * (x * 3513497 - x * 16777619 / 4294967296 * 899433627) := by
    have h3 : x * 16777619 % 4294967296 = x * 16777619 - 4294967296 * (x * 16777619 / 4294967296) := by omega
    rw [h3]
    generalize x * 16777619 / 4294967296 = q
    omega
  rw [e, Int.add_mul_emod_self_left]
  omega
theorem mul_inj (x y : Int) (hx : 0 ≤ x) (hx1 : x < 4294967296) (hy : 0 ≤ y) (hy1 : y < 4294967296) (h : x * 16777619 % 4294967296 = y * 16777619 % 4294967296) : x = y := by
  rw [← mul_back x hx hx1, h, mul_back y hy hy1]
theorem xor_word (h : Int) (c : UInt8) (h0 : 0 ≤ h) (h1 : h < 4294967296) :
    Go.bits .xor .u32 h ((c.toNat : Int) % 4294967296) = ((h.toNat ^^^ c.toNat : Nat) : Int) ∧ h.toNat ^^^ c.toNat < 4294967296 := by
  have hc : c.toNat < 256 := c.toNat_lt
  have e : (c.toNat : Int) % 4294967296 = (c.toNat : Int) := by omega
  rw [e, u32_xor h (c.toNat : Int) h0 h1 (by omega) (by omega), Int.toNat_natCast]
  exact ⟨rfl, Nat.xor_lt_two_pow (n := 32) (by omega) (by omega)⟩
theorem fnvStep_eq (h : Int) (c : UInt8) (h0 : 0 ≤ h) (h1 : h < 4294967296) : fnvStep h c = ((h.toNat ^^^ c.toNat : Nat) : Int) * 16777619 % 4294967296 := by
  unfold fnvStep
  rw [(xor_word h c h0 h1).1]
theorem xor_left_inj (a b c : Nat) (h : a ^^^ c = b ^^^ c) : a = b := by
  have := congrArg (· ^^^ c) h
  simpa [Nat.xor_assoc] using this
theorem xor_right_inj (a b c : Nat) (h : c ^^^ a = c ^^^ b) : a = b := by
  rw [Nat.xor_comm c a, Nat.xor_comm c b] at h
  exact xor_left_inj a b c h
theorem fnvStep_inj_sum (h g : Int) (c : UInt8) (h0 : 0 ≤ h) (h1 : h < 4294967296) (g0 : 0 ≤ g) (g1 : g < 4294967296) (e : fnvStep h c = fnvStep g c) : h = g := by
  rw [fnvStep_eq h c h0 h1, fnvStep_eq g c g0 g1] at e
  have a := (xor_word h c h0 h1).2
  have b := (xor_word g c g0 g1).2
  have e2 := mul_inj _ _ (Int.natCast_nonneg _) (Int.ofNat_lt.mpr a) (Int.natCast_nonneg _) (Int.ofNat_lt.mpr b) e
  have e3 := xor_left_inj h.toNat g.toNat c.toNat (Int.ofNat.inj e2)
  clear e e2
  omega
theorem fnvStep_inj_byte (h : Int) (c d : UInt8) (h0 : 0 ≤ h) (h1 : h < 4294967296) (e : fnvStep h c = fnvStep h d) : c = d := by
  rw [fnvStep_eq h c h0 h1, fnvStep_eq h d h0 h1] at e
  have a := (xor_word h c h0 h1).2
  have b := (xor_word h d h0 h1).2
  have e2 := mul_inj _ _ (Int.natCast_nonneg _) (Int.ofNat_lt.mpr a) (Int.natCast_nonneg _) (Int.ofNat_lt.mpr b) e
  have e3 := xor_right_inj c.toNat d.toNat h.toNat (Int.ofNat.inj e2)
  exact UInt8.toNat_inj.mp e3
theorem fnv_inj (l : List UInt8) : ∀ h g : Int, 0 ≤ h → h < 4294967296 → 0 ≤ g → g < 4294967296 → fnv h l = fnv g l → h = g := by
  induction l with
  | nil => intro h g _ _ _ _ e; exact e
  | cons c l ih =>
    intro h g h0 h1 g0 g1 e
    exact fnvStep_inj_sum h g c h0 h1 g0 g1 (ih _ _ (fnvStep_range h c).1 (fnvStep_range h c).2 (fnvStep_range g c).1 (fnvStep_range g c).2 e)
/-- Texts that are unlike in one byte alone have unlike sums. -/
theorem fnv_one (a b : List UInt8) (c d : UInt8) (h : Int) (h0 : 0 ≤ h) (h1 : h < 4294967296) (e : fnv h (a ++ c :: b) = fnv h (a ++ d :: b)) : c = d := by
  rw [fnv_append, fnv_append] at e
  have hr := fnv_range a h h0 h1
  have e2 := fnv_inj b (fnvStep (fnv h a) c) (fnvStep (fnv h a) d) (fnvStep_range _ _).1 (fnvStep_range _ _).2 (fnvStep_range _ _).1 (fnvStep_range _ _).2 e
  exact fnvStep_inj_byte _ c d hr.1 hr.2 e2
/-- The digits. -/
theorem hex8_length (n : Nat) : (hex8 n).length = 8 := by simp [hex8]
theorem hexDigit_inj (a b : Nat) (ha : a < 16) (hb : b < 16) (h : hexDigit a = hexDigit b) : a = b := by
  have := (by decide : ∀ a b : Fin 16, hexDigit a.val = hexDigit b.val → a = b) ⟨a, ha⟩ ⟨b, hb⟩ h
  exact congrArg Fin.val this
theorem hexDigit_mark (a : Nat) (ha : a < 16) : hexDigit a ≠ 35 := (by decide : ∀ a : Fin 16, hexDigit a.val ≠ 35) ⟨a, ha⟩
theorem hex8_mark (n : Nat) : ∀ c ∈ hex8 n, c ≠ 35 := by
  intro c hc
  simp only [hex8, List.mem_map] at hc
  obtain ⟨i, _, rfl⟩ := hc
  exact hexDigit_mark _ (Nat.mod_lt _ (by decide))
theorem hex8_list (n : Nat) : hex8 n = [hexDigit (n / 268435456 % 16), hexDigit (n / 16777216 % 16), hexDigit (n / 1048576 % 16), hexDigit (n / 65536 % 16), hexDigit (n / 4096 % 16), hexDigit (n / 256 % 16), hexDigit (n / 16 % 16), hexDigit (n % 16)] := by
  simp [hex8, List.range, List.range.loop]
theorem hex8_inj (n m : Nat) (hn : n < 4294967296) (hm : m < 4294967296) (h : hex8 n = hex8 m) : n = m := by
  rw [hex8_list, hex8_list] at h
  simp only [List.cons.injEq, and_true] at h
  obtain ⟨h7, h6, h5, h4, h3, h2, h1, h0⟩ := h
  have lt : ∀ a : Nat, a % 16 < 16 := fun a => Nat.mod_lt _ (by decide)
  have e7 := hexDigit_inj _ _ (lt _) (lt _) h7
  have e6 := hexDigit_inj _ _ (lt _) (lt _) h6
  have e5 := hexDigit_inj _ _ (lt _) (lt _) h5
  have e4 := hexDigit_inj _ _ (lt _) (lt _) h4
  have e3 := hexDigit_inj _ _ (lt _) (lt _) h3
  have e2 := hexDigit_inj _ _ (lt _) (lt _) h2
  have e1 := hexDigit_inj _ _ (lt _) (lt _) h1
  have e0 := hexDigit_inj _ _ (lt _) (lt _) h0
  omega
/-- A sealed text, as a list of bytes. -/
def sl (l : List UInt8) : List UInt8 := l ++ 35 :: hex8 (fnv 2166136261 l).toNat
theorem sl_length (l : List UInt8) : (sl l).length = l.length + 9 := by simp [sl, hex8_length]
theorem sealOf_list (s : ByteArray) : (sealOf s).data.toList = sl s.data.toList := by simp [sealOf, sl, sumOf]
theorem sealOf_size (s : ByteArray) : (sealOf s).size = s.size + 9 := by
  show (sealOf s).data.size = s.data.size + 9
  rw [← Array.length_toList, sealOf_list, sl_length, Array.length_toList]
theorem bytes_ext {a b : ByteArray} (h : a.data.toList = b.data.toList) : a = b := by
  apply ByteArray.ext
  exact Array.toList_inj.mp h
theorem sl_take (l : List UInt8) : (sl l).take ((sl l).length - 9) = l := by
  rw [sl_length, Nat.add_sub_cancel, sl, List.take_append_of_le_length (Nat.le_refl _), List.take_length]
theorem sl_inj (a b : List UInt8) (h : sl a = sl b) : a = b := by rw [← sl_take a, h, sl_take b]
theorem sealOf_inj (a b : ByteArray) (h : sealOf a = sealOf b) : a = b := by
  apply bytes_ext
  apply sl_inj
  rw [← sealOf_list, ← sealOf_list, h]
/-- Is a text sealed? -/
def Sealed (t : List UInt8) : Prop := sl (t.take (t.length - 9)) = t
instance (t : List UInt8) : Decidable (Sealed t) := inferInstanceAs (Decidable (_ = _))
theorem sealed_sl (l : List UInt8) : Sealed (sl l) := by unfold Sealed; rw [sl_take]
theorem sealed_of (l t : List UInt8) (h : sl l = t) : Sealed t := h ▸ sealed_sl l
theorem sealed_length (t : List UInt8) (h : Sealed t) : 9 ≤ t.length := by
  have := congrArg List.length h
  rw [sl_length] at this
  omega
/-- What is opened, and the error's number. -/
def openB (s : ByteArray) : ByteArray × Int := if Sealed s.data.toList then (s.extract 0 (s.size - 9), 0) else (⟨#[]⟩, 60)
theorem extract_list (s : ByteArray) (n : Nat) : (s.extract 0 n).data.toList = s.data.toList.take n := by
  rw [ByteArray.data_extract, Array.toList_extract]
  simp [List.extract]
theorem open_part (s : ByteArray) : (sealOf s).extract 0 ((sealOf s).size - 9) = s := by
  apply bytes_ext
  rw [extract_list, sealOf_list, sealOf_size]
  have h := sl_take s.data.toList
  rw [sl_length, Array.length_toList] at h
  exact h
theorem open_back (s : ByteArray) : openB (sealOf s) = (s, 0) := by
  unfold openB
  rw [if_pos (by rw [sealOf_list]; exact sealed_sl _), open_part]
theorem open_yes (s : ByteArray) (h : Sealed s.data.toList) : sealOf (s.extract 0 (s.size - 9)) = s := by
  apply bytes_ext
  rw [sealOf_list, extract_list]
  exact h
/-- With one byte changed a sealed text is none. -/
theorem sealed_one (l a b : List UInt8) (c d : UInt8) (e : sl l = a ++ c :: b) (h : Sealed (a ++ d :: b)) : c = d := by
  by_cases hcd : c = d
  · exact hcd
  · exfalso
    have hlen : (a ++ d :: b).length = l.length + 9 := by
      rw [← sl_length l, e]
      simp
    unfold Sealed at h
    rw [hlen, Nat.add_sub_cancel] at h
    have ht : (a ++ c :: b).take l.length = l := by rw [← e, sl, List.take_append_of_le_length (Nat.le_refl _), List.take_length]
    have hd : (a ++ c :: b).drop l.length = 35 :: hex8 (fnv 2166136261 l).toNat := by rw [← e, sl, List.drop_append_of_le_length (Nat.le_refl _), List.drop_length, List.nil_append]
    have hd2 : (a ++ d :: b).drop l.length = 35 :: hex8 (fnv 2166136261 ((a ++ d :: b).take l.length)).toNat := by
      have h9 : ((a ++ d :: b).take l.length).length = l.length := by rw [List.length_take, hlen]; omega
      have hx := congrArg (List.drop l.length) h
      rw [← hx]
      conv => lhs; rw [sl]
      rw [List.drop_append_of_le_length (by omega), List.drop_of_length_le (by omega), List.nil_append]
    by_cases hp : a.length < l.length
    · -- the change lies in the text that is sealed: its sum is another one
      obtain ⟨m, hm⟩ : ∃ m, l.length = a.length + 1 + m := ⟨l.length - a.length - 1, by omega⟩
      have t1 : ∀ x : UInt8, (a ++ x :: b).take l.length = a ++ x :: b.take m := by
        intro x
        rw [List.take_append, List.take_of_length_le (by omega), show l.length - a.length = m + 1 from by omega, List.take_succ_cons]
      have t2 : ∀ x : UInt8, (a ++ x :: b).drop l.length = b.drop m := by
        intro x
        rw [List.drop_append, List.drop_of_length_le (by omega), List.nil_append, show l.length - a.length = m + 1 from by omega, List.drop_succ_cons]
      rw [t2] at hd hd2
      rw [t1] at hd2 ht
      have hh := hd.symm.trans hd2
      simp only [List.cons.injEq, true_and] at hh
      rw [← ht] at hh
      have r1 := fnv_range (a ++ c :: b.take m) 2166136261 (by decide) (by decide)
      have r2 := fnv_range (a ++ d :: b.take m) 2166136261 (by decide) (by decide)
      have hn := hex8_inj _ _ (by omega) (by omega) hh
      exact hcd (fnv_one a (b.take m) c d 2166136261 (by decide) (by decide) (by omega))
    · -- it lies behind it: the text is the same, and so is what stands behind
      have t1 : ∀ x : UInt8, (a ++ x :: b).take l.length = a.take l.length := fun x => List.take_append_of_le_length (by omega)
      have t2 : ∀ x : UInt8, (a ++ x :: b).drop l.length = a.drop l.length ++ x :: b := fun x => List.drop_append_of_le_length (by omega)
      rw [t1] at hd2 ht
      rw [t2] at hd hd2
      rw [ht] at hd2
      have hh := hd.trans hd2.symm
      have := List.append_cancel_left hh
      simp only [List.cons.injEq, and_true] at this
      exact hcd this
/-- With one byte more behind a sealed text is none. -/
theorem sealed_more (l : List UInt8) (c : UInt8) (h : Sealed (sl l ++ [c])) : False := by
  unfold Sealed at h
  have hlen : (sl l ++ [c]).length - 9 = l.length + 1 := by rw [List.length_append, sl_length]; simp
  rw [hlen] at h
  have hg := congrArg (fun z => z[l.length + 1]?) h
  have h9 : ((sl l ++ [c]).take (l.length + 1)).length = l.length + 1 := by
    rw [List.length_take, List.length_append, sl_length]
    simp
  have e1 : (sl ((sl l ++ [c]).take (l.length + 1)))[l.length + 1]? = some 35 := by
    conv => lhs; rw [sl]
    rw [List.getElem?_append_right (by omega), h9, Nat.sub_self]
    rfl
  have e2 : (sl l ++ [c])[l.length + 1]? = (hex8 (fnv 2166136261 l).toNat)[0]? := by
    rw [List.getElem?_append_left (by rw [sl_length]; omega), sl, List.getElem?_append_right (by omega), show l.length + 1 - l.length = 1 from by omega]
    simp
  rw [e1, e2] at hg
  have hm := List.mem_of_getElem? hg.symm
  exact hex8_mark _ 35 hm rfl
theorem sealed_nil : ¬ Sealed [] := fun h => absurd (sealed_length _ h) (by simp)
end Go.Proofs.Ytagcfcjkpbcfhaa.Plain
