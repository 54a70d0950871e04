/- Plain laws on chapter 15: a number's bytes and back; a record's bytes tell the record; where a byte of them is changed, they are no record's any more. No program, no memory; no conditions. -/
import Derived.Test.YthaeecoahbohnaaSum
import Derived.Lib.Strings
namespace Go.Proofs.Ythaeecoahbohnaa.Plain
open Go Go.RowKit
theorem mul_back (x : Int) (h0 : 0 ≤ x) (h1 : x < 4294967296) : (x * 16777619 % 4294967296) * 899433627 % 4294967296 = x := by
  have e : (x * 16777619 % 4294967296) * 899433627 = x + 4294967296 * (x * 3513497 - x * 16777619 / 4294967296 * 899433627) := by
    have h3 : x * 16777619 % 4294967296 = x * 16777619 - 4294967296 * (x * 16777619 / 4294967296) := by omega
    rw [h3]
    generalize x * 16777619 / 4294967296 = q
    omega
  rw [e, Int.add_mul_emod_self_left]
  omega
theorem mul_inj (x y : Int) (hx : 0 ≤ x) (hx1 : x < 4294967296) (hy : 0 ≤ y) (hy1 : y < 4294967296) (h : x * 16777619 % 4294967296 = y * 16777619 % 4294967296) : x = y := by
  rw [← mul_back x hx hx1, h, mul_back y hy hy1]
theorem xor_word (h : Int) (c : UInt8) (h0 : 0 ≤ h) (h1 : h < 4294967296) :
    Go.bits .xor .u32 h ((c.toNat : Int) % 4294967296) = ((h.toNat ^^^ c.toNat : Nat) : Int) ∧ h.toNat ^^^ c.toNat < 4294967296 := by
  have hc : c.toNat < 256 := c.toNat_lt
  have e : (c.toNat : Int) % 4294967296 = (c.toNat : Int) := by omega
  rw [e, u32_xor h (c.toNat : Int) h0 h1 (by omega) (by omega), Int.toNat_natCast]
  exact ⟨rfl, Nat.xor_lt_two_pow (n := 32) (by omega) (by omega)⟩
theorem fnvStep_eq (h : Int) (c : UInt8) (h0 : 0 ≤ h) (h1 : h < 4294967296) : fnvStep h c = ((h.toNat ^^^ c.toNat : Nat) : Int) * 16777619 % 4294967296 := by
  unfold fnvStep
  rw [(xor_word h c h0 h1).1]
theorem xor_left_inj (a b c : Nat) (h : a ^^^ c = b ^^^ c) : a = b := by
  have := congrArg (· ^^^ c) h
  simpa [Nat.xor_assoc] using this
theorem xor_right_inj (a b c : Nat) (h : c ^^^ a = c ^^^ b) : a = b := by
  rw [Nat.xor_comm c a, Nat.xor_comm c b] at h
  exact xor_left_inj a b c h
theorem fnvStep_inj_sum (h g : Int) (c : UInt8) (h0 : 0 ≤ h) (h1 : h < 4294967296) (g0 : 0 ≤ g) (g1 : g < 4294967296) (e : fnvStep h c = fnvStep g c) : h = g := by
  rw [fnvStep_eq h c h0 h1, fnvStep_eq g c g0 g1] at e
  have a := (xor_word h c h0 h1).2
  have b := (xor_word g c g0 g1).2
  have e2 := mul_inj _ _ (Int.natCast_nonneg _) (Int.ofNat_lt.mpr a) (Int.natCast_nonneg _) (Int.ofNat_lt.mpr b) e
  have e3 := xor_left_inj h.toNat g.toNat c.toNat (Int.ofNat.inj e2)
  clear e e2
  omega
theorem fnvStep_inj_byte (h : Int) (c d : UInt8) (h0 : 0 ≤ h) (h1 : h < 4294967296) (e : fnvStep h c = fnvStep h d) : c = d := by
  rw [fnvStep_eq h c h0 h1, fnvStep_eq h d h0 h1] at e
  have a := (xor_word h c h0 h1).2
  have b := (xor_word h d h0 h1).2
  have e2 := mul_inj _ _ (Int.natCast_nonneg _) (Int.ofNat_lt.mpr a) (Int.natCast_nonneg _) (Int.ofNat_lt.mpr b) e
  have e3 := xor_right_inj c.toNat d.toNat h.toNat (Int.ofNat.inj e2)
  exact UInt8.toNat_inj.mp e3
theorem fnv_inj (l : List UInt8) : ∀ h g : Int, 0 ≤ h → h < 4294967296 → 0 ≤ g → g < 4294967296 → fnv h l = fnv g l → h = g := by
  induction l with
  | nil => intro h g _ _ _ _ e; exact e
  | cons c l ih =>
    intro h g h0 h1 g0 g1 e
    exact fnvStep_inj_sum h g c h0 h1 g0 g1 (ih _ _ (fnvStep_range h c).1 (fnvStep_range h c).2 (fnvStep_range g c).1 (fnvStep_range g c).2 e)
/-- Texts that are unlike in one byte alone have unlike sums. -/
theorem fnv_one (a b : List UInt8) (c d : UInt8) (h : Int) (h0 : 0 ≤ h) (h1 : h < 4294967296) (e : fnv h (a ++ c :: b) = fnv h (a ++ d :: b)) : c = d := by
  rw [fnv_append, fnv_append] at e
  have hr := fnv_range a h h0 h1
  have e2 := fnv_inj b (fnvStep (fnv h a) c) (fnvStep (fnv h a) d) (fnvStep_range _ _).1 (fnvStep_range _ _).2 (fnvStep_range _ _).1 (fnvStep_range _ _).2 e
  exact fnvStep_inj_byte _ c d hr.1 hr.2 e2
/-! ### bytes and numbers -/
def natOf : List UInt8 → Nat
  | [] => 0
  | c :: l => c.toNat * 256 ^ l.length + natOf l
theorem natOf_lt (l : List UInt8) : natOf l < 256 ^ l.length := by
  induction l with
  | nil => exact Nat.one_pos
  | cons c l ih =>
    have hc : c.toNat < 256 := c.toNat_lt
    have h1 : c.toNat * 256 ^ l.length ≤ 255 * 256 ^ l.length := Nat.mul_le_mul_right _ (by omega)
    simp only [natOf, List.length_cons, Nat.pow_succ]
    omega
theorem natOf_append (a b : List UInt8) : natOf (a ++ b) = natOf a * 256 ^ b.length + natOf b := by
  induction a with
  | nil => simp [natOf]
  | cons c a ih =>
    simp only [List.cons_append, natOf, ih, List.length_append, Nat.pow_add, Nat.add_mul, Nat.mul_assoc]
    omega
theorem bigStep_eq (v : Int) (c : UInt8) : bigStep (wrap64 v) c = wrap64 (v * 256 + (c.toNat : Int)) := by
  have hc : c.toNat < 256 := c.toNat_lt
  have hw : wrap64 (c.toNat : Int) = (c.toNat : Int) := by unfold wrap64; omega
  unfold bigStep
  rw [hw]
  have hA : ∃ A : Nat, wrap64 (wrap64 v * 256) % 18446744073709551616 = ((256 * A : Nat) : Int) ∧ (v * 256 + (c.toNat : Int)) % 18446744073709551616 = ((256 * A + c.toNat : Nat) : Int) ∧ 256 * A < 18446744073709551616 := by
    refine ⟨(v % 72057594037927936).toNat, ?_, ?_, ?_⟩
    · unfold wrap64; omega
    · omega
    · omega
  obtain ⟨A, h1, h2, h3⟩ := hA
  have e1 : (BitVec.ofInt 64 (wrap64 (wrap64 v * 256))).toNat = 256 * A := by
    rw [BitVec.toNat_ofInt]
    have : (wrap64 (wrap64 v * 256) % ((2 ^ 64 : Nat) : Int)) = ((256 * A : Nat) : Int) := h1
    rw [this, Int.toNat_natCast]
  have e2 : (BitVec.ofInt 64 (c.toNat : Int)).toNat = c.toNat := by
    rw [BitVec.toNat_ofInt]
    have : ((c.toNat : Int) % ((2 ^ 64 : Nat) : Int)) = (c.toNat : Int) := by
      show (c.toNat : Int) % 18446744073709551616 = _
      omega
    rw [this, Int.toNat_natCast]
  have e3 : 256 * A ||| c.toNat = 256 * A + c.toNat := (Nat.two_pow_add_eq_or_of_lt (i := 8) (by omega) A).symm
  show IntKind.i64.wrap (((BitVec.ofInt 64 (wrap64 (wrap64 v * 256)) ||| BitVec.ofInt 64 (c.toNat : Int)).toNat : Nat) : Int) = _
  rw [BitVec.toNat_or, e1, e2, e3, IntKind.wrap_i64]
  unfold wrap64
  omega
theorem big_from (l : List UInt8) : ∀ v : Int, l.foldl bigStep (wrap64 v) = wrap64 (v * 256 ^ l.length + (natOf l : Int)) := by
  induction l with
  | nil => intro v; simp [natOf]
  | cons c l ih =>
    intro v
    rw [List.foldl_cons, bigStep_eq, ih]
    congr 1
    have h1 : ((natOf (c :: l) : Nat) : Int) = (c.toNat : Int) * 256 ^ l.length + (natOf l : Int) := by simp [natOf]
    rw [h1, List.length_cons, Int.pow_succ, Int.add_mul, Int.mul_assoc, Int.mul_comm 256]
    omega
theorem bigOf_nat (l : List UInt8) : bigOf l = wrap64 (natOf l : Int) := by
  have h := big_from l 0
  rw [show wrap64 0 = 0 from by unfold wrap64; omega, Int.zero_mul, Int.zero_add] at h
  exact h
theorem bigOf_four (l : List UInt8) (h : l.length = 4) : bigOf l = (natOf l : Int) ∧ natOf l < 4294967296 := by
  have := natOf_lt l
  rw [h] at this
  rw [bigOf_nat]
  unfold wrap64
  omega
theorem be_len (n : Nat) (v : Int) : (be n v).length = n := by
  induction n with
  | zero => rfl
  | succ n ih => simp [be, ih]
theorem natOf_be (n : Nat) (v : Int) : ((natOf (be n v) : Nat) : Int) = v % 256 ^ n := by
  induction n with
  | zero => simp [be, natOf]
  | succ n ih =>
    have hP : (0 : Int) < 256 ^ n := Int.pow_pos (by decide)
    have hd : 0 ≤ v / 256 ^ n % 256 ∧ v / 256 ^ n % 256 < 256 := by omega
    have hb : (UInt8.ofNat (v / 256 ^ n % 256).toNat).toNat = (v / 256 ^ n % 256).toNat := UInt8.toNat_ofNat_of_lt' (show (v / 256 ^ n % 256).toNat < 256 by have := hd.2; have := hd.1; omega)
    have h1 : ((natOf (be (n + 1) v) : Nat) : Int) = (v / 256 ^ n % 256) * 256 ^ n + v % 256 ^ n := by
      simp only [be, natOf, be_len, hb, Int.natCast_add, Int.natCast_mul, Int.natCast_pow, ih]
      rw [Int.toNat_of_nonneg hd.1]
      rfl
    rw [h1, Int.pow_succ]
    generalize (256 : Int) ^ n = P at hP
    have h2 : v / (P * 256) = v / P / 256 := by
      have := Int.ediv_ediv (x := v) (y := P) (z := 256)
      rw [if_neg (fun h => absurd h.1 (by omega))] at this
      omega
    rw [Int.emod_def v (P * 256), h2, Int.emod_def (v / P) 256, Int.emod_def v P]
    generalize v / P / 256 = t
    generalize v / P = q
    rw [Int.sub_mul]
    have h3 : P * 256 * t = 256 * t * P := by rw [Int.mul_assoc, Int.mul_comm]
    have h4 : q * P = P * q := Int.mul_comm _ _
    omega
theorem natOf_inj (a : List UInt8) : ∀ b : List UInt8, a.length = b.length → natOf a = natOf b → a = b := by
  induction a with
  | nil => intro b h _; cases b with
    | nil => rfl
    | cons _ _ => simp at h
  | cons c a ih =>
    intro b h e
    cases b with
    | nil => simp at h
    | cons d b =>
      have hl : a.length = b.length := by simpa using h
      simp only [natOf] at e
      rw [hl] at e
      have la := natOf_lt a
      rw [hl] at la
      have lb := natOf_lt b
      have hcd : c.toNat = d.toNat := by
        have hP : 0 < 256 ^ b.length := Nat.pow_pos (by decide)
        have x1 : (c.toNat * 256 ^ b.length + natOf a) / 256 ^ b.length = c.toNat := by
          rw [Nat.mul_comm, Nat.mul_add_div hP, Nat.div_eq_of_lt la, Nat.add_zero]
        have x2 : (d.toNat * 256 ^ b.length + natOf b) / 256 ^ b.length = d.toNat := by
          rw [Nat.mul_comm, Nat.mul_add_div hP, Nat.div_eq_of_lt lb, Nat.add_zero]
        rw [← x1, e, x2]
      rw [hcd] at e
      have hab : natOf a = natOf b := by omega
      rw [UInt8.toNat_inj.mp hcd, ih b hl hab]
theorem be_natOf (l : List UInt8) : be l.length (natOf l : Int) = l := by
  apply natOf_inj
  · rw [be_len]
  · have h := natOf_be l.length (natOf l : Int)
    have hlt := natOf_lt l
    have h2 : ((natOf l : Nat) : Int) % 256 ^ l.length = ((natOf l % 256 ^ l.length : Nat) : Int) := by simp
    rw [h2, Nat.mod_eq_of_lt hlt] at h
    exact Int.ofNat.inj h
/-- What a number's bytes hang on. -/
theorem be_mod (n : Nat) (v w : Int) (h : v % 256 ^ n = w % 256 ^ n) : be n v = be n w := by
  apply natOf_inj
  · rw [be_len, be_len]
  · have a := natOf_be n v
    have b := natOf_be n w
    rw [h, ← b] at a
    exact Int.ofNat.inj a
theorem be_inj (n : Nat) (v w : Int) (h : be n v = be n w) : v % 256 ^ n = w % 256 ^ n := by rw [← natOf_be, ← natOf_be, h]
theorem big_eight (v : Int) (h0 : -9223372036854775808 ≤ v) (h1 : v ≤ 9223372036854775807) : bigOf (be 8 v) = v := by
  have h := natOf_be 8 v
  rw [bigOf_nat, h, show (256 : Int) ^ 8 = 18446744073709551616 from by decide]
  unfold wrap64
  omega
theorem eight_big (l : List UInt8) (h : l.length = 8) : be 8 (bigOf l) = l := by
  have e := be_natOf l
  rw [h] at e
  rw [← e]
  apply be_mod
  rw [e, bigOf_nat, show (256 : Int) ^ 8 = 18446744073709551616 from by decide]
  unfold wrap64
  omega
theorem big_range (l : List UInt8) : -9223372036854775808 ≤ bigOf l ∧ bigOf l ≤ 9223372036854775807 := by
  rw [bigOf_nat]
  unfold wrap64
  omega
theorem four_big (l : List UInt8) (h : l.length = 4) : be 4 (bigOf l) = l := by
  have e := be_natOf l
  rw [h] at e
  rw [(bigOf_four l h).1, e]
theorem big_four (v : Int) (h0 : 0 ≤ v) (h1 : v < 4294967296) : bigOf (be 4 v) = v := by
  have h := natOf_be 4 v
  rw [(bigOf_four _ (be_len 4 v)).1, h, show (256 : Int) ^ 4 = 4294967296 from by decide]
  omega
theorem be_one (v : Int) (h0 : 0 ≤ v) (h1 : v < 256) : be 1 v = [UInt8.ofNat v.toNat] := by
  have h2 : v / 256 ^ 0 % 256 = v := by rw [Int.pow_zero, Int.ediv_one]; omega
  simp only [be, h2]
/-! ### records -/
/-- A record: kind, numbers, text. -/
structure Rec where
  k : Int
  ns : List Int
  t : List UInt8
def recB (x : Rec) : List UInt8 := recOf x.k x.ns x.t
def headB (x : Rec) : List UInt8 := headOf x.k x.ns x.t
def bodyB (x : Rec) : List UInt8 := bodyOf x.k x.ns x.t
structure Right (x : Rec) : Prop where
  k0 : 0 ≤ x.k
  k1 : x.k ≤ 255
  n : x.ns.length ≤ 255
  t : x.t.length ≤ 20000
  w : ∀ v ∈ x.ns, -9223372036854775808 ≤ v ∧ v ≤ 9223372036854775807
theorem flat8_len (ns : List Int) : (ns.flatMap (be 8)).length = 8 * ns.length := by
  induction ns with
  | nil => rfl
  | cons v ns ih => rw [List.flatMap_cons, List.length_append, be_len, ih, List.length_cons]; omega
theorem bodyB_len (x : Rec) : (bodyB x).length = 2 + 8 * x.ns.length + x.t.length := by
  simp only [bodyB, bodyOf, List.length_append, be_len, flat8_len]
theorem headB_len (x : Rec) : (headB x).length = 6 + 8 * x.ns.length + x.t.length := by
  have := bodyB_len x
  simp only [headB, headOf, List.length_append, be_len]
  show 4 + (bodyB x).length = _
  omega
theorem recB_len (x : Rec) : (recB x).length = 10 + 8 * x.ns.length + x.t.length := by
  have := headB_len x
  simp only [recB, recOf, List.length_append, be_len]
  show (headB x).length + 4 = _
  omega
/-- Numbers out of bytes. -/
def nums8 : Nat → List UInt8 → List Int
  | 0, _ => []
  | n + 1, l => bigOf (l.take 8) :: nums8 n (l.drop 8)
theorem nums8_len (n : Nat) : ∀ l : List UInt8, (nums8 n l).length = n := by
  induction n with
  | zero => intro l; rfl
  | succ n ih => intro l; simp [nums8, ih]
theorem nums8_flat (ns : List Int) (h : ∀ v ∈ ns, -9223372036854775808 ≤ v ∧ v ≤ 9223372036854775807) : ∀ r : List UInt8, nums8 ns.length (ns.flatMap (be 8) ++ r) = ns := by
  induction ns with
  | nil => intro r; rfl
  | cons v ns ih =>
    intro r
    have hv := h v (List.mem_cons_self ..)
    have e1 : ((v :: ns).flatMap (be 8) ++ r).take 8 = be 8 v := by
      rw [List.flatMap_cons, List.append_assoc, List.take_append_of_le_length (by rw [be_len]; exact Nat.le_refl _), List.take_of_length_le (by rw [be_len]; exact Nat.le_refl _)]
    have e2 : ((v :: ns).flatMap (be 8) ++ r).drop 8 = ns.flatMap (be 8) ++ r := by
      rw [List.flatMap_cons, List.append_assoc, List.drop_append_of_le_length (by rw [be_len]; exact Nat.le_refl _), List.drop_of_length_le (by rw [be_len]; exact Nat.le_refl _), List.nil_append]
    simp only [List.length_cons, nums8]
    rw [e1, e2, big_eight v hv.1 hv.2, ih (fun u hu => h u (List.mem_cons_of_mem _ hu))]
theorem flat_nums8 (n : Nat) : ∀ l : List UInt8, 8 * n ≤ l.length → (nums8 n l).flatMap (be 8) = l.take (8 * n) := by
  induction n with
  | zero => intro l _; simp [nums8]
  | succ n ih =>
    intro l hl
    rw [nums8, List.flatMap_cons, eight_big _ (by rw [List.length_take]; omega), ih _ (by rw [List.length_drop]; omega), show 8 * (n + 1) = 8 + 8 * n from by omega, List.take_add]
theorem nums8_range (n : Nat) : ∀ (l : List UInt8) (v : Int), v ∈ nums8 n l → -9223372036854775808 ≤ v ∧ v ≤ 9223372036854775807 := by
  induction n with
  | zero => intro l v h; cases h
  | succ n ih =>
    intro l v h
    simp only [nums8, List.mem_cons] at h
    rcases h with rfl | h
    · exact big_range _
    · exact ih _ _ h
/-- A record out of a body. -/
def ofBody (b : List UInt8) : Rec :=
  { k := ((b.headD 0).toNat : Int), ns := nums8 ((b.drop 1).headD 0).toNat (b.drop 2), t := b.drop (2 + 8 * ((b.drop 1).headD 0).toNat) }
theorem body_of (x : Rec) (h : Right x) : ofBody (bodyB x) = x := by
  have hk := h.k0
  have hk1 := h.k1
  have hn := h.n
  have e0 : bodyB x = UInt8.ofNat x.k.toNat :: UInt8.ofNat x.ns.length :: (x.ns.flatMap (be 8) ++ x.t) := by
    have o1 := be_one x.k h.k0 (by omega)
    have o2 := be_one ((x.ns.length : Nat) : Int) (by omega) (by omega)
    rw [Int.toNat_natCast] at o2
    simp only [bodyB, bodyOf, o1, o2]
    simp
  have e1 : (UInt8.ofNat x.k.toNat).toNat = x.k.toNat := UInt8.toNat_ofNat_of_lt' (show x.k.toNat < 256 by omega)
  have e2 : (UInt8.ofNat x.ns.length).toNat = x.ns.length := UInt8.toNat_ofNat_of_lt' (show x.ns.length < 256 by omega)
  unfold ofBody
  rw [e0]
  simp only [List.headD_cons, List.drop_succ_cons, List.drop_zero, e1, e2]
  obtain ⟨k, ns, t⟩ := x
  simp only at *
  have e3 : (UInt8.ofNat k.toNat :: UInt8.ofNat ns.length :: (ns.flatMap (be 8) ++ t)).drop (2 + 8 * ns.length) = t := by
    rw [show 2 + 8 * ns.length = (8 * ns.length + 1) + 1 from by omega, List.drop_succ_cons, List.drop_succ_cons, List.drop_append_of_le_length (by rw [flat8_len]; exact Nat.le_refl _), List.drop_of_length_le (by rw [flat8_len]; exact Nat.le_refl _), List.nil_append]
  rw [e3, nums8_flat ns h.w, Int.toNat_of_nonneg h.k0]
theorem of_body (b : List UInt8) (h2 : 2 ≤ b.length) (h8 : 2 + 8 * ((b.drop 1).headD 0).toNat ≤ b.length) : bodyB (ofBody b) = b := by
  match b, h2 with
  | c :: d :: r, _ =>
    simp only [List.drop_succ_cons, List.drop_zero, List.headD_cons, List.length_cons] at h8
    have hd : d.toNat < 256 := d.toNat_lt
    have hc : c.toNat < 256 := c.toNat_lt
    have e1 : (c :: d :: r).drop (2 + 8 * d.toNat) = r.drop (8 * d.toNat) := by
      rw [show 2 + 8 * d.toNat = (8 * d.toNat + 1) + 1 from by omega, List.drop_succ_cons, List.drop_succ_cons]
    unfold bodyB ofBody bodyOf
    simp only [List.drop_succ_cons, List.drop_zero, List.headD_cons, nums8_len]
    rw [e1, flat_nums8 _ _ (by omega), be_one (c.toNat : Int) (by omega) (by omega), be_one (d.toNat : Int) (by omega) (by omega)]
    simp
theorem of_body_right (b : List UInt8) (ht : b.length ≤ 2 + 8 * ((b.drop 1).headD 0).toNat + 20000) : Right (ofBody b) := by
  have hc : (b.headD 0).toNat < 256 := UInt8.toNat_lt _
  have hd : ((b.drop 1).headD 0).toNat < 256 := UInt8.toNat_lt _
  refine ⟨?_, ?_, ?_, ?_, ?_⟩
  · simp only [ofBody]; omega
  · simp only [ofBody]; omega
  · simp only [ofBody, nums8_len]; omega
  · simp only [ofBody, List.length_drop]; omega
  · intro v hv
    exact nums8_range _ _ v hv
theorem body_len_lt (x : Rec) (h : Right x) : (bodyB x).length < 4294967296 := by
  have := bodyB_len x
  have := h.n
  have := h.t
  omega
/-- A record's first four bytes tell how many it has. -/
theorem rec_take4 (x : Rec) (r : List UInt8) : (recB x ++ r).take 4 = be 4 ((bodyB x).length : Int) := by
  show (be 4 _ ++ bodyOf _ _ _ ++ be 4 _ ++ r).take 4 = _
  rw [List.append_assoc, List.append_assoc, List.take_append_of_le_length (by rw [be_len]; exact Nat.le_refl _), List.take_of_length_le (by rw [be_len]; exact Nat.le_refl _)]
  rfl
theorem rec_len_of (x y : Rec) (hx : Right x) (hy : Right y) (a b : List UInt8) (h : (recB x ++ a).take 4 = (recB y ++ b).take 4) : (recB x).length = (recB y).length := by
  rw [rec_take4, rec_take4] at h
  have hh := be_inj 4 _ _ h
  have l1 := body_len_lt x hx
  have l2 := body_len_lt y hy
  rw [show (256 : Int) ^ 4 = 4294967296 from by decide] at hh
  have b1 := bodyB_len x
  have b2 := bodyB_len y
  have := recB_len x
  have := recB_len y
  omega
theorem rec_body (x : Rec) : ((recB x).drop 4).take ((recB x).length - 8) = bodyB x := by
  have hl := recB_len x
  have hb := bodyB_len x
  show ((be 4 _ ++ bodyOf _ _ _ ++ be 4 _).drop 4).take _ = _
  rw [List.append_assoc, List.drop_append_of_le_length (by rw [be_len]; exact Nat.le_refl _), List.drop_of_length_le (by rw [be_len]; exact Nat.le_refl _), List.nil_append]
  have e : (recB x).length - 8 = (bodyB x).length := by omega
  rw [e]
  exact List.take_append_of_le_length (Nat.le_refl _) |>.trans (List.take_length ..)
/-- Bytes tell the record. -/
theorem rec_inj (x y : Rec) (hx : Right x) (hy : Right y) (h : recB x = recB y) : x = y := by
  rw [← body_of x hx, ← body_of y hy, ← rec_body x, ← rec_body y, h]
/-- None's bytes are the beginning of another one's. -/
theorem rec_apart (x y : Rec) (hx : Right x) (hy : Right y) (a b : List UInt8) (h : recB x ++ a = recB y ++ b) : x = y ∧ a = b := by
  have hl := rec_len_of x y hx hy a b (by rw [h])
  obtain ⟨h1, h2⟩ := List.append_inj h hl
  exact ⟨rec_inj x y hx hy h1, h2⟩
end Go.Proofs.Ythaeecoahbohnaa.Plain
