/- Plain laws on chapter 15: which records a text begins with; what parses is a record and the other way round; an altered or broken record is none. No program, no memory; no conditions. -/
import Derived.Test.YthaeecoahbohnaaPlain
namespace Go.Proofs.Ythaeecoahbohnaa.Plain
open Go Go.RowKit
def NoRec (l : List UInt8) : Prop := ∀ y, Right y → ¬ recB y <+: l
def flat (l : List Rec) : List UInt8 := l.flatMap recB
def Reads (l : List UInt8) (rs : List Rec) : Prop := (∀ x ∈ rs, Right x) ∧ ∃ rest, l = flat rs ++ rest ∧ NoRec rest
theorem noRec_short (l : List UInt8) (h : l.length < 10) : NoRec l := by
  intro y _ hp
  have := hp.length_le
  have := recB_len y
  omega
theorem noRec_nil : NoRec [] := noRec_short [] (by decide)
/-- A record that breaks off is none. -/
theorem noRec_cut (x : Rec) (hx : Right x) (p : List UInt8) (hp : p <+: recB x) (hl : p.length < (recB x).length) : NoRec p := by
  intro y hy h
  obtain ⟨a, ha⟩ := h.trans hp
  have e := (rec_apart y x hy hx a [] (by rw [ha, List.append_nil])).1
  subst e
  have := h.length_le
  omega
theorem headB_take (x : Rec) : (recB x).take ((recB x).length - 4) = headB x := by
  have hl := recB_len x
  have hh := headB_len x
  have e : (recB x).length - 4 = (headB x).length := by omega
  rw [e]
  show (headB x ++ _).take _ = _
  rw [List.take_append_of_le_length (Nat.le_refl _), List.take_length]
theorem tailB_drop (x : Rec) : (recB x).drop ((recB x).length - 4) = be 4 (fnv 2166136261 (headB x)) := by
  have hl := recB_len x
  have hh := headB_len x
  have e : (recB x).length - 4 = (headB x).length := by omega
  rw [e]
  show (headB x ++ _).drop _ = _
  rw [List.drop_append_of_le_length (Nat.le_refl _), List.drop_length, List.nil_append]
  rfl
theorem sum_of_tail (x y : Rec) (h : be 4 (fnv 2166136261 (headB x)) = be 4 (fnv 2166136261 (headB y))) : fnv 2166136261 (headB x) = fnv 2166136261 (headB y) := by
  have hh := be_inj 4 _ _ h
  rw [show (256 : Int) ^ 4 = 4294967296 from by decide] at hh
  have a := fnv_range (headB x) 2166136261 (by decide) (by decide)
  have b := fnv_range (headB y) 2166136261 (by decide) (by decide)
  omega
/-- Where a byte behind the first four is changed, no record is there. -/
theorem noRec_changed (x : Rec) (hx : Right x) (a b r : List UInt8) (c d : UInt8) (h4 : 4 ≤ a.length) (e : recB x = a ++ c :: b) (hcd : c ≠ d) : NoRec (a ++ d :: b ++ r) := by
  intro y hy hp
  obtain ⟨s, hs⟩ := hp
  have ht : (recB x ++ r).take 4 = (recB y ++ s).take 4 := by
    rw [hs, e, List.append_assoc, List.append_assoc, List.take_append_of_le_length h4, List.take_append_of_le_length h4]
  have hl := rec_len_of x y hx hy r s ht
  have hy2 : recB y = a ++ d :: b := by
    have hlen : (recB y).length = (a ++ d :: b).length := by rw [← hl, e]; simp
    exact (List.append_inj hs hlen).1
  apply hcd
  by_cases hp : a.length < (recB x).length - 4
  · have hx1 := headB_take x
    have hy1 := headB_take y
    have hx2 := tailB_drop x
    have hy3 := tailB_drop y
    obtain ⟨m, hm⟩ : ∃ m, (recB x).length - 4 = a.length + 1 + m := ⟨(recB x).length - 4 - a.length - 1, by omega⟩
    have t1 : ∀ z : UInt8, (a ++ z :: b).take (a.length + 1 + m) = a ++ z :: b.take m := by
      intro z
      rw [List.take_append, List.take_of_length_le (by omega), show a.length + 1 + m - a.length = m + 1 from by omega, List.take_succ_cons]
    have t2 : ∀ z : UInt8, (a ++ z :: b).drop (a.length + 1 + m) = b.drop m := by
      intro z
      rw [List.drop_append, List.drop_of_length_le (by omega), List.nil_append, show a.length + 1 + m - a.length = m + 1 from by omega, List.drop_succ_cons]
    rw [hm, e, t1] at hx1
    rw [← hl, hm, hy2, t1] at hy1
    rw [hm, e, t2] at hx2
    rw [← hl, hm, hy2, t2] at hy3
    have hsum := sum_of_tail x y (hx2.symm.trans hy3)
    rw [← hx1, ← hy1] at hsum
    exact fnv_one a (b.take m) c d 2166136261 (by decide) (by decide) hsum
  · have hx1 := headB_take x
    have hy1 := headB_take y
    rw [e] at hx1
    rw [← hl, hy2] at hy1
    have hle : (recB x).length - 4 ≤ a.length := by omega
    rw [e] at hle
    rw [e] at hy1
    rw [List.take_append_of_le_length hle] at hx1 hy1
    have hh : headB x = headB y := hx1.symm.trans hy1
    have hr : recB x = recB y := by
      show headB x ++ be 4 (fnv 2166136261 (headB x)) = headB y ++ be 4 (fnv 2166136261 (headB y))
      rw [hh]
    rw [e, hy2] at hr
    have := List.append_cancel_left hr
    simp only [List.cons.injEq, and_true] at this
    exact this
/-- What a text reads as is one thing alone. -/
theorem reads_unique (rs : List Rec) : ∀ (l : List UInt8) (qs : List Rec), Reads l rs → Reads l qs → rs = qs := by
  induction rs with
  | nil =>
    intro l qs h k
    cases qs with
    | nil => rfl
    | cons q qs =>
      obtain ⟨_, rest, e, hn⟩ := h
      obtain ⟨hq, rest2, e2, _⟩ := k
      exfalso
      have e3 : l = rest := by rw [e]; rfl
      refine hn q (hq q (List.mem_cons_self ..)) ⟨flat qs ++ rest2, ?_⟩
      rw [← e3, e2]
      simp [flat]
  | cons x rs ih =>
    intro l qs h k
    obtain ⟨hr, rest, e, hn⟩ := h
    obtain ⟨hq, rest2, e2, hn2⟩ := k
    cases qs with
    | nil =>
      exfalso
      have e3 : l = rest2 := by rw [e2]; rfl
      refine hn2 x (hr x (List.mem_cons_self ..)) ⟨flat rs ++ rest, ?_⟩
      rw [← e3, e]
      simp [flat]
    | cons q qs =>
      have h1 : recB x ++ (flat rs ++ rest) = recB q ++ (flat qs ++ rest2) := by
        have a : l = recB x ++ (flat rs ++ rest) := by rw [e]; simp [flat]
        have b : l = recB q ++ (flat qs ++ rest2) := by rw [e2]; simp [flat]
        rw [← a, ← b]
      obtain ⟨hxq, ht⟩ := rec_apart x q (hr x (List.mem_cons_self ..)) (hq q (List.mem_cons_self ..)) _ _ h1
      rw [hxq]
      congr 1
      exact ih (flat rs ++ rest) qs ⟨fun z hz => hr z (List.mem_cons_of_mem _ hz), rest, rfl, hn⟩ ⟨fun z hz => hq z (List.mem_cons_of_mem _ hz), rest2, ht, hn2⟩
/-- What parses. -/
def many (s : List UInt8) (n : Nat) : Nat := ((((s.drop 4).take n).drop 1).headD 0).toNat
structure Parse (s : List UInt8) (n : Nat) : Prop where
  hn : bigOf (s.take 4) = (n : Int)
  h2 : 2 ≤ n
  hl : n + 8 ≤ s.length
  hm : 2 + 8 * many s n ≤ n
  ht : n ≤ 2 + 8 * many s n + 20000
  hs : bigOf ((s.drop (4 + n)).take 4) = fnv 2166136261 (s.take (4 + n))
theorem parse_rec (s : List UInt8) (n : Nat) (h : Parse s n) : Right (ofBody ((s.drop 4).take n)) ∧ recB (ofBody ((s.drop 4).take n)) <+: s ∧ (recB (ofBody ((s.drop 4).take n))).length = n + 8 := by
  have hl := h.hl
  have hm := h.hm
  have ht := h.ht
  have hbl : ((s.drop 4).take n).length = n := by rw [List.length_take, List.length_drop]; omega
  have hb : bodyB (ofBody ((s.drop 4).take n)) = (s.drop 4).take n := of_body _ (by rw [hbl]; exact h.h2) (by rw [hbl]; exact hm)
  have hhead : headB (ofBody ((s.drop 4).take n)) = s.take (4 + n) := by
    show be 4 _ ++ bodyB _ = _
    have e1 : ((bodyOf (ofBody ((s.drop 4).take n)).k (ofBody ((s.drop 4).take n)).ns (ofBody ((s.drop 4).take n)).t).length : Int) = bigOf (s.take 4) := by
      rw [h.hn]
      show (((bodyB _).length : Nat) : Int) = _
      rw [hb, hbl]
    rw [e1, four_big _ (by rw [List.length_take]; omega), hb, List.take_add]
  have hrec : recB (ofBody ((s.drop 4).take n)) = s.take (4 + n + 4) := by
    show headB _ ++ be 4 (fnv 2166136261 (headB _)) = _
    rw [hhead, ← h.hs, four_big _ (by rw [List.length_take, List.length_drop]; omega), ← List.take_add]
  refine ⟨of_body_right _ (by rw [hbl]; exact ht), ?_, ?_⟩
  · rw [hrec]
    exact List.take_prefix _ _
  · rw [hrec, List.length_take]
    omega
theorem rec_parse (y : Rec) (hy : Right y) (s : List UInt8) (h : recB y <+: s) : Parse s (bodyB y).length := by
  obtain ⟨r, rfl⟩ := h
  have hl := recB_len y
  have hb := bodyB_len y
  have hh := headB_len y
  have hn := hy.n
  have ht := hy.t
  have b4 : (recB y ++ r).take 4 = be 4 ((bodyB y).length : Int) := rec_take4 y r
  have bd : ((recB y ++ r).drop 4).take (bodyB y).length = bodyB y := by
    have := rec_body y
    rw [show (recB y).length - 8 = (bodyB y).length from by omega] at this
    rw [List.drop_append_of_le_length (by omega), List.take_append_of_le_length (by rw [List.length_drop]; omega), this]
  have hmany : many (recB y ++ r) (bodyB y).length = y.ns.length := by
    unfold many
    rw [bd]
    have o1 := be_one y.k hy.k0 (by have := hy.k1; omega)
    have o2 := be_one ((y.ns.length : Nat) : Int) (by omega) (by omega)
    rw [Int.toNat_natCast] at o2
    simp only [bodyB, bodyOf, o1, o2]
    simp only [List.cons_append, List.nil_append, List.drop_succ_cons, List.drop_zero, List.headD_cons]
    exact UInt8.toNat_ofNat_of_lt' (show y.ns.length < 256 by omega)
  have hd : (recB y ++ r).take (4 + (bodyB y).length) = headB y := by
    have := headB_take y
    rw [show (recB y).length - 4 = 4 + (bodyB y).length from by omega] at this
    rw [List.take_append_of_le_length (by omega), this]
  have hs : ((recB y ++ r).drop (4 + (bodyB y).length)).take 4 = be 4 (fnv 2166136261 (headB y)) := by
    have := tailB_drop y
    rw [show (recB y).length - 4 = 4 + (bodyB y).length from by omega] at this
    rw [List.drop_append_of_le_length (by omega), this, List.take_append_of_le_length (by rw [be_len]; exact Nat.le_refl _), List.take_of_length_le (by rw [be_len]; exact Nat.le_refl _)]
  have hr := fnv_range (headB y) 2166136261 (by decide) (by decide)
  refine ⟨?_, by omega, by rw [List.length_append]; omega, by rw [hmany]; omega, by rw [hmany]; omega, ?_⟩
  · rw [b4, big_four _ (by omega) (by omega)]
  · rw [hs, hd, big_four _ hr.1 hr.2]
theorem noRec_of (s : List UInt8) (h : ∀ n, ¬ Parse s n) : NoRec s := fun y hy hp => h _ (rec_parse y hy s hp)
end Go.Proofs.Ythaeecoahbohnaa.Plain
