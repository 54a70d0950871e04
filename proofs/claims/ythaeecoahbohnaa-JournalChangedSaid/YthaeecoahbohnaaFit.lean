/- Plain laws on the printed pick, Fit and the document's Same of chapter 15. -/
import Derived.Test.YthaeecoahbohnaaAwake
namespace Go.Proofs.Ythaeecoahbohnaa.Plain
open Go Go.RowKit Go.Proofs.Ythaeecoahbohnaa.PJour Go.Proofs.YthaeecoahbohnaaW.PrintWords Go.Proofs.YthaeecoahbohnaaW.PrintLast Go.Proofs.YthaeecoahbohnaaW.PrintMore
set_option linter.unusedVariables false
structure InR (x : S29) : Prop where
  k : -9223372036854775808 ≤ x.f0 ∧ x.f0 ≤ 9223372036854775807
  w : ∀ v ∈ x.f1, -9223372036854775808 ≤ v ∧ v ≤ 9223372036854775807
structure Good (x : S29) : Prop where
  k0 : 0 ≤ x.f0
  k1 : x.f0 ≤ 255
  n : x.f1.length ≤ 20
  t : x.f2.size ≤ 100
  w : ∀ v ∈ x.f1, -9223372036854775808 ≤ v ∧ v ≤ 9223372036854775807
theorem Good.right {x : S29} (h : Good x) : Right (recS x) :=
  ⟨h.k0, h.k1, Nat.le_trans h.n (by decide), by
    have : x.f2.data.toList.length = x.f2.size := data_length _
    have := h.t
    show x.f2.data.toList.length ≤ 20000
    omega, h.w⟩
theorem Good.len {x : S29} (h : Good x) : (recB (recS x)).length ≤ 270 := by
  rw [recB_len]
  have a : (recS x).ns.length ≤ 20 := h.n
  have b : (recS x).t.length = x.f2.size := data_length _
  have := h.t
  omega
theorem pick_nat (c : Int) (n : Nat) (hc : -9223372036854775808 ≤ c ∧ c ≤ 9223372036854775807) (hn : 0 < n) : ∃ i : Nat, i < n ∧ humpyardlaw15_pick.f c (n : Int) = some (i : Int) := by
  have key : ∀ d : Int, 0 ≤ d → ∃ i : Nat, i < n ∧ Int.tmod d (n : Int) = (i : Int) := by
    intro d hd
    obtain ⟨m, rfl⟩ := Int.eq_ofNat_of_zero_le hd
    exact ⟨m % n, Nat.mod_lt _ hn, rfl⟩
  unfold humpyardlaw15_pick.f
  by_cases h : c < 0
  · obtain ⟨i, hi, e⟩ := key (wrap64 (-(wrap64 (c + 1)))) (by unfold wrap64; omega)
    exact ⟨i, hi, by rw [if_pos h, if_neg (by omega), e]⟩
  · obtain ⟨i, hi, e⟩ := key c (by omega)
    exact ⟨i, hi, by rw [if_neg h, if_neg (by omega), e]⟩
theorem mn_le (n m : Nat) : ∃ p : Nat, mn (n : Int) (m : Int) = (p : Int) ∧ p ≤ n ∧ p ≤ m := by
  unfold mn
  by_cases h : (m : Int) < (n : Int)
  · exact ⟨m, by rw [if_pos h], by omega, Nat.le_refl _⟩
  · exact ⟨n, by rw [if_neg h], Nat.le_refl _, by omega⟩
theorem fit_rec (x : S29) (hx : InR x) : ∃ y, Good y ∧ ∀ (K : Nat) (l acc : List S29) (i : Nat), i < l.length → i < 12 → x = rd_T29 l (i : Int) → acc.length < 2932031007402 → humpyardlaw15_Fit.l0 (K + 1) l acc (i : Int) = humpyardlaw15_Fit.l0 K l (acc ++ [y]) ((i + 1 : Nat) : Int) := by
  obtain ⟨p, hp, hpe⟩ := pick_nat x.f0 256 hx.k (by decide)
  obtain ⟨q, hq, hq1, hq2⟩ := mn_le x.f1.length 20
  obtain ⟨r, hr, hr1, hr2⟩ := mn_le x.f2.size 100
  have hpe' : humpyardlaw15_pick.f x.f0 256 = some (p : Int) := hpe
  have hq' : Aside0 (mn (x.f1.length : Int) 20 = (q : Int)) := ⟨hq⟩
  have hr' : Aside0 (mn (x.f2.size : Int) 100 = (r : Int)) := ⟨hr⟩
  clear hq hr hpe
  have hnew : Good ⟨(p : Int), ([] : List Int) ++ x.f1.take q, x.f2.extract 0 r⟩ := by
    constructor
    · show (0 : Int) ≤ (p : Int)
      omega
    · show (p : Int) ≤ 255
      omega
    · show (([] : List Int) ++ x.f1.take q).length ≤ 20
      rw [List.nil_append]
      exact Nat.le_trans (List.length_take_le _ _) hq2
    · show (x.f2.extract 0 r).size ≤ 100
      rw [ext_size _ _ _ hr1]
      exact Nat.le_trans (Nat.sub_le _ _) hr2
    · intro v hv
      have hv' : v ∈ ([] : List Int) ++ x.f1.take q := hv
      rw [List.nil_append] at hv'
      exact hx.w v (List.mem_of_mem_take hv')
  refine ⟨_, hnew, ?_⟩
  clear hnew
  intro K l acc i h1 h2 hxe c9
  have hw : wrap64 ((i : Int) + 1) = ((i + 1 : Nat) : Int) := by unfold wrap64; omega
  have c1 : (i : Int) < (l.length : Int) := by omega
  have c2 : (i : Int) < 12 := by omega
  have c3 : (0 : Int) ≤ (i : Int) := by omega
  have c4 : (0 : Int) ≤ (q : Int) := by omega
  have c5 : (q : Int) ≤ (x.f1.length : Int) := by omega
  have c6 : ([] : List Int).length + (x.f1.take q).length < 17592186044416 := by
    have e1 : (x.f1.take q).length ≤ q := List.length_take_le _ _
    have e2 : ([] : List Int).length = 0 := rfl
    omega
  have c7 : (0 : Int) ≤ (r : Int) := by omega
  have c8 : (r : Int) ≤ (x.f2.size : Int) := by omega
  rw [humpyardlaw15_Fit.l0]
  rw [if_pos c1, if_pos c2, if_pos c3, ← hxe, hpe', Option.bind_some, hq'.out, hr'.out, if_pos c4, if_pos c5, Int.toNat_natCast, Int.toNat_natCast, if_pos c6, if_pos c7, if_pos c8, if_pos c9, hw]
theorem fit_l0 (l : List S29) (hl : ∀ x ∈ l, InR x) (d : Nat) : ∀ (i : Nat) (acc : List S29), 12 - i ≤ d → i ≤ 12 → acc.length = i → (∀ x ∈ acc, Good x) →
    ∃ out, EvK (fun K => humpyardlaw15_Fit.l0 K l acc (i : Int)) out ∧ (∀ x ∈ out, Good x) ∧ out.length ≤ 12 := by
  have stop : ∀ (i : Nat) (acc : List S29), ¬ (i < l.length ∧ i < 12) → EvK (fun K => humpyardlaw15_Fit.l0 K l acc (i : Int)) acc := by
    intro i acc h
    refine (EvK.now acc).succ fun K => ?_
    show humpyardlaw15_Fit.l0 (K + 1) l acc (i : Int) = _
    rw [humpyardlaw15_Fit.l0]
    by_cases h1 : (i : Int) < (l.length : Int)
    · have h2 : ¬ ((i : Int) < 12) := by omega
      rw [if_pos h1, if_neg h2]
    · rw [if_neg h1]
  induction d with
  | zero =>
    intro i acc hd hi ha hg
    exact ⟨acc, stop i acc (by omega), hg, by omega⟩
  | succ d ih =>
    intro i acc hd hi ha hg
    by_cases hc : i < l.length ∧ i < 12
    · obtain ⟨hc1, hc2⟩ := hc
      have hla : acc.length < 2932031007402 := by omega
      obtain ⟨y, hy, hstep⟩ := fit_rec _ (hl _ (rd_mem l i hc1))
      have hlen : (acc ++ [y]).length = i + 1 := by rw [List.length_append, List.length_singleton, ha]
      obtain ⟨out, ho, hog, hol⟩ := ih (i + 1) (acc ++ [y]) (by omega) (by omega) hlen (fun z hz => by
        rcases List.mem_append.mp hz with hz | hz
        · exact hg z hz
        · rw [List.mem_singleton.mp hz]
          exact hy)
      exact ⟨out, ho.succ fun K => hstep K l acc i hc1 hc2 rfl hla, hog, hol⟩
    · exact ⟨acc, stop i acc hc, hg, by omega⟩
theorem fit_tells (l : List S29) (hl : ∀ x ∈ l, InR x) : ∃ out, EvK (fun K => humpyardlaw15_Fit.f K l) out ∧ (∀ x ∈ out, Good x) ∧ out.length ≤ 12 :=
  fit_l0 l hl 12 0 [] (by omega) (by omega) rfl (fun x hx => absurd hx (by simp))
theorem flat_good (l : List S29) (h : ∀ x ∈ l, Good x) : (flat (l.map recS)).length ≤ 270 * l.length := by
  induction l with
  | nil => exact Nat.zero_le _
  | cons x xs ih =>
    show (recB (recS x) ++ flat (xs.map recS)).length ≤ 270 * (xs.length + 1)
    rw [List.length_append]
    have := (h x List.mem_cons_self).len
    have := ih fun y hy => h y (List.mem_cons_of_mem _ hy)
    omega
theorem right_map (l : List S29) (h : ∀ x ∈ l, Right (recS x)) : ∀ y ∈ l.map recS, Right y := fun y hy => by
  obtain ⟨x, hx, rfl⟩ := List.mem_map.mp hy
  exact h x hx
/-- The document's Same. -/
theorem refsame_l1 (a b : List S29) (i : Nat) (r : Bool) (ha : i < a.length) (hb : i < b.length) (hi : i < 9223372036854775807) (hn : (rd_T29 a (i : Int)).f1.length = (rd_T29 b (i : Int)).f1.length) (hm : (rd_T29 a (i : Int)).f1.length ≤ 9223372036854775807)
    (hnext : EvK (fun K => humpyardref15_Same.l0 K a b ((i + 1 : Nat) : Int)) r) (d : Nat) : ∀ (j : Nat), (rd_T29 a (i : Int)).f1.length - j = d → j ≤ (rd_T29 a (i : Int)).f1.length →
    EvK (fun K => humpyardref15_Same.l1 K a b (i : Int) (j : Int)) (((rd_T29 a (i : Int)).f1.drop j == (rd_T29 b (i : Int)).f1.drop j) && r) := by
  have c0 : (0 : Int) ≤ (i : Int) := by omega
  have c1 : (i : Int) < (a.length : Int) := by omega
  have c2 : (i : Int) < (b.length : Int) := by omega
  have hw : wrap64 ((i : Int) + 1) = ((i + 1 : Nat) : Int) := by unfold wrap64; omega
  induction d with
  | zero =>
    intro j hd hj
    have c3 : ¬ ((j : Int) < ((rd_T29 a (i : Int)).f1.length : Int)) := by omega
    have e1 : (rd_T29 a (i : Int)).f1.drop j = [] := List.drop_eq_nil_of_le (by omega)
    have e2 : (rd_T29 b (i : Int)).f1.drop j = [] := List.drop_eq_nil_of_le (by omega)
    rw [e1, e2]
    have e3 : ((([] : List Int) == []) && r) = r := rfl
    rw [e3]
    refine hnext.succ fun K => ?_
    show humpyardref15_Same.l1 (K + 1) a b (i : Int) (j : Int) = _
    rw [humpyardref15_Same.l1]
    rw [if_pos c0, if_pos c1, if_neg c3, hw]
  | succ d ih =>
    intro j hd hj
    have hja : j < (rd_T29 a (i : Int)).f1.length := by omega
    have hjb : j < (rd_T29 b (i : Int)).f1.length := by omega
    have c3 : (j : Int) < ((rd_T29 a (i : Int)).f1.length : Int) := by omega
    have c4 : (0 : Int) ≤ (j : Int) := by omega
    have c5 : (j : Int) < ((rd_T29 b (i : Int)).f1.length : Int) := by omega
    have hw2 : wrap64 ((j : Int) + 1) = ((j + 1 : Nat) : Int) := by unfold wrap64; omega
    have r1 : (rd_T29 a (i : Int)).f1.drop j = rd (rd_T29 a (i : Int)).f1 (j : Int) :: (rd_T29 a (i : Int)).f1.drop (j + 1) := by
      unfold rd
      rw [Int.toNat_natCast, List.drop_eq_getElem_cons hja, List.getD_eq_getElem?_getD, List.getElem?_eq_getElem hja]
      rfl
    have r2 : (rd_T29 b (i : Int)).f1.drop j = rd (rd_T29 b (i : Int)).f1 (j : Int) :: (rd_T29 b (i : Int)).f1.drop (j + 1) := by
      unfold rd
      rw [Int.toNat_natCast, List.drop_eq_getElem_cons hjb, List.getD_eq_getElem?_getD, List.getElem?_eq_getElem hjb]
      rfl
    rw [r1, r2, List.cons_beq_cons]
    by_cases he : rd (rd_T29 a (i : Int)).f1 (j : Int) = rd (rd_T29 b (i : Int)).f1 (j : Int)
    · rw [beq_iff_eq.mpr he, Bool.true_and]
      refine (ih (j + 1) (by omega) (by omega)).succ fun K => ?_
      show humpyardref15_Same.l1 (K + 1) a b (i : Int) (j : Int) = _
      rw [humpyardref15_Same.l1]
      rw [if_pos c0, if_pos c1, if_pos c3, if_pos c4, if_pos c2, if_pos c5, if_pos he, hw2]
    · rw [beq_eq_false_iff_ne.mpr he, Bool.false_and, Bool.false_and]
      refine (EvK.now false).succ fun K => ?_
      show humpyardref15_Same.l1 (K + 1) a b (i : Int) (j : Int) = _
      rw [humpyardref15_Same.l1]
      rw [if_pos c0, if_pos c1, if_pos c3, if_pos c4, if_pos c2, if_pos c5, if_neg he]
theorem refsame_l0 (a b : List S29) (hab : a.length = b.length) (hn : a.length ≤ 9223372036854775807) (hm : ∀ x ∈ a, x.f1.length ≤ 9223372036854775807) (d : Nat) : ∀ i : Nat, a.length - i = d → i ≤ a.length →
    EvK (fun K => humpyardref15_Same.l0 K a b (i : Int)) (sameB (a.drop i) (b.drop i)) := by
  induction d with
  | zero =>
    intro i hd hi
    have c1 : ¬ ((i : Int) < (a.length : Int)) := by omega
    rw [List.drop_eq_nil_of_le (by omega), List.drop_eq_nil_of_le (by omega)]
    refine (EvK.now true).succ fun K => ?_
    show humpyardref15_Same.l0 (K + 1) a b (i : Int) = _
    rw [humpyardref15_Same.l0]
    rw [if_neg c1]
  | succ d ih =>
    intro i hd hi
    have ha : i < a.length := by omega
    have hb : i < b.length := by omega
    have c0 : (0 : Int) ≤ (i : Int) := by omega
    have c1 : (i : Int) < (a.length : Int) := by omega
    have c2 : (i : Int) < (b.length : Int) := by omega
    rw [rd_drop a i ha, rd_drop b i hb]
    show EvK _ (sameR _ _ && sameB _ _)
    have hs := ih (i + 1) (by omega) (by omega)
    have hmx := hm _ (rd_mem a i ha)
    have out : ∀ K, humpyardref15_Same.j1 (K + 1) a b (i : Int) true = some false := fun K => by
      rw [humpyardref15_Same.j1]
      exact if_pos rfl
    have none : ∀ f : Nat → Option Bool, (∀ K, f (K + 1) = humpyardref15_Same.j1 K a b (i : Int) true) → EvK f false := fun f h => (EvK.succ (EvK.now false) out).succ h
    unfold sameR
    by_cases e0 : (rd_T29 a (i : Int)).f0 = (rd_T29 b (i : Int)).f0
    · rw [beq_iff_eq.mpr e0, Bool.true_and]
      by_cases e2 : (rd_T29 a (i : Int)).f2.data.toList = (rd_T29 b (i : Int)).f2.data.toList
      · rw [beq_iff_eq.mpr e2, Bool.true_and]
        have e2' : (rd_T29 a (i : Int)).f2.toList = (rd_T29 b (i : Int)).f2.toList := by rw [Lib.toList_data, Lib.toList_data, e2]
        by_cases e1 : (rd_T29 a (i : Int)).f1.length = (rd_T29 b (i : Int)).f1.length
        · have h1 := refsame_l1 a b i _ ha hb (by omega) e1 hmx hs (rd_T29 a (i : Int)).f1.length 0 rfl (Nat.zero_le _)
          rw [List.drop_zero, List.drop_zero] at h1
          have hb1 : ((((rd_T29 a (i : Int)).f1.length : Int)) != ((rd_T29 b (i : Int)).f1.length : Int)) = false := by
            rw [bne_eq_false_iff_eq, e1]
          refine (EvK.succ (f := fun K => humpyardref15_Same.j1 K a b (i : Int) false) h1 fun K => ?_).succ fun K => ?_
          · show humpyardref15_Same.j1 (K + 1) a b (i : Int) false = _
            rw [humpyardref15_Same.j1]
            exact if_neg (by decide)
          · show humpyardref15_Same.l0 (K + 1) a b (i : Int) = _
            rw [humpyardref15_Same.l0]
            rw [if_pos c1, if_pos c0, if_pos c2, if_pos e0, if_pos e2', hb1]
        · have hne : ((rd_T29 a (i : Int)).f1 == (rd_T29 b (i : Int)).f1) = false := beq_eq_false_iff_ne.mpr fun h => e1 (by rw [h])
          have hb1 : ((((rd_T29 a (i : Int)).f1.length : Int)) != ((rd_T29 b (i : Int)).f1.length : Int)) = true := by
            rw [bne_iff_ne]
            omega
          rw [hne, Bool.false_and]
          refine none _ fun K => ?_
          show humpyardref15_Same.l0 (K + 1) a b (i : Int) = _
          rw [humpyardref15_Same.l0]
          rw [if_pos c1, if_pos c0, if_pos c2, if_pos e0, if_pos e2', hb1]
      · rw [beq_eq_false_iff_ne.mpr e2, Bool.false_and, Bool.false_and]
        have e2' : ¬ ((rd_T29 a (i : Int)).f2.toList = (rd_T29 b (i : Int)).f2.toList) := by rw [Lib.toList_data, Lib.toList_data]; exact e2
        refine none _ fun K => ?_
        show humpyardref15_Same.l0 (K + 1) a b (i : Int) = _
        rw [humpyardref15_Same.l0]
        rw [if_pos c1, if_pos c0, if_pos c2, if_pos e0, if_neg e2']
    · rw [beq_eq_false_iff_ne.mpr e0, Bool.false_and, Bool.false_and]
      refine none _ fun K => ?_
      show humpyardref15_Same.l0 (K + 1) a b (i : Int) = _
      rw [humpyardref15_Same.l0]
      rw [if_pos c1, if_pos c0, if_pos c2, if_neg e0]
theorem sameB_len (a : List S29) (b : List S29) (h : a.length ≠ b.length) : sameB a b = false := by
  cases hs : sameB a b with
  | false => rfl
  | true => exact absurd (congrArg List.length ((sameB_iff a b).mp hs)) h
theorem refsame_tells (a b : List S29) (hn : a.length ≤ 9223372036854775807) (hm : ∀ x ∈ a, x.f1.length ≤ 9223372036854775807) : EvK (fun K => humpyardref15_Same.f K a b) (sameB a b) := by
  by_cases h : a.length = b.length
  · have h' : (a.length : Int) = (b.length : Int) := by omega
    have h0 := refsame_l0 a b h hn hm a.length 0 rfl (Nat.zero_le _)
    refine h0.of fun K => ?_
    show humpyardref15_Same.f K a b = _
    unfold humpyardref15_Same.f
    rw [if_pos h']
    rfl
  · have h' : ¬ ((a.length : Int) = (b.length : Int)) := by omega
    rw [sameB_len a b h]
    refine (EvK.now false).of fun K => ?_
    show humpyardref15_Same.f K a b = _
    unfold humpyardref15_Same.f
    rw [if_neg h']
end Go.Proofs.Ythaeecoahbohnaa.Plain
