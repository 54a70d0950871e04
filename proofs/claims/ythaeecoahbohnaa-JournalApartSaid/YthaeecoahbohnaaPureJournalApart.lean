/- Plain law of JournalApart: two records are laid alike exactly where they are the same, and none begins another. -/
import Derived.Test.YthaeecoahbohnaaOpen
import Derived.Test.YthaeecoahbohnaaPJourx10
namespace Go.Proofs.Ythaeecoahbohnaa.Pure
open Go Go.RowKit Go.Proofs.Ythaeecoahbohnaa.PJour Go.Proofs.YthaeecoahbohnaaW.PrintWords Go.Proofs.YthaeecoahbohnaaW.PrintLast Go.Proofs.YthaeecoahbohnaaW.PrintMore
open Go.Proofs.Ythaeecoahbohnaa.Plain
set_option linter.unusedVariables false
theorem wrap_next (i : Nat) (h : i ≤ 4000) : wrap64 ((i : Int) + 1) = ((i + 1 : Nat) : Int) := by unfold wrap64; omega
theorem take_drop_one (l : List S29) (i : Nat) (h : i < l.length) : (l.take (i + 1)).drop i = [rd_T29 l (i : Int)] := by
  rw [List.drop_take, rd_drop l i h, show i + 1 - i = 1 from by omega]
  rfl
theorem recBytes_eq (x y : S29) (hx : Right (recS x)) (hy : Right (recS y)) : ((recBytes x).toList == (recBytes y).toList) = sameB [x] [y] := by
  rw [Lib.toList_data, Lib.toList_data]
  by_cases h : x = y
  · rw [h, sameB_self]
    exact beq_self_eq_true _
  · have h1 : ¬ ((recBytes x).data.toList = (recBytes y).data.toList) := fun e => h (recS_inj (rec_inj _ _ hx hy e))
    have h2 : ¬ (sameB [x] [y] = true) := fun e => h (List.cons.inj ((sameB_iff _ _).mp e)).1
    rw [beq_eq_false_iff_ne.mpr h1, Bool.eq_false_iff.mpr h2]
theorem recBytes_pre (x y : S29) (hx : Right (recS x)) (hy : Right (recS y)) (hs : (recBytes x).size < (recBytes y).size) : ¬ (((recBytes y).extract 0 (recBytes x).size).toList = (recBytes x).toList) := by
  rw [Lib.toList_data, Lib.toList_data, ext_list, List.drop_zero, Nat.sub_zero]
  intro h
  have e : recB (recS x) ++ ((recBytes y).data.toList.drop (recBytes x).size) = recB (recS y) ++ [] := by
    have h' : recB (recS x) = (recBytes y).data.toList.take (recBytes x).size := h.symm
    rw [h', List.take_append_drop, List.append_nil]
    rfl
  have he := (rec_apart _ _ hx hy _ _ e).1
  rw [recS_inj he] at hs
  exact Nat.lt_irrefl _ hs
theorem apart_l1 (a b : List S29) (ha : ∀ x ∈ a, Right (recS x)) (hb : ∀ x ∈ b, Right (recS x)) (hna : a.length ≤ 12) (hnb : b.length ≤ 12) (i : Nat) (hi : i < a.length)
    (hnext : EvK (fun K => humpyardlaw15_JournalApart.l0 K true a b ((i + 1 : Nat) : Int)) true) (d : Nat) : ∀ j : Nat, b.length - j = d → j ≤ b.length →
    EvK (fun K => humpyardlaw15_JournalApart.l1 K true a b (i : Int) (recBytes (rd_T29 a (i : Int))) 0 (j : Int)) true := by
  have wi : wrap64 ((i : Int) + 1) = ((i + 1 : Nat) : Int) := wrap_next i (by omega)
  have hx := ha _ (rd_mem a i hi)
  obtain ⟨x, hxe⟩ : ∃ x, x = rd_T29 a (i : Int) := ⟨_, rfl⟩
  have hdx := take_drop_one a i hi
  rw [← hxe] at hx hdx ⊢
  induction d with
  | zero =>
    intro j hd hj
    have c1 : ¬ ((j : Int) < (b.length : Int)) := by omega
    refine hnext.succ fun K => ?_
    show humpyardlaw15_JournalApart.l1 (K + 1) true a b (i : Int) (recBytes x) 0 (j : Int) = _
    rw [humpyardlaw15_JournalApart.l1]
    rw [if_neg c1, wi]
  | succ d ih =>
    intro j hd hj
    have hjl : j < b.length := by omega
    have wj : wrap64 ((j : Int) + 1) = ((j + 1 : Nat) : Int) := wrap_next j (by omega)
    have c1 : (j : Int) < (b.length : Int) := by omega
    have c2 : (0 : Int) ≤ (j : Int) := by omega
    have c3 : (0 : Int) ≤ (i : Int) := by omega
    have c4 : (i : Int) ≤ ((i + 1 : Nat) : Int) := by omega
    have c5 : ((i + 1 : Nat) : Int) ≤ (a.length : Int) := by omega
    have c6 : (j : Int) ≤ ((j + 1 : Nat) : Int) := by omega
    have c7 : ((j + 1 : Nat) : Int) ≤ (b.length : Int) := by omega
    have hn := ih (j + 1) (by omega) (by omega)
    have hy := hb _ (rd_mem b j hjl)
    obtain ⟨y, hye⟩ : ∃ y, y = rd_T29 b (j : Int) := ⟨_, rfl⟩
    have hdy := take_drop_one b j hjl
    rw [← hye] at hy hdy
    have hly := lay_right y hy
    have hxn : ∀ z ∈ [x], z.f1.length < 9223372036854775807 := fun z hz => by
      rw [List.mem_singleton.mp hz]
      exact Nat.lt_of_le_of_lt hx.n (by decide)
    have hsame := refsame_tells [x] [y] (by rw [List.length_singleton]; decide) hxn
    have heq := recBytes_eq x y hx hy
    have hpre := recBytes_pre x y hx hy
    have c8 : (0 : Int) ≤ ((recBytes x).size : Int) := Int.natCast_nonneg _
    refine EvK.succ (hsame.bind (g := fun K t333 => if ((recBytes x).toList == (recBytes y).toList) != t333 then (some false) else (if ((recBytes x).size : Int) < ((recBytes y).size : Int) then (if 0 ≤ ((recBytes x).size : Int) then (if ((recBytes x).size : Int) ≤ ((recBytes y).size : Int) then (if ((recBytes y).extract 0 (((recBytes x).size : Int)).toNat).toList = (recBytes x).toList then (some false) else (humpyardlaw15_JournalApart.l1 K true a b (i : Int) (recBytes x) 0 ((j + 1 : Nat) : Int))) else (none)) else (none)) else (humpyardlaw15_JournalApart.l1 K true a b (i : Int) (recBytes x) 0 ((j + 1 : Nat) : Int)))) (hn.of fun K => ?_)) fun K => ?_
    · have hb0 : ¬ ((((recBytes x).toList == (recBytes y).toList) != sameB [x] [y]) = true) := by
        rw [heq, bne_self_eq_false]
        decide
      show (if _ then _ else _) = _
      rw [if_neg hb0]
      by_cases hs : ((recBytes x).size : Int) < ((recBytes y).size : Int)
      · have c9 : ((recBytes x).size : Int) ≤ ((recBytes y).size : Int) := Int.le_of_lt hs
        rw [if_pos hs, if_pos c8, if_pos c9, Int.toNat_natCast, if_neg (hpre (Int.ofNat_lt.mp hs))]
      · rw [if_neg hs]
    · show humpyardlaw15_JournalApart.l1 (K + 1) true a b (i : Int) (recBytes x) 0 (j : Int) = _
      rw [humpyardlaw15_JournalApart.l1]
      rw [if_pos c1, if_pos c2, ← hye, hly, Option.bind_some, if_pos rfl, if_pos rfl, wi, wj, if_pos c3, if_pos c4, if_pos c5, if_pos c6, if_pos c7, Int.toNat_natCast, Int.toNat_natCast, Int.toNat_natCast, Int.toNat_natCast, hdx, hdy]
theorem apart_l0 (a b : List S29) (ha : ∀ x ∈ a, Right (recS x)) (hb : ∀ x ∈ b, Right (recS x)) (hna : a.length ≤ 12) (hnb : b.length ≤ 12) (d : Nat) : ∀ i : Nat, a.length - i = d → i ≤ a.length →
    EvK (fun K => humpyardlaw15_JournalApart.l0 K true a b (i : Int)) true := by
  induction d with
  | zero =>
    intro i hd hi
    have c1 : ¬ ((i : Int) < (a.length : Int)) := by omega
    refine (EvK.now true).succ fun K => ?_
    show humpyardlaw15_JournalApart.l0 (K + 1) true a b (i : Int) = _
    rw [humpyardlaw15_JournalApart.l0]
    rw [if_neg c1]
  | succ d ih =>
    intro i hd hi
    have hil : i < a.length := by omega
    have c1 : (i : Int) < (a.length : Int) := by omega
    have c2 : (0 : Int) ≤ (i : Int) := by omega
    have hn := ih (i + 1) (by omega) (by omega)
    refine (apart_l1 a b ha hb hna hnb i hil hn b.length 0 rfl (Nat.zero_le _)).succ fun K => ?_
    show humpyardlaw15_JournalApart.l0 (K + 1) true a b (i : Int) = _
    rw [humpyardlaw15_JournalApart.l0]
    rw [if_pos c1, if_pos c2, lay_right _ (ha _ (rd_mem a i hil)), Option.bind_some]
    rfl
theorem JournalApart (l : List S29) (hl : ∀ x ∈ l, Fits x) (hm : l.length ≤ maxLen) (q : List S29) (hq : ∀ x ∈ q, Fits x) (hqm : q.length ≤ maxLen) : ∃ k, humpyardlaw15_JournalApart.f k l q = some true := by
  obtain ⟨a, hoa, hga, hna⟩ := fit_tells l (fun x hx => (hl x hx).r)
  obtain ⟨b, hob, hgb, hnb⟩ := fit_tells q (fun x hx => (hq x hx).r)
  have ha : ∀ x ∈ a, Right (recS x) := fun x hx => (hga x hx).right
  have hb : ∀ x ∈ b, Right (recS x) := fun x hx => (hgb x hx).right
  exact EvK.one (EvK.bind awake_tells (hoa.bind (hob.bind (apart_l0 a b ha hb hna hnb a.length 0 rfl (Nat.zero_le _)))))
end Go.Proofs.Ythaeecoahbohnaa.Pure
