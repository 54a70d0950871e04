/- Plain law of JournalTells: Lay, Read and Same say what the document's say. Read: of texts of bounded length. -/
import Derived.Test.YthaeecoahbohnaaOpen
import Derived.Test.YthaeecoahbohnaaRefReads
import Derived.Test.YthaeecoahbohnaaPJourx8
namespace Go.Proofs.Ythaeecoahbohnaa.Pure
open Go Go.RowKit Go.Proofs.Ythaeecoahbohnaa.PJour Go.Proofs.YthaeecoahbohnaaW.PrintWords Go.Proofs.YthaeecoahbohnaaW.PrintLast Go.Proofs.YthaeecoahbohnaaW.PrintMore
open Go.Proofs.Ythaeecoahbohnaa.Plain
set_option linter.unusedVariables false
theorem rdOf_mem (L : List ByteArray) (j : Nat) (h : j < L.length) : rdOf ByteArray.empty L (j : Int) ∈ L := by
  unfold rdOf
  rw [Int.toNat_natCast, List.getD_eq_getElem?_getD, List.getElem?_eq_getElem h]
  exact List.getElem_mem h
/-- The texts: each is read alike. -/
theorem tells_l2 (x0 x1 x20 : List S29) (L : List ByteArray) (hL : ∀ s ∈ L, s.size ≤ 29320310074000) (hLl : L.length ≤ 6)
    (h0 : x0.length ≤ 9223372036854775807) (hx0 : ∀ x ∈ x0, x.f1.length ≤ 9223372036854775807) (h20 : x20.length ≤ 12) (hr : ∀ x ∈ x20, Right (recS x)) (d : Nat) : ∀ j : Nat, L.length - j = d → j ≤ L.length →
    EvK (fun K => humpyardlaw15_JournalTells.l2 K x0 x1 true x20 L (L.length : Int) (j : Int)) true := by
  induction d with
  | zero =>
    intro j hd hj
    have c1 : ¬ ((j : Int) < (L.length : Int)) := by omega
    have hs1 : journal_Same.f x0 x1 = some (sameB x0 x1) := by
      unfold journal_Same.f
      exact if_pos ⟨h0, hx0⟩
    have hs2 := refsame_tells x0 x1 h0 hx0
    have hs3 : journal_Same.f x20 x20 = some true := same_self _ (Nat.le_trans h20 (by decide)) hr
    refine EvK.succ (hs2.bind (g := fun K t206 => (if (sameB x0 x1 == t206) = true then ((journal_Same.f x20 x20).bind fun t207 => (some t207)) else (some false))) ((EvK.now true).of fun K => ?_)) fun K => ?_
    · have e : (sameB x0 x1 == sameB x0 x1) = true := beq_self_eq_true _
      show (if (sameB x0 x1 == sameB x0 x1) = true then _ else _) = _
      rw [if_pos e, hs3]
      rfl
    · show humpyardlaw15_JournalTells.l2 (K + 1) x0 x1 true x20 L (L.length : Int) (j : Int) = _
      rw [humpyardlaw15_JournalTells.l2]
      rw [if_neg c1, if_pos rfl, hs1, Option.bind_some]
  | succ d ih =>
    intro j hd hj
    have hjl : j < L.length := by omega
    have c1 : (j : Int) < (L.length : Int) := by omega
    have c2 : (0 : Int) ≤ (j : Int) := by omega
    have k1 : j + 1 ≤ 9223372036854775807 := by omega
    have hn := ih (j + 1) (by omega) (by omega)
    obtain ⟨s, hsd⟩ : ∃ s, s = rdOf ByteArray.empty L (j : Int) := ⟨_, rfl⟩
    have hsz : s.size ≤ 29320310074000 := hL s (by rw [hsd]; exact rdOf_mem L j hjl)
    obtain ⟨rs, hrd, hR⟩ := read_tells s hsz
    have hrf := refread_of s hsz rs hR
    have hrr : ∀ x ∈ rs, x.f1.length ≤ 9223372036854775807 := fun x hx => Nat.le_trans (hR.1 _ (List.mem_map_of_mem hx)).n (by decide)
    have hrl : rs.length ≤ 9223372036854775807 := by
      have a := flat_len (rs.map recS)
      rw [List.length_map] at a
      obtain ⟨_, rest, e, _⟩ := hR
      have e := congrArg List.length e
      rw [data_length, List.length_append] at e
      obtain ⟨z, hz⟩ : ∃ z, z = (flat (rs.map recS)).length := ⟨_, rfl⟩
      rw [← hz] at a e
      clear hrd hrf hz
      omega
    have hss := refsame_tells rs rs hrl hrr
    rw [sameB_self] at hss
    have hw : wrap64 ((j : Int) + 1) = ((j + 1 : Nat) : Int) := wrN _ _ rfl k1
    refine EvK.succ (hrd.bind (g := fun K bt209 => ((humpyardref15_Read.f K s).bind fun bt213 => ((humpyardref15_Same.f K bt209.1 bt213.1).bind fun t217 => (if t217 = true then (if bt209.2 = bt213.2 then (humpyardlaw15_JournalTells.l2 K x0 x1 true x20 L (L.length : Int) ((j + 1 : Nat) : Int)) else (some false)) else (some false))))) (hrf.bind (hss.bind (hn.of fun K => ?_)))) fun K => ?_
    · show (if true = true then _ else _) = _
      rw [if_pos rfl]
      exact if_pos rfl
    · show humpyardlaw15_JournalTells.l2 (K + 1) x0 x1 true x20 L (L.length : Int) (j : Int) = _
      rw [humpyardlaw15_JournalTells.l2]
      rw [if_pos c1, if_pos c2, if_pos c1, hw, ← hsd]
/-- The journal of the document's Lay. -/
def sixOf (x2 x14 x5 : ByteArray) (n q : Nat) : List ByteArray := [x2, x14, x14 ++ x5, x14.extract 0 n, ((x14.extract 0 n) ++ x5) ++ (x14.extract q x14.size), ((x14.extract 0 n) ++ x5) ++ (x14.extract n x14.size)]
theorem ext_le (s : ByteArray) (a b : Nat) : (s.extract a b).size ≤ s.size := by
  rw [ByteArray.size_extract]
  exact Nat.le_trans (Nat.sub_le _ _) (Nat.min_le_right _ _)
theorem six_small (x2 x14 x5 : ByteArray) (n q : Nat) (h2 : x2.size ≤ 1048576) (h14 : x14.size ≤ 4000) (h5 : x5.size ≤ 1048576) : ∀ s ∈ sixOf x2 x14 x5 n q, s.size ≤ 29320310074000 := by
  have a := ext_le x14 0 n
  have b := ext_le x14 q x14.size
  have c := ext_le x14 n x14.size
  intro s hs
  unfold sixOf at hs
  simp only [List.mem_cons, List.not_mem_nil, or_false] at hs
  rcases hs with rfl | rfl | rfl | rfl | rfl | rfl <;> first | omega | (rw [ByteArray.size_append]; omega) | (rw [ByteArray.size_append, ByteArray.size_append]; omega)
theorem tells_l1 (x0 x1 x20 : List S29) (x2 x5 : ByteArray) (x4 : Int) (hx4 : -9223372036854775808 ≤ x4 ∧ x4 ≤ 9223372036854775807) (h2 : x2.size ≤ 1048576) (h5 : x5.size ≤ 1048576)
    (h0 : x0.length ≤ 9223372036854775807) (hx0 : ∀ x ∈ x0, x.f1.length ≤ 9223372036854775807) (h20 : x20.length ≤ 12) (hr : ∀ x ∈ x20, Right (recS x)) (hf : (flat (x20.map recS)).length ≤ 4000) (d : Nat) : ∀ (i : Nat) (x14 : ByteArray), x20.length - i = d → i ≤ x20.length → x14.data.toList = flat ((x20.take i).map recS) →
    EvK (fun K => humpyardlaw15_JournalTells.l1 K x0 x1 x2 x4 x5 true x14 x20 (i : Int)) true := by
  induction d with
  | zero =>
    intro i x14 hd hi hx
    have c1 : ¬ ((i : Int) < (x20.length : Int)) := by omega
    have h14 : x14.size ≤ 4000 := by
      rw [← data_length, hx, List.take_of_length_le (by omega)]
      exact hf
    obtain ⟨n, hn, hp⟩ := pick_nat x4 (x14.size + 1) hx4 (Nat.succ_pos _)
    have kw : x14.size + 1 ≤ 9223372036854775807 := by omega
    have k2 : n + x5.size ≤ 9223372036854775807 := by omega
    have a0 := ext_le x14 0 n
    have b0 := ext_le x14 n x14.size
    have d1 : x14.size + x5.size ≤ 9223372036854775807 := by omega
    have d2 : (0 : Int) ≤ (n : Int) := Int.natCast_nonneg n
    have d3 : (n : Int) ≤ (x14.size : Int) := Int.ofNat_le.mpr (Nat.le_of_lt_succ hn)
    have d4 : (x14.extract 0 n).size + x5.size ≤ 9223372036854775807 := by omega
    have d8 : ((x14.extract 0 n) ++ x5).size + (x14.extract n x14.size).size ≤ 9223372036854775807 := by
      have e : ((x14.extract 0 n) ++ x5).size = (x14.extract 0 n).size + x5.size := ByteArray.size_append
      omega
    have dq : ∀ q : Nat, ((x14.extract 0 n) ++ x5).size + (x14.extract q x14.size).size ≤ 9223372036854775807 := fun q => by
      have e : ((x14.extract 0 n) ++ x5).size = (x14.extract 0 n).size + x5.size := ByteArray.size_append
      have b := ext_le x14 q x14.size
      omega
    obtain ⟨q, hq, hq1, _⟩ := mn_le (n + x5.size) x14.size
    have d5 : (0 : Int) ≤ (q : Int) := Int.natCast_nonneg q
    rename_i hq2
    have d6 : (q : Int) ≤ (x14.size : Int) := Int.ofNat_le.mpr hq2
    have hw : wrap64 ((x14.size : Int) + 1) = ((x14.size + 1 : Nat) : Int) := wrN _ _ rfl kw
    have hw2 : wrap64 ((n : Int) + (x5.size : Int)) = ((n + x5.size : Nat) : Int) := wrN _ _ rfl k2
    have h2l := tells_l2 x0 x1 x20 (sixOf x2 x14 x5 n q) (six_small x2 x14 x5 n q h2 h14 h5) (Nat.le_refl 6) h0 hx0 h20 hr 6 0 rfl (Nat.zero_le _)
    refine h2l.succ fun K => ?_
    show humpyardlaw15_JournalTells.l1 (K + 1) x0 x1 x2 x4 x5 true x14 x20 (i : Int) = _
    rw [humpyardlaw15_JournalTells.l1]
    rw [if_neg c1, hw, hp, Option.bind_some, if_pos d1, if_pos d2, if_pos d3, Int.toNat_natCast, if_pos d4, hw2, hq, if_pos d5, if_pos d6, Int.toNat_natCast, if_pos (dq q), if_pos d8]
    rfl
  | succ d ih =>
    intro i x14 hd hi hx
    have hil : i < x20.length := by omega
    have c1 : (i : Int) < (x20.length : Int) := Int.ofNat_lt.mpr hil
    have c2 : (0 : Int) ≤ (i : Int) := Int.natCast_nonneg i
    have k1 : i + 1 ≤ 9223372036854775807 := by omega
    obtain ⟨x, hxd⟩ : ∃ x, x = rd_T29 x20 (i : Int) := ⟨_, rfl⟩
    have hxr : Right (recS x) := hr x (by rw [hxd]; exact rd_mem x20 i hil)
    have hlay := reflay_tells x.f0 x.f1 x.f2
    have hle : layOf x.f0 x.f1 x.f2 = (recBytes x, 0) := Option.some.inj (lay_right x hxr)
    rw [hle] at hlay
    have htake : x20.take (i + 1) = x20.take i ++ [x] := by
      rw [hxd]
      unfold rd_T29
      rw [Int.toNat_natCast, List.getD_eq_getElem?_getD, List.getElem?_eq_getElem hil, List.take_succ_eq_append_getElem hil]
      rfl
    have hnx : (x14 ++ recBytes x).data.toList = flat ((x20.take (i + 1)).map recS) := by
      rw [list_append, hx, htake, List.map_append, flat_append, List.map_cons, List.map_nil, flat_one]
      rfl
    have hsz : x14.size + (recBytes x).size ≤ 4000 := by
      have e : (x14 ++ recBytes x).size = x14.size + (recBytes x).size := ByteArray.size_append
      rw [← e, ← data_length, hnx]
      refine Nat.le_trans ?_ hf
      have e2 : flat (x20.map recS) = flat ((x20.take (i + 1)).map recS) ++ flat ((x20.drop (i + 1)).map recS) := by
        rw [← flat_append, ← List.map_append, List.take_append_drop]
      rw [e2, List.length_append]
      exact Nat.le_add_right _ _
    have c3 : x14.size + (recBytes x).size ≤ 9223372036854775807 := Nat.le_trans hsz (by decide)
    have hn := ih (i + 1) (x14 ++ recBytes x) (by omega) (by omega) hnx
    have hw : wrap64 ((i : Int) + 1) = ((i + 1 : Nat) : Int) := wrN _ _ rfl k1
    refine EvK.succ (hlay.bind (g := fun K bt199 => (if x14.size + bt199.1.size ≤ 9223372036854775807 then (humpyardlaw15_JournalTells.l1 K x0 x1 x2 x4 x5 true (x14 ++ bt199.1) x20 ((i + 1 : Nat) : Int)) else (none))) (hn.of fun K => if_pos c3)) fun K => ?_
    show humpyardlaw15_JournalTells.l1 (K + 1) x0 x1 x2 x4 x5 true x14 x20 (i : Int) = _
    rw [humpyardlaw15_JournalTells.l1]
    rw [if_pos c1, if_pos c2, ← hxd, hw]
theorem tells_l0 (x0 x1 x3 : List S29) (x2 x5 : ByteArray) (x4 : Int) (hx4 : -9223372036854775808 ≤ x4 ∧ x4 ≤ 9223372036854775807) (h2 : x2.size ≤ 1048576) (h5 : x5.size ≤ 1048576)
    (h0 : x0.length ≤ 9223372036854775807) (hx0 : ∀ x ∈ x0, x.f1.length ≤ 9223372036854775807) (h3 : ∀ x ∈ x3, InR x) (d : Nat) : ∀ i : Nat, 12 - i = d → i ≤ 12 →
    EvK (fun K => humpyardlaw15_JournalTells.l0 K x0 x1 x2 x3 x4 x5 true (⟨#[]⟩ : ByteArray) (i : Int)) true := by
  obtain ⟨out, ho, hg, hnl⟩ := fit_tells x3 h3
  have hr : ∀ x ∈ out, Right (recS x) := fun x hx => (hg x hx).right
  have hf : (flat (out.map recS)).length ≤ 4000 := Nat.le_trans (flat_good out hg) (by omega)
  have hl1 := tells_l1 x0 x1 out x2 x5 x4 hx4 h2 h5 h0 hx0 hnl hr hf out.length 0 (⟨#[]⟩ : ByteArray) rfl (Nat.zero_le _) rfl
  have last : ∀ i : Nat, EvK (fun K => humpyardlaw15_JournalTells.j1 K x0 x1 x2 x3 x4 x5 true (⟨#[]⟩ : ByteArray) (i : Int) false) true := fun i => by
    refine EvK.succ (ho.bind (g := fun K t195 => humpyardlaw15_JournalTells.l1 K x0 x1 x2 x4 x5 true (⟨#[]⟩ : ByteArray) t195 0) hl1) fun K => ?_
    show humpyardlaw15_JournalTells.j1 (K + 1) x0 x1 x2 x3 x4 x5 true (⟨#[]⟩ : ByteArray) (i : Int) false = _
    rw [humpyardlaw15_JournalTells.j1]
    exact if_neg (by decide)
  have stop : ∀ i : Nat, ¬ (i < x0.length ∧ i < 12) → EvK (fun K => humpyardlaw15_JournalTells.l0 K x0 x1 x2 x3 x4 x5 true (⟨#[]⟩ : ByteArray) (i : Int)) true := fun i h => by
    refine (last i).succ fun K => ?_
    show humpyardlaw15_JournalTells.l0 (K + 1) x0 x1 x2 x3 x4 x5 true (⟨#[]⟩ : ByteArray) (i : Int) = _
    rw [humpyardlaw15_JournalTells.l0]
    by_cases h1 : (i : Int) < (x0.length : Int)
    · have h2 : ¬ ((i : Int) < 12) := fun h' => h ⟨Int.ofNat_lt.mp h1, by omega⟩
      rw [if_pos h1, decide_eq_false h2]
    · rw [if_neg h1]
  induction d with
  | zero =>
    intro i hd hi
    exact stop i (by omega)
  | succ d ih =>
    intro i hd hi
    by_cases hc : i < x0.length ∧ i < 12
    · obtain ⟨hc1, hc2⟩ := hc
      have c1 : (i : Int) < (x0.length : Int) := Int.ofNat_lt.mpr hc1
      have c2 : (i : Int) < 12 := by omega
      have c3 : (0 : Int) ≤ (i : Int) := Int.natCast_nonneg i
      have k1 : i + 1 ≤ 9223372036854775807 := by omega
      have hn := ih (i + 1) (by omega) (by omega)
      obtain ⟨x, hxd⟩ : ∃ x, x = rd_T29 x0 (i : Int) := ⟨_, rfl⟩
      have hlay := reflay_tells x.f0 x.f1 x.f2
      have hl : journal_Lay.f x.f0 x.f1 x.f2 = some (layOf x.f0 x.f1 x.f2) := rfl
      have hw : wrap64 ((i : Int) + 1) = ((i + 1 : Nat) : Int) := wrN _ _ rfl k1
      have hj : EvK (fun K => humpyardlaw15_JournalTells.j1 K x0 x1 x2 x3 x4 x5 true (⟨#[]⟩ : ByteArray) (i : Int) true) true := by
        refine EvK.succ (hlay.bind (g := fun K bt193 => (if (layOf x.f0 x.f1 x.f2).1.toList = bt193.1.toList then (if (layOf x.f0 x.f1 x.f2).2 = bt193.2 then (humpyardlaw15_JournalTells.l0 K x0 x1 x2 x3 x4 x5 true (⟨#[]⟩ : ByteArray) ((i + 1 : Nat) : Int)) else (some false)) else (some false))) (hn.of fun K => ?_)) fun K => ?_
        · show (if _ then _ else _) = _
          rw [if_pos rfl]
          exact if_pos rfl
        · show humpyardlaw15_JournalTells.j1 (K + 1) x0 x1 x2 x3 x4 x5 true (⟨#[]⟩ : ByteArray) (i : Int) true = _
          rw [humpyardlaw15_JournalTells.j1]
          rw [if_pos rfl, if_pos c3, if_pos c1, ← hxd, hl, Option.bind_some, hw]
      refine hj.succ fun K => ?_
      show humpyardlaw15_JournalTells.l0 (K + 1) x0 x1 x2 x3 x4 x5 true (⟨#[]⟩ : ByteArray) (i : Int) = _
      rw [humpyardlaw15_JournalTells.l0]
      rw [if_pos c1, decide_eq_true c2]
    · exact stop i hc
theorem fits_len (l : List S29) (hl : ∀ x ∈ l, Fits x) (hm : l.length ≤ maxLen) : l.length ≤ 9223372036854775807 ∧ ∀ x ∈ l, x.f1.length ≤ 9223372036854775807 := by
  have e : maxLen ≤ 9223372036854775807 := by decide
  exact ⟨Nat.le_trans hm e, fun x hx => Nat.le_trans (hl x hx).n e⟩
theorem JournalTells (l0 : List S29) (hl0 : ∀ x ∈ l0, Fits x) (hm0 : l0.length ≤ maxLen) (l1 : List S29) (hl1 : ∀ x ∈ l1, Fits x) (hm1 : l1.length ≤ maxLen) (a2 : ByteArray) (h2 : a2.size ≤ 1048576)
    (l3 : List S29) (hl3 : ∀ x ∈ l3, Fits x) (hm3 : l3.length ≤ maxLen) (a4 : Int) (h4 : (Lit.int .i64 a4).wf = true) (a5 : ByteArray) (h5 : a5.size ≤ 1048576) : ∃ k, humpyardlaw15_JournalTells.f k l0 l1 a2 l3 a4 a5 = some true := by
  obtain ⟨b0, b1⟩ := fits_len l0 hl0 hm0
  exact EvK.one (EvK.bind awake_tells (tells_l0 l0 l1 l3 a2 a5 a4 (int_range h4) h2 h5 b0 b1 (fun x hx => (hl3 x hx).r) 12 0 rfl (Nat.zero_le _)))
end Go.Proofs.Ythaeecoahbohnaa.Pure
