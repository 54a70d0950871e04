/- Plain laws on the printed next and Read of package journal: which records they come to. For every text of at most 2^47 bytes; Read: while the list of records fits. -/
import Derived.Test.YthaeecoahbohnaaPJourx3
import Derived.Test.YthaeecoahbohnaaReads
namespace Go.Proofs.Ythaeecoahbohnaa.Plain
open Go Go.RowKit Go.Proofs.Ythaeecoahbohnaa.PJour Go.Proofs.YthaeecoahbohnaaW.PrintWords Go.Proofs.YthaeecoahbohnaaW.PrintLast Go.Proofs.YthaeecoahbohnaaW.PrintMore
set_option linter.unusedVariables false
def recS (x : S29) : Rec := ⟨x.f0, x.f1, x.f2.data.toList⟩
theorem bytes_ext {a b : ByteArray} (h : a.data.toList = b.data.toList) : a = b := by
  apply ByteArray.ext
  exact Array.toList_inj.mp h
theorem ext_list (s : ByteArray) (a b : Nat) : (s.extract a b).data.toList = (s.data.toList.drop a).take (b - a) := by
  rw [ByteArray.data_extract, Array.toList_extract]
theorem ext_size (s : ByteArray) (a b : Nat) (h : b ≤ s.size) : (s.extract a b).size = b - a := by rw [ByteArray.size_extract]; omega
theorem bt_list (s : ByteArray) (i : Nat) (h : i < s.size) : bt s (i : Int) = ((s.data.toList[i]'(by rw [data_length]; exact h)).toNat : Int) := by
  unfold bt
  rw [Int.toNat_natCast, dif_pos h]
  rfl
theorem value_tells (s : ByteArray) (hs : s.size ≤ 9223372036854775807) : journal_value.f s = some (bigOf s.data.toList) := if_pos hs
theorem sum_tells (s : ByteArray) (hs : s.size ≤ 9223372036854775807) : seal_Sum.f s = some (fnv 2166136261 s.data.toList) := if_pos hs
theorem get_zero (l : List UInt8) (h : 0 < l.length) : l[0] = l.headD 0 := by
  cases l with
  | nil => simp at h
  | cons c r => rfl
theorem get_one (l : List UInt8) (h : 1 < l.length) : l[1] = (l.drop 1).headD 0 := by
  match l, h with
  | c :: d :: r, _ => rfl
/-- The loop over a record's numbers. -/
theorem l0_last (x4 : Int) (b : ByteArray) (m : Nat) (K : Nat) (k : Int) (acc : List Int) (t : ByteArray) (hm : m ≤ 255) (hfit : 2 + 8 * m ≤ b.size) : journal_next.l0 (K + 1) x4 b (m : Int) (m : Int) (m : Int) k acc t = some (k, acc, b.extract (2 + 8 * m) b.size, wrap64 (x4 + 8)) := by
  have e : wrap64 (2 + wrap64 (8 * (m : Int))) = ((2 + 8 * m : Nat) : Int) := by unfold wrap64; omega
  have h1 : ¬ ((m : Int) < (m : Int)) := by omega
  have h2 : (0 : Int) ≤ ((2 + 8 * m : Nat) : Int) := by omega
  have h3 : ((2 + 8 * m : Nat) : Int) ≤ (b.size : Int) := by omega
  rw [journal_next.l0]
  rw [if_neg h1, e, if_pos h2, if_pos h3, Int.toNat_natCast]
theorem l0_more (x4 : Int) (b : ByteArray) (m i : Nat) (K : Nat) (k : Int) (acc : List Int) (t : ByteArray) (v : Int) (hm : m ≤ 255) (him : i < m) (hfit : 2 + 8 * m ≤ b.size) (ha : acc.length < 17592186044416)
    (hv : journal_value.f (b.extract (2 + 8 * i) (2 + 8 * i + 8)) = some v) :
    journal_next.l0 (K + 1) x4 b (m : Int) (m : Int) (i : Int) k acc t = journal_next.l0 K x4 b (m : Int) (m : Int) ((i + 1 : Nat) : Int) k (acc ++ [v]) t := by
  have e1 : wrap64 (2 + wrap64 (8 * (i : Int))) = ((2 + 8 * i : Nat) : Int) := by unfold wrap64; omega
  have e2 : wrap64 ((i : Int) + 1) = ((i + 1 : Nat) : Int) := by unfold wrap64; omega
  have e3 : wrap64 (2 + wrap64 (8 * ((i + 1 : Nat) : Int))) = ((2 + 8 * i + 8 : Nat) : Int) := by unfold wrap64; omega
  have h1 : (i : Int) < (m : Int) := by omega
  have h2 : (0 : Int) ≤ ((2 + 8 * i : Nat) : Int) := by omega
  have h3 : ((2 + 8 * i : Nat) : Int) ≤ ((2 + 8 * i + 8 : Nat) : Int) := by omega
  have h4 : ((2 + 8 * i + 8 : Nat) : Int) ≤ (b.size : Int) := by omega
  rw [journal_next.l0]
  rw [if_pos h1, e2, e1, e3, if_pos h2, if_pos h3, if_pos h4, Int.toNat_natCast, Int.toNat_natCast, hv, Option.bind_some, if_pos ha]
theorem next_l0 (b txt : ByteArray) (n m k : Nat) (hb : b.size ≤ 140737488355328) (hm : m ≤ 255) (hfit : 2 + 8 * m ≤ b.size) (d : Nat) : ∀ (i : Nat) (acc : List Int) (K : Nat), i ≤ m → m - i = d → acc.length ≤ i → d < K →
    journal_next.l0 K (n : Int) b (m : Int) (m : Int) (i : Int) (k : Int) acc txt = some ((k : Int), acc ++ nums8 d (b.data.toList.drop (2 + 8 * i)), b.extract (2 + 8 * m) b.size, wrap64 ((n : Int) + 8)) := by
  induction d with
  | zero =>
    intro i acc K hi hd ha hK
    obtain ⟨K, rfl⟩ : ∃ m, K = m + 1 := ⟨K - 1, by omega⟩
    obtain rfl : i = m := by omega
    rw [l0_last _ _ _ _ _ _ _ hm hfit, nums8, List.append_nil]
  | succ d ih =>
    intro i acc K hi hd ha hK
    obtain ⟨K, rfl⟩ : ∃ m, K = m + 1 := ⟨K - 1, by omega⟩
    have hv : journal_value.f (b.extract (2 + 8 * i) (2 + 8 * i + 8)) = some (bigOf ((b.data.toList.drop (2 + 8 * i)).take 8)) := by
      rw [value_tells _ (by rw [ext_size _ _ _ (by omega)]; omega), ext_list, show 2 + 8 * i + 8 - (2 + 8 * i) = 8 from by omega]
    have hla : acc.length < 17592186044416 := Nat.lt_of_le_of_lt (Nat.le_trans ha (Nat.le_trans hi hm)) (by decide)
    rw [l0_more _ _ _ _ _ _ _ _ _ hm (by omega) hfit hla hv]
    have hl : (acc ++ [bigOf ((b.data.toList.drop (2 + 8 * i)).take 8)]).length ≤ i + 1 := by rw [List.length_append, List.length_singleton]; omega
    rw [ih (i + 1) _ K (by omega) (by omega) hl (by omega)]
    have hd8 : nums8 (d + 1) (b.data.toList.drop (2 + 8 * i)) = bigOf ((b.data.toList.drop (2 + 8 * i)).take 8) :: nums8 d (b.data.toList.drop (2 + 8 * (i + 1))) := by
      rw [nums8, List.drop_drop]
      rfl
    rw [hd8, List.append_assoc, List.singleton_append]
theorem j0_out (K : Nat) (s : ByteArray) (x : Int) : journal_next.j0 (K + 1) s 0 x true 0 (⟨#[]⟩ : ByteArray) = some (0, [], ⟨#[]⟩, 0) := by
  rw [journal_next.j0]
  exact if_pos rfl
theorem j1_out (K : Nat) (n : Int) (b : ByteArray) (x : Int) : journal_next.j1 (K + 1) 0 n b x true 0 (⟨#[]⟩ : ByteArray) = some (0, [], ⟨#[]⟩, 0) := by
  rw [journal_next.j1]
  exact if_pos rfl
theorem j1_more (K : Nat) (n : Int) (b : ByteArray) (x : Int) (c : Nat) (hc : c ≤ 255) (hb : 0 < (b.size : Int)) (hb0 : bt b 0 = (c : Int)) : journal_next.j1 (K + 1) 0 n b x false 0 (⟨#[]⟩ : ByteArray) = journal_next.l0 K n b x x 0 (c : Int) [] (⟨#[]⟩ : ByteArray) := by
  have w : wrap64 (c : Int) = (c : Int) := by unfold wrap64; omega
  rw [journal_next.j1]
  rw [if_neg (by decide), if_pos hb, hb0, w]
theorem j0_more (K : Nat) (s b : ByteArray) (n m : Nat) (hs : s.size ≤ 140737488355328) (hn : n + 8 ≤ s.size) (h2 : 2 ≤ n) (hb : b = s.extract 4 (4 + n)) (hm : m ≤ 255) (hb1 : bt b 1 = (m : Int)) (vs ss : Int)
    (hvs : journal_value.f (s.extract (4 + n) (8 + n)) = some vs) (hss : seal_Sum.f (s.extract 0 (4 + n)) = some ss) (hw : wrap64 ss = ss) :
    journal_next.j0 (K + 1) s 0 (n : Int) false 0 (⟨#[]⟩ : ByteArray) = if (n : Int) - 2 < 8 * (m : Int) then journal_next.j1 K 0 (n : Int) b (m : Int) true 0 (⟨#[]⟩ : ByteArray) else
      if (n : Int) - 2 - 8 * (m : Int) > 20000 then journal_next.j1 K 0 (n : Int) b (m : Int) true 0 (⟨#[]⟩ : ByteArray) else journal_next.j1 K 0 (n : Int) b (m : Int) (vs != ss) 0 (⟨#[]⟩ : ByteArray) := by
  have w4 : wrap64 (4 + (n : Int)) = ((4 + n : Nat) : Int) := by unfold wrap64; omega
  have w8 : wrap64 (8 + (n : Int)) = ((8 + n : Nat) : Int) := by unfold wrap64; omega
  have w2 : wrap64 ((n : Int) - 2) = (n : Int) - 2 := by unfold wrap64; omega
  have wm : wrap64 (m : Int) = (m : Int) := by unfold wrap64; omega
  have wm8 : wrap64 (8 * (m : Int)) = 8 * (m : Int) := by unfold wrap64; omega
  have wd : wrap64 ((n : Int) - 2 - 8 * (m : Int)) = (n : Int) - 2 - 8 * (m : Int) := by unfold wrap64; omega
  have hbs : b.size = n := by rw [hb, ext_size _ _ _ (by omega)]; omega
  have c1 : (4 : Int) ≤ ((4 + n : Nat) : Int) := by omega
  have c2 : ((4 + n : Nat) : Int) ≤ (s.size : Int) := by omega
  have c3 : (0 : Int) ≤ ((4 + n : Nat) : Int) := by omega
  have c4 : ((4 + n : Nat) : Int) ≤ ((8 + n : Nat) : Int) := by omega
  have c5 : ((8 + n : Nat) : Int) ≤ (s.size : Int) := by omega
  have c6 : (1 : Int) < (n : Int) := by omega
  rw [journal_next.j0]
  rw [if_neg (by decide), w4, w8, if_pos c1, if_pos c2, if_pos c3, if_pos c4, if_pos c5, Int.toNat_natCast, Int.toNat_natCast, ← hb, hbs, if_pos c6, hb1, wm, wm8, w2, wd, hvs, hss, Option.bind_some, Option.bind_some, hw]
theorem next_small (K : Nat) (s : ByteArray) (h : s.size < 4) : journal_next.f K s = some (0, [], ⟨#[]⟩, 0) := by
  unfold journal_next.f
  exact if_pos (by omega)
theorem next_head (K : Nat) (s : ByteArray) (n : Nat) (hs : s.size ≤ 140737488355328) (h : 4 ≤ s.size) (hv : journal_value.f (s.extract 0 4) = some (n : Int)) :
    journal_next.f K s = if (n : Int) < 2 then journal_next.j0 K s 0 (n : Int) true 0 (⟨#[]⟩ : ByteArray) else journal_next.j0 K s 0 (n : Int) (decide ((n : Int) > (s.size : Int) - 8)) 0 (⟨#[]⟩ : ByteArray) := by
  have e8 : wrap64 ((s.size : Int) - 8) = (s.size : Int) - 8 := by unfold wrap64; omega
  have c1 : ¬ ((s.size : Int) < 4) := by omega
  have c2 : (4 : Int) ≤ (s.size : Int) := by omega
  unfold journal_next.f
  rw [if_neg c1, if_pos (by decide), if_pos c2, hv, Option.bind_some, e8]
/-- What next comes to. -/
def NextOk (l : List UInt8) (r1 : Int) (r2 : List Int) (r3 : ByteArray) (r4 : Int) : Prop :=
  (r4 = 0 ∧ NoRec l) ∨ (Right ⟨r1, r2, r3.data.toList⟩ ∧ recB ⟨r1, r2, r3.data.toList⟩ <+: l ∧ r4 = ((recB ⟨r1, r2, r3.data.toList⟩).length : Int))
def NextIs (s : ByteArray) (o : Option (Int × List Int × ByteArray × Int)) : Prop := ∃ r1 r2 r3 r4, o = some (r1, r2, r3, r4) ∧ NextOk s.data.toList r1 r2 r3 r4
theorem next_zero (s : ByteArray) (h : NoRec s.data.toList) : NextIs s (some (0, [], ⟨#[]⟩, 0)) := ⟨_, _, _, _, rfl, .inl ⟨rfl, h⟩⟩
theorem next_tells (s : ByteArray) (hs : s.size ≤ 140737488355328) (K : Nat) (hK : 300 ≤ K) : NextIs s (journal_next.f K s) := by
  obtain ⟨K, rfl⟩ : ∃ m, K = m + 1 + 1 := ⟨K - 2, by omega⟩
  have hlen : s.data.toList.length = s.size := data_length s
  by_cases h4 : s.size < 4
  · rw [next_small _ _ h4]
    exact next_zero _ (noRec_short _ (by omega))
  have hv4 : journal_value.f (s.extract 0 4) = some (bigOf (s.data.toList.take 4)) := by
    rw [value_tells _ (by rw [ext_size _ _ _ (by omega)]; omega), ext_list, List.drop_zero]
  obtain ⟨hb4, hb4'⟩ := bigOf_four (s.data.toList.take 4) (by rw [List.length_take]; omega)
  obtain ⟨n, hn⟩ : ∃ n : Nat, n = natOf (s.data.toList.take 4) := ⟨_, rfl⟩
  rw [← hn] at hb4 hb4'
  rw [hb4] at hv4
  rw [next_head _ _ n hs (by omega) hv4]
  have same : ∀ m, Parse s.data.toList m → m = n := fun m hp => by
    have := hp.hn
    rw [hb4] at this
    exact (Int.ofNat.inj this).symm
  by_cases c2 : (n : Int) < 2
  · rw [if_pos c2, j0_out]
    exact next_zero _ (noRec_of _ fun m hp => by have := same m hp; have := hp.h2; omega)
  rw [if_neg c2]
  by_cases c3 : (n : Int) > (s.size : Int) - 8
  · rw [decide_eq_true c3, j0_out]
    exact next_zero _ (noRec_of _ fun m hp => by have := same m hp; have := hp.hl; omega)
  rw [decide_eq_false c3]
  have hnl : n + 8 ≤ s.size := by omega
  obtain ⟨b, hbd⟩ : ∃ b, b = s.extract 4 (4 + n) := ⟨_, rfl⟩
  have hbs : b.size = n := by rw [hbd, ext_size _ _ _ (by omega)]; omega
  have hbl : b.data.toList = (s.data.toList.drop 4).take n := by rw [hbd, ext_list, show 4 + n - 4 = n from by omega]
  have hb0 : bt b 0 = (((b.data.toList.headD 0).toNat : Nat) : Int) := by
    have := bt_list b 0 (by omega)
    rw [get_zero] at this
    exact this
  have hb1 : bt b 1 = ((many s.data.toList n : Nat) : Int) := by
    have := bt_list b 1 (by omega)
    rw [get_one, hbl] at this
    exact this
  obtain ⟨m, hmd⟩ : ∃ m, m = many s.data.toList n := ⟨_, rfl⟩
  have hmb : m ≤ 255 := by
    rw [hmd]
    exact Nat.le_of_lt_succ (UInt8.toNat_lt _)
  rw [← hmd] at hb1
  have hvs : journal_value.f (s.extract (4 + n) (8 + n)) = some (bigOf ((s.data.toList.drop (4 + n)).take 4)) := by
    rw [value_tells _ (by rw [ext_size _ _ _ (by omega)]; omega), ext_list, show 8 + n - (4 + n) = 4 from by omega]
  have hss : seal_Sum.f (s.extract 0 (4 + n)) = some (fnv 2166136261 (s.data.toList.take (4 + n))) := by
    rw [sum_tells _ (by rw [ext_size _ _ _ (by omega)]; omega), ext_list, List.drop_zero, Nat.sub_zero]
  have hr := fnv_range (s.data.toList.take (4 + n)) 2166136261 (by decide) (by decide)
  have hw : wrap64 (fnv 2166136261 (s.data.toList.take (4 + n))) = fnv 2166136261 (s.data.toList.take (4 + n)) := by unfold wrap64; omega
  rw [j0_more (K + 1) s b n m hs hnl (by omega) hbd hmb hb1 _ _ hvs hss hw]
  by_cases c5 : (n : Int) - 2 < 8 * (m : Int)
  · rw [if_pos c5, j1_out]
    exact next_zero _ (noRec_of _ fun p hp => by have e := same p hp; subst e; have := hp.hm; omega)
  rw [if_neg c5]
  by_cases c6 : (n : Int) - 2 - 8 * (m : Int) > 20000
  · rw [if_pos c6, j1_out]
    exact next_zero _ (noRec_of _ fun p hp => by have e := same p hp; subst e; have := hp.ht; omega)
  rw [if_neg c6]
  by_cases c7 : bigOf ((s.data.toList.drop (4 + n)).take 4) = fnv 2166136261 (s.data.toList.take (4 + n))
  · have cc : (bigOf ((s.data.toList.drop (4 + n)).take 4) != fnv 2166136261 (s.data.toList.take (4 + n))) = false := bne_eq_false_iff_eq.mpr c7
    have hc0 : (b.data.toList.headD 0).toNat ≤ 255 := Nat.le_of_lt_succ (UInt8.toNat_lt _)
    rw [cc, j1_more _ _ _ _ _ hc0 (by omega) hb0]
    have hl := next_l0 b (⟨#[]⟩ : ByteArray) n m (b.data.toList.headD 0).toNat (by omega) hmb (by omega) m 0 [] K (by omega) (by omega) (Nat.le_refl 0) (by omega)
    have hp : Parse s.data.toList n := ⟨hb4, by omega, by omega, by omega, by omega, c7⟩
    obtain ⟨p1, p2, p3⟩ := parse_rec _ _ hp
    have hx : (⟨((b.data.toList.headD 0).toNat : Int), nums8 m (b.data.toList.drop 2), (b.extract (2 + 8 * m) b.size).data.toList⟩ : Rec) = ofBody ((s.data.toList.drop 4).take n) := by
      unfold ofBody
      rw [ext_list, List.take_of_length_le (by rw [List.length_drop, data_length]; exact Nat.le_refl _), hmd, hbl]
      rfl
    have hw8 : wrap64 ((n : Int) + 8) = ((n + 8 : Nat) : Int) := by unfold wrap64; omega
    refine ⟨_, _, _, _, hl, .inr ?_⟩
    rw [List.nil_append, Nat.mul_zero, hx, p3, hw8]
    exact ⟨p1, p2, rfl⟩
  · have cc : (bigOf ((s.data.toList.drop (4 + n)).take 4) != fnv 2166136261 (s.data.toList.take (4 + n))) = true := bne_iff_ne.mpr c7
    rw [cc, j1_out]
    exact next_zero _ (noRec_of _ fun p hp => by have e := same p hp; subst e; exact c7 hp.hs)
end Go.Proofs.Ythaeecoahbohnaa.Plain
