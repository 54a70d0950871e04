/- Plain law on the document's Read of chapter 15: it reads what the package's Read reads. For texts of at most 29320310074000 bytes. -/
import Derived.Test.YthaeecoahbohnaaRefRead
namespace Go.Proofs.Ythaeecoahbohnaa.Plain
open Go Go.RowKit Go.Proofs.Ythaeecoahbohnaa.PJour Go.Proofs.YthaeecoahbohnaaW.PrintWords Go.Proofs.YthaeecoahbohnaaW.PrintLast Go.Proofs.YthaeecoahbohnaaW.PrintMore
set_option linter.unusedVariables false
theorem rj1_out (s : ByteArray) (acc : List S29) (o t : Int) (K : Nat) : humpyardref15_Read.j1 (K + 1) s acc o t true = some (acc, o) := by
  rw [humpyardref15_Read.j1]
  exact if_pos rfl
theorem wrN (z : Int) (n : Nat) (h : z = (n : Int)) (hn : n ≤ 9223372036854775807) : wrap64 z = (n : Int) := by
  rw [h]
  unfold wrap64
  omega
theorem rj1_more (s b : ByteArray) (acc : List S29) (o n m c : Nat) (K : Nat) (hs : s.size ≤ 29320310074000) (hon : o + n + 8 ≤ s.size) (h2 : 2 ≤ n) (hb : b = s.extract (o + 4) (o + 4 + n)) (hm : m ≤ 255) (hc : c ≤ 255) (hb1 : bt b 1 = (m : Int)) (hb0 : bt b 0 = (c : Int)) :
    humpyardref15_Read.j1 (K + 1) s acc (o : Int) (n : Int) false = if n < 2 + 8 * m then some (acc, (o : Int)) else humpyardref15_Read.l1 K s acc (o : Int) (n : Int) b (m : Int) 0 (c : Int) [] (⟨#[]⟩ : ByteArray) := by
  have c1 : (0 : Int) ≤ ((o + 4 : Nat) : Int) := Int.natCast_nonneg _
  have c2 : ((o + 4 : Nat) : Int) ≤ ((o + 4 + n : Nat) : Int) := Int.ofNat_le.mpr (Nat.le_add_right _ _)
  have k3 : o + 4 + n ≤ s.size := by clear hb hb1 hb0 c1 c2; omega
  have k4 : o + 4 ≤ 9223372036854775807 := by clear hb hb1 hb0 c1 c2; omega
  have k5 : o + 4 + n ≤ 9223372036854775807 := by clear hb hb1 hb0 c1 c2; omega
  have k6 : (0 : Int) < (n : Int) := Int.ofNat_lt.mpr (Nat.lt_of_lt_of_le (by decide) h2)
  have k7 : (1 : Int) < (n : Int) := Int.ofNat_lt.mpr (Nat.lt_of_lt_of_le (by decide) h2)
  have c3 : ((o + 4 + n : Nat) : Int) ≤ (s.size : Int) := Int.ofNat_le.mpr k3
  have hbs : b.size = n := by rw [hb, ext_size _ _ _ k3]; exact Nat.add_sub_cancel_left _ _
  have km : m ≤ 9223372036854775807 := Nat.le_trans hm (by decide)
  have kc : c ≤ 9223372036854775807 := Nat.le_trans hc (by decide)
  have k8 : 8 * m ≤ 9223372036854775807 := by clear hb hb1 hb0 c1 c2 c3 k6 k7; omega
  have k9 : 2 + 8 * m ≤ 9223372036854775807 := by clear hb hb1 hb0 c1 c2 c3 k6 k7; omega
  have w4 : wrap64 ((o : Int) + 4) = ((o + 4 : Nat) : Int) := wrN _ _ rfl k4
  have w5 : wrap64 (((o + 4 : Nat) : Int) + (n : Int)) = ((o + 4 + n : Nat) : Int) := wrN _ _ rfl k5
  have wm : wrap64 (m : Int) = (m : Int) := wrN _ _ rfl km
  have wc : wrap64 (c : Int) = (c : Int) := wrN _ _ rfl kc
  have w7 : wrap64 (8 * (m : Int)) = ((8 * m : Nat) : Int) := wrN _ _ (Int.natCast_mul 8 m).symm k8
  have w8 : wrap64 (2 + ((8 * m : Nat) : Int)) = ((2 + 8 * m : Nat) : Int) := wrN _ _ (Int.natCast_add 2 (8 * m)).symm k9
  rw [humpyardref15_Read.j1]
  rw [if_neg (by decide), w4, w5, if_pos c1, if_pos c2, if_pos c3, Int.toNat_natCast, Int.toNat_natCast, ← hb, hbs, if_pos k6, if_pos k7, hb1, hb0, wm, wc, w7, w8]
  by_cases h : n < 2 + 8 * m
  · rw [if_pos h, if_pos (Int.ofNat_lt.mpr h)]
  · rw [if_neg h, if_neg (fun h' => h (Int.ofNat_lt.mp h'))]
theorem wr64 (z : Int) (h0 : -9223372036854775808 ≤ z) (h1 : z ≤ 9223372036854775807) : wrap64 z = z := by unfold wrap64; omega
theorem rl0_head (s : ByteArray) (acc : List S29) (o n K : Nat) (hs : s.size ≤ 29320310074000) (ho : o + 10 ≤ s.size) :
    humpyardref15_Read.l0 (K + 1) s acc (o : Int) = ((humpyardref15_value.f K (s.extract o (o + 4))).bind fun t166 => (if t166 < 2 then (humpyardref15_Read.j1 K s acc (o : Int) t166 true) else (humpyardref15_Read.j1 K s acc (o : Int) t166 (decide (t166 > (s.size : Int) - (o : Int) - 8))))) := by
  have c0 : (s.size : Int) - (o : Int) ≥ 10 := by omega
  have c1 : (0 : Int) ≤ (o : Int) := Int.natCast_nonneg _
  have c2 : (o : Int) ≤ ((o + 4 : Nat) : Int) := Int.ofNat_le.mpr (Nat.le_add_right _ _)
  have c3 : ((o + 4 : Nat) : Int) ≤ (s.size : Int) := by omega
  have k1 : -9223372036854775808 ≤ (s.size : Int) - (o : Int) ∧ (s.size : Int) - (o : Int) ≤ 9223372036854775807 := by omega
  have k2 : -9223372036854775808 ≤ (s.size : Int) - (o : Int) - 8 ∧ (s.size : Int) - (o : Int) - 8 ≤ 9223372036854775807 := by omega
  have k4 : o + 4 ≤ 9223372036854775807 := by omega
  have w1 : wrap64 ((s.size : Int) - (o : Int)) = (s.size : Int) - (o : Int) := wr64 _ k1.1 k1.2
  have w2 : wrap64 ((s.size : Int) - (o : Int) - 8) = (s.size : Int) - (o : Int) - 8 := wr64 _ k2.1 k2.2
  have w4 : wrap64 ((o : Int) + 4) = ((o + 4 : Nat) : Int) := wrN _ _ rfl k4
  rw [humpyardref15_Read.l0]
  rw [w1, w2, w4, if_pos c0, if_pos c1, if_pos c2, if_pos c3, Int.toNat_natCast, Int.toNat_natCast]
theorem rl0_short (s : ByteArray) (acc : List S29) (o K : Nat) (hs : s.size ≤ 29320310074000) (ho : o ≤ s.size) (h : s.size < o + 10) : humpyardref15_Read.l0 (K + 1) s acc (o : Int) = some (acc, (o : Int)) := by
  have c0 : ¬ ((s.size : Int) - (o : Int) ≥ 10) := by omega
  have k1 : -9223372036854775808 ≤ (s.size : Int) - (o : Int) ∧ (s.size : Int) - (o : Int) ≤ 9223372036854775807 := by omega
  have w1 : wrap64 ((s.size : Int) - (o : Int)) = (s.size : Int) - (o : Int) := wr64 _ k1.1 k1.2
  rw [humpyardref15_Read.l0]
  rw [w1, if_neg c0]
theorem turn_wrap (o n : Nat) (h : o + n + 8 ≤ 29320310074000) : wrap64 ((wrap64 ((o : Int) + (n : Int))) + 8) = ((o + n + 8 : Nat) : Int) := by
  have k1 : o + n ≤ 9223372036854775807 := by omega
  have k2 : o + n + 8 ≤ 9223372036854775807 := by omega
  rw [wrN ((o : Int) + (n : Int)) (o + n) rfl k1]
  exact wrN _ _ rfl k2
/-- One turn of the document's Read. -/
def Turn (s : ByteArray) (acc : List S29) (o : Nat) : Prop :=
  (NoRec (s.data.toList.drop o) ∧ EvK (fun K => humpyardref15_Read.l0 K s acc (o : Int)) (acc, (o : Int))) ∨
  ∃ x : S29, Right (recS x) ∧ recB (recS x) <+: s.data.toList.drop o ∧ ∀ r, EvK (fun K => humpyardref15_Read.l0 K s (acc ++ [x]) ((o + (recB (recS x)).length : Nat) : Int)) r → EvK (fun K => humpyardref15_Read.l0 K s acc (o : Int)) r
theorem turn_tells (s : ByteArray) (acc : List S29) (o : Nat) (hs : s.size ≤ 29320310074000) (ho : o ≤ s.size) (hacc : acc.length < 2932031007402) : Turn s acc o := by
  have hsl : s.data.toList.length = s.size := data_length s
  obtain ⟨l, hl⟩ : ∃ l, l = s.data.toList.drop o := ⟨_, rfl⟩
  have hll : l.length = s.size - o := by rw [hl, List.length_drop, hsl]
  unfold Turn
  rw [← hl]
  by_cases h10 : s.size < o + 10
  · exact .inl ⟨noRec_short _ (by omega), (EvK.now _).succ fun K => rl0_short s acc o K hs ho h10⟩
  have h10' : o + 10 ≤ s.size := by omega
  have hz : (s.extract o (o + 4)).size = o + 4 - o := ext_size _ _ _ (by omega)
  have hv := refvalue_tells (s.extract o (o + 4)) (by omega)
  rw [ext_list, ← hl, show o + 4 - o = 4 from by omega] at hv
  obtain ⟨hb4, hb4'⟩ := bigOf_four (l.take 4) (by rw [List.length_take]; omega)
  obtain ⟨n, hn⟩ : ∃ n : Nat, n = natOf (l.take 4) := ⟨_, rfl⟩
  rw [← hn] at hb4 hb4'
  rw [hb4] at hv
  have same : ∀ m, Parse l m → m = n := fun m hp => by
    have := hp.hn
    rw [hb4] at this
    exact (Int.ofNat.inj this).symm
  have head : ∀ r, EvK (fun K => (if (n : Int) < 2 then (humpyardref15_Read.j1 K s acc (o : Int) (n : Int) true) else (humpyardref15_Read.j1 K s acc (o : Int) (n : Int) (decide ((n : Int) > (s.size : Int) - (o : Int) - 8))))) r → EvK (fun K => humpyardref15_Read.l0 K s acc (o : Int)) r :=
    fun r h => (hv.bind h).succ fun K => rl0_head s acc o n K hs h10'
  have out : EvK (fun K => humpyardref15_Read.j1 K s acc (o : Int) (n : Int) true) (acc, (o : Int)) := (EvK.now _).succ fun K => rj1_out s acc (o : Int) (n : Int) K
  by_cases c2 : (n : Int) < 2
  · exact .inl ⟨noRec_of _ fun m hp => by have := same m hp; have := hp.h2; omega, head _ (out.of fun K => if_pos c2)⟩
  by_cases c3 : (n : Int) > (s.size : Int) - (o : Int) - 8
  · refine .inl ⟨noRec_of _ fun m hp => by have := same m hp; have := hp.hl; omega, head _ (out.of fun K => ?_)⟩
    show (if _ then _ else _) = _
    rw [if_neg c2, decide_eq_true c3]
  have hnl : o + n + 8 ≤ s.size := by omega
  have hn2 : 2 ≤ n := by omega
  obtain ⟨b, hbd⟩ : ∃ b, b = s.extract (o + 4) (o + 4 + n) := ⟨_, rfl⟩
  have hbs : b.size = n := by rw [hbd, ext_size _ _ _ (by omega)]; omega
  have hbl : b.data.toList = (l.drop 4).take n := by rw [hbd, ext_list, hl, List.drop_drop, show o + 4 + n - (o + 4) = n from by omega]
  obtain ⟨c, hcd⟩ : ∃ c, c = (b.data.toList.headD 0).toNat := ⟨_, rfl⟩
  have hb0 : bt b 0 = (c : Int) := by
    have := bt_list b 0 (by omega)
    rw [get_zero, ← hcd] at this
    exact this
  obtain ⟨m, hmd⟩ : ∃ m, m = many l n := ⟨_, rfl⟩
  have hb1 : bt b 1 = (m : Int) := by
    have := bt_list b 1 (by omega)
    rw [get_one, hbl] at this
    rw [hmd]
    exact this
  have hmb : m ≤ 255 := by
    rw [hmd]
    exact Nat.le_of_lt_succ (UInt8.toNat_lt _)
  have hcb : c ≤ 255 := by
    rw [hcd]
    exact Nat.le_of_lt_succ (UInt8.toNat_lt _)
  have more : ∀ r, EvK (fun K => if n < 2 + 8 * m then some (acc, (o : Int)) else humpyardref15_Read.l1 K s acc (o : Int) (n : Int) b (m : Int) 0 (c : Int) [] (⟨#[]⟩ : ByteArray)) r → EvK (fun K => humpyardref15_Read.l0 K s acc (o : Int)) r := fun r h => by
    refine head r ((h.succ (f := fun K => humpyardref15_Read.j1 K s acc (o : Int) (n : Int) false) fun K => rj1_more s b acc o n m c K hs hnl hn2 hbd hmb hcb hb1 hb0).of fun K => ?_)
    show (if _ then _ else _) = _
    rw [if_neg c2, decide_eq_false c3]
  by_cases c5 : n < 2 + 8 * m
  · exact .inl ⟨noRec_of _ fun p hp => by have e := same p hp; subst e; have := hp.hm; omega, more _ ((EvK.now _).of fun K => if_pos c5)⟩
  have hfit : 2 + 8 * m ≤ b.size := by omega
  obtain ⟨nums, hnums⟩ : ∃ nums, nums = nums8 m (b.data.toList.drop 2) := ⟨_, rfl⟩
  obtain ⟨txt, htxt⟩ : ∃ txt, txt = b.extract (2 + 8 * m) b.size := ⟨_, rfl⟩
  have fin : ∀ r, EvK (finF s acc o n (c : Int) nums txt) r → EvK (fun K => humpyardref15_Read.l0 K s acc (o : Int)) r := fun r h => by
    rw [hnums, htxt] at h
    have := l1_all s b acc o n m (c : Int) (⟨#[]⟩ : ByteArray) r (by omega) hmb hfit (turn_wrap o n (by omega)) h m 0 [] (Nat.zero_le _) (Nat.sub_zero _) (Nat.le_refl _) rfl
    exact more r (this.of fun K => if_neg c5)
  have hx : recS ⟨(c : Int), nums, txt⟩ = ofBody ((l.drop 4).take n) := by
    unfold recS ofBody
    rw [htxt, ext_list, List.take_of_length_le (by rw [List.length_drop, data_length]; exact Nat.le_refl _), hnums, hmd, hcd, hbl]
    rfl
  have hts : txt.size = n - (2 + 8 * m) := by rw [htxt, ext_size _ _ _ (Nat.le_refl _), hbs]
  have hnlen : nums.length = m := by rw [hnums, nums8_len]
  have hlay := reflay_tells (c : Int) nums txt
  by_cases c6 : 20000 < txt.size
  · have e : layOf (c : Int) nums txt = ((⟨#[]⟩ : ByteArray), 1) := if_pos (.inr (.inr (.inr c6)))
    rw [e] at hlay
    refine .inl ⟨noRec_of _ fun p hp => by have e := same p hp; subst e; have := hp.ht; omega, fin _ (hlay.bind ((EvK.now _).of fun K => ?_))⟩
    exact if_neg (by decide)
  have hno : ¬ ((c : Int) < 0 ∨ 255 < (c : Int) ∨ 255 < nums.length ∨ 20000 < txt.size) := by omega
  have e : layOf (c : Int) nums txt = (recBytes ⟨(c : Int), nums, txt⟩, 0) := if_neg hno
  rw [e] at hlay
  have hR : Right (recS ⟨(c : Int), nums, txt⟩) := by
    refine ⟨Int.natCast_nonneg c, ?_, ?_, ?_, ?_⟩
    · show (c : Int) ≤ 255
      omega
    · show nums.length ≤ 255
      omega
    · show txt.data.toList.length ≤ 20000
      rw [data_length]
      omega
    · intro v hv
      have hv' : v ∈ nums8 m (b.data.toList.drop 2) := hnums ▸ hv
      exact nums8_range _ _ v hv'
  have d1 : (0 : Int) ≤ (o : Int) := by omega
  have d2 : (o : Int) ≤ ((o + n + 8 : Nat) : Int) := by omega
  have d3 : ((o + n + 8 : Nat) : Int) ≤ (s.size : Int) := by omega
  have hel : (s.extract o (o + n + 8)).data.toList = l.take (n + 8) := by rw [ext_list, ← hl, show o + n + 8 - o = n + 8 from by omega]
  by_cases c7 : recB (recS ⟨(c : Int), nums, txt⟩) = l.take (n + 8)
  · have hlen : (recB (recS ⟨(c : Int), nums, txt⟩)).length = n + 8 := by
      rw [c7, List.length_take, hll]
      omega
    have d4 : (recBytes ⟨(c : Int), nums, txt⟩).toList = (s.extract o (o + n + 8)).toList := by
      rw [Lib.toList_data, Lib.toList_data, hel, ← c7]
      rfl
    refine .inr ⟨⟨(c : Int), nums, txt⟩, hR, by rw [c7]; exact List.take_prefix _ _, fun r h => ?_⟩
    rw [hlen] at h
    refine fin r (hlay.bind (h.of fun K => ?_))
    show (if (0 : Int) = 0 then _ else _) = _
    rw [if_pos rfl, if_pos d1, if_pos d2, if_pos d3, if_pos d4, if_pos hacc]
    rfl
  · have d4 : ¬ ((recBytes ⟨(c : Int), nums, txt⟩).toList = (s.extract o (o + n + 8)).toList) := by
      rw [Lib.toList_data, Lib.toList_data, hel]
      exact c7
    refine .inl ⟨noRec_of _ fun p hp => ?_, fin _ (hlay.bind ((EvK.now _).of fun K => ?_))⟩
    · obtain rfl := same p hp
      obtain ⟨_, p2, p3⟩ := parse_rec _ _ hp
      rw [← hx] at p2 p3
      rw [← p3] at c7
      exact c7 (List.prefix_iff_eq_take.mp p2)
    · show (if (0 : Int) = 0 then _ else _) = _
      rw [if_pos rfl, if_pos d1, if_pos d2, if_pos d3, if_neg d4]
theorem refread_l0 (s : ByteArray) (hs : s.size ≤ 29320310074000) (d : Nat) : ∀ (i : Nat) (acc : List S29), s.size - i ≤ d → i ≤ s.size → (∀ x ∈ acc.map recS, Right x) → flat (acc.map recS) = s.data.toList.take i →
    ∃ out, EvK (fun K => humpyardref15_Read.l0 K s acc (i : Int)) (out, ((flat (out.map recS)).length : Int)) ∧ Reads s.data.toList (out.map recS) := by
  have hsl : s.data.toList.length = s.size := data_length s
  induction d with
  | zero =>
    intro i acc hd hi hr hf
    have hl : (flat (acc.map recS)).length = i := by rw [hf, List.length_take, hsl, Nat.min_eq_left hi]
    have hi' : i = s.size := by omega
    refine ⟨acc, ?_, hr, [], ?_, noRec_nil⟩
    · rw [hl]
      exact (EvK.now _).succ fun K => rl0_short s acc i K hs hi (by omega)
    · rw [List.append_nil, hf, List.take_of_length_le (by omega)]
  | succ d ih =>
    intro i acc hd hi hr hf
    have hl : (flat (acc.map recS)).length = i := by rw [hf, List.length_take, hsl, Nat.min_eq_left hi]
    have hfl := flat_len (acc.map recS)
    rw [hl, List.length_map] at hfl
    rcases turn_tells s acc i hs hi (by omega) with ⟨hno, he⟩ | ⟨x, hR, hp, hnext⟩
    · refine ⟨acc, ?_, hr, s.data.toList.drop i, ?_, hno⟩
      · rw [hl]
        exact he
      · rw [hf, List.take_append_drop]
    · have h10 := recB_len (recS x)
      have hle := hp.length_le
      rw [List.length_drop, hsl] at hle
      obtain ⟨L, hL⟩ : ∃ L, L = (recB (recS x)).length := ⟨_, rfl⟩
      rw [← hL] at h10 hle hnext
      have hrec : recB (recS x) = (s.data.toList.drop i).take L := by
        rw [hL]
        exact List.prefix_iff_eq_take.mp hp
      have hmap : (acc ++ [x]).map recS = acc.map recS ++ [recS x] := List.map_append
      obtain ⟨out, ho, hR2⟩ := ih (i + L) (acc ++ [x]) (by omega) (by omega)
        (by
          rw [hmap]
          intro y hy
          rcases List.mem_append.mp hy with hy | hy
          · exact hr y hy
          · rw [List.mem_singleton.mp hy]
            exact hR)
        (by rw [hmap, flat_append, flat_one, hf, hrec, List.take_add])
      exact ⟨out, hnext _ ho, hR2⟩
theorem refread_of (s : ByteArray) (hs : s.size ≤ 29320310074000) (rs : List S29) (h : Reads s.data.toList (rs.map recS)) : EvK (fun K => humpyardref15_Read.f K s) (rs, ((flat (rs.map recS)).length : Int)) := by
  obtain ⟨out, ho, hr⟩ := refread_l0 s hs s.size 0 [] (by omega) (by omega) (fun x hx => absurd hx (by simp)) rfl
  have e := map_recS_inj _ _ (reads_unique _ _ _ h hr)
  rw [e]
  exact ho
end Go.Proofs.Ythaeecoahbohnaa.Plain
