/- The law SealSums answers true, walked by hand: a sum goes on byte by byte, and texts that are unlike in one byte alone have unlike sums. For every two texts, whatever byte. -/
import Derived.Test.YtagcfcjkpbcfhaaPSealx1
import Derived.Test.YtagcfcjkpbcfhaaPick
import Derived.Test.YtagcfcjkpbcfhaaBytes
namespace Go.Proofs.Ytagcfcjkpbcfhaa.Pure
open Go.RowKit Go.Proofs.Ytagcfcjkpbcfhaa.PSeal Go.Proofs.YtagcfcjkpbcfhaaW.PrintWords Go.Proofs.YtagcfcjkpbcfhaaW.PrintLast Go.Proofs.YtagcfcjkpbcfhaaW.PrintMore
open Go.Proofs.Ytagcfcjkpbcfhaa.Plain
set_option linter.unusedVariables false
set_option linter.unusedSimpArgs false
theorem fnv_nat (h : Int) (l : List UInt8) (h0 : 0 ≤ h) (h1 : h < 4294967296) : ∃ n : Nat, fnv h l = (n : Int) ∧ n < 4294967296 := by
  have := fnv_range l h h0 h1
  exact ⟨(fnv h l).toNat, by omega, by omega⟩
/-- One byte more, in 64 bits. -/
theorem step64 (n : Nat) (hn : n < 4294967296) (c : UInt8) : ∃ z : Nat, (IntKind.u64.wrap (Go.bits .xor .u64 (n : Int) (IntKind.u64.wrap (c.toNat : Int)) * 16777619)).tmod 4294967296 = (z : Int) ∧ z < 4294967296 ∧ fnvStep (n : Int) c = (z : Int) := by
  have hc := c.toNat_lt
  have w64 : ∀ x : Int, 0 ≤ x → x < 18446744073709551616 → IntKind.u64.wrap x = x := by
    intro x h0 h1
    simp [IntKind.wrap, IntKind.bits, IntKind.signed]
    omega
  have hx : n ^^^ c.toNat < 4294967296 := Nat.xor_lt_two_pow (n := 32) (by omega) (by omega)
  have h := fnvStep_eq (n : Int) c (by omega) (by omega)
  rw [Int.toNat_natCast] at h
  refine ⟨(n ^^^ c.toNat) * 16777619 % 4294967296, ?_, Nat.mod_lt _ (by decide), by rw [h]; omega⟩
  rw [w64 (c.toNat : Int) (by omega) (by omega), u64_xor_nat _ _ (by omega) (by omega)]
  generalize n ^^^ c.toNat = y at hx
  rw [w64 _ (by omega) (by omega), Int.tmod_eq_emod_of_nonneg (by omega)]
  omega
set_option maxHeartbeats 4000000 in
set_option maxRecDepth 100000 in
theorem sums_walk (s more : ByteArray) (at0 : Int) (d : UInt8) (w : World) (hs : s.size ≤ 140737488351232) (hm : more.size ≤ 140737488351232) (hat : (Lit.int .i64 at0).wf = true) :
    Calls Try.prog 8 #[.string s, .string more, .int .i64 at0, .int .u8 (d.toNat : Int)] w fun e w' => e = .returned (.bool true) ∧ Below w.heap.size w w' := by
  have Aw := Aside0.mk (awake_tells 100 (by omega))
  obtain ⟨m0, h0, b0⟩ := fnv_nat 2166136261 s.data.toList (by decide) (by decide)
  obtain ⟨m1, h1, b1⟩ := fnv_nat m0 more.data.toList (by omega) (by omega)
  have A0 := Aside0.mk ((sum_tells s (by omega) 100).trans (congrArg some h0))
  have hsum : sumOf (s ++ more) = (m1 : Int) := by
    unfold sumOf
    rw [ByteArray.data_append, Array.toList_append, fnv_append, h0, h1]
  have A1 := Aside0.mk ((sum_tells (s ++ more) (by rw [ByteArray.size_append]; omega) 100).trans (congrArg some hsum))
  have H1 := Aside0.mk h1
  have HB := Aside0.mk (Below.refl w.heap.size w)
  clear h1 hsum
  go_enter Try.func8, Try.ntmps8
  go_wp2_with (first | (go_at_call 10; refine (humpyardlaw06_awake.calls 100 true _ Aw.out).mono ?_; rintro e w1 ⟨rfl, hb1⟩) | (go_at_call 16; refine (seal_Sum.calls 100 s (m0 : Int) _ A0.out).mono ?_; rintro e w2 ⟨rfl, hb2⟩))
  go_loop [10, 11] (fun vh vi => ∃ i n : Nat, i ≤ more.size ∧ vi = .int .i64 i ∧ vh = .int .u64 n ∧ Aside0 (fnv m0 (more.data.toList.take i) = (n : Int)) ∧ n < 4294967296) (fun _ vi => more.size - (intOf vi).toNat)
  case atStart => exact ⟨0, m0, Nat.zero_le _, rfl, rfl, ⟨rfl⟩, b0⟩
  case round =>
    obtain ⟨i, n, hi, rfl, rfl, HN, hn⟩ := hrel
    by_cases hlt : i < more.size
    · obtain ⟨z, hz, hz1, hz2⟩ := step64 n hn (more.data[i]'hlt)
      have hsn : fnv m0 (more.data.toList.take (i + 1)) = (z : Int) := by
        rw [List.take_succ_eq_append_getElem (by rw [data_length]; exact hlt), fnv_snoc, HN.out, Array.getElem_toList, hz2]
      have HS := Aside0.mk hsn
      have HZ := Aside0.mk hz
      clear hsn hz2 hz
      go_wp2
      exact ⟨⟨i + 1, z, by omega, by go_num, by rw [← HZ.out]; rfl, HS, hz1⟩, by simp [intOf]; omega⟩
    · obtain rfl : i = more.size := by omega
      obtain rfl : m1 = n := by
        have e := HN.out
        rw [List.take_of_length_le (by rw [data_length]; exact Nat.le_refl _), H1.out] at e
        exact Int.ofNat.inj e
      by_cases hs0 : s.size = 0
      · have hse : s.toList = [] := by
          rw [Lib.toList_data]
          exact List.eq_nil_of_length_eq_zero (by rw [data_length]; exact hs0)
        go_wp2_with (go_at_call 16; refine (seal_Sum.calls 100 (s ++ more) (m1 : Int) _ A1.out).mono ?_; rintro e w3 ⟨rfl, hb3⟩)
        go_ret
        exact ⟨rfl, below_step (below_step (below_step HB.out hb1) hb2) hb3⟩
      · have hse : (s.toList == ([] : List UInt8)) = false := by
          rw [beq_eq_false_iff_ne, ne_eq, Lib.toList_data]
          intro h
          apply hs0
          rw [← data_length, h]
          rfl
        obtain ⟨j, hj, hp⟩ := pick_tells at0 s.size hat (by omega)
        have hjl : j < s.data.toList.length := by rw [data_length]; exact hj
        have Ap := Aside0.mk hp
        obtain ⟨c, hc⟩ : ∃ c, s.data.toList[j] = c := ⟨_, rfl⟩
        have hbt : bt s (j : Int) = (c.toNat : Int) := by rw [bt_list _ _ hj, hc]
        obtain ⟨x, hx, hxc⟩ := flip_byte c d
        have hlist : s.data.toList = s.data.toList.take j ++ c :: s.data.toList.drop (j + 1) := by
          rw [← hc, List.getElem_cons_drop, List.take_append_drop]
        have hset : s.data.toList.set j x = s.data.toList.take j ++ x :: s.data.toList.drop (j + 1) := List.set_eq_take_append_cons_drop ▸ (by rw [if_pos hjl])
        obtain ⟨m2, h2, b2⟩ := fnv_nat 2166136261 (s.data.toList.set j x) (by decide) (by decide)
        have hne : m2 ≠ m0 := by
          intro e
          have e1 : fnv 2166136261 (s.data.toList.take j ++ x :: s.data.toList.drop (j + 1)) = (m0 : Int) := by rw [← hset, h2, e]
          have e2 : fnv 2166136261 (s.data.toList.take j ++ c :: s.data.toList.drop (j + 1)) = (m0 : Int) := by rw [← hlist, h0]
          exact hxc (fnv_one _ _ _ _ 2166136261 (by decide) (by decide) (e1.trans e2.symm))
        have A2 := Aside0.mk ((sum_tells ⟨(s.data.toList.set j x).toArray⟩ (by show (s.data.toList.set j x).toArray.size ≤ _; rw [List.size_toArray, List.length_set, data_length]; omega) 100).trans (congrArg some (show sumOf ⟨(s.data.toList.set j x).toArray⟩ = (m2 : Int) from h2)))
        have n1 : ((m2 : Int) != (m0 : Int)) = true := by rw [bne_iff_ne]; omega
        have n2 : ((m2 : Int) == (m0 : Int)) = false := by rw [beq_eq_false_iff_ne]; omega
        have n3 : (m2 == m0) = false := by rw [beq_eq_false_iff_ne]; exact hne
        have n4 : (m2 != m0) = true := by rw [bne_iff_ne]; exact hne
        clear h2 hne hset hlist hxc hp hc hjl h0
        have kb := fun W => print_bytes (P := Try.prog) 9 33 5 Try.underlying9 Try.underlying33 Try.underlying5 s W
        go_wp2_with fail
        (with_reducible refine (seal_Sum.calls 100 (s ++ more) (m1 : Int) _ A1.out).mono ?_)
        rintro e w3 ⟨rfl, hb3⟩
        go_wp2_with fail
        (with_reducible refine (humpyardlaw06_pick.calls at0 (s.size : Int) (j : Int) _ Ap.out).mono ?_)
        rintro e w4 ⟨rfl, ⟨nd, rfl⟩⟩
        have hb4 : Below w.heap.size w ((Lib.bytesWorld w3 5 s).drewN nd) := pw_below_drewN (bytes_below (below_step (below_step (below_step HB.out hb1) hb2) hb3) (below_step (below_step (below_step HB.out hb1) hb2) hb3).size 5 s) nd
        have hg : w.heap.size ≤ w3.heap.size := (below_step (below_step (below_step HB.out hb1) hb2) hb3).size
        have kc : ((Lib.bytesWorld w3 5 s).drewN nd).cell? ⟨w3.heap.size, j, none⟩ = some (.int .u8 (bt s (j : Int))) := bw_cell w3 5 s j hj
        have kf : ((Lib.bytesWorld w3 5 s).drewN nd).frozen? ⟨w3.heap.size, j, none⟩ = false := bw_frozen w3 5 s j hj
        have kr := fun (cap : Nat) => bw_back_of (P := Try.prog) w3 ((Lib.bytesWorld w3 5 s).drewN nd) (e := 5) (s := s) (fun _ => rfl) 33 9 5 j cap hj x Try.underlying33 Try.underlying5 Try.underlying9
        generalize (Lib.bytesWorld w3 5 s).drewN nd = w4 at hb4 kc kf kr ⊢
        go_wp2_with fail
        (with_reducible refine (seal_Sum.calls 100 ⟨(s.data.toList.set j x).toArray⟩ (m2 : Int) _ A2.out).mono ?_)
        rintro e w5 ⟨rfl, hb5⟩
        go_wp2_with fail
        (with_reducible refine (seal_Sum.calls 100 s (m0 : Int) _ A0.out).mono ?_)
        rintro e w6 ⟨rfl, hb6⟩
        go_wp2_with fail
        go_ret
        exact ⟨rfl, below_step (below_step (hb4.setCell hg _) hb5) hb6⟩
/-- The same, the byte as a whole number. -/
theorem sums_law (a0 a1 : ByteArray) (a2 : Int) (a9 : Int) (w : World) (w0 : a0.size ≤ 140737488351232) (w1 : a1.size ≤ 140737488351232) (w2 : (Lit.int .i64 a2).wf = true) (w9 : (Lit.int .u8 a9).wf = true) :
    Calls Try.prog 8 #[.string a0, .string a1, .int .i64 a2, .int .u8 a9] w fun e w' => e = .returned (.bool true) ∧ Below w.heap.size w w' := by
  have hr : 0 ≤ a9 ∧ a9 ≤ 255 := by
    have e1 : IntKind.u8.min = 0 := by decide
    have e2 : IntKind.u8.max = 255 := by decide
    simpa only [Lit.wf, e1, e2, Bool.and_eq_true, decide_eq_true_eq] using w9
  obtain ⟨d, rfl⟩ : ∃ d : UInt8, a9 = (d.toNat : Int) := ⟨UInt8.ofNat a9.toNat, by rw [UInt8.toNat_ofNat_of_lt' (by omega : a9.toNat < 256)]; omega⟩
  exact sums_walk a0 a1 a2 d w w0 w1 w2

end Go.Proofs.Ytagcfcjkpbcfhaa.Pure
