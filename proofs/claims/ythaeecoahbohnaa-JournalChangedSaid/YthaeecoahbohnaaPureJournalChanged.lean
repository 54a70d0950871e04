/- The law JournalChanged answers true, walked by hand. -/
import Derived.Test.YthaeecoahbohnaaChanged

namespace Go.Proofs.Ythaeecoahbohnaa.Pure
open Go Go.RowKit Go.Proofs.Ythaeecoahbohnaa.PJour Go.Proofs.YthaeecoahbohnaaW.PrintWords Go.Proofs.YthaeecoahbohnaaW.PrintLast Go.Proofs.YthaeecoahbohnaaW.PrintMore
open Go.Proofs.Ythaeecoahbohnaa.Plain
set_option linter.unusedVariables false
set_option linter.unusedSimpArgs false
theorem S_reads_C {w : World} {base : Nat} {v : Value} {xs : List S29} (h : Kd.S k29 29 w base (fun _ => True) v xs) : ∃ A c, v = .slice A xs.length c ∧ xs.length ≤ c ∧ Kd.C k29 w A xs.length xs := by
  exact Kd.S_reads h
set_option maxHeartbeats 4000000 in
set_option maxRecDepth 100000 in
theorem changed_walk (A0 : Option Addr) (c0 : Nat) (l0 : List S29) (which at0 : Int) (d : UInt8) (w : World) (hr0 : Kd.C k29 w A0 l0.length l0) (hc0 : l0.length ≤ c0) (K : Nat) (out : List S29) (q : ByteArray) (zs : List Int)
    (f1 : humpyardlaw15_awake.f K = some true) (f2 : humpyardlaw15_Fit.f K l0 = some out) (hne : 0 < out.length) (hnl : out.length ≤ 12) (f3 : humpyardlaw15_laid.f K out = some (q, zs)) (hz : zs.length = out.length)
    (k : Nat) (hk : k < out.length) (f4 : humpyardlaw15_pick.f which (out.length : Int) = some (k : Int))
    (o : Nat → Nat) (ho0 : o 0 = 0) (hob : ∀ i, o i ≤ 4000) (ho : ∀ i, i < out.length → wrap64 ((o i : Int) + rd zs (i : Int)) = (o (i + 1) : Int)) (R : Nat) (hR : rd zs (k : Int) = (R : Int)) (hR10 : 10 ≤ R) (hRb : R ≤ 4000)
    (j : Nat) (hj : j + 4 < R) (f5 : humpyardlaw15_pick.f at0 ((R : Int) - 4) = some (j : Int)) (hq : o k + 4 + j < q.size) (hqs : q.size ≤ 4000) (x : UInt8) (hx : Go.bits .xor .u8 (bt q ((o k + 4 + j : Nat) : Int)) (1 + (d.toNat : Int) % 255) = (x.toNat : Int))
    (f6 : journal_Read.f K ⟨(q.data.toList.set (o k + 4 + j) x).toArray⟩ = some (out.take k, (o k : Int))) (f7 : journal_Same.f (out.take k) (out.take k) = some true) :
    Calls Try.prog 6 #[.slice A0 l0.length c0, .int .i64 which, .int .i64 at0, .int .u8 (d.toNat : Int)] w fun e w' => e = .returned (.bool true) ∧ Below w.heap.size w w' := by
  have F1 := Aside0.mk f1
  have F2 := Aside0.mk f2
  have F3 := Aside0.mk f3
  have F4 := Aside0.mk f4
  have F5 := Aside0.mk f5
  have F6 := Aside0.mk f6
  have F7 := Aside0.mk f7
  have HO := Aside0.mk ho
  have HX := Aside0.mk hx
  have HR0 := Aside0.mk hr0
  have HC0 := Aside0.mk hc0
  have HB := Aside0.mk (Below.refl w.heap.size w)
  have HRR := Aside0.mk hR
  have kb := fun W => print_bytes (P := Try.prog) 9 41 5 Try.underlying9 Try.underlying41 Try.underlying5 q W
  clear hr0 hc0 f1 f2 f3 f4 f5 f6 f7 ho hx hR
  go_enter Try.func6, Try.ntmps6
  go_wp2_with (first | (go_at_call 9; refine (humpyardlaw15_awake.calls K true _ F1.out).mono ?_; rintro e w1 ⟨rfl, hb1⟩) | (go_at_call 12; refine (humpyardlaw15_Fit.calls K A0 c0 l0 out _ (Kd.C_below HR0.out hb1) HC0.out F2.out).mono ?_; rintro e w2 ⟨v0, rfl, hs2, hb2⟩; obtain ⟨A2, c2, rfl, hc2, hr2⟩ := S_reads_C hs2))
  (with_reducible refine (humpyardlaw15_laid.calls K A2 c2 out q zs _ hr2 hc2 F3.out).mono ?_)
  rintro e w3 ⟨v1, rfl, hs3, hb3⟩
  obtain ⟨A3, c3, rfl, hc3, hr3⟩ := Kd.R_reads hs3
  have HR2 := Aside0.mk (Kd.C_below hr2 hb3)
  have HR3 := Aside0.mk hr3
  have HS2 := Aside0.mk hc2
  have HBW := Aside0.mk (below_step (below_step (below_step HB.out hb1) hb2) hb3)
  clear hs2 hr2 hr3 hs3 hc2
  go_wp2_with fail
  (with_reducible refine (humpyardlaw15_pick.calls which (out.length : Int) (k : Int) _ F4.out).mono ?_)
  rintro e w4 ⟨rfl, ⟨nd, rfl⟩⟩
  have hb4 := Aside0.mk (pw_below_drewN HBW.out nd)
  have HR2' : Aside0 (Kd.C k29 (w3.drewN nd) A2 out.length out) := ⟨Kd.C_drewN HR2.out nd⟩
  have HR3' : Aside0 ((Kd.int .i64).C (w3.drewN nd) A3 zs.length zs) := ⟨Kd.C_drewN HR3.out nd⟩
  clear HR2 HR3 HBW HB hb1 hb2 hb3
  generalize w3.drewN nd = w4 at hb4 HR2' HR3' ⊢
  go_wp2_with fail
  go_loop [14, 15] (fun vf vi => ∃ i : Nat, i ≤ k ∧ vi = .int .i64 i ∧ vf = .int .i64 (o i : Int)) (fun _ vi => k - (intOf vi).toNat)
  case atStart => exact ⟨0, Nat.zero_le _, rfl, by rw [ho0]; rfl⟩
  case round =>
    obtain ⟨i, hi, rfl, rfl⟩ := hrel
    by_cases hlt : i < k
    · have p0 : 0 ≤ (i : Int) := Int.natCast_nonneg i
      have q0 : (i : Int) < (zs.length : Int) := by omega
      obtain ⟨ad, e3, hcell⟩ := Kd.at_int HR3'.out (i : Int) p0 q0
      cases e3
      rw [Int.toNat_natCast] at hcell
      have ha := HO.out i (by omega)
      have hlt2 : (i : Int) < (k : Int) := by omega
      go_wp2
      exact ⟨⟨i + 1, hlt, by go_num, by rw [ha]⟩, by simp [intOf]; omega⟩
    · obtain rfl : i = k := by omega
      have p0 : 0 ≤ (i : Int) := Int.natCast_nonneg i
      have q0 : (i : Int) < (zs.length : Int) := by omega
      obtain ⟨ad, e3, hcell⟩ := Kd.at_int HR3'.out (i : Int) p0 q0
      cases e3
      rw [Int.toNat_natCast] at hcell
      rw [HRR.out] at hcell
      have hbw := bytes_below (Below.refl w4.heap.size w4) (Nat.le_refl _) 5 q
      obtain ⟨ad2, e4, hcell2⟩ := Kd.at_int (Kd.C_below HR3'.out hbw) (i : Int) p0 q0
      cases e4
      rw [Int.toNat_natCast, HRR.out] at hcell2
      go_wp2_with fail
      (with_reducible refine (humpyardlaw15_pick.calls at0 ((R : Int) - 4) (j : Int) _ F5.out).mono ?_)
      rintro e w5 ⟨rfl, ⟨nd2, rfl⟩⟩
      have hb5 : Below w.heap.size w ((Lib.bytesWorld w4 5 q).drewN nd2) := pw_below_drewN (bytes_below hb4.out hb4.out.size 5 q) nd2
      have hg : w.heap.size ≤ w4.heap.size := hb4.out.size
      have hw5 : Below w4.heap.size w4 ((Lib.bytesWorld w4 5 q).drewN nd2) := pw_below_drewN hbw nd2
      have kc : ((Lib.bytesWorld w4 5 q).drewN nd2).cell? ⟨w4.heap.size, o i + 4 + j, none⟩ = some (.int .u8 (bt q ((o i : Int) + 4 + (j : Int)))) := bw_cell w4 5 q (o i + 4 + j) hq
      have kf : ((Lib.bytesWorld w4 5 q).drewN nd2).frozen? ⟨w4.heap.size, o i + 4 + j, none⟩ = false := bw_frozen w4 5 q (o i + 4 + j) hq
      have kr := fun (cap : Nat) => bw_back_of (P := Try.prog) w4 ((Lib.bytesWorld w4 5 q).drewN nd2) (e := 5) (s := q) (fun _ => rfl) 41 9 5 (o i + 4 + j) cap hq x Try.underlying41 Try.underlying5 Try.underlying9
      have hob1 := hob i
      have hx : Go.bits .xor .u8 (bt q ((o i : Int) + 4 + (j : Int))) (1 + (d.toNat : Int) % 255) = (x.toNat : Int) := HX.out
      generalize (Lib.bytesWorld w4 5 q).drewN nd2 = w5 at hb5 hw5 kc kf kr ⊢
      clear hcell2 hbw
      go_wp2_with fail
      (with_reducible refine (journal_Read.calls K ⟨(q.data.toList.set (o i + 4 + j) x).toArray⟩ (out.take i) (o i : Int) _ F6.out).mono ?_)
      rintro e w6 ⟨v6, rfl, hs6, hb6⟩
      obtain ⟨A6, c6, rfl, hc6, hr6⟩ := S_reads_C hs6
      have hb6' : Below w.heap.size w w6 := below_step (hb5.setCell hg _) hb6
      have hC6 := Kd.C_below HR2'.out (below_step (hw5.setCell (Nat.le_refl _) _) hb6)
      have hti : i ≤ out.length := Nat.le_of_lt hk
      have htl : (out.take i).length = i := by rw [List.length_take, Nat.min_eq_left hti]
      have hCt := Kd.C_take hC6 hti
      have hc2t : (out.take i).length ≤ c2 := Nat.le_trans (List.length_take_le' _ _) HS2.out
      have hct : ∀ W : World, (Instr.slice 22 (.slice A2 out.length c2) none (some (.int .i64 (i : Int))) none).run Try.prog W = .ok (.slice A2 (out.take i).length c2) W := by
        obtain ⟨i0, hi0, _⟩ := Option.map_eq_some_iff.1 info29
        intro W
        rw [htl]
        have := cut_to (P := Try.prog) 22 29 .i64 Try.underlying22 hi0 A2 out.length c2 (i : Int) p0 (Int.ofNat_le.mpr hti) HS2.out W
        rw [Int.toNat_natCast] at this
        exact this
      have hsame := journal_Same.calls A6 c6 (out.take i) A2 c2 (out.take i) true w6 hr6 hc6 hCt hc2t F7.out
      rw [htl] at hsame
      clear hb6 hs6 hC6 hb5 hw5 kc kf kr hx
      go_wp2_with fail
      (with_reducible refine hsame.mono ?_)
      rintro e w7 ⟨rfl, hb7⟩
      go_wp2_with fail
      go_ret
      exact ⟨rfl, below_step hb6' hb7⟩
set_option maxHeartbeats 4000000 in
set_option maxRecDepth 100000 in
theorem changed_empty (A0 : Option Addr) (c0 : Nat) (l0 : List S29) (which at0 d : Int) (w : World) (hr0 : Kd.C k29 w A0 l0.length l0) (hc0 : l0.length ≤ c0) (K : Nat)
    (f1 : humpyardlaw15_awake.f K = some true) (f2 : humpyardlaw15_Fit.f K l0 = some []) :
    Calls Try.prog 6 #[.slice A0 l0.length c0, .int .i64 which, .int .i64 at0, .int .u8 d] w fun e w' => e = .returned (.bool true) ∧ Below w.heap.size w w' := by
  have F1 := Aside0.mk f1
  have F2 := Aside0.mk f2
  have HR0 := Aside0.mk hr0
  have HC0 := Aside0.mk hc0
  have HB := Aside0.mk (Below.refl w.heap.size w)
  clear hr0 hc0 f1 f2
  go_enter Try.func6, Try.ntmps6
  go_wp2_with (first | (go_at_call 9; refine (humpyardlaw15_awake.calls K true _ F1.out).mono ?_; rintro e w1 ⟨rfl, hb1⟩) | (go_at_call 12; refine (humpyardlaw15_Fit.calls K A0 c0 l0 [] _ (Kd.C_below HR0.out hb1) HC0.out F2.out).mono ?_; rintro e w2 ⟨v0, rfl, hs2, hb2⟩; obtain ⟨A2, c2, rfl, hc2, hr2⟩ := S_reads_C hs2))
  go_ret
  exact ⟨rfl, below_step (below_step HB.out hb1) hb2⟩
theorem wrap_add4 (a b c : Nat) (h : c = a + b) (hb : c ≤ 4000) : wrap64 ((a : Int) + (b : Int)) = (c : Int) := by unfold wrap64; omega
theorem rd_sizes4 (out : List S29) (i : Nat) (h : i < out.length) : rd (out.map (fun x => ((recBytes x).size : Int))) (i : Int) = ((recBytes (rd_T29 out (i : Int))).size : Int) := by
  unfold rd rd_T29
  rw [Int.toNat_natCast, List.getD_eq_getElem?_getD, List.getElem?_map, List.getD_eq_getElem?_getD, List.getElem?_eq_getElem h]
  rfl
theorem offs_next (out : List S29) (i : Nat) (h : i < out.length) : (flat ((out.take (i + 1)).map recS)).length = (flat ((out.take i).map recS)).length + (recBytes (rd_T29 out (i : Int))).size := by
  have e : out.take (i + 1) = out.take i ++ [rd_T29 out (i : Int)] := by
    unfold rd_T29
    rw [Int.toNat_natCast, List.getD_eq_getElem?_getD, List.getElem?_eq_getElem h, List.take_succ_eq_append_getElem h]
    rfl
  rw [e, List.map_append, flat_append, List.map_cons, List.map_nil, flat_one, List.length_append]
  rfl
theorem offs_le (out : List S29) (i : Nat) : (flat ((out.take i).map recS)).length ≤ (flat (out.map recS)).length := by
  have e : flat (out.map recS) = flat ((out.take i).map recS) ++ flat ((out.drop i).map recS) := by
    rw [← flat_append, ← List.map_append, List.take_append_drop]
  rw [e, List.length_append]
  exact Nat.le_add_right _ _
theorem flat_at (out : List S29) (k p : Nat) (hk : k < out.length) (hp : p < (recB (recS (rd_T29 out (k : Int)))).length) : (flat (out.map recS))[(flat ((out.take k).map recS)).length + p]? = (recB (recS (rd_T29 out (k : Int))))[p]? := by
  have e : flat (out.map recS) = flat ((out.take k).map recS) ++ (recB (recS (rd_T29 out (k : Int))) ++ flat ((out.drop (k + 1)).map recS)) := by
    rw [← flat_cons, ← List.map_cons (f := recS), ← rd_drop out k hk, ← flat_append, ← List.map_append, List.take_append_drop]
  rw [e, List.getElem?_append_right (Nat.le_add_right _ _), Nat.add_sub_cancel_left, List.getElem?_append_left hp]
theorem JournalChanged (A0 : Option Addr) (c0 : Nat) (l0 : List S29) (which at0 : Int) (d : UInt8) (w : World) (hr0 : Kd.C k29 w A0 l0.length l0) (hc0 : l0.length ≤ c0) (hl : ∀ x ∈ l0, Fits x) (hw : (Lit.int .i64 which).wf = true) (ha : (Lit.int .i64 at0).wf = true) :
    Calls Try.prog 6 #[.slice A0 l0.length c0, .int .i64 which, .int .i64 at0, .int .u8 (d.toNat : Int)] w fun e w' => e = .returned (.bool true) ∧ Below w.heap.size w w' := by
  obtain ⟨out, hof, hg, hnl⟩ := fit_tells l0 (fun x hx => (hl x hx).r)
  have hr : ∀ x ∈ out, Right (recS x) := fun x hx => (hg x hx).right
  have hf : (flat (out.map recS)).length ≤ 4000 := Nat.le_trans (flat_good out hg) (by omega)
  obtain ⟨K1, e1⟩ := awake_tells
  obtain ⟨K2, e2⟩ := hof
  by_cases hne : out.length = 0
  · obtain rfl := List.eq_nil_of_length_eq_zero hne
    exact changed_empty A0 c0 l0 which at0 (d.toNat : Int) w hr0 hc0 (K1 + K2) (e1 _ (by omega)) (e2 _ (by omega))
  obtain ⟨K3, e3⟩ := laid_tells out hr (Nat.le_trans hf (by decide))
  have hpos : 0 < out.length := Nat.pos_of_ne_zero hne
  obtain ⟨k, hk, f4⟩ := pick_nat which out.length (int_range hw) hpos
  obtain ⟨X, hX⟩ : ∃ X, X = rd_T29 out (k : Int) := ⟨_, rfl⟩
  obtain ⟨R, hRd⟩ : ∃ R, R = (recBytes X).size := ⟨_, rfl⟩
  have hRl : R = (recB (recS X)).length := hRd
  have hR10 : 10 ≤ R := by
    rw [hRl, recB_len]
    exact Nat.le_trans (Nat.le_add_right _ _) (Nat.le_add_right _ _)
  have hon := offs_next out k hk
  have hole := offs_le out (k + 1)
  rw [← hX, ← hRd] at hon
  obtain ⟨j, hj, f5⟩ := pick_nat at0 (R - 4) (int_range ha) (by clear hRl hRd hon hole; omega)
  have hcast : ((R - 4 : Nat) : Int) = (R : Int) - 4 := by clear hRl hRd hon hole f5; omega
  rw [hcast] at f5
  have hj4 : j + 4 < R := by clear hRl hRd hon hole f5 hcast; omega
  have hjR : 4 + j < (recB (recS (rd_T29 out (k : Int)))).length := by rw [← hX, ← hRl, Nat.add_comm]; exact hj4
  have hRb : R ≤ 4000 := Nat.le_trans (Nat.le_trans (Nat.le_add_left _ _) (Nat.le_of_eq hon.symm)) (Nat.le_trans hole hf)
  have hq : (flat ((out.take k).map recS)).length + 4 + j < (flatBytes out).size := by
    refine Nat.lt_of_lt_of_le ?_ hole
    rw [hon, Nat.add_assoc]
    exact Nat.add_lt_add_left (by rw [Nat.add_comm]; exact hj4) _
  obtain ⟨c, hc⟩ : ∃ c, (recB (recS (rd_T29 out (k : Int))))[4 + j]? = some c := ⟨_, List.getElem?_eq_getElem hjR⟩
  have hbt : bt (flatBytes out) (((flat ((out.take k).map recS)).length + 4 + j : Nat) : Int) = (c.toNat : Int) := by
    rw [bt_list _ _ hq]
    have h := flat_at out k (4 + j) hk hjR
    rw [hc, ← Nat.add_assoc] at h
    obtain ⟨h1, h2⟩ := List.getElem?_eq_some_iff.mp h
    exact congrArg (fun z : UInt8 => (z.toNat : Int)) h2
  obtain ⟨x, hx, hxc⟩ := flip_byte c d
  have hre := changed_reads out hr k j hk (by rw [Nat.add_comm]; exact hjR) c x hc (fun e => hxc e.symm)
  rw [← Nat.add_assoc] at hre
  have hsz : (⟨((flatBytes out).data.toList.set ((flat ((out.take k).map recS)).length + 4 + j) x).toArray⟩ : ByteArray).size ≤ 29320310074000 := by
    have e : (⟨((flatBytes out).data.toList.set ((flat ((out.take k).map recS)).length + 4 + j) x).toArray⟩ : ByteArray).size = (flat (out.map recS)).length := by
      show ((flatBytes out).data.toList.set ((flat ((out.take k).map recS)).length + 4 + j) x).toArray.size = _
      rw [List.size_toArray, List.length_set]
      rfl
    rw [e]
    exact Nat.le_trans hf (by decide)
  obtain ⟨K4, e4⟩ := read_of ⟨((flatBytes out).data.toList.set ((flat ((out.take k).map recS)).length + 4 + j) x).toArray⟩ hsz (out.take k) hre
  have hsame : journal_Same.f (out.take k) (out.take k) = some true := same_self _ (Nat.le_trans (List.length_take_le' _ _) (Nat.le_trans hnl (by decide))) fun y hy => hr y (List.mem_of_mem_take hy)
  refine changed_walk A0 c0 l0 which at0 d w hr0 hc0 (K1 + K2 + K3 + K4) out (flatBytes out) (out.map (fun x => ((recBytes x).size : Int)))
    (e1 _ (by omega)) (e2 _ (by omega)) hpos hnl (e3 _ (by omega)) (List.length_map _) k hk f4 (fun i => (flat ((out.take i).map recS)).length) rfl
    (fun i => Nat.le_trans (offs_le out i) hf) (fun i hi => ?_) R ?_ hR10 hRb j hj4 f5 hq hf x ?_ (e4 _ (by omega)) hsame
  · rw [rd_sizes4 out i hi]
    exact wrap_add4 _ _ _ (offs_next out i hi) (Nat.le_trans (offs_le out (i + 1)) hf)
  · rw [rd_sizes4 out k hk, ← hX, hRd]
  · rw [hbt]
    exact hx
/-- The same, the byte as a whole number. -/
theorem journalChanged_law (A0 : Option Addr) (c0 : Nat) (l0 : List S29) (which at0 a9 : Int) (w : World) (hr0 : Kd.C k29 w A0 l0.length l0) (hc0 : l0.length ≤ c0) (hl : ∀ x ∈ l0, Fits x) (hw : (Lit.int .i64 which).wf = true) (ha : (Lit.int .i64 at0).wf = true) (w9 : (Lit.int .u8 a9).wf = true) :
    Calls Try.prog 6 #[.slice A0 l0.length c0, .int .i64 which, .int .i64 at0, .int .u8 a9] w fun e w' => e = .returned (.bool true) ∧ Below w.heap.size w w' := by
  have hr : 0 ≤ a9 ∧ a9 ≤ 255 := by
    have e1 : IntKind.u8.min = 0 := by decide
    have e2 : IntKind.u8.max = 255 := by decide
    simpa only [Lit.wf, e1, e2, Bool.and_eq_true, decide_eq_true_eq] using w9
  obtain ⟨d, rfl⟩ : ∃ d : UInt8, a9 = (d.toNat : Int) := ⟨UInt8.ofNat a9.toNat, by rw [UInt8.toNat_ofNat_of_lt' (by omega : a9.toNat < 256)]; omega⟩
  exact JournalChanged A0 c0 l0 which at0 d w hr0 hc0 hl hw ha
end Go.Proofs.Ythaeecoahbohnaa.Pure
