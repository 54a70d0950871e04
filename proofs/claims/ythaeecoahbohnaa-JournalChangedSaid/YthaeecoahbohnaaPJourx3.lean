-- Written by a program of this session (a patched copy of the kit's print); not trusted: Lean checks it.
import Derived.Test.YthaeecoahbohnaaPJourx0
import Derived.Test.YthaeecoahbohnaaPJourx1
import Derived.Test.YthaeecoahbohnaaPJourx2
namespace Go.Proofs.Ythaeecoahbohnaa.PJour
open Go.RowKit Go.Proofs.YthaeecoahbohnaaW.PrintWords Go.Proofs.YthaeecoahbohnaaW.PrintLast Go.Proofs.YthaeecoahbohnaaW.PrintMore
attribute [local go_sem] max2_int min2_int max_two min_two max_three min_three max_four min_four   -- for this text's walks alone
set_option linter.unusedVariables false
set_option linter.unusedSimpArgs false

/-! ### journal_Read: function 14 -/
def journal_Read.l0 : Nat → ByteArray → List (S29) → Int → Option ((List (S29)) × Int)
  | 0, _, _, _ => none
  | k + 1, x0, x2, x3 => if 0 ≤ x3 then (if x3 ≤ (x0.size : Int) then ((journal_next.f k (x0.extract (x3 : Int).toNat x0.size)).bind fun bt123 => (if bt123.2.2.2 = 0 then (some (x2, x3)) else (if x2.length < 2932031007402 then (journal_Read.l0 k x0 (x2 ++ [(⟨bt123.1, bt123.2.1, bt123.2.2.1⟩ : S29)]) (wrap64 (x3 + bt123.2.2.2))) else (none)))) else (none)) else (none)
def journal_Read.f (k : Nat) (a0 : ByteArray) : Option ((List (S29)) × Int) := journal_Read.l0 k a0 ([] : List (S29)) 0
theorem journal_Read.mono_l : ∀ k, (∀ y0 y1 y2, LeO (journal_Read.l0 k y0 y1 y2) (journal_Read.l0 (k + 1) y0 y1 y2))
  | 0 => fun _ _ _ r h => by simp [journal_Read.l0] at h
  | k + 1 => by
    have ih0 := journal_Read.mono_l k
    · intro y0 y1 y2
      unfold journal_Read.l0
      repeat' first
      | (with_reducible exact ih0 _ _ _)
      | (with_reducible exact journal_next.mono _ _)
      | (with_reducible exact LeO.refl _)
      | (with_reducible exact LeO.none _)
      | (with_reducible refine LeO.ite ?_ ?_)
      | (with_reducible refine LeO.bind ?_ (fun _ => ?_))
      | exact ih0 _ _ _
      | exact journal_next.mono _ _
      | exact LeO.none _
      | refine LeO.ite ?_ ?_
      | refine LeO.bind ?_ (fun _ => ?_)
theorem journal_Read.mono : ∀ a0 k, LeO (journal_Read.f k a0) (journal_Read.f (k + 1) a0) := by
  intro a0 k
  have ih0 := journal_Read.mono_l k
  unfold journal_Read.f
  repeat' first
      | (with_reducible exact ih0 _ _ _)
      | (with_reducible exact journal_next.mono _ _)
      | (with_reducible exact LeO.refl _)
      | (with_reducible exact LeO.none _)
      | (with_reducible refine LeO.ite ?_ ?_)
      | (with_reducible refine LeO.bind ?_ (fun _ => ?_))
      | exact ih0 _ _ _
      | exact journal_next.mono _ _
      | exact LeO.none _
      | refine LeO.ite ?_ ?_
      | refine LeO.bind ?_ (fun _ => ?_)
set_option maxHeartbeats 8000000 in
set_option maxRecDepth 100000 in
theorem journal_Read.calls (k : Nat) (a0 : ByteArray) (r1 : List (S29)) (r2 : Int) (w : World) (h : journal_Read.f k a0 = some (r1, r2)) :
    Calls Try.prog 14 #[.string a0] w fun e w' => ∃ v0_ : Value, e = .returned (.tuple #[v0_, .int .i64 r2]) ∧ Kd.S k29 29 w' w.heap.size (fun _ => True) v0_ r1 ∧ Below w.heap.size w w' := by
  have hu29 := Try.underlying29
  have HB := Aside0.mk (Below.refl w.heap.size w)
  have H : (journal_Read.l0 k a0 ([] : List (S29)) 0) = some (r1, r2) := h
  clear h
  have H' := Aside0.mk H
  clear H
  go_enter Try.func14, Try.ntmps14
  go_wp2
  go_loopg [2, 3] k (fun kq v2 v3 w' => ∃ (x2_1 : List (S29)) (x3_1 : Int), v3 = .int .i64 x3_1 ∧ Aside0 (journal_Read.l0 kq a0 x2_1 x3_1 = some (r1, r2)) ∧ Aside0 (kq ≤ k) ∧ Aside0 (Kd.S k29 29 w' w.heap.size (fun _ => True) v2 x2_1) ∧ Aside0 (Below w.heap.size w w'))
  case atStart => exact ⟨(([] : List (S29))), (0), (by first | rfl | (simp; done) | (simp [*]; done)), H', ⟨Nat.le_refl _⟩, ⟨by first | exact Kd.S_nil _ _ _ _ _ | exact Kd.N_nil _ _ _ _ _ | exact Kd.V_nil _ _ _ _ _ | exact Kd.Q_nil _ _ _ _ _ | exact Kd.R_nil _ _ _ _ _⟩, ⟨by repeat (first | (with_reducible first | exact HB.out | apply below_alloc | apply pw_below_drewN | apply below_drew1) | exact HB.out)⟩⟩
  case round =>
    clear H'
    try clear c1
    obtain ⟨x2_1, x3_1, rfl, HA, HK1, HO_2, HB⟩ := hrel
    cases gk with
    | zero => exact absurd HA.out (by simp [journal_Read.l0])
    | succ k1 =>
      have H := HA.out
      clear HA
      simp only [journal_Read.l0] at H
      by_cases c2 : 0 ≤ x3_1
      · rw [if_pos c2] at H
        have c2b0 := eq_true c2
        have c2b1 : decide (0 ≤ x3_1) = true := decide_eq_true c2
        clear c2
        by_cases c3 : x3_1 ≤ (a0.size : Int)
        · rw [if_pos c3] at H
          have c3b0 := eq_true c3
          have c3b1 : decide (x3_1 ≤ (a0.size : Int)) = true := decide_eq_true c3
          clear c3
          replace H := Option.bind_eq_some_iff.mp H
          obtain ⟨⟨t123, t124, t127, t128⟩, A40, H⟩ := H
          replace H : (if t128 = 0 then (some (x2_1, x3_1)) else (if x2_1.length < 2932031007402 then (journal_Read.l0 k1 a0 (x2_1 ++ [(⟨t123, t124, t127⟩ : S29)]) (wrap64 (x3_1 + t128))) else (none))) = some (r1, r2) := H
          have A4 := Aside0.mk A40
          clear A40
          by_cases c5 : t128 = 0
          · rw [if_pos c5] at H
            have c5b0 : (t128 == 0) = true := beq_iff_eq.mpr c5
            have c5b1 : (t128 != 0) = false := bne_eq_false_iff_eq.mpr c5
            clear c5
            simp only [Option.some.injEq, Prod.mk.injEq] at H
            obtain ⟨rfl, rfl⟩ := H
            go_wp2_with (first | ((with_reducible refine gate_callee (f := 23) rfl ?_); refine goesL_ (some 10) rfl rfl Try.func23 (by kernel_rfl) rfl #[.string (a0.extract (x3_1 : Int).toNat a0.size)] rfl (by (try simp only [List.map_toArray, List.map_cons, List.map_nil]); first | done | rfl | (simp only [List.length_drop, List.length_take]; rfl)) ?_; (with_reducible refine (journal_next.calls k1 (a0.extract (x3_1 : Int).toNat a0.size) t123 t124 t127 t128 _ A4.out).mono ?_); rintro e w6 ⟨v125, rfl, ho0, hb⟩; refine ⟨_, rfl, ?_⟩; have n0_ := Aside0.mk (Kd.S_elder' (by (with_reducible repeat (first | apply Kd.S_alloc | apply Kd.S_drewN | apply Kd.S_drew)); exact HO_2.out) (Kd.R_base ho0) hb); have n1_ := Aside0.mk (Kd.R_lower ho0 (below_size (by repeat (first | (with_reducible first | exact HB.out | apply below_alloc | apply pw_below_drewN | apply below_drew1) | exact HB.out)))); have n2_ := Aside0.mk (below_step (by repeat (first | (with_reducible first | exact HB.out | apply below_alloc | apply pw_below_drewN | apply below_drew1) | exact HB.out)) hb); clear HO_2; clear HB; have HO_2 := n0_; have HO126 := n1_; have HB := n2_; clear n0_ n1_ n2_; (try clear hb); (try clear hb2); (try clear hk); (try clear hi); (try clear ho0)) | ((with_reducible refine gate_dst (N := 4) rfl ?_); refine box_event ?hg (N := 4) ?hd (cs := #[.int .i64 0, .slice none 0 0, .string (⟨#[]⟩ : ByteArray)]) (t := 29) ?hr ?_; (case hd => rfl); (case hg => rfl); (case hr => first | (go_simp; done) | (go_simp; rfl)); intro gb129 hg w7 hbox hb; have n0_ := Aside0.mk (Kd.S_below (Kd.S_elderB (by (with_reducible repeat (first | apply Kd.S_alloc | apply Kd.S_drewN | apply Kd.S_drew)); exact HO_2.out) gb129 (Nat.le_of_eq hg.symm)) hb); have n1_ := Aside0.mk (Kd.R_below (by (with_reducible repeat (first | apply Kd.R_alloc | apply Kd.R_drewN | apply Kd.R_drew)); exact HO126.out) hb); have n2_ := Aside0.mk (below_step (by repeat (first | (with_reducible first | exact HB.out | apply below_alloc | apply pw_below_drewN | apply below_drew1) | exact HB.out)) hb); have n3_ := Aside0.mk (hbox); have n4_ := Aside0.mk ((by rw [hg]; exact (below_size (by repeat (first | (with_reducible first | exact HB.out | apply below_alloc | apply pw_below_drewN | apply below_drew1) | exact HB.out))) : w.heap.size ≤ gb129)); have n5_ := Aside0.mk ((by rw [hg]; exact (below_size (by repeat (first | (with_reducible first | exact HB.out | apply below_alloc | apply pw_below_drewN | apply below_drew1) | exact HB.out))) : w.heap.size ≤ gb129)); clear HO_2; clear HO126; clear HB; have HO_2 := n0_; have HO126 := n1_; have HB := n2_; have BK129 := n3_; have GW129 := n4_; have GE129 := n5_; clear n0_ n1_ n2_ n3_ n4_ n5_; clear hb hbox hg; have hcz8_0 : w7.cell? ⟨gb129, 0, none⟩ = some (.int .i64 0) := (blk_cell BK129.out 0).trans rfl; have hcz8_1 : w7.cell? ⟨gb129, 1, none⟩ = some (.slice none 0 0) := (blk_cell BK129.out 1).trans rfl; have hcz8_2 : w7.cell? ⟨gb129, 2, none⟩ = some (.string (⟨#[]⟩ : ByteArray)) := (blk_cell BK129.out 2).trans rfl; have hfz8_0 := blk_frozen BK129.out 0; have hfz8_1 := blk_frozen BK129.out 1; have hfz8_2 := blk_frozen BK129.out 2; obtain ⟨Ao9, co9, eo9⟩ := Kd.R_slice HO126.out; subst eo9))
            go_ret2
            exact ⟨_, by first | rfl | (simp [errW_none, errW_some] <;> rfl) | (simp [*, errW_none, errW_some] <;> rfl), by (with_reducible repeat (first | apply Kd.S_alloc | apply Kd.S_drewN | apply Kd.S_drew)); exact Kd.S_mono (Kd.S_far (p := ⟨gb129, 2, none⟩) (Kd.S_far (p := ⟨gb129, 1, none⟩) (Kd.S_far (p := ⟨gb129, 0, none⟩) (Kd.S_mono HO_2.out (fun k_ hk => (⟨hk, hk.2⟩ : _ ∧ k_ ≠ gb129))) (fun _ hk => hk.2) (.int .i64 t123)) (fun _ hk => hk.2) (.slice Ao9 t124.length co9)) (fun _ hk => hk.2) (.string t127)) (fun _ hk => trivial), by repeat (first | (with_reducible first | exact HB.out | apply below_alloc | apply pw_below_drewN | apply below_drew1 | refine below_set ?_ GE129.out) | exact HB.out)⟩
          · rw [if_neg c5] at H
            have c5b0 : (t128 == 0) = false := beq_eq_false_iff_ne.mpr c5
            have c5b1 : (t128 != 0) = true := bne_iff_ne.mpr c5
            by_cases c10 : x2_1.length < 2932031007402
            · rw [if_pos c10] at H
              have LMc10 := Aside0.mk c10
              clear c10
              obtain ⟨y130, hy130⟩ : ∃ y_ : List (S29), y_ = (x2_1 ++ [(⟨t123, t124, t127⟩ : S29)]) := ⟨_, rfl⟩
              replace H : (journal_Read.l0 k1 a0 y130 (wrap64 (x3_1 + t128))) = some (r1, r2) := by first | (rw [hy130]; with_reducible exact H) | (have H2_ := (Option.bind_some _ _).symm.trans H; rw [hy130]; with_reducible exact H2_) | (have H2_ := (Option.bind_some _ _).symm.trans H; with_reducible exact H2_) | with_reducible exact H | (rw [hy130]; exact H) | exact H
              have Ny130 := Aside0.mk hy130
              clear hy130
              have H' := Aside0.mk H
              clear H
              go_wp2_with (first | ((with_reducible refine gate_callee (f := 23) rfl ?_); refine goesL_ (some 10) rfl rfl Try.func23 (by kernel_rfl) rfl #[.string (a0.extract (x3_1 : Int).toNat a0.size)] rfl (by (try simp only [List.map_toArray, List.map_cons, List.map_nil]); first | done | rfl | (simp only [List.length_drop, List.length_take]; rfl)) ?_; (with_reducible refine (journal_next.calls k1 (a0.extract (x3_1 : Int).toNat a0.size) t123 t124 t127 t128 _ A4.out).mono ?_); rintro e w11 ⟨v125, rfl, ho0, hb⟩; refine ⟨_, rfl, ?_⟩; have n0_ := Aside0.mk (Kd.S_elder' (by (with_reducible repeat (first | apply Kd.S_alloc | apply Kd.S_drewN | apply Kd.S_drew)); exact HO_2.out) (Kd.R_base ho0) hb); have n1_ := Aside0.mk (Kd.R_lower ho0 (below_size (by repeat (first | (with_reducible first | exact HB.out | apply below_alloc | apply pw_below_drewN | apply below_drew1) | exact HB.out)))); have n2_ := Aside0.mk (below_step (by repeat (first | (with_reducible first | exact HB.out | apply below_alloc | apply pw_below_drewN | apply below_drew1) | exact HB.out)) hb); clear HO_2; clear HB; have HO_2 := n0_; have HO126 := n1_; have HB := n2_; clear n0_ n1_ n2_; (try clear hb); (try clear hb2); (try clear hk); (try clear hi); (try clear ho0)) | ((with_reducible refine gate_dst (N := 4) rfl ?_); refine box_event ?hg (N := 4) ?hd (cs := #[.int .i64 0, .slice none 0 0, .string (⟨#[]⟩ : ByteArray)]) (t := 29) ?hr ?_; (case hd => rfl); (case hg => rfl); (case hr => first | (go_simp; done) | (go_simp; rfl)); intro gb129 hg w12 hbox hb; have n0_ := Aside0.mk (Kd.S_below (Kd.S_elderB (by (with_reducible repeat (first | apply Kd.S_alloc | apply Kd.S_drewN | apply Kd.S_drew)); exact HO_2.out) gb129 (Nat.le_of_eq hg.symm)) hb); have n1_ := Aside0.mk (Kd.R_below (by (with_reducible repeat (first | apply Kd.R_alloc | apply Kd.R_drewN | apply Kd.R_drew)); exact HO126.out) hb); have n2_ := Aside0.mk (below_step (by repeat (first | (with_reducible first | exact HB.out | apply below_alloc | apply pw_below_drewN | apply below_drew1) | exact HB.out)) hb); have n3_ := Aside0.mk (hbox); have n4_ := Aside0.mk ((by rw [hg]; exact (below_size (by repeat (first | (with_reducible first | exact HB.out | apply below_alloc | apply pw_below_drewN | apply below_drew1) | exact HB.out))) : w.heap.size ≤ gb129)); have n5_ := Aside0.mk ((by rw [hg]; exact (below_size (by repeat (first | (with_reducible first | exact HB.out | apply below_alloc | apply pw_below_drewN | apply below_drew1) | exact HB.out))) : w.heap.size ≤ gb129)); clear HO_2; clear HO126; clear HB; have HO_2 := n0_; have HO126 := n1_; have HB := n2_; have BK129 := n3_; have GW129 := n4_; have GE129 := n5_; clear n0_ n1_ n2_ n3_ n4_ n5_; clear hb hbox hg; have hcz13_0 : w12.cell? ⟨gb129, 0, none⟩ = some (.int .i64 0) := (blk_cell BK129.out 0).trans rfl; have hcz13_1 : w12.cell? ⟨gb129, 1, none⟩ = some (.slice none 0 0) := (blk_cell BK129.out 1).trans rfl; have hcz13_2 : w12.cell? ⟨gb129, 2, none⟩ = some (.string (⟨#[]⟩ : ByteArray)) := (blk_cell BK129.out 2).trans rfl; have hfz13_0 := blk_frozen BK129.out 0; have hfz13_1 := blk_frozen BK129.out 1; have hfz13_2 := blk_frozen BK129.out 2; obtain ⟨Ao14, co14, eo14⟩ := Kd.R_slice HO126.out; subst eo14) | ((with_reducible refine gate_store (t := 29) (p := 4) rfl ?_); refine store_event (t := 29) (p := 4) (v := ?vo_w15) (w1 := (((w12.setCell ⟨gb129, 0, none⟩ (.int .i64 t123)).setCell ⟨gb129, 1, none⟩ (.slice Ao14 t124.length co14)).setCell ⟨gb129, 2, none⟩ (.string t127))) ?hg ?ho ?hn ?hr ?_; (case ho => rfl); (case hg => rfl); (case hn => rfl); (case hr => first | (go_simp; done) | (go_simp; rfl)); intro w15 hw; have n0_ : Aside0 (Kd.S k29 29 w15 w.heap.size (fun k_ => some k_ ≠ (.slice Ao14 t124.length co14 : Value).ownBlock ∧ k_ ≠ gb129) u2 x2_1) := ⟨(by rw [hw]; exact (by (with_reducible repeat (first | apply Kd.S_alloc | apply Kd.S_drewN | apply Kd.S_drew)); exact Kd.S_mono (Kd.S_far (p := ⟨gb129, 2, none⟩) (Kd.S_far (p := ⟨gb129, 1, none⟩) (Kd.S_far (p := ⟨gb129, 0, none⟩) (Kd.S_mono HO_2.out (fun k_ hk => (⟨hk, hk.2⟩ : _ ∧ k_ ≠ gb129))) (fun _ hk => hk.2) (.int .i64 t123)) (fun _ hk => hk.2) (.slice Ao14 t124.length co14)) (fun _ hk => hk.2) (.string t127)) (fun _ hk => ⟨hk.1.1.2, hk.1.2⟩)))⟩; have n1_ : Aside0 (Kd.R (Kd.int .i64) 3 w15 w.heap.size (fun _ => True) (.slice Ao14 t124.length co14) t124) := ⟨(by rw [hw]; exact (by (with_reducible repeat (first | apply Kd.R_alloc | apply Kd.R_drewN | apply Kd.R_drew)); exact Kd.R_mono (Kd.R_far (p := ⟨gb129, 2, none⟩) (Kd.R_far (p := ⟨gb129, 1, none⟩) (Kd.R_far (p := ⟨gb129, 0, none⟩) (Kd.R_types HO126.out BK129.out (by decide)) (fun _ hk => hk.2) (.int .i64 t123)) (fun _ hk => hk.2) (.slice Ao14 t124.length co14)) (fun _ hk => hk.2) (.string t127)) (fun _ hk => trivial)))⟩; have n2_ : Aside0 (w15.heap[gb129]? = some (.cells #[.int .i64 t123, .slice Ao14 t124.length co14, .string t127] 29 (0, 0))) := ⟨(by rw [hw]; exact (by (with_reducible repeat (first | refine blk_drewN ?_ _ | refine blk_drew ?_ | refine blk_alloc ?_ _)); refine blk_put (cs := #[.int .i64 t123, .slice Ao14 t124.length co14, .string (⟨#[]⟩ : ByteArray)]) ?_ 2 _ rfl; (with_reducible repeat (first | refine blk_drewN ?_ _ | refine blk_drew ?_ | refine blk_alloc ?_ _)); refine blk_put (cs := #[.int .i64 t123, .slice none 0 0, .string (⟨#[]⟩ : ByteArray)]) ?_ 1 _ rfl; (with_reducible repeat (first | refine blk_drewN ?_ _ | refine blk_drew ?_ | refine blk_alloc ?_ _)); refine blk_put (cs := #[.int .i64 0, .slice none 0 0, .string (⟨#[]⟩ : ByteArray)]) ?_ 0 _ rfl; (with_reducible repeat (first | refine blk_drewN ?_ _ | refine blk_drew ?_ | refine blk_alloc ?_ _)); exact BK129.out))⟩; have n3_ : Aside0 (Below w.heap.size w w15) := ⟨(by rw [hw]; exact (by repeat (first | (with_reducible first | exact HB.out | apply below_alloc | apply pw_below_drewN | apply below_drew1 | refine below_set ?_ GE129.out) | exact HB.out)))⟩; clear hw; clear HO_2; clear HO126; clear BK129; clear HB; have HO_2 := n0_; have HO126 := n1_; have BK129 := n2_; have HB := n3_; clear n0_ n1_ n2_ n3_; have hcz16_0 : w15.cell? ⟨gb129, 0, none⟩ = some (.int .i64 t123) := (blk_cell BK129.out 0).trans rfl; have hcz16_1 : w15.cell? ⟨gb129, 1, none⟩ = some (.slice Ao14 t124.length co14) := (blk_cell BK129.out 1).trans rfl; have hcz16_2 : w15.cell? ⟨gb129, 2, none⟩ = some (.string t127) := (blk_cell BK129.out 2).trans rfl; have hfz16_0 := blk_frozen BK129.out 0; have hfz16_1 := blk_frozen BK129.out 1; have hfz16_2 := blk_frozen BK129.out 2) | ((with_reducible refine gate_builtin (b := .append) (xs := #[.tmp 15, .tmp 17]) rfl ?_); at_builtin; refine Kd.S_append k29 (w0 := w) w.heap.size rfl (.tmp 15) (.tmp 17) 22 29 (.agg #[(.int .i64 0), (.slice none 0 0), (.string ⟨#[]⟩)]) 48 rfl Try.underlying22 info29 rfl (by decide) (by omega) u2 x2_1 (⟨t123, t124, t127⟩ : S29) [.int .i64 t123, .slice Ao14 t124.length co14, .string t127] (fun k_ => k_ ≠ gb129) (fun k_ => some k_ = (.slice Ao14 t124.length co14 : Value).ownBlock) rfl rfl ?aP (fun k_ hk_ => ((Kd.R_mono (ok' := fun k_ => ((fun k_ => k_ ≠ gb129)) k_ ∧ some k_ ≠ (u2 : Value).ownBlock) (Kd.R_types (Kd.R_apart' (HO126.out) (Kd.S_typed HO_2.out) (by decide)) BK129.out (by decide)) (fun k_ hk => ⟨hk.2, hk.1.2⟩))).1 k_ hk_.symm) ?aF ?aO ?aB ?aS ?aL ?_; (case aP => exact k29_mkM _ _ _ (⟨t123, t124, t127⟩ : S29) (Kd.R_mono (Kd.R_tight rfl (Kd.R_mono (ok' := fun k_ => ((fun k_ => k_ ≠ gb129)) k_ ∧ some k_ ≠ (u2 : Value).ownBlock) (Kd.R_types (Kd.R_apart' (HO126.out) (Kd.S_typed HO_2.out) (by decide)) BK129.out (by decide)) (fun k_ hk => ⟨hk.2, hk.1.2⟩))) (fun _ h_ => h_))); (case aB => exact (by repeat (first | (with_reducible first | exact HB.out | apply below_alloc | apply pw_below_drewN | apply below_drew1 | refine below_set ?_ GE129.out) | exact HB.out))); (case aF => exact (fun k_ hk => Kd.freshB (g := gb129) (o := .cells #[.int .i64 t123, .slice Ao14 t124.length co14, .string t127] 29 (0, 0)) (by (with_reducible repeat (first | refine blk_drewN ?_ _ | refine blk_drew ?_ | refine blk_alloc ?_ _)); exact BK129.out) k_ hk)); (case aO => exact (by (with_reducible repeat (first | apply Kd.S_alloc | apply Kd.S_drewN | apply Kd.S_drew)); exact Kd.S_mono HO_2.out (fun k_ hk => ⟨hk.2, fun e_ => hk.1 e_⟩))); (case aS => exact (below_size (by repeat (first | (with_reducible first | exact HB.out | apply below_alloc | apply pw_below_drewN | apply below_drew1 | refine below_set ?_ GE129.out) | exact HB.out)))); (case aL => have := LMc10.out; omega); intro v131 w17 ho hb hg hat; rw [← Ny130.out] at ho; have n0_ := Aside0.mk (blk_grown (g := gb129) (o := .cells #[.int .i64 t123, .slice Ao14 t124.length co14, .string t127] 29 (0, 0)) (by (with_reducible repeat (first | refine blk_drewN ?_ _ | refine blk_drew ?_ | refine blk_alloc ?_ _)); exact BK129.out) hg (Kd.S_away HO_2.out (fun _ hk => hk.2))); have n1_ := Aside0.mk (hb); have n2_ := Aside0.mk (ho); clear BK129; clear HB; clear HO_2; clear HO126; have BK129 := n0_; have HB := n1_; have HO132 := n2_; clear n0_ n1_ n2_; clear ho hb hg hat))
              go_roundg k1
              case measure => have := HK1.out; omega
              case rel => exact ⟨(y130), (wrap64 (x3_1 + t128)), (by first | rfl | (simp; done) | (simp [*]; done)), H', ⟨by have := HK1.out; omega⟩, ⟨by (with_reducible repeat (first | apply Kd.S_alloc | apply Kd.S_drewN | apply Kd.S_drew)); exact Kd.S_mono HO132.out (fun _ hk => trivial)⟩, ⟨by repeat (first | (with_reducible first | exact HB.out | apply below_alloc | apply pw_below_drewN | apply below_drew1 | refine below_set ?_ GE129.out) | exact HB.out)⟩⟩
            · rw [if_neg c10] at H
              exact absurd H (by simp)
        · rw [if_neg c3] at H
          exact absurd H (by simp)
      · rw [if_neg c2] at H
        exact absurd H (by simp)

/-! ### journal_Same: function 17 (by hand: out of slices.EqualFunc) -/
def sameR (x y : S29) : Bool := x.f0 == y.f0 && (x.f2.data.toList == y.f2.data.toList && x.f1 == y.f1)
def sameB : List S29 → List S29 → Bool
  | [], [] => true
  | x :: xs, y :: ys => sameR x y && sameB xs ys
  | _, _ => false
theorem sameB_length (a : List S29) : ∀ b : List S29, a.length ≠ b.length → sameB a b = false := by
  induction a with
  | nil => intro b h; cases b with
    | nil => exact absurd rfl h
    | cons y b => rfl
  | cons x a ih => intro b h; cases b with
    | nil => rfl
    | cons y b => simp only [sameB]; rw [ih b (fun e => h (by simp [e])), Bool.and_false]
theorem ints_tell (x y : List Int) (hl : x.length = y.length) (hm : x.length ≤ 9223372036854775807) (d : Nat) : ∀ (i K : Nat), i ≤ x.length → x.length - i = d → d < K →
    slices_Equal_int_int.l0 K x y (x.length : Int) (i : Int) = some (x.drop i == y.drop i) := by
  induction d with
  | zero =>
    intro i K hi hd hK
    obtain ⟨K, rfl⟩ : ∃ m, K = m + 1 := ⟨K - 1, by omega⟩
    simp only [slices_Equal_int_int.l0]
    rw [if_neg (by omega), List.drop_of_length_le (by omega), List.drop_of_length_le (by omega)]
    rfl
  | succ d ih =>
    intro i K hi hd hK
    obtain ⟨K, rfl⟩ : ∃ m, K = m + 1 := ⟨K - 1, by omega⟩
    have hx : i < x.length := by omega
    have hy : i < y.length := by omega
    have rx : rd x (i : Int) = x[i] := by unfold rd; rw [Int.toNat_natCast, List.getD_eq_getElem?_getD, List.getElem?_eq_getElem hx]; rfl
    have ry : rd y (i : Int) = y[i] := by unfold rd; rw [Int.toNat_natCast, List.getD_eq_getElem?_getD, List.getElem?_eq_getElem hy]; rfl
    simp only [slices_Equal_int_int.l0]
    rw [if_pos (by omega), if_pos (by omega), if_pos (by omega), if_pos (by omega), rx, ry, List.drop_eq_getElem_cons hx, List.drop_eq_getElem_cons hy]
    by_cases e : x[i] = y[i]
    · rw [if_pos e, show wrap64 ((i : Int) + 1) = ((i + 1 : Nat) : Int) from by unfold wrap64; omega, ih (i + 1) K (by omega) (by omega) (by omega), List.cons_beq_cons, beq_iff_eq.mpr e, Bool.true_and]
    · rw [if_neg e, List.cons_beq_cons, beq_eq_false_iff_ne.mpr e, Bool.false_and]
theorem ints_all (x y : List Int) (hm : x.length ≤ 9223372036854775807) (K : Nat) (hK : x.length < K) : slices_Equal_int_int.f K x y = some (x == y) := by
  unfold slices_Equal_int_int.f
  by_cases h : x.length = y.length
  · have := ints_tell x y h hm x.length 0 K (by omega) (by omega) hK
    rw [if_pos (by omega)]
    simpa using this
  · rw [if_neg (by omega)]
    have : ¬ x = y := fun e => h (by rw [e])
    simp [this]
theorem same_one (x y : S29) (hm : x.f1.length ≤ 9223372036854775807) (K : Nat) (hK : x.f1.length < K) : journal_Same_1.f K x.f0 x.f1 x.f2 y.f0 y.f1 y.f2 = some (sameR x y) := by
  unfold journal_Same_1.f sameR
  rw [ints_all x.f1 y.f1 hm K hK]
  simp only [Option.bind_some, ByteArray.toList_eq]
  by_cases h1 : x.f0 = y.f0
  · rw [if_pos h1, beq_iff_eq.mpr h1, Bool.true_and]
    by_cases h2 : x.f2.data.toList = y.f2.data.toList
    · rw [if_pos h2, beq_iff_eq.mpr h2, Bool.true_and]
    · rw [if_neg h2, beq_eq_false_iff_ne.mpr h2, Bool.false_and]
  · rw [if_neg h1, beq_eq_false_iff_ne.mpr h1, Bool.false_and]
theorem func_tells (a b : List S29) (N : Nat) (hl : a.length = b.length) (hm : a.length ≤ 9223372036854775807) (hN : ∀ x ∈ a, x.f1.length ≤ N) (hNm : ∀ x ∈ a, x.f1.length ≤ 9223372036854775807) (d : Nat) : ∀ (i K : Nat), i ≤ a.length → a.length - i = d → N + d + 1 < K →
    slices_EqualFunc.l0 K b a (a.length : Int) (i : Int) = some (sameB (a.drop i) (b.drop i)) := by
  induction d with
  | zero =>
    intro i K hi hd hK
    obtain ⟨K, rfl⟩ : ∃ m, K = m + 1 := ⟨K - 1, by omega⟩
    simp only [slices_EqualFunc.l0]
    rw [if_neg (by omega), List.drop_of_length_le (by omega), List.drop_of_length_le (by omega)]
    rfl
  | succ d ih =>
    intro i K hi hd hK
    obtain ⟨K, rfl⟩ : ∃ m, K = m + 1 := ⟨K - 1, by omega⟩
    have hx : i < a.length := by omega
    have hy : i < b.length := by omega
    have rx : rd_T29 a (i : Int) = a[i] := by unfold rd_T29; rw [Int.toNat_natCast, List.getD_eq_getElem?_getD, List.getElem?_eq_getElem hx]; rfl
    have ry : rd_T29 b (i : Int) = b[i] := by unfold rd_T29; rw [Int.toNat_natCast, List.getD_eq_getElem?_getD, List.getElem?_eq_getElem hy]; rfl
    have h1 := hN _ (List.getElem_mem hx)
    have h2 := hNm _ (List.getElem_mem hx)
    simp only [slices_EqualFunc.l0]
    rw [if_pos (by omega), if_pos (by omega), if_pos (by omega), if_pos (by omega), rx, ry, same_one _ _ h2 K (by omega), List.drop_eq_getElem_cons hx, List.drop_eq_getElem_cons hy]
    simp only [Option.bind_some, sameB]
    cases sameR a[i] b[i] with
    | true => rw [if_pos rfl, show wrap64 ((i : Int) + 1) = ((i + 1 : Nat) : Int) from by unfold wrap64; omega, ih (i + 1) K (by omega) (by omega) (by omega), Bool.true_and]
    | false => rw [if_neg (by decide), Bool.false_and]
theorem bound_of (a : List S29) : ∃ N : Nat, ∀ x ∈ a, x.f1.length ≤ N := by
  induction a with
  | nil => exact ⟨0, fun x hx => by cases hx⟩
  | cons y a ih =>
    obtain ⟨N, h⟩ := ih
    refine ⟨N + y.f1.length, fun x hx => ?_⟩
    rcases List.mem_cons.mp hx with rfl | hx
    · omega
    · have := h x hx; omega
theorem func_all (a b : List S29) (hm : a.length ≤ 9223372036854775807) (hNm : ∀ x ∈ a, x.f1.length ≤ 9223372036854775807) : ∃ K, slices_EqualFunc.f K a b = some (sameB a b) := by
  obtain ⟨N, hN⟩ := bound_of a
  refine ⟨N + a.length + 2, ?_⟩
  unfold slices_EqualFunc.f
  by_cases h : a.length = b.length
  · have := func_tells a b N h hm hN hNm a.length 0 (N + a.length + 2) (by omega) (by omega) (by omega)
    rw [if_pos (by omega)]
    exact this
  · rw [if_neg (by omega), sameB_length a b h]
def journal_Same.f (l0 : List (S29)) (l1 : List (S29)) : Option (Bool) := if l0.length ≤ 9223372036854775807 ∧ ∀ x ∈ l0, x.f1.length ≤ 9223372036854775807 then some (sameB l0 l1) else none
set_option maxHeartbeats 800000 in
set_option maxRecDepth 100000 in
theorem journal_Same.calls (A0 : Option Addr) (c0 : Nat) (l0 : List (S29)) (A1 : Option Addr) (c1 : Nat) (l1 : List (S29)) (r : Bool) (w : World) (hr0 : Kd.C k29 w A0 l0.length l0) (hc0 : l0.length ≤ c0) (hr1 : Kd.C k29 w A1 l1.length l1) (hc1 : l1.length ≤ c1) (h : journal_Same.f l0 l1 = some r) :
    Calls Try.prog 17 #[.slice A0 l0.length c0, .slice A1 l1.length c1] w fun e w' => e = .returned (.bool r) ∧ Below w.heap.size w w' := by
  unfold journal_Same.f at h
  by_cases hs : l0.length ≤ 9223372036854775807 ∧ ∀ x ∈ l0, x.f1.length ≤ 9223372036854775807
  · rw [if_pos hs] at h
    obtain rfl := Option.some.inj h
    clear h
    obtain ⟨K, hK⟩ := func_all l0 l1 hs.1 hs.2
    have HK := Aside0.mk hK
    have HR0 := Aside0.mk hr0
    have HR1 := Aside0.mk hr1
    have HC0 := Aside0.mk hc0
    have HC1 := Aside0.mk hc1
    clear hK hr0 hr1 hc0 hc1 hs
    go_enter Try.func17, Try.ntmps17
    go_wp2_with (go_at_call 25; refine (slices_EqualFunc.calls K A0 c0 l0 A1 c1 l1 _ _ HR0.out HC0.out HR1.out HC1.out HK.out).mono ?_; rintro e w' ⟨rfl, hb⟩)
    go_ret
    exact ⟨rfl, hb⟩
  · rw [if_neg hs] at h
    exact absurd h (by simp)

/-! ### humpyardlaw15_awake: function 9 -/
def humpyardlaw15_awake.f (k : Nat)  : Option (Bool) := (journal_Lay.f 7 ([] : List Int) (⟨#[97]⟩ : ByteArray)).bind fun bt133 => (if bt133.1.size + 1 ≤ 9223372036854775807 then ((journal_Read.f k (bt133.1 ++ (⟨#[120]⟩ : ByteArray))).bind fun bt135 => ((journal_Lay.f 256 ([] : List Int) (⟨#[]⟩ : ByteArray)).bind fun bt139 => (if bt133.2 = 0 then (if (bt133.1.size : Int) = 11 then (if 0 ≤ 7 then (if 7 ≤ (bt133.1.size : Int) then (if (bt133.1.extract 0 7).toList = ([0, 0, 0, 3, 7, 0, 97] : List UInt8) then ((journal_Same.f bt135.1 (([(⟨7, ([] : List Int), (⟨#[97]⟩ : ByteArray)⟩ : S29)] : List (S29)))).bind fun t144 => (if t144 = true then (if bt135.2 = 11 then (some (bt139.2 == 1)) else (some false)) else (some false))) else (some false)) else (none)) else (none)) else (some false)) else (some false)))) else (none))
theorem humpyardlaw15_awake.mono : ∀ k, LeO (humpyardlaw15_awake.f k ) (humpyardlaw15_awake.f (k + 1) ) := by
  intro  k
  unfold humpyardlaw15_awake.f
  repeat' first
      | (with_reducible exact journal_Read.mono _ _)
      | (with_reducible exact LeO.refl _)
      | (with_reducible exact LeO.none _)
      | (with_reducible refine LeO.ite ?_ ?_)
      | (with_reducible refine LeO.bind ?_ (fun _ => ?_))
      | exact journal_Read.mono _ _
      | exact LeO.none _
      | refine LeO.ite ?_ ?_
      | refine LeO.bind ?_ (fun _ => ?_)
set_option maxHeartbeats 8000000 in
set_option maxRecDepth 100000 in
theorem humpyardlaw15_awake.calls (k : Nat)  (r : Bool) (w : World) (h : humpyardlaw15_awake.f k  = some r) :
    Calls Try.prog 9 #[] w fun e w' => e = .returned (.bool r) ∧ Below w.heap.size w w' := by
  have hu29 := Try.underlying29
  have HB := Aside0.mk (Below.refl w.heap.size w)
  have H : ((journal_Lay.f 7 ([] : List Int) (⟨#[97]⟩ : ByteArray)).bind fun bt133 => (if bt133.1.size + 1 ≤ 9223372036854775807 then ((journal_Read.f k (bt133.1 ++ (⟨#[120]⟩ : ByteArray))).bind fun bt135 => ((journal_Lay.f 256 ([] : List Int) (⟨#[]⟩ : ByteArray)).bind fun bt139 => (if bt133.2 = 0 then (if (bt133.1.size : Int) = 11 then (if 0 ≤ 7 then (if 7 ≤ (bt133.1.size : Int) then (if (bt133.1.extract 0 7).toList = ([0, 0, 0, 3, 7, 0, 97] : List UInt8) then ((journal_Same.f bt135.1 (([(⟨7, ([] : List Int), (⟨#[97]⟩ : ByteArray)⟩ : S29)] : List (S29)))).bind fun t144 => (if t144 = true then (if bt135.2 = 11 then (some (bt139.2 == 1)) else (some false)) else (some false))) else (some false)) else (none)) else (none)) else (some false)) else (some false)))) else (none))) = some r := h
  clear h
  replace H := Option.bind_eq_some_iff.mp H
  obtain ⟨⟨t133, t134⟩, A10, H⟩ := H
  replace H : (if t133.size + 1 ≤ 9223372036854775807 then ((journal_Read.f k (t133 ++ (⟨#[120]⟩ : ByteArray))).bind fun bt135 => ((journal_Lay.f 256 ([] : List Int) (⟨#[]⟩ : ByteArray)).bind fun bt139 => (if t134 = 0 then (if (t133.size : Int) = 11 then (if 0 ≤ 7 then (if 7 ≤ (t133.size : Int) then (if (t133.extract 0 7).toList = ([0, 0, 0, 3, 7, 0, 97] : List UInt8) then ((journal_Same.f bt135.1 (([(⟨7, ([] : List Int), (⟨#[97]⟩ : ByteArray)⟩ : S29)] : List (S29)))).bind fun t144 => (if t144 = true then (if bt135.2 = 11 then (some (bt139.2 == 1)) else (some false)) else (some false))) else (some false)) else (none)) else (none)) else (some false)) else (some false)))) else (none)) = some r := H
  have A1 := Aside0.mk A10
  clear A10
  by_cases c2 : t133.size + 1 ≤ 9223372036854775807
  · rw [if_pos c2] at H
    have c2b0 := eq_true c2
    have c2b1 : decide (t133.size + 1 ≤ 9223372036854775807) = true := decide_eq_true c2
    try have c2b2 : (9223372036854775807 < t133.size + 1) = False := eq_false (Nat.not_lt.2 c2)
    replace H := Option.bind_eq_some_iff.mp H
    obtain ⟨⟨t135, t136⟩, A30, H⟩ := H
    replace H : ((journal_Lay.f 256 ([] : List Int) (⟨#[]⟩ : ByteArray)).bind fun bt139 => (if t134 = 0 then (if (t133.size : Int) = 11 then (if 0 ≤ 7 then (if 7 ≤ (t133.size : Int) then (if (t133.extract 0 7).toList = ([0, 0, 0, 3, 7, 0, 97] : List UInt8) then ((journal_Same.f t135 (([(⟨7, ([] : List Int), (⟨#[97]⟩ : ByteArray)⟩ : S29)] : List (S29)))).bind fun t144 => (if t144 = true then (if t136 = 11 then (some (bt139.2 == 1)) else (some false)) else (some false))) else (some false)) else (none)) else (none)) else (some false)) else (some false))) = some r := H
    have A3 := Aside0.mk A30
    clear A30
    replace H := Option.bind_eq_some_iff.mp H
    obtain ⟨⟨t139, t140⟩, A40, H⟩ := H
    replace H : (if t134 = 0 then (if (t133.size : Int) = 11 then (if 0 ≤ 7 then (if 7 ≤ (t133.size : Int) then (if (t133.extract 0 7).toList = ([0, 0, 0, 3, 7, 0, 97] : List UInt8) then ((journal_Same.f t135 (([(⟨7, ([] : List Int), (⟨#[97]⟩ : ByteArray)⟩ : S29)] : List (S29)))).bind fun t144 => (if t144 = true then (if t136 = 11 then (some (t140 == 1)) else (some false)) else (some false))) else (some false)) else (none)) else (none)) else (some false)) else (some false)) = some r := H
    have A4 := Aside0.mk A40
    clear A40
    by_cases c5 : t134 = 0
    · rw [if_pos c5] at H
      have c5b0 : (t134 == 0) = true := beq_iff_eq.mpr c5
      have c5b1 : (t134 != 0) = false := bne_eq_false_iff_eq.mpr c5
      clear c5
      by_cases c6 : (t133.size : Int) = 11
      · rw [if_pos c6] at H
        have c6b0 : ((t133.size : Int) == 11) = true := beq_iff_eq.mpr c6
        have c6b1 : ((t133.size : Int) != 11) = false := bne_eq_false_iff_eq.mpr c6
        clear c6
        by_cases c7 : 0 ≤ 7
        · rw [if_pos c7] at H
          have c7b0 := eq_true c7
          have c7b1 : decide (0 ≤ 7) = true := decide_eq_true c7
          clear c7
          by_cases c8 : 7 ≤ (t133.size : Int)
          · rw [if_pos c8] at H
            have c8b0 := eq_true c8
            have c8b1 : decide (7 ≤ (t133.size : Int)) = true := decide_eq_true c8
            clear c8
            by_cases c9 : (t133.extract 0 7).toList = ([0, 0, 0, 3, 7, 0, 97] : List UInt8)
            · rw [if_pos c9] at H
              have c9b0 : ((t133.extract 0 7).toList == ([0, 0, 0, 3, 7, 0, 97] : List UInt8)) = true := beq_iff_eq.mpr c9
              have c9b1 : ((t133.extract 0 7).toList != ([0, 0, 0, 3, 7, 0, 97] : List UInt8)) = false := bne_eq_false_iff_eq.mpr c9
              clear c9
              obtain ⟨y141, hy141⟩ : ∃ y_ : List (S29), y_ = (([(⟨7, ([] : List Int), (⟨#[97]⟩ : ByteArray)⟩ : S29)] : List (S29))) := ⟨_, rfl⟩
              replace H : ((journal_Same.f t135 y141).bind fun t144 => (if t144 = true then (if t136 = 11 then (some (t140 == 1)) else (some false)) else (some false))) = some r := by first | (rw [hy141]; with_reducible exact H) | (have H2_ := (Option.bind_some _ _).symm.trans H; rw [hy141]; with_reducible exact H2_) | (have H2_ := (Option.bind_some _ _).symm.trans H; with_reducible exact H2_) | with_reducible exact H | (rw [hy141]; exact H) | exact H
              have Ny141 := Aside0.mk hy141
              clear hy141
              replace H := Option.bind_eq_some_iff.mp H
              obtain ⟨t144, A100, H⟩ := H
              replace H : (if t144 = true then (if t136 = 11 then (some (t140 == 1)) else (some false)) else (some false)) = some r := H
              have A10 := Aside0.mk A100
              clear A100
              by_cases c11 : t144 = true
              · subst c11
                have H1 : (if t136 = 11 then (some (t140 == 1)) else (some false)) = some r := by rw [if_pos rfl] at H; exact H
                clear H
                have H := H1
                clear H1
                by_cases c12 : t136 = 11
                · rw [if_pos c12] at H
                  have c12b0 : (t136 == 11) = true := beq_iff_eq.mpr c12
                  have c12b1 : (t136 != 11) = false := bne_eq_false_iff_eq.mpr c12
                  clear c12
                  obtain rfl := Option.some.inj H
                  go_enter Try.func9, Try.ntmps9
                  go_wp2_with (first | ((with_reducible refine gate_callee (f := 10) rfl ?_); refine goesL_ (some 9) rfl rfl Try.func10 (by kernel_rfl) rfl #[.agg #[.int .i64 7, .slice none 0 0, .string (⟨#[97]⟩ : ByteArray)]] rfl (by (try simp only [List.map_toArray, List.map_cons, List.map_nil]); first | done | rfl | (simp only [List.length_drop, List.length_take]; rfl)) ?_; (refine (journal_Lay.calls 7 _ _ ([] : List Int) (⟨#[97]⟩ : ByteArray) t133 t134 _ ?side1 ?side2 A1.out).mono ?_); (case side1 => exact Kd.C_nil _ _); (case side2 => exact Nat.le_refl _); rintro e w13 ⟨rfl, hb⟩; refine ⟨_, rfl, ?_⟩; have n0_ := Aside0.mk (below_step (by repeat (first | (with_reducible first | exact HB.out | apply below_alloc | apply pw_below_drewN | apply below_drew1) | exact HB.out)) hb); clear HB; have HB := n0_; clear n0_; (try clear hb); (try clear hb2); (try clear hk); (try clear hi)) | ((with_reducible refine gate_callee (f := 14) rfl ?_); refine goesL_ (some 15) rfl rfl Try.func14 (by kernel_rfl) rfl #[.string (t133 ++ (⟨#[120]⟩ : ByteArray))] rfl (by (try simp only [List.map_toArray, List.map_cons, List.map_nil]); first | done | rfl | (simp only [List.length_drop, List.length_take]; rfl)) ?_; (with_reducible refine (journal_Read.calls k (t133 ++ (⟨#[120]⟩ : ByteArray)) t135 t136 _ A3.out).mono ?_); rintro e w14 ⟨v137, rfl, ho0, hb⟩; refine ⟨_, rfl, ?_⟩; have n0_ := Aside0.mk (Kd.S_lower ho0 (below_size (by repeat (first | (with_reducible first | exact HB.out | apply below_alloc | apply pw_below_drewN | apply below_drew1) | exact HB.out)))); have n1_ := Aside0.mk (below_step (by repeat (first | (with_reducible first | exact HB.out | apply below_alloc | apply pw_below_drewN | apply below_drew1) | exact HB.out)) hb); clear HB; have HO138 := n0_; have HB := n1_; clear n0_ n1_; (try clear hb); (try clear hb2); (try clear hk); (try clear hi); (try clear ho0)) | ((with_reducible refine gate_callee (f := 10) rfl ?_); refine goesL_ (some 20) rfl rfl Try.func10 (by kernel_rfl) rfl #[.agg #[.int .i64 256, .slice none 0 0, .string (⟨#[]⟩ : ByteArray)]] rfl (by (try simp only [List.map_toArray, List.map_cons, List.map_nil]); first | done | rfl | (simp only [List.length_drop, List.length_take]; rfl)) ?_; (refine (journal_Lay.calls 256 _ _ ([] : List Int) (⟨#[]⟩ : ByteArray) t139 t140 _ ?side1 ?side2 A4.out).mono ?_); (case side1 => exact Kd.C_nil _ _); (case side2 => exact Nat.le_refl _); rintro e w15 ⟨rfl, hb⟩; refine ⟨_, rfl, ?_⟩; have n0_ := Aside0.mk (Kd.S_below (by (with_reducible repeat (first | apply Kd.S_alloc | apply Kd.S_drewN | apply Kd.S_drew)); exact HO138.out) hb); have n1_ := Aside0.mk (below_step (by repeat (first | (with_reducible first | exact HB.out | apply below_alloc | apply pw_below_drewN | apply below_drew1) | exact HB.out)) hb); clear HO138; clear HB; have HO138 := n0_; have HB := n1_; clear n0_ n1_; (try clear hb); (try clear hb2); (try clear hk); (try clear hi)) | ((with_reducible refine gate_dst (N := 38) rfl ?_); (try (refine gate_guard (by rfl) ?_; dsimp only)); refine Kd.S_lit k29 _ 29 ?hg (N := 38) ?hd (xs := ([(⟨7, ([] : List Int), (⟨#[97]⟩ : ByteArray)⟩ : S29)] : List (S29))) (inner := [.int .i64 7, .slice none 0 0, .string (⟨#[97]⟩ : ByteArray)]) (ok := fun _ => True) (okp := fun _ => True) ?hr ?hp (fun _ hk => hk) trivial (Below.refl _ _) (Nat.le_refl _) (by simp) ?_; (case hd => rfl); (case hg => rfl); (case hr => first | (go_simp; done) | (go_simp; rfl)); (case hp => exact (Reps.c3 (show Kd.M k29 _ _ _ (⟨7, ([] : List Int), (⟨#[97]⟩ : ByteArray)⟩ : S29) [.int .i64 7, .slice none 0 0, .string (⟨#[97]⟩ : ByteArray)] from (k29_mkM _ _ _ (⟨7, ([] : List Int), (⟨#[97]⟩ : ByteArray)⟩ : S29) (Kd.R_nil _ _ _ _ _))) (Reps.none _ _))); intro v142 w16 ho17 hb hg_ hnew_; clear hg_ hnew_; (first | rw [← Ny141.out] at ho17 | (simp only [Int.reduceToNat] at ho17; rw [← Ny141.out] at ho17)); have n0_ := Aside0.mk (Kd.S_elder' (by (with_reducible repeat (first | apply Kd.S_alloc | apply Kd.S_drewN | apply Kd.S_drew)); exact HO138.out) (Kd.S_base ho17) hb); have n1_ := Aside0.mk (Kd.S_lower (Kd.S_new' ho17 (Kd.S_lt (by (with_reducible repeat (first | apply Kd.S_alloc | apply Kd.S_drewN | apply Kd.S_drew)); exact HO138.out))) (below_size (by repeat (first | (with_reducible first | exact HB.out | apply below_alloc | apply pw_below_drewN | apply below_drew1) | exact HB.out)))); have n2_ := Aside0.mk (below_step (by repeat (first | (with_reducible first | exact HB.out | apply below_alloc | apply pw_below_drewN | apply below_drew1) | exact HB.out)) hb); clear HO138; clear HB; have HO138 := n0_; have HO143 := n1_; have HB := n2_; clear n0_ n1_ n2_; clear hb ho17; obtain ⟨Ao18, co18, eo18⟩ := Kd.S_slice HO138.out; subst eo18; obtain ⟨Ao19, co19, eo19⟩ := Kd.S_slice HO143.out; subst eo19) | (go_at_call 17; (with_reducible refine (journal_Same.calls _ _ t135 _ _ y141 true _ ?side1 ?side2 ?side3 ?side4 A10.out).mono ?_); (case side1 => repeat (first | exact (Kd.S_reads' HO138.out).2.2 | (with_reducible refine Kd.C_alloc ?_ _) | (with_reducible refine Kd.C_drewN ?_ _) | (with_reducible refine Kd.C_drew ?_))); (case side2 => exact (Kd.S_reads' HO138.out).2.1); (case side3 => repeat (first | exact (Kd.S_reads' HO143.out).2.2 | (with_reducible refine Kd.C_alloc ?_ _) | (with_reducible refine Kd.C_drewN ?_ _) | (with_reducible refine Kd.C_drew ?_))); (case side4 => exact (Kd.S_reads' HO143.out).2.1); rintro e w20 ⟨rfl, hb⟩; have n0_ := Aside0.mk (Kd.S_below (by (with_reducible repeat (first | apply Kd.S_alloc | apply Kd.S_drewN | apply Kd.S_drew)); exact HO138.out) hb); have n1_ := Aside0.mk (Kd.S_below (by (with_reducible repeat (first | apply Kd.S_alloc | apply Kd.S_drewN | apply Kd.S_drew)); exact HO143.out) hb); have n2_ := Aside0.mk (below_step (by repeat (first | (with_reducible first | exact HB.out | apply below_alloc | apply pw_below_drewN | apply below_drew1) | exact HB.out)) hb); clear HO138; clear HO143; clear HB; have HO138 := n0_; have HO143 := n1_; have HB := n2_; clear n0_ n1_ n2_; (try clear hb); (try clear hb2); (try clear hk); (try clear hi)))
                  go_ret
                  exact ⟨by first | rfl | (simp [errW_none, errW_some] <;> rfl) | (simp [*, errW_none, errW_some] <;> rfl), by repeat (first | (with_reducible first | exact HB.out | apply below_alloc | apply pw_below_drewN | apply below_drew1) | exact HB.out)⟩
                · rw [if_neg c12] at H
                  have c12b0 : (t136 == 11) = false := beq_eq_false_iff_ne.mpr c12
                  have c12b1 : (t136 != 11) = true := bne_iff_ne.mpr c12
                  obtain rfl := Option.some.inj H
                  go_enter Try.func9, Try.ntmps9
                  go_wp2_with (first | ((with_reducible refine gate_callee (f := 10) rfl ?_); refine goesL_ (some 9) rfl rfl Try.func10 (by kernel_rfl) rfl #[.agg #[.int .i64 7, .slice none 0 0, .string (⟨#[97]⟩ : ByteArray)]] rfl (by (try simp only [List.map_toArray, List.map_cons, List.map_nil]); first | done | rfl | (simp only [List.length_drop, List.length_take]; rfl)) ?_; (refine (journal_Lay.calls 7 _ _ ([] : List Int) (⟨#[97]⟩ : ByteArray) t133 t134 _ ?side1 ?side2 A1.out).mono ?_); (case side1 => exact Kd.C_nil _ _); (case side2 => exact Nat.le_refl _); rintro e w21 ⟨rfl, hb⟩; refine ⟨_, rfl, ?_⟩; have n0_ := Aside0.mk (below_step (by repeat (first | (with_reducible first | exact HB.out | apply below_alloc | apply pw_below_drewN | apply below_drew1) | exact HB.out)) hb); clear HB; have HB := n0_; clear n0_; (try clear hb); (try clear hb2); (try clear hk); (try clear hi)) | ((with_reducible refine gate_callee (f := 14) rfl ?_); refine goesL_ (some 15) rfl rfl Try.func14 (by kernel_rfl) rfl #[.string (t133 ++ (⟨#[120]⟩ : ByteArray))] rfl (by (try simp only [List.map_toArray, List.map_cons, List.map_nil]); first | done | rfl | (simp only [List.length_drop, List.length_take]; rfl)) ?_; (with_reducible refine (journal_Read.calls k (t133 ++ (⟨#[120]⟩ : ByteArray)) t135 t136 _ A3.out).mono ?_); rintro e w22 ⟨v137, rfl, ho0, hb⟩; refine ⟨_, rfl, ?_⟩; have n0_ := Aside0.mk (Kd.S_lower ho0 (below_size (by repeat (first | (with_reducible first | exact HB.out | apply below_alloc | apply pw_below_drewN | apply below_drew1) | exact HB.out)))); have n1_ := Aside0.mk (below_step (by repeat (first | (with_reducible first | exact HB.out | apply below_alloc | apply pw_below_drewN | apply below_drew1) | exact HB.out)) hb); clear HB; have HO138 := n0_; have HB := n1_; clear n0_ n1_; (try clear hb); (try clear hb2); (try clear hk); (try clear hi); (try clear ho0)) | ((with_reducible refine gate_callee (f := 10) rfl ?_); refine goesL_ (some 20) rfl rfl Try.func10 (by kernel_rfl) rfl #[.agg #[.int .i64 256, .slice none 0 0, .string (⟨#[]⟩ : ByteArray)]] rfl (by (try simp only [List.map_toArray, List.map_cons, List.map_nil]); first | done | rfl | (simp only [List.length_drop, List.length_take]; rfl)) ?_; (refine (journal_Lay.calls 256 _ _ ([] : List Int) (⟨#[]⟩ : ByteArray) t139 t140 _ ?side1 ?side2 A4.out).mono ?_); (case side1 => exact Kd.C_nil _ _); (case side2 => exact Nat.le_refl _); rintro e w23 ⟨rfl, hb⟩; refine ⟨_, rfl, ?_⟩; have n0_ := Aside0.mk (Kd.S_below (by (with_reducible repeat (first | apply Kd.S_alloc | apply Kd.S_drewN | apply Kd.S_drew)); exact HO138.out) hb); have n1_ := Aside0.mk (below_step (by repeat (first | (with_reducible first | exact HB.out | apply below_alloc | apply pw_below_drewN | apply below_drew1) | exact HB.out)) hb); clear HO138; clear HB; have HO138 := n0_; have HB := n1_; clear n0_ n1_; (try clear hb); (try clear hb2); (try clear hk); (try clear hi)) | ((with_reducible refine gate_dst (N := 38) rfl ?_); (try (refine gate_guard (by rfl) ?_; dsimp only)); refine Kd.S_lit k29 _ 29 ?hg (N := 38) ?hd (xs := ([(⟨7, ([] : List Int), (⟨#[97]⟩ : ByteArray)⟩ : S29)] : List (S29))) (inner := [.int .i64 7, .slice none 0 0, .string (⟨#[97]⟩ : ByteArray)]) (ok := fun _ => True) (okp := fun _ => True) ?hr ?hp (fun _ hk => hk) trivial (Below.refl _ _) (Nat.le_refl _) (by simp) ?_; (case hd => rfl); (case hg => rfl); (case hr => first | (go_simp; done) | (go_simp; rfl)); (case hp => exact (Reps.c3 (show Kd.M k29 _ _ _ (⟨7, ([] : List Int), (⟨#[97]⟩ : ByteArray)⟩ : S29) [.int .i64 7, .slice none 0 0, .string (⟨#[97]⟩ : ByteArray)] from (k29_mkM _ _ _ (⟨7, ([] : List Int), (⟨#[97]⟩ : ByteArray)⟩ : S29) (Kd.R_nil _ _ _ _ _))) (Reps.none _ _))); intro v142 w24 ho25 hb hg_ hnew_; clear hg_ hnew_; (first | rw [← Ny141.out] at ho25 | (simp only [Int.reduceToNat] at ho25; rw [← Ny141.out] at ho25)); have n0_ := Aside0.mk (Kd.S_elder' (by (with_reducible repeat (first | apply Kd.S_alloc | apply Kd.S_drewN | apply Kd.S_drew)); exact HO138.out) (Kd.S_base ho25) hb); have n1_ := Aside0.mk (Kd.S_lower (Kd.S_new' ho25 (Kd.S_lt (by (with_reducible repeat (first | apply Kd.S_alloc | apply Kd.S_drewN | apply Kd.S_drew)); exact HO138.out))) (below_size (by repeat (first | (with_reducible first | exact HB.out | apply below_alloc | apply pw_below_drewN | apply below_drew1) | exact HB.out)))); have n2_ := Aside0.mk (below_step (by repeat (first | (with_reducible first | exact HB.out | apply below_alloc | apply pw_below_drewN | apply below_drew1) | exact HB.out)) hb); clear HO138; clear HB; have HO138 := n0_; have HO143 := n1_; have HB := n2_; clear n0_ n1_ n2_; clear hb ho25; obtain ⟨Ao26, co26, eo26⟩ := Kd.S_slice HO138.out; subst eo26; obtain ⟨Ao27, co27, eo27⟩ := Kd.S_slice HO143.out; subst eo27) | (go_at_call 17; (with_reducible refine (journal_Same.calls _ _ t135 _ _ y141 true _ ?side1 ?side2 ?side3 ?side4 A10.out).mono ?_); (case side1 => repeat (first | exact (Kd.S_reads' HO138.out).2.2 | (with_reducible refine Kd.C_alloc ?_ _) | (with_reducible refine Kd.C_drewN ?_ _) | (with_reducible refine Kd.C_drew ?_))); (case side2 => exact (Kd.S_reads' HO138.out).2.1); (case side3 => repeat (first | exact (Kd.S_reads' HO143.out).2.2 | (with_reducible refine Kd.C_alloc ?_ _) | (with_reducible refine Kd.C_drewN ?_ _) | (with_reducible refine Kd.C_drew ?_))); (case side4 => exact (Kd.S_reads' HO143.out).2.1); rintro e w28 ⟨rfl, hb⟩; have n0_ := Aside0.mk (Kd.S_below (by (with_reducible repeat (first | apply Kd.S_alloc | apply Kd.S_drewN | apply Kd.S_drew)); exact HO138.out) hb); have n1_ := Aside0.mk (Kd.S_below (by (with_reducible repeat (first | apply Kd.S_alloc | apply Kd.S_drewN | apply Kd.S_drew)); exact HO143.out) hb); have n2_ := Aside0.mk (below_step (by repeat (first | (with_reducible first | exact HB.out | apply below_alloc | apply pw_below_drewN | apply below_drew1) | exact HB.out)) hb); clear HO138; clear HO143; clear HB; have HO138 := n0_; have HO143 := n1_; have HB := n2_; clear n0_ n1_ n2_; (try clear hb); (try clear hb2); (try clear hk); (try clear hi)))
                  go_ret
                  exact ⟨by first | rfl | (simp [errW_none, errW_some] <;> rfl) | (simp [*, errW_none, errW_some] <;> rfl), by repeat (first | (with_reducible first | exact HB.out | apply below_alloc | apply pw_below_drewN | apply below_drew1) | exact HB.out)⟩
              · replace c11 := Bool.eq_false_iff.mpr c11
                subst c11
                have H1 : (some false) = some r := by rw [if_neg (show ¬ (false = true) by decide)] at H; exact H
                clear H
                have H := H1
                clear H1
                obtain rfl := Option.some.inj H
                go_enter Try.func9, Try.ntmps9
                go_wp2_with (first | ((with_reducible refine gate_callee (f := 10) rfl ?_); refine goesL_ (some 9) rfl rfl Try.func10 (by kernel_rfl) rfl #[.agg #[.int .i64 7, .slice none 0 0, .string (⟨#[97]⟩ : ByteArray)]] rfl (by (try simp only [List.map_toArray, List.map_cons, List.map_nil]); first | done | rfl | (simp only [List.length_drop, List.length_take]; rfl)) ?_; (refine (journal_Lay.calls 7 _ _ ([] : List Int) (⟨#[97]⟩ : ByteArray) t133 t134 _ ?side1 ?side2 A1.out).mono ?_); (case side1 => exact Kd.C_nil _ _); (case side2 => exact Nat.le_refl _); rintro e w29 ⟨rfl, hb⟩; refine ⟨_, rfl, ?_⟩; have n0_ := Aside0.mk (below_step (by repeat (first | (with_reducible first | exact HB.out | apply below_alloc | apply pw_below_drewN | apply below_drew1) | exact HB.out)) hb); clear HB; have HB := n0_; clear n0_; (try clear hb); (try clear hb2); (try clear hk); (try clear hi)) | ((with_reducible refine gate_callee (f := 14) rfl ?_); refine goesL_ (some 15) rfl rfl Try.func14 (by kernel_rfl) rfl #[.string (t133 ++ (⟨#[120]⟩ : ByteArray))] rfl (by (try simp only [List.map_toArray, List.map_cons, List.map_nil]); first | done | rfl | (simp only [List.length_drop, List.length_take]; rfl)) ?_; (with_reducible refine (journal_Read.calls k (t133 ++ (⟨#[120]⟩ : ByteArray)) t135 t136 _ A3.out).mono ?_); rintro e w30 ⟨v137, rfl, ho0, hb⟩; refine ⟨_, rfl, ?_⟩; have n0_ := Aside0.mk (Kd.S_lower ho0 (below_size (by repeat (first | (with_reducible first | exact HB.out | apply below_alloc | apply pw_below_drewN | apply below_drew1) | exact HB.out)))); have n1_ := Aside0.mk (below_step (by repeat (first | (with_reducible first | exact HB.out | apply below_alloc | apply pw_below_drewN | apply below_drew1) | exact HB.out)) hb); clear HB; have HO138 := n0_; have HB := n1_; clear n0_ n1_; (try clear hb); (try clear hb2); (try clear hk); (try clear hi); (try clear ho0)) | ((with_reducible refine gate_callee (f := 10) rfl ?_); refine goesL_ (some 20) rfl rfl Try.func10 (by kernel_rfl) rfl #[.agg #[.int .i64 256, .slice none 0 0, .string (⟨#[]⟩ : ByteArray)]] rfl (by (try simp only [List.map_toArray, List.map_cons, List.map_nil]); first | done | rfl | (simp only [List.length_drop, List.length_take]; rfl)) ?_; (refine (journal_Lay.calls 256 _ _ ([] : List Int) (⟨#[]⟩ : ByteArray) t139 t140 _ ?side1 ?side2 A4.out).mono ?_); (case side1 => exact Kd.C_nil _ _); (case side2 => exact Nat.le_refl _); rintro e w31 ⟨rfl, hb⟩; refine ⟨_, rfl, ?_⟩; have n0_ := Aside0.mk (Kd.S_below (by (with_reducible repeat (first | apply Kd.S_alloc | apply Kd.S_drewN | apply Kd.S_drew)); exact HO138.out) hb); have n1_ := Aside0.mk (below_step (by repeat (first | (with_reducible first | exact HB.out | apply below_alloc | apply pw_below_drewN | apply below_drew1) | exact HB.out)) hb); clear HO138; clear HB; have HO138 := n0_; have HB := n1_; clear n0_ n1_; (try clear hb); (try clear hb2); (try clear hk); (try clear hi)) | ((with_reducible refine gate_dst (N := 38) rfl ?_); (try (refine gate_guard (by rfl) ?_; dsimp only)); refine Kd.S_lit k29 _ 29 ?hg (N := 38) ?hd (xs := ([(⟨7, ([] : List Int), (⟨#[97]⟩ : ByteArray)⟩ : S29)] : List (S29))) (inner := [.int .i64 7, .slice none 0 0, .string (⟨#[97]⟩ : ByteArray)]) (ok := fun _ => True) (okp := fun _ => True) ?hr ?hp (fun _ hk => hk) trivial (Below.refl _ _) (Nat.le_refl _) (by simp) ?_; (case hd => rfl); (case hg => rfl); (case hr => first | (go_simp; done) | (go_simp; rfl)); (case hp => exact (Reps.c3 (show Kd.M k29 _ _ _ (⟨7, ([] : List Int), (⟨#[97]⟩ : ByteArray)⟩ : S29) [.int .i64 7, .slice none 0 0, .string (⟨#[97]⟩ : ByteArray)] from (k29_mkM _ _ _ (⟨7, ([] : List Int), (⟨#[97]⟩ : ByteArray)⟩ : S29) (Kd.R_nil _ _ _ _ _))) (Reps.none _ _))); intro v142 w32 ho33 hb hg_ hnew_; clear hg_ hnew_; (first | rw [← Ny141.out] at ho33 | (simp only [Int.reduceToNat] at ho33; rw [← Ny141.out] at ho33)); have n0_ := Aside0.mk (Kd.S_elder' (by (with_reducible repeat (first | apply Kd.S_alloc | apply Kd.S_drewN | apply Kd.S_drew)); exact HO138.out) (Kd.S_base ho33) hb); have n1_ := Aside0.mk (Kd.S_lower (Kd.S_new' ho33 (Kd.S_lt (by (with_reducible repeat (first | apply Kd.S_alloc | apply Kd.S_drewN | apply Kd.S_drew)); exact HO138.out))) (below_size (by repeat (first | (with_reducible first | exact HB.out | apply below_alloc | apply pw_below_drewN | apply below_drew1) | exact HB.out)))); have n2_ := Aside0.mk (below_step (by repeat (first | (with_reducible first | exact HB.out | apply below_alloc | apply pw_below_drewN | apply below_drew1) | exact HB.out)) hb); clear HO138; clear HB; have HO138 := n0_; have HO143 := n1_; have HB := n2_; clear n0_ n1_ n2_; clear hb ho33; obtain ⟨Ao34, co34, eo34⟩ := Kd.S_slice HO138.out; subst eo34; obtain ⟨Ao35, co35, eo35⟩ := Kd.S_slice HO143.out; subst eo35) | (go_at_call 17; (with_reducible refine (journal_Same.calls _ _ t135 _ _ y141 false _ ?side1 ?side2 ?side3 ?side4 A10.out).mono ?_); (case side1 => repeat (first | exact (Kd.S_reads' HO138.out).2.2 | (with_reducible refine Kd.C_alloc ?_ _) | (with_reducible refine Kd.C_drewN ?_ _) | (with_reducible refine Kd.C_drew ?_))); (case side2 => exact (Kd.S_reads' HO138.out).2.1); (case side3 => repeat (first | exact (Kd.S_reads' HO143.out).2.2 | (with_reducible refine Kd.C_alloc ?_ _) | (with_reducible refine Kd.C_drewN ?_ _) | (with_reducible refine Kd.C_drew ?_))); (case side4 => exact (Kd.S_reads' HO143.out).2.1); rintro e w36 ⟨rfl, hb⟩; have n0_ := Aside0.mk (Kd.S_below (by (with_reducible repeat (first | apply Kd.S_alloc | apply Kd.S_drewN | apply Kd.S_drew)); exact HO138.out) hb); have n1_ := Aside0.mk (Kd.S_below (by (with_reducible repeat (first | apply Kd.S_alloc | apply Kd.S_drewN | apply Kd.S_drew)); exact HO143.out) hb); have n2_ := Aside0.mk (below_step (by repeat (first | (with_reducible first | exact HB.out | apply below_alloc | apply pw_below_drewN | apply below_drew1) | exact HB.out)) hb); clear HO138; clear HO143; clear HB; have HO138 := n0_; have HO143 := n1_; have HB := n2_; clear n0_ n1_ n2_; (try clear hb); (try clear hb2); (try clear hk); (try clear hi)))
                go_ret
                exact ⟨by first | rfl | (simp [errW_none, errW_some] <;> rfl) | (simp [*, errW_none, errW_some] <;> rfl), by repeat (first | (with_reducible first | exact HB.out | apply below_alloc | apply pw_below_drewN | apply below_drew1) | exact HB.out)⟩
            · rw [if_neg c9] at H
              have c9b0 : ((t133.extract 0 7).toList == ([0, 0, 0, 3, 7, 0, 97] : List UInt8)) = false := beq_eq_false_iff_ne.mpr c9
              have c9b1 : ((t133.extract 0 7).toList != ([0, 0, 0, 3, 7, 0, 97] : List UInt8)) = true := bne_iff_ne.mpr c9
              obtain rfl := Option.some.inj H
              go_enter Try.func9, Try.ntmps9
              go_wp2_with (first | ((with_reducible refine gate_callee (f := 10) rfl ?_); refine goesL_ (some 9) rfl rfl Try.func10 (by kernel_rfl) rfl #[.agg #[.int .i64 7, .slice none 0 0, .string (⟨#[97]⟩ : ByteArray)]] rfl (by (try simp only [List.map_toArray, List.map_cons, List.map_nil]); first | done | rfl | (simp only [List.length_drop, List.length_take]; rfl)) ?_; (refine (journal_Lay.calls 7 _ _ ([] : List Int) (⟨#[97]⟩ : ByteArray) t133 t134 _ ?side1 ?side2 A1.out).mono ?_); (case side1 => exact Kd.C_nil _ _); (case side2 => exact Nat.le_refl _); rintro e w37 ⟨rfl, hb⟩; refine ⟨_, rfl, ?_⟩; have n0_ := Aside0.mk (below_step (by repeat (first | (with_reducible first | exact HB.out | apply below_alloc | apply pw_below_drewN | apply below_drew1) | exact HB.out)) hb); clear HB; have HB := n0_; clear n0_; (try clear hb); (try clear hb2); (try clear hk); (try clear hi)) | ((with_reducible refine gate_callee (f := 14) rfl ?_); refine goesL_ (some 15) rfl rfl Try.func14 (by kernel_rfl) rfl #[.string (t133 ++ (⟨#[120]⟩ : ByteArray))] rfl (by (try simp only [List.map_toArray, List.map_cons, List.map_nil]); first | done | rfl | (simp only [List.length_drop, List.length_take]; rfl)) ?_; (with_reducible refine (journal_Read.calls k (t133 ++ (⟨#[120]⟩ : ByteArray)) t135 t136 _ A3.out).mono ?_); rintro e w38 ⟨v137, rfl, ho0, hb⟩; refine ⟨_, rfl, ?_⟩; have n0_ := Aside0.mk (Kd.S_lower ho0 (below_size (by repeat (first | (with_reducible first | exact HB.out | apply below_alloc | apply pw_below_drewN | apply below_drew1) | exact HB.out)))); have n1_ := Aside0.mk (below_step (by repeat (first | (with_reducible first | exact HB.out | apply below_alloc | apply pw_below_drewN | apply below_drew1) | exact HB.out)) hb); clear HB; have HO138 := n0_; have HB := n1_; clear n0_ n1_; (try clear hb); (try clear hb2); (try clear hk); (try clear hi); (try clear ho0)) | ((with_reducible refine gate_callee (f := 10) rfl ?_); refine goesL_ (some 20) rfl rfl Try.func10 (by kernel_rfl) rfl #[.agg #[.int .i64 256, .slice none 0 0, .string (⟨#[]⟩ : ByteArray)]] rfl (by (try simp only [List.map_toArray, List.map_cons, List.map_nil]); first | done | rfl | (simp only [List.length_drop, List.length_take]; rfl)) ?_; (refine (journal_Lay.calls 256 _ _ ([] : List Int) (⟨#[]⟩ : ByteArray) t139 t140 _ ?side1 ?side2 A4.out).mono ?_); (case side1 => exact Kd.C_nil _ _); (case side2 => exact Nat.le_refl _); rintro e w39 ⟨rfl, hb⟩; refine ⟨_, rfl, ?_⟩; have n0_ := Aside0.mk (Kd.S_below (by (with_reducible repeat (first | apply Kd.S_alloc | apply Kd.S_drewN | apply Kd.S_drew)); exact HO138.out) hb); have n1_ := Aside0.mk (below_step (by repeat (first | (with_reducible first | exact HB.out | apply below_alloc | apply pw_below_drewN | apply below_drew1) | exact HB.out)) hb); clear HO138; clear HB; have HO138 := n0_; have HB := n1_; clear n0_ n1_; (try clear hb); (try clear hb2); (try clear hk); (try clear hi)))
              go_ret
              exact ⟨by first | rfl | (simp [errW_none, errW_some] <;> rfl) | (simp [*, errW_none, errW_some] <;> rfl), by repeat (first | (with_reducible first | exact HB.out | apply below_alloc | apply pw_below_drewN | apply below_drew1) | exact HB.out)⟩
          · rw [if_neg c8] at H
            exact absurd H (by simp)
        · rw [if_neg c7] at H
          exact absurd H (by simp)
      · rw [if_neg c6] at H
        have c6b0 : ((t133.size : Int) == 11) = false := beq_eq_false_iff_ne.mpr c6
        have c6b1 : ((t133.size : Int) != 11) = true := bne_iff_ne.mpr c6
        obtain rfl := Option.some.inj H
        go_enter Try.func9, Try.ntmps9
        go_wp2_with (first | ((with_reducible refine gate_callee (f := 10) rfl ?_); refine goesL_ (some 9) rfl rfl Try.func10 (by kernel_rfl) rfl #[.agg #[.int .i64 7, .slice none 0 0, .string (⟨#[97]⟩ : ByteArray)]] rfl (by (try simp only [List.map_toArray, List.map_cons, List.map_nil]); first | done | rfl | (simp only [List.length_drop, List.length_take]; rfl)) ?_; (refine (journal_Lay.calls 7 _ _ ([] : List Int) (⟨#[97]⟩ : ByteArray) t133 t134 _ ?side1 ?side2 A1.out).mono ?_); (case side1 => exact Kd.C_nil _ _); (case side2 => exact Nat.le_refl _); rintro e w40 ⟨rfl, hb⟩; refine ⟨_, rfl, ?_⟩; have n0_ := Aside0.mk (below_step (by repeat (first | (with_reducible first | exact HB.out | apply below_alloc | apply pw_below_drewN | apply below_drew1) | exact HB.out)) hb); clear HB; have HB := n0_; clear n0_; (try clear hb); (try clear hb2); (try clear hk); (try clear hi)) | ((with_reducible refine gate_callee (f := 14) rfl ?_); refine goesL_ (some 15) rfl rfl Try.func14 (by kernel_rfl) rfl #[.string (t133 ++ (⟨#[120]⟩ : ByteArray))] rfl (by (try simp only [List.map_toArray, List.map_cons, List.map_nil]); first | done | rfl | (simp only [List.length_drop, List.length_take]; rfl)) ?_; (with_reducible refine (journal_Read.calls k (t133 ++ (⟨#[120]⟩ : ByteArray)) t135 t136 _ A3.out).mono ?_); rintro e w41 ⟨v137, rfl, ho0, hb⟩; refine ⟨_, rfl, ?_⟩; have n0_ := Aside0.mk (Kd.S_lower ho0 (below_size (by repeat (first | (with_reducible first | exact HB.out | apply below_alloc | apply pw_below_drewN | apply below_drew1) | exact HB.out)))); have n1_ := Aside0.mk (below_step (by repeat (first | (with_reducible first | exact HB.out | apply below_alloc | apply pw_below_drewN | apply below_drew1) | exact HB.out)) hb); clear HB; have HO138 := n0_; have HB := n1_; clear n0_ n1_; (try clear hb); (try clear hb2); (try clear hk); (try clear hi); (try clear ho0)) | ((with_reducible refine gate_callee (f := 10) rfl ?_); refine goesL_ (some 20) rfl rfl Try.func10 (by kernel_rfl) rfl #[.agg #[.int .i64 256, .slice none 0 0, .string (⟨#[]⟩ : ByteArray)]] rfl (by (try simp only [List.map_toArray, List.map_cons, List.map_nil]); first | done | rfl | (simp only [List.length_drop, List.length_take]; rfl)) ?_; (refine (journal_Lay.calls 256 _ _ ([] : List Int) (⟨#[]⟩ : ByteArray) t139 t140 _ ?side1 ?side2 A4.out).mono ?_); (case side1 => exact Kd.C_nil _ _); (case side2 => exact Nat.le_refl _); rintro e w42 ⟨rfl, hb⟩; refine ⟨_, rfl, ?_⟩; have n0_ := Aside0.mk (Kd.S_below (by (with_reducible repeat (first | apply Kd.S_alloc | apply Kd.S_drewN | apply Kd.S_drew)); exact HO138.out) hb); have n1_ := Aside0.mk (below_step (by repeat (first | (with_reducible first | exact HB.out | apply below_alloc | apply pw_below_drewN | apply below_drew1) | exact HB.out)) hb); clear HO138; clear HB; have HO138 := n0_; have HB := n1_; clear n0_ n1_; (try clear hb); (try clear hb2); (try clear hk); (try clear hi)))
        go_ret
        exact ⟨by first | rfl | (simp [errW_none, errW_some] <;> rfl) | (simp [*, errW_none, errW_some] <;> rfl), by repeat (first | (with_reducible first | exact HB.out | apply below_alloc | apply pw_below_drewN | apply below_drew1) | exact HB.out)⟩
    · rw [if_neg c5] at H
      have c5b0 : (t134 == 0) = false := beq_eq_false_iff_ne.mpr c5
      have c5b1 : (t134 != 0) = true := bne_iff_ne.mpr c5
      obtain rfl := Option.some.inj H
      go_enter Try.func9, Try.ntmps9
      go_wp2_with (first | ((with_reducible refine gate_callee (f := 10) rfl ?_); refine goesL_ (some 9) rfl rfl Try.func10 (by kernel_rfl) rfl #[.agg #[.int .i64 7, .slice none 0 0, .string (⟨#[97]⟩ : ByteArray)]] rfl (by (try simp only [List.map_toArray, List.map_cons, List.map_nil]); first | done | rfl | (simp only [List.length_drop, List.length_take]; rfl)) ?_; (refine (journal_Lay.calls 7 _ _ ([] : List Int) (⟨#[97]⟩ : ByteArray) t133 t134 _ ?side1 ?side2 A1.out).mono ?_); (case side1 => exact Kd.C_nil _ _); (case side2 => exact Nat.le_refl _); rintro e w43 ⟨rfl, hb⟩; refine ⟨_, rfl, ?_⟩; have n0_ := Aside0.mk (below_step (by repeat (first | (with_reducible first | exact HB.out | apply below_alloc | apply pw_below_drewN | apply below_drew1) | exact HB.out)) hb); clear HB; have HB := n0_; clear n0_; (try clear hb); (try clear hb2); (try clear hk); (try clear hi)) | ((with_reducible refine gate_callee (f := 14) rfl ?_); refine goesL_ (some 15) rfl rfl Try.func14 (by kernel_rfl) rfl #[.string (t133 ++ (⟨#[120]⟩ : ByteArray))] rfl (by (try simp only [List.map_toArray, List.map_cons, List.map_nil]); first | done | rfl | (simp only [List.length_drop, List.length_take]; rfl)) ?_; (with_reducible refine (journal_Read.calls k (t133 ++ (⟨#[120]⟩ : ByteArray)) t135 t136 _ A3.out).mono ?_); rintro e w44 ⟨v137, rfl, ho0, hb⟩; refine ⟨_, rfl, ?_⟩; have n0_ := Aside0.mk (Kd.S_lower ho0 (below_size (by repeat (first | (with_reducible first | exact HB.out | apply below_alloc | apply pw_below_drewN | apply below_drew1) | exact HB.out)))); have n1_ := Aside0.mk (below_step (by repeat (first | (with_reducible first | exact HB.out | apply below_alloc | apply pw_below_drewN | apply below_drew1) | exact HB.out)) hb); clear HB; have HO138 := n0_; have HB := n1_; clear n0_ n1_; (try clear hb); (try clear hb2); (try clear hk); (try clear hi); (try clear ho0)) | ((with_reducible refine gate_callee (f := 10) rfl ?_); refine goesL_ (some 20) rfl rfl Try.func10 (by kernel_rfl) rfl #[.agg #[.int .i64 256, .slice none 0 0, .string (⟨#[]⟩ : ByteArray)]] rfl (by (try simp only [List.map_toArray, List.map_cons, List.map_nil]); first | done | rfl | (simp only [List.length_drop, List.length_take]; rfl)) ?_; (refine (journal_Lay.calls 256 _ _ ([] : List Int) (⟨#[]⟩ : ByteArray) t139 t140 _ ?side1 ?side2 A4.out).mono ?_); (case side1 => exact Kd.C_nil _ _); (case side2 => exact Nat.le_refl _); rintro e w45 ⟨rfl, hb⟩; refine ⟨_, rfl, ?_⟩; have n0_ := Aside0.mk (Kd.S_below (by (with_reducible repeat (first | apply Kd.S_alloc | apply Kd.S_drewN | apply Kd.S_drew)); exact HO138.out) hb); have n1_ := Aside0.mk (below_step (by repeat (first | (with_reducible first | exact HB.out | apply below_alloc | apply pw_below_drewN | apply below_drew1) | exact HB.out)) hb); clear HO138; clear HB; have HO138 := n0_; have HB := n1_; clear n0_ n1_; (try clear hb); (try clear hb2); (try clear hk); (try clear hi)))
      go_ret
      exact ⟨by first | rfl | (simp [errW_none, errW_some] <;> rfl) | (simp [*, errW_none, errW_some] <;> rfl), by repeat (first | (with_reducible first | exact HB.out | apply below_alloc | apply pw_below_drewN | apply below_drew1) | exact HB.out)⟩
  · rw [if_neg c2] at H
    exact absurd H (by simp)

/-! ### humpyardref15_num: function 21 -/
def humpyardref15_num.l0 : Nat → Int → Int → ByteArray → Int → Option (ByteArray)
  | 0, _, _, _, _ => none
  | k + 1, x0, x1, x5, x6 => if x6 < x0 then ((some (([(x1) % 256] : List Int) : List Int)).bind fun y145 => (if (strOfNums y145).size + x5.size ≤ 9223372036854775807 then (humpyardref15_num.l0 k x0 (x1 / 256) ((strOfNums y145) ++ x5) (wrap64 (x6 + 1))) else (none))) else (some x5)
def humpyardref15_num.f (k : Nat) (a0 : Int) (a1 : Int) : Option (ByteArray) := humpyardref15_num.l0 k a0 a1 (⟨#[]⟩ : ByteArray) 0
theorem humpyardref15_num.mono_l : ∀ k, (∀ y0 y1 y2 y3, LeO (humpyardref15_num.l0 k y0 y1 y2 y3) (humpyardref15_num.l0 (k + 1) y0 y1 y2 y3))
  | 0 => fun _ _ _ _ r h => by simp [humpyardref15_num.l0] at h
  | k + 1 => by
    have ih0 := humpyardref15_num.mono_l k
    · intro y0 y1 y2 y3
      unfold humpyardref15_num.l0
      repeat' first
      | (with_reducible exact ih0 _ _ _ _)
      | (with_reducible exact LeO.refl _)
      | (with_reducible exact LeO.none _)
      | (with_reducible refine LeO.ite ?_ ?_)
      | (with_reducible refine LeO.bind ?_ (fun _ => ?_))
      | exact ih0 _ _ _ _
      | exact LeO.none _
      | refine LeO.ite ?_ ?_
      | refine LeO.bind ?_ (fun _ => ?_)
theorem humpyardref15_num.mono : ∀ a0 a1 k, LeO (humpyardref15_num.f k a0 a1) (humpyardref15_num.f (k + 1) a0 a1) := by
  intro a0 a1 k
  have ih0 := humpyardref15_num.mono_l k
  unfold humpyardref15_num.f
  repeat' first
      | (with_reducible exact ih0 _ _ _ _)
      | (with_reducible exact LeO.refl _)
      | (with_reducible exact LeO.none _)
      | (with_reducible refine LeO.ite ?_ ?_)
      | (with_reducible refine LeO.bind ?_ (fun _ => ?_))
      | exact ih0 _ _ _ _
      | exact LeO.none _
      | refine LeO.ite ?_ ?_
      | refine LeO.bind ?_ (fun _ => ?_)
set_option maxHeartbeats 8000000 in
set_option maxRecDepth 100000 in
theorem humpyardref15_num.calls (k : Nat) (a0 : Int) (a1 : Int) (r : ByteArray) (w : World) (h : humpyardref15_num.f k a0 a1 = some r) :
    Calls Try.prog 21 #[.int .i64 a0, .int .i64 a1] w fun e w' => e = .returned (.string r) ∧ Below w.heap.size w w' := by
  have HB := Aside0.mk (Below.refl w.heap.size w)
  have H : (humpyardref15_num.l0 k a0 a1 (⟨#[]⟩ : ByteArray) 0) = some r := h
  clear h
  have H' := Aside0.mk H
  clear H
  go_enter Try.func21, Try.ntmps21
  go_wp2
  go_loopg [1, 5, 6] k (fun kq v1 v5 v6 w' => ∃ (x1_1 : Int) (x5_1 : ByteArray) (x6_1 : Int), v1 = .int .i64 x1_1 ∧ v5 = .string x5_1 ∧ v6 = .int .i64 x6_1 ∧ Aside0 (humpyardref15_num.l0 kq a0 x1_1 x5_1 x6_1 = some r) ∧ Aside0 (kq ≤ k) ∧ Aside0 (Below w.heap.size w w'))
  case atStart => exact ⟨(a1), ((⟨#[]⟩ : ByteArray)), (0), (by first | rfl | (simp; done) | (simp [*]; done)), (by first | rfl | (simp; done) | (simp [*]; done)), (by first | rfl | (simp; done) | (simp [*]; done)), H', ⟨Nat.le_refl _⟩, ⟨by repeat (first | (with_reducible first | exact HB.out | apply below_alloc | apply pw_below_drewN | apply below_drew1) | exact HB.out)⟩⟩
  case round =>
    clear H'
    try clear c2
    try clear p2
    obtain ⟨x1_1, x5_1, x6_1, rfl, rfl, rfl, HA, HK1, HB⟩ := hrel
    cases gk with
    | zero => exact absurd HA.out (by simp [humpyardref15_num.l0])
    | succ k1 =>
      have H := HA.out
      clear HA
      simp only [humpyardref15_num.l0] at H
      by_cases c3 : x6_1 < a0
      · rw [if_pos c3] at H
        have c3b0 : decide (x6_1 < a0) = true := decide_eq_true c3
        clear c3
        obtain ⟨y145, hy145⟩ : ∃ y_ : List Int, y_ = (([(x1_1) % 256] : List Int)) := ⟨_, rfl⟩
        replace H : (if (strOfNums y145).size + x5_1.size ≤ 9223372036854775807 then (humpyardref15_num.l0 k1 a0 (x1_1 / 256) ((strOfNums y145) ++ x5_1) (wrap64 (x6_1 + 1))) else (none)) = some r := by first | (rw [hy145]; with_reducible exact H) | (have H2_ := (Option.bind_some _ _).symm.trans H; rw [hy145]; with_reducible exact H2_) | (have H2_ := (Option.bind_some _ _).symm.trans H; with_reducible exact H2_) | with_reducible exact H | (rw [hy145]; exact H) | exact H
        have Ny145 := Aside0.mk hy145
        clear hy145
        by_cases c4 : (strOfNums y145).size + x5_1.size ≤ 9223372036854775807
        · rw [if_pos c4] at H
          have c4b0 := eq_true c4
          have c4b1 : decide ((strOfNums y145).size + x5_1.size ≤ 9223372036854775807) = true := decide_eq_true c4
          try have c4b2 : (9223372036854775807 < (strOfNums y145).size + x5_1.size) = False := eq_false (Nat.not_lt.2 c4)
          have H' := Aside0.mk H
          clear H
          go_wp2_with (first | ((with_reducible refine gate_dst (N := 14) rfl ?_); refine Kd.R_lit (Kd.int .u8) _ 5 ?hg (N := 14) ?hd (xs := ([(x1_1) % 256] : List Int)) (inner := [.int .u8 ((x1_1) % 256)]) (ok := fun _ => True) (okp := fun _ => True) ?hr ?hp (fun _ hk => hk) trivial (Below.refl _ _) (Nat.le_refl _) (by simp) ?_; (case hd => rfl); (case hg => rfl); (case hr => first | (go_simp; done) | (go_simp; rfl)); (case hp => exact (Reps.one (show Kd.M (Kd.int .u8) _ _ _ ((x1_1) % 256) [.int .u8 ((x1_1) % 256)] from rfl) (Reps.none _ _))); intro v146 w5 ho6 hb hg_ hnew_; clear hg_ hnew_; (first | rw [← Ny145.out] at ho6 | (simp only [Int.reduceToNat] at ho6; rw [← Ny145.out] at ho6)); have n0_ := Aside0.mk (Kd.R_lower ho6 (below_size (by repeat (first | (with_reducible first | exact HB.out | apply below_alloc | apply pw_below_drewN | apply below_drew1) | exact HB.out)))); have n1_ := Aside0.mk (below_step (by repeat (first | (with_reducible first | exact HB.out | apply below_alloc | apply pw_below_drewN | apply below_drew1) | exact HB.out)) hb); clear HB; have HO147 := n0_; have HB := n1_; clear n0_ n1_; clear hb ho6; have hcv7 := own_string (P := Try.prog) Try.underlying41 Try.underlying5 Try.underlying9 (Kd.own_of_R HO147.out)))
          go_roundg k1
          case measure => have := HK1.out; omega
          case rel => exact ⟨(x1_1 / 256), ((strOfNums y145) ++ x5_1), (wrap64 (x6_1 + 1)), (by first | rfl | (simp; done) | (simp [*]; done)), (by first | rfl | (simp; done) | (simp [*]; done)), (by first | rfl | (simp; done) | (simp [*]; done)), H', ⟨by have := HK1.out; omega⟩, ⟨by repeat (first | (with_reducible first | exact HB.out | apply below_alloc | apply pw_below_drewN | apply below_drew1) | exact HB.out)⟩⟩
        · rw [if_neg c4] at H
          exact absurd H (by simp)
      · rw [if_neg c3] at H
        have c3b0 : decide (x6_1 < a0) = false := decide_eq_false c3
        clear c3
        obtain rfl := Option.some.inj H
        go_wp2
        go_ret
        exact ⟨by first | rfl | (simp [errW_none, errW_some] <;> rfl) | (simp [*, errW_none, errW_some] <;> rfl), by repeat (first | (with_reducible first | exact HB.out | apply below_alloc | apply pw_below_drewN | apply below_drew1) | exact HB.out)⟩

/-! ### humpyardref06_Sum: function 22 (by hand) -/
open Go.Proofs.Ythaeecoahbohnaa.Plain
def humpyardref06_Sum.f (a0 : ByteArray) : Option (Int) := if a0.size ≤ 9223372036854775807 then some (sumOf a0) else none
set_option maxHeartbeats 800000 in
set_option maxRecDepth 100000 in
theorem humpyardref06_Sum.calls (a0 : ByteArray) (r : Int) (w : World) (h : humpyardref06_Sum.f a0 = some r) :
    Calls Try.prog 22 #[.string a0] w fun e w' => e = .returned (.int .u32 r) ∧ Drawn0 w w' := by
  unfold humpyardref06_Sum.f at h
  by_cases hs : a0.size ≤ 9223372036854775807
  · rw [if_pos hs] at h
    obtain rfl := Option.some.inj h
    clear h
    go_enter Try.func22, Try.ntmps22
    go_wp2
    go_loop [3, 4] (fun v3 v4 => ∃ i : Nat, i ≤ a0.size ∧ v4 = .int .i64 i ∧ v3 = .int .u32 (fnv 2166136261 (a0.data.toList.take i))) (fun _ v4 => a0.size - (intOf v4).toNat)
    case atStart => exact ⟨0, Nat.zero_le _, rfl, rfl⟩
    case round =>
      obtain ⟨i, hi, rfl, rfl⟩ := hrel
      by_cases hlt : i < a0.size
      · have hd : a0.data.toList.length = a0.size := data_length a0
        have hsn : fnv 2166136261 (a0.data.toList.take (i + 1)) = fnvStep (fnv 2166136261 (a0.data.toList.take i)) (a0.data[i]'hlt) := by
          rw [List.take_succ_eq_append_getElem (by omega), fnv_snoc, Array.getElem_toList]
        have HS := Aside0.mk hsn
        clear hsn
        have HD := Aside0.mk hd
        clear hd
        go_wp2
        go_round
        case rel => exact ⟨i + 1, by omega, by go_num, by rw [HS.out, fnvStep]; rfl⟩
        case measure => simp [intOf]; omega
      · go_wp2
        go_ret
        obtain rfl : i = a0.size := by omega
        exact ⟨by rw [sumOf, List.take_of_length_le (by rw [data_length]; exact Nat.le_refl _)]; rfl, Drawn0.refl _⟩
  · rw [if_neg hs] at h
    exact absurd h (by simp)

end Go.Proofs.Ythaeecoahbohnaa.PJour
