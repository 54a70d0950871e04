-- Written by a program of this session (a patched copy of the kit's print); not trusted: Lean checks it.
import Derived.Test.YthaeecoahbohnaaPJourx0
import Derived.Test.YthaeecoahbohnaaPJourx3
namespace Go.Proofs.Ythaeecoahbohnaa.PJour
open Go.RowKit Go.Proofs.YthaeecoahbohnaaW.PrintWords Go.Proofs.YthaeecoahbohnaaW.PrintLast Go.Proofs.YthaeecoahbohnaaW.PrintMore
attribute [local go_sem] max2_int min2_int max_two min_two max_three min_three max_four min_four   -- for this text's walks alone
set_option linter.unusedVariables false
set_option linter.unusedSimpArgs false

/-! ### humpyardref15_Lay: function 11 -/
mutual
def humpyardref15_Lay.j0 : Nat → Bool → Int → List Int → ByteArray → Option (ByteArray × Int)
  | 0, _, _, _, _ => none
  | k + 1, x25, x149000, x149001, x149002 => if x25 = true then (some ((⟨#[]⟩ : ByteArray), 1)) else ((humpyardref15_num.f k 1 x149000).bind fun t149 => ((humpyardref15_num.f k 1 (x149001.length : Int)).bind fun t150 => (if t149.size + t150.size ≤ 9223372036854775807 then (humpyardref15_Lay.l0 k (t149 ++ t150) 0 x149000 x149001 x149002) else (none))))
def humpyardref15_Lay.l0 : Nat → ByteArray → Int → Int → List Int → ByteArray → Option (ByteArray × Int)
  | 0, _, _, _, _, _ => none
  | k + 1, x4, x5, x149000, x149001, x149002 => if x5 < (x149001.length : Int) then (if 0 ≤ x5 then ((humpyardref15_num.f k 8 (rd x149001 x5)).bind fun t152 => (if x4.size + t152.size ≤ 9223372036854775807 then (humpyardref15_Lay.l0 k (x4 ++ t152) (wrap64 (x5 + 1)) x149000 x149001 x149002) else (none))) else (none)) else (if x4.size + x149002.size ≤ 9223372036854775807 then ((humpyardref15_num.f k 4 ((x4 ++ x149002).size : Int)).bind fun t153 => (if t153.size + (x4 ++ x149002).size ≤ 9223372036854775807 then ((humpyardref06_Sum.f (t153 ++ (x4 ++ x149002))).bind fun t154 => ((humpyardref15_num.f k 4 (wrap64 (t154))).bind fun t155 => (if (t153 ++ (x4 ++ x149002)).size + t155.size ≤ 9223372036854775807 then (some ((t153 ++ (x4 ++ x149002)) ++ t155, 0)) else (none)))) else (none))) else (none))
end
def humpyardref15_Lay.f (k : Nat) (a0_0 : Int) (l0_1 : List Int) (a0_2 : ByteArray) : Option (ByteArray × Int) := if a0_0 < 0 then (humpyardref15_Lay.j0 k true a0_0 l0_1 a0_2) else (if a0_0 > 255 then (humpyardref15_Lay.j0 k true a0_0 l0_1 a0_2) else (if (l0_1.length : Int) > 255 then (humpyardref15_Lay.j0 k true a0_0 l0_1 a0_2) else (humpyardref15_Lay.j0 k (decide ((a0_2.size : Int) > 20000)) a0_0 l0_1 a0_2)))
theorem humpyardref15_Lay.mono_l : ∀ k, (∀ y0 y1 y2 y3, LeO (humpyardref15_Lay.j0 k y0 y1 y2 y3) (humpyardref15_Lay.j0 (k + 1) y0 y1 y2 y3)) ∧ (∀ y0 y1 y2 y3 y4, LeO (humpyardref15_Lay.l0 k y0 y1 y2 y3 y4) (humpyardref15_Lay.l0 (k + 1) y0 y1 y2 y3 y4))
  | 0 => ⟨fun _ _ _ _ r h => by simp [humpyardref15_Lay.j0] at h, fun _ _ _ _ _ r h => by simp [humpyardref15_Lay.l0] at h⟩
  | k + 1 => by
    obtain ⟨ih0, ih1⟩ := humpyardref15_Lay.mono_l k
    refine ⟨?_, ?_⟩
    · intro y0 y1 y2 y3
      unfold humpyardref15_Lay.j0
      repeat' first
      | (with_reducible exact ih0 _ _ _ _)
      | (with_reducible exact ih1 _ _ _ _ _)
      | (with_reducible exact humpyardref15_num.mono _ _ _)
      | (with_reducible exact LeO.refl _)
      | (with_reducible exact LeO.none _)
      | (with_reducible refine LeO.ite ?_ ?_)
      | (with_reducible refine LeO.bind ?_ (fun _ => ?_))
      | exact ih0 _ _ _ _
      | exact ih1 _ _ _ _ _
      | exact humpyardref15_num.mono _ _ _
      | exact LeO.none _
      | refine LeO.ite ?_ ?_
      | refine LeO.bind ?_ (fun _ => ?_)
    · intro y0 y1 y2 y3 y4
      unfold humpyardref15_Lay.l0
      repeat' first
      | (with_reducible exact ih0 _ _ _ _)
      | (with_reducible exact ih1 _ _ _ _ _)
      | (with_reducible exact humpyardref15_num.mono _ _ _)
      | (with_reducible exact LeO.refl _)
      | (with_reducible exact LeO.none _)
      | (with_reducible refine LeO.ite ?_ ?_)
      | (with_reducible refine LeO.bind ?_ (fun _ => ?_))
      | exact ih0 _ _ _ _
      | exact ih1 _ _ _ _ _
      | exact humpyardref15_num.mono _ _ _
      | exact LeO.none _
      | refine LeO.ite ?_ ?_
      | refine LeO.bind ?_ (fun _ => ?_)
theorem humpyardref15_Lay.mono : ∀ a0 a1 a2 k, LeO (humpyardref15_Lay.f k a0 a1 a2) (humpyardref15_Lay.f (k + 1) a0 a1 a2) := by
  intro a0 a1 a2 k
  obtain ⟨ih0, ih1⟩ := humpyardref15_Lay.mono_l k
  unfold humpyardref15_Lay.f
  repeat' first
      | (with_reducible exact ih0 _ _ _ _)
      | (with_reducible exact ih1 _ _ _ _ _)
      | (with_reducible exact humpyardref15_num.mono _ _ _)
      | (with_reducible exact LeO.refl _)
      | (with_reducible exact LeO.none _)
      | (with_reducible refine LeO.ite ?_ ?_)
      | (with_reducible refine LeO.bind ?_ (fun _ => ?_))
      | exact ih0 _ _ _ _
      | exact ih1 _ _ _ _ _
      | exact humpyardref15_num.mono _ _ _
      | exact LeO.none _
      | refine LeO.ite ?_ ?_
      | refine LeO.bind ?_ (fun _ => ?_)
def humpyardref15_Lay.T3 : Bool × List (List Nat × List Nat) := (true, [([], []), ([0], [0]), ([1], [1]), ([], []), ([3], [3]), ([4], [4]), ([5, 2], [5]), ([2, 6], [2, 6]), ([7, 6, 0, 1, 2, 3, 4, 5, 6, 7], [7])])
def humpyardref15_Lay.B3 : List Nat := [0, 1, 3, 0, 8, 24, 63, 127, 255]
theorem humpyardref15_Lay.tab3 : rtab .any (opsOf Try.f11 3) = humpyardref15_Lay.T3 := by kernel_rfl
theorem humpyardref15_Lay.bits3 : waitsOk humpyardref15_Lay.T3.2 humpyardref15_Lay.B3 = true := by kernel_rfl
set_option maxHeartbeats 8000000 in
set_option maxRecDepth 100000 in
theorem humpyardref15_Lay.calls (k : Nat) (a0_0 : Int) (A0_1 : Option Addr) (c0_1 : Nat) (l0_1 : List Int) (a0_2 : ByteArray) (r1 : ByteArray) (r2 : Int) (w : World) (hr0_1 : Kd.C (Kd.int .i64) w A0_1 l0_1.length l0_1) (hc0_1 : l0_1.length ≤ c0_1) (h : humpyardref15_Lay.f k a0_0 l0_1 a0_2 = some (r1, r2)) :
    Calls Try.prog 11 #[.agg #[.int .i64 a0_0, .slice A0_1 l0_1.length c0_1, .string a0_2]] w fun e w' => e = .returned (.tuple #[.string r1, .int .i64 r2]) ∧ Below w.heap.size w w' := by
  have hu29 := Try.underlying29
  have HR0_1 := Aside0.mk hr0_1
  have HC0_1 := Aside0.mk hc0_1
  clear hr0_1 hc0_1
  have HB := Aside0.mk (Below.refl w.heap.size w)
  have H : (if a0_0 < 0 then (humpyardref15_Lay.j0 k true a0_0 l0_1 a0_2) else (if a0_0 > 255 then (humpyardref15_Lay.j0 k true a0_0 l0_1 a0_2) else (if (l0_1.length : Int) > 255 then (humpyardref15_Lay.j0 k true a0_0 l0_1 a0_2) else (humpyardref15_Lay.j0 k (decide ((a0_2.size : Int) > 20000)) a0_0 l0_1 a0_2)))) = some (r1, r2) := h
  clear h
  have HC2 := Aside0.mk H
  clear H
  go_enter Try.func11, Try.ntmps11
  go_upto_region 1 with (first | ((with_reducible refine gate_dst (N := 1) rfl ?_); (try (refine gate_guard (by rfl) ?_; dsimp only)); refine box_event ?hg (N := 1) ?hd (cs := #[.int .i64 a0_0, .slice A0_1 l0_1.length c0_1, .string a0_2]) (t := 29) ?hr ?_; (case hd => rfl); (case hg => rfl); (case hr => first | (go_simp; done) | (go_simp; rfl)); intro gb148 hg w3 hbox hb; have n0_ := Aside0.mk (below_step (by repeat (first | (with_reducible first | exact HB.out | apply below_alloc | apply pw_below_drewN | apply below_drew1) | exact HB.out)) hb); have n1_ := Aside0.mk (hbox); have n2_ := Aside0.mk ((by rw [hg]; exact (below_size (by repeat (first | (with_reducible first | exact HB.out | apply below_alloc | apply pw_below_drewN | apply below_drew1) | exact HB.out))) : w.heap.size ≤ gb148)); have n3_ := Aside0.mk ((by rw [hg]; exact (below_size (by repeat (first | (with_reducible first | exact HB.out | apply below_alloc | apply pw_below_drewN | apply below_drew1) | exact HB.out))) : w.heap.size ≤ gb148)); clear HB; have HB := n0_; have BK148 := n1_; have GW148 := n2_; have GE148 := n3_; clear n0_ n1_ n2_ n3_; clear hb hbox hg))
  (try simp only [Act.put, List.setIfInBounds_toArray, List.set_cons_zero, List.set_cons_succ])
  go_cut [25] (fun v25 wc => ∃ (kq : Nat) (x25_1 : Bool), v25 = .bool x25_1 ∧ Aside0 (humpyardref15_Lay.j0 kq x25_1 a0_0 l0_1 a0_2 = some (r1, r2)) ∧ Aside0 (kq ≤ k) ∧ Aside0 (wc.heap[gb148]? = some (.cells #[.int .i64 a0_0, (.slice A0_1 l0_1.length c0_1), .string a0_2] 29 (0, 0))) ∧ Aside0 (Below w.heap.size w wc))
  case first =>
    have H := HC2.out
    clear HC2
    by_cases c4 : a0_0 < 0
    · rw [if_pos c4] at H
      have c4b0 : decide (a0_0 < 0) = true := decide_eq_true c4
      clear c4
      (first | rw [c4b0] | (simp only [i64_w, i32_w]; rw [c4b0]) | skip)
      have H' := Aside0.mk H
      clear H
      have hcz5_0 : w3.cell? ⟨gb148, 0, none⟩ = some (.int .i64 a0_0) := (blk_cell BK148.out 0).trans rfl
      have hcz5_1 : w3.cell? ⟨gb148, 1, none⟩ = some (.slice A0_1 l0_1.length c0_1) := (blk_cell BK148.out 1).trans rfl
      have hcz5_2 : w3.cell? ⟨gb148, 2, none⟩ = some (.string a0_2) := (blk_cell BK148.out 2).trans rfl
      have hfz5_0 := blk_frozen BK148.out 0
      have hfz5_1 := blk_frozen BK148.out 1
      have hfz5_2 := blk_frozen BK148.out 2
      go_wp2
      go_meet
      case rel => exact ⟨_, (true), (by first | rfl | (simp; done) | (simp [*]; done)), H', ⟨by first | omega | exact Nat.le_refl _⟩, ⟨by (with_reducible repeat (first | refine blk_drewN ?_ _ | refine blk_drew ?_ | refine blk_alloc ?_ _)); exact BK148.out⟩, ⟨by repeat (first | (with_reducible first | exact HB.out | apply below_alloc | apply pw_below_drewN | apply below_drew1 | refine below_set ?_ GE148.out) | exact HB.out)⟩⟩
    · rw [if_neg c4] at H
      have c4b0 : decide (a0_0 < 0) = false := decide_eq_false c4
      clear c4
      (first | rw [c4b0] | (simp only [i64_w, i32_w]; rw [c4b0]) | skip)
      by_cases c6 : a0_0 > 255
      · rw [if_pos c6] at H
        have c6b0 : decide (255 < a0_0) = true := decide_eq_true c6
        clear c6
        have H' := Aside0.mk H
        clear H
        have hcz7_0 : w3.cell? ⟨gb148, 0, none⟩ = some (.int .i64 a0_0) := (blk_cell BK148.out 0).trans rfl
        have hcz7_1 : w3.cell? ⟨gb148, 1, none⟩ = some (.slice A0_1 l0_1.length c0_1) := (blk_cell BK148.out 1).trans rfl
        have hcz7_2 : w3.cell? ⟨gb148, 2, none⟩ = some (.string a0_2) := (blk_cell BK148.out 2).trans rfl
        have hfz7_0 := blk_frozen BK148.out 0
        have hfz7_1 := blk_frozen BK148.out 1
        have hfz7_2 := blk_frozen BK148.out 2
        go_wp2
        go_meet
        case rel => exact ⟨_, (true), (by first | rfl | (simp; done) | (simp [*]; done)), H', ⟨by first | omega | exact Nat.le_refl _⟩, ⟨by (with_reducible repeat (first | refine blk_drewN ?_ _ | refine blk_drew ?_ | refine blk_alloc ?_ _)); exact BK148.out⟩, ⟨by repeat (first | (with_reducible first | exact HB.out | apply below_alloc | apply pw_below_drewN | apply below_drew1 | refine below_set ?_ GE148.out) | exact HB.out)⟩⟩
      · rw [if_neg c6] at H
        have c6b0 : decide (255 < a0_0) = false := decide_eq_false c6
        clear c6
        by_cases c8 : (l0_1.length : Int) > 255
        · rw [if_pos c8] at H
          have c8b0 : decide (255 < (l0_1.length : Int)) = true := decide_eq_true c8
          have c8b1 : decide (255 < l0_1.length) = true := decide_eq_true (by omega)
          clear c8
          have H' := Aside0.mk H
          clear H
          have hcz9_0 : w3.cell? ⟨gb148, 0, none⟩ = some (.int .i64 a0_0) := (blk_cell BK148.out 0).trans rfl
          have hcz9_1 : w3.cell? ⟨gb148, 1, none⟩ = some (.slice A0_1 l0_1.length c0_1) := (blk_cell BK148.out 1).trans rfl
          have hcz9_2 : w3.cell? ⟨gb148, 2, none⟩ = some (.string a0_2) := (blk_cell BK148.out 2).trans rfl
          have hfz9_0 := blk_frozen BK148.out 0
          have hfz9_1 := blk_frozen BK148.out 1
          have hfz9_2 := blk_frozen BK148.out 2
          go_wp2
          go_meet
          case rel => exact ⟨_, (true), (by first | rfl | (simp; done) | (simp [*]; done)), H', ⟨by first | omega | exact Nat.le_refl _⟩, ⟨by (with_reducible repeat (first | refine blk_drewN ?_ _ | refine blk_drew ?_ | refine blk_alloc ?_ _)); exact BK148.out⟩, ⟨by repeat (first | (with_reducible first | exact HB.out | apply below_alloc | apply pw_below_drewN | apply below_drew1 | refine below_set ?_ GE148.out) | exact HB.out)⟩⟩
        · rw [if_neg c8] at H
          have c8b0 : decide (255 < (l0_1.length : Int)) = false := decide_eq_false c8
          have c8b1 : decide (255 < l0_1.length) = false := decide_eq_false (by omega)
          clear c8
          have H' := Aside0.mk H
          clear H
          have hcz10_0 : w3.cell? ⟨gb148, 0, none⟩ = some (.int .i64 a0_0) := (blk_cell BK148.out 0).trans rfl
          have hcz10_1 : w3.cell? ⟨gb148, 1, none⟩ = some (.slice A0_1 l0_1.length c0_1) := (blk_cell BK148.out 1).trans rfl
          have hcz10_2 : w3.cell? ⟨gb148, 2, none⟩ = some (.string a0_2) := (blk_cell BK148.out 2).trans rfl
          have hfz10_0 := blk_frozen BK148.out 0
          have hfz10_1 := blk_frozen BK148.out 1
          have hfz10_2 := blk_frozen BK148.out 2
          go_wp2
          go_meet
          case rel => exact ⟨_, (decide ((a0_2.size : Int) > 20000)), (by first | rfl | (simp; done) | (simp [*]; done)), H', ⟨by first | omega | exact Nat.le_refl _⟩, ⟨by (with_reducible repeat (first | refine blk_drewN ?_ _ | refine blk_drew ?_ | refine blk_alloc ?_ _)); exact BK148.out⟩, ⟨by repeat (first | (with_reducible first | exact HB.out | apply below_alloc | apply pw_below_drewN | apply below_drew1 | refine below_set ?_ GE148.out) | exact HB.out)⟩⟩
  case rest =>
    clear HC2
    try clear c1
    try clear p2
    try clear c4
    try clear c4b0
    try clear c6
    try clear c6b0
    try clear c8
    try clear c8b0
    try clear c8b1
    try clear hcz10_0
    try clear hcz10_1
    try clear hcz10_2
    try clear hcz5_0
    try clear hcz5_1
    try clear hcz5_2
    try clear hcz7_0
    try clear hcz7_1
    try clear hcz7_2
    try clear hcz9_0
    try clear hcz9_1
    try clear hcz9_2
    try clear hfz10_0
    try clear hfz10_1
    try clear hfz10_2
    try clear hfz5_0
    try clear hfz5_1
    try clear hfz5_2
    try clear hfz7_0
    try clear hfz7_1
    try clear hfz7_2
    try clear hfz9_0
    try clear hfz9_1
    try clear hfz9_2
    obtain ⟨kq, x25_1, rfl, HA, HJ1, BK148, HB⟩ := hcut
    cases kq with
    | zero => exact absurd HA.out (by simp [humpyardref15_Lay.j0])
    | succ kj1 =>
      have H := HA.out
      clear HA
      simp only [humpyardref15_Lay.j0] at H
      by_cases c11 : x25_1 = true
      · subst c11
        have H1 : (some ((⟨#[]⟩ : ByteArray), 1)) = some (r1, r2) := by rw [if_pos rfl] at H; exact H
        clear H
        have H := H1
        clear H1
        simp only [Option.some.injEq, Prod.mk.injEq] at H
        obtain ⟨rfl, rfl⟩ := H
        go_wp2
        go_ret2
        exact ⟨by first | rfl | (simp [errW_none, errW_some] <;> rfl) | (simp [*, errW_none, errW_some] <;> rfl), by repeat (first | (with_reducible first | exact HB.out | apply below_alloc | apply pw_below_drewN | apply below_drew1 | refine below_set ?_ GE148.out) | exact HB.out)⟩
      · replace c11 := Bool.eq_false_iff.mpr c11
        subst c11
        have H1 : ((humpyardref15_num.f kj1 1 a0_0).bind fun t149 => ((humpyardref15_num.f kj1 1 (l0_1.length : Int)).bind fun t150 => (if t149.size + t150.size ≤ 9223372036854775807 then (humpyardref15_Lay.l0 kj1 (t149 ++ t150) 0 a0_0 l0_1 a0_2) else (none)))) = some (r1, r2) := by rw [if_neg (show ¬ (false = true) by decide)] at H; exact H
        clear H
        have H := H1
        clear H1
        replace H := Option.bind_eq_some_iff.mp H
        obtain ⟨t149, A120, H⟩ := H
        replace H : ((humpyardref15_num.f kj1 1 (l0_1.length : Int)).bind fun t150 => (if t149.size + t150.size ≤ 9223372036854775807 then (humpyardref15_Lay.l0 kj1 (t149 ++ t150) 0 a0_0 l0_1 a0_2) else (none))) = some (r1, r2) := H
        have A12 := Aside0.mk A120
        clear A120
        replace H := Option.bind_eq_some_iff.mp H
        obtain ⟨t150, A130, H⟩ := H
        replace H : (if t149.size + t150.size ≤ 9223372036854775807 then (humpyardref15_Lay.l0 kj1 (t149 ++ t150) 0 a0_0 l0_1 a0_2) else (none)) = some (r1, r2) := H
        have A13 := Aside0.mk A130
        clear A130
        by_cases c14 : t149.size + t150.size ≤ 9223372036854775807
        · rw [if_pos c14] at H
          have c14b0 := eq_true c14
          have c14b1 : decide (t149.size + t150.size ≤ 9223372036854775807) = true := decide_eq_true c14
          try have c14b2 : (9223372036854775807 < t149.size + t150.size) = False := eq_false (Nat.not_lt.2 c14)
          have H' := Aside0.mk H
          clear H
          try go_wp2
          have n0_ := Aside0.mk (blk_drew BK148.out)
          have n1_ := Aside0.mk (below_drew1 HB.out)
          clear BK148
          clear HB
          have BK148 := n0_
          have HB := n1_
          clear n0_ n1_
          refine start_ (n := 9) (S := fun w' => w'.cell? ⟨gb148, 0, none⟩ = some (.int .i64 a0_0) ∧ w'.cell? ⟨gb148, 1, none⟩ = some (.slice A0_1 l0_1.length c0_1) ∧ w'.cell? ⟨gb148, 2, none⟩ = some (.string a0_2)) (ds := []) #[false, false, false, false, false, false, false, false, false] (by kernel_rfl) rfl rfl ⟨(blk_cell BK148.out 0).trans rfl, (blk_cell BK148.out 1).trans rfl, (blk_cell BK148.out 2).trans rfl⟩ (fun hHeld => ?_); refine with_tabW humpyardref15_Lay.tab3 humpyardref15_Lay.bits3 (fun HT_ HW_ => ?_)
          generalize wc.drew = w15 at BK148 HB hHeld ⊢
          refine pure_ (i := 0) (N := some 26) (v := ?_) (a' := ?_) #[true, false, false, false, false, false, false, false, false] rfl rfl (any_of HT_.out (by kernel_rfl)) (fun _ _ _ h => h) (Or.inl ⟨by rfl, ?_⟩) ?_ ?_
          rotate_left
          · intro w'
            go_simp
            with_reducible rfl
          rotate_left
          · simp only [Act.put, List.setIfInBounds_toArray, List.set_cons_zero, List.set_cons_succ, i64_w, i32_w]
            rfl
          refine pure_ (i := 3) (N := some 29) (v := ?_) (a' := ?_) #[true, false, false, true, false, false, false, false, false] rfl rfl (any_of HT_.out (by kernel_rfl)) (fun _ _ _ h => h) (Or.inl ⟨by rfl, ?_⟩) ?_ ?_
          rotate_left
          · intro w'
            go_simp
            with_reducible rfl
          rotate_left
          · simp only [Act.put, List.setIfInBounds_toArray, List.set_cons_zero, List.set_cons_succ, i64_w, i32_w]
            rfl
          refine take_ (i := 1) (N := some 27) (v := ?_) (a' := ?_) #[true, true, false, true, false, false, false, false, false] rfl rfl (take_ofW HT_.out HW_.out (by kernel_rfl)) (fun _ _ _ h => h) (Or.inl ⟨by rfl, ?_⟩) hHeld ?_ ?_
          rotate_left
          · rintro w' ⟨s0, s1, s2⟩
            go_simp
            with_reducible rfl
          rotate_left
          · simp only [Act.put, List.setIfInBounds_toArray, List.set_cons_zero, List.set_cons_succ, i64_w, i32_w]
            rfl
          refine take_ (i := 4) (N := some 30) (v := ?_) (a' := ?_) #[true, true, false, true, true, false, false, false, false] rfl rfl (take_ofW HT_.out HW_.out (by kernel_rfl)) (fun _ _ _ h => h) (Or.inl ⟨by rfl, ?_⟩) hHeld ?_ ?_
          rotate_left
          · rintro w' ⟨s0, s1, s2⟩
            go_simp
            with_reducible rfl
          rotate_left
          · simp only [Act.put, List.setIfInBounds_toArray, List.set_cons_zero, List.set_cons_succ, i64_w, i32_w]
            rfl
          refine pure_ (i := 5) (N := some 31) (v := ?_) (a' := ?_) #[true, true, false, true, true, true, false, false, false] rfl rfl (any_of HT_.out (by kernel_rfl)) (fun _ _ _ h => h) (Or.inl ⟨by rfl, ?_⟩) ?_ ?_
          rotate_left
          · intro w'
            go_simp
            with_reducible rfl
          rotate_left
          · simp only [Act.put, List.setIfInBounds_toArray, List.set_cons_zero, List.set_cons_succ, i64_w, i32_w]
            rfl
          refine one_ (i := 2) (N := some 28) #[true, true, true, true, true, true, false, false, false] rfl rfl (one_of HT_.out (by kernel_rfl)) (by decide) (fun K hK => ?_)
          refine goes_ Try.func21 (by kernel_rfl) rfl #[.int .i64 1, .int .i64 a0_0] (by rfl) rfl rfl (by (try simp only [List.map_toArray, List.map_cons, List.map_nil]); first | done | rfl | (simp only [List.length_drop, List.length_take]; rfl)) ?_
          with_reducible refine (humpyardref15_num.calls kj1 1 a0_0 t149 _ A12.out).mono ?_
          rintro e w16 ⟨rfl, hb⟩
          refine ⟨_, rfl, ?_⟩
          have n0_ := Aside0.mk (blk_below (g := gb148) (o := .cells #[.int .i64 a0_0, .slice A0_1 l0_1.length c0_1, .string a0_2] 29 (0, 0)) (by (with_reducible repeat (first | refine blk_drewN ?_ _ | refine blk_drew ?_ | refine blk_alloc ?_ _)); exact BK148.out) hb)
          have n1_ := Aside0.mk (below_step (by repeat (first | (with_reducible first | exact HB.out | apply below_alloc | apply pw_below_drewN | apply below_drew1 | refine below_set ?_ GE148.out) | exact HB.out)) hb)
          clear BK148
          clear HB
          have BK148 := n0_
          have HB := n1_
          clear n0_ n1_
          (try clear hb)
          (try clear hb2)
          (try clear hk)
          (try clear hi)
          refine hK.out _ _ ⟨(blk_cell BK148.out 0).trans rfl, (blk_cell BK148.out 1).trans rfl, (blk_cell BK148.out 2).trans rfl⟩ (fun hHeld => ?_)
          clear hK K
          refine norm_ (a' := ?_) ?_ ?_
          rotate_left
          · show Act.put _ (some 28) _ = _
            simp only [Act.put, List.setIfInBounds_toArray, List.set_cons_zero, List.set_cons_succ, i64_w, i32_w]
            rfl
          refine one_ (i := 6) (N := some 32) #[true, true, true, true, true, true, true, false, false] rfl rfl (one_of HT_.out (by kernel_rfl)) (by decide) (fun K hK => ?_)
          refine goes_ Try.func21 (by kernel_rfl) rfl #[.int .i64 1, .int .i64 (l0_1.length : Int)] (by rfl) rfl rfl (by (try simp only [List.map_toArray, List.map_cons, List.map_nil]); first | done | rfl | (simp only [List.length_drop, List.length_take]; rfl)) ?_
          with_reducible refine (humpyardref15_num.calls kj1 1 (l0_1.length : Int) t150 _ A13.out).mono ?_
          rintro e w17 ⟨rfl, hb⟩
          refine ⟨_, rfl, ?_⟩
          have n0_ := Aside0.mk (blk_below (g := gb148) (o := .cells #[.int .i64 a0_0, .slice A0_1 l0_1.length c0_1, .string a0_2] 29 (0, 0)) (by (with_reducible repeat (first | refine blk_drewN ?_ _ | refine blk_drew ?_ | refine blk_alloc ?_ _)); exact BK148.out) hb)
          have n1_ := Aside0.mk (below_step (by repeat (first | (with_reducible first | exact HB.out | apply below_alloc | apply pw_below_drewN | apply below_drew1 | refine below_set ?_ GE148.out) | exact HB.out)) hb)
          clear BK148
          clear HB
          have BK148 := n0_
          have HB := n1_
          clear n0_ n1_
          (try clear hb)
          (try clear hb2)
          (try clear hk)
          (try clear hi)
          refine hK.out _ _ ⟨(blk_cell BK148.out 0).trans rfl, (blk_cell BK148.out 1).trans rfl, (blk_cell BK148.out 2).trans rfl⟩ (fun hHeld => ?_)
          clear hK K
          refine norm_ (a' := ?_) ?_ ?_
          rotate_left
          · show Act.put _ (some 32) _ = _
            simp only [Act.put, List.setIfInBounds_toArray, List.set_cons_zero, List.set_cons_succ, i64_w, i32_w]
            rfl
          refine pure_ (i := 7) (N := some 33) (v := ?_) (a' := ?_) #[true, true, true, true, true, true, true, true, false] rfl rfl (any_of HT_.out (by kernel_rfl)) (fun _ _ _ h => h) (Or.inl ⟨by rfl, ?_⟩) ?_ ?_
          rotate_left
          · intro w'
            go_simp
            with_reducible rfl
          rotate_left
          · simp only [Act.put, List.setIfInBounds_toArray, List.set_cons_zero, List.set_cons_succ, i64_w, i32_w]
            rfl
          refine pure_ (i := 8) (N := some 4) (v := ?_) (a' := ?_) #[true, true, true, true, true, true, true, true, true] rfl rfl (any_of HT_.out (by kernel_rfl)) (fun _ _ _ h => h) (Or.inl ⟨by rfl, ?_⟩) ?_ ?_
          rotate_left
          · intro w'
            go_simp
            with_reducible rfl
          rotate_left
          · simp only [Act.put, List.setIfInBounds_toArray, List.set_cons_zero, List.set_cons_succ, i64_w, i32_w]
            rfl
          refine done_ (done_of HT_.out (by kernel_rfl)) ?_
          try go_wp2
          go_loopg [4, 5] kj1 (fun kq v4 v5 w' => ∃ (x4_2 : ByteArray) (x5_2 : Int), v4 = .string x4_2 ∧ v5 = .int .i64 x5_2 ∧ Aside0 (humpyardref15_Lay.l0 kq x4_2 x5_2 a0_0 l0_1 a0_2 = some (r1, r2)) ∧ Aside0 (kq ≤ kj1) ∧ Aside0 (w'.heap[gb148]? = some (.cells #[.int .i64 a0_0, (.slice A0_1 l0_1.length c0_1), .string a0_2] 29 (0, 0))) ∧ Aside0 (Below w.heap.size w w'))
          case atStart => exact ⟨(t149 ++ t150), (0), (by first | rfl | (simp; done) | (simp [*]; done)), (by first | rfl | (simp; done) | (simp [*]; done)), H', ⟨Nat.le_refl _⟩, ⟨by (with_reducible repeat (first | refine blk_drewN ?_ _ | refine blk_drew ?_ | refine blk_alloc ?_ _)); exact BK148.out⟩, ⟨by repeat (first | (with_reducible first | exact HB.out | apply below_alloc | apply pw_below_drewN | apply below_drew1 | refine below_set ?_ GE148.out) | exact HB.out)⟩⟩
          case round =>
            clear H'
            try clear c1
            try clear c2
            try clear p2
            try clear c4
            try clear c4b0
            try clear c6
            try clear c6b0
            try clear c8
            try clear c8b0
            try clear c8b1
            try clear c11
            try clear c14
            try clear c14b0
            try clear c14b1
            try clear c14b2
            try clear hcz10_0
            try clear hcz10_1
            try clear hcz10_2
            try clear hcz5_0
            try clear hcz5_1
            try clear hcz5_2
            try clear hcz7_0
            try clear hcz7_1
            try clear hcz7_2
            try clear hcz9_0
            try clear hcz9_1
            try clear hcz9_2
            try clear hfz10_0
            try clear hfz10_1
            try clear hfz10_2
            try clear hfz5_0
            try clear hfz5_1
            try clear hfz5_2
            try clear hfz7_0
            try clear hfz7_1
            try clear hfz7_2
            try clear hfz9_0
            try clear hfz9_1
            try clear hfz9_2
            try clear p2
            obtain ⟨x4_2, x5_2, rfl, rfl, HA, HK2, BK148, HB⟩ := hrel
            cases gk with
            | zero => exact absurd HA.out (by simp [humpyardref15_Lay.l0])
            | succ k2 =>
              have H := HA.out
              clear HA
              simp only [humpyardref15_Lay.l0] at H
              by_cases c18 : x5_2 < (l0_1.length : Int)
              · rw [if_pos c18] at H
                have c18b0 : decide (x5_2 < (l0_1.length : Int)) = true := decide_eq_true c18
                clear c18
                by_cases c19 : 0 ≤ x5_2
                · rw [if_pos c19] at H
                  have c19b0 : decide (0 ≤ x5_2) = true := decide_eq_true c19
                  clear c19
                  replace H := Option.bind_eq_some_iff.mp H
                  obtain ⟨t152, A200, H⟩ := H
                  replace H : (if x4_2.size + t152.size ≤ 9223372036854775807 then (humpyardref15_Lay.l0 k2 (x4_2 ++ t152) (wrap64 (x5_2 + 1)) a0_0 l0_1 a0_2) else (none)) = some (r1, r2) := H
                  have A20 := Aside0.mk A200
                  clear A200
                  by_cases c21 : x4_2.size + t152.size ≤ 9223372036854775807
                  · rw [if_pos c21] at H
                    have c21b0 := eq_true c21
                    have c21b1 : decide (x4_2.size + t152.size ≤ 9223372036854775807) = true := decide_eq_true c21
                    try have c21b2 : (9223372036854775807 < x4_2.size + t152.size) = False := eq_false (Nat.not_lt.2 c21)
                    have H' := Aside0.mk H
                    clear H
                    have hcz22_0 : wr.cell? ⟨gb148, 0, none⟩ = some (.int .i64 a0_0) := (blk_cell BK148.out 0).trans rfl
                    have hcz22_1 : wr.cell? ⟨gb148, 1, none⟩ = some (.slice A0_1 l0_1.length c0_1) := (blk_cell BK148.out 1).trans rfl
                    have hcz22_2 : wr.cell? ⟨gb148, 2, none⟩ = some (.string a0_2) := (blk_cell BK148.out 2).trans rfl
                    have hfz22_0 := blk_frozen BK148.out 0
                    have hfz22_1 := blk_frozen BK148.out 1
                    have hfz22_2 := blk_frozen BK148.out 2
                    have p151 : 0 ≤ (x5_2 : Int) := of_decide_eq_true (by first | (with_reducible assumption) | assumption)
                    have q151 : x5_2 < (l0_1.length : Int) := of_decide_eq_true (by first | (with_reducible assumption) | assumption)
                    obtain ⟨ad151, e151, hx151_0⟩ := Kd.at_int HR0_1.out x5_2 p151 q151
                    cases e151
                    replace hx151_0 := (HB.out.cell (World.block_lt_of_cell? w _ hx151_0)).trans hx151_0
                    replace p151 := eq_true p151
                    replace q151 := eq_true q151
                    go_wp2_with (first | ((with_reducible refine gate_callee (f := 21) rfl ?_); refine goesL_ (some 47) rfl rfl Try.func21 (by kernel_rfl) rfl #[.int .i64 8, .int .i64 (rd l0_1 x5_2)] rfl (by (try simp only [List.map_toArray, List.map_cons, List.map_nil]); first | done | rfl | (simp only [List.length_drop, List.length_take]; rfl)) ?_; (with_reducible refine (humpyardref15_num.calls k2 8 (rd l0_1 x5_2) t152 _ A20.out).mono ?_); rintro e w23 ⟨rfl, hb⟩; refine ⟨_, rfl, ?_⟩; have n0_ := Aside0.mk (blk_below (g := gb148) (o := .cells #[.int .i64 a0_0, .slice (some ad151) l0_1.length c0_1, .string a0_2] 29 (0, 0)) (by (with_reducible repeat (first | refine blk_drewN ?_ _ | refine blk_drew ?_ | refine blk_alloc ?_ _)); exact BK148.out) hb); have n1_ := Aside0.mk (below_step (by repeat (first | (with_reducible first | exact HB.out | apply below_alloc | apply pw_below_drewN | apply below_drew1 | refine below_set ?_ GE148.out) | exact HB.out)) hb); clear BK148; clear HB; have BK148 := n0_; have HB := n1_; clear n0_ n1_; (try clear hb); (try clear hb2); (try clear hk); (try clear hi)))
                    go_roundg k2
                    case measure => have := HJ1.out; have := HK2.out; omega
                    case rel => exact ⟨(x4_2 ++ t152), (wrap64 (x5_2 + 1)), (by first | rfl | (simp; done) | (simp [*]; done)), (by first | rfl | (simp; done) | (simp [*]; done)), H', ⟨by have := HJ1.out; have := HK2.out; omega⟩, ⟨by (with_reducible repeat (first | refine blk_drewN ?_ _ | refine blk_drew ?_ | refine blk_alloc ?_ _)); exact BK148.out⟩, ⟨by repeat (first | (with_reducible first | exact HB.out | apply below_alloc | apply pw_below_drewN | apply below_drew1 | refine below_set ?_ GE148.out) | exact HB.out)⟩⟩
                  · rw [if_neg c21] at H
                    exact absurd H (by simp)
                · rw [if_neg c19] at H
                  exact absurd H (by simp)
              · rw [if_neg c18] at H
                have c18b0 : decide (x5_2 < (l0_1.length : Int)) = false := decide_eq_false c18
                clear c18
                by_cases c24 : x4_2.size + a0_2.size ≤ 9223372036854775807
                · rw [if_pos c24] at H
                  have c24b0 := eq_true c24
                  have c24b1 : decide (x4_2.size + a0_2.size ≤ 9223372036854775807) = true := decide_eq_true c24
                  try have c24b2 : (9223372036854775807 < x4_2.size + a0_2.size) = False := eq_false (Nat.not_lt.2 c24)
                  replace H := Option.bind_eq_some_iff.mp H
                  obtain ⟨t153, A250, H⟩ := H
                  replace H : (if t153.size + (x4_2 ++ a0_2).size ≤ 9223372036854775807 then ((humpyardref06_Sum.f (t153 ++ (x4_2 ++ a0_2))).bind fun t154 => ((humpyardref15_num.f k2 4 (wrap64 (t154))).bind fun t155 => (if (t153 ++ (x4_2 ++ a0_2)).size + t155.size ≤ 9223372036854775807 then (some ((t153 ++ (x4_2 ++ a0_2)) ++ t155, 0)) else (none)))) else (none)) = some (r1, r2) := H
                  have A25 := Aside0.mk A250
                  clear A250
                  by_cases c26 : t153.size + (x4_2 ++ a0_2).size ≤ 9223372036854775807
                  · rw [if_pos c26] at H
                    have c26b0 := eq_true c26
                    have c26b1 : decide (t153.size + (x4_2 ++ a0_2).size ≤ 9223372036854775807) = true := decide_eq_true c26
                    try have c26b2 : (9223372036854775807 < t153.size + (x4_2 ++ a0_2).size) = False := eq_false (Nat.not_lt.2 c26)
                    have c26b3 : (9223372036854775807 < t153.size + (x4_2.size + a0_2.size)) = False := eq_false (by have h_ := c26; simp only [ByteArray.size_append, ByteArray.size_extract] at h_; omega)
                    replace H := Option.bind_eq_some_iff.mp H
                    obtain ⟨t154, A270, H⟩ := H
                    replace H : ((humpyardref15_num.f k2 4 (wrap64 (t154))).bind fun t155 => (if (t153 ++ (x4_2 ++ a0_2)).size + t155.size ≤ 9223372036854775807 then (some ((t153 ++ (x4_2 ++ a0_2)) ++ t155, 0)) else (none))) = some (r1, r2) := H
                    have A27 := Aside0.mk A270
                    clear A270
                    replace H := Option.bind_eq_some_iff.mp H
                    obtain ⟨t155, A280, H⟩ := H
                    replace H : (if (t153 ++ (x4_2 ++ a0_2)).size + t155.size ≤ 9223372036854775807 then (some ((t153 ++ (x4_2 ++ a0_2)) ++ t155, 0)) else (none)) = some (r1, r2) := H
                    have A28 := Aside0.mk A280
                    clear A280
                    by_cases c29 : (t153 ++ (x4_2 ++ a0_2)).size + t155.size ≤ 9223372036854775807
                    · rw [if_pos c29] at H
                      have c29b0 := eq_true c29
                      have c29b1 : decide ((t153 ++ (x4_2 ++ a0_2)).size + t155.size ≤ 9223372036854775807) = true := decide_eq_true c29
                      try have c29b2 : (9223372036854775807 < (t153 ++ (x4_2 ++ a0_2)).size + t155.size) = False := eq_false (Nat.not_lt.2 c29)
                      have c29b3 : (9223372036854775807 < t153.size + (x4_2.size + a0_2.size) + t155.size) = False := eq_false (by have h_ := c29; simp only [ByteArray.size_append, ByteArray.size_extract] at h_; omega)
                      simp only [Option.some.injEq, Prod.mk.injEq] at H
                      obtain ⟨rfl, rfl⟩ := H
                      have hcz30_0 : wr.cell? ⟨gb148, 0, none⟩ = some (.int .i64 a0_0) := (blk_cell BK148.out 0).trans rfl
                      have hcz30_1 : wr.cell? ⟨gb148, 1, none⟩ = some (.slice A0_1 l0_1.length c0_1) := (blk_cell BK148.out 1).trans rfl
                      have hcz30_2 : wr.cell? ⟨gb148, 2, none⟩ = some (.string a0_2) := (blk_cell BK148.out 2).trans rfl
                      have hfz30_0 := blk_frozen BK148.out 0
                      have hfz30_1 := blk_frozen BK148.out 1
                      have hfz30_2 := blk_frozen BK148.out 2
                      go_wp2_with (first | ((with_reducible refine gate_callee (f := 21) rfl ?_); refine goesL_ (some 55) rfl rfl Try.func21 (by kernel_rfl) rfl #[.int .i64 4, .int .i64 ((x4_2 ++ a0_2).size : Int)] rfl (by (try simp only [List.map_toArray, List.map_cons, List.map_nil]); first | done | rfl | (simp only [ByteArray.size_append, Int.natCast_add]; done) | (simp only [ByteArray.size_append, Int.natCast_add]; rfl) | (simp only [List.length_drop, List.length_take]; rfl)) ?_; (with_reducible refine (humpyardref15_num.calls k2 4 ((x4_2 ++ a0_2).size : Int) t153 _ A25.out).mono ?_); rintro e w31 ⟨rfl, hb⟩; refine ⟨_, rfl, ?_⟩; have n0_ := Aside0.mk (blk_below (g := gb148) (o := .cells #[.int .i64 a0_0, .slice A0_1 l0_1.length c0_1, .string a0_2] 29 (0, 0)) (by (with_reducible repeat (first | refine blk_drewN ?_ _ | refine blk_drew ?_ | refine blk_alloc ?_ _)); exact BK148.out) hb); have n1_ := Aside0.mk (below_step (by repeat (first | (with_reducible first | exact HB.out | apply below_alloc | apply pw_below_drewN | apply below_drew1 | refine below_set ?_ GE148.out) | exact HB.out)) hb); clear BK148; clear HB; have BK148 := n0_; have HB := n1_; clear n0_ n1_; (try clear hb); (try clear hb2); (try clear hk); (try clear hi)) | ((with_reducible refine gate_callee (f := 22) rfl ?_); refine goesL_ (some 60) rfl rfl Try.func22 (by kernel_rfl) rfl #[.string (t153 ++ (x4_2 ++ a0_2))] rfl (by (try simp only [List.map_toArray, List.map_cons, List.map_nil]); first | done | rfl | (simp only [List.length_drop, List.length_take]; rfl)) ?_; (with_reducible refine (humpyardref06_Sum.calls (t153 ++ (x4_2 ++ a0_2)) t154 _ A27.out).mono ?_); rintro e w' ⟨rfl, ⟨nd, rfl⟩⟩; refine ⟨_, rfl, ?_⟩) | ((with_reducible refine gate_callee (f := 21) rfl ?_); refine goesL_ (some 62) rfl rfl Try.func21 (by kernel_rfl) rfl #[.int .i64 4, .int .i64 (wrap64 (t154))] rfl (by (try simp only [List.map_toArray, List.map_cons, List.map_nil]); first | done | rfl | (simp only [List.length_drop, List.length_take]; rfl)) ?_; (with_reducible refine (humpyardref15_num.calls k2 4 (wrap64 (t154)) t155 _ A28.out).mono ?_); rintro e w32 ⟨rfl, hb⟩; refine ⟨_, rfl, ?_⟩; have n0_ := Aside0.mk (blk_below (g := gb148) (o := .cells #[.int .i64 a0_0, .slice A0_1 l0_1.length c0_1, .string a0_2] 29 (0, 0)) (by (with_reducible repeat (first | refine blk_drewN ?_ _ | refine blk_drew ?_ | refine blk_alloc ?_ _)); exact BK148.out) hb); have n1_ := Aside0.mk (below_step (by repeat (first | (with_reducible first | exact HB.out | apply below_alloc | apply pw_below_drewN | apply below_drew1 | refine below_set ?_ GE148.out) | exact HB.out)) hb); clear BK148; clear HB; have BK148 := n0_; have HB := n1_; clear n0_ n1_; (try clear hb); (try clear hb2); (try clear hk); (try clear hi)))
                      go_ret2
                      exact ⟨by first | rfl | (simp [errW_none, errW_some] <;> rfl) | (simp [*, errW_none, errW_some] <;> rfl), by repeat (first | (with_reducible first | exact HB.out | apply below_alloc | apply pw_below_drewN | apply below_drew1 | refine below_set ?_ GE148.out) | exact HB.out)⟩
                    · rw [if_neg c29] at H
                      exact absurd H (by simp)
                  · rw [if_neg c26] at H
                    exact absurd H (by simp)
                · rw [if_neg c24] at H
                  exact absurd H (by simp)
        · rw [if_neg c14] at H
          exact absurd H (by simp)

/-! ### humpyardlaw15_pick: function 13 -/
def humpyardlaw15_pick.f (a0 : Int) (a1 : Int) : Option (Int) := if a0 < 0 then (if a1 = 0 then (none) else (some (Int.tmod (wrap64 (-(wrap64 (a0 + 1)))) a1))) else (if a1 = 0 then (none) else (some (Int.tmod a0 a1)))
set_option maxHeartbeats 8000000 in
set_option maxRecDepth 100000 in
theorem humpyardlaw15_pick.calls (a0 : Int) (a1 : Int) (r : Int) (w : World) (h : humpyardlaw15_pick.f a0 a1 = some r) :
    Calls Try.prog 13 #[.int .i64 a0, .int .i64 a1] w fun e w' => e = .returned (.int .i64 r) ∧ Drawn0 w w' := by
  have H : (if a0 < 0 then (if a1 = 0 then (none) else (some (Int.tmod (wrap64 (-(wrap64 (a0 + 1)))) a1))) else (if a1 = 0 then (none) else (some (Int.tmod a0 a1)))) = some r := h
  clear h
  by_cases c3 : a0 < 0
  · rw [if_pos c3] at H
    have c3b0 : decide (a0 < 0) = true := decide_eq_true c3
    clear c3
    by_cases c4 : a1 = 0
    · rw [if_pos c4] at H
      exact absurd H (by simp)
    · rw [if_neg c4] at H
      have c4b0 : (a1 == 0) = false := beq_eq_false_iff_ne.mpr c4
      have c4b1 : (a1 != 0) = true := bne_iff_ne.mpr c4
      obtain rfl := Option.some.inj H
      go_enter Try.func13, Try.ntmps13
      go_wp2
      go_ret
      exact ⟨by first | rfl | (simp; done) | (simp [*]; done), by repeat (first | exact Drawn0.refl _ | apply Drawn0.step)⟩
  · rw [if_neg c3] at H
    have c3b0 : decide (a0 < 0) = false := decide_eq_false c3
    clear c3
    by_cases c5 : a1 = 0
    · rw [if_pos c5] at H
      exact absurd H (by simp)
    · rw [if_neg c5] at H
      have c5b0 : (a1 == 0) = false := beq_eq_false_iff_ne.mpr c5
      have c5b1 : (a1 != 0) = true := bne_iff_ne.mpr c5
      obtain rfl := Option.some.inj H
      go_enter Try.func13, Try.ntmps13
      go_wp2
      go_ret
      exact ⟨by first | rfl | (simp; done) | (simp [*]; done), by repeat (first | exact Drawn0.refl _ | apply Drawn0.step)⟩

end Go.Proofs.Ythaeecoahbohnaa.PJour
