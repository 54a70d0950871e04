-- Written by a program of this session (a patched copy of the kit's print); not trusted: Lean checks it.
import Derived.Test.YthaeecoahbohnaaPJourx0
import Derived.Test.YthaeecoahbohnaaPJourx4
import Derived.Test.YthaeecoahbohnaaPJourx5
namespace Go.Proofs.Ythaeecoahbohnaa.PJour
open Go.RowKit Go.Proofs.YthaeecoahbohnaaW.PrintWords Go.Proofs.YthaeecoahbohnaaW.PrintLast Go.Proofs.YthaeecoahbohnaaW.PrintMore
attribute [local go_sem] max2_int min2_int max_two min_two max_three min_three max_four min_four   -- for this text's walks alone
set_option linter.unusedVariables false
set_option linter.unusedSimpArgs false

/-! ### humpyardref15_Read: function 15 -/
mutual
def humpyardref15_Read.l0 : Nat → ByteArray → List (S29) → Int → Option ((List (S29)) × Int)
  | 0, _, _, _ => none
  | k + 1, x0, x4, x5 => if (wrap64 ((x0.size : Int) - x5)) ≥ 10 then (if 0 ≤ x5 then (if x5 ≤ (wrap64 (x5 + 4)) then (if (wrap64 (x5 + 4)) ≤ (x0.size : Int) then ((humpyardref15_value.f k (x0.extract (x5 : Int).toNat ((wrap64 (x5 + 4)) : Int).toNat)).bind fun t166 => (if t166 < 2 then (humpyardref15_Read.j1 k x0 x4 x5 t166 true) else (humpyardref15_Read.j1 k x0 x4 x5 t166 (decide (t166 > (wrap64 ((wrap64 ((x0.size : Int) - x5)) - 8))))))) else (none)) else (none)) else (none)) else (some (x4, x5))
def humpyardref15_Read.j1 : Nat → ByteArray → List (S29) → Int → Int → Bool → Option ((List (S29)) × Int)
  | 0, _, _, _, _, _ => none
  | k + 1, x0, x4, x5, x6, x34 => if x34 = true then (some (x4, x5)) else (if 0 ≤ (wrap64 (x5 + 4)) then (if (wrap64 (x5 + 4)) ≤ (wrap64 ((wrap64 (x5 + 4)) + x6)) then (if (wrap64 ((wrap64 (x5 + 4)) + x6)) ≤ (x0.size : Int) then (if 0 < ((x0.extract ((wrap64 (x5 + 4)) : Int).toNat ((wrap64 ((wrap64 (x5 + 4)) + x6)) : Int).toNat).size : Int) then (if 1 < ((x0.extract ((wrap64 (x5 + 4)) : Int).toNat ((wrap64 ((wrap64 (x5 + 4)) + x6)) : Int).toNat).size : Int) then (if x6 < (wrap64 (2 + (wrap64 (8 * (wrap64 (bt (x0.extract ((wrap64 (x5 + 4)) : Int).toNat ((wrap64 ((wrap64 (x5 + 4)) + x6)) : Int).toNat) 1)))))) then (some (x4, x5)) else (humpyardref15_Read.l1 k x0 x4 x5 x6 (x0.extract ((wrap64 (x5 + 4)) : Int).toNat ((wrap64 ((wrap64 (x5 + 4)) + x6)) : Int).toNat) (wrap64 (bt (x0.extract ((wrap64 (x5 + 4)) : Int).toNat ((wrap64 ((wrap64 (x5 + 4)) + x6)) : Int).toNat) 1)) 0 (wrap64 (bt (x0.extract ((wrap64 (x5 + 4)) : Int).toNat ((wrap64 ((wrap64 (x5 + 4)) + x6)) : Int).toNat) 0)) ([] : List Int) (⟨#[]⟩ : ByteArray))) else (none)) else (none)) else (none)) else (none)) else (none))
def humpyardref15_Read.l1 : Nat → ByteArray → List (S29) → Int → Int → ByteArray → Int → Int → Int → List Int → ByteArray → Option ((List (S29)) × Int)
  | 0, _, _, _, _, _, _, _, _, _, _ => none
  | k + 1, x0, x4, x5, x6, x7, x9, x10, x168000, x168001, x168002 => if x10 < x9 then (if 0 ≤ (wrap64 (2 + (wrap64 (8 * x10)))) then (if (wrap64 (2 + (wrap64 (8 * x10)))) ≤ (wrap64 (10 + (wrap64 (8 * x10)))) then (if (wrap64 (10 + (wrap64 (8 * x10)))) ≤ (x7.size : Int) then ((humpyardref15_value.f k (x7.extract ((wrap64 (2 + (wrap64 (8 * x10)))) : Int).toNat ((wrap64 (10 + (wrap64 (8 * x10)))) : Int).toNat)).bind fun t168 => (if x168001.length < 17592186044416 then (humpyardref15_Read.l1 k x0 x4 x5 x6 x7 x9 (wrap64 (x10 + 1)) x168000 (x168001 ++ [t168]) x168002) else (none))) else (none)) else (none)) else (none)) else (if 0 ≤ (wrap64 (2 + (wrap64 (8 * x9)))) then (if (wrap64 (2 + (wrap64 (8 * x9)))) ≤ (x7.size : Int) then ((humpyardref15_Lay.f k x168000 x168001 (x7.extract ((wrap64 (2 + (wrap64 (8 * x9)))) : Int).toNat x7.size)).bind fun bt172 => (if bt172.2 = 0 then (if 0 ≤ x5 then (if x5 ≤ (wrap64 ((wrap64 (x5 + x6)) + 8)) then (if (wrap64 ((wrap64 (x5 + x6)) + 8)) ≤ (x0.size : Int) then (if bt172.1.toList = (x0.extract (x5 : Int).toNat ((wrap64 ((wrap64 (x5 + x6)) + 8)) : Int).toNat).toList then (if x4.length < 2932031007402 then (humpyardref15_Read.l0 k x0 (x4 ++ [(⟨x168000, x168001, x7.extract ((wrap64 (2 + (wrap64 (8 * x9)))) : Int).toNat x7.size⟩ : S29)]) (wrap64 ((wrap64 (x5 + x6)) + 8))) else (none)) else (some (x4, x5))) else (none)) else (none)) else (none)) else (some (x4, x5)))) else (none)) else (none))
end
def humpyardref15_Read.f (k : Nat) (a0 : ByteArray) : Option ((List (S29)) × Int) := humpyardref15_Read.l0 k a0 ([] : List (S29)) 0
theorem humpyardref15_Read.mono_l : ∀ k, (∀ y0 y1 y2, LeO (humpyardref15_Read.l0 k y0 y1 y2) (humpyardref15_Read.l0 (k + 1) y0 y1 y2)) ∧ (∀ y0 y1 y2 y3 y4, LeO (humpyardref15_Read.j1 k y0 y1 y2 y3 y4) (humpyardref15_Read.j1 (k + 1) y0 y1 y2 y3 y4)) ∧ (∀ y0 y1 y2 y3 y4 y5 y6 y7 y8 y9, LeO (humpyardref15_Read.l1 k y0 y1 y2 y3 y4 y5 y6 y7 y8 y9) (humpyardref15_Read.l1 (k + 1) y0 y1 y2 y3 y4 y5 y6 y7 y8 y9))
  | 0 => ⟨fun _ _ _ r h => by simp [humpyardref15_Read.l0] at h, fun _ _ _ _ _ r h => by simp [humpyardref15_Read.j1] at h, fun _ _ _ _ _ _ _ _ _ _ r h => by simp [humpyardref15_Read.l1] at h⟩
  | k + 1 => by
    obtain ⟨ih0, ih1, ih2⟩ := humpyardref15_Read.mono_l k
    refine ⟨?_, ?_, ?_⟩
    · intro y0 y1 y2
      unfold humpyardref15_Read.l0
      repeat' first
      | (with_reducible exact ih0 _ _ _)
      | (with_reducible exact ih1 _ _ _ _ _)
      | (with_reducible exact ih2 _ _ _ _ _ _ _ _ _ _)
      | (with_reducible exact humpyardref15_Lay.mono _ _ _ _)
      | (with_reducible exact humpyardref15_value.mono _ _)
      | (with_reducible exact LeO.refl _)
      | (with_reducible exact LeO.none _)
      | (with_reducible refine LeO.ite ?_ ?_)
      | (with_reducible refine LeO.bind ?_ (fun _ => ?_))
      | exact ih0 _ _ _
      | exact ih1 _ _ _ _ _
      | exact ih2 _ _ _ _ _ _ _ _ _ _
      | exact humpyardref15_Lay.mono _ _ _ _
      | exact humpyardref15_value.mono _ _
      | exact LeO.none _
      | refine LeO.ite ?_ ?_
      | refine LeO.bind ?_ (fun _ => ?_)
    · intro y0 y1 y2 y3 y4
      unfold humpyardref15_Read.j1
      repeat' first
      | (with_reducible exact ih0 _ _ _)
      | (with_reducible exact ih1 _ _ _ _ _)
      | (with_reducible exact ih2 _ _ _ _ _ _ _ _ _ _)
      | (with_reducible exact humpyardref15_Lay.mono _ _ _ _)
      | (with_reducible exact humpyardref15_value.mono _ _)
      | (with_reducible exact LeO.refl _)
      | (with_reducible exact LeO.none _)
      | (with_reducible refine LeO.ite ?_ ?_)
      | (with_reducible refine LeO.bind ?_ (fun _ => ?_))
      | exact ih0 _ _ _
      | exact ih1 _ _ _ _ _
      | exact ih2 _ _ _ _ _ _ _ _ _ _
      | exact humpyardref15_Lay.mono _ _ _ _
      | exact humpyardref15_value.mono _ _
      | exact LeO.none _
      | refine LeO.ite ?_ ?_
      | refine LeO.bind ?_ (fun _ => ?_)
    · intro y0 y1 y2 y3 y4 y5 y6 y7 y8 y9
      unfold humpyardref15_Read.l1
      repeat' first
      | (with_reducible exact ih0 _ _ _)
      | (with_reducible exact ih1 _ _ _ _ _)
      | (with_reducible exact ih2 _ _ _ _ _ _ _ _ _ _)
      | (with_reducible exact humpyardref15_Lay.mono _ _ _ _)
      | (with_reducible exact humpyardref15_value.mono _ _)
      | (with_reducible exact LeO.refl _)
      | (with_reducible exact LeO.none _)
      | (with_reducible refine LeO.ite ?_ ?_)
      | (with_reducible refine LeO.bind ?_ (fun _ => ?_))
      | exact ih0 _ _ _
      | exact ih1 _ _ _ _ _
      | exact ih2 _ _ _ _ _ _ _ _ _ _
      | exact humpyardref15_Lay.mono _ _ _ _
      | exact humpyardref15_value.mono _ _
      | exact LeO.none _
      | refine LeO.ite ?_ ?_
      | refine LeO.bind ?_ (fun _ => ?_)
theorem humpyardref15_Read.mono : ∀ a0 k, LeO (humpyardref15_Read.f k a0) (humpyardref15_Read.f (k + 1) a0) := by
  intro a0 k
  obtain ⟨ih0, ih1, ih2⟩ := humpyardref15_Read.mono_l k
  unfold humpyardref15_Read.f
  repeat' first
      | (with_reducible exact ih0 _ _ _)
      | (with_reducible exact ih1 _ _ _ _ _)
      | (with_reducible exact ih2 _ _ _ _ _ _ _ _ _ _)
      | (with_reducible exact humpyardref15_Lay.mono _ _ _ _)
      | (with_reducible exact humpyardref15_value.mono _ _)
      | (with_reducible exact LeO.refl _)
      | (with_reducible exact LeO.none _)
      | (with_reducible refine LeO.ite ?_ ?_)
      | (with_reducible refine LeO.bind ?_ (fun _ => ?_))
      | exact ih0 _ _ _
      | exact ih1 _ _ _ _ _
      | exact ih2 _ _ _ _ _ _ _ _ _ _
      | exact humpyardref15_Lay.mono _ _ _ _
      | exact humpyardref15_value.mono _ _
      | exact LeO.none _
      | refine LeO.ite ?_ ?_
      | refine LeO.bind ?_ (fun _ => ?_)
def humpyardref15_Read.T13 : Bool × List (List Nat × List Nat) := (true, [([], []), ([0], [0]), ([], []), ([], []), ([3], [3]), ([4], [4]), ([], []), ([6], [6]), ([7], [7]), ([2, 5, 8], [2, 5, 8]), ([9], [9]), ([10], [10]), ([1, 11, 10], [1, 11]), ([0, 1, 2, 3, 4, 5, 6, 7, 8, 9, 10, 11, 12], []), ([13, 12, 12, 0, 1, 2, 3, 4, 5, 6, 7, 8, 9, 10, 11, 12], [12, 13])])
def humpyardref15_Read.B13 : List Nat := [0, 1, 0, 0, 8, 24, 0, 64, 192, 508, 1020, 2044, 4095, 8191, 16383]
theorem humpyardref15_Read.tab13 : rtab .any (opsOf Try.f15 13) = humpyardref15_Read.T13 := by kernel_rfl
theorem humpyardref15_Read.bits13 : waitsOk humpyardref15_Read.T13.2 humpyardref15_Read.B13 = true := by kernel_rfl
set_option maxHeartbeats 8000000 in
set_option maxRecDepth 100000 in
theorem humpyardref15_Read.calls (k : Nat) (a0 : ByteArray) (r1 : List (S29)) (r2 : Int) (w : World) (h : humpyardref15_Read.f k a0 = some (r1, r2)) :
    Calls Try.prog 15 #[.string a0] w fun e w' => ∃ v0_ : Value, e = .returned (.tuple #[v0_, .int .i64 r2]) ∧ Kd.S k29 29 w' w.heap.size (fun _ => True) v0_ r1 ∧ Below w.heap.size w w' := by
  have hu29 := Try.underlying29
  have HB := Aside0.mk (Below.refl w.heap.size w)
  have H : (humpyardref15_Read.l0 k a0 ([] : List (S29)) 0) = some (r1, r2) := h
  clear h
  have H' := Aside0.mk H
  clear H
  go_enter Try.func15, Try.ntmps15
  go_wp2
  go_loopg [4, 5] k (fun kq v4 v5 w' => ∃ (x4_1 : List (S29)) (x5_1 : Int), v5 = .int .i64 x5_1 ∧ Aside0 (humpyardref15_Read.l0 kq a0 x4_1 x5_1 = some (r1, r2)) ∧ Aside0 (kq ≤ k) ∧ Aside0 (Kd.S k29 29 w' w.heap.size (fun _ => True) v4 x4_1) ∧ Aside0 (Below w.heap.size w w'))
  case atStart => exact ⟨(([] : List (S29))), (0), (by first | rfl | (simp; done) | (simp [*]; done)), H', ⟨Nat.le_refl _⟩, ⟨by first | exact Kd.S_nil _ _ _ _ _ | exact Kd.N_nil _ _ _ _ _ | exact Kd.V_nil _ _ _ _ _ | exact Kd.Q_nil _ _ _ _ _ | exact Kd.R_nil _ _ _ _ _⟩, ⟨by repeat (first | (with_reducible first | exact HB.out | apply below_alloc | apply pw_below_drewN | apply below_drew1) | exact HB.out)⟩⟩
  case round =>
    clear H'
    try clear c1
    obtain ⟨x4_1, x5_1, rfl, HA, HK1, HO_4, HB⟩ := hrel
    cases gk with
    | zero => exact absurd HA.out (by simp [humpyardref15_Read.l0])
    | succ k1 =>
      have H := HA.out
      clear HA
      simp only [humpyardref15_Read.l0] at H
      by_cases c2 : (wrap64 ((a0.size : Int) - x5_1)) ≥ 10
      · rw [if_pos c2] at H
        have c2b0 : decide (10 ≤ (wrap64 ((a0.size : Int) - x5_1))) = true := decide_eq_true c2
        clear c2
        by_cases c3 : 0 ≤ x5_1
        · rw [if_pos c3] at H
          have c3b0 := eq_true c3
          have c3b1 : decide (0 ≤ x5_1) = true := decide_eq_true c3
          clear c3
          by_cases c4 : x5_1 ≤ (wrap64 (x5_1 + 4))
          · rw [if_pos c4] at H
            have c4b0 := eq_true c4
            have c4b1 : decide (x5_1 ≤ (wrap64 (x5_1 + 4))) = true := decide_eq_true c4
            by_cases c5 : (wrap64 (x5_1 + 4)) ≤ (a0.size : Int)
            · rw [if_pos c5] at H
              have c5b0 := eq_true c5
              have c5b1 : decide ((wrap64 (x5_1 + 4)) ≤ (a0.size : Int)) = true := decide_eq_true c5
              replace H := Option.bind_eq_some_iff.mp H
              obtain ⟨t166, A60, H⟩ := H
              replace H : (if t166 < 2 then (humpyardref15_Read.j1 k1 a0 x4_1 x5_1 t166 true) else (humpyardref15_Read.j1 k1 a0 x4_1 x5_1 t166 (decide (t166 > (wrap64 ((wrap64 ((a0.size : Int) - x5_1)) - 8)))))) = some (r1, r2) := H
              have A6 := Aside0.mk A60
              clear A60
              have HC7 := Aside0.mk H
              clear H
              go_upto_region 5 with (first | ((with_reducible refine gate_callee (f := 24) rfl ?_); refine goesL_ (some 23) rfl rfl Try.func24 (by kernel_rfl) rfl #[.string (a0.extract (x5_1 : Int).toNat ((wrap64 (x5_1 + 4)) : Int).toNat)] rfl (by (try simp only [List.map_toArray, List.map_cons, List.map_nil]); first | done | rfl | (simp only [List.length_drop, List.length_take]; rfl)) ?_; (with_reducible refine (humpyardref15_value.calls k1 (a0.extract (x5_1 : Int).toNat ((wrap64 (x5_1 + 4)) : Int).toNat) t166 _ A6.out).mono ?_); rintro e w' ⟨rfl, ⟨nd, rfl⟩⟩; refine ⟨_, rfl, ?_⟩))
              (try simp only [Act.put, List.setIfInBounds_toArray, List.set_cons_zero, List.set_cons_succ])
              go_cut [34] (fun v34 wc => ∃ (kq : Nat) (x34_6 : Bool), v34 = .bool x34_6 ∧ Aside0 (humpyardref15_Read.j1 kq a0 x4_1 x5_1 t166 x34_6 = some (r1, r2)) ∧ Aside0 (kq ≤ k1) ∧ Aside0 (Kd.S k29 29 wc w.heap.size (fun _ => True) u4 x4_1) ∧ Aside0 (Below w.heap.size w wc))
              case first =>
                have H := HC7.out
                clear HC7
                by_cases c8 : t166 < 2
                · rw [if_pos c8] at H
                  have c8b0 : decide (t166 < 2) = true := decide_eq_true c8
                  clear c8
                  (first | rw [c8b0] | (simp only [i64_w, i32_w]; rw [c8b0]) | skip)
                  have H' := Aside0.mk H
                  clear H
                  go_wp2
                  go_meet
                  case rel => exact ⟨_, (true), (by first | rfl | (simp; done) | (simp [*]; done)), H', ⟨by have := HK1.out; first | omega | exact Nat.le_refl _⟩, ⟨by (with_reducible repeat (first | apply Kd.S_alloc | apply Kd.S_drewN | apply Kd.S_drew)); exact HO_4.out⟩, ⟨by repeat (first | (with_reducible first | exact HB.out | apply below_alloc | apply pw_below_drewN | apply below_drew1) | exact HB.out)⟩⟩
                · rw [if_neg c8] at H
                  have c8b0 : decide (t166 < 2) = false := decide_eq_false c8
                  clear c8
                  (first | rw [c8b0] | (simp only [i64_w, i32_w]; rw [c8b0]) | skip)
                  have H' := Aside0.mk H
                  clear H
                  go_wp2
                  go_meet
                  case rel => exact ⟨_, (decide (t166 > (wrap64 ((wrap64 ((a0.size : Int) - x5_1)) - 8)))), (by first | rfl | (simp; done) | (simp [*]; done)), H', ⟨by have := HK1.out; first | omega | exact Nat.le_refl _⟩, ⟨by (with_reducible repeat (first | apply Kd.S_alloc | apply Kd.S_drewN | apply Kd.S_drew)); exact HO_4.out⟩, ⟨by repeat (first | (with_reducible first | exact HB.out | apply below_alloc | apply pw_below_drewN | apply below_drew1) | exact HB.out)⟩⟩
              case rest =>
                clear HC7
                try clear c1
                try clear c2
                try clear c2b0
                try clear p2
                try clear c3
                try clear c3b0
                try clear c3b1
                try clear c4
                try clear c4b0
                try clear c4b1
                try clear c5
                try clear c5b0
                try clear c5b1
                try clear p6
                try clear c8
                try clear c8b0
                obtain ⟨kq, x34_6, rfl, HA, HJ6, HO_4, HB⟩ := hcut
                cases kq with
                | zero => exact absurd HA.out (by simp [humpyardref15_Read.j1])
                | succ kj6 =>
                  have H := HA.out
                  clear HA
                  simp only [humpyardref15_Read.j1] at H
                  by_cases c9 : x34_6 = true
                  · subst c9
                    have H1 : (some (x4_1, x5_1)) = some (r1, r2) := by rw [if_pos rfl] at H; exact H
                    clear H
                    have H := H1
                    clear H1
                    simp only [Option.some.injEq, Prod.mk.injEq] at H
                    obtain ⟨rfl, rfl⟩ := H
                    go_wp2
                    go_ret2
                    exact ⟨_, by first | rfl | (simp [errW_none, errW_some] <;> rfl) | (simp [*, errW_none, errW_some] <;> rfl), by (with_reducible repeat (first | apply Kd.S_alloc | apply Kd.S_drewN | apply Kd.S_drew)); exact HO_4.out, by repeat (first | (with_reducible first | exact HB.out | apply below_alloc | apply pw_below_drewN | apply below_drew1) | exact HB.out)⟩
                  · replace c9 := Bool.eq_false_iff.mpr c9
                    subst c9
                    have H1 : (if 0 ≤ (wrap64 (x5_1 + 4)) then (if (wrap64 (x5_1 + 4)) ≤ (wrap64 ((wrap64 (x5_1 + 4)) + t166)) then (if (wrap64 ((wrap64 (x5_1 + 4)) + t166)) ≤ (a0.size : Int) then (if 0 < ((a0.extract ((wrap64 (x5_1 + 4)) : Int).toNat ((wrap64 ((wrap64 (x5_1 + 4)) + t166)) : Int).toNat).size : Int) then (if 1 < ((a0.extract ((wrap64 (x5_1 + 4)) : Int).toNat ((wrap64 ((wrap64 (x5_1 + 4)) + t166)) : Int).toNat).size : Int) then (if t166 < (wrap64 (2 + (wrap64 (8 * (wrap64 (bt (a0.extract ((wrap64 (x5_1 + 4)) : Int).toNat ((wrap64 ((wrap64 (x5_1 + 4)) + t166)) : Int).toNat) 1)))))) then (some (x4_1, x5_1)) else (humpyardref15_Read.l1 kj6 a0 x4_1 x5_1 t166 (a0.extract ((wrap64 (x5_1 + 4)) : Int).toNat ((wrap64 ((wrap64 (x5_1 + 4)) + t166)) : Int).toNat) (wrap64 (bt (a0.extract ((wrap64 (x5_1 + 4)) : Int).toNat ((wrap64 ((wrap64 (x5_1 + 4)) + t166)) : Int).toNat) 1)) 0 (wrap64 (bt (a0.extract ((wrap64 (x5_1 + 4)) : Int).toNat ((wrap64 ((wrap64 (x5_1 + 4)) + t166)) : Int).toNat) 0)) ([] : List Int) (⟨#[]⟩ : ByteArray))) else (none)) else (none)) else (none)) else (none)) else (none)) = some (r1, r2) := by rw [if_neg (show ¬ (false = true) by decide)] at H; exact H
                    clear H
                    have H := H1
                    clear H1
                    obtain ⟨ji10, hji10⟩ : ∃ j_ : Int, (wrap64 (x5_1 + 4)) = j_ := ⟨_, rfl⟩
                    replace H : (if 0 ≤ (ji10) then (if (ji10) ≤ (wrap64 ((ji10) + t166)) then (if (wrap64 ((ji10) + t166)) ≤ (a0.size : Int) then (if 0 < ((a0.extract ((ji10) : Int).toNat ((wrap64 ((ji10) + t166)) : Int).toNat).size : Int) then (if 1 < ((a0.extract ((ji10) : Int).toNat ((wrap64 ((ji10) + t166)) : Int).toNat).size : Int) then (if t166 < (wrap64 (2 + (wrap64 (8 * (wrap64 (bt (a0.extract ((ji10) : Int).toNat ((wrap64 ((ji10) + t166)) : Int).toNat) 1)))))) then (some (x4_1, x5_1)) else (humpyardref15_Read.l1 kj6 a0 x4_1 x5_1 t166 (a0.extract ((ji10) : Int).toNat ((wrap64 ((ji10) + t166)) : Int).toNat) (wrap64 (bt (a0.extract ((ji10) : Int).toNat ((wrap64 ((ji10) + t166)) : Int).toNat) 1)) 0 (wrap64 (bt (a0.extract ((ji10) : Int).toNat ((wrap64 ((ji10) + t166)) : Int).toNat) 0)) ([] : List Int) (⟨#[]⟩ : ByteArray))) else (none)) else (none)) else (none)) else (none)) else (none)) = some (r1, r2) := by first | (rw [hji10] at H; exact H) | (simp only [hji10] at H ⊢; exact H)
                    (try rw [hji10] at c4b0)
                    (try rw [hji10] at c4b1)
                    (try rw [hji10] at c4)
                    (try rw [hji10] at c5b0)
                    (try rw [hji10] at c5b1)
                    (try rw [hji10] at c5)
                    have hji10w : (IntKind.i64.wrap (x5_1 + 4)) = ji10 := (i64_w _).trans hji10
                    by_cases c11 : 0 ≤ (ji10)
                    · rw [if_pos c11] at H
                      have c11b0 := eq_true c11
                      have c11b1 : decide (0 ≤ (ji10)) = true := decide_eq_true c11
                      clear c11
                      by_cases c12 : (ji10) ≤ (wrap64 ((ji10) + t166))
                      · rw [if_pos c12] at H
                        have c12b0 := eq_true c12
                        have c12b1 : decide ((ji10) ≤ (wrap64 ((ji10) + t166))) = true := decide_eq_true c12
                        by_cases c13 : (wrap64 ((ji10) + t166)) ≤ (a0.size : Int)
                        · rw [if_pos c13] at H
                          have c13b0 := eq_true c13
                          have c13b1 : decide ((wrap64 ((ji10) + t166)) ≤ (a0.size : Int)) = true := decide_eq_true c13
                          generalize hbd : a0.extract ((ji10) : Int).toNat ((wrap64 ((ji10) + t166)) : Int).toNat = bd at *
                          by_cases c14 : 0 < (bd.size : Int)
                          · rw [if_pos c14] at H
                            have c14b0 : decide (0 < (bd.size : Int)) = true := decide_eq_true c14
                            have c14b1 : decide (0 < bd.size) = true := decide_eq_true (by omega)
                            clear c14
                            by_cases c16 : 1 < (bd.size : Int)
                            · rw [if_pos c16] at H
                              have c16b0 : decide (1 < (bd.size : Int)) = true := decide_eq_true c16
                              have c16b1 : decide (1 < bd.size) = true := decide_eq_true (by omega)
                              clear c16
                              by_cases c18 : t166 < (wrap64 (2 + (wrap64 (8 * (wrap64 (bt bd 1))))))
                              · rw [if_pos c18] at H
                                have c18b0 : decide (t166 < (wrap64 (2 + (wrap64 (8 * (wrap64 (bt bd 1))))))) = true := decide_eq_true c18
                                clear c18
                                simp only [Option.some.injEq, Prod.mk.injEq] at H
                                obtain ⟨rfl, rfl⟩ := H
                                have p15 : 0 ≤ (0 : Int) := (by omega)
                                have q15 : 0 < bd.size := (by have : (0 : Int) < (bd.size : Int) := of_decide_eq_true (by first | (with_reducible assumption) | assumption); omega)
                                have hx15 : ∀ h : 0 < bd.size, ((bd[0]'h).toNat : Int) = bt bd 0 := bt_at bd 0
                                clear p15
                                have qi15 : (0 < (bd.size : Int)) = True := eq_true (of_decide_eq_true (by first | (with_reducible assumption) | assumption))
                                replace q15 := eq_true q15
                                go_wp2_with (first | ((with_reducible refine gate_dst (N := 8) rfl ?_); (try (refine gate_guard (by rfl) ?_; dsimp only)); refine box_event ?hg (N := 8) ?hd (cs := #[.int .i64 0, .slice none 0 0, .string (⟨#[]⟩ : ByteArray)]) (t := 29) ?hr ?_; (case hd => rfl); (case hg => rfl); (case hr => first | (go_simp; done) | (go_simp; rfl)); intro gb167 hg w19 hbox hb; have n0_ := Aside0.mk (Kd.S_below (Kd.S_elderB (by (with_reducible repeat (first | apply Kd.S_alloc | apply Kd.S_drewN | apply Kd.S_drew)); exact HO_4.out) gb167 (Nat.le_of_eq hg.symm)) hb); have n1_ := Aside0.mk (below_step (by repeat (first | (with_reducible first | exact HB.out | apply below_alloc | apply pw_below_drewN | apply below_drew1) | exact HB.out)) hb); have n2_ := Aside0.mk (hbox); have n3_ := Aside0.mk ((by rw [hg]; exact (below_size (by repeat (first | (with_reducible first | exact HB.out | apply below_alloc | apply pw_below_drewN | apply below_drew1) | exact HB.out))) : w.heap.size ≤ gb167)); have n4_ := Aside0.mk ((by rw [hg]; exact (below_size (by repeat (first | (with_reducible first | exact HB.out | apply below_alloc | apply pw_below_drewN | apply below_drew1) | exact HB.out))) : w.heap.size ≤ gb167)); clear HO_4; clear HB; have HO_4 := n0_; have HB := n1_; have BK167 := n2_; have GW167 := n3_; have GE167 := n4_; clear n0_ n1_ n2_ n3_ n4_; clear hb hbox hg; have hcz20_0 : w19.cell? ⟨gb167, 0, none⟩ = some (.int .i64 0) := (blk_cell BK167.out 0).trans rfl; have hcz20_1 : w19.cell? ⟨gb167, 1, none⟩ = some (.slice none 0 0) := (blk_cell BK167.out 1).trans rfl; have hcz20_2 : w19.cell? ⟨gb167, 2, none⟩ = some (.string (⟨#[]⟩ : ByteArray)) := (blk_cell BK167.out 2).trans rfl; have hfz20_0 := blk_frozen BK167.out 0; have hfz20_1 := blk_frozen BK167.out 1; have hfz20_2 := blk_frozen BK167.out 2; have p17 : 0 ≤ (1 : Int) := (by omega); have q17 : 1 < bd.size := (by have : (1 : Int) < (bd.size : Int) := of_decide_eq_true (by first | (with_reducible assumption) | assumption); omega); have hx17 : ∀ h : 1 < bd.size, ((bd[1]'h).toNat : Int) = bt bd 1 := bt_at bd 1; clear p17; have qi17 : (1 < (bd.size : Int)) = True := eq_true (of_decide_eq_true (by first | (with_reducible assumption) | assumption)); replace q17 := eq_true q17))
                                go_ret2
                                exact ⟨_, by first | rfl | (simp [errW_none, errW_some] <;> rfl) | (simp only [← hji10]; first | rfl | (simp [errW_none, errW_some] <;> rfl)) | (simp [*, errW_none, errW_some] <;> rfl), by (with_reducible repeat (first | apply Kd.S_alloc | apply Kd.S_drewN | apply Kd.S_drew)); exact Kd.S_mono (Kd.S_far (p := ⟨gb167, 2, none⟩) (Kd.S_far (p := ⟨gb167, 1, none⟩) (Kd.S_far (p := ⟨gb167, 0, none⟩) (Kd.S_mono HO_4.out (fun k_ hk => (⟨hk, hk.2⟩ : _ ∧ k_ ≠ gb167))) (fun _ hk => hk.2) (.int .i64 (wrap64 (bt bd 0)))) (fun _ hk => hk.2) (.slice none 0 0)) (fun _ hk => hk.2) (.string (⟨#[]⟩ : ByteArray))) (fun _ hk => trivial), by repeat (first | (with_reducible first | exact HB.out | apply below_alloc | apply pw_below_drewN | apply below_drew1 | refine below_set ?_ GE167.out) | exact HB.out)⟩
                              · rw [if_neg c18] at H
                                have c18b0 : decide (t166 < (wrap64 (2 + (wrap64 (8 * (wrap64 (bt bd 1))))))) = false := decide_eq_false c18
                                clear c18
                                have H' := Aside0.mk H
                                clear H
                                have p15 : 0 ≤ (0 : Int) := (by omega)
                                have q15 : 0 < bd.size := (by have : (0 : Int) < (bd.size : Int) := of_decide_eq_true (by first | (with_reducible assumption) | assumption); omega)
                                have hx15 : ∀ h : 0 < bd.size, ((bd[0]'h).toNat : Int) = bt bd 0 := bt_at bd 0
                                clear p15
                                have qi15 : (0 < (bd.size : Int)) = True := eq_true (of_decide_eq_true (by first | (with_reducible assumption) | assumption))
                                replace q15 := eq_true q15
                                go_wp2_with (first | ((with_reducible refine gate_dst (N := 8) rfl ?_); (try (refine gate_guard (by rfl) ?_; dsimp only)); refine box_event ?hg (N := 8) ?hd (cs := #[.int .i64 0, .slice none 0 0, .string (⟨#[]⟩ : ByteArray)]) (t := 29) ?hr ?_; (case hd => rfl); (case hg => rfl); (case hr => first | (go_simp; done) | (go_simp; rfl)); intro gb167 hg w21 hbox hb; have n0_ := Aside0.mk (Kd.S_below (Kd.S_elderB (by (with_reducible repeat (first | apply Kd.S_alloc | apply Kd.S_drewN | apply Kd.S_drew)); exact HO_4.out) gb167 (Nat.le_of_eq hg.symm)) hb); have n1_ := Aside0.mk (below_step (by repeat (first | (with_reducible first | exact HB.out | apply below_alloc | apply pw_below_drewN | apply below_drew1) | exact HB.out)) hb); have n2_ := Aside0.mk (hbox); have n3_ := Aside0.mk ((by rw [hg]; exact (below_size (by repeat (first | (with_reducible first | exact HB.out | apply below_alloc | apply pw_below_drewN | apply below_drew1) | exact HB.out))) : w.heap.size ≤ gb167)); have n4_ := Aside0.mk ((by rw [hg]; exact (below_size (by repeat (first | (with_reducible first | exact HB.out | apply below_alloc | apply pw_below_drewN | apply below_drew1) | exact HB.out))) : w.heap.size ≤ gb167)); clear HO_4; clear HB; have HO_4 := n0_; have HB := n1_; have BK167 := n2_; have GW167 := n3_; have GE167 := n4_; clear n0_ n1_ n2_ n3_ n4_; clear hb hbox hg; have hcz22_0 : w21.cell? ⟨gb167, 0, none⟩ = some (.int .i64 0) := (blk_cell BK167.out 0).trans rfl; have hcz22_1 : w21.cell? ⟨gb167, 1, none⟩ = some (.slice none 0 0) := (blk_cell BK167.out 1).trans rfl; have hcz22_2 : w21.cell? ⟨gb167, 2, none⟩ = some (.string (⟨#[]⟩ : ByteArray)) := (blk_cell BK167.out 2).trans rfl; have hfz22_0 := blk_frozen BK167.out 0; have hfz22_1 := blk_frozen BK167.out 1; have hfz22_2 := blk_frozen BK167.out 2; have p17 : 0 ≤ (1 : Int) := (by omega); have q17 : 1 < bd.size := (by have : (1 : Int) < (bd.size : Int) := of_decide_eq_true (by first | (with_reducible assumption) | assumption); omega); have hx17 : ∀ h : 1 < bd.size, ((bd[1]'h).toNat : Int) = bt bd 1 := bt_at bd 1; clear p17; have qi17 : (1 < (bd.size : Int)) = True := eq_true (of_decide_eq_true (by first | (with_reducible assumption) | assumption)); replace q17 := eq_true q17))
                                go_loopg [10] kj6 (fun kq v10 w' => ∃ (x10_3 : Int) (x168001_3 : List Int) (u168001 : Value), v10 = .int .i64 x10_3 ∧ Aside0 (humpyardref15_Read.l1 kq a0 x4_1 x5_1 t166 bd (wrap64 (bt bd 1)) x10_3 (wrap64 (bt bd 0)) x168001_3 (⟨#[]⟩ : ByteArray) = some (r1, r2)) ∧ Aside0 (kq ≤ kj6) ∧ Aside0 (Kd.S k29 29 w' w.heap.size (fun k_ => some k_ ≠ (u168001 : Value).ownBlock ∧ k_ ≠ gb167) u4 x4_1) ∧ Aside0 (Kd.R (Kd.int .i64) 3 w' w.heap.size (fun _ => True) u168001 x168001_3) ∧ Aside0 (w'.heap[gb167]? = some (.cells #[.int .i64 (wrap64 (bt bd 0)), u168001, .string (⟨#[]⟩ : ByteArray)] 29 (0, 0))) ∧ Aside0 (Below w.heap.size w w'))
                                case atStart => exact ⟨(0), (([] : List Int)), (.slice none 0 0), (by first | rfl | (simp; done) | (simp [*]; done)), H', ⟨Nat.le_refl _⟩, ⟨by (with_reducible repeat (first | apply Kd.S_alloc | apply Kd.S_drewN | apply Kd.S_drew)); exact Kd.S_mono (Kd.S_far (p := ⟨gb167, 2, none⟩) (Kd.S_far (p := ⟨gb167, 1, none⟩) (Kd.S_far (p := ⟨gb167, 0, none⟩) (Kd.S_mono HO_4.out (fun k_ hk => (⟨hk, hk.2⟩ : _ ∧ k_ ≠ gb167))) (fun _ hk => hk.2) (.int .i64 (wrap64 (bt bd 0)))) (fun _ hk => hk.2) (.slice none 0 0)) (fun _ hk => hk.2) (.string (⟨#[]⟩ : ByteArray))) (fun _ hk => ⟨(by simp [Value.ownBlock]), hk.1.2⟩)⟩, ⟨by first | exact Kd.R_nil _ _ _ _ _ | exact Kd.N_nil _ _ _ _ _ | exact Kd.V_nil _ _ _ _ _ | exact Kd.Q_nil _ _ _ _ _ | exact Kd.S_nil _ _ _ _ _⟩, ⟨by (with_reducible repeat (first | refine blk_drewN ?_ _ | refine blk_drew ?_ | refine blk_alloc ?_ _)); refine blk_put (cs := #[.int .i64 (wrap64 (bt bd 0)), .slice none 0 0, .string (⟨#[]⟩ : ByteArray)]) ?_ 2 _ rfl; (with_reducible repeat (first | refine blk_drewN ?_ _ | refine blk_drew ?_ | refine blk_alloc ?_ _)); refine blk_put (cs := #[.int .i64 (wrap64 (bt bd 0)), .slice none 0 0, .string (⟨#[]⟩ : ByteArray)]) ?_ 1 _ rfl; (with_reducible repeat (first | refine blk_drewN ?_ _ | refine blk_drew ?_ | refine blk_alloc ?_ _)); refine blk_put (cs := #[.int .i64 0, .slice none 0 0, .string (⟨#[]⟩ : ByteArray)]) ?_ 0 _ rfl; (with_reducible repeat (first | refine blk_drewN ?_ _ | refine blk_drew ?_ | refine blk_alloc ?_ _)); exact BK167.out⟩, ⟨by repeat (first | (with_reducible first | exact HB.out | apply below_alloc | apply pw_below_drewN | apply below_drew1 | refine below_set ?_ GE167.out) | exact HB.out)⟩⟩
                                case round =>
                                  clear H'
                                  try clear c1
                                  try clear p1
                                  try clear q1
                                  try clear hx1
                                  try clear qi1
                                  try clear c2
                                  try clear c2b0
                                  try clear p2
                                  try clear c3
                                  try clear c3b0
                                  try clear c3b1
                                  try clear c4
                                  try clear c4b0
                                  try clear c4b1
                                  try clear c5
                                  try clear c5b0
                                  try clear c5b1
                                  try clear p6
                                  try clear c8
                                  try clear c8b0
                                  try clear c9
                                  try clear c11
                                  try clear c11b0
                                  try clear c11b1
                                  try clear c12
                                  try clear c12b0
                                  try clear c12b1
                                  try clear c13
                                  try clear c13b0
                                  try clear c13b1
                                  try clear c14
                                  try clear c14b0
                                  try clear c14b1
                                  try clear c15
                                  try clear p15
                                  try clear q15
                                  try clear hx15
                                  try clear qi15
                                  try clear c16
                                  try clear c16b0
                                  try clear c16b1
                                  try clear p17
                                  try clear q17
                                  try clear hx17
                                  try clear qi17
                                  try clear c18
                                  try clear c18b0
                                  try clear hcz20_0
                                  try clear hcz20_1
                                  try clear hcz20_2
                                  try clear hcz22_0
                                  try clear hcz22_1
                                  try clear hcz22_2
                                  try clear hfz20_0
                                  try clear hfz20_1
                                  try clear hfz20_2
                                  try clear hfz22_0
                                  try clear hfz22_1
                                  try clear hfz22_2
                                  try clear p15
                                  try clear p17
                                  try clear p2
                                  try clear p6
                                  try clear q15
                                  try clear q17
                                  obtain ⟨x10_3, x168001_3, u168001, rfl, HA, HK3, HO_4, HO_168001, BK167, HB⟩ := hrel
                                  cases gk with
                                  | zero => exact absurd HA.out (by simp [humpyardref15_Read.l1])
                                  | succ k3 =>
                                    have H := HA.out
                                    clear HA
                                    simp only [humpyardref15_Read.l1] at H
                                    by_cases c23 : x10_3 < (wrap64 (bt bd 1))
                                    · rw [if_pos c23] at H
                                      have c23b0 : decide (x10_3 < (wrap64 (bt bd 1))) = true := decide_eq_true c23
                                      clear c23
                                      obtain ⟨ji24, hji24⟩ : ∃ j_ : Int, (wrap64 (2 + (wrap64 (8 * x10_3)))) = j_ := ⟨_, rfl⟩
                                      replace H : (if 0 ≤ (ji24) then (if (ji24) ≤ (wrap64 (10 + (wrap64 (8 * x10_3)))) then (if (wrap64 (10 + (wrap64 (8 * x10_3)))) ≤ (bd.size : Int) then ((humpyardref15_value.f k3 (bd.extract ((ji24) : Int).toNat ((wrap64 (10 + (wrap64 (8 * x10_3)))) : Int).toNat)).bind fun t168 => (if x168001_3.length < 17592186044416 then (humpyardref15_Read.l1 k3 a0 x4_1 x5_1 t166 bd (wrap64 (bt bd 1)) (wrap64 (x10_3 + 1)) (wrap64 (bt bd 0)) (x168001_3 ++ [t168]) (⟨#[]⟩ : ByteArray)) else (none))) else (none)) else (none)) else (none)) = some (r1, r2) := by first | (rw [hji24] at H; exact H) | (simp only [hji24] at H ⊢; exact H)
                                      have hji24w : (IntKind.i64.wrap (2 + (wrap64 (8 * x10_3)))) = ji24 := (i64_w _).trans hji24
                                      by_cases c25 : 0 ≤ (ji24)
                                      · rw [if_pos c25] at H
                                        have c25b0 := eq_true c25
                                        have c25b1 : decide (0 ≤ (ji24)) = true := decide_eq_true c25
                                        clear c25
                                        by_cases c26 : (ji24) ≤ (wrap64 (10 + (wrap64 (8 * x10_3))))
                                        · rw [if_pos c26] at H
                                          have c26b0 := eq_true c26
                                          have c26b1 : decide ((ji24) ≤ (wrap64 (10 + (wrap64 (8 * x10_3))))) = true := decide_eq_true c26
                                          by_cases c27 : (wrap64 (10 + (wrap64 (8 * x10_3)))) ≤ (bd.size : Int)
                                          · rw [if_pos c27] at H
                                            have c27b0 := eq_true c27
                                            have c27b1 : decide ((wrap64 (10 + (wrap64 (8 * x10_3)))) ≤ (bd.size : Int)) = true := decide_eq_true c27
                                            replace H := Option.bind_eq_some_iff.mp H
                                            obtain ⟨t168, A280, H⟩ := H
                                            replace H : (if x168001_3.length < 17592186044416 then (humpyardref15_Read.l1 k3 a0 x4_1 x5_1 t166 bd (wrap64 (bt bd 1)) (wrap64 (x10_3 + 1)) (wrap64 (bt bd 0)) (x168001_3 ++ [t168]) (⟨#[]⟩ : ByteArray)) else (none)) = some (r1, r2) := H
                                            have A28 := Aside0.mk A280
                                            clear A280
                                            by_cases c29 : x168001_3.length < 17592186044416
                                            · rw [if_pos c29] at H
                                              have LMc29 := Aside0.mk c29
                                              clear c29
                                              obtain ⟨y169, hy169⟩ : ∃ y_ : List Int, y_ = (x168001_3 ++ [t168]) := ⟨_, rfl⟩
                                              replace H : (humpyardref15_Read.l1 k3 a0 x4_1 x5_1 t166 bd (wrap64 (bt bd 1)) (wrap64 (x10_3 + 1)) (wrap64 (bt bd 0)) y169 (⟨#[]⟩ : ByteArray)) = some (r1, r2) := by first | (rw [hy169]; with_reducible exact H) | (have H2_ := (Option.bind_some _ _).symm.trans H; rw [hy169]; with_reducible exact H2_) | (have H2_ := (Option.bind_some _ _).symm.trans H; with_reducible exact H2_) | with_reducible exact H | (rw [hy169]; exact H) | exact H
                                              have Ny169 := Aside0.mk hy169
                                              clear hy169
                                              have H' := Aside0.mk H
                                              clear H
                                              try go_wp2
                                              have n0_ := Aside0.mk (Kd.S_drew HO_4.out)
                                              have n1_ := Aside0.mk (Kd.R_drew HO_168001.out)
                                              have n2_ := Aside0.mk (blk_drew BK167.out)
                                              have n3_ := Aside0.mk (below_drew1 HB.out)
                                              clear HO_4
                                              clear HO_168001
                                              clear BK167
                                              clear HB
                                              have HO_4 := n0_
                                              have HO_168001 := n1_
                                              have BK167 := n2_
                                              have HB := n3_
                                              clear n0_ n1_ n2_ n3_
                                              refine start_ (n := 15) (S := fun w' => w'.cell? ⟨gb167, 0, none⟩ = some (.int .i64 (wrap64 (bt bd 0))) ∧ w'.cell? ⟨gb167, 1, none⟩ = some (u168001) ∧ w'.cell? ⟨gb167, 2, none⟩ = some (.string (⟨#[]⟩ : ByteArray))) (ds := [14]) #[false, false, false, false, false, false, false, false, false, false, false, false, false, false, false] (by kernel_rfl) rfl rfl ⟨(blk_cell BK167.out 0).trans rfl, (blk_cell BK167.out 1).trans rfl, (blk_cell BK167.out 2).trans rfl⟩ (fun hHeld => ?_); refine with_tabW humpyardref15_Read.tab13 humpyardref15_Read.bits13 (fun HT_ HW_ => ?_)
                                              generalize wr.drew = w30 at HO_4 HO_168001 BK167 HB hHeld ⊢
                                              refine pure_ (i := 0) (N := some 60) (v := ?_) (a' := ?_) #[true, false, false, false, false, false, false, false, false, false, false, false, false, false, false] rfl rfl (any_of HT_.out (by kernel_rfl)) (fun _ _ _ h => h) (Or.inl ⟨by rfl, ?_⟩) ?_ ?_
                                              rotate_left
                                              · intro w'
                                                go_simp
                                                with_reducible rfl
                                              rotate_left
                                              · simp only [Act.put, List.setIfInBounds_toArray, List.set_cons_zero, List.set_cons_succ, i64_w, i32_w]
                                                rfl
                                              refine pure_ (i := 2) (N := some 62) (v := ?_) (a' := ?_) #[true, false, true, false, false, false, false, false, false, false, false, false, false, false, false] rfl rfl (any_of HT_.out (by kernel_rfl)) (fun _ _ _ h => h) (Or.inl ⟨by rfl, ?_⟩) ?_ ?_
                                              rotate_left
                                              · intro w'
                                                go_simp
                                                with_reducible rfl
                                              rotate_left
                                              · simp only [Act.put, List.setIfInBounds_toArray, List.set_cons_zero, List.set_cons_succ, i64_w, i32_w]
                                                rfl
                                              refine pure_ (i := 3) (N := some 63) (v := ?_) (a' := ?_) #[true, false, true, true, false, false, false, false, false, false, false, false, false, false, false] rfl rfl (any_of HT_.out (by kernel_rfl)) (fun _ _ _ h => h) (Or.inl ⟨by rfl, ?_⟩) ?_ ?_
                                              rotate_left
                                              · intro w'
                                                go_simp
                                                with_reducible rfl
                                              rotate_left
                                              · simp only [Act.put, List.setIfInBounds_toArray, List.set_cons_zero, List.set_cons_succ, i64_w, i32_w]
                                                rfl
                                              refine pure_ (i := 4) (N := some 64) (v := ?_) (a' := ?_) #[true, false, true, true, true, false, false, false, false, false, false, false, false, false, false] rfl rfl (any_of HT_.out (by kernel_rfl)) (fun _ _ _ h => h) (Or.inl ⟨by rfl, ?_⟩) ?_ ?_
                                              rotate_left
                                              · intro w'
                                                go_simp
                                                with_reducible rfl
                                              rotate_left
                                              · simp only [Act.put, List.setIfInBounds_toArray, List.set_cons_zero, List.set_cons_succ, i64_w, i32_w]
                                                rfl
                                              refine pure_ (i := 5) (N := some 65) (v := ?_) (a' := ?_) #[true, false, true, true, true, true, false, false, false, false, false, false, false, false, false] rfl rfl (any_of HT_.out (by kernel_rfl)) (fun _ _ _ h => h) (Or.inl ⟨by rfl, ?_⟩) ?_ ?_
                                              rotate_left
                                              · intro w'
                                                go_simp
                                                with_reducible rfl
                                              rotate_left
                                              · simp only [Act.put, List.setIfInBounds_toArray, List.set_cons_zero, List.set_cons_succ, i64_w, i32_w]
                                                rfl
                                              refine pure_ (i := 6) (N := some 66) (v := ?_) (a' := ?_) #[true, false, true, true, true, true, true, false, false, false, false, false, false, false, false] rfl rfl (any_of HT_.out (by kernel_rfl)) (fun _ _ _ h => h) (Or.inl ⟨by rfl, ?_⟩) ?_ ?_
                                              rotate_left
                                              · intro w'
                                                go_simp
                                                with_reducible rfl
                                              rotate_left
                                              · simp only [Act.put, List.setIfInBounds_toArray, List.set_cons_zero, List.set_cons_succ, i64_w, i32_w]
                                                rfl
                                              refine pure_ (i := 7) (N := some 67) (v := ?_) (a' := ?_) #[true, false, true, true, true, true, true, true, false, false, false, false, false, false, false] rfl rfl (any_of HT_.out (by kernel_rfl)) (fun _ _ _ h => h) (Or.inl ⟨by rfl, ?_⟩) ?_ ?_
                                              rotate_left
                                              · intro w'
                                                go_simp
                                                with_reducible rfl
                                              rotate_left
                                              · simp only [Act.put, List.setIfInBounds_toArray, List.set_cons_zero, List.set_cons_succ, i64_w, i32_w]
                                                rfl
                                              refine pure_ (i := 8) (N := some 68) (v := ?_) (a' := ?_) #[true, false, true, true, true, true, true, true, true, false, false, false, false, false, false] rfl rfl (any_of HT_.out (by kernel_rfl)) (fun _ _ _ h => h) (Or.inl ⟨by rfl, ?_⟩) ?_ ?_
                                              rotate_left
                                              · intro w'
                                                go_simp
                                                with_reducible rfl
                                              rotate_left
                                              · simp only [Act.put, List.setIfInBounds_toArray, List.set_cons_zero, List.set_cons_succ, i64_w, i32_w]
                                                rfl
                                              refine pure_ (i := 9) (N := some 69) (v := ?_) (a' := ?_) #[true, false, true, true, true, true, true, true, true, true, false, false, false, false, false] rfl rfl (any_of HT_.out (by kernel_rfl)) (fun _ _ _ h => h) (Or.inl ⟨by rfl, ?_⟩) ?_ ?_
                                              rotate_left
                                              · intro w'
                                                go_simp
                                                with_reducible rfl
                                              rotate_left
                                              · simp only [Act.put, List.setIfInBounds_toArray, List.set_cons_zero, List.set_cons_succ, i64_w, i32_w]
                                                rfl
                                              refine take_ (i := 1) (N := some 61) (v := ?_) (a' := ?_) #[true, true, true, true, true, true, true, true, true, true, false, false, false, false, false] rfl rfl (take_ofW HT_.out HW_.out (by kernel_rfl)) (fun _ _ _ h => h) (Or.inl ⟨by rfl, ?_⟩) hHeld ?_ ?_
                                              rotate_left
                                              · rintro w' ⟨s0, s1, s2⟩
                                                go_simp
                                                with_reducible rfl
                                              rotate_left
                                              · simp only [Act.put, List.setIfInBounds_toArray, List.set_cons_zero, List.set_cons_succ, i64_w, i32_w]
                                                rfl
                                              refine one_ (i := 10) (N := some 70) #[true, true, true, true, true, true, true, true, true, true, true, false, false, false, false] rfl rfl (one_of HT_.out (by kernel_rfl)) (by decide) (fun K hK => ?_)
                                              refine goes_ Try.func24 (by kernel_rfl) rfl #[.string (bd.extract ((ji24) : Int).toNat ((wrap64 (10 + (wrap64 (8 * x10_3)))) : Int).toNat)] (by rfl) rfl rfl (by (try simp only [List.map_toArray, List.map_cons, List.map_nil]); first | done | (simp only [hji10, hji24]; rfl) | rfl | (simp only [List.length_drop, List.length_take]; rfl)) ?_
                                              with_reducible refine (humpyardref15_value.calls k3 (bd.extract ((ji24) : Int).toNat ((wrap64 (10 + (wrap64 (8 * x10_3)))) : Int).toNat) t168 _ A28.out).mono ?_
                                              rintro e w' ⟨rfl, ⟨nd, rfl⟩⟩
                                              refine ⟨_, rfl, ?_⟩
                                              refine hK.out _ _ ⟨(blk_cell BK167.out 0).trans rfl, (blk_cell BK167.out 1).trans rfl, (blk_cell BK167.out 2).trans rfl⟩ (fun hHeld => ?_)
                                              clear hK K
                                              refine norm_ (a' := ?_) ?_ ?_
                                              rotate_left
                                              · show Act.put _ (some 70) _ = _
                                                simp only [Act.put, List.setIfInBounds_toArray, List.set_cons_zero, List.set_cons_succ, i64_w, i32_w]
                                                rfl
                                              refine one_ (i := 11) (N := some 71) #[true, true, true, true, true, true, true, true, true, true, true, true, false, false, false] rfl rfl (one_of HT_.out (by kernel_rfl)) (by decide) (fun K hK => ?_)
                                              refine value_ (w1 := ?_) (v := ?_) (by rfl) rfl ?_ ?_
                                              rotate_left 2
                                              · go_simp
                                                constructor
                                                · rfl
                                                · rfl
                                              refine hK.out _ _ ⟨(blk_cell (blk_alloc BK167.out _) 0).trans rfl, (blk_cell (blk_alloc BK167.out _) 1).trans rfl, (blk_cell (blk_alloc BK167.out _) 2).trans rfl⟩ (fun hHeld => ?_)
                                              clear hK K
                                              refine norm_ (a' := ?_) ?_ ?_
                                              rotate_left
                                              · show Act.put _ (some 71) _ = _
                                                simp only [Act.put, List.setIfInBounds_toArray, List.set_cons_zero, List.set_cons_succ, i64_w, i32_w]
                                                rfl
                                              refine one_ (i := 12) (N := some 72) #[true, true, true, true, true, true, true, true, true, true, true, true, true, false, false] rfl rfl (one_of HT_.out (by kernel_rfl)) (by decide) (fun K hK => ?_)
                                              refine Kd.R_append_step (Kd.int .i64) (w0 := w) w.heap.size (by rfl) (.tmp 61) (.tmp 71) 27 3 (.int .i64 0) 8 rfl Try.underlying27 info3 rfl (by decide) (by omega) u168001 x168001_3 t168 [.int .i64 t168] (fun _ => True) (fun _ => False) rfl rfl ?aP (fun _ hk => hk.elim) ?aF ?aO ?aB ?aS ?aL ?_
                                              (case aP => exact rfl)
                                              (case aB => exact (by repeat (first | (with_reducible first | exact HB.out | apply below_alloc | apply pw_below_drewN | apply below_drew1 | refine below_set ?_ GE167.out) | exact HB.out)))
                                              (case aF => exact (fun _ _ => trivial))
                                              (case aO => exact (by (with_reducible repeat (first | apply Kd.R_alloc | apply Kd.R_drewN | apply Kd.R_drew)); exact HO_168001.out))
                                              (case aS => exact (below_size (by repeat (first | (with_reducible first | exact HB.out | apply below_alloc | apply pw_below_drewN | apply below_drew1 | refine below_set ?_ GE167.out) | exact HB.out))))
                                              (case aL => have := LMc29.out; omega)
                                              intro v170 w31 ho hb hg hat
                                              rw [← Ny169.out] at ho
                                              have n0_ := Aside0.mk (Kd.S_after (ok := (fun k_ => k_ ≠ gb167)) (by (with_reducible repeat (first | apply Kd.S_alloc | apply Kd.S_drewN | apply Kd.S_drew)); exact Kd.S_mono HO_4.out (fun _ hk => ⟨hk.2, hk.1⟩)) hg hat)
                                              have n1_ := Aside0.mk (blk_grown (g := gb167) (o := .cells #[.int .i64 (wrap64 (bt bd 0)), u168001, .string (⟨#[]⟩ : ByteArray)] 29 (0, 0)) (by (with_reducible repeat (first | refine blk_drewN ?_ _ | refine blk_drew ?_ | refine blk_alloc ?_ _)); exact BK167.out) hg (Kd.R_ne HO_168001.out BK167.out (by decide)))
                                              have n2_ := Aside0.mk (hb)
                                              have n3_ := Aside0.mk (ho)
                                              clear HO_4
                                              clear BK167
                                              clear HB
                                              clear HO_168001
                                              have HO_4 := n0_
                                              have BK167 := n1_
                                              have HB := n2_
                                              have HO171 := n3_
                                              clear n0_ n1_ n2_ n3_
                                              clear ho hb hg hat
                                              obtain ⟨Ao32, co32, eo32⟩ := Kd.R_slice HO171.out
                                              (first | subst eo32 | (injection eo32 with f1_ f2_ f3_; have f4_ := f1_.symm; have f5_ := f3_.symm; clear f1_ f2_ f3_; subst f4_; subst f5_))
                                              refine hK.out _ _ ⟨(blk_cell BK167.out 0).trans rfl, (blk_cell BK167.out 1).trans rfl, (blk_cell BK167.out 2).trans rfl⟩ (fun hHeld => ?_)
                                              clear hK K
                                              refine norm_ (a' := ?_) ?_ ?_
                                              rotate_left
                                              · show Act.put _ (some 72) _ = _
                                                simp only [Act.put, List.setIfInBounds_toArray, List.set_cons_zero, List.set_cons_succ, i64_w, i32_w]
                                                rfl
                                              refine pure_ (i := 13) (N := some 73) (v := ?_) (a' := ?_) #[true, true, true, true, true, true, true, true, true, true, true, true, true, true, false] rfl rfl (any_of HT_.out (by kernel_rfl)) (fun _ _ _ h => h) (Or.inl ⟨by rfl, ?_⟩) ?_ ?_
                                              rotate_left
                                              · intro w'
                                                go_simp
                                                with_reducible rfl
                                              rotate_left
                                              · simp only [Act.put, List.setIfInBounds_toArray, List.set_cons_zero, List.set_cons_succ, i64_w, i32_w]
                                                rfl
                                              refine last_ (i := 14) (N := none) #[true, true, true, true, true, true, true, true, true, true, true, true, true, true, true] rfl rfl (one_of HT_.out (by kernel_rfl)) (by decide) (fun K hK => ?_)
                                              have hs33 : w31.cell? ⟨gb167, 1, none⟩ = some (u168001) := (blk_cell BK167.out 1).trans rfl
                                              have hfs33 := blk_frozen BK167.out 1
                                              refine skip_ (w1 := ?_) (by rfl) rfl ?_ ?_
                                              rotate_left
                                              · go_simp
                                                rfl
                                              refine hK.out _ _ ?_
                                              clear hK K
                                              refine done_ (done_of HT_.out (by kernel_rfl)) ?_
                                              try go_wp2
                                              go_roundg k3
                                              case measure => have := HK1.out; have := HJ6.out; have := HK3.out; omega
                                              case rel => exact ⟨(wrap64 (x10_3 + 1)), (y169), (.slice Ao32 y169.length co32), (by first | rfl | (simp; done) | (simp [*]; done)), H', ⟨by have := HK1.out; have := HJ6.out; have := HK3.out; omega⟩, ⟨by (with_reducible repeat (first | apply Kd.S_alloc | apply Kd.S_drewN | apply Kd.S_drew)); exact Kd.S_mono (Kd.S_far (p := ⟨gb167, 1, none⟩) (Kd.S_mono HO_4.out (fun k_ hk => (⟨hk, hk.1⟩ : _ ∧ k_ ≠ gb167))) (fun _ hk => hk.2) (.slice Ao32 y169.length co32)) (fun _ hk => ⟨hk.1.2, hk.1.1⟩)⟩, ⟨by (with_reducible repeat (first | apply Kd.R_alloc | apply Kd.R_drewN | apply Kd.R_drew)); exact Kd.R_mono (Kd.R_far (p := ⟨gb167, 1, none⟩) (Kd.R_types HO171.out BK167.out (by decide)) (fun _ hk => hk.2) (.slice Ao32 y169.length co32)) (fun _ hk => trivial)⟩, ⟨by (with_reducible repeat (first | refine blk_drewN ?_ _ | refine blk_drew ?_ | refine blk_alloc ?_ _)); refine blk_put (cs := #[.int .i64 (wrap64 (bt bd 0)), u168001, .string (⟨#[]⟩ : ByteArray)]) ?_ 1 _ rfl; (with_reducible repeat (first | refine blk_drewN ?_ _ | refine blk_drew ?_ | refine blk_alloc ?_ _)); exact BK167.out⟩, ⟨by repeat (first | (with_reducible first | exact HB.out | apply below_alloc | apply pw_below_drewN | apply below_drew1 | refine below_set ?_ GE167.out) | exact HB.out)⟩⟩
                                            · rw [if_neg c29] at H
                                              exact absurd H (by simp)
                                          · rw [if_neg c27] at H
                                            exact absurd H (by simp)
                                        · rw [if_neg c26] at H
                                          exact absurd H (by simp)
                                      · rw [if_neg c25] at H
                                        exact absurd H (by simp)
                                    · rw [if_neg c23] at H
                                      have c23b0 : decide (x10_3 < (wrap64 (bt bd 1))) = false := decide_eq_false c23
                                      clear c23
                                      obtain ⟨ji34, hji34⟩ : ∃ j_ : Int, (wrap64 (2 + (wrap64 (8 * (wrap64 (bt bd 1)))))) = j_ := ⟨_, rfl⟩
                                      replace H : (if 0 ≤ (ji34) then (if (ji34) ≤ (bd.size : Int) then ((humpyardref15_Lay.f k3 (wrap64 (bt bd 0)) x168001_3 (bd.extract ((ji34) : Int).toNat bd.size)).bind fun bt172 => (if bt172.2 = 0 then (if 0 ≤ x5_1 then (if x5_1 ≤ (wrap64 ((wrap64 (x5_1 + t166)) + 8)) then (if (wrap64 ((wrap64 (x5_1 + t166)) + 8)) ≤ (a0.size : Int) then (if bt172.1.toList = (a0.extract (x5_1 : Int).toNat ((wrap64 ((wrap64 (x5_1 + t166)) + 8)) : Int).toNat).toList then (if x4_1.length < 2932031007402 then (humpyardref15_Read.l0 k3 a0 (x4_1 ++ [(⟨(wrap64 (bt bd 0)), x168001_3, bd.extract ((ji34) : Int).toNat bd.size⟩ : S29)]) (wrap64 ((wrap64 (x5_1 + t166)) + 8))) else (none)) else (some (x4_1, x5_1))) else (none)) else (none)) else (none)) else (some (x4_1, x5_1)))) else (none)) else (none)) = some (r1, r2) := by first | (rw [hji34] at H; exact H) | (simp only [hji34] at H ⊢; exact H)
                                      (try rw [hji34] at c18b0)
                                      have hji34w : (IntKind.i64.wrap (2 + (wrap64 (8 * (wrap64 (bt bd 1)))))) = ji34 := (i64_w _).trans hji34
                                      by_cases c35 : 0 ≤ (ji34)
                                      · rw [if_pos c35] at H
                                        have c35b0 := eq_true c35
                                        have c35b1 : decide (0 ≤ (ji34)) = true := decide_eq_true c35
                                        clear c35
                                        by_cases c36 : (ji34) ≤ (bd.size : Int)
                                        · rw [if_pos c36] at H
                                          have c36b0 := eq_true c36
                                          have c36b1 : decide ((ji34) ≤ (bd.size : Int)) = true := decide_eq_true c36
                                          replace H := Option.bind_eq_some_iff.mp H
                                          obtain ⟨⟨t172, t173⟩, A370, H⟩ := H
                                          replace H : (if t173 = 0 then (if 0 ≤ x5_1 then (if x5_1 ≤ (wrap64 ((wrap64 (x5_1 + t166)) + 8)) then (if (wrap64 ((wrap64 (x5_1 + t166)) + 8)) ≤ (a0.size : Int) then (if t172.toList = (a0.extract (x5_1 : Int).toNat ((wrap64 ((wrap64 (x5_1 + t166)) + 8)) : Int).toNat).toList then (if x4_1.length < 2932031007402 then (humpyardref15_Read.l0 k3 a0 (x4_1 ++ [(⟨(wrap64 (bt bd 0)), x168001_3, bd.extract ((ji34) : Int).toNat bd.size⟩ : S29)]) (wrap64 ((wrap64 (x5_1 + t166)) + 8))) else (none)) else (some (x4_1, x5_1))) else (none)) else (none)) else (none)) else (some (x4_1, x5_1))) = some (r1, r2) := H
                                          have A37 := Aside0.mk A370
                                          clear A370
                                          by_cases c38 : t173 = 0
                                          · rw [if_pos c38] at H
                                            have c38b0 : (t173 == 0) = true := beq_iff_eq.mpr c38
                                            have c38b1 : (t173 != 0) = false := bne_eq_false_iff_eq.mpr c38
                                            clear c38
                                            by_cases c39 : 0 ≤ x5_1
                                            · rw [if_pos c39] at H
                                              have c39b0 := eq_true c39
                                              have c39b1 : decide (0 ≤ x5_1) = true := decide_eq_true c39
                                              clear c39
                                              by_cases c40 : x5_1 ≤ (wrap64 ((wrap64 (x5_1 + t166)) + 8))
                                              · rw [if_pos c40] at H
                                                have c40b0 := eq_true c40
                                                have c40b1 : decide (x5_1 ≤ (wrap64 ((wrap64 (x5_1 + t166)) + 8))) = true := decide_eq_true c40
                                                by_cases c41 : (wrap64 ((wrap64 (x5_1 + t166)) + 8)) ≤ (a0.size : Int)
                                                · rw [if_pos c41] at H
                                                  have c41b0 := eq_true c41
                                                  have c41b1 : decide ((wrap64 ((wrap64 (x5_1 + t166)) + 8)) ≤ (a0.size : Int)) = true := decide_eq_true c41
                                                  by_cases c42 : t172.toList = (a0.extract (x5_1 : Int).toNat ((wrap64 ((wrap64 (x5_1 + t166)) + 8)) : Int).toNat).toList
                                                  · rw [if_pos c42] at H
                                                    have c42b0 : (t172.toList == (a0.extract (x5_1 : Int).toNat ((wrap64 ((wrap64 (x5_1 + t166)) + 8)) : Int).toNat).toList) = true := beq_iff_eq.mpr c42
                                                    have c42b1 : (t172.toList != (a0.extract (x5_1 : Int).toNat ((wrap64 ((wrap64 (x5_1 + t166)) + 8)) : Int).toNat).toList) = false := bne_eq_false_iff_eq.mpr c42
                                                    clear c42
                                                    by_cases c43 : x4_1.length < 2932031007402
                                                    · rw [if_pos c43] at H
                                                      have LMc43 := Aside0.mk c43
                                                      clear c43
                                                      obtain ⟨y174, hy174⟩ : ∃ y_ : List (S29), y_ = (x4_1 ++ [(⟨(wrap64 (bt bd 0)), x168001_3, bd.extract ((ji34) : Int).toNat bd.size⟩ : S29)]) := ⟨_, rfl⟩
                                                      replace H : (humpyardref15_Read.l0 k3 a0 y174 (wrap64 ((wrap64 (x5_1 + t166)) + 8))) = some (r1, r2) := by first | (rw [hy174]; with_reducible exact H) | (have H2_ := (Option.bind_some _ _).symm.trans H; rw [hy174]; with_reducible exact H2_) | (have H2_ := (Option.bind_some _ _).symm.trans H; with_reducible exact H2_) | with_reducible exact H | (rw [hy174]; exact H) | exact H
                                                      have Ny174 := Aside0.mk hy174
                                                      clear hy174
                                                      have H' := Aside0.mk H
                                                      clear H
                                                      have hcz44_0 : wr.cell? ⟨gb167, 0, none⟩ = some (.int .i64 (wrap64 (bt bd 0))) := (blk_cell BK167.out 0).trans rfl
                                                      have hcz44_1 : wr.cell? ⟨gb167, 1, none⟩ = some (u168001) := (blk_cell BK167.out 1).trans rfl
                                                      have hcz44_2 : wr.cell? ⟨gb167, 2, none⟩ = some (.string (⟨#[]⟩ : ByteArray)) := (blk_cell BK167.out 2).trans rfl
                                                      have hfz44_0 := blk_frozen BK167.out 0
                                                      have hfz44_1 := blk_frozen BK167.out 1
                                                      have hfz44_2 := blk_frozen BK167.out 2
                                                      obtain ⟨Ao45, co45, eo45⟩ := Kd.R_slice HO_168001.out
                                                      subst eo45
                                                      go_wp2_with (first | ((with_reducible refine gate_callee (f := 11) rfl ?_); refine goesL_ (some 82) rfl rfl Try.func11 (by kernel_rfl) rfl #[.agg #[.int .i64 (wrap64 (bt bd 0)), .slice Ao45 x168001_3.length co45, .string (bd.extract ((ji34) : Int).toNat bd.size)]] rfl (by (try simp only [List.map_toArray, List.map_cons, List.map_nil]); first | done | (simp only [hji10, hji34]; rfl) | rfl | (simp only [List.length_drop, List.length_take]; rfl)) ?_; (with_reducible refine (humpyardref15_Lay.calls k3 (wrap64 (bt bd 0)) _ _ x168001_3 (bd.extract ((ji34) : Int).toNat bd.size) t172 t173 _ ?side1 ?side2 A37.out).mono ?_); (case side1 => refine (Kd.R_reads' (e := 3) (base := w.heap.size) (ok := fun k_ => True) (n := x168001_3.length) (c := co45) ?_).2.2; exact (by (with_reducible repeat (first | apply Kd.R_alloc | apply Kd.R_drewN | apply Kd.R_drew)); exact (Kd.R_mono (Kd.R_far (p := ⟨gb167, 2, none⟩) (Kd.R_types HO_168001.out BK167.out (by decide)) (fun _ hk => hk.2) (.string (bd.extract ((ji34) : Int).toNat bd.size))) (fun _ h_ => h_.1)))); (case side2 => exact (Kd.R_reads' HO_168001.out).2.1); rintro e w46 ⟨rfl, hb⟩; refine ⟨_, rfl, ?_⟩; have n0_ := Aside0.mk (Kd.S_below (by (with_reducible repeat (first | apply Kd.S_alloc | apply Kd.S_drewN | apply Kd.S_drew)); exact (Kd.S_mono (Kd.S_far (p := ⟨gb167, 2, none⟩) (Kd.S_mono HO_4.out (fun k_ hk => (⟨hk, hk.2⟩ : _ ∧ k_ ≠ gb167))) (fun _ hk => hk.2) (.string (bd.extract ((ji34) : Int).toNat bd.size))) (fun _ h_ => h_.1))) hb); have n1_ := Aside0.mk (Kd.R_below (by (with_reducible repeat (first | apply Kd.R_alloc | apply Kd.R_drewN | apply Kd.R_drew)); exact (Kd.R_mono (Kd.R_far (p := ⟨gb167, 2, none⟩) (Kd.R_types HO_168001.out BK167.out (by decide)) (fun _ hk => hk.2) (.string (bd.extract ((ji34) : Int).toNat bd.size))) (fun _ h_ => h_.1))) hb); have n2_ := Aside0.mk (blk_below (g := gb167) (o := .cells #[.int .i64 (wrap64 (bt bd 0)), .slice Ao45 x168001_3.length co45, .string (bd.extract ((ji34) : Int).toNat bd.size)] 29 (0, 0)) (by (with_reducible repeat (first | refine blk_drewN ?_ _ | refine blk_drew ?_ | refine blk_alloc ?_ _)); refine blk_put (cs := #[.int .i64 (wrap64 (bt bd 0)), .slice Ao45 x168001_3.length co45, .string (⟨#[]⟩ : ByteArray)]) ?_ 2 _ rfl; (with_reducible repeat (first | refine blk_drewN ?_ _ | refine blk_drew ?_ | refine blk_alloc ?_ _)); exact BK167.out) hb); have n3_ := Aside0.mk (below_step (by repeat (first | (with_reducible first | exact HB.out | apply below_alloc | apply pw_below_drewN | apply below_drew1 | refine below_set ?_ GE167.out) | exact HB.out)) hb); clear HO_4; clear HO_168001; clear BK167; clear HB; have HO_4 := n0_; have HO_168001 := n1_; have BK167 := n2_; have HB := n3_; clear n0_ n1_ n2_ n3_; (try clear hb); (try clear hb2); (try clear hk); (try clear hi); have hcz47_0 : w46.cell? ⟨gb167, 0, none⟩ = some (.int .i64 (wrap64 (bt bd 0))) := (blk_cell BK167.out 0).trans rfl; have hcz47_1 : w46.cell? ⟨gb167, 1, none⟩ = some (.slice Ao45 x168001_3.length co45) := (blk_cell BK167.out 1).trans rfl; have hcz47_2 : w46.cell? ⟨gb167, 2, none⟩ = some (.string (bd.extract ((ji34) : Int).toNat bd.size)) := (blk_cell BK167.out 2).trans rfl; have hfz47_0 := blk_frozen BK167.out 0; have hfz47_1 := blk_frozen BK167.out 1; have hfz47_2 := blk_frozen BK167.out 2) | ((with_reducible refine gate_builtin (b := .append) (xs := #[.tmp 98, .tmp 100]) rfl ?_); (try (refine gate_guard (by rfl) ?_; dsimp only)); at_builtin; refine Kd.S_append k29 (w0 := w) w.heap.size rfl (.tmp 98) (.tmp 100) 22 29 (.agg #[(.int .i64 0), (.slice none 0 0), (.string ⟨#[]⟩)]) 48 rfl Try.underlying22 info29 rfl (by decide) (by omega) u4 x4_1 (⟨(wrap64 (bt bd 0)), x168001_3, bd.extract ((ji34) : Int).toNat bd.size⟩ : S29) [.int .i64 (wrap64 (bt bd 0)), .slice Ao45 x168001_3.length co45, .string (bd.extract ((ji34) : Int).toNat bd.size)] (fun k_ => k_ ≠ gb167) (fun k_ => some k_ = (.slice Ao45 x168001_3.length co45 : Value).ownBlock) rfl rfl ?aP (fun k_ hk_ => ((Kd.R_mono (ok' := fun k_ => ((fun k_ => k_ ≠ gb167)) k_ ∧ some k_ ≠ (u4 : Value).ownBlock) (Kd.R_types (Kd.R_apart' (HO_168001.out) (Kd.S_typed HO_4.out) (by decide)) BK167.out (by decide)) (fun k_ hk => ⟨hk.2, hk.1.2⟩))).1 k_ hk_.symm) ?aF ?aO ?aB ?aS ?aL ?_; (case aP => exact k29_mkM _ _ _ (⟨(wrap64 (bt bd 0)), x168001_3, bd.extract ((ji34) : Int).toNat bd.size⟩ : S29) (Kd.R_mono (Kd.R_tight rfl (Kd.R_mono (ok' := fun k_ => ((fun k_ => k_ ≠ gb167)) k_ ∧ some k_ ≠ (u4 : Value).ownBlock) (Kd.R_types (Kd.R_apart' (HO_168001.out) (Kd.S_typed HO_4.out) (by decide)) BK167.out (by decide)) (fun k_ hk => ⟨hk.2, hk.1.2⟩))) (fun _ h_ => h_))); (case aB => exact (by repeat (first | (with_reducible first | exact HB.out | apply below_alloc | apply pw_below_drewN | apply below_drew1 | refine below_set ?_ GE167.out) | exact HB.out))); (case aF => exact (fun k_ hk => Kd.freshB (g := gb167) (o := .cells #[.int .i64 (wrap64 (bt bd 0)), .slice Ao45 x168001_3.length co45, .string (bd.extract ((ji34) : Int).toNat bd.size)] 29 (0, 0)) (by (with_reducible repeat (first | refine blk_drewN ?_ _ | refine blk_drew ?_ | refine blk_alloc ?_ _)); exact BK167.out) k_ hk)); (case aO => exact (by (with_reducible repeat (first | apply Kd.S_alloc | apply Kd.S_drewN | apply Kd.S_drew)); exact Kd.S_mono HO_4.out (fun k_ hk => ⟨hk.2, fun e_ => hk.1 e_⟩))); (case aS => exact (below_size (by repeat (first | (with_reducible first | exact HB.out | apply below_alloc | apply pw_below_drewN | apply below_drew1 | refine below_set ?_ GE167.out) | exact HB.out)))); (case aL => have := LMc43.out; omega); intro v175 w48 ho hb hg hat; rw [← Ny174.out] at ho; have n0_ := Aside0.mk (blk_grown (g := gb167) (o := .cells #[.int .i64 (wrap64 (bt bd 0)), .slice Ao45 x168001_3.length co45, .string (bd.extract ((ji34) : Int).toNat bd.size)] 29 (0, 0)) (by (with_reducible repeat (first | refine blk_drewN ?_ _ | refine blk_drew ?_ | refine blk_alloc ?_ _)); exact BK167.out) hg (Kd.S_away HO_4.out (fun _ hk => hk.2))); have n1_ := Aside0.mk (hb); have n2_ := Aside0.mk (ho); clear BK167; clear HB; clear HO_4; clear HO_168001; have BK167 := n0_; have HB := n1_; have HO176 := n2_; clear n0_ n1_ n2_; clear ho hb hg hat))
                                                      go_roundg k3
                                                      case measure => have := HK1.out; have := HJ6.out; have := HK3.out; omega
                                                      case rel => exact ⟨(y174), (wrap64 ((wrap64 (x5_1 + t166)) + 8)), (by first | rfl | (simp; done) | (simp [*]; done)), H', ⟨by have := HK1.out; have := HJ6.out; have := HK3.out; omega⟩, ⟨by (with_reducible repeat (first | apply Kd.S_alloc | apply Kd.S_drewN | apply Kd.S_drew)); exact Kd.S_mono HO176.out (fun _ hk => trivial)⟩, ⟨by repeat (first | (with_reducible first | exact HB.out | apply below_alloc | apply pw_below_drewN | apply below_drew1 | refine below_set ?_ GE167.out) | exact HB.out)⟩⟩
                                                    · rw [if_neg c43] at H
                                                      exact absurd H (by simp)
                                                  · rw [if_neg c42] at H
                                                    have c42b0 : (t172.toList == (a0.extract (x5_1 : Int).toNat ((wrap64 ((wrap64 (x5_1 + t166)) + 8)) : Int).toNat).toList) = false := beq_eq_false_iff_ne.mpr c42
                                                    have c42b1 : (t172.toList != (a0.extract (x5_1 : Int).toNat ((wrap64 ((wrap64 (x5_1 + t166)) + 8)) : Int).toNat).toList) = true := bne_iff_ne.mpr c42
                                                    simp only [Option.some.injEq, Prod.mk.injEq] at H
                                                    obtain ⟨rfl, rfl⟩ := H
                                                    have hcz49_0 : wr.cell? ⟨gb167, 0, none⟩ = some (.int .i64 (wrap64 (bt bd 0))) := (blk_cell BK167.out 0).trans rfl
                                                    have hcz49_1 : wr.cell? ⟨gb167, 1, none⟩ = some (u168001) := (blk_cell BK167.out 1).trans rfl
                                                    have hcz49_2 : wr.cell? ⟨gb167, 2, none⟩ = some (.string (⟨#[]⟩ : ByteArray)) := (blk_cell BK167.out 2).trans rfl
                                                    have hfz49_0 := blk_frozen BK167.out 0
                                                    have hfz49_1 := blk_frozen BK167.out 1
                                                    have hfz49_2 := blk_frozen BK167.out 2
                                                    obtain ⟨Ao50, co50, eo50⟩ := Kd.R_slice HO_168001.out
                                                    subst eo50
                                                    go_wp2_with (first | ((with_reducible refine gate_callee (f := 11) rfl ?_); refine goesL_ (some 82) rfl rfl Try.func11 (by kernel_rfl) rfl #[.agg #[.int .i64 (wrap64 (bt bd 0)), .slice Ao50 x168001_3.length co50, .string (bd.extract ((ji34) : Int).toNat bd.size)]] rfl (by (try simp only [List.map_toArray, List.map_cons, List.map_nil]); first | done | (simp only [hji10, hji34]; rfl) | rfl | (simp only [List.length_drop, List.length_take]; rfl)) ?_; (with_reducible refine (humpyardref15_Lay.calls k3 (wrap64 (bt bd 0)) _ _ x168001_3 (bd.extract ((ji34) : Int).toNat bd.size) t172 t173 _ ?side1 ?side2 A37.out).mono ?_); (case side1 => refine (Kd.R_reads' (e := 3) (base := w.heap.size) (ok := fun k_ => True) (n := x168001_3.length) (c := co50) ?_).2.2; exact (by (with_reducible repeat (first | apply Kd.R_alloc | apply Kd.R_drewN | apply Kd.R_drew)); exact (Kd.R_mono (Kd.R_far (p := ⟨gb167, 2, none⟩) (Kd.R_types HO_168001.out BK167.out (by decide)) (fun _ hk => hk.2) (.string (bd.extract ((ji34) : Int).toNat bd.size))) (fun _ h_ => h_.1)))); (case side2 => exact (Kd.R_reads' HO_168001.out).2.1); rintro e w51 ⟨rfl, hb⟩; refine ⟨_, rfl, ?_⟩; have n0_ := Aside0.mk (Kd.S_below (by (with_reducible repeat (first | apply Kd.S_alloc | apply Kd.S_drewN | apply Kd.S_drew)); exact (Kd.S_mono (Kd.S_far (p := ⟨gb167, 2, none⟩) (Kd.S_mono HO_4.out (fun k_ hk => (⟨hk, hk.2⟩ : _ ∧ k_ ≠ gb167))) (fun _ hk => hk.2) (.string (bd.extract ((ji34) : Int).toNat bd.size))) (fun _ h_ => h_.1))) hb); have n1_ := Aside0.mk (Kd.R_below (by (with_reducible repeat (first | apply Kd.R_alloc | apply Kd.R_drewN | apply Kd.R_drew)); exact (Kd.R_mono (Kd.R_far (p := ⟨gb167, 2, none⟩) (Kd.R_types HO_168001.out BK167.out (by decide)) (fun _ hk => hk.2) (.string (bd.extract ((ji34) : Int).toNat bd.size))) (fun _ h_ => h_.1))) hb); have n2_ := Aside0.mk (blk_below (g := gb167) (o := .cells #[.int .i64 (wrap64 (bt bd 0)), .slice Ao50 x168001_3.length co50, .string (bd.extract ((ji34) : Int).toNat bd.size)] 29 (0, 0)) (by (with_reducible repeat (first | refine blk_drewN ?_ _ | refine blk_drew ?_ | refine blk_alloc ?_ _)); refine blk_put (cs := #[.int .i64 (wrap64 (bt bd 0)), .slice Ao50 x168001_3.length co50, .string (⟨#[]⟩ : ByteArray)]) ?_ 2 _ rfl; (with_reducible repeat (first | refine blk_drewN ?_ _ | refine blk_drew ?_ | refine blk_alloc ?_ _)); exact BK167.out) hb); have n3_ := Aside0.mk (below_step (by repeat (first | (with_reducible first | exact HB.out | apply below_alloc | apply pw_below_drewN | apply below_drew1 | refine below_set ?_ GE167.out) | exact HB.out)) hb); clear HO_4; clear HO_168001; clear BK167; clear HB; have HO_4 := n0_; have HO_168001 := n1_; have BK167 := n2_; have HB := n3_; clear n0_ n1_ n2_ n3_; (try clear hb); (try clear hb2); (try clear hk); (try clear hi)))
                                                    go_ret2
                                                    exact ⟨_, by first | rfl | (simp [errW_none, errW_some] <;> rfl) | (simp only [← hji10, ← hji34]; first | rfl | (simp [errW_none, errW_some] <;> rfl)) | (simp [*, errW_none, errW_some] <;> rfl), by (with_reducible repeat (first | apply Kd.S_alloc | apply Kd.S_drewN | apply Kd.S_drew)); exact Kd.S_mono HO_4.out (fun _ hk => trivial), by repeat (first | (with_reducible first | exact HB.out | apply below_alloc | apply pw_below_drewN | apply below_drew1 | refine below_set ?_ GE167.out) | exact HB.out)⟩
                                                · rw [if_neg c41] at H
                                                  exact absurd H (by simp)
                                              · rw [if_neg c40] at H
                                                exact absurd H (by simp)
                                            · rw [if_neg c39] at H
                                              exact absurd H (by simp)
                                          · rw [if_neg c38] at H
                                            have c38b0 : (t173 == 0) = false := beq_eq_false_iff_ne.mpr c38
                                            have c38b1 : (t173 != 0) = true := bne_iff_ne.mpr c38
                                            simp only [Option.some.injEq, Prod.mk.injEq] at H
                                            obtain ⟨rfl, rfl⟩ := H
                                            have hcz52_0 : wr.cell? ⟨gb167, 0, none⟩ = some (.int .i64 (wrap64 (bt bd 0))) := (blk_cell BK167.out 0).trans rfl
                                            have hcz52_1 : wr.cell? ⟨gb167, 1, none⟩ = some (u168001) := (blk_cell BK167.out 1).trans rfl
                                            have hcz52_2 : wr.cell? ⟨gb167, 2, none⟩ = some (.string (⟨#[]⟩ : ByteArray)) := (blk_cell BK167.out 2).trans rfl
                                            have hfz52_0 := blk_frozen BK167.out 0
                                            have hfz52_1 := blk_frozen BK167.out 1
                                            have hfz52_2 := blk_frozen BK167.out 2
                                            obtain ⟨Ao53, co53, eo53⟩ := Kd.R_slice HO_168001.out
                                            subst eo53
                                            go_wp2_with (first | ((with_reducible refine gate_callee (f := 11) rfl ?_); refine goesL_ (some 82) rfl rfl Try.func11 (by kernel_rfl) rfl #[.agg #[.int .i64 (wrap64 (bt bd 0)), .slice Ao53 x168001_3.length co53, .string (bd.extract ((ji34) : Int).toNat bd.size)]] rfl (by (try simp only [List.map_toArray, List.map_cons, List.map_nil]); first | done | (simp only [hji10, hji34]; rfl) | rfl | (simp only [List.length_drop, List.length_take]; rfl)) ?_; (with_reducible refine (humpyardref15_Lay.calls k3 (wrap64 (bt bd 0)) _ _ x168001_3 (bd.extract ((ji34) : Int).toNat bd.size) t172 t173 _ ?side1 ?side2 A37.out).mono ?_); (case side1 => refine (Kd.R_reads' (e := 3) (base := w.heap.size) (ok := fun k_ => True) (n := x168001_3.length) (c := co53) ?_).2.2; exact (by (with_reducible repeat (first | apply Kd.R_alloc | apply Kd.R_drewN | apply Kd.R_drew)); exact (Kd.R_mono (Kd.R_far (p := ⟨gb167, 2, none⟩) (Kd.R_types HO_168001.out BK167.out (by decide)) (fun _ hk => hk.2) (.string (bd.extract ((ji34) : Int).toNat bd.size))) (fun _ h_ => h_.1)))); (case side2 => exact (Kd.R_reads' HO_168001.out).2.1); rintro e w54 ⟨rfl, hb⟩; refine ⟨_, rfl, ?_⟩; have n0_ := Aside0.mk (Kd.S_below (by (with_reducible repeat (first | apply Kd.S_alloc | apply Kd.S_drewN | apply Kd.S_drew)); exact (Kd.S_mono (Kd.S_far (p := ⟨gb167, 2, none⟩) (Kd.S_mono HO_4.out (fun k_ hk => (⟨hk, hk.2⟩ : _ ∧ k_ ≠ gb167))) (fun _ hk => hk.2) (.string (bd.extract ((ji34) : Int).toNat bd.size))) (fun _ h_ => h_.1))) hb); have n1_ := Aside0.mk (Kd.R_below (by (with_reducible repeat (first | apply Kd.R_alloc | apply Kd.R_drewN | apply Kd.R_drew)); exact (Kd.R_mono (Kd.R_far (p := ⟨gb167, 2, none⟩) (Kd.R_types HO_168001.out BK167.out (by decide)) (fun _ hk => hk.2) (.string (bd.extract ((ji34) : Int).toNat bd.size))) (fun _ h_ => h_.1))) hb); have n2_ := Aside0.mk (blk_below (g := gb167) (o := .cells #[.int .i64 (wrap64 (bt bd 0)), .slice Ao53 x168001_3.length co53, .string (bd.extract ((ji34) : Int).toNat bd.size)] 29 (0, 0)) (by (with_reducible repeat (first | refine blk_drewN ?_ _ | refine blk_drew ?_ | refine blk_alloc ?_ _)); refine blk_put (cs := #[.int .i64 (wrap64 (bt bd 0)), .slice Ao53 x168001_3.length co53, .string (⟨#[]⟩ : ByteArray)]) ?_ 2 _ rfl; (with_reducible repeat (first | refine blk_drewN ?_ _ | refine blk_drew ?_ | refine blk_alloc ?_ _)); exact BK167.out) hb); have n3_ := Aside0.mk (below_step (by repeat (first | (with_reducible first | exact HB.out | apply below_alloc | apply pw_below_drewN | apply below_drew1 | refine below_set ?_ GE167.out) | exact HB.out)) hb); clear HO_4; clear HO_168001; clear BK167; clear HB; have HO_4 := n0_; have HO_168001 := n1_; have BK167 := n2_; have HB := n3_; clear n0_ n1_ n2_ n3_; (try clear hb); (try clear hb2); (try clear hk); (try clear hi)))
                                            go_ret2
                                            exact ⟨_, by first | rfl | (simp [errW_none, errW_some] <;> rfl) | (simp only [← hji10, ← hji34]; first | rfl | (simp [errW_none, errW_some] <;> rfl)) | (simp [*, errW_none, errW_some] <;> rfl), by (with_reducible repeat (first | apply Kd.S_alloc | apply Kd.S_drewN | apply Kd.S_drew)); exact Kd.S_mono HO_4.out (fun _ hk => trivial), by repeat (first | (with_reducible first | exact HB.out | apply below_alloc | apply pw_below_drewN | apply below_drew1 | refine below_set ?_ GE167.out) | exact HB.out)⟩
                                        · rw [if_neg c36] at H
                                          exact absurd H (by simp)
                                      · rw [if_neg c35] at H
                                        exact absurd H (by simp)
                            · rw [if_neg c16] at H
                              exact absurd H (by simp)
                          · rw [if_neg c14] at H
                            exact absurd H (by simp)
                        · rw [if_neg c13] at H
                          exact absurd H (by simp)
                      · rw [if_neg c12] at H
                        exact absurd H (by simp)
                    · rw [if_neg c11] at H
                      exact absurd H (by simp)
            · rw [if_neg c5] at H
              exact absurd H (by simp)
          · rw [if_neg c4] at H
            exact absurd H (by simp)
        · rw [if_neg c3] at H
          exact absurd H (by simp)
      · rw [if_neg c2] at H
        have c2b0 : decide (10 ≤ (wrap64 ((a0.size : Int) - x5_1))) = false := decide_eq_false c2
        clear c2
        simp only [Option.some.injEq, Prod.mk.injEq] at H
        obtain ⟨rfl, rfl⟩ := H
        go_wp2
        go_ret2
        exact ⟨_, by first | rfl | (simp [errW_none, errW_some] <;> rfl) | (simp [*, errW_none, errW_some] <;> rfl), by (with_reducible repeat (first | apply Kd.S_alloc | apply Kd.S_drewN | apply Kd.S_drew)); exact HO_4.out, by repeat (first | (with_reducible first | exact HB.out | apply below_alloc | apply pw_below_drewN | apply below_drew1) | exact HB.out)⟩

end Go.Proofs.Ythaeecoahbohnaa.PJour
