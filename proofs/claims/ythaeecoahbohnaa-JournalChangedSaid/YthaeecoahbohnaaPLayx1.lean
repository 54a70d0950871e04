-- Written by a program of this session (a patched copy of the kit's print); not trusted: Lean checks it.
import Derived.Test.YthaeecoahbohnaaPLayx0
namespace Go.Proofs.Ythaeecoahbohnaa.PLay
open Go.RowKit Go.Proofs.YthaeecoahbohnaaW.PrintWords Go.Proofs.YthaeecoahbohnaaW.PrintLast Go.Proofs.YthaeecoahbohnaaW.PrintMore
attribute [local go_sem] max2_int min2_int max_two min_two max_three min_three max_four min_four   -- for this text's walks alone
set_option linter.unusedVariables false
set_option linter.unusedSimpArgs false

/-! ### journal_put: function 19 -/
mutual
def journal_put.l0 : Nat → List Int → Int → List Int → Int → Int → Option (List Int)
  | 0, _, _, _, _, _ => none
  | k + 1, x0, x1, x10, x11, x12 => if x12 < x11 then (if 0 ≤ x12 then (if x12 < (x10.length : Int) then (journal_put.l1 k x0 x1 (rd x10 x12) (wrap64 (8 * (wrap64 (x1 - 1)))) x10 x11 x12) else (none)) else (none)) else (some x0)
def journal_put.l1 : Nat → List Int → Int → Int → Int → List Int → Int → Int → Option (List Int)
  | 0, _, _, _, _, _, _, _ => none
  | k + 1, x0, x1, x8, x9, x10, x11, x12 => if x9 ≥ 0 then (if 0 ≤ x9 then (if x0.length < 140737488355328 then (journal_put.l1 k (x0 ++ [(shr .i64 x8 x9) % 256]) x1 x8 (wrap64 (x9 - 8)) x10 x11 x12) else (none)) else (none)) else (journal_put.l0 k x0 x1 x10 x11 (wrap64 (x12 + 1)))
end
def journal_put.f (k : Nat) (l0 : List Int) (a1 : Int) (l2 : List Int) : Option (List Int) := journal_put.l0 k l0 a1 l2 (l2.length : Int) 0
theorem journal_put.mono_l : ∀ k, (∀ y0 y1 y2 y3 y4, LeO (journal_put.l0 k y0 y1 y2 y3 y4) (journal_put.l0 (k + 1) y0 y1 y2 y3 y4)) ∧ (∀ y0 y1 y2 y3 y4 y5 y6, LeO (journal_put.l1 k y0 y1 y2 y3 y4 y5 y6) (journal_put.l1 (k + 1) y0 y1 y2 y3 y4 y5 y6))
  | 0 => ⟨fun _ _ _ _ _ r h => by simp [journal_put.l0] at h, fun _ _ _ _ _ _ _ r h => by simp [journal_put.l1] at h⟩
  | k + 1 => by
    obtain ⟨ih0, ih1⟩ := journal_put.mono_l k
    refine ⟨?_, ?_⟩
    · intro y0 y1 y2 y3 y4
      unfold journal_put.l0
      repeat' first
      | (with_reducible exact ih0 _ _ _ _ _)
      | (with_reducible exact ih1 _ _ _ _ _ _ _)
      | (with_reducible exact LeO.refl _)
      | (with_reducible exact LeO.none _)
      | (with_reducible refine LeO.ite ?_ ?_)
      | (with_reducible refine LeO.bind ?_ (fun _ => ?_))
      | exact ih0 _ _ _ _ _
      | exact ih1 _ _ _ _ _ _ _
      | exact LeO.none _
      | refine LeO.ite ?_ ?_
      | refine LeO.bind ?_ (fun _ => ?_)
    · intro y0 y1 y2 y3 y4 y5 y6
      unfold journal_put.l1
      repeat' first
      | (with_reducible exact ih0 _ _ _ _ _)
      | (with_reducible exact ih1 _ _ _ _ _ _ _)
      | (with_reducible exact LeO.refl _)
      | (with_reducible exact LeO.none _)
      | (with_reducible refine LeO.ite ?_ ?_)
      | (with_reducible refine LeO.bind ?_ (fun _ => ?_))
      | exact ih0 _ _ _ _ _
      | exact ih1 _ _ _ _ _ _ _
      | exact LeO.none _
      | refine LeO.ite ?_ ?_
      | refine LeO.bind ?_ (fun _ => ?_)
theorem journal_put.mono : ∀ a0 a1 a2 k, LeO (journal_put.f k a0 a1 a2) (journal_put.f (k + 1) a0 a1 a2) := by
  intro a0 a1 a2 k
  obtain ⟨ih0, ih1⟩ := journal_put.mono_l k
  unfold journal_put.f
  repeat' first
      | (with_reducible exact ih0 _ _ _ _ _)
      | (with_reducible exact ih1 _ _ _ _ _ _ _)
      | (with_reducible exact LeO.refl _)
      | (with_reducible exact LeO.none _)
      | (with_reducible refine LeO.ite ?_ ?_)
      | (with_reducible refine LeO.bind ?_ (fun _ => ?_))
      | exact ih0 _ _ _ _ _
      | exact ih1 _ _ _ _ _ _ _
      | exact LeO.none _
      | refine LeO.ite ?_ ?_
      | refine LeO.bind ?_ (fun _ => ?_)
set_option maxHeartbeats 8000000 in
set_option maxRecDepth 100000 in
theorem journal_put.calls (k : Nat) (P0_ : Nat → Prop) (u9000_ : Value) (l0 : List Int) (a1 : Int) (A2 : Option Addr) (c2 : Nat) (l2 : List Int) (r : List Int) (w0 w : World) (hB : Below w0.heap.size w0 w) (ho0 : Kd.R (Kd.int .u8) 5 w w0.heap.size P0_ u9000_ l0) (hr2 : ∀ W_, Kept w W_ (fun k_ => P0_ k_) → Kd.C (Kd.int .i64) W_ A2 l2.length l2) (hc2 : l2.length ≤ c2) (h : journal_put.f k l0 a1 l2 = some r) :
    Calls Try.prog 19 #[u9000_, .int .i64 a1, .slice A2 l2.length c2] w fun e w' => ∃ v0_ : Value, e = .returned (v0_) ∧ Kd.R (Kd.int .u8) 5 w' w0.heap.size (fun k_ => (P0_ k_ ∨ w.heap.size ≤ k_)) v0_ r ∧ Below w0.heap.size w0 w' ∧ Kept w w' (fun k_ => P0_ k_) := by
  have HO0 := Aside0.mk (show Kd.R (Kd.int .u8) 5 w w0.heap.size (fun k_ => (P0_ k_ ∨ w.heap.size ≤ k_)) u9000_ l0 from Kd.R_mono ho0 (fun k_ hk => (.inl hk)))
  have HR2 := Aside0.mk hr2
  have HC2 := Aside0.mk hc2
  clear hr2 hc2
  have HK := Aside0.mk (Kept.refl w (fun k_ => P0_ k_))
  have HW0 := Aside0.mk hB.size
  have HB := Aside0.mk hB
  clear hB
  have H : (journal_put.l0 k l0 a1 l2 (l2.length : Int) 0) = some r := h
  clear h
  have H' := Aside0.mk H
  clear H
  go_enter Try.func19, Try.ntmps19
  go_wp2
  go_loopg [0, 12] k (fun kq v0 v12 w' => ∃ (x0_1 : List Int) (x12_1 : Int), v12 = .int .i64 x12_1 ∧ Aside0 (journal_put.l0 kq x0_1 a1 l2 (l2.length : Int) x12_1 = some r) ∧ Aside0 (kq ≤ k) ∧ Aside0 (Kd.R (Kd.int .u8) 5 w' w0.heap.size (fun k_ => (P0_ k_ ∨ w.heap.size ≤ k_)) v0 x0_1) ∧ Aside0 (Kept w w' (fun k_ => P0_ k_)) ∧ Aside0 (Below w0.heap.size w0 w'))
  case atStart => exact ⟨(l0), (0), (by first | rfl | (simp; done) | (simp [*]; done)), H', ⟨Nat.le_refl _⟩, ⟨by (with_reducible repeat (first | apply Kd.R_alloc | apply Kd.R_drewN | apply Kd.R_drew)); exact HO0.out⟩, ⟨by repeat (first | (with_reducible first | exact HK.out | apply Kept.alloc | apply Kept.drewN | apply Kept.drew) | exact HK.out)⟩, ⟨by repeat (first | (with_reducible first | exact HB.out | apply below_alloc | apply pw_below_drewN | apply below_drew1) | exact HB.out)⟩⟩
  case round =>
    clear H'
    try clear c1
    try clear c2
    try clear p2
    obtain ⟨x0_1, x12_1, rfl, HA, HK1, HO_0, HK, HB⟩ := hrel
    cases gk with
    | zero => exact absurd HA.out (by simp [journal_put.l0])
    | succ k1 =>
      have H := HA.out
      clear HA
      simp only [journal_put.l0] at H
      by_cases c4 : x12_1 < (l2.length : Int)
      · rw [if_pos c4] at H
        have c4b0 : decide (x12_1 < (l2.length : Int)) = true := decide_eq_true c4
        clear c4
        by_cases c5 : 0 ≤ x12_1
        · rw [if_pos c5] at H
          have c5b0 : decide (0 ≤ x12_1) = true := decide_eq_true c5
          clear c5
          by_cases c6 : x12_1 < (l2.length : Int)
          · rw [if_pos c6] at H
            have c6b0 : decide (x12_1 < (l2.length : Int)) = true := decide_eq_true c6
            clear c6
            have H' := Aside0.mk H
            clear H
            have p101 : 0 ≤ (x12_1 : Int) := of_decide_eq_true (by first | (with_reducible assumption) | assumption)
            have q101 : x12_1 < (l2.length : Int) := of_decide_eq_true (by first | (with_reducible assumption) | assumption)
            obtain ⟨ad101, e101, hx101_0⟩ := Kd.at_int (Kd.C_kept_now HR2.out HK.out) x12_1 p101 q101
            cases e101
            replace p101 := eq_true p101
            replace q101 := eq_true q101
            go_wp2
            go_loopg [0, 9] k1 (fun kq v0 v9 w' => ∃ (x0_2 : List Int) (x9_2 : Int), v9 = .int .i64 x9_2 ∧ Aside0 (journal_put.l1 kq x0_2 a1 (rd l2 x12_1) x9_2 l2 (l2.length : Int) x12_1 = some r) ∧ Aside0 (kq ≤ k1) ∧ Aside0 (Kd.R (Kd.int .u8) 5 w' w0.heap.size (fun k_ => (P0_ k_ ∨ w.heap.size ≤ k_)) v0 x0_2) ∧ Aside0 (Kept w w' (fun k_ => P0_ k_)) ∧ Aside0 (Below w0.heap.size w0 w'))
            case atStart => exact ⟨(x0_1), (wrap64 (8 * (wrap64 (a1 - 1)))), (by first | rfl | (simp; done) | (simp [*]; done)), H', ⟨Nat.le_refl _⟩, ⟨by (with_reducible repeat (first | apply Kd.R_alloc | apply Kd.R_drewN | apply Kd.R_drew)); exact HO_0.out⟩, ⟨by repeat (first | (with_reducible first | exact HK.out | apply Kept.alloc | apply Kept.drewN | apply Kept.drew) | exact HK.out)⟩, ⟨by repeat (first | (with_reducible first | exact HB.out | apply below_alloc | apply pw_below_drewN | apply below_drew1) | exact HB.out)⟩⟩
            case round =>
              clear H'
              try clear c1
              try clear p1
              try clear q1
              try clear hx1
              try clear c2
              try clear p2
              try clear c4
              try clear c4b0
              try clear c5
              try clear c5b0
              try clear c6
              try clear c6b0
              try clear p6
              try clear hx101_0
              try clear p101
              try clear p2
              try clear q101
              obtain ⟨x0_2, x9_2, rfl, HA, HK2, HO_0, HK, HB⟩ := hrel
              cases gk with
              | zero => exact absurd HA.out (by simp [journal_put.l1])
              | succ k2 =>
                have H := HA.out
                clear HA
                simp only [journal_put.l1] at H
                by_cases c7 : x9_2 ≥ 0
                · rw [if_pos c7] at H
                  have c7b0 : decide (0 ≤ x9_2) = true := decide_eq_true c7
                  clear c7
                  by_cases c8 : 0 ≤ x9_2
                  · rw [if_pos c8] at H
                    have c8b0 := eq_true c8
                    have c8b1 : decide (0 ≤ x9_2) = true := decide_eq_true c8
                    clear c8
                    obtain ⟨ji9, hji9⟩ : ∃ j_ : Int, (shr .i64 (rd l2 x12_1) x9_2) = j_ := ⟨_, rfl⟩
                    replace H : (if x0_2.length < 140737488355328 then (journal_put.l1 k2 (x0_2 ++ [(ji9) % 256]) a1 (rd l2 x12_1) (wrap64 (x9_2 - 8)) l2 (l2.length : Int) x12_1) else (none)) = some r := by first | (rw [hji9] at H; exact H) | (simp only [hji9] at H ⊢; exact H)
                    have hji9_ : ((rd l2 x12_1) / 2 ^ min x9_2.toNat 64) = ji9 := hji9
                    have hji9z : x9_2 ≤ 64 → ((rd l2 x12_1) / 2 ^ x9_2.toNat) = ji9 := shr_small hji9
                    by_cases c10 : x0_2.length < 140737488355328
                    · rw [if_pos c10] at H
                      have LMc10 := Aside0.mk c10
                      clear c10
                      obtain ⟨y102, hy102⟩ : ∃ y_ : List Int, y_ = (x0_2 ++ [(ji9) % 256]) := ⟨_, rfl⟩
                      replace H : (journal_put.l1 k2 y102 a1 (rd l2 x12_1) (wrap64 (x9_2 - 8)) l2 (l2.length : Int) x12_1) = some r := by first | (rw [hy102]; with_reducible exact H) | (have H2_ := (Option.bind_some _ _).symm.trans H; rw [hy102]; with_reducible exact H2_) | (have H2_ := (Option.bind_some _ _).symm.trans H; with_reducible exact H2_) | with_reducible exact H | (rw [hy102]; exact H) | exact H
                      have Ny102 := Aside0.mk hy102
                      clear hy102
                      have H' := Aside0.mk H
                      clear H
                      go_wp2_with (first | ((with_reducible refine gate_builtin (b := .append) (xs := #[.tmp 23, .tmp 28]) rfl ?_); at_builtin; refine Kd.R_append (Kd.int .u8) (w0 := w0) w0.heap.size rfl (.tmp 23) (.tmp 28) 41 5 (.int .u8 0) 1 rfl Try.underlying41 info5 rfl (by decide) (by omega) u0 x0_2 ((ji9) % 256) [.int .u8 ((ji9) % 256)] (fun k_ => (P0_ k_ ∨ w.heap.size ≤ k_)) (fun _ => False) rfl rfl ?aP (fun _ hk => hk.elim) ?aF ?aO ?aB ?aS ?aL ?_; (case aP => exact rfl); (case aB => exact (by repeat (first | (with_reducible first | exact HB.out | apply below_alloc | apply pw_below_drewN | apply below_drew1) | exact HB.out))); (case aF => exact (fun k_ hk => (.inr (Nat.le_trans (by first | exact HK.out.1 | exact (show Kept w _ (fun k_ => P0_ k_) from by repeat (first | (with_reducible first | exact HK.out | apply Kept.alloc | apply Kept.drewN | apply Kept.drew) | exact HK.out)).1) hk)))); (case aO => exact (by (with_reducible repeat (first | apply Kd.R_alloc | apply Kd.R_drewN | apply Kd.R_drew)); exact HO_0.out)); (case aS => exact (below_size (by repeat (first | (with_reducible first | exact HB.out | apply below_alloc | apply pw_below_drewN | apply below_drew1) | exact HB.out)))); (case aL => have := LMc10.out; omega); intro v103 w11 ho hb hg hat; rw [← Ny102.out] at ho; have n0_ := Aside0.mk (hb); have n1_ := Aside0.mk (Kept.of_grown (S := (fun k_ => P0_ k_)) hg (by repeat (first | (with_reducible first | exact HK.out | apply Kept.alloc | apply Kept.drewN | apply Kept.drew) | exact HK.out)) (fun k_ e_ => (HO_0.out.1 k_ e_))); have n2_ := Aside0.mk (ho); clear HB; clear HK; clear HO_0; have HB := n0_; have HK := n1_; have HO104 := n2_; clear n0_ n1_ n2_; clear ho hb hg hat))
                      go_roundg k2
                      case measure => have := HK1.out; have := HK2.out; omega
                      case rel => exact ⟨(y102), (wrap64 (x9_2 - 8)), (by first | rfl | (simp; done) | (simp [*]; done)), H', ⟨by have := HK1.out; have := HK2.out; omega⟩, ⟨by (with_reducible repeat (first | apply Kd.R_alloc | apply Kd.R_drewN | apply Kd.R_drew)); exact HO104.out⟩, ⟨by repeat (first | (with_reducible first | exact HK.out | apply Kept.alloc | apply Kept.drewN | apply Kept.drew) | exact HK.out)⟩, ⟨by repeat (first | (with_reducible first | exact HB.out | apply below_alloc | apply pw_below_drewN | apply below_drew1) | exact HB.out)⟩⟩
                    · rw [if_neg c10] at H
                      exact absurd H (by simp)
                  · rw [if_neg c8] at H
                    exact absurd H (by simp)
                · rw [if_neg c7] at H
                  have c7b0 : decide (0 ≤ x9_2) = false := decide_eq_false c7
                  clear c7
                  have H' := Aside0.mk H
                  clear H
                  go_wp2
                  go_roundg k2
                  case measure => have := HK1.out; have := HK2.out; omega
                  case rel => exact ⟨(x0_2), (wrap64 (x12_1 + 1)), (by first | rfl | (simp; done) | (simp [*]; done)), H', ⟨by have := HK1.out; have := HK2.out; omega⟩, ⟨by (with_reducible repeat (first | apply Kd.R_alloc | apply Kd.R_drewN | apply Kd.R_drew)); exact HO_0.out⟩, ⟨by repeat (first | (with_reducible first | exact HK.out | apply Kept.alloc | apply Kept.drewN | apply Kept.drew) | exact HK.out)⟩, ⟨by repeat (first | (with_reducible first | exact HB.out | apply below_alloc | apply pw_below_drewN | apply below_drew1) | exact HB.out)⟩⟩
          · rw [if_neg c6] at H
            exact absurd H (by simp)
        · rw [if_neg c5] at H
          exact absurd H (by simp)
      · rw [if_neg c4] at H
        have c4b0 : decide (x12_1 < (l2.length : Int)) = false := decide_eq_false c4
        clear c4
        obtain rfl := Option.some.inj H
        go_wp2
        go_ret
        exact ⟨_, by first | rfl | (simp [errW_none, errW_some] <;> rfl) | (simp [*, errW_none, errW_some] <;> rfl), by (with_reducible repeat (first | apply Kd.R_alloc | apply Kd.R_drewN | apply Kd.R_drew)); exact HO_0.out, by repeat (first | (with_reducible first | exact HB.out | apply below_alloc | apply pw_below_drewN | apply below_drew1) | exact HB.out), by repeat (first | (with_reducible first | exact HK.out | apply Kept.alloc | apply Kept.drewN | apply Kept.drew) | exact HK.out)⟩

/-! ### seal_Sum: function 20 (by hand) -/
open Go.Proofs.Ythaeecoahbohnaa.Plain
def seal_Sum.f (a0 : ByteArray) : Option (Int) := if a0.size ≤ 9223372036854775807 then some (sumOf a0) else none
set_option maxHeartbeats 800000 in
set_option maxRecDepth 100000 in
theorem seal_Sum.calls (a0 : ByteArray) (r : Int) (w : World) (h : seal_Sum.f a0 = some r) :
    Calls Try.prog 20 #[.string a0] w fun e w' => e = .returned (.int .u32 r) ∧ Below w.heap.size w w' := by
  unfold seal_Sum.f at h
  by_cases hs : a0.size ≤ 9223372036854775807
  · rw [if_pos hs] at h
    obtain rfl := Option.some.inj h
    clear h
    have kb := fun W => print_bytes (P := Try.prog) 9 41 5 Try.underlying9 Try.underlying41 Try.underlying5 a0 W
    go_enter Try.func20, Try.ntmps20
    go_wp2
    go_loop [3, 9] (fun v3 v9 => ∃ i : Nat, i ≤ a0.size ∧ v9 = .int .i64 i ∧ v3 = .int .u32 (fnv 2166136261 (a0.data.toList.take i))) (fun _ v9 => a0.size - (intOf v9).toNat)
    case atStart => exact ⟨0, Nat.zero_le _, rfl, rfl⟩
    case round =>
      obtain ⟨i, hi, rfl, rfl⟩ := hrel
      by_cases hlt : i < a0.size
      · have hcell := Lib.bytesWorld_cell w 5 a0 i hlt
        have hd : a0.data.toList.length = a0.size := data_length a0
        have hsn : fnv 2166136261 (a0.data.toList.take (i + 1)) = fnvStep (fnv 2166136261 (a0.data.toList.take i)) (a0.data[i]'hlt) := by
          rw [List.take_succ_eq_append_getElem (by omega), fnv_snoc, Array.getElem_toList]
        have HS := Aside0.mk hsn
        clear hsn
        have HD := Aside0.mk hd
        clear hd
        go_wp2
        go_round
        case rel => exact ⟨i + 1, by omega, by go_num, by rw [HS.out, fnvStep]⟩
        case measure => simp [intOf]; omega
      · go_wp2
        go_ret
        obtain rfl : i = a0.size := by omega
        exact ⟨by rw [sumOf, List.take_of_length_le (by rw [data_length]; exact Nat.le_refl _)]; rfl, bytes_below (Below.refl _ _) (Nat.le_refl _) _ _⟩
  · rw [if_neg hs] at h
    exact absurd h (by simp)

/-! ### journal_Lay: function 10 -/
def journal_Lay.j0 : Nat → Bool → Int → List Int → ByteArray → Option (ByteArray × Int)
  | 0, _, _, _, _ => none
  | k + 1, x24, x106000, x106001, x106002 => if x24 = true then (some ((⟨#[]⟩ : ByteArray), 1)) else ((journal_put.f k ([] : List Int) 4 (([wrap64 ((wrap64 (2 + (wrap64 (8 * (x106001.length : Int))))) + (x106002.size : Int))] : List Int))).bind fun t109 => ((journal_put.f k t109 1 (([x106000, (x106001.length : Int)] : List Int))).bind fun t115 => ((journal_put.f k t115 8 x106001).bind fun t118 => (if t118.length + x106002.size < 140737488355328 then ((some (t118 ++ bytesOf x106002 : List Int)).bind fun y121 => ((seal_Sum.f (strOfNums y121)).bind fun t124 => ((journal_put.f k y121 4 (([wrap64 (t124)] : List Int))).bind fun t128 => (some (strOfNums t128, 0))))) else (none)))))
def journal_Lay.f (k : Nat) (a0_0 : Int) (l0_1 : List Int) (a0_2 : ByteArray) : Option (ByteArray × Int) := if a0_0 < 0 then (journal_Lay.j0 k true a0_0 l0_1 a0_2) else (if a0_0 > 255 then (journal_Lay.j0 k true a0_0 l0_1 a0_2) else (if (l0_1.length : Int) > 255 then (journal_Lay.j0 k true a0_0 l0_1 a0_2) else (journal_Lay.j0 k (decide ((a0_2.size : Int) > 20000)) a0_0 l0_1 a0_2)))
theorem journal_Lay.mono_l : ∀ k, (∀ y0 y1 y2 y3, LeO (journal_Lay.j0 k y0 y1 y2 y3) (journal_Lay.j0 (k + 1) y0 y1 y2 y3))
  | 0 => fun _ _ _ _ r h => by simp [journal_Lay.j0] at h
  | k + 1 => by
    have ih0 := journal_Lay.mono_l k
    · intro y0 y1 y2 y3
      unfold journal_Lay.j0
      repeat' first
      | (with_reducible exact ih0 _ _ _ _)
      | (with_reducible exact journal_put.mono _ _ _ _)
      | (with_reducible exact LeO.refl _)
      | (with_reducible exact LeO.none _)
      | (with_reducible refine LeO.ite ?_ ?_)
      | (with_reducible refine LeO.bind ?_ (fun _ => ?_))
      | exact ih0 _ _ _ _
      | exact journal_put.mono _ _ _ _
      | exact LeO.none _
      | refine LeO.ite ?_ ?_
      | refine LeO.bind ?_ (fun _ => ?_)
theorem journal_Lay.mono : ∀ a0 a1 a2 k, LeO (journal_Lay.f k a0 a1 a2) (journal_Lay.f (k + 1) a0 a1 a2) := by
  intro a0 a1 a2 k
  have ih0 := journal_Lay.mono_l k
  unfold journal_Lay.f
  repeat' first
      | (with_reducible exact ih0 _ _ _ _)
      | (with_reducible exact journal_put.mono _ _ _ _)
      | (with_reducible exact LeO.refl _)
      | (with_reducible exact LeO.none _)
      | (with_reducible refine LeO.ite ?_ ?_)
      | (with_reducible refine LeO.bind ?_ (fun _ => ?_))
      | exact ih0 _ _ _ _
      | exact journal_put.mono _ _ _ _
      | exact LeO.none _
      | refine LeO.ite ?_ ?_
      | refine LeO.bind ?_ (fun _ => ?_)
def journal_Lay.T5 : Bool × List (List Nat × List Nat) := (true, [([], []), ([], []), ([1], [1]), ([0, 2], [0, 2]), ([], []), ([4], [4]), ([3, 5, 3], [3, 5]), ([6, 6, 0, 1, 2, 3, 4, 5, 6], [0, 6])])
def journal_Lay.B5 : List Nat := [0, 0, 2, 7, 0, 16, 63, 127]
theorem journal_Lay.tab5 : rtab .any (opsOf Try.f10 5) = journal_Lay.T5 := by kernel_rfl
theorem journal_Lay.bits5 : waitsOk journal_Lay.T5.2 journal_Lay.B5 = true := by kernel_rfl
set_option maxHeartbeats 8000000 in
set_option maxRecDepth 100000 in
theorem journal_Lay.calls (k : Nat) (a0_0 : Int) (A0_1 : Option Addr) (c0_1 : Nat) (l0_1 : List Int) (a0_2 : ByteArray) (r1 : ByteArray) (r2 : Int) (w : World) (hr0_1 : Kd.C (Kd.int .i64) w A0_1 l0_1.length l0_1) (hc0_1 : l0_1.length ≤ c0_1) (h : journal_Lay.f k a0_0 l0_1 a0_2 = some (r1, r2)) :
    Calls Try.prog 10 #[.agg #[.int .i64 a0_0, .slice A0_1 l0_1.length c0_1, .string a0_2]] w fun e w' => e = .returned (.tuple #[.string r1, .int .i64 r2]) ∧ Below w.heap.size w w' := by
  have hu29 := Try.underlying29
  have HR0_1 := Aside0.mk hr0_1
  have HC0_1 := Aside0.mk hc0_1
  clear hr0_1 hc0_1
  have HB := Aside0.mk (Below.refl w.heap.size w)
  have H : (if a0_0 < 0 then (journal_Lay.j0 k true a0_0 l0_1 a0_2) else (if a0_0 > 255 then (journal_Lay.j0 k true a0_0 l0_1 a0_2) else (if (l0_1.length : Int) > 255 then (journal_Lay.j0 k true a0_0 l0_1 a0_2) else (journal_Lay.j0 k (decide ((a0_2.size : Int) > 20000)) a0_0 l0_1 a0_2)))) = some (r1, r2) := h
  clear h
  have HC2 := Aside0.mk H
  clear H
  go_enter Try.func10, Try.ntmps10
  go_upto_region 1 with (first | ((with_reducible refine gate_dst (N := 1) rfl ?_); (try (refine gate_guard (by rfl) ?_; dsimp only)); refine box_event ?hg (N := 1) ?hd (cs := #[.int .i64 a0_0, .slice A0_1 l0_1.length c0_1, .string a0_2]) (t := 29) ?hr ?_; (case hd => rfl); (case hg => rfl); (case hr => first | (go_simp; done) | (go_simp; rfl)); intro gb105 hg w3 hbox hb; have n0_ := Aside0.mk (below_step (by repeat (first | (with_reducible first | exact HB.out | apply below_alloc | apply pw_below_drewN | apply below_drew1) | exact HB.out)) hb); have n1_ := Aside0.mk (hbox); have n2_ := Aside0.mk ((by rw [hg]; exact (below_size (by repeat (first | (with_reducible first | exact HB.out | apply below_alloc | apply pw_below_drewN | apply below_drew1) | exact HB.out))) : w.heap.size ≤ gb105)); have n3_ := Aside0.mk ((by rw [hg]; exact (below_size (by repeat (first | (with_reducible first | exact HB.out | apply below_alloc | apply pw_below_drewN | apply below_drew1) | exact HB.out))) : w.heap.size ≤ gb105)); clear HB; have HB := n0_; have BK105 := n1_; have GW105 := n2_; have GE105 := n3_; clear n0_ n1_ n2_ n3_; clear hb hbox hg))
  (try simp only [Act.put, List.setIfInBounds_toArray, List.set_cons_zero, List.set_cons_succ])
  go_cut [24] (fun v24 wc => ∃ (kq : Nat) (x24_1 : Bool), v24 = .bool x24_1 ∧ Aside0 (journal_Lay.j0 kq x24_1 a0_0 l0_1 a0_2 = some (r1, r2)) ∧ Aside0 (kq ≤ k) ∧ Aside0 (wc.heap[gb105]? = some (.cells #[.int .i64 a0_0, (.slice A0_1 l0_1.length c0_1), .string a0_2] 29 (0, 0))) ∧ Aside0 (Below w.heap.size w wc))
  case first =>
    have H := HC2.out
    clear HC2
    by_cases c4 : a0_0 < 0
    · rw [if_pos c4] at H
      have c4b0 : decide (a0_0 < 0) = true := decide_eq_true c4
      clear c4
      (first | rw [c4b0] | (simp only [i64_w, i32_w]; rw [c4b0]) | skip)
      have H' := Aside0.mk H
      clear H
      have hcz5_0 : w3.cell? ⟨gb105, 0, none⟩ = some (.int .i64 a0_0) := (blk_cell BK105.out 0).trans rfl
      have hcz5_1 : w3.cell? ⟨gb105, 1, none⟩ = some (.slice A0_1 l0_1.length c0_1) := (blk_cell BK105.out 1).trans rfl
      have hcz5_2 : w3.cell? ⟨gb105, 2, none⟩ = some (.string a0_2) := (blk_cell BK105.out 2).trans rfl
      have hfz5_0 := blk_frozen BK105.out 0
      have hfz5_1 := blk_frozen BK105.out 1
      have hfz5_2 := blk_frozen BK105.out 2
      go_wp2
      go_meet
      case rel => exact ⟨_, (true), (by first | rfl | (simp; done) | (simp [*]; done)), H', ⟨by first | omega | exact Nat.le_refl _⟩, ⟨by (with_reducible repeat (first | refine blk_drewN ?_ _ | refine blk_drew ?_ | refine blk_alloc ?_ _)); exact BK105.out⟩, ⟨by repeat (first | (with_reducible first | exact HB.out | apply below_alloc | apply pw_below_drewN | apply below_drew1 | refine below_set ?_ GE105.out) | exact HB.out)⟩⟩
    · rw [if_neg c4] at H
      have c4b0 : decide (a0_0 < 0) = false := decide_eq_false c4
      clear c4
      (first | rw [c4b0] | (simp only [i64_w, i32_w]; rw [c4b0]) | skip)
      by_cases c6 : a0_0 > 255
      · rw [if_pos c6] at H
        have c6b0 : decide (255 < a0_0) = true := decide_eq_true c6
        clear c6
        have H' := Aside0.mk H
        clear H
        have hcz7_0 : w3.cell? ⟨gb105, 0, none⟩ = some (.int .i64 a0_0) := (blk_cell BK105.out 0).trans rfl
        have hcz7_1 : w3.cell? ⟨gb105, 1, none⟩ = some (.slice A0_1 l0_1.length c0_1) := (blk_cell BK105.out 1).trans rfl
        have hcz7_2 : w3.cell? ⟨gb105, 2, none⟩ = some (.string a0_2) := (blk_cell BK105.out 2).trans rfl
        have hfz7_0 := blk_frozen BK105.out 0
        have hfz7_1 := blk_frozen BK105.out 1
        have hfz7_2 := blk_frozen BK105.out 2
        go_wp2
        go_meet
        case rel => exact ⟨_, (true), (by first | rfl | (simp; done) | (simp [*]; done)), H', ⟨by first | omega | exact Nat.le_refl _⟩, ⟨by (with_reducible repeat (first | refine blk_drewN ?_ _ | refine blk_drew ?_ | refine blk_alloc ?_ _)); exact BK105.out⟩, ⟨by repeat (first | (with_reducible first | exact HB.out | apply below_alloc | apply pw_below_drewN | apply below_drew1 | refine below_set ?_ GE105.out) | exact HB.out)⟩⟩
      · rw [if_neg c6] at H
        have c6b0 : decide (255 < a0_0) = false := decide_eq_false c6
        clear c6
        by_cases c8 : (l0_1.length : Int) > 255
        · rw [if_pos c8] at H
          have c8b0 : decide (255 < (l0_1.length : Int)) = true := decide_eq_true c8
          have c8b1 : decide (255 < l0_1.length) = true := decide_eq_true (by omega)
          clear c8
          have H' := Aside0.mk H
          clear H
          have hcz9_0 : w3.cell? ⟨gb105, 0, none⟩ = some (.int .i64 a0_0) := (blk_cell BK105.out 0).trans rfl
          have hcz9_1 : w3.cell? ⟨gb105, 1, none⟩ = some (.slice A0_1 l0_1.length c0_1) := (blk_cell BK105.out 1).trans rfl
          have hcz9_2 : w3.cell? ⟨gb105, 2, none⟩ = some (.string a0_2) := (blk_cell BK105.out 2).trans rfl
          have hfz9_0 := blk_frozen BK105.out 0
          have hfz9_1 := blk_frozen BK105.out 1
          have hfz9_2 := blk_frozen BK105.out 2
          go_wp2
          go_meet
          case rel => exact ⟨_, (true), (by first | rfl | (simp; done) | (simp [*]; done)), H', ⟨by first | omega | exact Nat.le_refl _⟩, ⟨by (with_reducible repeat (first | refine blk_drewN ?_ _ | refine blk_drew ?_ | refine blk_alloc ?_ _)); exact BK105.out⟩, ⟨by repeat (first | (with_reducible first | exact HB.out | apply below_alloc | apply pw_below_drewN | apply below_drew1 | refine below_set ?_ GE105.out) | exact HB.out)⟩⟩
        · rw [if_neg c8] at H
          have c8b0 : decide (255 < (l0_1.length : Int)) = false := decide_eq_false c8
          have c8b1 : decide (255 < l0_1.length) = false := decide_eq_false (by omega)
          clear c8
          have H' := Aside0.mk H
          clear H
          have hcz10_0 : w3.cell? ⟨gb105, 0, none⟩ = some (.int .i64 a0_0) := (blk_cell BK105.out 0).trans rfl
          have hcz10_1 : w3.cell? ⟨gb105, 1, none⟩ = some (.slice A0_1 l0_1.length c0_1) := (blk_cell BK105.out 1).trans rfl
          have hcz10_2 : w3.cell? ⟨gb105, 2, none⟩ = some (.string a0_2) := (blk_cell BK105.out 2).trans rfl
          have hfz10_0 := blk_frozen BK105.out 0
          have hfz10_1 := blk_frozen BK105.out 1
          have hfz10_2 := blk_frozen BK105.out 2
          go_wp2
          go_meet
          case rel => exact ⟨_, (decide ((a0_2.size : Int) > 20000)), (by first | rfl | (simp; done) | (simp [*]; done)), H', ⟨by first | omega | exact Nat.le_refl _⟩, ⟨by (with_reducible repeat (first | refine blk_drewN ?_ _ | refine blk_drew ?_ | refine blk_alloc ?_ _)); exact BK105.out⟩, ⟨by repeat (first | (with_reducible first | exact HB.out | apply below_alloc | apply pw_below_drewN | apply below_drew1 | refine below_set ?_ GE105.out) | exact HB.out)⟩⟩
  case rest =>
    clear HC2
    try clear c1
    try clear p2
    try clear c4
    try clear c4b0
    try clear c6
    try clear c6b0
    try clear c8
    try clear c8b0
    try clear c8b1
    try clear c10
    try clear hcz10_0
    try clear hcz10_1
    try clear hcz10_2
    try clear hcz5_0
    try clear hcz5_1
    try clear hcz5_2
    try clear hcz7_0
    try clear hcz7_1
    try clear hcz7_2
    try clear hcz9_0
    try clear hcz9_1
    try clear hcz9_2
    try clear hfz10_0
    try clear hfz10_1
    try clear hfz10_2
    try clear hfz5_0
    try clear hfz5_1
    try clear hfz5_2
    try clear hfz7_0
    try clear hfz7_1
    try clear hfz7_2
    try clear hfz9_0
    try clear hfz9_1
    try clear hfz9_2
    obtain ⟨kq, x24_1, rfl, HA, HJ1, BK105, HB⟩ := hcut
    cases kq with
    | zero => exact absurd HA.out (by simp [journal_Lay.j0])
    | succ kj1 =>
      have H := HA.out
      clear HA
      simp only [journal_Lay.j0] at H
      by_cases c11 : x24_1 = true
      · subst c11
        have H1 : (some ((⟨#[]⟩ : ByteArray), 1)) = some (r1, r2) := by rw [if_pos rfl] at H; exact H
        clear H
        have H := H1
        clear H1
        simp only [Option.some.injEq, Prod.mk.injEq] at H
        obtain ⟨rfl, rfl⟩ := H
        go_wp2
        go_ret2
        exact ⟨by first | rfl | (simp [errW_none, errW_some] <;> rfl) | (simp [*, errW_none, errW_some] <;> rfl), by repeat (first | (with_reducible first | exact HB.out | apply below_alloc | apply pw_below_drewN | apply below_drew1 | refine below_set ?_ GE105.out) | exact HB.out)⟩
      · replace c11 := Bool.eq_false_iff.mpr c11
        subst c11
        have H1 : ((journal_put.f kj1 ([] : List Int) 4 (([wrap64 ((wrap64 (2 + (wrap64 (8 * (l0_1.length : Int))))) + (a0_2.size : Int))] : List Int))).bind fun t109 => ((journal_put.f kj1 t109 1 (([a0_0, (l0_1.length : Int)] : List Int))).bind fun t115 => ((journal_put.f kj1 t115 8 l0_1).bind fun t118 => (if t118.length + a0_2.size < 140737488355328 then ((some (t118 ++ bytesOf a0_2 : List Int)).bind fun y121 => ((seal_Sum.f (strOfNums y121)).bind fun t124 => ((journal_put.f kj1 y121 4 (([wrap64 (t124)] : List Int))).bind fun t128 => (some (strOfNums t128, 0))))) else (none))))) = some (r1, r2) := by rw [if_neg (show ¬ (false = true) by decide)] at H; exact H
        clear H
        have H := H1
        clear H1
        obtain ⟨y106, hy106⟩ : ∃ y_ : List Int, y_ = (([wrap64 ((wrap64 (2 + (wrap64 (8 * (l0_1.length : Int))))) + (a0_2.size : Int))] : List Int)) := ⟨_, rfl⟩
        replace H : ((journal_put.f kj1 ([] : List Int) 4 y106).bind fun t109 => ((journal_put.f kj1 t109 1 (([a0_0, (l0_1.length : Int)] : List Int))).bind fun t115 => ((journal_put.f kj1 t115 8 l0_1).bind fun t118 => (if t118.length + a0_2.size < 140737488355328 then ((some (t118 ++ bytesOf a0_2 : List Int)).bind fun y121 => ((seal_Sum.f (strOfNums y121)).bind fun t124 => ((journal_put.f kj1 y121 4 (([wrap64 (t124)] : List Int))).bind fun t128 => (some (strOfNums t128, 0))))) else (none))))) = some (r1, r2) := by first | (rw [hy106]; with_reducible exact H) | (have H2_ := (Option.bind_some _ _).symm.trans H; rw [hy106]; with_reducible exact H2_) | (have H2_ := (Option.bind_some _ _).symm.trans H; with_reducible exact H2_) | with_reducible exact H | (rw [hy106]; exact H) | exact H
        have Ny106 := Aside0.mk hy106
        clear hy106
        replace H := Option.bind_eq_some_iff.mp H
        obtain ⟨t109, A120, H⟩ := H
        replace H : ((journal_put.f kj1 t109 1 (([a0_0, (l0_1.length : Int)] : List Int))).bind fun t115 => ((journal_put.f kj1 t115 8 l0_1).bind fun t118 => (if t118.length + a0_2.size < 140737488355328 then ((some (t118 ++ bytesOf a0_2 : List Int)).bind fun y121 => ((seal_Sum.f (strOfNums y121)).bind fun t124 => ((journal_put.f kj1 y121 4 (([wrap64 (t124)] : List Int))).bind fun t128 => (some (strOfNums t128, 0))))) else (none)))) = some (r1, r2) := H
        have A12 := Aside0.mk A120
        clear A120
        obtain ⟨y112, hy112⟩ : ∃ y_ : List Int, y_ = (([a0_0, (l0_1.length : Int)] : List Int)) := ⟨_, rfl⟩
        replace H : ((journal_put.f kj1 t109 1 y112).bind fun t115 => ((journal_put.f kj1 t115 8 l0_1).bind fun t118 => (if t118.length + a0_2.size < 140737488355328 then ((some (t118 ++ bytesOf a0_2 : List Int)).bind fun y121 => ((seal_Sum.f (strOfNums y121)).bind fun t124 => ((journal_put.f kj1 y121 4 (([wrap64 (t124)] : List Int))).bind fun t128 => (some (strOfNums t128, 0))))) else (none)))) = some (r1, r2) := by first | (rw [hy112]; with_reducible exact H) | (have H2_ := (Option.bind_some _ _).symm.trans H; rw [hy112]; with_reducible exact H2_) | (have H2_ := (Option.bind_some _ _).symm.trans H; with_reducible exact H2_) | with_reducible exact H | (rw [hy112]; exact H) | exact H
        have Ny112 := Aside0.mk hy112
        clear hy112
        replace H := Option.bind_eq_some_iff.mp H
        obtain ⟨t115, A130, H⟩ := H
        replace H : ((journal_put.f kj1 t115 8 l0_1).bind fun t118 => (if t118.length + a0_2.size < 140737488355328 then ((some (t118 ++ bytesOf a0_2 : List Int)).bind fun y121 => ((seal_Sum.f (strOfNums y121)).bind fun t124 => ((journal_put.f kj1 y121 4 (([wrap64 (t124)] : List Int))).bind fun t128 => (some (strOfNums t128, 0))))) else (none))) = some (r1, r2) := H
        have A13 := Aside0.mk A130
        clear A130
        replace H := Option.bind_eq_some_iff.mp H
        obtain ⟨t118, A140, H⟩ := H
        replace H : (if t118.length + a0_2.size < 140737488355328 then ((some (t118 ++ bytesOf a0_2 : List Int)).bind fun y121 => ((seal_Sum.f (strOfNums y121)).bind fun t124 => ((journal_put.f kj1 y121 4 (([wrap64 (t124)] : List Int))).bind fun t128 => (some (strOfNums t128, 0))))) else (none)) = some (r1, r2) := H
        have A14 := Aside0.mk A140
        clear A140
        by_cases c15 : t118.length + a0_2.size < 140737488355328
        · rw [if_pos c15] at H
          have LMc15 := Aside0.mk c15
          clear c15
          obtain ⟨y121, hy121⟩ : ∃ y_ : List Int, y_ = (t118 ++ bytesOf a0_2) := ⟨_, rfl⟩
          replace H : ((seal_Sum.f (strOfNums y121)).bind fun t124 => ((journal_put.f kj1 y121 4 (([wrap64 (t124)] : List Int))).bind fun t128 => (some (strOfNums t128, 0)))) = some (r1, r2) := by first | (rw [hy121]; with_reducible exact H) | (have H2_ := (Option.bind_some _ _).symm.trans H; rw [hy121]; with_reducible exact H2_) | (have H2_ := (Option.bind_some _ _).symm.trans H; with_reducible exact H2_) | with_reducible exact H | (rw [hy121]; exact H) | exact H
          have Ny121 := Aside0.mk hy121
          clear hy121
          replace H := Option.bind_eq_some_iff.mp H
          obtain ⟨t124, A160, H⟩ := H
          replace H : ((journal_put.f kj1 y121 4 (([wrap64 (t124)] : List Int))).bind fun t128 => (some (strOfNums t128, 0))) = some (r1, r2) := H
          have A16 := Aside0.mk A160
          clear A160
          obtain ⟨y125, hy125⟩ : ∃ y_ : List Int, y_ = (([wrap64 (t124)] : List Int)) := ⟨_, rfl⟩
          replace H : ((journal_put.f kj1 y121 4 y125).bind fun t128 => (some (strOfNums t128, 0))) = some (r1, r2) := by first | (rw [hy125]; with_reducible exact H) | (have H2_ := (Option.bind_some _ _).symm.trans H; rw [hy125]; with_reducible exact H2_) | (have H2_ := (Option.bind_some _ _).symm.trans H; with_reducible exact H2_) | with_reducible exact H | (rw [hy125]; exact H) | exact H
          have Ny125 := Aside0.mk hy125
          clear hy125
          replace H := Option.bind_eq_some_iff.mp H
          obtain ⟨t128, A170, H⟩ := H
          replace H : (some (strOfNums t128, 0)) = some (r1, r2) := H
          have A17 := Aside0.mk A170
          clear A170
          simp only [Option.some.injEq, Prod.mk.injEq] at H
          obtain ⟨rfl, rfl⟩ := H
          have hcz18_0 : wc.cell? ⟨gb105, 0, none⟩ = some (.int .i64 a0_0) := (blk_cell BK105.out 0).trans rfl
          have hcz18_1 : wc.cell? ⟨gb105, 1, none⟩ = some (.slice A0_1 l0_1.length c0_1) := (blk_cell BK105.out 1).trans rfl
          have hcz18_2 : wc.cell? ⟨gb105, 2, none⟩ = some (.string a0_2) := (blk_cell BK105.out 2).trans rfl
          have hfz18_0 := blk_frozen BK105.out 0
          have hfz18_1 := blk_frozen BK105.out 1
          have hfz18_2 := blk_frozen BK105.out 2
          try go_wp2_with (first | ((with_reducible refine gate_dst (N := 34) rfl ?_); (try (refine gate_guard (by rfl) ?_; dsimp only)); refine Kd.R_lit (Kd.int .i64) _ 3 ?hg (N := 34) ?hd (xs := ([wrap64 ((wrap64 (2 + (wrap64 (8 * (l0_1.length : Int))))) + (a0_2.size : Int))] : List Int)) (inner := [.int .i64 (wrap64 ((wrap64 (2 + (wrap64 (8 * (l0_1.length : Int))))) + (a0_2.size : Int)))]) (ok := fun _ => True) (okp := fun _ => True) ?hr ?hp (fun _ hk => hk) trivial (Below.refl _ _) (Nat.le_refl _) (by simp) ?_; (case hd => rfl); (case hg => rfl); (case hr => first | (go_simp; done) | (go_simp; rfl)); (case hp => exact (Reps.one (show Kd.M (Kd.int .i64) _ _ _ (wrap64 ((wrap64 (2 + (wrap64 (8 * (l0_1.length : Int))))) + (a0_2.size : Int))) [.int .i64 (wrap64 ((wrap64 (2 + (wrap64 (8 * (l0_1.length : Int))))) + (a0_2.size : Int)))] from rfl) (Reps.none _ _))); intro v107 w19 ho20 hb hg_ hnew_; clear hg_ hnew_; (first | rw [← Ny106.out] at ho20 | (simp only [Int.reduceToNat] at ho20; rw [← Ny106.out] at ho20)); have n0_ := Aside0.mk (Kd.R_lower ho20 (below_size (by repeat (first | (with_reducible first | exact HB.out | apply below_alloc | apply pw_below_drewN | apply below_drew1 | refine below_set ?_ GE105.out) | exact HB.out)))); have n1_ := Aside0.mk (blk_below (g := gb105) (o := .cells #[.int .i64 a0_0, .slice A0_1 l0_1.length c0_1, .string a0_2] 29 (0, 0)) (by (with_reducible repeat (first | refine blk_drewN ?_ _ | refine blk_drew ?_ | refine blk_alloc ?_ _)); exact BK105.out) hb); have n2_ := Aside0.mk (below_step (by repeat (first | (with_reducible first | exact HB.out | apply below_alloc | apply pw_below_drewN | apply below_drew1 | refine below_set ?_ GE105.out) | exact HB.out)) hb); clear BK105; clear HB; have HO108 := n0_; have BK105 := n1_; have HB := n2_; clear n0_ n1_ n2_; clear hb ho20; obtain ⟨Ao21, co21, eo21⟩ := Kd.R_slice HO108.out; subst eo21) | ((with_reducible refine gate_callee (f := 19) rfl ?_); refine goesL_ (some 35) rfl rfl Try.func19 (by kernel_rfl) rfl #[.slice none 0 0, .int .i64 4, .slice Ao21 y106.length co21] rfl (by (try simp only [List.map_toArray, List.map_cons, List.map_nil]); first | done | rfl | (simp only [List.length_drop, List.length_take]; rfl)) ?_; (refine (journal_put.calls kj1 (fun k_ => some k_ = (.slice none 0 0 : Value).ownBlock) (.slice none 0 0) ([] : List Int) 4 _ _ y106 t109 w _ ?side1 ?side2 ?side3 ?side4 A12.out).mono ?_); (case side1 => repeat (first | (with_reducible first | exact HB.out | apply below_alloc | apply pw_below_drewN | apply below_drew1 | refine below_set ?_ GE105.out) | exact HB.out)); (case side2 => exact Kd.R_nil _ _ _ _ _); (case side3 => exact Kd.C_kept_own (HO108.out) (fun k_ hk_ hs_ => (fun e_ => by simp [Value.ownBlock] at e_) hs_)); (case side4 => exact (Kd.R_reads' HO108.out).2.1); rintro e w22 ⟨v110, rfl, ho0, hb, hkp⟩; refine ⟨_, rfl, ?_⟩; have n0_ := Aside0.mk (blk_kept (by (with_reducible repeat (first | refine blk_drewN ?_ _ | refine blk_drew ?_ | refine blk_alloc ?_ _)); exact BK105.out) hkp (fun hs_ => (fun e_ => by simp [Value.ownBlock] at e_) hs_)); have n1_ := Aside0.mk (Kd.R_mono (ok' := fun k_ => True) (Kd.R_keptB (HO108.out) hkp (fun k_ hk_ hs_ => (fun e_ => by simp [Value.ownBlock] at e_) hs_)) (fun k_ hk_ => trivial)); have n2_ := Aside0.mk (Kd.R_mono (ok' := fun k_ => True) ho0 (fun k_ hk_ => trivial)); have n3_ := Aside0.mk (hb); clear BK105; clear HO108; clear HB; have BK105 := n0_; have HO108 := n1_; have HO111 := n2_; have HB := n3_; clear n0_ n1_ n2_ n3_; (try clear hb); (try clear hkp); (try clear ho0); have hcz23_0 : w22.cell? ⟨gb105, 0, none⟩ = some (.int .i64 a0_0) := (blk_cell BK105.out 0).trans rfl; have hcz23_1 : w22.cell? ⟨gb105, 1, none⟩ = some (.slice A0_1 l0_1.length c0_1) := (blk_cell BK105.out 1).trans rfl; have hcz23_2 : w22.cell? ⟨gb105, 2, none⟩ = some (.string a0_2) := (blk_cell BK105.out 2).trans rfl; have hfz23_0 := blk_frozen BK105.out 0; have hfz23_1 := blk_frozen BK105.out 1; have hfz23_2 := blk_frozen BK105.out 2) | ((with_reducible refine gate_dst (N := 42) rfl ?_); (try (refine gate_guard (by rfl) ?_; dsimp only)); refine Kd.R_lit (Kd.int .i64) _ 3 ?hg (N := 42) ?hd (xs := ([a0_0, (l0_1.length : Int)] : List Int)) (inner := [.int .i64 a0_0, .int .i64 (l0_1.length : Int)]) (ok := fun _ => True) (okp := fun _ => True) ?hr ?hp (fun _ hk => hk) trivial (Below.refl _ _) (Nat.le_refl _) (by simp) ?_; (case hd => rfl); (case hg => rfl); (case hr => first | (go_simp; done) | (go_simp; rfl)); (case hp => exact (Reps.one (show Kd.M (Kd.int .i64) _ _ _ a0_0 [.int .i64 a0_0] from rfl) (Reps.one (show Kd.M (Kd.int .i64) _ _ _ (l0_1.length : Int) [.int .i64 (l0_1.length : Int)] from rfl) (Reps.none _ _)))); intro v113 w24 ho25 hb hg_ hnew_; clear hg_ hnew_; (first | rw [← Ny112.out] at ho25 | (simp only [Int.reduceToNat] at ho25; rw [← Ny112.out] at ho25)); have n0_ := Aside0.mk (Kd.R_elder' (by (with_reducible repeat (first | apply Kd.R_alloc | apply Kd.R_drewN | apply Kd.R_drew)); exact HO108.out) (Kd.R_base ho25) hb); have n1_ := Aside0.mk (Kd.R_below (by (with_reducible repeat (first | apply Kd.R_alloc | apply Kd.R_drewN | apply Kd.R_drew)); exact HO111.out) hb); have n2_ := Aside0.mk (Kd.R_lower (Kd.R_new' ho25 (Kd.R_lt (by (with_reducible repeat (first | apply Kd.R_alloc | apply Kd.R_drewN | apply Kd.R_drew)); exact HO108.out))) (below_size (by repeat (first | (with_reducible first | exact HB.out | apply below_alloc | apply pw_below_drewN | apply below_drew1 | refine below_set ?_ GE105.out) | exact HB.out)))); have n3_ := Aside0.mk (blk_below (g := gb105) (o := .cells #[.int .i64 a0_0, .slice A0_1 l0_1.length c0_1, .string a0_2] 29 (0, 0)) (by (with_reducible repeat (first | refine blk_drewN ?_ _ | refine blk_drew ?_ | refine blk_alloc ?_ _)); exact BK105.out) hb); have n4_ := Aside0.mk (below_step (by repeat (first | (with_reducible first | exact HB.out | apply below_alloc | apply pw_below_drewN | apply below_drew1 | refine below_set ?_ GE105.out) | exact HB.out)) hb); clear HO108; clear HO111; clear BK105; clear HB; have HO108 := n0_; have HO111 := n1_; have HO114 := n2_; have BK105 := n3_; have HB := n4_; clear n0_ n1_ n2_ n3_ n4_; clear hb ho25; obtain ⟨Ao26, co26, eo26⟩ := Kd.R_slice HO111.out; subst eo26; obtain ⟨Ao27, co27, eo27⟩ := Kd.R_slice HO114.out; subst eo27) | ((with_reducible refine gate_callee (f := 19) rfl ?_); refine goesL_ (some 43) rfl rfl Try.func19 (by kernel_rfl) rfl #[.slice Ao26 t109.length co26, .int .i64 1, .slice Ao27 y112.length co27] rfl (by (try simp only [List.map_toArray, List.map_cons, List.map_nil]); first | done | rfl | (simp only [List.length_drop, List.length_take]; rfl)) ?_; (with_reducible refine (journal_put.calls kj1 (fun k_ => some k_ = (.slice Ao26 t109.length co26 : Value).ownBlock) (.slice Ao26 t109.length co26) t109 1 _ _ y112 t115 w _ ?side1 ?side2 ?side3 ?side4 A13.out).mono ?_); (case side1 => repeat (first | (with_reducible first | exact HB.out | apply below_alloc | apply pw_below_drewN | apply below_drew1 | refine below_set ?_ GE105.out) | exact HB.out)); (case side2 => exact Kd.R_tight rfl HO111.out); (case side3 => exact Kd.C_kept_own ((Kd.R_apart' HO114.out (Kd.R_typed HO111.out) (by decide))) (fun k_ hk_ hs_ => (hk_.2) hs_)); (case side4 => exact (Kd.R_reads' HO114.out).2.1); rintro e w28 ⟨v116, rfl, ho0, hb, hkp⟩; refine ⟨_, rfl, ?_⟩; have n0_ := Aside0.mk (blk_kept (by (with_reducible repeat (first | refine blk_drewN ?_ _ | refine blk_drew ?_ | refine blk_alloc ?_ _)); exact BK105.out) hkp (fun hs_ => (fun e_ => (Kd.R_ne HO111.out BK105.out (by decide)) e_) hs_)); have n1_ := Aside0.mk (Kd.R_mono (ok' := fun k_ => some k_ ≠ (.slice Ao27 y112.length co27 : Value).ownBlock) (Kd.R_keptB ((Kd.R_apart' HO108.out (Kd.R_typed HO111.out) (by decide))) hkp (fun k_ hk_ hs_ => (hk_.2) hs_)) (fun k_ hk_ => hk_.1.1.2)); have n2_ := Aside0.mk (Kd.R_mono (ok' := fun k_ => some k_ ≠ (.slice Ao21 y106.length co21 : Value).ownBlock) (Kd.R_keptB ((Kd.R_apart' HO114.out (Kd.R_typed HO111.out) (by decide))) hkp (fun k_ hk_ hs_ => (hk_.2) hs_)) (fun k_ hk_ => hk_.1.1.2)); have n3_ := Aside0.mk (Kd.R_mono (ok' := fun k_ => True) ho0 (fun k_ hk_ => trivial)); have n4_ := Aside0.mk (hb); clear BK105; clear HO108; clear HO114; clear HB; clear HO111; have BK105 := n0_; have HO108 := n1_; have HO114 := n2_; have HO117 := n3_; have HB := n4_; clear n0_ n1_ n2_ n3_ n4_; (try clear hb); (try clear hkp); (try clear ho0)))
          have n0_ := Aside0.mk (Kd.R_drew HO108.out)
          have n1_ := Aside0.mk (Kd.R_drew HO114.out)
          have n2_ := Aside0.mk (Kd.R_drew HO117.out)
          have n3_ := Aside0.mk (blk_drew BK105.out)
          have n4_ := Aside0.mk (below_drew1 HB.out)
          clear HO108
          clear HO114
          clear HO117
          clear BK105
          clear HB
          have HO108 := n0_
          have HO114 := n1_
          have HO117 := n2_
          have BK105 := n3_
          have HB := n4_
          clear n0_ n1_ n2_ n3_ n4_
          obtain ⟨Ao30, co30, eo30⟩ := Kd.R_slice HO117.out
          (first | subst eo30 | (injection eo30 with f1_ f2_ f3_; have f4_ := f1_.symm; have f5_ := f3_.symm; clear f1_ f2_ f3_; subst f4_; subst f5_))
          refine start_ (n := 8) (S := fun w' => w'.cell? ⟨gb105, 0, none⟩ = some (.int .i64 a0_0) ∧ w'.cell? ⟨gb105, 1, none⟩ = some (.slice A0_1 l0_1.length c0_1) ∧ w'.cell? ⟨gb105, 2, none⟩ = some (.string a0_2)) (ds := []) #[false, false, false, false, false, false, false, false] (by kernel_rfl) rfl rfl ⟨(blk_cell BK105.out 0).trans rfl, (blk_cell BK105.out 1).trans rfl, (blk_cell BK105.out 2).trans rfl⟩ (fun hHeld => ?_); refine with_tabW journal_Lay.tab5 journal_Lay.bits5 (fun HT_ HW_ => ?_)
          generalize w28.drew = w29 at HO108 HO114 HO117 BK105 HB hHeld ⊢
          refine pure_ (i := 0) (N := some 44) (v := ?_) (a' := ?_) #[true, false, false, false, false, false, false, false] rfl rfl (any_of HT_.out (by kernel_rfl)) (fun _ _ _ h => h) (Or.inl ⟨by rfl, ?_⟩) ?_ ?_
          rotate_left
          · intro w'
            go_simp
            with_reducible rfl
          rotate_left
          · simp only [Act.put, List.setIfInBounds_toArray, List.set_cons_zero, List.set_cons_succ, i64_w, i32_w]
            rfl
          refine pure_ (i := 1) (N := some 45) (v := ?_) (a' := ?_) #[true, true, false, false, false, false, false, false] rfl rfl (any_of HT_.out (by kernel_rfl)) (fun _ _ _ h => h) (Or.inl ⟨by rfl, ?_⟩) ?_ ?_
          rotate_left
          · intro w'
            go_simp
            with_reducible rfl
          rotate_left
          · simp only [Act.put, List.setIfInBounds_toArray, List.set_cons_zero, List.set_cons_succ, i64_w, i32_w]
            rfl
          refine pure_ (i := 4) (N := some 48) (v := ?_) (a' := ?_) #[true, true, false, false, true, false, false, false] rfl rfl (any_of HT_.out (by kernel_rfl)) (fun _ _ _ h => h) (Or.inl ⟨by rfl, ?_⟩) ?_ ?_
          rotate_left
          · intro w'
            go_simp
            with_reducible rfl
          rotate_left
          · simp only [Act.put, List.setIfInBounds_toArray, List.set_cons_zero, List.set_cons_succ, i64_w, i32_w]
            rfl
          refine take_ (i := 2) (N := some 46) (v := ?_) (a' := ?_) #[true, true, true, false, true, false, false, false] rfl rfl (take_ofW HT_.out HW_.out (by kernel_rfl)) (fun _ _ _ h => h) (Or.inl ⟨by rfl, ?_⟩) hHeld ?_ ?_
          rotate_left
          · rintro w' ⟨s0, s1, s2⟩
            go_simp
            with_reducible rfl
          rotate_left
          · simp only [Act.put, List.setIfInBounds_toArray, List.set_cons_zero, List.set_cons_succ, i64_w, i32_w]
            rfl
          refine take_ (i := 5) (N := some 49) (v := ?_) (a' := ?_) #[true, true, true, false, true, true, false, false] rfl rfl (take_ofW HT_.out HW_.out (by kernel_rfl)) (fun _ _ _ h => h) (Or.inl ⟨by rfl, ?_⟩) hHeld ?_ ?_
          rotate_left
          · rintro w' ⟨s0, s1, s2⟩
            go_simp
            with_reducible rfl
          rotate_left
          · simp only [Act.put, List.setIfInBounds_toArray, List.set_cons_zero, List.set_cons_succ, i64_w, i32_w]
            rfl
          refine one_ (i := 3) (N := some 47) #[true, true, true, true, true, true, false, false] rfl rfl (one_of HT_.out (by kernel_rfl)) (by decide) (fun K hK => ?_)
          refine goes_ Try.func19 (by kernel_rfl) rfl #[.slice Ao30 t115.length co30, .int .i64 8, .slice A0_1 l0_1.length c0_1] (by rfl) rfl rfl (by (try simp only [List.map_toArray, List.map_cons, List.map_nil]); first | done | rfl | (simp only [List.length_drop, List.length_take]; rfl)) ?_
          with_reducible refine (journal_put.calls kj1 (fun k_ => some k_ = (.slice Ao30 t115.length co30 : Value).ownBlock) (.slice Ao30 t115.length co30) t115 8 _ _ l0_1 t118 w _ ?side1 ?side2 ?side3 ?side4 A14.out).mono ?_
          (case side1 => repeat (first | (with_reducible first | exact HB.out | apply below_alloc | apply pw_below_drewN | apply below_drew1 | refine below_set ?_ GE105.out) | exact HB.out))
          (case side2 => exact Kd.R_tight rfl HO117.out)
          (case side3 => exact Kd.C_kept_came (Kd.heap_int .i64) HR0_1.out (by repeat (first | (with_reducible first | exact HB.out | apply below_alloc | apply pw_below_drewN | apply below_drew1 | refine below_set ?_ GE105.out) | exact HB.out)) (fun k_ hs_ => (fun e_ => Kd.R_base HO117.out k_ e_.symm) hs_))
          (case side4 => exact HC0_1.out)
          rintro e w31 ⟨v119, rfl, ho0, hb, hkp⟩
          refine ⟨_, rfl, ?_⟩
          have n0_ := Aside0.mk (blk_kept (by (with_reducible repeat (first | refine blk_drewN ?_ _ | refine blk_drew ?_ | refine blk_alloc ?_ _)); exact BK105.out) hkp (fun hs_ => (fun e_ => (Kd.R_ne HO117.out BK105.out (by decide)) e_) hs_))
          have n1_ := Aside0.mk (Kd.R_mono (ok' := fun k_ => some k_ ≠ (.slice Ao27 y112.length co27 : Value).ownBlock) (Kd.R_keptB ((Kd.R_apart' HO108.out (Kd.R_typed HO117.out) (by decide))) hkp (fun k_ hk_ hs_ => (hk_.2) hs_)) (fun k_ hk_ => hk_.1.1))
          have n2_ := Aside0.mk (Kd.R_mono (ok' := fun k_ => some k_ ≠ (.slice Ao21 y106.length co21 : Value).ownBlock) (Kd.R_keptB ((Kd.R_apart' HO114.out (Kd.R_typed HO117.out) (by decide))) hkp (fun k_ hk_ hs_ => (hk_.2) hs_)) (fun k_ hk_ => hk_.1.1))
          have n3_ := Aside0.mk (Kd.R_mono (ok' := fun k_ => True) ho0 (fun k_ hk_ => trivial))
          have n4_ := Aside0.mk (hb)
          clear BK105
          clear HO108
          clear HO114
          clear HB
          clear HO117
          have BK105 := n0_
          have HO108 := n1_
          have HO114 := n2_
          have HO120 := n3_
          have HB := n4_
          clear n0_ n1_ n2_ n3_ n4_
          (try clear hb)
          (try clear hkp)
          (try clear ho0)
          refine hK.out _ _ ⟨(blk_cell BK105.out 0).trans rfl, (blk_cell BK105.out 1).trans rfl, (blk_cell BK105.out 2).trans rfl⟩ (fun hHeld => ?_)
          clear hK K
          refine norm_ (a' := ?_) ?_ ?_
          rotate_left
          · show Act.put _ (some 47) _ = _
            simp only [Act.put, List.setIfInBounds_toArray, List.set_cons_zero, List.set_cons_succ, i64_w, i32_w]
            rfl
          refine one_ (i := 6) (N := some 50) #[true, true, true, true, true, true, true, false] rfl rfl (one_of HT_.out (by kernel_rfl)) (by decide) (fun K hK => ?_)
          refine print_append_str_step (w0 := w) w.heap.size (by rfl) (.tmp 47) _ 41 9 5 rfl Try.underlying41 Try.underlying9 info5 v119 t118 a0_2 rfl rfl ?aO ?aB ?aS ?aL ?_
          (case aB => exact (by repeat (first | (with_reducible first | exact HB.out | apply below_alloc | apply pw_below_drewN | apply below_drew1 | refine below_set ?_ GE105.out) | exact HB.out)))
          (case aO => exact (Kd.own_of_R (by (with_reducible repeat (first | apply Kd.R_alloc | apply Kd.R_drewN | apply Kd.R_drew)); exact HO120.out)))
          (case aS => exact (below_size (by repeat (first | (with_reducible first | exact HB.out | apply below_alloc | apply pw_below_drewN | apply below_drew1 | refine below_set ?_ GE105.out) | exact HB.out))))
          (case aL => have := LMc15.out; omega)
          intro v122 w32 ho0 hb hg
          have ho := Kd.R_of_own (h1 := fun _ => rfl) (ok := fun _ => True) ho0 (fun _ _ => trivial)
          clear ho0
          have hat := True.intro
          rw [← Ny121.out] at ho
          change Kd.R (Kd.int .u8) 5 w32 w.heap.size (fun _ => True) v122 y121 at ho
          have n0_ := Aside0.mk (blk_grown (g := gb105) (o := .cells #[.int .i64 a0_0, .slice A0_1 l0_1.length c0_1, .string a0_2] 29 (0, 0)) (by (with_reducible repeat (first | refine blk_drewN ?_ _ | refine blk_drew ?_ | refine blk_alloc ?_ _)); exact BK105.out) hg (Kd.R_ne HO120.out BK105.out (by decide)))
          have n1_ := Aside0.mk (Kd.R_over' (by (with_reducible repeat (first | apply Kd.R_alloc | apply Kd.R_drewN | apply Kd.R_drew)); exact HO108.out) (Kd.R_typed (by (with_reducible repeat (first | apply Kd.R_alloc | apply Kd.R_drewN | apply Kd.R_drew)); exact HO120.out)) (by decide) hg)
          have n2_ := Aside0.mk (Kd.R_over' (by (with_reducible repeat (first | apply Kd.R_alloc | apply Kd.R_drewN | apply Kd.R_drew)); exact HO114.out) (Kd.R_typed (by (with_reducible repeat (first | apply Kd.R_alloc | apply Kd.R_drewN | apply Kd.R_drew)); exact HO120.out)) (by decide) hg)
          have n3_ := Aside0.mk (hb)
          have n4_ := Aside0.mk (ho)
          clear BK105
          clear HO108
          clear HO114
          clear HB
          clear HO120
          have BK105 := n0_
          have HO108 := n1_
          have HO114 := n2_
          have HB := n3_
          have HO123 := n4_
          clear n0_ n1_ n2_ n3_ n4_
          clear ho hb hg hat
          refine hK.out _ _ ⟨(blk_cell BK105.out 0).trans rfl, (blk_cell BK105.out 1).trans rfl, (blk_cell BK105.out 2).trans rfl⟩ (fun hHeld => ?_)
          clear hK K
          refine norm_ (a' := ?_) ?_ ?_
          rotate_left
          · show Act.put _ (some 50) _ = _
            simp only [Act.put, List.setIfInBounds_toArray, List.set_cons_zero, List.set_cons_succ, i64_w, i32_w]
            rfl
          refine pure_ (i := 7) (N := some 4) (v := ?_) (a' := ?_) #[true, true, true, true, true, true, true, true] rfl rfl (any_of HT_.out (by kernel_rfl)) (fun _ _ _ h => h) (Or.inl ⟨by rfl, ?_⟩) ?_ ?_
          rotate_left
          · intro w'
            go_simp
            with_reducible rfl
          rotate_left
          · simp only [Act.put, List.setIfInBounds_toArray, List.set_cons_zero, List.set_cons_succ, i64_w, i32_w]
            rfl
          refine done_ (done_of HT_.out (by kernel_rfl)) ?_
          have hcv33 := own_string (P := Try.prog) Try.underlying41 Try.underlying5 Try.underlying9 (Kd.own_of_R HO123.out)
          try go_wp2_with (first | ((with_reducible refine gate_callee (f := 20) rfl ?_); refine goesL_ (some 54) rfl rfl Try.func20 (by kernel_rfl) rfl #[.string (strOfNums y121)] rfl (by (try simp only [List.map_toArray, List.map_cons, List.map_nil]); first | done | rfl | (simp only [List.length_drop, List.length_take]; rfl)) ?_; (with_reducible refine (seal_Sum.calls (strOfNums y121) t124 _ A16.out).mono ?_); rintro e w34 ⟨rfl, hb⟩; refine ⟨_, rfl, ?_⟩; have n0_ := Aside0.mk (Kd.R_below (by (with_reducible repeat (first | apply Kd.R_alloc | apply Kd.R_drewN | apply Kd.R_drew)); exact HO108.out) hb); have n1_ := Aside0.mk (Kd.R_below (by (with_reducible repeat (first | apply Kd.R_alloc | apply Kd.R_drewN | apply Kd.R_drew)); exact HO114.out) hb); have n2_ := Aside0.mk (Kd.R_below (by (with_reducible repeat (first | apply Kd.R_alloc | apply Kd.R_drewN | apply Kd.R_drew)); exact HO123.out) hb); have n3_ := Aside0.mk (blk_below (g := gb105) (o := .cells #[.int .i64 a0_0, .slice A0_1 l0_1.length c0_1, .string a0_2] 29 (0, 0)) (by (with_reducible repeat (first | refine blk_drewN ?_ _ | refine blk_drew ?_ | refine blk_alloc ?_ _)); exact BK105.out) hb); have n4_ := Aside0.mk (below_step (by repeat (first | (with_reducible first | exact HB.out | apply below_alloc | apply pw_below_drewN | apply below_drew1 | refine below_set ?_ GE105.out) | exact HB.out)) hb); clear HO108; clear HO114; clear HO123; clear BK105; clear HB; have HO108 := n0_; have HO114 := n1_; have HO123 := n2_; have BK105 := n3_; have HB := n4_; clear n0_ n1_ n2_ n3_ n4_; (try clear hb); (try clear hb2); (try clear hk); (try clear hi)) | ((with_reducible refine gate_dst (N := 56) rfl ?_); (try (refine gate_guard (by rfl) ?_; dsimp only)); refine Kd.R_lit (Kd.int .i64) _ 3 ?hg (N := 56) ?hd (xs := ([wrap64 (t124)] : List Int)) (inner := [.int .i64 (wrap64 (t124))]) (ok := fun _ => True) (okp := fun _ => True) ?hr ?hp (fun _ hk => hk) trivial (Below.refl _ _) (Nat.le_refl _) (by simp) ?_; (case hd => rfl); (case hg => rfl); (case hr => first | (go_simp; done) | (go_simp; rfl)); (case hp => exact (Reps.one (show Kd.M (Kd.int .i64) _ _ _ (wrap64 (t124)) [.int .i64 (wrap64 (t124))] from rfl) (Reps.none _ _))); intro v126 w35 ho36 hb hg_ hnew_; clear hg_ hnew_; (first | rw [← Ny125.out] at ho36 | (simp only [Int.reduceToNat] at ho36; rw [← Ny125.out] at ho36)); have n0_ := Aside0.mk (Kd.R_elder' (by (with_reducible repeat (first | apply Kd.R_alloc | apply Kd.R_drewN | apply Kd.R_drew)); exact HO108.out) (Kd.R_base ho36) hb); have n1_ := Aside0.mk (Kd.R_elder' (by (with_reducible repeat (first | apply Kd.R_alloc | apply Kd.R_drewN | apply Kd.R_drew)); exact HO114.out) (Kd.R_base ho36) hb); have n2_ := Aside0.mk (Kd.R_below (by (with_reducible repeat (first | apply Kd.R_alloc | apply Kd.R_drewN | apply Kd.R_drew)); exact HO123.out) hb); have n3_ := Aside0.mk (Kd.R_lower (Kd.R_new' (Kd.R_new' ho36 (Kd.R_lt (by (with_reducible repeat (first | apply Kd.R_alloc | apply Kd.R_drewN | apply Kd.R_drew)); exact HO108.out))) (Kd.R_lt (by (with_reducible repeat (first | apply Kd.R_alloc | apply Kd.R_drewN | apply Kd.R_drew)); exact HO114.out))) (below_size (by repeat (first | (with_reducible first | exact HB.out | apply below_alloc | apply pw_below_drewN | apply below_drew1 | refine below_set ?_ GE105.out) | exact HB.out)))); have n4_ := Aside0.mk (blk_below (g := gb105) (o := .cells #[.int .i64 a0_0, .slice A0_1 l0_1.length c0_1, .string a0_2] 29 (0, 0)) (by (with_reducible repeat (first | refine blk_drewN ?_ _ | refine blk_drew ?_ | refine blk_alloc ?_ _)); exact BK105.out) hb); have n5_ := Aside0.mk (below_step (by repeat (first | (with_reducible first | exact HB.out | apply below_alloc | apply pw_below_drewN | apply below_drew1 | refine below_set ?_ GE105.out) | exact HB.out)) hb); clear HO108; clear HO114; clear HO123; clear BK105; clear HB; have HO108 := n0_; have HO114 := n1_; have HO123 := n2_; have HO127 := n3_; have BK105 := n4_; have HB := n5_; clear n0_ n1_ n2_ n3_ n4_ n5_; clear hb ho36; obtain ⟨Ao37, co37, eo37⟩ := Kd.R_slice HO123.out; subst eo37; obtain ⟨Ao38, co38, eo38⟩ := Kd.R_slice HO127.out; subst eo38) | ((with_reducible refine gate_callee (f := 19) rfl ?_); refine goesL_ (some 57) rfl rfl Try.func19 (by kernel_rfl) rfl #[.slice Ao37 y121.length co37, .int .i64 4, .slice Ao38 y125.length co38] rfl (by (try simp only [List.map_toArray, List.map_cons, List.map_nil]); first | done | rfl | (simp only [List.length_drop, List.length_take]; rfl)) ?_; (with_reducible refine (journal_put.calls kj1 (fun k_ => some k_ = (.slice Ao37 y121.length co37 : Value).ownBlock) (.slice Ao37 y121.length co37) y121 4 _ _ y125 t128 w _ ?side1 ?side2 ?side3 ?side4 A17.out).mono ?_); (case side1 => repeat (first | (with_reducible first | exact HB.out | apply below_alloc | apply pw_below_drewN | apply below_drew1 | refine below_set ?_ GE105.out) | exact HB.out)); (case side2 => exact Kd.R_tight rfl HO123.out); (case side3 => exact Kd.C_kept_own ((Kd.R_apart' HO127.out (Kd.R_typed HO123.out) (by decide))) (fun k_ hk_ hs_ => (hk_.2) hs_)); (case side4 => exact (Kd.R_reads' HO127.out).2.1); rintro e w39 ⟨v129, rfl, ho0, hb, hkp⟩; refine ⟨_, rfl, ?_⟩; have n0_ := Aside0.mk (blk_kept (by (with_reducible repeat (first | refine blk_drewN ?_ _ | refine blk_drew ?_ | refine blk_alloc ?_ _)); exact BK105.out) hkp (fun hs_ => (fun e_ => (Kd.R_ne HO123.out BK105.out (by decide)) e_) hs_)); have n1_ := Aside0.mk (Kd.R_mono (ok' := fun k_ => some k_ ≠ (.slice Ao27 y112.length co27 : Value).ownBlock ∧ some k_ ≠ (.slice Ao38 y125.length co38 : Value).ownBlock) (Kd.R_keptB ((Kd.R_apart' HO108.out (Kd.R_typed HO123.out) (by decide))) hkp (fun k_ hk_ hs_ => (hk_.2) hs_)) (fun k_ hk_ => ⟨hk_.1.1.1, hk_.1.1.2⟩)); have n2_ := Aside0.mk (Kd.R_mono (ok' := fun k_ => some k_ ≠ (.slice Ao21 y106.length co21 : Value).ownBlock ∧ some k_ ≠ (.slice Ao38 y125.length co38 : Value).ownBlock) (Kd.R_keptB ((Kd.R_apart' HO114.out (Kd.R_typed HO123.out) (by decide))) hkp (fun k_ hk_ hs_ => (hk_.2) hs_)) (fun k_ hk_ => ⟨hk_.1.1.1, hk_.1.1.2⟩)); have n3_ := Aside0.mk (Kd.R_mono (ok' := fun k_ => some k_ ≠ (.slice Ao21 y106.length co21 : Value).ownBlock ∧ some k_ ≠ (.slice Ao27 y112.length co27 : Value).ownBlock) (Kd.R_keptB ((Kd.R_apart' HO127.out (Kd.R_typed HO123.out) (by decide))) hkp (fun k_ hk_ hs_ => (hk_.2) hs_)) (fun k_ hk_ => ⟨hk_.1.1.1.2, hk_.1.1.2⟩)); have n4_ := Aside0.mk (Kd.R_mono (ok' := fun k_ => True) ho0 (fun k_ hk_ => trivial)); have n5_ := Aside0.mk (hb); clear BK105; clear HO108; clear HO114; clear HO127; clear HB; clear HO123; have BK105 := n0_; have HO108 := n1_; have HO114 := n2_; have HO127 := n3_; have HO130 := n4_; have HB := n5_; clear n0_ n1_ n2_ n3_ n4_ n5_; (try clear hb); (try clear hkp); (try clear ho0); have hcv40 := own_string (P := Try.prog) Try.underlying41 Try.underlying5 Try.underlying9 (Kd.own_of_R HO130.out)))
          go_ret2
          exact ⟨by first | rfl | (simp [errW_none, errW_some] <;> rfl) | (simp [*, errW_none, errW_some] <;> rfl), by repeat (first | (with_reducible first | exact HB.out | apply below_alloc | apply pw_below_drewN | apply below_drew1 | refine below_set ?_ GE105.out) | exact HB.out)⟩
        · rw [if_neg c15] at H
          exact absurd H (by simp)

end Go.Proofs.Ythaeecoahbohnaa.PLay
