-- Written by a program of this session (a patched copy of the kit's print); not trusted: Lean checks it.
import Derived.Test.YthaeecoahbohnaaPJourx0
import Derived.Test.YthaeecoahbohnaaPJourx1
import Derived.Test.YthaeecoahbohnaaPJourx3
import Derived.Test.YthaeecoahbohnaaPJourx4
import Derived.Test.YthaeecoahbohnaaPJourx5
import Derived.Test.YthaeecoahbohnaaPJourx6
import Derived.Test.YthaeecoahbohnaaPJourx7
namespace Go.Proofs.Ythaeecoahbohnaa.PJour
open Go.RowKit Go.Proofs.YthaeecoahbohnaaW.PrintWords Go.Proofs.YthaeecoahbohnaaW.PrintLast Go.Proofs.YthaeecoahbohnaaW.PrintMore
attribute [local go_sem] max2_int min2_int max_two min_two max_three min_three max_four min_four   -- for this text's walks alone
set_option linter.unusedVariables false
set_option linter.unusedSimpArgs false

/-! ### humpyardlaw15_JournalTells: function 3 -/
mutual
def humpyardlaw15_JournalTells.l0 : Nat → List (S29) → List (S29) → ByteArray → List (S29) → Int → ByteArray → Bool → ByteArray → Int → Option (Bool)
  | 0, _, _, _, _, _, _, _, _, _ => none
  | k + 1, x0, x1, x2, x3, x4, x5, x13, x14, x15 => if x15 < (x0.length : Int) then (humpyardlaw15_JournalTells.j1 k x0 x1 x2 x3 x4 x5 x13 x14 x15 (decide (x15 < 12))) else (humpyardlaw15_JournalTells.j1 k x0 x1 x2 x3 x4 x5 x13 x14 x15 false)
def humpyardlaw15_JournalTells.j1 : Nat → List (S29) → List (S29) → ByteArray → List (S29) → Int → ByteArray → Bool → ByteArray → Int → Bool → Option (Bool)
  | 0, _, _, _, _, _, _, _, _, _, _ => none
  | k + 1, x0, x1, x2, x3, x4, x5, x13, x14, x15, x39 => if x39 = true then (if 0 ≤ x15 then (if x15 < (x0.length : Int) then ((journal_Lay.f ((rd_T29 x0 x15).f0) ((rd_T29 x0 x15).f1) ((rd_T29 x0 x15).f2)).bind fun bt190 => ((humpyardref15_Lay.f k ((rd_T29 x0 x15).f0) ((rd_T29 x0 x15).f1) ((rd_T29 x0 x15).f2)).bind fun bt193 => (if bt190.1.toList = bt193.1.toList then (if bt190.2 = bt193.2 then (humpyardlaw15_JournalTells.l0 k x0 x1 x2 x3 x4 x5 x13 x14 (wrap64 (x15 + 1))) else (some false)) else (some false)))) else (none)) else (none)) else ((humpyardlaw15_Fit.f k x3).bind fun t195 => (humpyardlaw15_JournalTells.l1 k x0 x1 x2 x4 x5 x13 x14 t195 0))
def humpyardlaw15_JournalTells.l1 : Nat → List (S29) → List (S29) → ByteArray → Int → ByteArray → Bool → ByteArray → List (S29) → Int → Option (Bool)
  | 0, _, _, _, _, _, _, _, _, _ => none
  | k + 1, x0, x1, x2, x4, x5, x13, x14, x20, x21 => if x21 < (x20.length : Int) then (if 0 ≤ x21 then ((humpyardref15_Lay.f k ((rd_T29 x20 x21).f0) ((rd_T29 x20 x21).f1) ((rd_T29 x20 x21).f2)).bind fun bt199 => (if x14.size + bt199.1.size ≤ 9223372036854775807 then (humpyardlaw15_JournalTells.l1 k x0 x1 x2 x4 x5 x13 (x14 ++ bt199.1) x20 (wrap64 (x21 + 1))) else (none))) else (none)) else ((humpyardlaw15_pick.f x4 (wrap64 ((x14.size : Int) + 1))).bind fun t201 => (if x14.size + x5.size ≤ 9223372036854775807 then (if 0 ≤ t201 then (if t201 ≤ (x14.size : Int) then (if (x14.extract 0 (t201 : Int).toNat).size + x5.size ≤ 9223372036854775807 then (if 0 ≤ (mn (wrap64 (t201 + (x5.size : Int))) (x14.size : Int)) then (if (mn (wrap64 (t201 + (x5.size : Int))) (x14.size : Int)) ≤ (x14.size : Int) then (if ((x14.extract 0 (t201 : Int).toNat) ++ x5).size + (x14.extract ((mn (wrap64 (t201 + (x5.size : Int))) (x14.size : Int)) : Int).toNat x14.size).size ≤ 9223372036854775807 then (if ((x14.extract 0 (t201 : Int).toNat) ++ x5).size + (x14.extract (t201 : Int).toNat x14.size).size ≤ 9223372036854775807 then ((some (([x2, x14, x14 ++ x5, x14.extract 0 (t201 : Int).toNat, ((x14.extract 0 (t201 : Int).toNat) ++ x5) ++ (x14.extract ((mn (wrap64 (t201 + (x5.size : Int))) (x14.size : Int)) : Int).toNat x14.size), ((x14.extract 0 (t201 : Int).toNat) ++ x5) ++ (x14.extract (t201 : Int).toNat x14.size)] : List ByteArray) : List ByteArray)).bind fun y202 => (humpyardlaw15_JournalTells.l2 k x0 x1 x13 x20 y202 (y202.length : Int) 0)) else (none)) else (none)) else (none)) else (none)) else (none)) else (none)) else (none)) else (none)))
def humpyardlaw15_JournalTells.l2 : Nat → List (S29) → List (S29) → Bool → List (S29) → List ByteArray → Int → Int → Option (Bool)
  | 0, _, _, _, _, _, _, _ => none
  | k + 1, x0, x1, x13, x20, x122, x123, x124 => if x124 < x123 then (if 0 ≤ x124 then (if x124 < (x122.length : Int) then ((journal_Read.f k (rdOf ByteArray.empty x122 x124)).bind fun bt209 => ((humpyardref15_Read.f k (rdOf ByteArray.empty x122 x124)).bind fun bt213 => ((humpyardref15_Same.f k bt209.1 bt213.1).bind fun t217 => (if t217 = true then (if bt209.2 = bt213.2 then (humpyardlaw15_JournalTells.l2 k x0 x1 x13 x20 x122 x123 (wrap64 (x124 + 1))) else (some false)) else (some false))))) else (none)) else (none)) else (if x13 = true then ((journal_Same.f x0 x1).bind fun t205 => ((humpyardref15_Same.f k x0 x1).bind fun t206 => (if (t205 == t206) = true then ((journal_Same.f x20 x20).bind fun t207 => (some t207)) else (some false)))) else (some false))
end
def humpyardlaw15_JournalTells.f (k : Nat) (l0 : List (S29)) (l1 : List (S29)) (a2 : ByteArray) (l3 : List (S29)) (a4 : Int) (a5 : ByteArray) : Option (Bool) := (humpyardlaw15_awake.f k).bind fun t188 => (humpyardlaw15_JournalTells.l0 k l0 l1 a2 l3 a4 a5 t188 (⟨#[]⟩ : ByteArray) 0)
theorem humpyardlaw15_JournalTells.mono_l : ∀ k, (∀ y0 y1 y2 y3 y4 y5 y6 y7 y8, LeO (humpyardlaw15_JournalTells.l0 k y0 y1 y2 y3 y4 y5 y6 y7 y8) (humpyardlaw15_JournalTells.l0 (k + 1) y0 y1 y2 y3 y4 y5 y6 y7 y8)) ∧ (∀ y0 y1 y2 y3 y4 y5 y6 y7 y8 y9, LeO (humpyardlaw15_JournalTells.j1 k y0 y1 y2 y3 y4 y5 y6 y7 y8 y9) (humpyardlaw15_JournalTells.j1 (k + 1) y0 y1 y2 y3 y4 y5 y6 y7 y8 y9)) ∧ (∀ y0 y1 y2 y3 y4 y5 y6 y7 y8, LeO (humpyardlaw15_JournalTells.l1 k y0 y1 y2 y3 y4 y5 y6 y7 y8) (humpyardlaw15_JournalTells.l1 (k + 1) y0 y1 y2 y3 y4 y5 y6 y7 y8)) ∧ (∀ y0 y1 y2 y3 y4 y5 y6, LeO (humpyardlaw15_JournalTells.l2 k y0 y1 y2 y3 y4 y5 y6) (humpyardlaw15_JournalTells.l2 (k + 1) y0 y1 y2 y3 y4 y5 y6))
  | 0 => ⟨fun _ _ _ _ _ _ _ _ _ r h => by simp [humpyardlaw15_JournalTells.l0] at h, fun _ _ _ _ _ _ _ _ _ _ r h => by simp [humpyardlaw15_JournalTells.j1] at h, fun _ _ _ _ _ _ _ _ _ r h => by simp [humpyardlaw15_JournalTells.l1] at h, fun _ _ _ _ _ _ _ r h => by simp [humpyardlaw15_JournalTells.l2] at h⟩
  | k + 1 => by
    obtain ⟨ih0, ih1, ih2, ih3⟩ := humpyardlaw15_JournalTells.mono_l k
    refine ⟨?_, ?_, ?_, ?_⟩
    · intro y0 y1 y2 y3 y4 y5 y6 y7 y8
      unfold humpyardlaw15_JournalTells.l0
      repeat' first
      | (with_reducible exact ih0 _ _ _ _ _ _ _ _ _)
      | (with_reducible exact ih1 _ _ _ _ _ _ _ _ _ _)
      | (with_reducible exact ih2 _ _ _ _ _ _ _ _ _)
      | (with_reducible exact ih3 _ _ _ _ _ _ _)
      | (with_reducible exact humpyardlaw15_Fit.mono _ _)
      | (with_reducible exact humpyardlaw15_awake.mono _)
      | (with_reducible exact humpyardref15_Lay.mono _ _ _ _)
      | (with_reducible exact humpyardref15_Read.mono _ _)
      | (with_reducible exact humpyardref15_Same.mono _ _ _)
      | (with_reducible exact journal_Read.mono _ _)
      | (with_reducible exact LeO.refl _)
      | (with_reducible exact LeO.none _)
      | (with_reducible refine LeO.ite ?_ ?_)
      | (with_reducible refine LeO.bind ?_ (fun _ => ?_))
      | exact ih0 _ _ _ _ _ _ _ _ _
      | exact ih1 _ _ _ _ _ _ _ _ _ _
      | exact ih2 _ _ _ _ _ _ _ _ _
      | exact ih3 _ _ _ _ _ _ _
      | exact humpyardlaw15_Fit.mono _ _
      | exact humpyardlaw15_awake.mono _
      | exact humpyardref15_Lay.mono _ _ _ _
      | exact humpyardref15_Read.mono _ _
      | exact humpyardref15_Same.mono _ _ _
      | exact journal_Read.mono _ _
      | exact LeO.none _
      | refine LeO.ite ?_ ?_
      | refine LeO.bind ?_ (fun _ => ?_)
    · intro y0 y1 y2 y3 y4 y5 y6 y7 y8 y9
      unfold humpyardlaw15_JournalTells.j1
      repeat' first
      | (with_reducible exact ih0 _ _ _ _ _ _ _ _ _)
      | (with_reducible exact ih1 _ _ _ _ _ _ _ _ _ _)
      | (with_reducible exact ih2 _ _ _ _ _ _ _ _ _)
      | (with_reducible exact ih3 _ _ _ _ _ _ _)
      | (with_reducible exact humpyardlaw15_Fit.mono _ _)
      | (with_reducible exact humpyardlaw15_awake.mono _)
      | (with_reducible exact humpyardref15_Lay.mono _ _ _ _)
      | (with_reducible exact humpyardref15_Read.mono _ _)
      | (with_reducible exact humpyardref15_Same.mono _ _ _)
      | (with_reducible exact journal_Read.mono _ _)
      | (with_reducible exact LeO.refl _)
      | (with_reducible exact LeO.none _)
      | (with_reducible refine LeO.ite ?_ ?_)
      | (with_reducible refine LeO.bind ?_ (fun _ => ?_))
      | exact ih0 _ _ _ _ _ _ _ _ _
      | exact ih1 _ _ _ _ _ _ _ _ _ _
      | exact ih2 _ _ _ _ _ _ _ _ _
      | exact ih3 _ _ _ _ _ _ _
      | exact humpyardlaw15_Fit.mono _ _
      | exact humpyardlaw15_awake.mono _
      | exact humpyardref15_Lay.mono _ _ _ _
      | exact humpyardref15_Read.mono _ _
      | exact humpyardref15_Same.mono _ _ _
      | exact journal_Read.mono _ _
      | exact LeO.none _
      | refine LeO.ite ?_ ?_
      | refine LeO.bind ?_ (fun _ => ?_)
    · intro y0 y1 y2 y3 y4 y5 y6 y7 y8
      unfold humpyardlaw15_JournalTells.l1
      repeat' first
      | (with_reducible exact ih0 _ _ _ _ _ _ _ _ _)
      | (with_reducible exact ih1 _ _ _ _ _ _ _ _ _ _)
      | (with_reducible exact ih2 _ _ _ _ _ _ _ _ _)
      | (with_reducible exact ih3 _ _ _ _ _ _ _)
      | (with_reducible exact humpyardlaw15_Fit.mono _ _)
      | (with_reducible exact humpyardlaw15_awake.mono _)
      | (with_reducible exact humpyardref15_Lay.mono _ _ _ _)
      | (with_reducible exact humpyardref15_Read.mono _ _)
      | (with_reducible exact humpyardref15_Same.mono _ _ _)
      | (with_reducible exact journal_Read.mono _ _)
      | (with_reducible exact LeO.refl _)
      | (with_reducible exact LeO.none _)
      | (with_reducible refine LeO.ite ?_ ?_)
      | (with_reducible refine LeO.bind ?_ (fun _ => ?_))
      | exact ih0 _ _ _ _ _ _ _ _ _
      | exact ih1 _ _ _ _ _ _ _ _ _ _
      | exact ih2 _ _ _ _ _ _ _ _ _
      | exact ih3 _ _ _ _ _ _ _
      | exact humpyardlaw15_Fit.mono _ _
      | exact humpyardlaw15_awake.mono _
      | exact humpyardref15_Lay.mono _ _ _ _
      | exact humpyardref15_Read.mono _ _
      | exact humpyardref15_Same.mono _ _ _
      | exact journal_Read.mono _ _
      | exact LeO.none _
      | refine LeO.ite ?_ ?_
      | refine LeO.bind ?_ (fun _ => ?_)
    · intro y0 y1 y2 y3 y4 y5 y6
      unfold humpyardlaw15_JournalTells.l2
      repeat' first
      | (with_reducible exact ih0 _ _ _ _ _ _ _ _ _)
      | (with_reducible exact ih1 _ _ _ _ _ _ _ _ _ _)
      | (with_reducible exact ih2 _ _ _ _ _ _ _ _ _)
      | (with_reducible exact ih3 _ _ _ _ _ _ _)
      | (with_reducible exact humpyardlaw15_Fit.mono _ _)
      | (with_reducible exact humpyardlaw15_awake.mono _)
      | (with_reducible exact humpyardref15_Lay.mono _ _ _ _)
      | (with_reducible exact humpyardref15_Read.mono _ _)
      | (with_reducible exact humpyardref15_Same.mono _ _ _)
      | (with_reducible exact journal_Read.mono _ _)
      | (with_reducible exact LeO.refl _)
      | (with_reducible exact LeO.none _)
      | (with_reducible refine LeO.ite ?_ ?_)
      | (with_reducible refine LeO.bind ?_ (fun _ => ?_))
      | exact ih0 _ _ _ _ _ _ _ _ _
      | exact ih1 _ _ _ _ _ _ _ _ _ _
      | exact ih2 _ _ _ _ _ _ _ _ _
      | exact ih3 _ _ _ _ _ _ _
      | exact humpyardlaw15_Fit.mono _ _
      | exact humpyardlaw15_awake.mono _
      | exact humpyardref15_Lay.mono _ _ _ _
      | exact humpyardref15_Read.mono _ _
      | exact humpyardref15_Same.mono _ _ _
      | exact journal_Read.mono _ _
      | exact LeO.none _
      | refine LeO.ite ?_ ?_
      | refine LeO.bind ?_ (fun _ => ?_)
theorem humpyardlaw15_JournalTells.mono : ∀ a0 a1 a2 a3 a4 a5 k, LeO (humpyardlaw15_JournalTells.f k a0 a1 a2 a3 a4 a5) (humpyardlaw15_JournalTells.f (k + 1) a0 a1 a2 a3 a4 a5) := by
  intro a0 a1 a2 a3 a4 a5 k
  obtain ⟨ih0, ih1, ih2, ih3⟩ := humpyardlaw15_JournalTells.mono_l k
  unfold humpyardlaw15_JournalTells.f
  repeat' first
      | (with_reducible exact ih0 _ _ _ _ _ _ _ _ _)
      | (with_reducible exact ih1 _ _ _ _ _ _ _ _ _ _)
      | (with_reducible exact ih2 _ _ _ _ _ _ _ _ _)
      | (with_reducible exact ih3 _ _ _ _ _ _ _)
      | (with_reducible exact humpyardlaw15_Fit.mono _ _)
      | (with_reducible exact humpyardlaw15_awake.mono _)
      | (with_reducible exact humpyardref15_Lay.mono _ _ _ _)
      | (with_reducible exact humpyardref15_Read.mono _ _)
      | (with_reducible exact humpyardref15_Same.mono _ _ _)
      | (with_reducible exact journal_Read.mono _ _)
      | (with_reducible exact LeO.refl _)
      | (with_reducible exact LeO.none _)
      | (with_reducible refine LeO.ite ?_ ?_)
      | (with_reducible refine LeO.bind ?_ (fun _ => ?_))
      | exact ih0 _ _ _ _ _ _ _ _ _
      | exact ih1 _ _ _ _ _ _ _ _ _ _
      | exact ih2 _ _ _ _ _ _ _ _ _
      | exact ih3 _ _ _ _ _ _ _
      | exact humpyardlaw15_Fit.mono _ _
      | exact humpyardlaw15_awake.mono _
      | exact humpyardref15_Lay.mono _ _ _ _
      | exact humpyardref15_Read.mono _ _
      | exact humpyardref15_Same.mono _ _ _
      | exact journal_Read.mono _ _
      | exact LeO.none _
      | refine LeO.ite ?_ ?_
      | refine LeO.bind ?_ (fun _ => ?_)
def humpyardlaw15_JournalTells.T17 : Bool × List (List Nat × List Nat) := (true, [([], []), ([], []), ([], []), ([], []), ([2, 3], [2, 3]), ([], []), ([], []), ([5, 6], [5, 6]), ([], []), ([], []), ([8, 9], [8, 9]), ([], []), ([10, 11], [10, 11]), ([], []), ([], []), ([], []), ([15], [15]), ([14, 16], [14, 16]), ([], []), ([18], [18]), ([17, 19], [17, 19]), ([13, 20], [13, 20]), ([12, 21], [12, 21]), ([], []), ([], []), ([23, 24], [23, 24]), ([], []), ([25, 26], [25, 26]), ([], []), ([], []), ([28, 29], [28, 29]), ([27, 30], [27, 30]), ([0, 1, 4, 7, 22, 31], [0, 1, 4, 7, 22, 31]), ([32], [32]), ([], [])])
def humpyardlaw15_JournalTells.B17 : List Nat := [0, 0, 0, 0, 12, 0, 0, 96, 0, 0, 768, 0, 3840, 0, 0, 0, 32768, 114688, 0, 262144, 1032192, 2088960, 4194048, 0, 0, 25165824, 0, 125829120, 0, 0, 805306368, 2139095040, 4294967295, 8589934591, 0]
theorem humpyardlaw15_JournalTells.tab17 : rtab .any (opsOf Try.f3 17) = humpyardlaw15_JournalTells.T17 := by kernel_rfl
theorem humpyardlaw15_JournalTells.bits17 : waitsOk humpyardlaw15_JournalTells.T17.2 humpyardlaw15_JournalTells.B17 = true := by kernel_rfl
set_option maxHeartbeats 8000000 in
set_option maxRecDepth 100000 in
theorem humpyardlaw15_JournalTells.calls (k : Nat) (A0 : Option Addr) (c0 : Nat) (l0 : List (S29)) (A1 : Option Addr) (c1 : Nat) (l1 : List (S29)) (a2 : ByteArray) (A3 : Option Addr) (c3 : Nat) (l3 : List (S29)) (a4 : Int) (a5 : ByteArray) (r : Bool) (w : World) (hr0 : Kd.C k29 w A0 l0.length l0) (hc0 : l0.length ≤ c0) (hr1 : Kd.C k29 w A1 l1.length l1) (hc1 : l1.length ≤ c1) (hr3 : Kd.C k29 w A3 l3.length l3) (hc3 : l3.length ≤ c3) (h : humpyardlaw15_JournalTells.f k l0 l1 a2 l3 a4 a5 = some r) :
    Calls Try.prog 3 #[.slice A0 l0.length c0, .slice A1 l1.length c1, .string a2, .slice A3 l3.length c3, .int .i64 a4, .string a5] w fun e w' => e = .returned (.bool r) ∧ Below w.heap.size w w' := by
  have hu29 := Try.underlying29
  have HR0 := Aside0.mk hr0
  have HC0 := Aside0.mk hc0
  clear hr0 hc0
  have HR1 := Aside0.mk hr1
  have HC1 := Aside0.mk hc1
  clear hr1 hc1
  have HR3 := Aside0.mk hr3
  have HC3 := Aside0.mk hc3
  clear hr3 hc3
  have HB := Aside0.mk (Below.refl w.heap.size w)
  have H : ((humpyardlaw15_awake.f k).bind fun t188 => (humpyardlaw15_JournalTells.l0 k l0 l1 a2 l3 a4 a5 t188 (⟨#[]⟩ : ByteArray) 0)) = some r := h
  clear h
  replace H := Option.bind_eq_some_iff.mp H
  obtain ⟨t188, A70, H⟩ := H
  replace H : (humpyardlaw15_JournalTells.l0 k l0 l1 a2 l3 a4 a5 t188 (⟨#[]⟩ : ByteArray) 0) = some r := H
  have A7 := Aside0.mk A70
  clear A70
  have H' := Aside0.mk H
  clear H
  go_enter Try.func3, Try.ntmps3
  go_wp2_with (first | ((with_reducible refine gate_callee (f := 9) rfl ?_); refine goesL_ (some 31) rfl rfl Try.func9 (by kernel_rfl) rfl #[] rfl (by (try simp only [List.map_toArray, List.map_cons, List.map_nil]); first | done | rfl | (simp only [List.length_drop, List.length_take]; rfl)) ?_; (with_reducible refine (humpyardlaw15_awake.calls k  t188 _ A7.out).mono ?_); rintro e w8 ⟨rfl, hb⟩; refine ⟨_, rfl, ?_⟩; have n0_ := Aside0.mk (below_step (by repeat (first | (with_reducible first | exact HB.out | apply below_alloc | apply pw_below_drewN | apply below_drew1) | exact HB.out)) hb); clear HB; have HB := n0_; clear n0_; (try clear hb); (try clear hb2); (try clear hk); (try clear hi)))
  go_loopg [15] k (fun kq v15 w' => ∃ (x15_1 : Int), v15 = .int .i64 x15_1 ∧ Aside0 (humpyardlaw15_JournalTells.l0 kq l0 l1 a2 l3 a4 a5 t188 (⟨#[]⟩ : ByteArray) x15_1 = some r) ∧ Aside0 (kq ≤ k) ∧ Aside0 (Below w.heap.size w w'))
  case atStart => exact ⟨(0), (by first | rfl | (simp; done) | (simp [*]; done)), H', ⟨Nat.le_refl _⟩, ⟨by repeat (first | (with_reducible first | exact HB.out | apply below_alloc | apply pw_below_drewN | apply below_drew1) | exact HB.out)⟩⟩
  case round =>
    clear H'
    try clear c1
    try clear p2
    try clear c3
    obtain ⟨x15_1, rfl, HA, HK1, HB⟩ := hrel
    cases gk with
    | zero => exact absurd HA.out (by simp [humpyardlaw15_JournalTells.l0])
    | succ k1 =>
      have H := HA.out
      clear HA
      simp only [humpyardlaw15_JournalTells.l0] at H
      have HC9 := Aside0.mk H
      clear H
      go_upto_region 4 with (fail)
      go_cut [39] (fun v39 wc => ∃ (kq : Nat) (x39_8 : Bool), v39 = .bool x39_8 ∧ Aside0 (humpyardlaw15_JournalTells.j1 kq l0 l1 a2 l3 a4 a5 t188 (⟨#[]⟩ : ByteArray) x15_1 x39_8 = some r) ∧ Aside0 (kq ≤ k1) ∧ Aside0 (Below w.heap.size w wc))
      case first =>
        have H := HC9.out
        clear HC9
        by_cases c10 : x15_1 < (l0.length : Int)
        · rw [if_pos c10] at H
          have c10b0 : decide (x15_1 < (l0.length : Int)) = true := decide_eq_true c10
          clear c10
          (first | rw [c10b0] | (simp only [i64_w, i32_w]; rw [c10b0]) | skip)
          have H' := Aside0.mk H
          clear H
          go_wp2
          go_meet
          case rel => exact ⟨_, (decide (x15_1 < 12)), (by first | rfl | (simp; done) | (simp [*]; done)), H', ⟨by have := HK1.out; first | omega | exact Nat.le_refl _⟩, ⟨by repeat (first | (with_reducible first | exact HB.out | apply below_alloc | apply pw_below_drewN | apply below_drew1) | exact HB.out)⟩⟩
        · rw [if_neg c10] at H
          have c10b0 : decide (x15_1 < (l0.length : Int)) = false := decide_eq_false c10
          clear c10
          (first | rw [c10b0] | (simp only [i64_w, i32_w]; rw [c10b0]) | skip)
          have H' := Aside0.mk H
          clear H
          go_wp2
          go_meet
          case rel => exact ⟨_, (false), (by first | rfl | (simp; done) | (simp [*]; done)), H', ⟨by have := HK1.out; first | omega | exact Nat.le_refl _⟩, ⟨by repeat (first | (with_reducible first | exact HB.out | apply below_alloc | apply pw_below_drewN | apply below_drew1) | exact HB.out)⟩⟩
      case rest =>
        clear HC9
        try clear c1
        try clear p2
        try clear c3
        try clear c9
        try clear c10
        try clear c10b0
        try clear p2
        obtain ⟨kq, x39_8, rfl, HA, HJ8, HB⟩ := hcut
        cases kq with
        | zero => exact absurd HA.out (by simp [humpyardlaw15_JournalTells.j1])
        | succ kj8 =>
          have H := HA.out
          clear HA
          simp only [humpyardlaw15_JournalTells.j1] at H
          by_cases c11 : x39_8 = true
          · subst c11
            have H1 : (if 0 ≤ x15_1 then (if x15_1 < (l0.length : Int) then ((journal_Lay.f ((rd_T29 l0 x15_1).f0) ((rd_T29 l0 x15_1).f1) ((rd_T29 l0 x15_1).f2)).bind fun bt190 => ((humpyardref15_Lay.f kj8 ((rd_T29 l0 x15_1).f0) ((rd_T29 l0 x15_1).f1) ((rd_T29 l0 x15_1).f2)).bind fun bt193 => (if bt190.1.toList = bt193.1.toList then (if bt190.2 = bt193.2 then (humpyardlaw15_JournalTells.l0 kj8 l0 l1 a2 l3 a4 a5 t188 (⟨#[]⟩ : ByteArray) (wrap64 (x15_1 + 1))) else (some false)) else (some false)))) else (none)) else (none)) = some r := by rw [if_pos rfl] at H; exact H
            clear H
            have H := H1
            clear H1
            by_cases c12 : 0 ≤ x15_1
            · rw [if_pos c12] at H
              have c12b0 : decide (0 ≤ x15_1) = true := decide_eq_true c12
              clear c12
              by_cases c13 : x15_1 < (l0.length : Int)
              · rw [if_pos c13] at H
                have c13b0 : decide (x15_1 < (l0.length : Int)) = true := decide_eq_true c13
                clear c13
                replace H := Option.bind_eq_some_iff.mp H
                obtain ⟨⟨t190, t191⟩, A140, H⟩ := H
                replace H : ((humpyardref15_Lay.f kj8 ((rd_T29 l0 x15_1).f0) ((rd_T29 l0 x15_1).f1) ((rd_T29 l0 x15_1).f2)).bind fun bt193 => (if t190.toList = bt193.1.toList then (if t191 = bt193.2 then (humpyardlaw15_JournalTells.l0 kj8 l0 l1 a2 l3 a4 a5 t188 (⟨#[]⟩ : ByteArray) (wrap64 (x15_1 + 1))) else (some false)) else (some false))) = some r := H
                have A14 := Aside0.mk A140
                clear A140
                replace H := Option.bind_eq_some_iff.mp H
                obtain ⟨⟨t193, t194⟩, A150, H⟩ := H
                replace H : (if t190.toList = t193.toList then (if t191 = t194 then (humpyardlaw15_JournalTells.l0 kj8 l0 l1 a2 l3 a4 a5 t188 (⟨#[]⟩ : ByteArray) (wrap64 (x15_1 + 1))) else (some false)) else (some false)) = some r := H
                have A15 := Aside0.mk A150
                clear A150
                by_cases c16 : t190.toList = t193.toList
                · rw [if_pos c16] at H
                  have c16b0 : (t190.toList == t193.toList) = true := beq_iff_eq.mpr c16
                  have c16b1 : (t190.toList != t193.toList) = false := bne_eq_false_iff_eq.mpr c16
                  clear c16
                  by_cases c17 : t191 = t194
                  · rw [if_pos c17] at H
                    have c17b0 : (t191 == t194) = true := beq_iff_eq.mpr c17
                    have c17b1 : (t191 != t194) = false := bne_eq_false_iff_eq.mpr c17
                    clear c17
                    have H' := Aside0.mk H
                    clear H
                    have p189 : 0 ≤ (x15_1 : Int) := of_decide_eq_true (by first | (with_reducible assumption) | assumption)
                    have q189 : x15_1 < (l0.length : Int) := of_decide_eq_true (by first | (with_reducible assumption) | assumption)
                    obtain ⟨ad189, A189_1, c189_1, e189, hx189_0, hx189_1, hx189_2, hl189_1, hi189_1⟩ := at_T29 HR0.out x15_1 p189 q189
                    cases e189
                    replace hx189_0 := (HB.out.cell (World.block_lt_of_cell? w _ hx189_0)).trans hx189_0
                    replace hx189_1 := (HB.out.cell (World.block_lt_of_cell? w _ hx189_1)).trans hx189_1
                    replace hx189_2 := (HB.out.cell (World.block_lt_of_cell? w _ hx189_2)).trans hx189_2
                    have HR189_1 := Aside0.mk hi189_1
                    have HC189_1 := Aside0.mk hl189_1
                    clear hi189_1 hl189_1
                    replace p189 := eq_true p189
                    replace q189 := eq_true q189
                    go_wp2_with (first | ((with_reducible refine gate_callee (f := 10) rfl ?_); refine goesL_ (some 47) rfl rfl Try.func10 (by kernel_rfl) rfl #[.agg #[.int .i64 ((rd_T29 l0 x15_1).f0), .slice A189_1 ((rd_T29 l0 x15_1).f1).length c189_1, .string ((rd_T29 l0 x15_1).f2)]] rfl (by (try simp only [List.map_toArray, List.map_cons, List.map_nil]); first | done | rfl | (simp only [List.length_drop, List.length_take]; rfl)) ?_; (with_reducible refine (journal_Lay.calls ((rd_T29 l0 x15_1).f0) _ _ ((rd_T29 l0 x15_1).f1) ((rd_T29 l0 x15_1).f2) t190 t191 _ ?side1 ?side2 A14.out).mono ?_); (case side1 => repeat (first | exact (Kd.C_below HR189_1.out HB.out) | (with_reducible refine Kd.C_alloc ?_ _) | (with_reducible refine Kd.C_drewN ?_ _) | (with_reducible refine Kd.C_drew ?_))); (case side2 => exact HC189_1.out); rintro e w18 ⟨rfl, hb⟩; refine ⟨_, rfl, ?_⟩; have n0_ := Aside0.mk (below_step (by repeat (first | (with_reducible first | exact HB.out | apply below_alloc | apply pw_below_drewN | apply below_drew1) | exact HB.out)) hb); clear HB; have HB := n0_; clear n0_; (try clear hb); (try clear hb2); (try clear hk); (try clear hi); have p192 : 0 ≤ (x15_1 : Int) := of_decide_eq_true (by first | (with_reducible assumption) | assumption); have q192 : x15_1 < (l0.length : Int) := of_decide_eq_true (by first | (with_reducible assumption) | assumption); obtain ⟨ad192, A192_1, c192_1, e192, hx192_0, hx192_1, hx192_2, hl192_1, hi192_1⟩ := at_T29 HR0.out x15_1 p192 q192; obtain rfl : ad189 = ad192 := (by injection e192); replace hx192_0 := (HB.out.cell (World.block_lt_of_cell? w _ hx192_0)).trans hx192_0; replace hx192_1 := (HB.out.cell (World.block_lt_of_cell? w _ hx192_1)).trans hx192_1; replace hx192_2 := (HB.out.cell (World.block_lt_of_cell? w _ hx192_2)).trans hx192_2; have HR192_1 := Aside0.mk hi192_1; have HC192_1 := Aside0.mk hl192_1; clear hi192_1 hl192_1; replace p192 := eq_true p192; replace q192 := eq_true q192) | ((with_reducible refine gate_callee (f := 11) rfl ?_); refine goesL_ (some 55) rfl rfl Try.func11 (by kernel_rfl) rfl #[.agg #[.int .i64 ((rd_T29 l0 x15_1).f0), .slice A192_1 ((rd_T29 l0 x15_1).f1).length c192_1, .string ((rd_T29 l0 x15_1).f2)]] rfl (by (try simp only [List.map_toArray, List.map_cons, List.map_nil]); first | done | rfl | (simp only [List.length_drop, List.length_take]; rfl)) ?_; (with_reducible refine (humpyardref15_Lay.calls kj8 ((rd_T29 l0 x15_1).f0) _ _ ((rd_T29 l0 x15_1).f1) ((rd_T29 l0 x15_1).f2) t193 t194 _ ?side1 ?side2 A15.out).mono ?_); (case side1 => repeat (first | exact (Kd.C_below HR192_1.out HB.out) | (with_reducible refine Kd.C_alloc ?_ _) | (with_reducible refine Kd.C_drewN ?_ _) | (with_reducible refine Kd.C_drew ?_))); (case side2 => exact HC192_1.out); rintro e w19 ⟨rfl, hb⟩; refine ⟨_, rfl, ?_⟩; have n0_ := Aside0.mk (below_step (by repeat (first | (with_reducible first | exact HB.out | apply below_alloc | apply pw_below_drewN | apply below_drew1) | exact HB.out)) hb); clear HB; have HB := n0_; clear n0_; (try clear hb); (try clear hb2); (try clear hk); (try clear hi)))
                    go_roundg kj8
                    case measure => have := HK1.out; have := HJ8.out; omega
                    case rel => exact ⟨(wrap64 (x15_1 + 1)), (by first | rfl | (simp; done) | (simp [*]; done)), H', ⟨by have := HK1.out; have := HJ8.out; omega⟩, ⟨by repeat (first | (with_reducible first | exact HB.out | apply below_alloc | apply pw_below_drewN | apply below_drew1) | exact HB.out)⟩⟩
                  · rw [if_neg c17] at H
                    have c17b0 : (t191 == t194) = false := beq_eq_false_iff_ne.mpr c17
                    have c17b1 : (t191 != t194) = true := bne_iff_ne.mpr c17
                    obtain rfl := Option.some.inj H
                    have p189 : 0 ≤ (x15_1 : Int) := of_decide_eq_true (by first | (with_reducible assumption) | assumption)
                    have q189 : x15_1 < (l0.length : Int) := of_decide_eq_true (by first | (with_reducible assumption) | assumption)
                    obtain ⟨ad189, A189_1, c189_1, e189, hx189_0, hx189_1, hx189_2, hl189_1, hi189_1⟩ := at_T29 HR0.out x15_1 p189 q189
                    cases e189
                    replace hx189_0 := (HB.out.cell (World.block_lt_of_cell? w _ hx189_0)).trans hx189_0
                    replace hx189_1 := (HB.out.cell (World.block_lt_of_cell? w _ hx189_1)).trans hx189_1
                    replace hx189_2 := (HB.out.cell (World.block_lt_of_cell? w _ hx189_2)).trans hx189_2
                    have HR189_1 := Aside0.mk hi189_1
                    have HC189_1 := Aside0.mk hl189_1
                    clear hi189_1 hl189_1
                    replace p189 := eq_true p189
                    replace q189 := eq_true q189
                    go_wp2_with (first | ((with_reducible refine gate_callee (f := 10) rfl ?_); refine goesL_ (some 47) rfl rfl Try.func10 (by kernel_rfl) rfl #[.agg #[.int .i64 ((rd_T29 l0 x15_1).f0), .slice A189_1 ((rd_T29 l0 x15_1).f1).length c189_1, .string ((rd_T29 l0 x15_1).f2)]] rfl (by (try simp only [List.map_toArray, List.map_cons, List.map_nil]); first | done | rfl | (simp only [List.length_drop, List.length_take]; rfl)) ?_; (with_reducible refine (journal_Lay.calls ((rd_T29 l0 x15_1).f0) _ _ ((rd_T29 l0 x15_1).f1) ((rd_T29 l0 x15_1).f2) t190 t191 _ ?side1 ?side2 A14.out).mono ?_); (case side1 => repeat (first | exact (Kd.C_below HR189_1.out HB.out) | (with_reducible refine Kd.C_alloc ?_ _) | (with_reducible refine Kd.C_drewN ?_ _) | (with_reducible refine Kd.C_drew ?_))); (case side2 => exact HC189_1.out); rintro e w20 ⟨rfl, hb⟩; refine ⟨_, rfl, ?_⟩; have n0_ := Aside0.mk (below_step (by repeat (first | (with_reducible first | exact HB.out | apply below_alloc | apply pw_below_drewN | apply below_drew1) | exact HB.out)) hb); clear HB; have HB := n0_; clear n0_; (try clear hb); (try clear hb2); (try clear hk); (try clear hi); have p192 : 0 ≤ (x15_1 : Int) := of_decide_eq_true (by first | (with_reducible assumption) | assumption); have q192 : x15_1 < (l0.length : Int) := of_decide_eq_true (by first | (with_reducible assumption) | assumption); obtain ⟨ad192, A192_1, c192_1, e192, hx192_0, hx192_1, hx192_2, hl192_1, hi192_1⟩ := at_T29 HR0.out x15_1 p192 q192; obtain rfl : ad189 = ad192 := (by injection e192); replace hx192_0 := (HB.out.cell (World.block_lt_of_cell? w _ hx192_0)).trans hx192_0; replace hx192_1 := (HB.out.cell (World.block_lt_of_cell? w _ hx192_1)).trans hx192_1; replace hx192_2 := (HB.out.cell (World.block_lt_of_cell? w _ hx192_2)).trans hx192_2; have HR192_1 := Aside0.mk hi192_1; have HC192_1 := Aside0.mk hl192_1; clear hi192_1 hl192_1; replace p192 := eq_true p192; replace q192 := eq_true q192) | ((with_reducible refine gate_callee (f := 11) rfl ?_); refine goesL_ (some 55) rfl rfl Try.func11 (by kernel_rfl) rfl #[.agg #[.int .i64 ((rd_T29 l0 x15_1).f0), .slice A192_1 ((rd_T29 l0 x15_1).f1).length c192_1, .string ((rd_T29 l0 x15_1).f2)]] rfl (by (try simp only [List.map_toArray, List.map_cons, List.map_nil]); first | done | rfl | (simp only [List.length_drop, List.length_take]; rfl)) ?_; (with_reducible refine (humpyardref15_Lay.calls kj8 ((rd_T29 l0 x15_1).f0) _ _ ((rd_T29 l0 x15_1).f1) ((rd_T29 l0 x15_1).f2) t193 t194 _ ?side1 ?side2 A15.out).mono ?_); (case side1 => repeat (first | exact (Kd.C_below HR192_1.out HB.out) | (with_reducible refine Kd.C_alloc ?_ _) | (with_reducible refine Kd.C_drewN ?_ _) | (with_reducible refine Kd.C_drew ?_))); (case side2 => exact HC192_1.out); rintro e w21 ⟨rfl, hb⟩; refine ⟨_, rfl, ?_⟩; have n0_ := Aside0.mk (below_step (by repeat (first | (with_reducible first | exact HB.out | apply below_alloc | apply pw_below_drewN | apply below_drew1) | exact HB.out)) hb); clear HB; have HB := n0_; clear n0_; (try clear hb); (try clear hb2); (try clear hk); (try clear hi)))
                    go_ret
                    exact ⟨by first | rfl | (simp [errW_none, errW_some] <;> rfl) | (simp [*, errW_none, errW_some] <;> rfl), by repeat (first | (with_reducible first | exact HB.out | apply below_alloc | apply pw_below_drewN | apply below_drew1) | exact HB.out)⟩
                · rw [if_neg c16] at H
                  have c16b0 : (t190.toList == t193.toList) = false := beq_eq_false_iff_ne.mpr c16
                  have c16b1 : (t190.toList != t193.toList) = true := bne_iff_ne.mpr c16
                  obtain rfl := Option.some.inj H
                  have p189 : 0 ≤ (x15_1 : Int) := of_decide_eq_true (by first | (with_reducible assumption) | assumption)
                  have q189 : x15_1 < (l0.length : Int) := of_decide_eq_true (by first | (with_reducible assumption) | assumption)
                  obtain ⟨ad189, A189_1, c189_1, e189, hx189_0, hx189_1, hx189_2, hl189_1, hi189_1⟩ := at_T29 HR0.out x15_1 p189 q189
                  cases e189
                  replace hx189_0 := (HB.out.cell (World.block_lt_of_cell? w _ hx189_0)).trans hx189_0
                  replace hx189_1 := (HB.out.cell (World.block_lt_of_cell? w _ hx189_1)).trans hx189_1
                  replace hx189_2 := (HB.out.cell (World.block_lt_of_cell? w _ hx189_2)).trans hx189_2
                  have HR189_1 := Aside0.mk hi189_1
                  have HC189_1 := Aside0.mk hl189_1
                  clear hi189_1 hl189_1
                  replace p189 := eq_true p189
                  replace q189 := eq_true q189
                  go_wp2_with (first | ((with_reducible refine gate_callee (f := 10) rfl ?_); refine goesL_ (some 47) rfl rfl Try.func10 (by kernel_rfl) rfl #[.agg #[.int .i64 ((rd_T29 l0 x15_1).f0), .slice A189_1 ((rd_T29 l0 x15_1).f1).length c189_1, .string ((rd_T29 l0 x15_1).f2)]] rfl (by (try simp only [List.map_toArray, List.map_cons, List.map_nil]); first | done | rfl | (simp only [List.length_drop, List.length_take]; rfl)) ?_; (with_reducible refine (journal_Lay.calls ((rd_T29 l0 x15_1).f0) _ _ ((rd_T29 l0 x15_1).f1) ((rd_T29 l0 x15_1).f2) t190 t191 _ ?side1 ?side2 A14.out).mono ?_); (case side1 => repeat (first | exact (Kd.C_below HR189_1.out HB.out) | (with_reducible refine Kd.C_alloc ?_ _) | (with_reducible refine Kd.C_drewN ?_ _) | (with_reducible refine Kd.C_drew ?_))); (case side2 => exact HC189_1.out); rintro e w22 ⟨rfl, hb⟩; refine ⟨_, rfl, ?_⟩; have n0_ := Aside0.mk (below_step (by repeat (first | (with_reducible first | exact HB.out | apply below_alloc | apply pw_below_drewN | apply below_drew1) | exact HB.out)) hb); clear HB; have HB := n0_; clear n0_; (try clear hb); (try clear hb2); (try clear hk); (try clear hi); have p192 : 0 ≤ (x15_1 : Int) := of_decide_eq_true (by first | (with_reducible assumption) | assumption); have q192 : x15_1 < (l0.length : Int) := of_decide_eq_true (by first | (with_reducible assumption) | assumption); obtain ⟨ad192, A192_1, c192_1, e192, hx192_0, hx192_1, hx192_2, hl192_1, hi192_1⟩ := at_T29 HR0.out x15_1 p192 q192; obtain rfl : ad189 = ad192 := (by injection e192); replace hx192_0 := (HB.out.cell (World.block_lt_of_cell? w _ hx192_0)).trans hx192_0; replace hx192_1 := (HB.out.cell (World.block_lt_of_cell? w _ hx192_1)).trans hx192_1; replace hx192_2 := (HB.out.cell (World.block_lt_of_cell? w _ hx192_2)).trans hx192_2; have HR192_1 := Aside0.mk hi192_1; have HC192_1 := Aside0.mk hl192_1; clear hi192_1 hl192_1; replace p192 := eq_true p192; replace q192 := eq_true q192) | ((with_reducible refine gate_callee (f := 11) rfl ?_); refine goesL_ (some 55) rfl rfl Try.func11 (by kernel_rfl) rfl #[.agg #[.int .i64 ((rd_T29 l0 x15_1).f0), .slice A192_1 ((rd_T29 l0 x15_1).f1).length c192_1, .string ((rd_T29 l0 x15_1).f2)]] rfl (by (try simp only [List.map_toArray, List.map_cons, List.map_nil]); first | done | rfl | (simp only [List.length_drop, List.length_take]; rfl)) ?_; (with_reducible refine (humpyardref15_Lay.calls kj8 ((rd_T29 l0 x15_1).f0) _ _ ((rd_T29 l0 x15_1).f1) ((rd_T29 l0 x15_1).f2) t193 t194 _ ?side1 ?side2 A15.out).mono ?_); (case side1 => repeat (first | exact (Kd.C_below HR192_1.out HB.out) | (with_reducible refine Kd.C_alloc ?_ _) | (with_reducible refine Kd.C_drewN ?_ _) | (with_reducible refine Kd.C_drew ?_))); (case side2 => exact HC192_1.out); rintro e w23 ⟨rfl, hb⟩; refine ⟨_, rfl, ?_⟩; have n0_ := Aside0.mk (below_step (by repeat (first | (with_reducible first | exact HB.out | apply below_alloc | apply pw_below_drewN | apply below_drew1) | exact HB.out)) hb); clear HB; have HB := n0_; clear n0_; (try clear hb); (try clear hb2); (try clear hk); (try clear hi)))
                  go_ret
                  exact ⟨by first | rfl | (simp [errW_none, errW_some] <;> rfl) | (simp [*, errW_none, errW_some] <;> rfl), by repeat (first | (with_reducible first | exact HB.out | apply below_alloc | apply pw_below_drewN | apply below_drew1) | exact HB.out)⟩
              · rw [if_neg c13] at H
                exact absurd H (by simp)
            · rw [if_neg c12] at H
              exact absurd H (by simp)
          · replace c11 := Bool.eq_false_iff.mpr c11
            subst c11
            have H1 : ((humpyardlaw15_Fit.f kj8 l3).bind fun t195 => (humpyardlaw15_JournalTells.l1 kj8 l0 l1 a2 a4 a5 t188 (⟨#[]⟩ : ByteArray) t195 0)) = some r := by rw [if_neg (show ¬ (false = true) by decide)] at H; exact H
            clear H
            have H := H1
            clear H1
            replace H := Option.bind_eq_some_iff.mp H
            obtain ⟨t195, A240, H⟩ := H
            replace H : (humpyardlaw15_JournalTells.l1 kj8 l0 l1 a2 a4 a5 t188 (⟨#[]⟩ : ByteArray) t195 0) = some r := H
            have A24 := Aside0.mk A240
            clear A240
            have H' := Aside0.mk H
            clear H
            go_wp2_with (first | ((with_reducible refine gate_callee (f := 12) rfl ?_); refine goesL_ (some 67) rfl rfl Try.func12 (by kernel_rfl) rfl #[.slice A3 l3.length c3] rfl (by (try simp only [List.map_toArray, List.map_cons, List.map_nil]); first | done | rfl | (simp only [List.length_drop, List.length_take]; rfl)) ?_; (with_reducible refine (humpyardlaw15_Fit.calls kj8 _ _ l3 t195 _ ?side1 ?side2 A24.out).mono ?_); (case side1 => repeat (first | exact (Kd.C_below HR3.out HB.out) | (with_reducible refine Kd.C_alloc ?_ _) | (with_reducible refine Kd.C_drewN ?_ _) | (with_reducible refine Kd.C_drew ?_))); (case side2 => exact HC3.out); rintro e w25 ⟨v196, rfl, ho0, hb⟩; refine ⟨_, rfl, ?_⟩; have n0_ := Aside0.mk (Kd.S_lower ho0 (below_size (by repeat (first | (with_reducible first | exact HB.out | apply below_alloc | apply pw_below_drewN | apply below_drew1) | exact HB.out)))); have n1_ := Aside0.mk (below_step (by repeat (first | (with_reducible first | exact HB.out | apply below_alloc | apply pw_below_drewN | apply below_drew1) | exact HB.out)) hb); clear HB; have HO197 := n0_; have HB := n1_; clear n0_ n1_; (try clear hb); (try clear hb2); (try clear hk); (try clear hi); (try clear ho0)))
            go_loopg [14, 21] kj8 (fun kq v14 v21 w' => ∃ (x14_3 : ByteArray) (x21_3 : Int), v14 = .string x14_3 ∧ v21 = .int .i64 x21_3 ∧ Aside0 (humpyardlaw15_JournalTells.l1 kq l0 l1 a2 a4 a5 t188 x14_3 t195 x21_3 = some r) ∧ Aside0 (kq ≤ kj8) ∧ Aside0 (Kd.S k29 29 w' w.heap.size (fun _ => True) v196 t195) ∧ Aside0 (Below w.heap.size w w'))
            case atStart => exact ⟨((⟨#[]⟩ : ByteArray)), (0), (by first | rfl | (simp; done) | (simp [*]; done)), (by first | rfl | (simp; done) | (simp [*]; done)), H', ⟨Nat.le_refl _⟩, ⟨by (with_reducible repeat (first | apply Kd.S_alloc | apply Kd.S_drewN | apply Kd.S_drew)); exact HO197.out⟩, ⟨by repeat (first | (with_reducible first | exact HB.out | apply below_alloc | apply pw_below_drewN | apply below_drew1) | exact HB.out)⟩⟩
            case round =>
              clear H'
              try clear c1
              try clear p1
              try clear q1
              try clear hx1
              try clear p2
              try clear c3
              try clear p6
              try clear c9
              try clear c10
              try clear c10b0
              try clear c11
              try clear c12
              try clear c12b0
              try clear c13
              try clear c13b0
              try clear c16
              try clear c16b0
              try clear c16b1
              try clear c17
              try clear c17b0
              try clear c17b1
              try clear c18
              try clear p18
              try clear q18
              try clear hx18
              try clear c19
              try clear p19
              try clear q19
              try clear hx19
              try clear hx189_0
              try clear hx189_1
              try clear hx189_2
              try clear hx192_0
              try clear hx192_1
              try clear hx192_2
              try clear p189
              try clear p192
              try clear p2
              try clear q189
              try clear q192
              obtain ⟨x14_3, x21_3, rfl, rfl, HA, HK3, HO_20, HB⟩ := hrel
              cases gk with
              | zero => exact absurd HA.out (by simp [humpyardlaw15_JournalTells.l1])
              | succ k3 =>
                have H := HA.out
                clear HA
                simp only [humpyardlaw15_JournalTells.l1] at H
                by_cases c26 : x21_3 < (t195.length : Int)
                · rw [if_pos c26] at H
                  have c26b0 : decide (x21_3 < (t195.length : Int)) = true := decide_eq_true c26
                  clear c26
                  by_cases c27 : 0 ≤ x21_3
                  · rw [if_pos c27] at H
                    have c27b0 : decide (0 ≤ x21_3) = true := decide_eq_true c27
                    clear c27
                    replace H := Option.bind_eq_some_iff.mp H
                    obtain ⟨⟨t199, t200⟩, A280, H⟩ := H
                    replace H : (if x14_3.size + t199.size ≤ 9223372036854775807 then (humpyardlaw15_JournalTells.l1 k3 l0 l1 a2 a4 a5 t188 (x14_3 ++ t199) t195 (wrap64 (x21_3 + 1))) else (none)) = some r := H
                    have A28 := Aside0.mk A280
                    clear A280
                    by_cases c29 : x14_3.size + t199.size ≤ 9223372036854775807
                    · rw [if_pos c29] at H
                      have c29b0 := eq_true c29
                      have c29b1 : decide (x14_3.size + t199.size ≤ 9223372036854775807) = true := decide_eq_true c29
                      try have c29b2 : (9223372036854775807 < x14_3.size + t199.size) = False := eq_false (Nat.not_lt.2 c29)
                      have H' := Aside0.mk H
                      clear H
                      obtain ⟨Ao30, co30, eo30⟩ := Kd.S_slice HO_20.out
                      subst eo30
                      have p198 : 0 ≤ (x21_3 : Int) := of_decide_eq_true (by first | (with_reducible assumption) | assumption)
                      have q198 : x21_3 < (t195.length : Int) := of_decide_eq_true (by first | (with_reducible assumption) | assumption)
                      obtain ⟨ad198, A198_1, c198_1, e198, hx198_0, hx198_1, hx198_2, hl198_1, hi198_1⟩ := at_T29 (Kd.S_reads' HO_20.out).2.2 x21_3 p198 q198
                      cases e198
                      obtain ⟨ce198, hce198, hMe198, hcc198⟩ := Kd.S_get HO_20.out z29 x21_3 p198 (by first | exact q198 | exact of_decide_eq_true (by first | (with_reducible assumption) | assumption) | (have e_ := (Kd.S_reads' HO_20.out).1; omega))
                      obtain ⟨ve198_1, rfl, ge198_1⟩ := k29_openM hMe198
                      have hv198_1 := hcc198 1 _ rfl
                      rw [add_field _ _ 1 (by omega)] at hv198_1
                      replace hv198_1 := Option.some.inj (hv198_1.symm.trans hx198_1)
                      rw [hv198_1] at ge198_1
                      have HL198_1 := Aside0.mk (show Kd.R (Kd.int .i64) 3 _ _ _ _ ((rd_T29 t195 x21_3).f1) from ge198_1)
                      clear hv198_1 ge198_1
                      clear hcc198 hce198
                      have HR198_1 := Aside0.mk hi198_1
                      have HC198_1 := Aside0.mk hl198_1
                      clear hi198_1 hl198_1
                      replace p198 := eq_true p198
                      replace q198 := eq_true q198
                      go_wp2_with (first | ((with_reducible refine gate_callee (f := 11) rfl ?_); refine goesL_ (some 79) rfl rfl Try.func11 (by kernel_rfl) rfl #[.agg #[.int .i64 ((rd_T29 t195 x21_3).f0), .slice A198_1 ((rd_T29 t195 x21_3).f1).length c198_1, .string ((rd_T29 t195 x21_3).f2)]] rfl (by (try simp only [List.map_toArray, List.map_cons, List.map_nil]); first | done | rfl | (simp only [List.length_drop, List.length_take]; rfl)) ?_; (with_reducible refine (humpyardref15_Lay.calls k3 ((rd_T29 t195 x21_3).f0) _ _ ((rd_T29 t195 x21_3).f1) ((rd_T29 t195 x21_3).f2) t199 t200 _ ?side1 ?side2 A28.out).mono ?_); (case side1 => repeat (first | exact (by repeat (first | (with_reducible exact HR198_1.out) | (with_reducible refine Kd.C_alloc ?_ _) | (with_reducible refine Kd.C_drewN ?_ _) | (with_reducible refine Kd.C_drew ?_) | exact HR198_1.out)) | (with_reducible refine Kd.C_alloc ?_ _) | (with_reducible refine Kd.C_drewN ?_ _) | (with_reducible refine Kd.C_drew ?_))); (case side2 => exact HC198_1.out); rintro e w31 ⟨rfl, hb⟩; refine ⟨_, rfl, ?_⟩; have n0_ := Aside0.mk (Kd.S_below (by (with_reducible repeat (first | apply Kd.S_alloc | apply Kd.S_drewN | apply Kd.S_drew)); exact HO_20.out) hb); have n1_ := Aside0.mk (Kd.R_below (by (with_reducible repeat (first | apply Kd.R_alloc | apply Kd.R_drewN | apply Kd.R_drew)); exact HL198_1.out) hb); have n2_ := Aside0.mk (Kd.C_below (by repeat (first | (with_reducible exact HR198_1.out) | (with_reducible refine Kd.C_alloc ?_ _) | (with_reducible refine Kd.C_drewN ?_ _) | (with_reducible refine Kd.C_drew ?_) | exact HR198_1.out)) hb); have n3_ := Aside0.mk (below_step (by repeat (first | (with_reducible first | exact HB.out | apply below_alloc | apply pw_below_drewN | apply below_drew1) | exact HB.out)) hb); clear HO_20; clear HL198_1; clear HR198_1; clear HB; have HO_20 := n0_; have HL198_1 := n1_; have HR198_1 := n2_; have HB := n3_; clear n0_ n1_ n2_ n3_; (try clear hb); (try clear hb2); (try clear hk); (try clear hi)))
                      go_roundg k3
                      case measure => have := HK1.out; have := HJ8.out; have := HK3.out; omega
                      case rel => exact ⟨(x14_3 ++ t199), (wrap64 (x21_3 + 1)), (by first | rfl | (simp; done) | (simp [*]; done)), (by first | rfl | (simp; done) | (simp [*]; done)), H', ⟨by have := HK1.out; have := HJ8.out; have := HK3.out; omega⟩, ⟨by (with_reducible repeat (first | apply Kd.S_alloc | apply Kd.S_drewN | apply Kd.S_drew)); exact HO_20.out⟩, ⟨by repeat (first | (with_reducible first | exact HB.out | apply below_alloc | apply pw_below_drewN | apply below_drew1) | exact HB.out)⟩⟩
                    · rw [if_neg c29] at H
                      exact absurd H (by simp)
                  · rw [if_neg c27] at H
                    exact absurd H (by simp)
                · rw [if_neg c26] at H
                  have c26b0 : decide (x21_3 < (t195.length : Int)) = false := decide_eq_false c26
                  clear c26
                  replace H := Option.bind_eq_some_iff.mp H
                  obtain ⟨t201, A320, H⟩ := H
                  replace H : (if x14_3.size + a5.size ≤ 9223372036854775807 then (if 0 ≤ t201 then (if t201 ≤ (x14_3.size : Int) then (if (x14_3.extract 0 (t201 : Int).toNat).size + a5.size ≤ 9223372036854775807 then (if 0 ≤ (mn (wrap64 (t201 + (a5.size : Int))) (x14_3.size : Int)) then (if (mn (wrap64 (t201 + (a5.size : Int))) (x14_3.size : Int)) ≤ (x14_3.size : Int) then (if ((x14_3.extract 0 (t201 : Int).toNat) ++ a5).size + (x14_3.extract ((mn (wrap64 (t201 + (a5.size : Int))) (x14_3.size : Int)) : Int).toNat x14_3.size).size ≤ 9223372036854775807 then (if ((x14_3.extract 0 (t201 : Int).toNat) ++ a5).size + (x14_3.extract (t201 : Int).toNat x14_3.size).size ≤ 9223372036854775807 then ((some (([a2, x14_3, x14_3 ++ a5, x14_3.extract 0 (t201 : Int).toNat, ((x14_3.extract 0 (t201 : Int).toNat) ++ a5) ++ (x14_3.extract ((mn (wrap64 (t201 + (a5.size : Int))) (x14_3.size : Int)) : Int).toNat x14_3.size), ((x14_3.extract 0 (t201 : Int).toNat) ++ a5) ++ (x14_3.extract (t201 : Int).toNat x14_3.size)] : List ByteArray) : List ByteArray)).bind fun y202 => (humpyardlaw15_JournalTells.l2 k3 l0 l1 t188 t195 y202 (y202.length : Int) 0)) else (none)) else (none)) else (none)) else (none)) else (none)) else (none)) else (none)) else (none)) = some r := H
                  have A32 := Aside0.mk A320
                  clear A320
                  by_cases c33 : x14_3.size + a5.size ≤ 9223372036854775807
                  · rw [if_pos c33] at H
                    have c33b0 := eq_true c33
                    have c33b1 : decide (x14_3.size + a5.size ≤ 9223372036854775807) = true := decide_eq_true c33
                    try have c33b2 : (9223372036854775807 < x14_3.size + a5.size) = False := eq_false (Nat.not_lt.2 c33)
                    by_cases c34 : 0 ≤ t201
                    · rw [if_pos c34] at H
                      have c34b0 := eq_true c34
                      have c34b1 : decide (0 ≤ t201) = true := decide_eq_true c34
                      clear c34
                      by_cases c35 : t201 ≤ (x14_3.size : Int)
                      · rw [if_pos c35] at H
                        have c35b0 := eq_true c35
                        have c35b1 : decide (t201 ≤ (x14_3.size : Int)) = true := decide_eq_true c35
                        clear c35
                        have c36b0 := eq_true (of_decide_eq_true (by first | (with_reducible assumption) | assumption) : 0 ≤ t201)
                        have c37b0 := eq_true (of_decide_eq_true (by first | (with_reducible assumption) | assumption) : t201 ≤ (x14_3.size : Int))
                        by_cases c38 : (x14_3.extract 0 (t201 : Int).toNat).size + a5.size ≤ 9223372036854775807
                        · rw [if_pos c38] at H
                          have c38b0 := eq_true c38
                          have c38b1 : decide ((x14_3.extract 0 (t201 : Int).toNat).size + a5.size ≤ 9223372036854775807) = true := decide_eq_true c38
                          try have c38b2 : (9223372036854775807 < (x14_3.extract 0 (t201 : Int).toNat).size + a5.size) = False := eq_false (Nat.not_lt.2 c38)
                          have c38b3 : (9223372036854775807 < t201.toNat + a5.size) = False := eq_false (by have h_ := c38; have g0_ : t201 ≤ (x14_3.size : Int) := of_decide_eq_true (by assumption); simp only [ByteArray.size_append, ByteArray.size_extract] at h_; omega)
                          obtain ⟨ji39, hji39⟩ : ∃ j_ : Int, (mn (wrap64 (t201 + (a5.size : Int))) (x14_3.size : Int)) = j_ := ⟨_, rfl⟩
                          replace H : (if 0 ≤ (ji39) then (if (ji39) ≤ (x14_3.size : Int) then (if ((x14_3.extract 0 (t201 : Int).toNat) ++ a5).size + (x14_3.extract ((ji39) : Int).toNat x14_3.size).size ≤ 9223372036854775807 then (if ((x14_3.extract 0 (t201 : Int).toNat) ++ a5).size + (x14_3.extract (t201 : Int).toNat x14_3.size).size ≤ 9223372036854775807 then ((some (([a2, x14_3, x14_3 ++ a5, x14_3.extract 0 (t201 : Int).toNat, ((x14_3.extract 0 (t201 : Int).toNat) ++ a5) ++ (x14_3.extract ((ji39) : Int).toNat x14_3.size), ((x14_3.extract 0 (t201 : Int).toNat) ++ a5) ++ (x14_3.extract (t201 : Int).toNat x14_3.size)] : List ByteArray) : List ByteArray)).bind fun y202 => (humpyardlaw15_JournalTells.l2 k3 l0 l1 t188 t195 y202 (y202.length : Int) 0)) else (none)) else (none)) else (none)) else (none)) = some r := by first | (rw [hji39] at H; exact H) | (simp only [hji39] at H ⊢; exact H)
                          (try rw [hji39] at A32)
                          have hji39_ : (if (x14_3.size : Int) < (wrap64 (t201 + (a5.size : Int))) then (x14_3.size : Int) else (wrap64 (t201 + (a5.size : Int)))) = ji39 := hji39
                          by_cases c40 : 0 ≤ (ji39)
                          · rw [if_pos c40] at H
                            have c40b0 := eq_true c40
                            have c40b1 : decide (0 ≤ (ji39)) = true := decide_eq_true c40
                            clear c40
                            by_cases c41 : (ji39) ≤ (x14_3.size : Int)
                            · rw [if_pos c41] at H
                              have c41b0 := eq_true c41
                              have c41b1 : decide ((ji39) ≤ (x14_3.size : Int)) = true := decide_eq_true c41
                              clear c41
                              by_cases c42 : ((x14_3.extract 0 (t201 : Int).toNat) ++ a5).size + (x14_3.extract ((ji39) : Int).toNat x14_3.size).size ≤ 9223372036854775807
                              · rw [if_pos c42] at H
                                have c42b0 := eq_true c42
                                have c42b1 : decide (((x14_3.extract 0 (t201 : Int).toNat) ++ a5).size + (x14_3.extract ((ji39) : Int).toNat x14_3.size).size ≤ 9223372036854775807) = true := decide_eq_true c42
                                try have c42b2 : (9223372036854775807 < ((x14_3.extract 0 (t201 : Int).toNat) ++ a5).size + (x14_3.extract ((ji39) : Int).toNat x14_3.size).size) = False := eq_false (Nat.not_lt.2 c42)
                                have c42b3 : (9223372036854775807 < t201.toNat + a5.size + (x14_3.size - ji39.toNat)) = False := eq_false (by have h_ := c42; have g0_ : t201 ≤ (x14_3.size : Int) := of_decide_eq_true (by assumption); simp only [ByteArray.size_append, ByteArray.size_extract] at h_; omega)
                                have c43b0 := eq_true (of_decide_eq_true (by first | (with_reducible assumption) | assumption) : 0 ≤ t201)
                                have c44b0 := eq_true (of_decide_eq_true (by first | (with_reducible assumption) | assumption) : t201 ≤ (x14_3.size : Int))
                                have c45b0 := eq_true (of_decide_eq_true (by first | (with_reducible assumption) | assumption) : 0 ≤ t201)
                                have c46b0 := eq_true (of_decide_eq_true (by first | (with_reducible assumption) | assumption) : t201 ≤ (x14_3.size : Int))
                                by_cases c47 : ((x14_3.extract 0 (t201 : Int).toNat) ++ a5).size + (x14_3.extract (t201 : Int).toNat x14_3.size).size ≤ 9223372036854775807
                                · rw [if_pos c47] at H
                                  have c47b0 := eq_true c47
                                  have c47b1 : decide (((x14_3.extract 0 (t201 : Int).toNat) ++ a5).size + (x14_3.extract (t201 : Int).toNat x14_3.size).size ≤ 9223372036854775807) = true := decide_eq_true c47
                                  try have c47b2 : (9223372036854775807 < ((x14_3.extract 0 (t201 : Int).toNat) ++ a5).size + (x14_3.extract (t201 : Int).toNat x14_3.size).size) = False := eq_false (Nat.not_lt.2 c47)
                                  have c47b3 : (9223372036854775807 < t201.toNat + a5.size + (x14_3.size - t201.toNat)) = False := eq_false (by have h_ := c47; have g0_ : t201 ≤ (x14_3.size : Int) := of_decide_eq_true (by assumption); simp only [ByteArray.size_append, ByteArray.size_extract] at h_; omega)
                                  obtain ⟨y202, hy202⟩ : ∃ y_ : List ByteArray, y_ = (([a2, x14_3, x14_3 ++ a5, x14_3.extract 0 (t201 : Int).toNat, ((x14_3.extract 0 (t201 : Int).toNat) ++ a5) ++ (x14_3.extract ((ji39) : Int).toNat x14_3.size), ((x14_3.extract 0 (t201 : Int).toNat) ++ a5) ++ (x14_3.extract (t201 : Int).toNat x14_3.size)] : List ByteArray)) := ⟨_, rfl⟩
                                  replace H : (humpyardlaw15_JournalTells.l2 k3 l0 l1 t188 t195 y202 (y202.length : Int) 0) = some r := by first | (rw [hy202]; with_reducible exact H) | (have H2_ := (Option.bind_some _ _).symm.trans H; rw [hy202]; with_reducible exact H2_) | (have H2_ := (Option.bind_some _ _).symm.trans H; with_reducible exact H2_) | with_reducible exact H | (rw [hy202]; exact H) | exact H
                                  have Ny202 := Aside0.mk hy202
                                  clear hy202
                                  have H' := Aside0.mk H
                                  clear H
                                  obtain ⟨Ao48, co48, eo48⟩ := Kd.S_slice HO_20.out
                                  subst eo48
                                  try go_wp2_with (first | ((with_reducible refine gate_callee (f := 13) rfl ?_); refine goesL_ (some 89) rfl rfl Try.func13 (by kernel_rfl) rfl #[.int .i64 a4, .int .i64 (wrap64 ((x14_3.size : Int) + 1))] rfl (by (try simp only [List.map_toArray, List.map_cons, List.map_nil]); first | done | rfl | (simp only [List.length_drop, List.length_take]; rfl)) ?_; (with_reducible refine (humpyardlaw15_pick.calls a4 (wrap64 ((x14_3.size : Int) + 1)) t201 _ A32.out).mono ?_); rintro e w' ⟨rfl, ⟨nd, rfl⟩⟩; refine ⟨_, rfl, ?_⟩))
                                  (try (rw [drewN_self wr]; generalize hq_ : World.drewN wr _ = wr; have n0_ : Aside0 (Kd.S k29 29 wr w.heap.size (fun _ => True) (.slice Ao48 t195.length co48) t195) := ⟨by rw [← hq_]; exact (by (with_reducible repeat (first | apply Kd.S_alloc | apply Kd.S_drewN | apply Kd.S_drew)); exact HO_20.out)⟩; have n1_ : Aside0 (Below w.heap.size w wr) := ⟨by rw [← hq_]; exact (by repeat (first | (with_reducible first | exact HB.out | apply below_alloc | apply pw_below_drewN | apply below_drew1) | exact HB.out))⟩; clear HO_20 HB hq_; have HO_20 := n0_; have HB := n1_; clear n0_ n1_))
                                  have n0_ := Aside0.mk (Kd.S_drew HO_20.out)
                                  have n1_ := Aside0.mk (below_drew1 HB.out)
                                  clear HO_20
                                  clear HB
                                  have HO_20 := n0_
                                  have HB := n1_
                                  clear n0_ n1_
                                  refine start_ (n := 35) (S := fun w' => True) (ds := []) #[false, false, false, false, false, false, false, false, false, false, false, false, false, false, false, false, false, false, false, false, false, false, false, false, false, false, false, false, false, false, false, false, false, false, false] (by kernel_rfl) rfl rfl trivial (fun hHeld => ?_); refine with_tabW humpyardlaw15_JournalTells.tab17 humpyardlaw15_JournalTells.bits17 (fun HT_ HW_ => ?_)
                                  generalize wr.drew = w49 at HO_20 HB hHeld ⊢
                                  refine pure_ (i := 0) (N := some 90) (v := ?_) (a' := ?_) #[true, false, false, false, false, false, false, false, false, false, false, false, false, false, false, false, false, false, false, false, false, false, false, false, false, false, false, false, false, false, false, false, false, false, false] rfl rfl (any_of HT_.out (by kernel_rfl)) (fun _ _ _ h => h) (Or.inl ⟨by rfl, ?_⟩) ?_ ?_
                                  rotate_left
                                  · intro w'
                                    go_simp
                                    with_reducible rfl
                                  rotate_left
                                  · simp only [Act.put, List.setIfInBounds_toArray, List.set_cons_zero, List.set_cons_succ, i64_w, i32_w]
                                    rfl
                                  refine pure_ (i := 1) (N := some 91) (v := ?_) (a' := ?_) #[true, true, false, false, false, false, false, false, false, false, false, false, false, false, false, false, false, false, false, false, false, false, false, false, false, false, false, false, false, false, false, false, false, false, false] rfl rfl (any_of HT_.out (by kernel_rfl)) (fun _ _ _ h => h) (Or.inl ⟨by rfl, ?_⟩) ?_ ?_
                                  rotate_left
                                  · intro w'
                                    go_simp
                                    with_reducible rfl
                                  rotate_left
                                  · simp only [Act.put, List.setIfInBounds_toArray, List.set_cons_zero, List.set_cons_succ, i64_w, i32_w]
                                    rfl
                                  refine pure_ (i := 2) (N := some 92) (v := ?_) (a' := ?_) #[true, true, true, false, false, false, false, false, false, false, false, false, false, false, false, false, false, false, false, false, false, false, false, false, false, false, false, false, false, false, false, false, false, false, false] rfl rfl (any_of HT_.out (by kernel_rfl)) (fun _ _ _ h => h) (Or.inl ⟨by rfl, ?_⟩) ?_ ?_
                                  rotate_left
                                  · intro w'
                                    go_simp
                                    with_reducible rfl
                                  rotate_left
                                  · simp only [Act.put, List.setIfInBounds_toArray, List.set_cons_zero, List.set_cons_succ, i64_w, i32_w]
                                    rfl
                                  refine pure_ (i := 3) (N := some 93) (v := ?_) (a' := ?_) #[true, true, true, true, false, false, false, false, false, false, false, false, false, false, false, false, false, false, false, false, false, false, false, false, false, false, false, false, false, false, false, false, false, false, false] rfl rfl (any_of HT_.out (by kernel_rfl)) (fun _ _ _ h => h) (Or.inl ⟨by rfl, ?_⟩) ?_ ?_
                                  rotate_left
                                  · intro w'
                                    go_simp
                                    with_reducible rfl
                                  rotate_left
                                  · simp only [Act.put, List.setIfInBounds_toArray, List.set_cons_zero, List.set_cons_succ, i64_w, i32_w]
                                    rfl
                                  refine pure_ (i := 4) (N := some 94) (v := ?_) (a' := ?_) #[true, true, true, true, true, false, false, false, false, false, false, false, false, false, false, false, false, false, false, false, false, false, false, false, false, false, false, false, false, false, false, false, false, false, false] rfl rfl (any_of HT_.out (by kernel_rfl)) (fun _ _ _ h => h) (Or.inl ⟨by rfl, ?_⟩) ?_ ?_
                                  rotate_left
                                  · intro w'
                                    go_simp
                                    with_reducible rfl
                                  rotate_left
                                  · simp only [Act.put, List.setIfInBounds_toArray, List.set_cons_zero, List.set_cons_succ, i64_w, i32_w]
                                    rfl
                                  refine pure_ (i := 5) (N := some 95) (v := ?_) (a' := ?_) #[true, true, true, true, true, true, false, false, false, false, false, false, false, false, false, false, false, false, false, false, false, false, false, false, false, false, false, false, false, false, false, false, false, false, false] rfl rfl (any_of HT_.out (by kernel_rfl)) (fun _ _ _ h => h) (Or.inl ⟨by rfl, ?_⟩) ?_ ?_
                                  rotate_left
                                  · intro w'
                                    go_simp
                                    with_reducible rfl
                                  rotate_left
                                  · simp only [Act.put, List.setIfInBounds_toArray, List.set_cons_zero, List.set_cons_succ, i64_w, i32_w]
                                    rfl
                                  refine pure_ (i := 6) (N := some 96) (v := ?_) (a' := ?_) #[true, true, true, true, true, true, true, false, false, false, false, false, false, false, false, false, false, false, false, false, false, false, false, false, false, false, false, false, false, false, false, false, false, false, false] rfl rfl (any_of HT_.out (by kernel_rfl)) (fun _ _ _ h => h) (Or.inl ⟨by rfl, ?_⟩) ?_ ?_
                                  rotate_left
                                  · intro w'
                                    go_simp
                                    with_reducible rfl
                                  rotate_left
                                  · simp only [Act.put, List.setIfInBounds_toArray, List.set_cons_zero, List.set_cons_succ, i64_w, i32_w]
                                    rfl
                                  refine pure_ (i := 7) (N := some 97) (v := ?_) (a' := ?_) #[true, true, true, true, true, true, true, true, false, false, false, false, false, false, false, false, false, false, false, false, false, false, false, false, false, false, false, false, false, false, false, false, false, false, false] rfl rfl (any_of HT_.out (by kernel_rfl)) (fun _ _ _ h => h) (Or.inl ⟨by rfl, ?_⟩) ?_ ?_
                                  rotate_left
                                  · intro w'
                                    go_simp
                                    with_reducible rfl
                                  rotate_left
                                  · simp only [Act.put, List.setIfInBounds_toArray, List.set_cons_zero, List.set_cons_succ, i64_w, i32_w]
                                    rfl
                                  refine pure_ (i := 8) (N := some 98) (v := ?_) (a' := ?_) #[true, true, true, true, true, true, true, true, true, false, false, false, false, false, false, false, false, false, false, false, false, false, false, false, false, false, false, false, false, false, false, false, false, false, false] rfl rfl (any_of HT_.out (by kernel_rfl)) (fun _ _ _ h => h) (Or.inl ⟨by rfl, ?_⟩) ?_ ?_
                                  rotate_left
                                  · intro w'
                                    go_simp
                                    with_reducible rfl
                                  rotate_left
                                  · simp only [Act.put, List.setIfInBounds_toArray, List.set_cons_zero, List.set_cons_succ, i64_w, i32_w]
                                    rfl
                                  refine pure_ (i := 9) (N := some 99) (v := ?_) (a' := ?_) #[true, true, true, true, true, true, true, true, true, true, false, false, false, false, false, false, false, false, false, false, false, false, false, false, false, false, false, false, false, false, false, false, false, false, false] rfl rfl (any_of HT_.out (by kernel_rfl)) (fun _ _ _ h => h) (Or.inl ⟨by rfl, ?_⟩) ?_ ?_
                                  rotate_left
                                  · intro w'
                                    go_simp
                                    with_reducible rfl
                                  rotate_left
                                  · simp only [Act.put, List.setIfInBounds_toArray, List.set_cons_zero, List.set_cons_succ, i64_w, i32_w]
                                    rfl
                                  refine pure_ (i := 10) (N := some 100) (v := ?_) (a' := ?_) #[true, true, true, true, true, true, true, true, true, true, true, false, false, false, false, false, false, false, false, false, false, false, false, false, false, false, false, false, false, false, false, false, false, false, false] rfl rfl (any_of HT_.out (by kernel_rfl)) (fun _ _ _ h => h) (Or.inl ⟨by rfl, ?_⟩) ?_ ?_
                                  rotate_left
                                  · intro w'
                                    go_simp
                                    with_reducible rfl
                                  rotate_left
                                  · simp only [Act.put, List.setIfInBounds_toArray, List.set_cons_zero, List.set_cons_succ, i64_w, i32_w]
                                    rfl
                                  refine pure_ (i := 11) (N := some 101) (v := ?_) (a' := ?_) #[true, true, true, true, true, true, true, true, true, true, true, true, false, false, false, false, false, false, false, false, false, false, false, false, false, false, false, false, false, false, false, false, false, false, false] rfl rfl (any_of HT_.out (by kernel_rfl)) (fun _ _ _ h => h) (Or.inl ⟨by rfl, ?_⟩) ?_ ?_
                                  rotate_left
                                  · intro w'
                                    go_simp
                                    with_reducible rfl
                                  rotate_left
                                  · simp only [Act.put, List.setIfInBounds_toArray, List.set_cons_zero, List.set_cons_succ, i64_w, i32_w]
                                    rfl
                                  refine pure_ (i := 12) (N := some 102) (v := ?_) (a' := ?_) #[true, true, true, true, true, true, true, true, true, true, true, true, true, false, false, false, false, false, false, false, false, false, false, false, false, false, false, false, false, false, false, false, false, false, false] rfl rfl (any_of HT_.out (by kernel_rfl)) (fun _ _ _ h => h) (Or.inl ⟨by rfl, ?_⟩) ?_ ?_
                                  rotate_left
                                  · intro w'
                                    go_simp
                                    with_reducible rfl
                                  rotate_left
                                  · simp only [Act.put, List.setIfInBounds_toArray, List.set_cons_zero, List.set_cons_succ, i64_w, i32_w]
                                    rfl
                                  refine pure_ (i := 13) (N := some 103) (v := ?_) (a' := ?_) #[true, true, true, true, true, true, true, true, true, true, true, true, true, true, false, false, false, false, false, false, false, false, false, false, false, false, false, false, false, false, false, false, false, false, false] rfl rfl (any_of HT_.out (by kernel_rfl)) (fun _ _ _ h => h) (Or.inl ⟨by rfl, ?_⟩) ?_ ?_
                                  rotate_left
                                  · intro w'
                                    go_simp
                                    with_reducible rfl
                                  rotate_left
                                  · simp only [Act.put, List.setIfInBounds_toArray, List.set_cons_zero, List.set_cons_succ, i64_w, i32_w]
                                    rfl
                                  refine pure_ (i := 14) (N := some 104) (v := ?_) (a' := ?_) #[true, true, true, true, true, true, true, true, true, true, true, true, true, true, true, false, false, false, false, false, false, false, false, false, false, false, false, false, false, false, false, false, false, false, false] rfl rfl (any_of HT_.out (by kernel_rfl)) (fun _ _ _ h => h) (Or.inl ⟨by rfl, ?_⟩) ?_ ?_
                                  rotate_left
                                  · intro w'
                                    go_simp
                                    with_reducible rfl
                                  rotate_left
                                  · simp only [Act.put, List.setIfInBounds_toArray, List.set_cons_zero, List.set_cons_succ, i64_w, i32_w]
                                    rfl
                                  refine pure_ (i := 15) (N := some 105) (v := ?_) (a' := ?_) #[true, true, true, true, true, true, true, true, true, true, true, true, true, true, true, true, false, false, false, false, false, false, false, false, false, false, false, false, false, false, false, false, false, false, false] rfl rfl (any_of HT_.out (by kernel_rfl)) (fun _ _ _ h => h) (Or.inl ⟨by rfl, ?_⟩) ?_ ?_
                                  rotate_left
                                  · intro w'
                                    go_simp
                                    with_reducible rfl
                                  rotate_left
                                  · simp only [Act.put, List.setIfInBounds_toArray, List.set_cons_zero, List.set_cons_succ, i64_w, i32_w]
                                    rfl
                                  refine pure_ (i := 16) (N := some 106) (v := ?_) (a' := ?_) #[true, true, true, true, true, true, true, true, true, true, true, true, true, true, true, true, true, false, false, false, false, false, false, false, false, false, false, false, false, false, false, false, false, false, false] rfl rfl (any_of HT_.out (by kernel_rfl)) (fun _ _ _ h => h) (Or.inl ⟨by rfl, ?_⟩) ?_ ?_
                                  rotate_left
                                  · intro w'
                                    go_simp
                                    with_reducible rfl
                                  rotate_left
                                  · simp only [Act.put, List.setIfInBounds_toArray, List.set_cons_zero, List.set_cons_succ, i64_w, i32_w]
                                    rfl
                                  refine pure_ (i := 17) (N := some 107) (v := ?_) (a' := ?_) #[true, true, true, true, true, true, true, true, true, true, true, true, true, true, true, true, true, true, false, false, false, false, false, false, false, false, false, false, false, false, false, false, false, false, false] rfl rfl (any_of HT_.out (by kernel_rfl)) (fun _ _ _ h => h) (Or.inl ⟨by rfl, ?_⟩) ?_ ?_
                                  rotate_left
                                  · intro w'
                                    go_simp
                                    with_reducible rfl
                                  rotate_left
                                  · simp only [Act.put, List.setIfInBounds_toArray, List.set_cons_zero, List.set_cons_succ, i64_w, i32_w]
                                    rfl
                                  refine pure_ (i := 18) (N := some 108) (v := ?_) (a' := ?_) #[true, true, true, true, true, true, true, true, true, true, true, true, true, true, true, true, true, true, true, false, false, false, false, false, false, false, false, false, false, false, false, false, false, false, false] rfl rfl (any_of HT_.out (by kernel_rfl)) (fun _ _ _ h => h) (Or.inl ⟨by rfl, ?_⟩) ?_ ?_
                                  rotate_left
                                  · intro w'
                                    go_simp
                                    with_reducible rfl
                                  rotate_left
                                  · simp only [Act.put, List.setIfInBounds_toArray, List.set_cons_zero, List.set_cons_succ, i64_w, i32_w]
                                    rfl
                                  refine pure_ (i := 19) (N := some 109) (v := ?_) (a' := ?_) #[true, true, true, true, true, true, true, true, true, true, true, true, true, true, true, true, true, true, true, true, false, false, false, false, false, false, false, false, false, false, false, false, false, false, false] rfl rfl (any_of HT_.out (by kernel_rfl)) (fun _ _ _ h => h) (Or.inl ⟨by rfl, ?_⟩) ?_ ?_
                                  rotate_left
                                  · intro w'
                                    go_simp
                                    with_reducible rfl
                                  rotate_left
                                  · simp only [Act.put, List.setIfInBounds_toArray, List.set_cons_zero, List.set_cons_succ, i64_w, i32_w]
                                    rfl
                                  refine pure_ (i := 20) (N := some 110) (v := ?_) (a' := ?_) #[true, true, true, true, true, true, true, true, true, true, true, true, true, true, true, true, true, true, true, true, true, false, false, false, false, false, false, false, false, false, false, false, false, false, false] rfl rfl (any_of HT_.out (by kernel_rfl)) (fun _ _ _ h => h) (Or.inl ⟨by rfl, ?_⟩) ?_ ?_
                                  rotate_left
                                  · intro w'
                                    go_simp
                                    with_reducible rfl
                                  rotate_left
                                  · simp only [Act.put, List.setIfInBounds_toArray, List.set_cons_zero, List.set_cons_succ, i64_w, i32_w]
                                    rfl
                                  refine pure_ (i := 21) (N := some 111) (v := ?_) (a' := ?_) #[true, true, true, true, true, true, true, true, true, true, true, true, true, true, true, true, true, true, true, true, true, true, false, false, false, false, false, false, false, false, false, false, false, false, false] rfl rfl (any_of HT_.out (by kernel_rfl)) (fun _ _ _ h => h) (Or.inl ⟨by rfl, ?_⟩) ?_ ?_
                                  rotate_left
                                  · intro w'
                                    go_simp
                                    with_reducible rfl
                                  rotate_left
                                  · simp only [Act.put, List.setIfInBounds_toArray, List.set_cons_zero, List.set_cons_succ, i64_w, i32_w]
                                    rfl
                                  refine pure_ (i := 22) (N := some 112) (v := ?_) (a' := ?_) #[true, true, true, true, true, true, true, true, true, true, true, true, true, true, true, true, true, true, true, true, true, true, true, false, false, false, false, false, false, false, false, false, false, false, false] rfl rfl (any_of HT_.out (by kernel_rfl)) (fun _ _ _ h => h) (Or.inl ⟨by rfl, ?_⟩) ?_ ?_
                                  rotate_left
                                  · intro w'
                                    go_simp
                                    with_reducible rfl
                                  rotate_left
                                  · simp only [Act.put, List.setIfInBounds_toArray, List.set_cons_zero, List.set_cons_succ, i64_w, i32_w]
                                    rfl
                                  refine pure_ (i := 23) (N := some 113) (v := ?_) (a' := ?_) #[true, true, true, true, true, true, true, true, true, true, true, true, true, true, true, true, true, true, true, true, true, true, true, true, false, false, false, false, false, false, false, false, false, false, false] rfl rfl (any_of HT_.out (by kernel_rfl)) (fun _ _ _ h => h) (Or.inl ⟨by rfl, ?_⟩) ?_ ?_
                                  rotate_left
                                  · intro w'
                                    go_simp
                                    with_reducible rfl
                                  rotate_left
                                  · simp only [Act.put, List.setIfInBounds_toArray, List.set_cons_zero, List.set_cons_succ, i64_w, i32_w]
                                    rfl
                                  refine pure_ (i := 24) (N := some 114) (v := ?_) (a' := ?_) #[true, true, true, true, true, true, true, true, true, true, true, true, true, true, true, true, true, true, true, true, true, true, true, true, true, false, false, false, false, false, false, false, false, false, false] rfl rfl (any_of HT_.out (by kernel_rfl)) (fun _ _ _ h => h) (Or.inl ⟨by rfl, ?_⟩) ?_ ?_
                                  rotate_left
                                  · intro w'
                                    go_simp
                                    with_reducible rfl
                                  rotate_left
                                  · simp only [Act.put, List.setIfInBounds_toArray, List.set_cons_zero, List.set_cons_succ, i64_w, i32_w]
                                    rfl
                                  refine pure_ (i := 25) (N := some 115) (v := ?_) (a' := ?_) #[true, true, true, true, true, true, true, true, true, true, true, true, true, true, true, true, true, true, true, true, true, true, true, true, true, true, false, false, false, false, false, false, false, false, false] rfl rfl (any_of HT_.out (by kernel_rfl)) (fun _ _ _ h => h) (Or.inl ⟨by rfl, ?_⟩) ?_ ?_
                                  rotate_left
                                  · intro w'
                                    go_simp
                                    with_reducible rfl
                                  rotate_left
                                  · simp only [Act.put, List.setIfInBounds_toArray, List.set_cons_zero, List.set_cons_succ, i64_w, i32_w]
                                    rfl
                                  refine pure_ (i := 26) (N := some 116) (v := ?_) (a' := ?_) #[true, true, true, true, true, true, true, true, true, true, true, true, true, true, true, true, true, true, true, true, true, true, true, true, true, true, true, false, false, false, false, false, false, false, false] rfl rfl (any_of HT_.out (by kernel_rfl)) (fun _ _ _ h => h) (Or.inl ⟨by rfl, ?_⟩) ?_ ?_
                                  rotate_left
                                  · intro w'
                                    go_simp
                                    with_reducible rfl
                                  rotate_left
                                  · simp only [Act.put, List.setIfInBounds_toArray, List.set_cons_zero, List.set_cons_succ, i64_w, i32_w]
                                    rfl
                                  refine pure_ (i := 27) (N := some 117) (v := ?_) (a' := ?_) #[true, true, true, true, true, true, true, true, true, true, true, true, true, true, true, true, true, true, true, true, true, true, true, true, true, true, true, true, false, false, false, false, false, false, false] rfl rfl (any_of HT_.out (by kernel_rfl)) (fun _ _ _ h => h) (Or.inl ⟨by rfl, ?_⟩) ?_ ?_
                                  rotate_left
                                  · intro w'
                                    go_simp
                                    with_reducible rfl
                                  rotate_left
                                  · simp only [Act.put, List.setIfInBounds_toArray, List.set_cons_zero, List.set_cons_succ, i64_w, i32_w]
                                    rfl
                                  refine pure_ (i := 28) (N := some 118) (v := ?_) (a' := ?_) #[true, true, true, true, true, true, true, true, true, true, true, true, true, true, true, true, true, true, true, true, true, true, true, true, true, true, true, true, true, false, false, false, false, false, false] rfl rfl (any_of HT_.out (by kernel_rfl)) (fun _ _ _ h => h) (Or.inl ⟨by rfl, ?_⟩) ?_ ?_
                                  rotate_left
                                  · intro w'
                                    go_simp
                                    with_reducible rfl
                                  rotate_left
                                  · simp only [Act.put, List.setIfInBounds_toArray, List.set_cons_zero, List.set_cons_succ, i64_w, i32_w]
                                    rfl
                                  refine pure_ (i := 29) (N := some 119) (v := ?_) (a' := ?_) #[true, true, true, true, true, true, true, true, true, true, true, true, true, true, true, true, true, true, true, true, true, true, true, true, true, true, true, true, true, true, false, false, false, false, false] rfl rfl (any_of HT_.out (by kernel_rfl)) (fun _ _ _ h => h) (Or.inl ⟨by rfl, ?_⟩) ?_ ?_
                                  rotate_left
                                  · intro w'
                                    go_simp
                                    with_reducible rfl
                                  rotate_left
                                  · simp only [Act.put, List.setIfInBounds_toArray, List.set_cons_zero, List.set_cons_succ, i64_w, i32_w]
                                    rfl
                                  refine pure_ (i := 30) (N := some 120) (v := ?_) (a' := ?_) #[true, true, true, true, true, true, true, true, true, true, true, true, true, true, true, true, true, true, true, true, true, true, true, true, true, true, true, true, true, true, true, false, false, false, false] rfl rfl (any_of HT_.out (by kernel_rfl)) (fun _ _ _ h => h) (Or.inl ⟨by rfl, ?_⟩) ?_ ?_
                                  rotate_left
                                  · intro w'
                                    go_simp
                                    with_reducible rfl
                                  rotate_left
                                  · simp only [Act.put, List.setIfInBounds_toArray, List.set_cons_zero, List.set_cons_succ, i64_w, i32_w]
                                    rfl
                                  refine pure_ (i := 31) (N := some 121) (v := ?_) (a' := ?_) #[true, true, true, true, true, true, true, true, true, true, true, true, true, true, true, true, true, true, true, true, true, true, true, true, true, true, true, true, true, true, true, true, false, false, false] rfl rfl (any_of HT_.out (by kernel_rfl)) (fun _ _ _ h => h) (Or.inl ⟨by rfl, ?_⟩) ?_ ?_
                                  rotate_left
                                  · intro w'
                                    go_simp
                                    with_reducible rfl
                                  rotate_left
                                  · simp only [Act.put, List.setIfInBounds_toArray, List.set_cons_zero, List.set_cons_succ, i64_w, i32_w]
                                    rfl
                                  refine pure_ (i := 34) (N := some 124) (v := ?_) (a' := ?_) #[true, true, true, true, true, true, true, true, true, true, true, true, true, true, true, true, true, true, true, true, true, true, true, true, true, true, true, true, true, true, true, true, false, false, true] rfl rfl (any_of HT_.out (by kernel_rfl)) (fun _ _ _ h => h) (Or.inl ⟨by rfl, ?_⟩) ?_ ?_
                                  rotate_left
                                  · intro w'
                                    go_simp
                                    with_reducible rfl
                                  rotate_left
                                  · simp only [Act.put, List.setIfInBounds_toArray, List.set_cons_zero, List.set_cons_succ, i64_w, i32_w]
                                    rfl
                                  refine one_ (i := 32) (N := some 122) #[true, true, true, true, true, true, true, true, true, true, true, true, true, true, true, true, true, true, true, true, true, true, true, true, true, true, true, true, true, true, true, true, true, false, true] rfl rfl (one_of HT_.out (by kernel_rfl)) (by decide) (fun K hK => ?_)
                                  refine Kd.R_lit_step Kd.string _ 9 ?hg (N := 122) ?hd (xs := ([a2, x14_3, x14_3 ++ a5, x14_3.extract 0 (t201 : Int).toNat, ((x14_3.extract 0 (t201 : Int).toNat) ++ a5) ++ (x14_3.extract ((ji39) : Int).toNat x14_3.size), ((x14_3.extract 0 (t201 : Int).toNat) ++ a5) ++ (x14_3.extract (t201 : Int).toNat x14_3.size)] : List ByteArray)) (inner := [.string a2, .string x14_3, .string (x14_3 ++ a5), .string (x14_3.extract 0 (t201 : Int).toNat), .string (((x14_3.extract 0 (t201 : Int).toNat) ++ a5) ++ (x14_3.extract ((ji39) : Int).toNat x14_3.size)), .string (((x14_3.extract 0 (t201 : Int).toNat) ++ a5) ++ (x14_3.extract (t201 : Int).toNat x14_3.size))]) (ok := fun _ => True) (okp := fun _ => True) ?hr ?hp (fun _ hk => hk) trivial (Below.refl _ _) (Nat.le_refl _) (by simp) ?_; (case hd => rfl); (case hg => rfl); (case hr => first | (go_simp; done) | (go_simp; rfl)); (case hp => exact (Reps.one (show Kd.M Kd.string _ _ _ a2 [.string a2] from rfl) (Reps.one (show Kd.M Kd.string _ _ _ x14_3 [.string x14_3] from rfl) (Reps.one (show Kd.M Kd.string _ _ _ (x14_3 ++ a5) [.string (x14_3 ++ a5)] from rfl) (Reps.one (show Kd.M Kd.string _ _ _ (x14_3.extract 0 (t201 : Int).toNat) [.string (x14_3.extract 0 (t201 : Int).toNat)] from rfl) (Reps.one (show Kd.M Kd.string _ _ _ (((x14_3.extract 0 (t201 : Int).toNat) ++ a5) ++ (x14_3.extract ((ji39) : Int).toNat x14_3.size)) [.string (((x14_3.extract 0 (t201 : Int).toNat) ++ a5) ++ (x14_3.extract ((ji39) : Int).toNat x14_3.size))] from rfl) (Reps.one (show Kd.M Kd.string _ _ _ (((x14_3.extract 0 (t201 : Int).toNat) ++ a5) ++ (x14_3.extract (t201 : Int).toNat x14_3.size)) [.string (((x14_3.extract 0 (t201 : Int).toNat) ++ a5) ++ (x14_3.extract (t201 : Int).toNat x14_3.size))] from rfl) (Reps.none _ _))))))))
                                  intro v203 w50 ho51 hb hg_ hnew_
                                  clear hg_ hnew_
                                  (first | rw [← Ny202.out] at ho51 | (simp only [Int.reduceToNat] at ho51; rw [← Ny202.out] at ho51))
                                  have n0_ := Aside0.mk (Kd.S_below (by (with_reducible repeat (first | apply Kd.S_alloc | apply Kd.S_drewN | apply Kd.S_drew)); exact HO_20.out) hb)
                                  have n1_ := Aside0.mk (Kd.R_lower ho51 (below_size (by repeat (first | (with_reducible first | exact HB.out | apply below_alloc | apply pw_below_drewN | apply below_drew1) | exact HB.out))))
                                  have n2_ := Aside0.mk (below_step (by repeat (first | (with_reducible first | exact HB.out | apply below_alloc | apply pw_below_drewN | apply below_drew1) | exact HB.out)) hb)
                                  clear HO_20
                                  clear HB
                                  have HO_20 := n0_
                                  have HO204 := n1_
                                  have HB := n2_
                                  clear n0_ n1_ n2_
                                  clear hb ho51
                                  obtain ⟨Ao52, co52, eo52⟩ := Kd.R_slice HO204.out
                                  (first | subst eo52 | (injection eo52 with f1_ f2_ f3_; have f4_ := f1_.symm; have f5_ := f3_.symm; clear f1_ f2_ f3_; subst f4_; subst f5_))
                                  refine hK.out _ _ trivial (fun hHeld => ?_)
                                  clear hK K
                                  refine norm_ (a' := ?_) ?_ ?_
                                  rotate_left
                                  · show Act.put _ (some 122) _ = _
                                    simp only [Act.put, List.setIfInBounds_toArray, List.set_cons_zero, List.set_cons_succ, i64_w, i32_w]
                                    rfl
                                  refine pure_ (i := 33) (N := some 123) (v := ?_) (a' := ?_) #[true, true, true, true, true, true, true, true, true, true, true, true, true, true, true, true, true, true, true, true, true, true, true, true, true, true, true, true, true, true, true, true, true, true, true] rfl rfl (any_of HT_.out (by kernel_rfl)) (fun _ _ _ h => h) (Or.inl ⟨by rfl, ?_⟩) ?_ ?_
                                  rotate_left
                                  · intro w'
                                    go_simp
                                    with_reducible rfl
                                  rotate_left
                                  · simp only [Act.put, List.setIfInBounds_toArray, List.set_cons_zero, List.set_cons_succ, i64_w, i32_w]
                                    rfl
                                  refine done_ (done_of HT_.out (by kernel_rfl)) ?_
                                  try go_wp2
                                  go_loopg [124] k3 (fun kq v124 w' => ∃ (x124_4 : Int), v124 = .int .i64 x124_4 ∧ Aside0 (humpyardlaw15_JournalTells.l2 kq l0 l1 t188 t195 y202 (y202.length : Int) x124_4 = some r) ∧ Aside0 (kq ≤ k3) ∧ Aside0 (Kd.S k29 29 w' w.heap.size (fun _ => True) (.slice Ao48 t195.length co48) t195) ∧ Aside0 (Kd.R Kd.string 9 w' w.heap.size (fun _ => True) (.slice Ao52 y202.length co52) y202) ∧ Aside0 (Below w.heap.size w w'))
                                  case atStart => exact ⟨(0), (by first | rfl | (simp; done) | (simp [*]; done)), H', ⟨Nat.le_refl _⟩, ⟨by (with_reducible repeat (first | apply Kd.S_alloc | apply Kd.S_drewN | apply Kd.S_drew)); exact HO_20.out⟩, ⟨by (with_reducible repeat (first | apply Kd.R_alloc | apply Kd.R_drewN | apply Kd.R_drew)); exact HO204.out⟩, ⟨by repeat (first | (with_reducible first | exact HB.out | apply below_alloc | apply pw_below_drewN | apply below_drew1) | exact HB.out)⟩⟩
                                  case round =>
                                    clear H'
                                    try clear c1
                                    try clear p1
                                    try clear q1
                                    try clear hx1
                                    try clear c2
                                    try clear p2
                                    try clear c3
                                    try clear c4
                                    try clear p6
                                    try clear c9
                                    try clear c10
                                    try clear c10b0
                                    try clear c11
                                    try clear c12
                                    try clear c12b0
                                    try clear c13
                                    try clear c13b0
                                    try clear c16
                                    try clear c16b0
                                    try clear c16b1
                                    try clear c17
                                    try clear c17b0
                                    try clear c17b1
                                    try clear c18
                                    try clear p18
                                    try clear q18
                                    try clear hx18
                                    try clear c19
                                    try clear p19
                                    try clear q19
                                    try clear hx19
                                    try clear c26
                                    try clear c26b0
                                    try clear c27
                                    try clear c27b0
                                    try clear c29
                                    try clear c29b0
                                    try clear c29b1
                                    try clear c29b2
                                    try clear c33
                                    try clear c33b0
                                    try clear c33b1
                                    try clear c33b2
                                    try clear c34
                                    try clear c34b0
                                    try clear c34b1
                                    try clear c35
                                    try clear c35b0
                                    try clear c35b1
                                    try clear c36
                                    try clear c36b0
                                    try clear c37
                                    try clear c37b0
                                    try clear c38
                                    try clear c38b0
                                    try clear c38b1
                                    try clear c38b2
                                    try clear c40
                                    try clear c40b0
                                    try clear c40b1
                                    try clear c41
                                    try clear c41b0
                                    try clear c41b1
                                    try clear c42
                                    try clear c42b0
                                    try clear c42b1
                                    try clear c42b2
                                    try clear c43
                                    try clear c43b0
                                    try clear c44
                                    try clear c44b0
                                    try clear c45
                                    try clear c45b0
                                    try clear c46
                                    try clear c46b0
                                    try clear c47
                                    try clear c47b0
                                    try clear c47b1
                                    try clear c47b2
                                    try clear hx189_0
                                    try clear hx189_1
                                    try clear hx189_2
                                    try clear hx192_0
                                    try clear hx192_1
                                    try clear hx192_2
                                    try clear hx198_0
                                    try clear hx198_1
                                    try clear hx198_2
                                    try clear p1
                                    try clear p18
                                    try clear p189
                                    try clear p19
                                    try clear p192
                                    try clear p198
                                    try clear p2
                                    try clear p6
                                    try clear q1
                                    try clear q18
                                    try clear q189
                                    try clear q19
                                    try clear q192
                                    try clear q198
                                    obtain ⟨x124_4, rfl, HA, HK4, HO_20, HO_122, HB⟩ := hrel
                                    cases gk with
                                    | zero => exact absurd HA.out (by simp [humpyardlaw15_JournalTells.l2])
                                    | succ k4 =>
                                      have H := HA.out
                                      clear HA
                                      simp only [humpyardlaw15_JournalTells.l2] at H
                                      by_cases c53 : x124_4 < (y202.length : Int)
                                      · rw [if_pos c53] at H
                                        have c53b0 : decide (x124_4 < (y202.length : Int)) = true := decide_eq_true c53
                                        clear c53
                                        by_cases c54 : 0 ≤ x124_4
                                        · rw [if_pos c54] at H
                                          have c54b0 : decide (0 ≤ x124_4) = true := decide_eq_true c54
                                          clear c54
                                          by_cases c55 : x124_4 < (y202.length : Int)
                                          · rw [if_pos c55] at H
                                            have c55b0 : decide (x124_4 < (y202.length : Int)) = true := decide_eq_true c55
                                            clear c55
                                            replace H := Option.bind_eq_some_iff.mp H
                                            obtain ⟨⟨t209, t210⟩, A560, H⟩ := H
                                            replace H : ((humpyardref15_Read.f k4 (rdOf ByteArray.empty y202 x124_4)).bind fun bt213 => ((humpyardref15_Same.f k4 t209 bt213.1).bind fun t217 => (if t217 = true then (if t210 = bt213.2 then (humpyardlaw15_JournalTells.l2 k4 l0 l1 t188 t195 y202 (y202.length : Int) (wrap64 (x124_4 + 1))) else (some false)) else (some false)))) = some r := H
                                            have A56 := Aside0.mk A560
                                            clear A560
                                            replace H := Option.bind_eq_some_iff.mp H
                                            obtain ⟨⟨t213, t214⟩, A570, H⟩ := H
                                            replace H : ((humpyardref15_Same.f k4 t209 t213).bind fun t217 => (if t217 = true then (if t210 = t214 then (humpyardlaw15_JournalTells.l2 k4 l0 l1 t188 t195 y202 (y202.length : Int) (wrap64 (x124_4 + 1))) else (some false)) else (some false))) = some r := H
                                            have A57 := Aside0.mk A570
                                            clear A570
                                            replace H := Option.bind_eq_some_iff.mp H
                                            obtain ⟨t217, A580, H⟩ := H
                                            replace H : (if t217 = true then (if t210 = t214 then (humpyardlaw15_JournalTells.l2 k4 l0 l1 t188 t195 y202 (y202.length : Int) (wrap64 (x124_4 + 1))) else (some false)) else (some false)) = some r := H
                                            have A58 := Aside0.mk A580
                                            clear A580
                                            by_cases c59 : t217 = true
                                            · subst c59
                                              have H1 : (if t210 = t214 then (humpyardlaw15_JournalTells.l2 k4 l0 l1 t188 t195 y202 (y202.length : Int) (wrap64 (x124_4 + 1))) else (some false)) = some r := by rw [if_pos rfl] at H; exact H
                                              clear H
                                              have H := H1
                                              clear H1
                                              by_cases c60 : t210 = t214
                                              · rw [if_pos c60] at H
                                                have c60b0 : (t210 == t214) = true := beq_iff_eq.mpr c60
                                                have c60b1 : (t210 != t214) = false := bne_eq_false_iff_eq.mpr c60
                                                clear c60
                                                have H' := Aside0.mk H
                                                clear H
                                                have p208 : 0 ≤ (x124_4 : Int) := of_decide_eq_true (by first | (with_reducible assumption) | assumption)
                                                have q208 : x124_4 < (y202.length : Int) := of_decide_eq_true (by first | (with_reducible assumption) | assumption)
                                                obtain ⟨ad208, e208, hx208_0⟩ := Kd.at_string (Kd.R_reads' HO_122.out).2.2 x124_4 p208 q208
                                                cases e208
                                                replace p208 := eq_true p208
                                                replace q208 := eq_true q208
                                                go_wp2_with (first | ((with_reducible refine gate_callee (f := 14) rfl ?_); refine goesL_ (some 130) rfl rfl Try.func14 (by kernel_rfl) rfl #[.string (rdOf ByteArray.empty y202 x124_4)] rfl (by (try simp only [List.map_toArray, List.map_cons, List.map_nil]); first | done | rfl | (simp only [List.length_drop, List.length_take]; rfl)) ?_; (with_reducible refine (journal_Read.calls k4 (rdOf ByteArray.empty y202 x124_4) t209 t210 _ A56.out).mono ?_); rintro e w61 ⟨v211, rfl, ho0, hb⟩; refine ⟨_, rfl, ?_⟩; have n0_ := Aside0.mk (Kd.S_elder' (by (with_reducible repeat (first | apply Kd.S_alloc | apply Kd.S_drewN | apply Kd.S_drew)); exact HO_20.out) (Kd.S_base ho0) hb); have n1_ := Aside0.mk (Kd.R_below (by (with_reducible repeat (first | apply Kd.R_alloc | apply Kd.R_drewN | apply Kd.R_drew)); exact HO_122.out) hb); have n2_ := Aside0.mk (Kd.S_lower (Kd.S_new' ho0 (Kd.S_lt (by (with_reducible repeat (first | apply Kd.S_alloc | apply Kd.S_drewN | apply Kd.S_drew)); exact HO_20.out))) (below_size (by repeat (first | (with_reducible first | exact HB.out | apply below_alloc | apply pw_below_drewN | apply below_drew1) | exact HB.out)))); have n3_ := Aside0.mk (below_step (by repeat (first | (with_reducible first | exact HB.out | apply below_alloc | apply pw_below_drewN | apply below_drew1) | exact HB.out)) hb); clear HO_20; clear HO_122; clear HB; have HO_20 := n0_; have HO_122 := n1_; have HO212 := n2_; have HB := n3_; clear n0_ n1_ n2_ n3_; (try clear hb); (try clear hb2); (try clear hk); (try clear hi); (try clear ho0)) | ((with_reducible refine gate_callee (f := 15) rfl ?_); refine goesL_ (some 135) rfl rfl Try.func15 (by kernel_rfl) rfl #[.string (rdOf ByteArray.empty y202 x124_4)] rfl (by (try simp only [List.map_toArray, List.map_cons, List.map_nil]); first | done | rfl | (simp only [List.length_drop, List.length_take]; rfl)) ?_; (with_reducible refine (humpyardref15_Read.calls k4 (rdOf ByteArray.empty y202 x124_4) t213 t214 _ A57.out).mono ?_); rintro e w62 ⟨v215, rfl, ho0, hb⟩; refine ⟨_, rfl, ?_⟩; have n0_ := Aside0.mk (Kd.S_elder' (by (with_reducible repeat (first | apply Kd.S_alloc | apply Kd.S_drewN | apply Kd.S_drew)); exact HO_20.out) (Kd.S_base ho0) hb); have n1_ := Aside0.mk (Kd.R_below (by (with_reducible repeat (first | apply Kd.R_alloc | apply Kd.R_drewN | apply Kd.R_drew)); exact HO_122.out) hb); have n2_ := Aside0.mk (Kd.S_elder' (by (with_reducible repeat (first | apply Kd.S_alloc | apply Kd.S_drewN | apply Kd.S_drew)); exact HO212.out) (Kd.S_base ho0) hb); have n3_ := Aside0.mk (Kd.S_lower (Kd.S_new' (Kd.S_new' ho0 (Kd.S_lt (by (with_reducible repeat (first | apply Kd.S_alloc | apply Kd.S_drewN | apply Kd.S_drew)); exact HO_20.out))) (Kd.S_lt (by (with_reducible repeat (first | apply Kd.S_alloc | apply Kd.S_drewN | apply Kd.S_drew)); exact HO212.out))) (below_size (by repeat (first | (with_reducible first | exact HB.out | apply below_alloc | apply pw_below_drewN | apply below_drew1) | exact HB.out)))); have n4_ := Aside0.mk (below_step (by repeat (first | (with_reducible first | exact HB.out | apply below_alloc | apply pw_below_drewN | apply below_drew1) | exact HB.out)) hb); clear HO_20; clear HO_122; clear HO212; clear HB; have HO_20 := n0_; have HO_122 := n1_; have HO212 := n2_; have HO216 := n3_; have HB := n4_; clear n0_ n1_ n2_ n3_ n4_; (try clear hb); (try clear hb2); (try clear hk); (try clear hi); (try clear ho0); obtain ⟨Ao63, co63, eo63⟩ := Kd.S_slice HO212.out; subst eo63; obtain ⟨Ao64, co64, eo64⟩ := Kd.S_slice HO216.out; subst eo64) | ((with_reducible refine gate_callee (f := 16) rfl ?_); refine goesL_ (some 140) rfl rfl Try.func16 (by kernel_rfl) rfl #[.slice Ao63 t209.length co63, .slice Ao64 t213.length co64] rfl (by (try simp only [List.map_toArray, List.map_cons, List.map_nil]); first | done | rfl | (simp only [List.length_drop, List.length_take]; rfl)) ?_; (with_reducible refine (humpyardref15_Same.calls k4 _ _ t209 _ _ t213 true _ ?side1 ?side2 ?side3 ?side4 A58.out).mono ?_); (case side1 => repeat (first | exact (Kd.S_reads' HO212.out).2.2 | (with_reducible refine Kd.C_alloc ?_ _) | (with_reducible refine Kd.C_drewN ?_ _) | (with_reducible refine Kd.C_drew ?_))); (case side2 => exact (Kd.S_reads' HO212.out).2.1); (case side3 => repeat (first | exact (Kd.S_reads' HO216.out).2.2 | (with_reducible refine Kd.C_alloc ?_ _) | (with_reducible refine Kd.C_drewN ?_ _) | (with_reducible refine Kd.C_drew ?_))); (case side4 => exact (Kd.S_reads' HO216.out).2.1); rintro e w' ⟨rfl, ⟨nd, rfl⟩⟩; refine ⟨_, rfl, ?_⟩))
                                                go_roundg k4
                                                case measure => have := HK1.out; have := HJ8.out; have := HK3.out; have := HK4.out; omega
                                                case rel => exact ⟨(wrap64 (x124_4 + 1)), (by first | rfl | (simp; done) | (simp [*]; done)), H', ⟨by have := HK1.out; have := HJ8.out; have := HK3.out; have := HK4.out; omega⟩, ⟨by (with_reducible repeat (first | apply Kd.S_alloc | apply Kd.S_drewN | apply Kd.S_drew)); exact Kd.S_mono HO_20.out (fun _ hk => trivial)⟩, ⟨by (with_reducible repeat (first | apply Kd.R_alloc | apply Kd.R_drewN | apply Kd.R_drew)); exact HO_122.out⟩, ⟨by repeat (first | (with_reducible first | exact HB.out | apply below_alloc | apply pw_below_drewN | apply below_drew1) | exact HB.out)⟩⟩
                                              · rw [if_neg c60] at H
                                                have c60b0 : (t210 == t214) = false := beq_eq_false_iff_ne.mpr c60
                                                have c60b1 : (t210 != t214) = true := bne_iff_ne.mpr c60
                                                obtain rfl := Option.some.inj H
                                                have p208 : 0 ≤ (x124_4 : Int) := of_decide_eq_true (by first | (with_reducible assumption) | assumption)
                                                have q208 : x124_4 < (y202.length : Int) := of_decide_eq_true (by first | (with_reducible assumption) | assumption)
                                                obtain ⟨ad208, e208, hx208_0⟩ := Kd.at_string (Kd.R_reads' HO_122.out).2.2 x124_4 p208 q208
                                                cases e208
                                                replace p208 := eq_true p208
                                                replace q208 := eq_true q208
                                                go_wp2_with (first | ((with_reducible refine gate_callee (f := 14) rfl ?_); refine goesL_ (some 130) rfl rfl Try.func14 (by kernel_rfl) rfl #[.string (rdOf ByteArray.empty y202 x124_4)] rfl (by (try simp only [List.map_toArray, List.map_cons, List.map_nil]); first | done | rfl | (simp only [List.length_drop, List.length_take]; rfl)) ?_; (with_reducible refine (journal_Read.calls k4 (rdOf ByteArray.empty y202 x124_4) t209 t210 _ A56.out).mono ?_); rintro e w65 ⟨v211, rfl, ho0, hb⟩; refine ⟨_, rfl, ?_⟩; have n0_ := Aside0.mk (Kd.S_elder' (by (with_reducible repeat (first | apply Kd.S_alloc | apply Kd.S_drewN | apply Kd.S_drew)); exact HO_20.out) (Kd.S_base ho0) hb); have n1_ := Aside0.mk (Kd.R_below (by (with_reducible repeat (first | apply Kd.R_alloc | apply Kd.R_drewN | apply Kd.R_drew)); exact HO_122.out) hb); have n2_ := Aside0.mk (Kd.S_lower (Kd.S_new' ho0 (Kd.S_lt (by (with_reducible repeat (first | apply Kd.S_alloc | apply Kd.S_drewN | apply Kd.S_drew)); exact HO_20.out))) (below_size (by repeat (first | (with_reducible first | exact HB.out | apply below_alloc | apply pw_below_drewN | apply below_drew1) | exact HB.out)))); have n3_ := Aside0.mk (below_step (by repeat (first | (with_reducible first | exact HB.out | apply below_alloc | apply pw_below_drewN | apply below_drew1) | exact HB.out)) hb); clear HO_20; clear HO_122; clear HB; have HO_20 := n0_; have HO_122 := n1_; have HO212 := n2_; have HB := n3_; clear n0_ n1_ n2_ n3_; (try clear hb); (try clear hb2); (try clear hk); (try clear hi); (try clear ho0)) | ((with_reducible refine gate_callee (f := 15) rfl ?_); refine goesL_ (some 135) rfl rfl Try.func15 (by kernel_rfl) rfl #[.string (rdOf ByteArray.empty y202 x124_4)] rfl (by (try simp only [List.map_toArray, List.map_cons, List.map_nil]); first | done | rfl | (simp only [List.length_drop, List.length_take]; rfl)) ?_; (with_reducible refine (humpyardref15_Read.calls k4 (rdOf ByteArray.empty y202 x124_4) t213 t214 _ A57.out).mono ?_); rintro e w66 ⟨v215, rfl, ho0, hb⟩; refine ⟨_, rfl, ?_⟩; have n0_ := Aside0.mk (Kd.S_elder' (by (with_reducible repeat (first | apply Kd.S_alloc | apply Kd.S_drewN | apply Kd.S_drew)); exact HO_20.out) (Kd.S_base ho0) hb); have n1_ := Aside0.mk (Kd.R_below (by (with_reducible repeat (first | apply Kd.R_alloc | apply Kd.R_drewN | apply Kd.R_drew)); exact HO_122.out) hb); have n2_ := Aside0.mk (Kd.S_elder' (by (with_reducible repeat (first | apply Kd.S_alloc | apply Kd.S_drewN | apply Kd.S_drew)); exact HO212.out) (Kd.S_base ho0) hb); have n3_ := Aside0.mk (Kd.S_lower (Kd.S_new' (Kd.S_new' ho0 (Kd.S_lt (by (with_reducible repeat (first | apply Kd.S_alloc | apply Kd.S_drewN | apply Kd.S_drew)); exact HO_20.out))) (Kd.S_lt (by (with_reducible repeat (first | apply Kd.S_alloc | apply Kd.S_drewN | apply Kd.S_drew)); exact HO212.out))) (below_size (by repeat (first | (with_reducible first | exact HB.out | apply below_alloc | apply pw_below_drewN | apply below_drew1) | exact HB.out)))); have n4_ := Aside0.mk (below_step (by repeat (first | (with_reducible first | exact HB.out | apply below_alloc | apply pw_below_drewN | apply below_drew1) | exact HB.out)) hb); clear HO_20; clear HO_122; clear HO212; clear HB; have HO_20 := n0_; have HO_122 := n1_; have HO212 := n2_; have HO216 := n3_; have HB := n4_; clear n0_ n1_ n2_ n3_ n4_; (try clear hb); (try clear hb2); (try clear hk); (try clear hi); (try clear ho0); obtain ⟨Ao67, co67, eo67⟩ := Kd.S_slice HO212.out; subst eo67; obtain ⟨Ao68, co68, eo68⟩ := Kd.S_slice HO216.out; subst eo68) | ((with_reducible refine gate_callee (f := 16) rfl ?_); refine goesL_ (some 140) rfl rfl Try.func16 (by kernel_rfl) rfl #[.slice Ao67 t209.length co67, .slice Ao68 t213.length co68] rfl (by (try simp only [List.map_toArray, List.map_cons, List.map_nil]); first | done | rfl | (simp only [List.length_drop, List.length_take]; rfl)) ?_; (with_reducible refine (humpyardref15_Same.calls k4 _ _ t209 _ _ t213 true _ ?side1 ?side2 ?side3 ?side4 A58.out).mono ?_); (case side1 => repeat (first | exact (Kd.S_reads' HO212.out).2.2 | (with_reducible refine Kd.C_alloc ?_ _) | (with_reducible refine Kd.C_drewN ?_ _) | (with_reducible refine Kd.C_drew ?_))); (case side2 => exact (Kd.S_reads' HO212.out).2.1); (case side3 => repeat (first | exact (Kd.S_reads' HO216.out).2.2 | (with_reducible refine Kd.C_alloc ?_ _) | (with_reducible refine Kd.C_drewN ?_ _) | (with_reducible refine Kd.C_drew ?_))); (case side4 => exact (Kd.S_reads' HO216.out).2.1); rintro e w' ⟨rfl, ⟨nd, rfl⟩⟩; refine ⟨_, rfl, ?_⟩))
                                                go_ret
                                                exact ⟨by first | rfl | (simp [errW_none, errW_some] <;> rfl) | (simp only [← hji39]; first | rfl | (simp [errW_none, errW_some] <;> rfl)) | (simp [*, errW_none, errW_some] <;> rfl), by repeat (first | (with_reducible first | exact HB.out | apply below_alloc | apply pw_below_drewN | apply below_drew1) | exact HB.out)⟩
                                            · replace c59 := Bool.eq_false_iff.mpr c59
                                              subst c59
                                              have H1 : (some false) = some r := by rw [if_neg (show ¬ (false = true) by decide)] at H; exact H
                                              clear H
                                              have H := H1
                                              clear H1
                                              obtain rfl := Option.some.inj H
                                              have p208 : 0 ≤ (x124_4 : Int) := of_decide_eq_true (by first | (with_reducible assumption) | assumption)
                                              have q208 : x124_4 < (y202.length : Int) := of_decide_eq_true (by first | (with_reducible assumption) | assumption)
                                              obtain ⟨ad208, e208, hx208_0⟩ := Kd.at_string (Kd.R_reads' HO_122.out).2.2 x124_4 p208 q208
                                              cases e208
                                              replace p208 := eq_true p208
                                              replace q208 := eq_true q208
                                              go_wp2_with (first | ((with_reducible refine gate_callee (f := 14) rfl ?_); refine goesL_ (some 130) rfl rfl Try.func14 (by kernel_rfl) rfl #[.string (rdOf ByteArray.empty y202 x124_4)] rfl (by (try simp only [List.map_toArray, List.map_cons, List.map_nil]); first | done | rfl | (simp only [List.length_drop, List.length_take]; rfl)) ?_; (with_reducible refine (journal_Read.calls k4 (rdOf ByteArray.empty y202 x124_4) t209 t210 _ A56.out).mono ?_); rintro e w69 ⟨v211, rfl, ho0, hb⟩; refine ⟨_, rfl, ?_⟩; have n0_ := Aside0.mk (Kd.S_elder' (by (with_reducible repeat (first | apply Kd.S_alloc | apply Kd.S_drewN | apply Kd.S_drew)); exact HO_20.out) (Kd.S_base ho0) hb); have n1_ := Aside0.mk (Kd.R_below (by (with_reducible repeat (first | apply Kd.R_alloc | apply Kd.R_drewN | apply Kd.R_drew)); exact HO_122.out) hb); have n2_ := Aside0.mk (Kd.S_lower (Kd.S_new' ho0 (Kd.S_lt (by (with_reducible repeat (first | apply Kd.S_alloc | apply Kd.S_drewN | apply Kd.S_drew)); exact HO_20.out))) (below_size (by repeat (first | (with_reducible first | exact HB.out | apply below_alloc | apply pw_below_drewN | apply below_drew1) | exact HB.out)))); have n3_ := Aside0.mk (below_step (by repeat (first | (with_reducible first | exact HB.out | apply below_alloc | apply pw_below_drewN | apply below_drew1) | exact HB.out)) hb); clear HO_20; clear HO_122; clear HB; have HO_20 := n0_; have HO_122 := n1_; have HO212 := n2_; have HB := n3_; clear n0_ n1_ n2_ n3_; (try clear hb); (try clear hb2); (try clear hk); (try clear hi); (try clear ho0)) | ((with_reducible refine gate_callee (f := 15) rfl ?_); refine goesL_ (some 135) rfl rfl Try.func15 (by kernel_rfl) rfl #[.string (rdOf ByteArray.empty y202 x124_4)] rfl (by (try simp only [List.map_toArray, List.map_cons, List.map_nil]); first | done | rfl | (simp only [List.length_drop, List.length_take]; rfl)) ?_; (with_reducible refine (humpyardref15_Read.calls k4 (rdOf ByteArray.empty y202 x124_4) t213 t214 _ A57.out).mono ?_); rintro e w70 ⟨v215, rfl, ho0, hb⟩; refine ⟨_, rfl, ?_⟩; have n0_ := Aside0.mk (Kd.S_elder' (by (with_reducible repeat (first | apply Kd.S_alloc | apply Kd.S_drewN | apply Kd.S_drew)); exact HO_20.out) (Kd.S_base ho0) hb); have n1_ := Aside0.mk (Kd.R_below (by (with_reducible repeat (first | apply Kd.R_alloc | apply Kd.R_drewN | apply Kd.R_drew)); exact HO_122.out) hb); have n2_ := Aside0.mk (Kd.S_elder' (by (with_reducible repeat (first | apply Kd.S_alloc | apply Kd.S_drewN | apply Kd.S_drew)); exact HO212.out) (Kd.S_base ho0) hb); have n3_ := Aside0.mk (Kd.S_lower (Kd.S_new' (Kd.S_new' ho0 (Kd.S_lt (by (with_reducible repeat (first | apply Kd.S_alloc | apply Kd.S_drewN | apply Kd.S_drew)); exact HO_20.out))) (Kd.S_lt (by (with_reducible repeat (first | apply Kd.S_alloc | apply Kd.S_drewN | apply Kd.S_drew)); exact HO212.out))) (below_size (by repeat (first | (with_reducible first | exact HB.out | apply below_alloc | apply pw_below_drewN | apply below_drew1) | exact HB.out)))); have n4_ := Aside0.mk (below_step (by repeat (first | (with_reducible first | exact HB.out | apply below_alloc | apply pw_below_drewN | apply below_drew1) | exact HB.out)) hb); clear HO_20; clear HO_122; clear HO212; clear HB; have HO_20 := n0_; have HO_122 := n1_; have HO212 := n2_; have HO216 := n3_; have HB := n4_; clear n0_ n1_ n2_ n3_ n4_; (try clear hb); (try clear hb2); (try clear hk); (try clear hi); (try clear ho0); obtain ⟨Ao71, co71, eo71⟩ := Kd.S_slice HO212.out; subst eo71; obtain ⟨Ao72, co72, eo72⟩ := Kd.S_slice HO216.out; subst eo72) | ((with_reducible refine gate_callee (f := 16) rfl ?_); refine goesL_ (some 140) rfl rfl Try.func16 (by kernel_rfl) rfl #[.slice Ao71 t209.length co71, .slice Ao72 t213.length co72] rfl (by (try simp only [List.map_toArray, List.map_cons, List.map_nil]); first | done | rfl | (simp only [List.length_drop, List.length_take]; rfl)) ?_; (with_reducible refine (humpyardref15_Same.calls k4 _ _ t209 _ _ t213 false _ ?side1 ?side2 ?side3 ?side4 A58.out).mono ?_); (case side1 => repeat (first | exact (Kd.S_reads' HO212.out).2.2 | (with_reducible refine Kd.C_alloc ?_ _) | (with_reducible refine Kd.C_drewN ?_ _) | (with_reducible refine Kd.C_drew ?_))); (case side2 => exact (Kd.S_reads' HO212.out).2.1); (case side3 => repeat (first | exact (Kd.S_reads' HO216.out).2.2 | (with_reducible refine Kd.C_alloc ?_ _) | (with_reducible refine Kd.C_drewN ?_ _) | (with_reducible refine Kd.C_drew ?_))); (case side4 => exact (Kd.S_reads' HO216.out).2.1); rintro e w' ⟨rfl, ⟨nd, rfl⟩⟩; refine ⟨_, rfl, ?_⟩))
                                              go_ret
                                              exact ⟨by first | rfl | (simp [errW_none, errW_some] <;> rfl) | (simp only [← hji39]; first | rfl | (simp [errW_none, errW_some] <;> rfl)) | (simp [*, errW_none, errW_some] <;> rfl), by repeat (first | (with_reducible first | exact HB.out | apply below_alloc | apply pw_below_drewN | apply below_drew1) | exact HB.out)⟩
                                          · rw [if_neg c55] at H
                                            exact absurd H (by simp)
                                        · rw [if_neg c54] at H
                                          exact absurd H (by simp)
                                      · rw [if_neg c53] at H
                                        have c53b0 : decide (x124_4 < (y202.length : Int)) = false := decide_eq_false c53
                                        clear c53
                                        by_cases c73 : t188 = true
                                        · subst c73
                                          have H1 : ((journal_Same.f l0 l1).bind fun t205 => ((humpyardref15_Same.f k4 l0 l1).bind fun t206 => (if (t205 == t206) = true then ((journal_Same.f t195 t195).bind fun t207 => (some t207)) else (some false)))) = some r := by rw [if_pos rfl] at H; exact H
                                          clear H
                                          have H := H1
                                          clear H1
                                          replace H := Option.bind_eq_some_iff.mp H
                                          obtain ⟨t205, A740, H⟩ := H
                                          replace H : ((humpyardref15_Same.f k4 l0 l1).bind fun t206 => (if (t205 == t206) = true then ((journal_Same.f t195 t195).bind fun t207 => (some t207)) else (some false))) = some r := H
                                          have A74 := Aside0.mk A740
                                          clear A740
                                          replace H := Option.bind_eq_some_iff.mp H
                                          obtain ⟨t206, A750, H⟩ := H
                                          replace H : (if (t205 == t206) = true then ((journal_Same.f t195 t195).bind fun t207 => (some t207)) else (some false)) = some r := H
                                          have A75 := Aside0.mk A750
                                          clear A750
                                          by_cases c76 : (t205 == t206) = true
                                          · rw [if_pos c76] at H
                                            have c76b0 : (t205 == t206) = true := c76
                                            (try (have c76b1 : decide (t205 = t206) = true := by simpa using c76))
                                            (try (have c76b2 : (t205 == t206) = true := by simpa using c76))
                                            clear c76
                                            replace H := Option.bind_eq_some_iff.mp H
                                            obtain ⟨t207, A770, H⟩ := H
                                            replace H : (some t207) = some r := H
                                            have A77 := Aside0.mk A770
                                            clear A770
                                            obtain rfl := Option.some.inj H
                                            go_wp2_with (first | (go_at_call 17; (with_reducible refine (journal_Same.calls _ _ l0 _ _ l1 t205 _ ?side1 ?side2 ?side3 ?side4 A74.out).mono ?_); (case side1 => repeat (first | exact (Kd.C_below HR0.out HB.out) | (with_reducible refine Kd.C_alloc ?_ _) | (with_reducible refine Kd.C_drewN ?_ _) | (with_reducible refine Kd.C_drew ?_))); (case side2 => exact HC0.out); (case side3 => repeat (first | exact (Kd.C_below HR1.out HB.out) | (with_reducible refine Kd.C_alloc ?_ _) | (with_reducible refine Kd.C_drewN ?_ _) | (with_reducible refine Kd.C_drew ?_))); (case side4 => exact HC1.out); rintro e w78 ⟨rfl, hb⟩; have n0_ := Aside0.mk (Kd.S_below (by (with_reducible repeat (first | apply Kd.S_alloc | apply Kd.S_drewN | apply Kd.S_drew)); exact HO_20.out) hb); have n1_ := Aside0.mk (Kd.R_below (by (with_reducible repeat (first | apply Kd.R_alloc | apply Kd.R_drewN | apply Kd.R_drew)); exact HO_122.out) hb); have n2_ := Aside0.mk (below_step (by repeat (first | (with_reducible first | exact HB.out | apply below_alloc | apply pw_below_drewN | apply below_drew1) | exact HB.out)) hb); clear HO_20; clear HO_122; clear HB; have HO_20 := n0_; have HO_122 := n1_; have HB := n2_; clear n0_ n1_ n2_; (try clear hb); (try clear hb2); (try clear hk); (try clear hi)) | (go_at_call 16; (with_reducible refine (humpyardref15_Same.calls k4 _ _ l0 _ _ l1 t206 _ ?side1 ?side2 ?side3 ?side4 A75.out).mono ?_); (case side1 => repeat (first | exact (Kd.C_below HR0.out HB.out) | (with_reducible refine Kd.C_alloc ?_ _) | (with_reducible refine Kd.C_drewN ?_ _) | (with_reducible refine Kd.C_drew ?_))); (case side2 => exact HC0.out); (case side3 => repeat (first | exact (Kd.C_below HR1.out HB.out) | (with_reducible refine Kd.C_alloc ?_ _) | (with_reducible refine Kd.C_drewN ?_ _) | (with_reducible refine Kd.C_drew ?_))); (case side4 => exact HC1.out); rintro e w' ⟨rfl, ⟨nd, rfl⟩⟩) | (go_at_call 17; (with_reducible refine (journal_Same.calls _ _ t195 _ _ t195 t207 _ ?side1 ?side2 ?side3 ?side4 A77.out).mono ?_); (case side1 => repeat (first | exact (Kd.S_reads' HO_20.out).2.2 | (with_reducible refine Kd.C_alloc ?_ _) | (with_reducible refine Kd.C_drewN ?_ _) | (with_reducible refine Kd.C_drew ?_))); (case side2 => exact (Kd.S_reads' HO_20.out).2.1); (case side3 => repeat (first | exact (Kd.S_reads' HO_20.out).2.2 | (with_reducible refine Kd.C_alloc ?_ _) | (with_reducible refine Kd.C_drewN ?_ _) | (with_reducible refine Kd.C_drew ?_))); (case side4 => exact (Kd.S_reads' HO_20.out).2.1); rintro e w79 ⟨rfl, hb⟩; have n0_ := Aside0.mk (Kd.S_below (by (with_reducible repeat (first | apply Kd.S_alloc | apply Kd.S_drewN | apply Kd.S_drew)); exact HO_20.out) hb); have n1_ := Aside0.mk (Kd.R_below (by (with_reducible repeat (first | apply Kd.R_alloc | apply Kd.R_drewN | apply Kd.R_drew)); exact HO_122.out) hb); have n2_ := Aside0.mk (below_step (by repeat (first | (with_reducible first | exact HB.out | apply below_alloc | apply pw_below_drewN | apply below_drew1) | exact HB.out)) hb); clear HO_20; clear HO_122; clear HB; have HO_20 := n0_; have HO_122 := n1_; have HB := n2_; clear n0_ n1_ n2_; (try clear hb); (try clear hb2); (try clear hk); (try clear hi)))
                                            go_ret
                                            exact ⟨by first | rfl | (simp [errW_none, errW_some] <;> rfl) | (simp only [← hji39]; first | rfl | (simp [errW_none, errW_some] <;> rfl)) | (simp [*, errW_none, errW_some] <;> rfl), by repeat (first | (with_reducible first | exact HB.out | apply below_alloc | apply pw_below_drewN | apply below_drew1) | exact HB.out)⟩
                                          · rw [if_neg c76] at H
                                            have c76b0 : (t205 == t206) = false := by simpa using c76
                                            (try (have c76b1 : decide (t205 = t206) = false := by simpa using c76))
                                            (try (have c76b2 : (t205 == t206) = false := by simpa using c76))
                                            (try (have c76b3 : ¬ (t205 = t206) := by simpa using c76))
                                            clear c76
                                            obtain rfl := Option.some.inj H
                                            go_wp2_with (first | (go_at_call 17; (with_reducible refine (journal_Same.calls _ _ l0 _ _ l1 t205 _ ?side1 ?side2 ?side3 ?side4 A74.out).mono ?_); (case side1 => repeat (first | exact (Kd.C_below HR0.out HB.out) | (with_reducible refine Kd.C_alloc ?_ _) | (with_reducible refine Kd.C_drewN ?_ _) | (with_reducible refine Kd.C_drew ?_))); (case side2 => exact HC0.out); (case side3 => repeat (first | exact (Kd.C_below HR1.out HB.out) | (with_reducible refine Kd.C_alloc ?_ _) | (with_reducible refine Kd.C_drewN ?_ _) | (with_reducible refine Kd.C_drew ?_))); (case side4 => exact HC1.out); rintro e w80 ⟨rfl, hb⟩; have n0_ := Aside0.mk (Kd.S_below (by (with_reducible repeat (first | apply Kd.S_alloc | apply Kd.S_drewN | apply Kd.S_drew)); exact HO_20.out) hb); have n1_ := Aside0.mk (Kd.R_below (by (with_reducible repeat (first | apply Kd.R_alloc | apply Kd.R_drewN | apply Kd.R_drew)); exact HO_122.out) hb); have n2_ := Aside0.mk (below_step (by repeat (first | (with_reducible first | exact HB.out | apply below_alloc | apply pw_below_drewN | apply below_drew1) | exact HB.out)) hb); clear HO_20; clear HO_122; clear HB; have HO_20 := n0_; have HO_122 := n1_; have HB := n2_; clear n0_ n1_ n2_; (try clear hb); (try clear hb2); (try clear hk); (try clear hi)) | (go_at_call 16; (with_reducible refine (humpyardref15_Same.calls k4 _ _ l0 _ _ l1 t206 _ ?side1 ?side2 ?side3 ?side4 A75.out).mono ?_); (case side1 => repeat (first | exact (Kd.C_below HR0.out HB.out) | (with_reducible refine Kd.C_alloc ?_ _) | (with_reducible refine Kd.C_drewN ?_ _) | (with_reducible refine Kd.C_drew ?_))); (case side2 => exact HC0.out); (case side3 => repeat (first | exact (Kd.C_below HR1.out HB.out) | (with_reducible refine Kd.C_alloc ?_ _) | (with_reducible refine Kd.C_drewN ?_ _) | (with_reducible refine Kd.C_drew ?_))); (case side4 => exact HC1.out); rintro e w' ⟨rfl, ⟨nd, rfl⟩⟩))
                                            go_ret
                                            exact ⟨by first | rfl | (simp [errW_none, errW_some] <;> rfl) | (simp only [← hji39]; first | rfl | (simp [errW_none, errW_some] <;> rfl)) | (simp [*, errW_none, errW_some] <;> rfl), by repeat (first | (with_reducible first | exact HB.out | apply below_alloc | apply pw_below_drewN | apply below_drew1) | exact HB.out)⟩
                                        · replace c73 := Bool.eq_false_iff.mpr c73
                                          subst c73
                                          have H1 : (some false) = some r := by rw [if_neg (show ¬ (false = true) by decide)] at H; exact H
                                          clear H
                                          have H := H1
                                          clear H1
                                          obtain rfl := Option.some.inj H
                                          go_wp2
                                          go_ret
                                          exact ⟨by first | rfl | (simp [errW_none, errW_some] <;> rfl) | (simp only [← hji39]; first | rfl | (simp [errW_none, errW_some] <;> rfl)) | (simp [*, errW_none, errW_some] <;> rfl), by repeat (first | (with_reducible first | exact HB.out | apply below_alloc | apply pw_below_drewN | apply below_drew1) | exact HB.out)⟩
                                · rw [if_neg c47] at H
                                  exact absurd H (by simp)
                              · rw [if_neg c42] at H
                                exact absurd H (by simp)
                            · rw [if_neg c41] at H
                              exact absurd H (by simp)
                          · rw [if_neg c40] at H
                            exact absurd H (by simp)
                        · rw [if_neg c38] at H
                          exact absurd H (by simp)
                      · rw [if_neg c35] at H
                        exact absurd H (by simp)
                    · rw [if_neg c34] at H
                      exact absurd H (by simp)
                  · rw [if_neg c33] at H
                    exact absurd H (by simp)

end Go.Proofs.Ythaeecoahbohnaa.PJour
