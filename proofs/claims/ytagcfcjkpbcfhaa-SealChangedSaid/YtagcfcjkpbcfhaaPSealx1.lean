-- Written by a program of this session (a patched copy of the kit's print); not trusted: Lean checks it.
import Derived.Test.YtagcfcjkpbcfhaaPSealx0
namespace Go.Proofs.Ytagcfcjkpbcfhaa.PSeal
open Go.RowKit Go.Proofs.YtagcfcjkpbcfhaaW.PrintWords Go.Proofs.YtagcfcjkpbcfhaaW.PrintLast Go.Proofs.YtagcfcjkpbcfhaaW.PrintMore
attribute [local go_sem] max2_int min2_int max_two min_two max_three min_three max_four min_four   -- for this text's walks alone
set_option linter.unusedVariables false
set_option linter.unusedSimpArgs false

open Go.Proofs.Ytagcfcjkpbcfhaa.Plain
/-! ### seal_Sum: function 16 (by hand) -/
def seal_Sum.f (_k : Nat) (a0 : ByteArray) : Option (Int) := if a0.size ≤ 9223372036854775807 then some (sumOf a0) else none
theorem seal_Sum.mono : ∀ a0 k, LeO (seal_Sum.f k a0) (seal_Sum.f (k + 1) a0) := fun _ _ => LeO.refl _
set_option maxHeartbeats 800000 in
set_option maxRecDepth 100000 in
theorem seal_Sum.calls (k : Nat) (a0 : ByteArray) (r : Int) (w : World) (h : seal_Sum.f k a0 = some r) :
    Calls Try.prog 16 #[.string a0] w fun e w' => e = .returned (.int .u32 r) ∧ Below w.heap.size w w' := by
  unfold seal_Sum.f at h
  by_cases hs : a0.size ≤ 9223372036854775807
  · rw [if_pos hs] at h
    obtain rfl := Option.some.inj h
    clear h
    have kb := fun W => print_bytes (P := Try.prog) 9 33 5 Try.underlying9 Try.underlying33 Try.underlying5 a0 W
    go_enter Try.func16, Try.ntmps16
    go_wp2
    go_loop [3, 9] (fun v3 v9 => ∃ i : Nat, i ≤ a0.size ∧ v9 = .int .i64 i ∧ v3 = .int .u32 (fnv 2166136261 (a0.data.toList.take i))) (fun _ v9 => a0.size - (intOf v9).toNat)
    case atStart => exact ⟨0, Nat.zero_le _, rfl, rfl⟩
    case round =>
      obtain ⟨i, hi, rfl, rfl⟩ := hrel
      by_cases hlt : i < a0.size
      · have hcell := Lib.bytesWorld_cell w 5 a0 i hlt
        have hd : a0.data.toList.length = a0.size := data_length a0
        have hsn : fnv 2166136261 (a0.data.toList.take (i + 1)) = fnvStep (fnv 2166136261 (a0.data.toList.take i)) (a0.data[i]'hlt) := by
          rw [List.take_succ_eq_append_getElem (by omega), fnv_snoc, Array.getElem_toList]
        have HS := Aside0.mk hsn
        clear hsn
        have HD := Aside0.mk hd
        clear hd
        go_wp2
        go_round
        case rel => exact ⟨i + 1, by omega, by go_num, by rw [HS.out, fnvStep]⟩
        case measure => simp [intOf]; omega
      · go_wp2
        go_ret
        obtain rfl : i = a0.size := by omega
        exact ⟨by rw [sumOf, List.take_of_length_le (by rw [data_length]; exact Nat.le_refl _)]; rfl, bytes_below (Below.refl _ _) (Nat.le_refl _) _ _⟩
  · rw [if_neg hs] at h
    exact absurd h (by simp)

-- needs 16
open Go.Proofs.Ytagcfcjkpbcfhaa.Plain
/-! ### seal_Seal: function 15 (by hand) -/
def seal_Seal.f (_k : Nat) (a0 : ByteArray) : Option (ByteArray) := if a0.size + 9 ≤ 9223372036854775807 then some (sealOf a0) else none
theorem seal_Seal.mono : ∀ a0 k, LeO (seal_Seal.f k a0) (seal_Seal.f (k + 1) a0) := fun _ _ => LeO.refl _
set_option maxHeartbeats 800000 in
set_option maxRecDepth 100000 in
theorem seal_Seal.calls (k : Nat) (a0 : ByteArray) (r : ByteArray) (w : World) (h : seal_Seal.f k a0 = some r) :
    Calls Try.prog 15 #[.string a0] w fun e w' => e = .returned (.string r) ∧ Below w.heap.size w w' := by
  unfold seal_Seal.f at h
  by_cases hs : a0.size + 9 ≤ 9223372036854775807
  · rw [if_pos hs] at h
    obtain rfl := Option.some.inj h
    clear h
    have hS : seal_Sum.f 0 a0 = some (sumOf a0) := if_pos (by omega)
    obtain ⟨hr0, hr1⟩ := fnv_range a0.data.toList 2166136261 (by omega) (by omega)
    have HS := Aside0.mk hS
    clear hS
    go_enter Try.func15, Try.ntmps15
    go_wp2_with (go_at_call 16; refine (seal_Sum.calls 0 a0 (sumOf a0) _ HS.out).mono ?_; rintro e w1 ⟨rfl, hb⟩)
    obtain ⟨n, hn⟩ : ∃ n : Nat, sumOf a0 = (n : Int) := ⟨(sumOf a0).toNat, by unfold sumOf; omega⟩
    have hn2 : n < 4294967296 := by have : sumOf a0 < 4294967296 := hr1; omega
    rw [hn]
    have HN := Aside0.mk hn
    clear hn hr0 hr1
    go_loopw [3, 8] (fun v3 v8 wr => ∃ i m : Nat, i ≤ 8 ∧ v8 = .int .i64 i ∧ v3 = .int .u32 (m : Int) ∧ Aside0 (n / 16 ^ i = m) ∧ wr = w1.alloc (.cells (digs n i) 39)) (fun _ v8 _ => 8 - (intOf v8).toNat)
    case atStart => exact ⟨0, n, Nat.zero_le _, rfl, rfl, ⟨by simp⟩, by rw [digs_zero]⟩
    case round =>
      obtain ⟨i, m, hi, rfl, rfl, HM, rfl⟩ := hrel
      by_cases hlt : i < 8
      · have hm2 : m < 4294967296 := by rw [← HM.out]; exact Nat.lt_of_le_of_lt (Nat.div_le_self _ _) hn2
        obtain ⟨d, hd⟩ : ∃ d : Nat, m % 16 = d := ⟨_, rfl⟩
        have hd16 : d < 16 := by omega
        have hand : Go.bits .and .u32 (m : Int) 15 = (d : Int) := by rw [and15 m hm2, hd]
        have HD := Aside0.mk hd
        clear hd
        have h7 : (7 - (i : Int)).toNat = 7 - i := by omega
        obtain ⟨x0, hx0⟩ : ∃ v, (digs n i)[7 - i]? = some v := ⟨_, Array.getElem?_eq_getElem (by rw [digs_size]; omega)⟩
        go_wp2
        exact ⟨⟨i + 1, m / 16, by omega, by go_num, by go_num, ⟨by rw [Nat.pow_succ, ← Nat.div_div_eq_div_mul, HM.out]⟩, by rw [← digs_succ n i hlt, HM.out, HD.out, ← hexDigit_at d hd16]; rfl⟩, by simp [intOf]; omega⟩
      · obtain rfl : i = 8 := by omega
        have hconv : (convert 33 9 (.slice (some ⟨w1.heap.size, 0, none⟩) 8 8)).run Try.prog (w1.alloc (.cells (digs n 8) 39)) = .ok (.string ⟨(hex8 n).toArray⟩) (w1.alloc (.cells (digs n 8) 39)) := by
          refine run_convert_bytes_back (P := Try.prog) _ 33 9 5 ⟨w1.heap.size, 0, none⟩ 8 (hex8 n) Try.underlying33 Try.underlying5 Try.underlying9 ?_
          intro j hj
          have hj8 : j < 8 := by simpa [hex8] using hj
          rw [add_plain, cell_of_row _ _ _ _ _ _ (heap_alloc_new _ _)]
          exact digs_cell n j hj8
        have hl8 : (hex8 n).length = 8 := by simp [hex8]
        have hfin : sealOf a0 = a0 ++ ⟨#[35]⟩ ++ ⟨(hex8 n).toArray⟩ := by
          unfold sealOf
          rw [HN.out, Int.toNat_natCast]
          apply ByteArray.ext
          simp
        have HF := Aside0.mk hfin
        clear hfin
        go_wp2
        go_ret
        exact ⟨by rw [HF.out]; rfl, hb.trans ((Below.refl _ _).alloc hb.size _)⟩
  · rw [if_neg hs] at h
    exact absurd h (by simp)

/-! ### bytealg_LastIndexByteString: function 19 -/
def bytealg_LastIndexByteString.l0 : Nat → ByteArray → Int → Int → Option (Int)
  | 0, _, _, _ => none
  | k + 1, x0, x1, x5 => if x5 ≥ 0 then (if 0 ≤ x5 then (if x5 < (x0.size : Int) then (if (bt x0 x5) = x1 then (some x5) else (bytealg_LastIndexByteString.l0 k x0 x1 (wrap64 (x5 - 1)))) else (none)) else (none)) else (some (-1))
def bytealg_LastIndexByteString.f (k : Nat) (a0 : ByteArray) (a1 : Int) : Option (Int) := bytealg_LastIndexByteString.l0 k a0 a1 (wrap64 ((a0.size : Int) - 1))
theorem bytealg_LastIndexByteString.mono_l : ∀ k, (∀ y0 y1 y2, LeO (bytealg_LastIndexByteString.l0 k y0 y1 y2) (bytealg_LastIndexByteString.l0 (k + 1) y0 y1 y2))
  | 0 => fun _ _ _ r h => by simp [bytealg_LastIndexByteString.l0] at h
  | k + 1 => by
    have ih0 := bytealg_LastIndexByteString.mono_l k
    · intro y0 y1 y2
      unfold bytealg_LastIndexByteString.l0
      repeat' first
      | (with_reducible exact ih0 _ _ _)
      | (with_reducible exact LeO.refl _)
      | (with_reducible exact LeO.none _)
      | (with_reducible refine LeO.ite ?_ ?_)
      | (with_reducible refine LeO.bind ?_ (fun _ => ?_))
      | exact ih0 _ _ _
      | exact LeO.none _
      | refine LeO.ite ?_ ?_
      | refine LeO.bind ?_ (fun _ => ?_)
theorem bytealg_LastIndexByteString.mono : ∀ a0 a1 k, LeO (bytealg_LastIndexByteString.f k a0 a1) (bytealg_LastIndexByteString.f (k + 1) a0 a1) := by
  intro a0 a1 k
  have ih0 := bytealg_LastIndexByteString.mono_l k
  unfold bytealg_LastIndexByteString.f
  repeat' first
      | (with_reducible exact ih0 _ _ _)
      | (with_reducible exact LeO.refl _)
      | (with_reducible exact LeO.none _)
      | (with_reducible refine LeO.ite ?_ ?_)
      | (with_reducible refine LeO.bind ?_ (fun _ => ?_))
      | exact ih0 _ _ _
      | exact LeO.none _
      | refine LeO.ite ?_ ?_
      | refine LeO.bind ?_ (fun _ => ?_)
set_option maxHeartbeats 8000000 in
set_option maxRecDepth 100000 in
theorem bytealg_LastIndexByteString.calls (k : Nat) (a0 : ByteArray) (a1 : Int) (r : Int) (w : World) (h : bytealg_LastIndexByteString.f k a0 a1 = some r) :
    Calls Try.prog 19 #[.string a0, .int .u8 a1] w fun e w' => e = .returned (.int .i64 r) ∧ Drawn0 w w' := by
  have H : (bytealg_LastIndexByteString.l0 k a0 a1 (wrap64 ((a0.size : Int) - 1))) = some r := h
  clear h
  have H' := Aside0.mk H
  clear H
  go_enter Try.func19, Try.ntmps19
  go_wp2
  go_loopg [5] k (fun kq v5 w' => ∃ (x5_1 : Int), v5 = .int .i64 x5_1 ∧ Aside0 (bytealg_LastIndexByteString.l0 kq a0 a1 x5_1 = some r) ∧ Aside0 (kq ≤ k) ∧ Drawn0 w w')
  case atStart => exact ⟨(wrap64 ((a0.size : Int) - 1)), (by first | rfl | (simp; done) | (simp [*]; done)), H', ⟨Nat.le_refl _⟩, by repeat (first | exact Drawn0.refl _ | apply Drawn0.step)⟩
  case round =>
    clear H'
    try clear c1
    try clear p2
    obtain ⟨x5_1, rfl, HA, HK1, ⟨m1, rfl⟩⟩ := hrel
    cases gk with
    | zero => exact absurd HA.out (by simp [bytealg_LastIndexByteString.l0])
    | succ k1 =>
      have H := HA.out
      clear HA
      simp only [bytealg_LastIndexByteString.l0] at H
      by_cases c3 : x5_1 ≥ 0
      · rw [if_pos c3] at H
        have c3b0 : decide (0 ≤ x5_1) = true := decide_eq_true c3
        clear c3
        by_cases c4 : 0 ≤ x5_1
        · rw [if_pos c4] at H
          have c4b0 : decide (0 ≤ x5_1) = true := decide_eq_true c4
          clear c4
          by_cases c5 : x5_1 < (a0.size : Int)
          · rw [if_pos c5] at H
            have c5b0 : decide (x5_1 < (a0.size : Int)) = true := decide_eq_true c5
            clear c5
            by_cases c7 : (bt a0 x5_1) = a1
            · rw [if_pos c7] at H
              have c7b0 : ((bt a0 x5_1) == a1) = true := beq_iff_eq.mpr c7
              have c7b1 : ((bt a0 x5_1) != a1) = false := bne_eq_false_iff_eq.mpr c7
              clear c7
              obtain rfl := Option.some.inj H
              have p6 : 0 ≤ (x5_1 : Int) := of_decide_eq_true (by first | (with_reducible assumption) | assumption)
              have q6 : x5_1 < (a0.size : Int) := of_decide_eq_true (by first | (with_reducible assumption) | assumption)
              have hx6 := bt_at a0 x5_1
              replace p6 := eq_true p6
              replace q6 := eq_true q6
              go_wp2
              go_ret
              exact ⟨by first | rfl | (simp; done) | (simp [*]; done), by repeat (first | exact Drawn0.refl _ | apply Drawn0.step)⟩
            · rw [if_neg c7] at H
              have c7b0 : ((bt a0 x5_1) == a1) = false := beq_eq_false_iff_ne.mpr c7
              have c7b1 : ((bt a0 x5_1) != a1) = true := bne_iff_ne.mpr c7
              have H' := Aside0.mk H
              clear H
              have p6 : 0 ≤ (x5_1 : Int) := of_decide_eq_true (by first | (with_reducible assumption) | assumption)
              have q6 : x5_1 < (a0.size : Int) := of_decide_eq_true (by first | (with_reducible assumption) | assumption)
              have hx6 := bt_at a0 x5_1
              replace p6 := eq_true p6
              replace q6 := eq_true q6
              go_wp2
              go_roundg k1
              case measure => have := HK1.out; omega
              case rel => exact ⟨(wrap64 (x5_1 - 1)), (by first | rfl | (simp; done) | (simp [*]; done)), H', ⟨by have := HK1.out; omega⟩, by repeat (first | exact Drawn0.refl _ | apply Drawn0.step)⟩
          · rw [if_neg c5] at H
            exact absurd H (by simp)
        · rw [if_neg c4] at H
          exact absurd H (by simp)
      · rw [if_neg c3] at H
        have c3b0 : decide (0 ≤ x5_1) = false := decide_eq_false c3
        clear c3
        obtain rfl := Option.some.inj H
        go_wp2
        go_ret
        exact ⟨by first | rfl | (simp; done) | (simp [*]; done), by repeat (first | exact Drawn0.refl _ | apply Drawn0.step)⟩

-- function 21 is not reached where one byte alone is sought

-- function 20 is not reached where one byte alone is sought

/-! ### strings_LastIndex: function 18 (by hand: what is sought is one byte) -/
def strings_LastIndex.f (k : Nat) (a0 : ByteArray) (a1 : ByteArray) : Option (Int) := if a1.size = 1 then bytealg_LastIndexByteString.f k a0 (bt a1 0) else none
theorem strings_LastIndex.mono : ∀ a0 a1 k, LeO (strings_LastIndex.f k a0 a1) (strings_LastIndex.f (k + 1) a0 a1) := fun _ _ _ => LeO.ite (bytealg_LastIndexByteString.mono _ _ _) (LeO.none _)
set_option maxHeartbeats 8000000 in
set_option maxRecDepth 100000 in
theorem strings_LastIndex.calls (k : Nat) (a0 : ByteArray) (a1 : ByteArray) (r : Int) (w : World) (h : strings_LastIndex.f k a0 a1 = some r) :
    Calls Try.prog 18 #[.string a0, .string a1] w fun e w' => e = .returned (.int .i64 r) ∧ Drawn0 w w' := by
  unfold strings_LastIndex.f at h
  by_cases hs : a1.size = 1
  · rw [if_pos hs] at h
    have A7 := Aside0.mk h
    clear h
    have c3b0 : ((a1.size : Int) == 0) = false := beq_eq_false_iff_ne.mpr (by omega)
    have c3b1 : ((a1.size : Int) != 0) = true := bne_iff_ne.mpr (by omega)
    have c4b0 : ((a1.size : Int) == 1) = true := beq_iff_eq.mpr (by omega)
    have c4b1 : ((a1.size : Int) != 1) = false := bne_eq_false_iff_eq.mpr (by omega)
    have c5b0 : decide (0 < (a1.size : Int)) = true := decide_eq_true (by omega)
    have c5b1 : decide (0 < a1.size) = true := decide_eq_true (by omega)
    have q6 : 0 < a1.size := by omega
    have hx6 : ∀ h : 0 < a1.size, ((a1[0]'h).toNat : Int) = bt a1 0 := bt_at a1 0
    have qi6 : (0 < (a1.size : Int)) = True := eq_true (by omega)
    replace q6 := eq_true q6
    clear hs
    go_enter Try.func18, Try.ntmps18
    go_wp2_with (first | ((with_reducible refine gate_callee (f := 19) rfl ?_); refine goesL_ (some 19) rfl rfl Try.func19 (by kernel_rfl) rfl #[.string a0, .int .u8 (bt a1 0)] rfl (by (try simp only [List.map_toArray, List.map_cons, List.map_nil]); first | done | rfl | (simp only [List.length_drop, List.length_take]; rfl)) ?_; (with_reducible refine (bytealg_LastIndexByteString.calls k a0 (bt a1 0) r _ A7.out).mono ?_); rintro e w' ⟨rfl, ⟨nd, rfl⟩⟩; refine ⟨_, rfl, ?_⟩))
    go_ret
    exact ⟨by first | rfl | (simp; done) | (simp [*]; done), by repeat (first | exact Drawn0.refl _ | apply Drawn0.step)⟩
  · rw [if_neg hs] at h
    exact absurd h (by simp)

/-! ### seal_Open: function 13 -/
def seal_Open.f (k : Nat) (a0 : ByteArray) : Option (ByteArray × Int) := (strings_LastIndex.f k a0 (⟨#[35]⟩ : ByteArray)).bind fun t109 => (if t109 < 0 then (some ((⟨#[]⟩ : ByteArray), 60)) else (if 0 ≤ t109 then (if t109 ≤ (a0.size : Int) then ((seal_Seal.f k (a0.extract 0 (t109 : Int).toNat)).bind fun t110 => (if t110.toList = a0.toList then (some (a0.extract 0 (t109 : Int).toNat, 0)) else (some ((⟨#[]⟩ : ByteArray), 60)))) else (none)) else (none)))
theorem seal_Open.mono : ∀ a0 k, LeO (seal_Open.f k a0) (seal_Open.f (k + 1) a0) := by
  intro a0 k
  unfold seal_Open.f
  repeat' first
      | (with_reducible exact seal_Seal.mono _ _)
      | (with_reducible exact strings_LastIndex.mono _ _ _)
      | (with_reducible exact LeO.refl _)
      | (with_reducible exact LeO.none _)
      | (with_reducible refine LeO.ite ?_ ?_)
      | (with_reducible refine LeO.bind ?_ (fun _ => ?_))
      | exact seal_Seal.mono _ _
      | exact strings_LastIndex.mono _ _ _
      | exact LeO.none _
      | refine LeO.ite ?_ ?_
      | refine LeO.bind ?_ (fun _ => ?_)
set_option maxHeartbeats 8000000 in
set_option maxRecDepth 100000 in
theorem seal_Open.calls (k : Nat) (a0 : ByteArray) (r1 : ByteArray) (r2 : Int) (w : World) (h : seal_Open.f k a0 = some (r1, r2)) :
    Calls Try.prog 13 #[.string a0] w fun e w' => e = .returned (.tuple #[.string r1, .int .i64 r2]) ∧ Below w.heap.size w w' := by
  have HB := Aside0.mk (Below.refl w.heap.size w)
  have H : ((strings_LastIndex.f k a0 (⟨#[35]⟩ : ByteArray)).bind fun t109 => (if t109 < 0 then (some ((⟨#[]⟩ : ByteArray), 60)) else (if 0 ≤ t109 then (if t109 ≤ (a0.size : Int) then ((seal_Seal.f k (a0.extract 0 (t109 : Int).toNat)).bind fun t110 => (if t110.toList = a0.toList then (some (a0.extract 0 (t109 : Int).toNat, 0)) else (some ((⟨#[]⟩ : ByteArray), 60)))) else (none)) else (none)))) = some (r1, r2) := h
  clear h
  replace H := Option.bind_eq_some_iff.mp H
  obtain ⟨t109, A20, H⟩ := H
  replace H : (if t109 < 0 then (some ((⟨#[]⟩ : ByteArray), 60)) else (if 0 ≤ t109 then (if t109 ≤ (a0.size : Int) then ((seal_Seal.f k (a0.extract 0 (t109 : Int).toNat)).bind fun t110 => (if t110.toList = a0.toList then (some (a0.extract 0 (t109 : Int).toNat, 0)) else (some ((⟨#[]⟩ : ByteArray), 60)))) else (none)) else (none))) = some (r1, r2) := H
  have A2 := Aside0.mk A20
  clear A20
  by_cases c3 : t109 < 0
  · rw [if_pos c3] at H
    have c3b0 : decide (t109 < 0) = true := decide_eq_true c3
    clear c3
    simp only [Option.some.injEq, Prod.mk.injEq] at H
    obtain ⟨rfl, rfl⟩ := H
    go_enter Try.func13, Try.ntmps13
    go_wp2_with (first | ((with_reducible refine gate_callee (f := 18) rfl ?_); refine goesL_ (some 6) rfl rfl Try.func18 (by kernel_rfl) rfl #[.string a0, .string (⟨#[35]⟩ : ByteArray)] rfl (by (try simp only [List.map_toArray, List.map_cons, List.map_nil]); first | done | rfl | (simp only [List.length_drop, List.length_take]; rfl)) ?_; (with_reducible refine (strings_LastIndex.calls k a0 (⟨#[35]⟩ : ByteArray) t109 _ A2.out).mono ?_); rintro e w' ⟨rfl, ⟨nd, rfl⟩⟩; refine ⟨_, rfl, ?_⟩))
    go_ret2
    exact ⟨by first | rfl | (simp [errW_none, errW_some] <;> rfl) | (simp [*, errW_none, errW_some] <;> rfl), by repeat (first | (with_reducible first | exact HB.out | apply below_alloc | apply pw_below_drewN | apply below_drew1) | exact HB.out)⟩
  · rw [if_neg c3] at H
    have c3b0 : decide (t109 < 0) = false := decide_eq_false c3
    clear c3
    by_cases c4 : 0 ≤ t109
    · rw [if_pos c4] at H
      have c4b0 := eq_true c4
      have c4b1 : decide (0 ≤ t109) = true := decide_eq_true c4
      clear c4
      by_cases c5 : t109 ≤ (a0.size : Int)
      · rw [if_pos c5] at H
        have c5b0 := eq_true c5
        have c5b1 : decide (t109 ≤ (a0.size : Int)) = true := decide_eq_true c5
        clear c5
        replace H := Option.bind_eq_some_iff.mp H
        obtain ⟨t110, A60, H⟩ := H
        replace H : (if t110.toList = a0.toList then (some (a0.extract 0 (t109 : Int).toNat, 0)) else (some ((⟨#[]⟩ : ByteArray), 60))) = some (r1, r2) := H
        have A6 := Aside0.mk A60
        clear A60
        by_cases c7 : t110.toList = a0.toList
        · rw [if_pos c7] at H
          have c7b0 : (t110.toList == a0.toList) = true := beq_iff_eq.mpr c7
          have c7b1 : (t110.toList != a0.toList) = false := bne_eq_false_iff_eq.mpr c7
          clear c7
          have c8b0 := eq_true (of_decide_eq_true (by first | (with_reducible assumption) | assumption) : 0 ≤ t109)
          have c9b0 := eq_true (of_decide_eq_true (by first | (with_reducible assumption) | assumption) : t109 ≤ (a0.size : Int))
          simp only [Option.some.injEq, Prod.mk.injEq] at H
          obtain ⟨rfl, rfl⟩ := H
          go_enter Try.func13, Try.ntmps13
          go_wp2_with (first | ((with_reducible refine gate_callee (f := 18) rfl ?_); refine goesL_ (some 6) rfl rfl Try.func18 (by kernel_rfl) rfl #[.string a0, .string (⟨#[35]⟩ : ByteArray)] rfl (by (try simp only [List.map_toArray, List.map_cons, List.map_nil]); first | done | rfl | (simp only [List.length_drop, List.length_take]; rfl)) ?_; (with_reducible refine (strings_LastIndex.calls k a0 (⟨#[35]⟩ : ByteArray) t109 _ A2.out).mono ?_); rintro e w' ⟨rfl, ⟨nd, rfl⟩⟩; refine ⟨_, rfl, ?_⟩) | (go_at_call 15; (with_reducible refine (seal_Seal.calls k (a0.extract 0 (t109 : Int).toNat) t110 _ A6.out).mono ?_); rintro e w10 ⟨rfl, hb⟩; have n0_ := Aside0.mk (below_step (by repeat (first | (with_reducible first | exact HB.out | apply below_alloc | apply pw_below_drewN | apply below_drew1) | exact HB.out)) hb); clear HB; have HB := n0_; clear n0_; (try clear hb); (try clear hb2); (try clear hk); (try clear hi)))
          go_ret2
          exact ⟨by first | rfl | (simp [errW_none, errW_some] <;> rfl) | (simp [*, errW_none, errW_some] <;> rfl), by repeat (first | (with_reducible first | exact HB.out | apply below_alloc | apply pw_below_drewN | apply below_drew1) | exact HB.out)⟩
        · rw [if_neg c7] at H
          have c7b0 : (t110.toList == a0.toList) = false := beq_eq_false_iff_ne.mpr c7
          have c7b1 : (t110.toList != a0.toList) = true := bne_iff_ne.mpr c7
          simp only [Option.some.injEq, Prod.mk.injEq] at H
          obtain ⟨rfl, rfl⟩ := H
          go_enter Try.func13, Try.ntmps13
          go_wp2_with (first | ((with_reducible refine gate_callee (f := 18) rfl ?_); refine goesL_ (some 6) rfl rfl Try.func18 (by kernel_rfl) rfl #[.string a0, .string (⟨#[35]⟩ : ByteArray)] rfl (by (try simp only [List.map_toArray, List.map_cons, List.map_nil]); first | done | rfl | (simp only [List.length_drop, List.length_take]; rfl)) ?_; (with_reducible refine (strings_LastIndex.calls k a0 (⟨#[35]⟩ : ByteArray) t109 _ A2.out).mono ?_); rintro e w' ⟨rfl, ⟨nd, rfl⟩⟩; refine ⟨_, rfl, ?_⟩) | (go_at_call 15; (with_reducible refine (seal_Seal.calls k (a0.extract 0 (t109 : Int).toNat) t110 _ A6.out).mono ?_); rintro e w11 ⟨rfl, hb⟩; have n0_ := Aside0.mk (below_step (by repeat (first | (with_reducible first | exact HB.out | apply below_alloc | apply pw_below_drewN | apply below_drew1) | exact HB.out)) hb); clear HB; have HB := n0_; clear n0_; (try clear hb); (try clear hb2); (try clear hk); (try clear hi)))
          go_ret2
          exact ⟨by first | rfl | (simp [errW_none, errW_some] <;> rfl) | (simp [*, errW_none, errW_some] <;> rfl), by repeat (first | (with_reducible first | exact HB.out | apply below_alloc | apply pw_below_drewN | apply below_drew1) | exact HB.out)⟩
      · rw [if_neg c5] at H
        exact absurd H (by simp)
    · rw [if_neg c4] at H
      exact absurd H (by simp)

/-! ### humpyardlaw06_awake: function 10 -/
def humpyardlaw06_awake.f (k : Nat)  : Option (Bool) := (seal_Open.f k (⟨#[97, 35, 101, 52, 48, 99, 50, 57, 50, 99]⟩ : ByteArray)).bind fun bt111 => ((seal_Open.f k (⟨#[98, 35, 101, 52, 48, 99, 50, 57, 50, 99]⟩ : ByteArray)).bind fun bt113 => ((seal_Sum.f k (⟨#[]⟩ : ByteArray)).bind fun t115 => (if t115 = 2166136261 then ((seal_Seal.f k (⟨#[97]⟩ : ByteArray)).bind fun t116 => (if t116.toList = ([97, 35, 101, 52, 48, 99, 50, 57, 50, 99] : List UInt8) then (if bt111.1.toList = ([97] : List UInt8) then (if bt111.2 = 0 then (some (bt113.2 == 60)) else (some false)) else (some false)) else (some false))) else (some false))))
theorem humpyardlaw06_awake.mono : ∀ k, LeO (humpyardlaw06_awake.f k ) (humpyardlaw06_awake.f (k + 1) ) := by
  intro  k
  unfold humpyardlaw06_awake.f
  repeat' first
      | (with_reducible exact seal_Open.mono _ _)
      | (with_reducible exact seal_Seal.mono _ _)
      | (with_reducible exact seal_Sum.mono _ _)
      | (with_reducible exact LeO.refl _)
      | (with_reducible exact LeO.none _)
      | (with_reducible refine LeO.ite ?_ ?_)
      | (with_reducible refine LeO.bind ?_ (fun _ => ?_))
      | exact seal_Open.mono _ _
      | exact seal_Seal.mono _ _
      | exact seal_Sum.mono _ _
      | exact LeO.none _
      | refine LeO.ite ?_ ?_
      | refine LeO.bind ?_ (fun _ => ?_)
set_option maxHeartbeats 8000000 in
set_option maxRecDepth 100000 in
theorem humpyardlaw06_awake.calls (k : Nat)  (r : Bool) (w : World) (h : humpyardlaw06_awake.f k  = some r) :
    Calls Try.prog 10 #[] w fun e w' => e = .returned (.bool r) ∧ Below w.heap.size w w' := by
  have HB := Aside0.mk (Below.refl w.heap.size w)
  have H : ((seal_Open.f k (⟨#[97, 35, 101, 52, 48, 99, 50, 57, 50, 99]⟩ : ByteArray)).bind fun bt111 => ((seal_Open.f k (⟨#[98, 35, 101, 52, 48, 99, 50, 57, 50, 99]⟩ : ByteArray)).bind fun bt113 => ((seal_Sum.f k (⟨#[]⟩ : ByteArray)).bind fun t115 => (if t115 = 2166136261 then ((seal_Seal.f k (⟨#[97]⟩ : ByteArray)).bind fun t116 => (if t116.toList = ([97, 35, 101, 52, 48, 99, 50, 57, 50, 99] : List UInt8) then (if bt111.1.toList = ([97] : List UInt8) then (if bt111.2 = 0 then (some (bt113.2 == 60)) else (some false)) else (some false)) else (some false))) else (some false))))) = some r := h
  clear h
  replace H := Option.bind_eq_some_iff.mp H
  obtain ⟨⟨t111, t112⟩, A10, H⟩ := H
  replace H : ((seal_Open.f k (⟨#[98, 35, 101, 52, 48, 99, 50, 57, 50, 99]⟩ : ByteArray)).bind fun bt113 => ((seal_Sum.f k (⟨#[]⟩ : ByteArray)).bind fun t115 => (if t115 = 2166136261 then ((seal_Seal.f k (⟨#[97]⟩ : ByteArray)).bind fun t116 => (if t116.toList = ([97, 35, 101, 52, 48, 99, 50, 57, 50, 99] : List UInt8) then (if t111.toList = ([97] : List UInt8) then (if t112 = 0 then (some (bt113.2 == 60)) else (some false)) else (some false)) else (some false))) else (some false)))) = some r := H
  have A1 := Aside0.mk A10
  clear A10
  replace H := Option.bind_eq_some_iff.mp H
  obtain ⟨⟨t113, t114⟩, A20, H⟩ := H
  replace H : ((seal_Sum.f k (⟨#[]⟩ : ByteArray)).bind fun t115 => (if t115 = 2166136261 then ((seal_Seal.f k (⟨#[97]⟩ : ByteArray)).bind fun t116 => (if t116.toList = ([97, 35, 101, 52, 48, 99, 50, 57, 50, 99] : List UInt8) then (if t111.toList = ([97] : List UInt8) then (if t112 = 0 then (some (t114 == 60)) else (some false)) else (some false)) else (some false))) else (some false))) = some r := H
  have A2 := Aside0.mk A20
  clear A20
  replace H := Option.bind_eq_some_iff.mp H
  obtain ⟨t115, A30, H⟩ := H
  replace H : (if t115 = 2166136261 then ((seal_Seal.f k (⟨#[97]⟩ : ByteArray)).bind fun t116 => (if t116.toList = ([97, 35, 101, 52, 48, 99, 50, 57, 50, 99] : List UInt8) then (if t111.toList = ([97] : List UInt8) then (if t112 = 0 then (some (t114 == 60)) else (some false)) else (some false)) else (some false))) else (some false)) = some r := H
  have A3 := Aside0.mk A30
  clear A30
  by_cases c4 : t115 = 2166136261
  · rw [if_pos c4] at H
    have c4b0 : (t115 == 2166136261) = true := beq_iff_eq.mpr c4
    have c4b1 : (t115 != 2166136261) = false := bne_eq_false_iff_eq.mpr c4
    clear c4
    replace H := Option.bind_eq_some_iff.mp H
    obtain ⟨t116, A50, H⟩ := H
    replace H : (if t116.toList = ([97, 35, 101, 52, 48, 99, 50, 57, 50, 99] : List UInt8) then (if t111.toList = ([97] : List UInt8) then (if t112 = 0 then (some (t114 == 60)) else (some false)) else (some false)) else (some false)) = some r := H
    have A5 := Aside0.mk A50
    clear A50
    by_cases c6 : t116.toList = ([97, 35, 101, 52, 48, 99, 50, 57, 50, 99] : List UInt8)
    · rw [if_pos c6] at H
      have c6b0 : (t116.toList == ([97, 35, 101, 52, 48, 99, 50, 57, 50, 99] : List UInt8)) = true := beq_iff_eq.mpr c6
      have c6b1 : (t116.toList != ([97, 35, 101, 52, 48, 99, 50, 57, 50, 99] : List UInt8)) = false := bne_eq_false_iff_eq.mpr c6
      clear c6
      by_cases c7 : t111.toList = ([97] : List UInt8)
      · rw [if_pos c7] at H
        have c7b0 : (t111.toList == ([97] : List UInt8)) = true := beq_iff_eq.mpr c7
        have c7b1 : (t111.toList != ([97] : List UInt8)) = false := bne_eq_false_iff_eq.mpr c7
        clear c7
        by_cases c8 : t112 = 0
        · rw [if_pos c8] at H
          have c8b0 : (t112 == 0) = true := beq_iff_eq.mpr c8
          have c8b1 : (t112 != 0) = false := bne_eq_false_iff_eq.mpr c8
          clear c8
          obtain rfl := Option.some.inj H
          go_enter Try.func10, Try.ntmps10
          go_wp2_with (first | ((with_reducible refine gate_callee (f := 13) rfl ?_); refine goesL_ (some 6) rfl rfl Try.func13 (by kernel_rfl) rfl #[.string (⟨#[97, 35, 101, 52, 48, 99, 50, 57, 50, 99]⟩ : ByteArray)] rfl (by (try simp only [List.map_toArray, List.map_cons, List.map_nil]); first | done | rfl | (simp only [List.length_drop, List.length_take]; rfl)) ?_; (with_reducible refine (seal_Open.calls k (⟨#[97, 35, 101, 52, 48, 99, 50, 57, 50, 99]⟩ : ByteArray) t111 t112 _ A1.out).mono ?_); rintro e w9 ⟨rfl, hb⟩; refine ⟨_, rfl, ?_⟩; have n0_ := Aside0.mk (below_step (by repeat (first | (with_reducible first | exact HB.out | apply below_alloc | apply pw_below_drewN | apply below_drew1) | exact HB.out)) hb); clear HB; have HB := n0_; clear n0_; (try clear hb); (try clear hb2); (try clear hk); (try clear hi)) | ((with_reducible refine gate_callee (f := 13) rfl ?_); refine goesL_ (some 10) rfl rfl Try.func13 (by kernel_rfl) rfl #[.string (⟨#[98, 35, 101, 52, 48, 99, 50, 57, 50, 99]⟩ : ByteArray)] rfl (by (try simp only [List.map_toArray, List.map_cons, List.map_nil]); first | done | rfl | (simp only [List.length_drop, List.length_take]; rfl)) ?_; (with_reducible refine (seal_Open.calls k (⟨#[98, 35, 101, 52, 48, 99, 50, 57, 50, 99]⟩ : ByteArray) t113 t114 _ A2.out).mono ?_); rintro e w10 ⟨rfl, hb⟩; refine ⟨_, rfl, ?_⟩; have n0_ := Aside0.mk (below_step (by repeat (first | (with_reducible first | exact HB.out | apply below_alloc | apply pw_below_drewN | apply below_drew1) | exact HB.out)) hb); clear HB; have HB := n0_; clear n0_; (try clear hb); (try clear hb2); (try clear hk); (try clear hi)) | ((with_reducible refine gate_callee (f := 16) rfl ?_); refine goesL_ (some 13) rfl rfl Try.func16 (by kernel_rfl) rfl #[.string (⟨#[]⟩ : ByteArray)] rfl (by (try simp only [List.map_toArray, List.map_cons, List.map_nil]); first | done | rfl | (simp only [List.length_drop, List.length_take]; rfl)) ?_; (with_reducible refine (seal_Sum.calls k (⟨#[]⟩ : ByteArray) t115 _ A3.out).mono ?_); rintro e w11 ⟨rfl, hb⟩; refine ⟨_, rfl, ?_⟩; have n0_ := Aside0.mk (below_step (by repeat (first | (with_reducible first | exact HB.out | apply below_alloc | apply pw_below_drewN | apply below_drew1) | exact HB.out)) hb); clear HB; have HB := n0_; clear n0_; (try clear hb); (try clear hb2); (try clear hk); (try clear hi)) | (go_at_call 15; (with_reducible refine (seal_Seal.calls k (⟨#[97]⟩ : ByteArray) t116 _ A5.out).mono ?_); rintro e w12 ⟨rfl, hb⟩; have n0_ := Aside0.mk (below_step (by repeat (first | (with_reducible first | exact HB.out | apply below_alloc | apply pw_below_drewN | apply below_drew1) | exact HB.out)) hb); clear HB; have HB := n0_; clear n0_; (try clear hb); (try clear hb2); (try clear hk); (try clear hi)))
          go_ret
          exact ⟨by first | rfl | (simp [errW_none, errW_some] <;> rfl) | (simp [*, errW_none, errW_some] <;> rfl), by repeat (first | (with_reducible first | exact HB.out | apply below_alloc | apply pw_below_drewN | apply below_drew1) | exact HB.out)⟩
        · rw [if_neg c8] at H
          have c8b0 : (t112 == 0) = false := beq_eq_false_iff_ne.mpr c8
          have c8b1 : (t112 != 0) = true := bne_iff_ne.mpr c8
          obtain rfl := Option.some.inj H
          go_enter Try.func10, Try.ntmps10
          go_wp2_with (first | ((with_reducible refine gate_callee (f := 13) rfl ?_); refine goesL_ (some 6) rfl rfl Try.func13 (by kernel_rfl) rfl #[.string (⟨#[97, 35, 101, 52, 48, 99, 50, 57, 50, 99]⟩ : ByteArray)] rfl (by (try simp only [List.map_toArray, List.map_cons, List.map_nil]); first | done | rfl | (simp only [List.length_drop, List.length_take]; rfl)) ?_; (with_reducible refine (seal_Open.calls k (⟨#[97, 35, 101, 52, 48, 99, 50, 57, 50, 99]⟩ : ByteArray) t111 t112 _ A1.out).mono ?_); rintro e w13 ⟨rfl, hb⟩; refine ⟨_, rfl, ?_⟩; have n0_ := Aside0.mk (below_step (by repeat (first | (with_reducible first | exact HB.out | apply below_alloc | apply pw_below_drewN | apply below_drew1) | exact HB.out)) hb); clear HB; have HB := n0_; clear n0_; (try clear hb); (try clear hb2); (try clear hk); (try clear hi)) | ((with_reducible refine gate_callee (f := 13) rfl ?_); refine goesL_ (some 10) rfl rfl Try.func13 (by kernel_rfl) rfl #[.string (⟨#[98, 35, 101, 52, 48, 99, 50, 57, 50, 99]⟩ : ByteArray)] rfl (by (try simp only [List.map_toArray, List.map_cons, List.map_nil]); first | done | rfl | (simp only [List.length_drop, List.length_take]; rfl)) ?_; (with_reducible refine (seal_Open.calls k (⟨#[98, 35, 101, 52, 48, 99, 50, 57, 50, 99]⟩ : ByteArray) t113 t114 _ A2.out).mono ?_); rintro e w14 ⟨rfl, hb⟩; refine ⟨_, rfl, ?_⟩; have n0_ := Aside0.mk (below_step (by repeat (first | (with_reducible first | exact HB.out | apply below_alloc | apply pw_below_drewN | apply below_drew1) | exact HB.out)) hb); clear HB; have HB := n0_; clear n0_; (try clear hb); (try clear hb2); (try clear hk); (try clear hi)) | ((with_reducible refine gate_callee (f := 16) rfl ?_); refine goesL_ (some 13) rfl rfl Try.func16 (by kernel_rfl) rfl #[.string (⟨#[]⟩ : ByteArray)] rfl (by (try simp only [List.map_toArray, List.map_cons, List.map_nil]); first | done | rfl | (simp only [List.length_drop, List.length_take]; rfl)) ?_; (with_reducible refine (seal_Sum.calls k (⟨#[]⟩ : ByteArray) t115 _ A3.out).mono ?_); rintro e w15 ⟨rfl, hb⟩; refine ⟨_, rfl, ?_⟩; have n0_ := Aside0.mk (below_step (by repeat (first | (with_reducible first | exact HB.out | apply below_alloc | apply pw_below_drewN | apply below_drew1) | exact HB.out)) hb); clear HB; have HB := n0_; clear n0_; (try clear hb); (try clear hb2); (try clear hk); (try clear hi)) | (go_at_call 15; (with_reducible refine (seal_Seal.calls k (⟨#[97]⟩ : ByteArray) t116 _ A5.out).mono ?_); rintro e w16 ⟨rfl, hb⟩; have n0_ := Aside0.mk (below_step (by repeat (first | (with_reducible first | exact HB.out | apply below_alloc | apply pw_below_drewN | apply below_drew1) | exact HB.out)) hb); clear HB; have HB := n0_; clear n0_; (try clear hb); (try clear hb2); (try clear hk); (try clear hi)))
          go_ret
          exact ⟨by first | rfl | (simp [errW_none, errW_some] <;> rfl) | (simp [*, errW_none, errW_some] <;> rfl), by repeat (first | (with_reducible first | exact HB.out | apply below_alloc | apply pw_below_drewN | apply below_drew1) | exact HB.out)⟩
      · rw [if_neg c7] at H
        have c7b0 : (t111.toList == ([97] : List UInt8)) = false := beq_eq_false_iff_ne.mpr c7
        have c7b1 : (t111.toList != ([97] : List UInt8)) = true := bne_iff_ne.mpr c7
        obtain rfl := Option.some.inj H
        go_enter Try.func10, Try.ntmps10
        go_wp2_with (first | ((with_reducible refine gate_callee (f := 13) rfl ?_); refine goesL_ (some 6) rfl rfl Try.func13 (by kernel_rfl) rfl #[.string (⟨#[97, 35, 101, 52, 48, 99, 50, 57, 50, 99]⟩ : ByteArray)] rfl (by (try simp only [List.map_toArray, List.map_cons, List.map_nil]); first | done | rfl | (simp only [List.length_drop, List.length_take]; rfl)) ?_; (with_reducible refine (seal_Open.calls k (⟨#[97, 35, 101, 52, 48, 99, 50, 57, 50, 99]⟩ : ByteArray) t111 t112 _ A1.out).mono ?_); rintro e w17 ⟨rfl, hb⟩; refine ⟨_, rfl, ?_⟩; have n0_ := Aside0.mk (below_step (by repeat (first | (with_reducible first | exact HB.out | apply below_alloc | apply pw_below_drewN | apply below_drew1) | exact HB.out)) hb); clear HB; have HB := n0_; clear n0_; (try clear hb); (try clear hb2); (try clear hk); (try clear hi)) | ((with_reducible refine gate_callee (f := 13) rfl ?_); refine goesL_ (some 10) rfl rfl Try.func13 (by kernel_rfl) rfl #[.string (⟨#[98, 35, 101, 52, 48, 99, 50, 57, 50, 99]⟩ : ByteArray)] rfl (by (try simp only [List.map_toArray, List.map_cons, List.map_nil]); first | done | rfl | (simp only [List.length_drop, List.length_take]; rfl)) ?_; (with_reducible refine (seal_Open.calls k (⟨#[98, 35, 101, 52, 48, 99, 50, 57, 50, 99]⟩ : ByteArray) t113 t114 _ A2.out).mono ?_); rintro e w18 ⟨rfl, hb⟩; refine ⟨_, rfl, ?_⟩; have n0_ := Aside0.mk (below_step (by repeat (first | (with_reducible first | exact HB.out | apply below_alloc | apply pw_below_drewN | apply below_drew1) | exact HB.out)) hb); clear HB; have HB := n0_; clear n0_; (try clear hb); (try clear hb2); (try clear hk); (try clear hi)) | ((with_reducible refine gate_callee (f := 16) rfl ?_); refine goesL_ (some 13) rfl rfl Try.func16 (by kernel_rfl) rfl #[.string (⟨#[]⟩ : ByteArray)] rfl (by (try simp only [List.map_toArray, List.map_cons, List.map_nil]); first | done | rfl | (simp only [List.length_drop, List.length_take]; rfl)) ?_; (with_reducible refine (seal_Sum.calls k (⟨#[]⟩ : ByteArray) t115 _ A3.out).mono ?_); rintro e w19 ⟨rfl, hb⟩; refine ⟨_, rfl, ?_⟩; have n0_ := Aside0.mk (below_step (by repeat (first | (with_reducible first | exact HB.out | apply below_alloc | apply pw_below_drewN | apply below_drew1) | exact HB.out)) hb); clear HB; have HB := n0_; clear n0_; (try clear hb); (try clear hb2); (try clear hk); (try clear hi)) | (go_at_call 15; (with_reducible refine (seal_Seal.calls k (⟨#[97]⟩ : ByteArray) t116 _ A5.out).mono ?_); rintro e w20 ⟨rfl, hb⟩; have n0_ := Aside0.mk (below_step (by repeat (first | (with_reducible first | exact HB.out | apply below_alloc | apply pw_below_drewN | apply below_drew1) | exact HB.out)) hb); clear HB; have HB := n0_; clear n0_; (try clear hb); (try clear hb2); (try clear hk); (try clear hi)))
        go_ret
        exact ⟨by first | rfl | (simp [errW_none, errW_some] <;> rfl) | (simp [*, errW_none, errW_some] <;> rfl), by repeat (first | (with_reducible first | exact HB.out | apply below_alloc | apply pw_below_drewN | apply below_drew1) | exact HB.out)⟩
    · rw [if_neg c6] at H
      have c6b0 : (t116.toList == ([97, 35, 101, 52, 48, 99, 50, 57, 50, 99] : List UInt8)) = false := beq_eq_false_iff_ne.mpr c6
      have c6b1 : (t116.toList != ([97, 35, 101, 52, 48, 99, 50, 57, 50, 99] : List UInt8)) = true := bne_iff_ne.mpr c6
      obtain rfl := Option.some.inj H
      go_enter Try.func10, Try.ntmps10
      go_wp2_with (first | ((with_reducible refine gate_callee (f := 13) rfl ?_); refine goesL_ (some 6) rfl rfl Try.func13 (by kernel_rfl) rfl #[.string (⟨#[97, 35, 101, 52, 48, 99, 50, 57, 50, 99]⟩ : ByteArray)] rfl (by (try simp only [List.map_toArray, List.map_cons, List.map_nil]); first | done | rfl | (simp only [List.length_drop, List.length_take]; rfl)) ?_; (with_reducible refine (seal_Open.calls k (⟨#[97, 35, 101, 52, 48, 99, 50, 57, 50, 99]⟩ : ByteArray) t111 t112 _ A1.out).mono ?_); rintro e w21 ⟨rfl, hb⟩; refine ⟨_, rfl, ?_⟩; have n0_ := Aside0.mk (below_step (by repeat (first | (with_reducible first | exact HB.out | apply below_alloc | apply pw_below_drewN | apply below_drew1) | exact HB.out)) hb); clear HB; have HB := n0_; clear n0_; (try clear hb); (try clear hb2); (try clear hk); (try clear hi)) | ((with_reducible refine gate_callee (f := 13) rfl ?_); refine goesL_ (some 10) rfl rfl Try.func13 (by kernel_rfl) rfl #[.string (⟨#[98, 35, 101, 52, 48, 99, 50, 57, 50, 99]⟩ : ByteArray)] rfl (by (try simp only [List.map_toArray, List.map_cons, List.map_nil]); first | done | rfl | (simp only [List.length_drop, List.length_take]; rfl)) ?_; (with_reducible refine (seal_Open.calls k (⟨#[98, 35, 101, 52, 48, 99, 50, 57, 50, 99]⟩ : ByteArray) t113 t114 _ A2.out).mono ?_); rintro e w22 ⟨rfl, hb⟩; refine ⟨_, rfl, ?_⟩; have n0_ := Aside0.mk (below_step (by repeat (first | (with_reducible first | exact HB.out | apply below_alloc | apply pw_below_drewN | apply below_drew1) | exact HB.out)) hb); clear HB; have HB := n0_; clear n0_; (try clear hb); (try clear hb2); (try clear hk); (try clear hi)) | ((with_reducible refine gate_callee (f := 16) rfl ?_); refine goesL_ (some 13) rfl rfl Try.func16 (by kernel_rfl) rfl #[.string (⟨#[]⟩ : ByteArray)] rfl (by (try simp only [List.map_toArray, List.map_cons, List.map_nil]); first | done | rfl | (simp only [List.length_drop, List.length_take]; rfl)) ?_; (with_reducible refine (seal_Sum.calls k (⟨#[]⟩ : ByteArray) t115 _ A3.out).mono ?_); rintro e w23 ⟨rfl, hb⟩; refine ⟨_, rfl, ?_⟩; have n0_ := Aside0.mk (below_step (by repeat (first | (with_reducible first | exact HB.out | apply below_alloc | apply pw_below_drewN | apply below_drew1) | exact HB.out)) hb); clear HB; have HB := n0_; clear n0_; (try clear hb); (try clear hb2); (try clear hk); (try clear hi)) | (go_at_call 15; (with_reducible refine (seal_Seal.calls k (⟨#[97]⟩ : ByteArray) t116 _ A5.out).mono ?_); rintro e w24 ⟨rfl, hb⟩; have n0_ := Aside0.mk (below_step (by repeat (first | (with_reducible first | exact HB.out | apply below_alloc | apply pw_below_drewN | apply below_drew1) | exact HB.out)) hb); clear HB; have HB := n0_; clear n0_; (try clear hb); (try clear hb2); (try clear hk); (try clear hi)))
      go_ret
      exact ⟨by first | rfl | (simp [errW_none, errW_some] <;> rfl) | (simp [*, errW_none, errW_some] <;> rfl), by repeat (first | (with_reducible first | exact HB.out | apply below_alloc | apply pw_below_drewN | apply below_drew1) | exact HB.out)⟩
  · rw [if_neg c4] at H
    have c4b0 : (t115 == 2166136261) = false := beq_eq_false_iff_ne.mpr c4
    have c4b1 : (t115 != 2166136261) = true := bne_iff_ne.mpr c4
    obtain rfl := Option.some.inj H
    go_enter Try.func10, Try.ntmps10
    go_wp2_with (first | ((with_reducible refine gate_callee (f := 13) rfl ?_); refine goesL_ (some 6) rfl rfl Try.func13 (by kernel_rfl) rfl #[.string (⟨#[97, 35, 101, 52, 48, 99, 50, 57, 50, 99]⟩ : ByteArray)] rfl (by (try simp only [List.map_toArray, List.map_cons, List.map_nil]); first | done | rfl | (simp only [List.length_drop, List.length_take]; rfl)) ?_; (with_reducible refine (seal_Open.calls k (⟨#[97, 35, 101, 52, 48, 99, 50, 57, 50, 99]⟩ : ByteArray) t111 t112 _ A1.out).mono ?_); rintro e w25 ⟨rfl, hb⟩; refine ⟨_, rfl, ?_⟩; have n0_ := Aside0.mk (below_step (by repeat (first | (with_reducible first | exact HB.out | apply below_alloc | apply pw_below_drewN | apply below_drew1) | exact HB.out)) hb); clear HB; have HB := n0_; clear n0_; (try clear hb); (try clear hb2); (try clear hk); (try clear hi)) | ((with_reducible refine gate_callee (f := 13) rfl ?_); refine goesL_ (some 10) rfl rfl Try.func13 (by kernel_rfl) rfl #[.string (⟨#[98, 35, 101, 52, 48, 99, 50, 57, 50, 99]⟩ : ByteArray)] rfl (by (try simp only [List.map_toArray, List.map_cons, List.map_nil]); first | done | rfl | (simp only [List.length_drop, List.length_take]; rfl)) ?_; (with_reducible refine (seal_Open.calls k (⟨#[98, 35, 101, 52, 48, 99, 50, 57, 50, 99]⟩ : ByteArray) t113 t114 _ A2.out).mono ?_); rintro e w26 ⟨rfl, hb⟩; refine ⟨_, rfl, ?_⟩; have n0_ := Aside0.mk (below_step (by repeat (first | (with_reducible first | exact HB.out | apply below_alloc | apply pw_below_drewN | apply below_drew1) | exact HB.out)) hb); clear HB; have HB := n0_; clear n0_; (try clear hb); (try clear hb2); (try clear hk); (try clear hi)) | ((with_reducible refine gate_callee (f := 16) rfl ?_); refine goesL_ (some 13) rfl rfl Try.func16 (by kernel_rfl) rfl #[.string (⟨#[]⟩ : ByteArray)] rfl (by (try simp only [List.map_toArray, List.map_cons, List.map_nil]); first | done | rfl | (simp only [List.length_drop, List.length_take]; rfl)) ?_; (with_reducible refine (seal_Sum.calls k (⟨#[]⟩ : ByteArray) t115 _ A3.out).mono ?_); rintro e w27 ⟨rfl, hb⟩; refine ⟨_, rfl, ?_⟩; have n0_ := Aside0.mk (below_step (by repeat (first | (with_reducible first | exact HB.out | apply below_alloc | apply pw_below_drewN | apply below_drew1) | exact HB.out)) hb); clear HB; have HB := n0_; clear n0_; (try clear hb); (try clear hb2); (try clear hk); (try clear hi)))
    go_ret
    exact ⟨by first | rfl | (simp [errW_none, errW_some] <;> rfl) | (simp [*, errW_none, errW_some] <;> rfl), by repeat (first | (with_reducible first | exact HB.out | apply below_alloc | apply pw_below_drewN | apply below_drew1) | exact HB.out)⟩

/-! ### humpyardref06_Sum: function 17 (by hand: a closed word in the place of a loop with rounds) -/
open Go.Proofs.Ytagcfcjkpbcfhaa.Plain
def humpyardref06_Sum.f (_k : Nat) (a0 : ByteArray) : Option (Int) := if a0.size ≤ 9223372036854775807 then some (sumOf a0) else none
theorem humpyardref06_Sum.mono : ∀ a0 k, LeO (humpyardref06_Sum.f k a0) (humpyardref06_Sum.f (k + 1) a0) := fun _ _ => LeO.refl _
set_option maxHeartbeats 800000 in
set_option maxRecDepth 100000 in
theorem humpyardref06_Sum.calls (k : Nat) (a0 : ByteArray) (r : Int) (w : World) (h : humpyardref06_Sum.f k a0 = some r) :
    Calls Try.prog 17 #[.string a0] w fun e w' => e = .returned (.int .u32 r) ∧ Drawn0 w w' := by
  unfold humpyardref06_Sum.f at h
  by_cases hs : a0.size ≤ 9223372036854775807
  · rw [if_pos hs] at h
    obtain rfl := Option.some.inj h
    clear h
    go_enter Try.func17, Try.ntmps17
    go_wp2
    go_loop [3, 4] (fun v3 v4 => ∃ i : Nat, i ≤ a0.size ∧ v4 = .int .i64 i ∧ v3 = .int .u32 (fnv 2166136261 (a0.data.toList.take i))) (fun _ v4 => a0.size - (intOf v4).toNat)
    case atStart => exact ⟨0, Nat.zero_le _, rfl, rfl⟩
    case round =>
      obtain ⟨i, hi, rfl, rfl⟩ := hrel
      by_cases hlt : i < a0.size
      · have hd : a0.data.toList.length = a0.size := data_length a0
        have hsn : fnv 2166136261 (a0.data.toList.take (i + 1)) = fnvStep (fnv 2166136261 (a0.data.toList.take i)) (a0.data[i]'hlt) := by
          rw [List.take_succ_eq_append_getElem (by omega), fnv_snoc, Array.getElem_toList]
        have HS := Aside0.mk hsn
        clear hsn
        have HD := Aside0.mk hd
        clear hd
        go_wp2
        go_round
        case rel => exact ⟨i + 1, by omega, by go_num, by rw [HS.out, fnvStep]; rfl⟩
        case measure => simp [intOf]; omega
      · go_wp2
        go_ret
        obtain rfl : i = a0.size := by omega
        exact ⟨by rw [sumOf, List.take_of_length_le (by rw [data_length]; exact Nat.le_refl _)]; rfl, Drawn0.refl _⟩
  · rw [if_neg hs] at h
    exact absurd h (by simp)

/-! ### humpyardref06_Seal: function 11 -/
def humpyardref06_Seal.l0 : Nat → Int → ByteArray → Int → Option (ByteArray)
  | 0, _, _, _ => none
  | k + 1, x3, x4, x5 => if x5 ≥ 0 then (if 0 ≤ x5 then (if 0 ≤ (Go.bits .and .u32 (shr .u32 x3 x5) 15) then (if (Go.bits .and .u32 (shr .u32 x3 x5) 15) < 16 then ((some (([bt (⟨#[48, 49, 50, 51, 52, 53, 54, 55, 56, 57, 97, 98, 99, 100, 101, 102]⟩ : ByteArray) (Go.bits .and .u32 (shr .u32 x3 x5) 15)] : List Int) : List Int)).bind fun y118 => (if x4.size + (strOfNums y118).size ≤ 9223372036854775807 then (humpyardref06_Seal.l0 k x3 (x4 ++ (strOfNums y118)) (wrap64 (x5 - 4))) else (none))) else (none)) else (none)) else (none)) else (some x4)
def humpyardref06_Seal.f (k : Nat) (a0 : ByteArray) : Option (ByteArray) := (humpyardref06_Sum.f k a0).bind fun t117 => (if a0.size + 1 ≤ 9223372036854775807 then (humpyardref06_Seal.l0 k t117 (a0 ++ (⟨#[35]⟩ : ByteArray)) 28) else (none))
theorem humpyardref06_Seal.mono_l : ∀ k, (∀ y0 y1 y2, LeO (humpyardref06_Seal.l0 k y0 y1 y2) (humpyardref06_Seal.l0 (k + 1) y0 y1 y2))
  | 0 => fun _ _ _ r h => by simp [humpyardref06_Seal.l0] at h
  | k + 1 => by
    have ih0 := humpyardref06_Seal.mono_l k
    · intro y0 y1 y2
      unfold humpyardref06_Seal.l0
      repeat' first
      | (with_reducible exact ih0 _ _ _)
      | (with_reducible exact humpyardref06_Sum.mono _ _)
      | (with_reducible exact LeO.refl _)
      | (with_reducible exact LeO.none _)
      | (with_reducible refine LeO.ite ?_ ?_)
      | (with_reducible refine LeO.bind ?_ (fun _ => ?_))
      | exact ih0 _ _ _
      | exact humpyardref06_Sum.mono _ _
      | exact LeO.none _
      | refine LeO.ite ?_ ?_
      | refine LeO.bind ?_ (fun _ => ?_)
theorem humpyardref06_Seal.mono : ∀ a0 k, LeO (humpyardref06_Seal.f k a0) (humpyardref06_Seal.f (k + 1) a0) := by
  intro a0 k
  have ih0 := humpyardref06_Seal.mono_l k
  unfold humpyardref06_Seal.f
  repeat' first
      | (with_reducible exact ih0 _ _ _)
      | (with_reducible exact humpyardref06_Sum.mono _ _)
      | (with_reducible exact LeO.refl _)
      | (with_reducible exact LeO.none _)
      | (with_reducible refine LeO.ite ?_ ?_)
      | (with_reducible refine LeO.bind ?_ (fun _ => ?_))
      | exact ih0 _ _ _
      | exact humpyardref06_Sum.mono _ _
      | exact LeO.none _
      | refine LeO.ite ?_ ?_
      | refine LeO.bind ?_ (fun _ => ?_)
set_option maxHeartbeats 8000000 in
set_option maxRecDepth 100000 in
theorem humpyardref06_Seal.calls (k : Nat) (a0 : ByteArray) (r : ByteArray) (w : World) (h : humpyardref06_Seal.f k a0 = some r) :
    Calls Try.prog 11 #[.string a0] w fun e w' => e = .returned (.string r) ∧ Below w.heap.size w w' := by
  have HB := Aside0.mk (Below.refl w.heap.size w)
  have H : ((humpyardref06_Sum.f k a0).bind fun t117 => (if a0.size + 1 ≤ 9223372036854775807 then (humpyardref06_Seal.l0 k t117 (a0 ++ (⟨#[35]⟩ : ByteArray)) 28) else (none))) = some r := h
  clear h
  replace H := Option.bind_eq_some_iff.mp H
  obtain ⟨t117, A20, H⟩ := H
  replace H : (if a0.size + 1 ≤ 9223372036854775807 then (humpyardref06_Seal.l0 k t117 (a0 ++ (⟨#[35]⟩ : ByteArray)) 28) else (none)) = some r := H
  have A2 := Aside0.mk A20
  clear A20
  by_cases c3 : a0.size + 1 ≤ 9223372036854775807
  · rw [if_pos c3] at H
    have c3b0 := eq_true c3
    have c3b1 : decide (a0.size + 1 ≤ 9223372036854775807) = true := decide_eq_true c3
    try have c3b2 : (9223372036854775807 < a0.size + 1) = False := eq_false (Nat.not_lt.2 c3)
    have H' := Aside0.mk H
    clear H
    go_enter Try.func11, Try.ntmps11
    go_wp2_with (first | ((with_reducible refine gate_callee (f := 17) rfl ?_); refine goesL_ (some 8) rfl rfl Try.func17 (by kernel_rfl) rfl #[.string a0] rfl (by (try simp only [List.map_toArray, List.map_cons, List.map_nil]); first | done | rfl | (simp only [List.length_drop, List.length_take]; rfl)) ?_; (with_reducible refine (humpyardref06_Sum.calls k a0 t117 _ A2.out).mono ?_); rintro e w' ⟨rfl, ⟨nd, rfl⟩⟩; refine ⟨_, rfl, ?_⟩))
    go_loopg [4, 5] k (fun kq v4 v5 w' => ∃ (x4_1 : ByteArray) (x5_1 : Int), v4 = .string x4_1 ∧ v5 = .int .i64 x5_1 ∧ Aside0 (humpyardref06_Seal.l0 kq t117 x4_1 x5_1 = some r) ∧ Aside0 (kq ≤ k) ∧ Aside0 (Below w.heap.size w w'))
    case atStart => exact ⟨(a0 ++ (⟨#[35]⟩ : ByteArray)), (28), (by first | rfl | (simp; done) | (simp [*]; done)), (by first | rfl | (simp; done) | (simp [*]; done)), H', ⟨Nat.le_refl _⟩, ⟨by repeat (first | (with_reducible first | exact HB.out | apply below_alloc | apply pw_below_drewN | apply below_drew1) | exact HB.out)⟩⟩
    case round =>
      clear H'
      try clear c1
      try clear p2
      try clear c3
      try clear c3b0
      try clear c3b1
      try clear c3b2
      obtain ⟨x4_1, x5_1, rfl, rfl, HA, HK1, HB⟩ := hrel
      cases gk with
      | zero => exact absurd HA.out (by simp [humpyardref06_Seal.l0])
      | succ k1 =>
        have H := HA.out
        clear HA
        simp only [humpyardref06_Seal.l0] at H
        by_cases c4 : x5_1 ≥ 0
        · rw [if_pos c4] at H
          have c4b0 : decide (0 ≤ x5_1) = true := decide_eq_true c4
          clear c4
          by_cases c5 : 0 ≤ x5_1
          · rw [if_pos c5] at H
            have c5b0 := eq_true c5
            have c5b1 : decide (0 ≤ x5_1) = true := decide_eq_true c5
            clear c5
            obtain ⟨ji6, hji6⟩ : ∃ j_ : Int, (shr .u32 t117 x5_1) = j_ := ⟨_, rfl⟩
            replace H : (if 0 ≤ (Go.bits .and .u32 (ji6) 15) then (if (Go.bits .and .u32 (ji6) 15) < 16 then ((some (([bt (⟨#[48, 49, 50, 51, 52, 53, 54, 55, 56, 57, 97, 98, 99, 100, 101, 102]⟩ : ByteArray) (Go.bits .and .u32 (ji6) 15)] : List Int) : List Int)).bind fun y118 => (if x4_1.size + (strOfNums y118).size ≤ 9223372036854775807 then (humpyardref06_Seal.l0 k1 t117 (x4_1 ++ (strOfNums y118)) (wrap64 (x5_1 - 4))) else (none))) else (none)) else (none)) = some r := by first | (rw [hji6] at H; exact H) | (simp only [hji6] at H ⊢; exact H)
            have hji6_ : (t117 / 2 ^ min x5_1.toNat 32) = ji6 := hji6
            have hji6z : x5_1 ≤ 32 → (t117 / 2 ^ x5_1.toNat) = ji6 := shr_small hji6
            by_cases c7 : 0 ≤ (Go.bits .and .u32 (ji6) 15)
            · rw [if_pos c7] at H
              have c7b0 : decide (0 ≤ (Go.bits .and .u32 (ji6) 15)) = true := decide_eq_true c7
              clear c7
              by_cases c8 : (Go.bits .and .u32 (ji6) 15) < 16
              · rw [if_pos c8] at H
                have c8b0 : decide ((Go.bits .and .u32 (ji6) 15) < 16) = true := decide_eq_true c8
                clear c8
                obtain ⟨y118, hy118⟩ : ∃ y_ : List Int, y_ = (([bt (⟨#[48, 49, 50, 51, 52, 53, 54, 55, 56, 57, 97, 98, 99, 100, 101, 102]⟩ : ByteArray) (Go.bits .and .u32 (ji6) 15)] : List Int)) := ⟨_, rfl⟩
                replace H : (if x4_1.size + (strOfNums y118).size ≤ 9223372036854775807 then (humpyardref06_Seal.l0 k1 t117 (x4_1 ++ (strOfNums y118)) (wrap64 (x5_1 - 4))) else (none)) = some r := by first | (rw [hy118]; with_reducible exact H) | (have H2_ := (Option.bind_some _ _).symm.trans H; rw [hy118]; with_reducible exact H2_) | (have H2_ := (Option.bind_some _ _).symm.trans H; with_reducible exact H2_) | with_reducible exact H | (rw [hy118]; exact H) | exact H
                have Ny118 := Aside0.mk hy118
                clear hy118
                by_cases c10 : x4_1.size + (strOfNums y118).size ≤ 9223372036854775807
                · rw [if_pos c10] at H
                  have c10b0 := eq_true c10
                  have c10b1 : decide (x4_1.size + (strOfNums y118).size ≤ 9223372036854775807) = true := decide_eq_true c10
                  try have c10b2 : (9223372036854775807 < x4_1.size + (strOfNums y118).size) = False := eq_false (Nat.not_lt.2 c10)
                  have H' := Aside0.mk H
                  clear H
                  have p9 : 0 ≤ ((Go.bits .and .u32 (ji6) 15) : Int) := of_decide_eq_true (by first | (with_reducible assumption) | assumption)
                  have q9 : (Go.bits .and .u32 (ji6) 15) < (16 : Int) := of_decide_eq_true (by first | (with_reducible assumption) | assumption)
                  have hx9 := bt_at (⟨#[48, 49, 50, 51, 52, 53, 54, 55, 56, 57, 97, 98, 99, 100, 101, 102]⟩ : ByteArray) (Go.bits .and .u32 (ji6) 15)
                  replace p9 := eq_true p9
                  replace q9 := eq_true q9
                  go_wp2_with (first | ((with_reducible refine gate_dst (N := 22) rfl ?_); refine Kd.R_lit (Kd.int .u8) _ 5 ?hg (N := 22) ?hd (xs := ([bt (⟨#[48, 49, 50, 51, 52, 53, 54, 55, 56, 57, 97, 98, 99, 100, 101, 102]⟩ : ByteArray) (Go.bits .and .u32 (ji6) 15)] : List Int)) (inner := [.int .u8 (bt (⟨#[48, 49, 50, 51, 52, 53, 54, 55, 56, 57, 97, 98, 99, 100, 101, 102]⟩ : ByteArray) (Go.bits .and .u32 (ji6) 15))]) (ok := fun _ => True) (okp := fun _ => True) ?hr ?hp (fun _ hk => hk) trivial (Below.refl _ _) (Nat.le_refl _) (by simp) ?_; (case hd => rfl); (case hg => rfl); (case hr => first | (go_simp; done) | (go_simp; rfl)); (case hp => exact (Reps.one (show Kd.M (Kd.int .u8) _ _ _ (bt (⟨#[48, 49, 50, 51, 52, 53, 54, 55, 56, 57, 97, 98, 99, 100, 101, 102]⟩ : ByteArray) (Go.bits .and .u32 (ji6) 15)) [.int .u8 (bt (⟨#[48, 49, 50, 51, 52, 53, 54, 55, 56, 57, 97, 98, 99, 100, 101, 102]⟩ : ByteArray) (Go.bits .and .u32 (ji6) 15))] from rfl) (Reps.none _ _))); intro v119 w11 ho12 hb hg_ hnew_; clear hg_ hnew_; (first | rw [← Ny118.out] at ho12 | (simp only [Int.reduceToNat] at ho12; rw [← Ny118.out] at ho12)); have n0_ := Aside0.mk (Kd.R_lower ho12 (below_size (by repeat (first | (with_reducible first | exact HB.out | apply below_alloc | apply pw_below_drewN | apply below_drew1) | exact HB.out)))); have n1_ := Aside0.mk (below_step (by repeat (first | (with_reducible first | exact HB.out | apply below_alloc | apply pw_below_drewN | apply below_drew1) | exact HB.out)) hb); clear HB; have HO120 := n0_; have HB := n1_; clear n0_ n1_; clear hb ho12; have hcv13 := own_string (P := Try.prog) Try.underlying33 Try.underlying5 Try.underlying9 (Kd.own_of_R HO120.out)))
                  go_roundg k1
                  case measure => have := HK1.out; omega
                  case rel => exact ⟨(x4_1 ++ (strOfNums y118)), (wrap64 (x5_1 - 4)), (by first | rfl | (simp; done) | (simp [*]; done)), (by first | rfl | (simp; done) | (simp [*]; done)), H', ⟨by have := HK1.out; omega⟩, ⟨by repeat (first | (with_reducible first | exact HB.out | apply below_alloc | apply pw_below_drewN | apply below_drew1) | exact HB.out)⟩⟩
                · rw [if_neg c10] at H
                  exact absurd H (by simp)
              · rw [if_neg c8] at H
                exact absurd H (by simp)
            · rw [if_neg c7] at H
              exact absurd H (by simp)
          · rw [if_neg c5] at H
            exact absurd H (by simp)
        · rw [if_neg c4] at H
          have c4b0 : decide (0 ≤ x5_1) = false := decide_eq_false c4
          clear c4
          obtain rfl := Option.some.inj H
          go_wp2
          go_ret
          exact ⟨by first | rfl | (simp [errW_none, errW_some] <;> rfl) | (simp [*, errW_none, errW_some] <;> rfl), by repeat (first | (with_reducible first | exact HB.out | apply below_alloc | apply pw_below_drewN | apply below_drew1) | exact HB.out)⟩
  · rw [if_neg c3] at H
    exact absurd H (by simp)

/-! ### humpyardlaw06_pick: function 12 -/
def humpyardlaw06_pick.f (a0 : Int) (a1 : Int) : Option (Int) := if a0 < 0 then (if a1 = 0 then (none) else (some (Int.tmod (wrap64 (-(wrap64 (a0 + 1)))) a1))) else (if a1 = 0 then (none) else (some (Int.tmod a0 a1)))
set_option maxHeartbeats 8000000 in
set_option maxRecDepth 100000 in
theorem humpyardlaw06_pick.calls (a0 : Int) (a1 : Int) (r : Int) (w : World) (h : humpyardlaw06_pick.f a0 a1 = some r) :
    Calls Try.prog 12 #[.int .i64 a0, .int .i64 a1] w fun e w' => e = .returned (.int .i64 r) ∧ Drawn0 w w' := by
  have H : (if a0 < 0 then (if a1 = 0 then (none) else (some (Int.tmod (wrap64 (-(wrap64 (a0 + 1)))) a1))) else (if a1 = 0 then (none) else (some (Int.tmod a0 a1)))) = some r := h
  clear h
  by_cases c3 : a0 < 0
  · rw [if_pos c3] at H
    have c3b0 : decide (a0 < 0) = true := decide_eq_true c3
    clear c3
    by_cases c4 : a1 = 0
    · rw [if_pos c4] at H
      exact absurd H (by simp)
    · rw [if_neg c4] at H
      have c4b0 : (a1 == 0) = false := beq_eq_false_iff_ne.mpr c4
      have c4b1 : (a1 != 0) = true := bne_iff_ne.mpr c4
      obtain rfl := Option.some.inj H
      go_enter Try.func12, Try.ntmps12
      go_wp2
      go_ret
      exact ⟨by first | rfl | (simp; done) | (simp [*]; done), by repeat (first | exact Drawn0.refl _ | apply Drawn0.step)⟩
  · rw [if_neg c3] at H
    have c3b0 : decide (a0 < 0) = false := decide_eq_false c3
    clear c3
    by_cases c5 : a1 = 0
    · rw [if_pos c5] at H
      exact absurd H (by simp)
    · rw [if_neg c5] at H
      have c5b0 : (a1 == 0) = false := beq_eq_false_iff_ne.mpr c5
      have c5b1 : (a1 != 0) = true := bne_iff_ne.mpr c5
      obtain rfl := Option.some.inj H
      go_enter Try.func12, Try.ntmps12
      go_wp2
      go_ret
      exact ⟨by first | rfl | (simp; done) | (simp [*]; done), by repeat (first | exact Drawn0.refl _ | apply Drawn0.step)⟩

/-! ### humpyardref06_Open: function 14 -/
def humpyardref06_Open.f (k : Nat) (a0 : ByteArray) : Option (ByteArray × Int) := if (a0.size : Int) < 9 then (some ((⟨#[]⟩ : ByteArray), 60)) else (if 0 ≤ (wrap64 ((a0.size : Int) - 9)) then (if (wrap64 ((a0.size : Int) - 9)) ≤ (a0.size : Int) then ((humpyardref06_Seal.f k (a0.extract 0 ((wrap64 ((a0.size : Int) - 9)) : Int).toNat)).bind fun t121 => (if t121.toList = a0.toList then (some (a0.extract 0 ((wrap64 ((a0.size : Int) - 9)) : Int).toNat, 0)) else (some ((⟨#[]⟩ : ByteArray), 60)))) else (none)) else (none))
theorem humpyardref06_Open.mono : ∀ a0 k, LeO (humpyardref06_Open.f k a0) (humpyardref06_Open.f (k + 1) a0) := by
  intro a0 k
  unfold humpyardref06_Open.f
  repeat' first
      | (with_reducible exact humpyardref06_Seal.mono _ _)
      | (with_reducible exact LeO.refl _)
      | (with_reducible exact LeO.none _)
      | (with_reducible refine LeO.ite ?_ ?_)
      | (with_reducible refine LeO.bind ?_ (fun _ => ?_))
      | exact humpyardref06_Seal.mono _ _
      | exact LeO.none _
      | refine LeO.ite ?_ ?_
      | refine LeO.bind ?_ (fun _ => ?_)
set_option maxHeartbeats 8000000 in
set_option maxRecDepth 100000 in
theorem humpyardref06_Open.calls (k : Nat) (a0 : ByteArray) (r1 : ByteArray) (r2 : Int) (w : World) (h : humpyardref06_Open.f k a0 = some (r1, r2)) :
    Calls Try.prog 14 #[.string a0] w fun e w' => e = .returned (.tuple #[.string r1, .int .i64 r2]) ∧ Below w.heap.size w w' := by
  have HB := Aside0.mk (Below.refl w.heap.size w)
  have H : (if (a0.size : Int) < 9 then (some ((⟨#[]⟩ : ByteArray), 60)) else (if 0 ≤ (wrap64 ((a0.size : Int) - 9)) then (if (wrap64 ((a0.size : Int) - 9)) ≤ (a0.size : Int) then ((humpyardref06_Seal.f k (a0.extract 0 ((wrap64 ((a0.size : Int) - 9)) : Int).toNat)).bind fun t121 => (if t121.toList = a0.toList then (some (a0.extract 0 ((wrap64 ((a0.size : Int) - 9)) : Int).toNat, 0)) else (some ((⟨#[]⟩ : ByteArray), 60)))) else (none)) else (none))) = some (r1, r2) := h
  clear h
  by_cases c2 : (a0.size : Int) < 9
  · rw [if_pos c2] at H
    have c2b0 : decide ((a0.size : Int) < 9) = true := decide_eq_true c2
    have c2b1 : decide (a0.size < 9) = true := decide_eq_true (by omega)
    clear c2
    simp only [Option.some.injEq, Prod.mk.injEq] at H
    obtain ⟨rfl, rfl⟩ := H
    go_enter Try.func14, Try.ntmps14
    go_wp2
    go_ret2
    exact ⟨by first | rfl | (simp [errW_none, errW_some] <;> rfl) | (simp [*, errW_none, errW_some] <;> rfl), by repeat (first | (with_reducible first | exact HB.out | apply below_alloc | apply pw_below_drewN | apply below_drew1) | exact HB.out)⟩
  · rw [if_neg c2] at H
    have c2b0 : decide ((a0.size : Int) < 9) = false := decide_eq_false c2
    have c2b1 : decide (a0.size < 9) = false := decide_eq_false (by omega)
    clear c2
    obtain ⟨ji3, hji3⟩ : ∃ j_ : Int, (wrap64 ((a0.size : Int) - 9)) = j_ := ⟨_, rfl⟩
    replace H : (if 0 ≤ (ji3) then (if (ji3) ≤ (a0.size : Int) then ((humpyardref06_Seal.f k (a0.extract 0 ((ji3) : Int).toNat)).bind fun t121 => (if t121.toList = a0.toList then (some (a0.extract 0 ((ji3) : Int).toNat, 0)) else (some ((⟨#[]⟩ : ByteArray), 60)))) else (none)) else (none)) = some (r1, r2) := by first | (rw [hji3] at H; exact H) | (simp only [hji3] at H ⊢; exact H)
    have hji3w : (IntKind.i64.wrap ((a0.size : Int) - 9)) = ji3 := (i64_w _).trans hji3
    by_cases c4 : 0 ≤ (ji3)
    · rw [if_pos c4] at H
      have c4b0 := eq_true c4
      have c4b1 : decide (0 ≤ (ji3)) = true := decide_eq_true c4
      clear c4
      by_cases c5 : (ji3) ≤ (a0.size : Int)
      · rw [if_pos c5] at H
        have c5b0 := eq_true c5
        have c5b1 : decide ((ji3) ≤ (a0.size : Int)) = true := decide_eq_true c5
        clear c5
        replace H := Option.bind_eq_some_iff.mp H
        obtain ⟨t121, A60, H⟩ := H
        replace H : (if t121.toList = a0.toList then (some (a0.extract 0 ((ji3) : Int).toNat, 0)) else (some ((⟨#[]⟩ : ByteArray), 60))) = some (r1, r2) := H
        have A6 := Aside0.mk A60
        clear A60
        by_cases c7 : t121.toList = a0.toList
        · rw [if_pos c7] at H
          have c7b0 : (t121.toList == a0.toList) = true := beq_iff_eq.mpr c7
          have c7b1 : (t121.toList != a0.toList) = false := bne_eq_false_iff_eq.mpr c7
          clear c7
          simp only [Option.some.injEq, Prod.mk.injEq] at H
          obtain ⟨rfl, rfl⟩ := H
          go_enter Try.func14, Try.ntmps14
          go_wp2_with (first | ((with_reducible refine gate_callee (f := 11) rfl ?_); refine goesL_ (some 14) rfl rfl Try.func11 (by kernel_rfl) rfl #[.string (a0.extract 0 ((ji3) : Int).toNat)] rfl (by (try simp only [List.map_toArray, List.map_cons, List.map_nil]); first | done | (simp only [hji3]; rfl) | rfl | (simp only [List.length_drop, List.length_take]; rfl)) ?_; (with_reducible refine (humpyardref06_Seal.calls k (a0.extract 0 ((ji3) : Int).toNat) t121 _ A6.out).mono ?_); rintro e w8 ⟨rfl, hb⟩; refine ⟨_, rfl, ?_⟩; have n0_ := Aside0.mk (below_step (by repeat (first | (with_reducible first | exact HB.out | apply below_alloc | apply pw_below_drewN | apply below_drew1) | exact HB.out)) hb); clear HB; have HB := n0_; clear n0_; (try clear hb); (try clear hb2); (try clear hk); (try clear hi)))
          go_ret2
          exact ⟨by first | rfl | (simp [errW_none, errW_some] <;> rfl) | (simp only [← hji3]; first | rfl | (simp [errW_none, errW_some] <;> rfl)) | (simp [*, errW_none, errW_some] <;> rfl), by repeat (first | (with_reducible first | exact HB.out | apply below_alloc | apply pw_below_drewN | apply below_drew1) | exact HB.out)⟩
        · rw [if_neg c7] at H
          have c7b0 : (t121.toList == a0.toList) = false := beq_eq_false_iff_ne.mpr c7
          have c7b1 : (t121.toList != a0.toList) = true := bne_iff_ne.mpr c7
          simp only [Option.some.injEq, Prod.mk.injEq] at H
          obtain ⟨rfl, rfl⟩ := H
          go_enter Try.func14, Try.ntmps14
          go_wp2_with (first | ((with_reducible refine gate_callee (f := 11) rfl ?_); refine goesL_ (some 14) rfl rfl Try.func11 (by kernel_rfl) rfl #[.string (a0.extract 0 ((ji3) : Int).toNat)] rfl (by (try simp only [List.map_toArray, List.map_cons, List.map_nil]); first | done | (simp only [hji3]; rfl) | rfl | (simp only [List.length_drop, List.length_take]; rfl)) ?_; (with_reducible refine (humpyardref06_Seal.calls k (a0.extract 0 ((ji3) : Int).toNat) t121 _ A6.out).mono ?_); rintro e w9 ⟨rfl, hb⟩; refine ⟨_, rfl, ?_⟩; have n0_ := Aside0.mk (below_step (by repeat (first | (with_reducible first | exact HB.out | apply below_alloc | apply pw_below_drewN | apply below_drew1) | exact HB.out)) hb); clear HB; have HB := n0_; clear n0_; (try clear hb); (try clear hb2); (try clear hk); (try clear hi)))
          go_ret2
          exact ⟨by first | rfl | (simp [errW_none, errW_some] <;> rfl) | (simp only [← hji3]; first | rfl | (simp [errW_none, errW_some] <;> rfl)) | (simp [*, errW_none, errW_some] <;> rfl), by repeat (first | (with_reducible first | exact HB.out | apply below_alloc | apply pw_below_drewN | apply below_drew1) | exact HB.out)⟩
      · rw [if_neg c5] at H
        exact absurd H (by simp)
    · rw [if_neg c4] at H
      exact absurd H (by simp)

end Go.Proofs.Ytagcfcjkpbcfhaa.PSeal
