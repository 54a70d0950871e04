/- Plain laws on the printed Lay: it comes to a record's bytes as chapter 15 lays them, or to ErrArg. For every record. -/
import Derived.Test.YthaeecoahbohnaaPLayx1
import Derived.Test.YthaeecoahbohnaaSum
namespace Go.Proofs.Ythaeecoahbohnaa.Plain
open Go Go.RowKit Go.Proofs.Ythaeecoahbohnaa.PLay Go.Proofs.YthaeecoahbohnaaW.PrintWords Go.Proofs.YthaeecoahbohnaaW.PrintLast Go.Proofs.YthaeecoahbohnaaW.PrintMore
/-- A number's bytes as whole numbers. -/
def beI : Nat → Int → List Int
  | 0, _ => []
  | n + 1, v => (v / 256 ^ n % 256) :: beI n v
theorem beI_length (n : Nat) (v : Int) : (beI n v).length = n := by
  induction n with
  | zero => rfl
  | succ n ih => simp [beI, ih]
theorem beI_be (n : Nat) (v : Int) : (beI n v).map (fun x => UInt8.ofNat x.toNat) = be n v := by
  induction n with
  | zero => rfl
  | succ n ih => simp [beI, be, ih]
theorem be_length (n : Nat) (v : Int) : (be n v).length = n := by rw [← beI_be, List.length_map, beI_length]
theorem shr_eq (v : Int) (j : Nat) (hj : j ≤ 7) : shr .i64 v ((8 * j : Nat) : Int) = v / 256 ^ j := by
  unfold shr
  rw [Int.toNat_natCast, show min (8 * j) (IntKind.i64.bits) = 8 * j from Nat.min_eq_left (by show 8 * j ≤ 64; omega), Int.pow_mul]
  rfl
theorem put_l1 (v : Int) (ns : List Int) (sz len i : Int) (j : Nat) : ∀ (x : List Int) (K : Nat), j ≤ 7 → x.length + j < 140737488355328 →
    journal_put.l1 (K + (j + 1) + 1) x sz v ((8 * j : Nat) : Int) ns len i = journal_put.l0 K (x ++ beI (j + 1) v) sz ns len (wrap64 (i + 1)) := by
  induction j with
  | zero =>
    intro x K _ hx
    simp only [journal_put.l1]
    rw [if_pos (by omega), if_pos (by omega), if_pos (by omega), show ((8 * 0 : Nat) : Int) = ((8 * 0 : Nat) : Int) from rfl, shr_eq v 0 (by omega), show wrap64 (((8 * 0 : Nat) : Int) - 8) = -8 from by unfold wrap64; omega]
    rw [if_neg (by decide)]
    rfl
  | succ j ih =>
    intro x K hj hx
    have h := ih (x ++ [v / 256 ^ (j + 1) % 256]) K (by omega) (by simp; omega)
    rw [show K + (j + 1 + 1) + 1 = (K + (j + 1) + 1) + 1 from by omega]
    rw [journal_put.l1.eq_def]
    simp only
    rw [if_pos (by omega), if_pos (by omega), if_pos (by omega), shr_eq v (j + 1) hj, show wrap64 (((8 * (j + 1) : Nat) : Int) - 8) = ((8 * j : Nat) : Int) from by unfold wrap64; omega, h, List.append_assoc]
    rfl
theorem put_tells (sz : Nat) (h1 : 1 ≤ sz) (h8 : sz ≤ 8) (ns : List Int) (hn : ns.length ≤ 1000000) (d : Nat) : ∀ (i : Nat) (x : List Int) (K : Nat), i ≤ ns.length → ns.length - i = d → x.length + 8 * d ≤ 100000000 → d * 10 < K →
    journal_put.l0 K x (sz : Int) ns (ns.length : Int) (i : Int) = some (x ++ (ns.drop i).flatMap (beI sz)) := by
  induction d with
  | zero =>
    intro i x K hi hd _ hK
    obtain ⟨K, rfl⟩ : ∃ m, K = m + 1 := ⟨K - 1, by omega⟩
    simp only [journal_put.l0]
    rw [if_neg (by omega), List.drop_of_length_le (by omega)]
    simp
  | succ d ih =>
    intro i x K hi hd hx hK
    obtain ⟨j, rfl⟩ : ∃ j, sz = j + 1 := ⟨sz - 1, by omega⟩
    obtain ⟨M, rfl⟩ : ∃ M, K = (M + (j + 1) + 1) + 1 := ⟨K - (j + 3), by omega⟩
    have hil : i < ns.length := by omega
    have hr : rd ns (i : Int) = ns[i] := by
      unfold rd
      rw [Int.toNat_natCast, List.getD_eq_getElem?_getD, List.getElem?_eq_getElem hil]
      rfl
    have h2 := ih (i + 1) (x ++ beI (j + 1) ns[i]) M (by omega) (by omega) (by rw [List.length_append, beI_length]; omega) (by omega)
    rw [journal_put.l0.eq_def]
    simp only
    rw [if_pos (by omega), if_pos (by omega), if_pos (by omega), hr, show wrap64 (8 * wrap64 (((j + 1 : Nat) : Int) - 1)) = ((8 * j : Nat) : Int) from by unfold wrap64; omega, put_l1 _ _ _ _ _ j x M (by omega) (by omega), show wrap64 ((i : Int) + 1) = ((i + 1 : Nat) : Int) from by unfold wrap64; omega, h2, List.drop_eq_getElem_cons hil, List.flatMap_cons, List.append_assoc]
theorem put_all (sz : Nat) (h1 : 1 ≤ sz) (h8 : sz ≤ 8) (ns x : List Int) (hn : ns.length ≤ 1000) (hx : x.length ≤ 1000000) (K : Nat) (hK : 20000 ≤ K) :
    journal_put.f K x (sz : Int) ns = some (x ++ ns.flatMap (beI sz)) := by
  have h := put_tells sz h1 h8 ns (by omega) ns.length 0 x K (by omega) (by omega) (by omega) (by omega)
  rw [List.drop_zero] at h
  exact h
theorem flat_length (sz : Nat) (ns : List Int) : (ns.flatMap (beI sz)).length = ns.length * sz := by
  induction ns with
  | nil => simp
  | cons a ns ih => rw [List.flatMap_cons, List.length_append, beI_length, ih, List.length_cons, Nat.succ_mul, Nat.add_comm]
theorem flat_be (sz : Nat) (ns : List Int) : (ns.flatMap (beI sz)).map (fun x => UInt8.ofNat x.toNat) = ns.flatMap (be sz) := by
  induction ns with
  | nil => rfl
  | cons a ns ih => rw [List.flatMap_cons, List.map_append, beI_be, ih, List.flatMap_cons]
theorem back_bytes (s : ByteArray) : (bytesOf s).map (fun x => UInt8.ofNat x.toNat) = s.data.toList := by
  unfold bytesOf
  rw [List.map_map]
  conv => rhs; rw [← List.map_id s.data.toList]
  apply List.map_congr_left
  intro c _
  simp
theorem lay_tells (k0 : Int) (ns : List Int) (t : ByteArray) (K : Nat) (hK : 30000 ≤ K) : journal_Lay.f K k0 ns t = some (layOf k0 ns t) := by
  obtain ⟨K, rfl⟩ : ∃ m, K = m + 1 := ⟨K - 1, by omega⟩
  unfold journal_Lay.f layOf
  by_cases c1 : k0 < 0
  · rw [if_pos c1, if_pos (.inl c1)]; simp only [journal_Lay.j0, if_true]
  rw [if_neg c1]
  by_cases c2 : k0 > 255
  · rw [if_pos c2, if_pos (.inr (.inl c2))]; simp only [journal_Lay.j0, if_true]
  rw [if_neg c2]
  by_cases c3 : (ns.length : Int) > 255
  · rw [if_pos c3, if_pos (.inr (.inr (.inl (by omega))))]; simp only [journal_Lay.j0, if_true]
  rw [if_neg c3]
  by_cases c4 : (t.size : Int) > 20000
  · rw [decide_eq_true c4, if_pos (.inr (.inr (.inr (by omega))))]; simp only [journal_Lay.j0, if_true]
  rw [decide_eq_false c4, if_neg (by omega)]
  simp only [journal_Lay.j0]
  rw [if_neg (by decide)]
  have hb : (bodyOf k0 ns t.data.toList).length = 2 + 8 * ns.length + t.size := by
    have := flat_length 8 ns
    have h2 : (ns.flatMap (be 8)).length = ns.length * 8 := by rw [← flat_be, List.length_map, this]
    simp only [bodyOf, List.length_append, be_length, h2, Array.length_toList]
    show 1 + 1 + ns.length * 8 + t.size = _
    omega
  have hw : wrap64 (wrap64 (2 + wrap64 (8 * (ns.length : Int))) + (t.size : Int)) = ((bodyOf k0 ns t.data.toList).length : Int) := by
    rw [hb]
    unfold wrap64
    omega
  have p1 := put_all 4 (by omega) (by omega) [((bodyOf k0 ns t.data.toList).length : Int)] [] (by simp) (by simp) K (by omega)
  have p2 := put_all 1 (by omega) (by omega) [k0, (ns.length : Int)] ([] ++ [((bodyOf k0 ns t.data.toList).length : Int)].flatMap (beI 4)) (by simp) (by simp [beI_length]) K (by omega)
  have p3 := put_all 8 (by omega) (by omega) ns ([] ++ [((bodyOf k0 ns t.data.toList).length : Int)].flatMap (beI 4) ++ [k0, (ns.length : Int)].flatMap (beI 1)) (by omega) (by simp [beI_length]) K (by omega)
  rw [hw]
  rw [show ((4 : Nat) : Int) = 4 from rfl] at p1
  rw [show ((1 : Nat) : Int) = 1 from rfl] at p2
  rw [show ((8 : Nat) : Int) = 8 from rfl] at p3
  rw [p1]
  simp only [Option.bind_some]
  rw [p2]
  simp only [Option.bind_some]
  rw [p3]
  simp only [Option.bind_some]
  generalize hy : ([] ++ [((bodyOf k0 ns t.data.toList).length : Int)].flatMap (beI 4) ++ [k0, (ns.length : Int)].flatMap (beI 1) ++ ns.flatMap (beI 8)) = y
  have hyl : y.length = 6 + 8 * ns.length := by
    rw [← hy]
    simp only [List.length_append, flat_length, List.length_nil, List.length_cons]
    omega
  have hym : (y ++ bytesOf t).map (fun x => UInt8.ofNat x.toNat) = headOf k0 ns t.data.toList := by
    rw [← hy, List.map_append, List.map_append, List.map_append, List.map_append, flat_be, flat_be, flat_be, back_bytes]
    simp [headOf, bodyOf, List.append_assoc]
  rw [if_pos (by omega)]
  have hso : strOfNums (y ++ bytesOf t) = ⟨(headOf k0 ns t.data.toList).toArray⟩ := by
    unfold strOfNums
    rw [hym]
  have hlen : (y ++ bytesOf t).length = 6 + 8 * ns.length + t.size := by rw [List.length_append, bytesOf_length, hyl]
  have hsum : seal_Sum.f (strOfNums (y ++ bytesOf t)) = some (fnv 2166136261 (headOf k0 ns t.data.toList)) := by
    unfold seal_Sum.f
    rw [if_pos (by rw [strOfNums_size, hlen]; omega), hso]
    rfl
  rw [hsum]
  simp only [Option.bind_some]
  have hr := fnv_range (headOf k0 ns t.data.toList) 2166136261 (by decide) (by decide)
  have hwr : wrap64 (fnv 2166136261 (headOf k0 ns t.data.toList)) = fnv 2166136261 (headOf k0 ns t.data.toList) := by
    unfold wrap64
    omega
  have p4 := put_all 4 (by omega) (by omega) [fnv 2166136261 (headOf k0 ns t.data.toList)] (y ++ bytesOf t) (by simp) (by rw [hlen]; omega) K (by omega)
  rw [show ((4 : Nat) : Int) = 4 from rfl] at p4
  rw [hwr, p4]
  rw [Option.bind_some]
  have hfin : strOfNums (y ++ bytesOf t ++ [fnv 2166136261 (headOf k0 ns t.data.toList)].flatMap (beI 4)) = ⟨(recOf k0 ns t.data.toList).toArray⟩ := by
    unfold strOfNums
    rw [List.map_append, hym, flat_be]
    simp [recOf]
  rw [hfin]
end Go.Proofs.Ythaeecoahbohnaa.Plain
