/- The law SealChanged answers true, walked by hand: with one byte changed, or one more behind, a sealed text is opened no more. For every text, whatever byte. -/
import Derived.Test.YtagcfcjkpbcfhaaPSealx1
import Derived.Test.YtagcfcjkpbcfhaaPick
import Derived.Test.YtagcfcjkpbcfhaaBytes
namespace Go.Proofs.Ytagcfcjkpbcfhaa.Pure
open Go.RowKit Go.Proofs.Ytagcfcjkpbcfhaa.PSeal Go.Proofs.YtagcfcjkpbcfhaaW.PrintWords Go.Proofs.YtagcfcjkpbcfhaaW.PrintLast Go.Proofs.YtagcfcjkpbcfhaaW.PrintMore
open Go.Proofs.Ytagcfcjkpbcfhaa.Plain
set_option linter.unusedVariables false
set_option linter.unusedSimpArgs false
set_option maxHeartbeats 4000000 in
set_option maxRecDepth 100000 in
theorem changed_walk (s : ByteArray) (at0 : Int) (d : UInt8) (w : World) (hs : s.size ≤ 140737488351232) (hat : (Lit.int .i64 at0).wf = true) :
    Calls Try.prog 7 #[.string s, .int .i64 at0, .int .u8 (d.toNat : Int)] w fun e w' => e = .returned (.bool true) ∧ Below w.heap.size w w' := by
  have hq := sealOf_size s
  obtain ⟨i, hi, hp⟩ := pick_tells at0 (sealOf s).size hat (by omega)
  have hil : i < (sealOf s).data.toList.length := by rw [data_length]; exact hi
  have hK : (sealOf s).size + 100 ≤ (sealOf s).size + 100 := Nat.le_refl _
  have Aw := Aside0.mk (awake_tells ((sealOf s).size + 100) (by omega))
  have As := Aside0.mk (seal_tells s (by omega) ((sealOf s).size + 100))
  have Ap := Aside0.mk hp
  obtain ⟨c, hc⟩ : ∃ c, (sealOf s).data.toList[i] = c := ⟨_, rfl⟩
  have hbt : bt (sealOf s) (i : Int) = (c.toNat : Int) := by rw [bt_list _ _ hi, hc]
  obtain ⟨x, hx, hxc⟩ := flip_byte c d
  have hlist : (sealOf s).data.toList = (sealOf s).data.toList.take i ++ c :: (sealOf s).data.toList.drop (i + 1) := by
    rw [← hc, List.getElem_cons_drop, List.take_append_drop]
  have hset : (sealOf s).data.toList.set i x = (sealOf s).data.toList.take i ++ x :: (sealOf s).data.toList.drop (i + 1) := List.set_eq_take_append_cons_drop ▸ (by rw [if_pos hil])
  have n1 : ¬ Sealed ((sealOf s).data.toList.set i x) := by
    rw [hset]
    intro h
    rw [sealOf_list] at hlist h
    exact hxc (sealed_one _ _ _ _ _ hlist h).symm
  have n2 : ¬ Sealed ((sealOf s).data.toList ++ [d]) := by
    rw [sealOf_list]
    exact fun h => sealed_more _ _ h
  have o1 : openB ⟨((sealOf s).data.toList.set i x).toArray⟩ = (⟨#[]⟩, 60) := if_neg (by simpa using n1)
  have o2 : openB (sealOf s ++ ⟨#[d]⟩) = (⟨#[]⟩, 60) := if_neg (by rw [ByteArray.data_append]; simpa using n2)
  have o3 : openB ⟨#[]⟩ = (⟨#[]⟩, 60) := if_neg sealed_nil
  have z1 : (⟨((sealOf s).data.toList.set i x).toArray⟩ : ByteArray).size = (sealOf s).size := by
    show ((sealOf s).data.toList.set i x).toArray.size = _
    rw [List.size_toArray, List.length_set, data_length]
  have z2 : (sealOf s ++ ⟨#[d]⟩ : ByteArray).size = (sealOf s).size + 1 := by rw [ByteArray.size_append]; rfl
  have A1 := Aside0.mk ((open_tells ⟨((sealOf s).data.toList.set i x).toArray⟩ (by rw [z1]; omega) ((sealOf s).size + 100) (by rw [z1]; omega)).trans (congrArg some o1))
  have A2 := Aside0.mk ((open_tells (sealOf s ++ ⟨#[d]⟩) (by rw [z2]; omega) ((sealOf s).size + 100) (by rw [z2]; omega)).trans (congrArg some o2))
  have A3 := Aside0.mk ((open_tells ⟨#[]⟩ (by decide) ((sealOf s).size + 100) (by show 0 < _; omega)).trans (congrArg some o3))
  have hne : ((sealOf s).toList == ([] : List UInt8)) = false := by
    rw [beq_eq_false_iff_ne, ne_eq, Lib.toList_data]
    intro h
    rw [h] at hil
    exact absurd hil (by simp)
  clear o1 o2 o3 z1 z2 n1 n2 hset hlist hxc hp hK
  have hq9 : (sealOf s).size ≤ 140737488351241 := by omega
  have hq1 : 1 ≤ (sealOf s).size := by omega
  clear hq
  generalize sealOf s = q at *
  have kb := fun W => print_bytes (P := Try.prog) 9 33 5 Try.underlying9 Try.underlying33 Try.underlying5 q W
  have kc : ∀ W : World, (Lib.bytesWorld W 5 q).cell? ⟨W.heap.size, i, none⟩ = some (.int .u8 (bt q (i : Int))) := fun W => bw_cell W 5 q i hi
  have kf : ∀ W : World, (Lib.bytesWorld W 5 q).frozen? ⟨W.heap.size, i, none⟩ = false := fun W => bw_frozen W 5 q i hi
  have kr := fun (W : World) (cap : Nat) => bw_back (P := Try.prog) W 33 9 5 q i cap hi x Try.underlying33 Try.underlying5 Try.underlying9
  have k1 := fun (W : World) => one_back (P := Try.prog) W 33 9 5 d Try.underlying33 Try.underlying5 Try.underlying9
  clear hc hil
  have HB := Aside0.mk (Below.refl w.heap.size w)
  go_enter Try.func7, Try.ntmps7
  go_wp2_with (first | (go_at_call 10; refine (humpyardlaw06_awake.calls (q.size + 100) true _ Aw.out).mono ?_; rintro e w1 ⟨rfl, hb1⟩) | (go_at_call 15; refine (seal_Seal.calls (q.size + 100) s q _ As.out).mono ?_; rintro e w2 ⟨rfl, hb2⟩) | (go_at_call 12; refine (humpyardlaw06_pick.calls at0 (q.size : Int) (i : Int) _ Ap.out).mono ?_; rintro e w3 ⟨rfl, ⟨nd, rfl⟩⟩; have hb3 := pw_below_drewN (below_step (below_step HB.out hb1) hb2) nd; generalize w2.drewN nd = w3 at hb3 ⊢))
  (with_reducible refine (seal_Open.calls (q.size + 100) ⟨(q.data.toList.set i x).toArray⟩ ⟨#[]⟩ 60 _ A1.out).mono ?_)
  rintro e w4 ⟨rfl, hb4⟩
  go_wp2_with fail
  (with_reducible refine (seal_Open.calls (q.size + 100) (q ++ ⟨#[d]⟩) ⟨#[]⟩ 60 _ A2.out).mono ?_)
  rintro e w5 ⟨rfl, hb5⟩
  go_wp2_with fail
  (with_reducible refine (seal_Open.calls (q.size + 100) ⟨#[]⟩ ⟨#[]⟩ 60 _ A3.out).mono ?_)
  rintro e w6 ⟨rfl, hb6⟩
  go_wp2_with fail
  go_ret
  have e1 : Below w.heap.size w ((Lib.bytesWorld w3 5 q).setCell ⟨w3.heap.size, i, none⟩ (.int .u8 (x.toNat : Int))) := (bytes_below hb3 hb3.size 5 q).setCell hb3.size _
  exact ⟨rfl, below_step (below_step (below_alloc (below_step e1 hb4) _) hb5) hb6⟩
/-- The same, the byte as a whole number. -/
theorem changed_law (a0 : ByteArray) (a1 : Int) (a9 : Int) (w : World) (w0 : a0.size ≤ 140737488351232) (w1 : (Lit.int .i64 a1).wf = true) (w9 : (Lit.int .u8 a9).wf = true) :
    Calls Try.prog 7 #[.string a0, .int .i64 a1, .int .u8 a9] w fun e w' => e = .returned (.bool true) ∧ Below w.heap.size w w' := by
  have hr : 0 ≤ a9 ∧ a9 ≤ 255 := by
    have e1 : IntKind.u8.min = 0 := by decide
    have e2 : IntKind.u8.max = 255 := by decide
    simpa only [Lit.wf, e1, e2, Bool.and_eq_true, decide_eq_true_eq] using w9
  obtain ⟨d, rfl⟩ : ∃ d : UInt8, a9 = (d.toNat : Int) := ⟨UInt8.ofNat a9.toNat, by rw [UInt8.toNat_ofNat_of_lt' (by omega : a9.toNat < 256)]; omega⟩
  exact changed_walk a0 a1 d w w0 w1

end Go.Proofs.Ytagcfcjkpbcfhaa.Pure
