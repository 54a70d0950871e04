/- Words on a text turned into bytes, of which one is written, and turned back. Over any program; no conditions. -/
import Derived.Test.YthaeecoahbohnaaWWords
import Derived.Laws.IdiomStrings
import Derived.Laws.World
import Derived.Laws.BitsAllLaws
namespace Go.Proofs.Ythaeecoahbohnaa.Plain
open Go Go.RowKit Go.Proofs.YthaeecoahbohnaaW.PrintWords
section
variable {P : Program}
theorem bw_frozen (W : World) (e : TypeId) (s : ByteArray) (j : Nat) (hj : j < s.size) : (Lib.bytesWorld W e s).frozen? ⟨W.heap.size, j, none⟩ = false := by
  have h := Lib.bytesWorld_at_new W e s
  have hs : s.size ≤ (Lib.bytesCells W e s).size := by
    simp only [Lib.bytesCells, Array.size_append, Array.size_map]
    show s.data.size ≤ _
    omega
  simp [World.frozen?, h]
  omega
theorem bw_cell (W : World) (e : TypeId) (s : ByteArray) (j : Nat) (hj : j < s.size) : (Lib.bytesWorld W e s).cell? ⟨W.heap.size, j, none⟩ = some (.int .u8 (bt s j)) := by
  rw [Lib.bytesWorld_cell W e s j hj]
  unfold bt
  rw [Int.toNat_natCast, dif_pos hj, List.getD_eq_getElem?_getD, List.getElem?_eq_getElem (by rw [data_length]; exact hj)]
  rfl
/-- string(b), where one byte of b = []byte(s) was written; V may stand some draws behind the conversion. -/
theorem bw_back_of (W V : World) {e : TypeId} {s : ByteArray} (hV : ∀ a, V.cell? a = (Lib.bytesWorld W e s).cell? a) (src dst e' : TypeId) (i cap : Nat) (hi : i < s.size) (c : UInt8) (hs : P.underlying src = some (.slice e')) (he : P.underlying e' = some (.int .u8)) (hd : P.underlying dst = some .string) :
    (convert src dst (.slice (some ⟨W.heap.size, 0, none⟩) s.size cap)).run P (V.setCell ⟨W.heap.size, i, none⟩ (.int .u8 (c.toNat : Int))) =
      .ok (.string ⟨(s.data.toList.set i c).toArray⟩) (V.setCell ⟨W.heap.size, i, none⟩ (.int .u8 (c.toNat : Int))) := by
  have hl : (s.data.toList.set i c).length = s.size := by rw [List.length_set, data_length]
  have h := run_convert_bytes_back (P := P) (V.setCell ⟨W.heap.size, i, none⟩ (.int .u8 (c.toNat : Int))) src dst e' ⟨W.heap.size, 0, none⟩ cap (s.data.toList.set i c) hs he hd ?_
  · rw [hl] at h
    exact h
  · intro j hj
    rw [hl] at hj
    rw [add_plain]
    by_cases e1 : i = j
    · subst e1
      have h2 := World.cell?_setCell_same (v := Value.int .u8 (c.toNat : Int)) (h := (hV _).trans (bw_cell W e s i hi))
      rw [h2, List.getElem_set_self]
    · have h2 := World.cell?_setCell_other (w := V) (v := Value.int .u8 (c.toNat : Int)) (a := ⟨W.heap.size, i, none⟩) (b := ⟨W.heap.size, j, none⟩) (h := by intro h; exact e1 (by injection h))
      rw [h2, hV, Lib.bytesWorld_cell W e s j hj, List.getElem_set_ne e1, List.getD_eq_getElem?_getD, List.getElem?_eq_getElem (by rw [data_length]; exact hj)]
      rfl
theorem bw_back (W : World) (src dst e : TypeId) (s : ByteArray) (i cap : Nat) (hi : i < s.size) (c : UInt8) (hs : P.underlying src = some (.slice e)) (he : P.underlying e = some (.int .u8)) (hd : P.underlying dst = some .string) :
    (convert src dst (.slice (some ⟨W.heap.size, 0, none⟩) s.size cap)).run P ((Lib.bytesWorld W e s).setCell ⟨W.heap.size, i, none⟩ (.int .u8 (c.toNat : Int))) =
      .ok (.string ⟨(s.data.toList.set i c).toArray⟩) ((Lib.bytesWorld W e s).setCell ⟨W.heap.size, i, none⟩ (.int .u8 (c.toNat : Int))) :=
  bw_back_of W _ (fun _ => rfl) src dst e i cap hi c hs he hd
/-- string([]byte{c}). -/
theorem one_back (W : World) (src dst e : TypeId) (c : UInt8) (hs : P.underlying src = some (.slice e)) (he : P.underlying e = some (.int .u8)) (hd : P.underlying dst = some .string) :
    (convert src dst (.slice (some ⟨W.heap.size, 0, none⟩) 1 1)).run P (W.alloc (.cells #[.int .u8 (c.toNat : Int)] e)) = .ok (.string ⟨#[c]⟩) (W.alloc (.cells #[.int .u8 (c.toNat : Int)] e)) := by
  have h := run_convert_bytes_back (P := P) (W.alloc (.cells #[.int .u8 (c.toNat : Int)] e)) src dst e ⟨W.heap.size, 0, none⟩ 1 [c] hs he hd ?_
  · exact h
  · intro j hj
    obtain rfl : j = 0 := by simpa using hj
    rw [add_plain, cell_of_row _ _ _ _ _ _ (heap_alloc_new _ _)]
    rfl
/-- The byte that is written is another one. -/
theorem flip_byte (c d : UInt8) : ∃ x : UInt8, Go.bits .xor .u8 (c.toNat : Int) (1 + (d.toNat : Int) % 255) = (x.toNat : Int) ∧ x ≠ c := by
  have hc := c.toNat_lt
  have hd := d.toNat_lt
  have h1 : (d.toNat : Int) % 255 = ((d.toNat % 255 : Nat) : Int) := by omega
  have hm : d.toNat % 255 < 255 := Nat.mod_lt _ (by decide)
  have h2 : (1 : Int) + ((d.toNat % 255 : Nat) : Int) = ((1 + d.toNat % 255 : Nat) : Int) := by omega
  rw [h1, h2, u8_xor_nat _ _ hc (by omega)]
  have hx : c.toNat ^^^ (1 + d.toNat % 255) < 256 := Nat.xor_lt_two_pow (n := 8) (by omega) (by omega)
  refine ⟨UInt8.ofNat (c.toNat ^^^ (1 + d.toNat % 255)), ?_, fun e => ?_⟩
  · rw [UInt8.toNat_ofNat_of_lt' hx]
  · have e2 := congrArg UInt8.toNat e
    rw [UInt8.toNat_ofNat_of_lt' hx] at e2
    have e3 := congrArg (fun z => c.toNat ^^^ z) e2
    simp only [← Nat.xor_assoc, Nat.xor_self, Nat.zero_xor] at e3
    omega
end
end Go.Proofs.Ythaeecoahbohnaa.Plain
