/- Opening an argument of records: what stands in memory, as a list of records. -/
import Derived.Test.YthaeecoahbohnaaFit
import Derived.Deep.Slices
import Derived.Deep.Fields
import Derived.ChangeSame
import Derived.OpenShut
namespace Go.Proofs.Ythaeecoahbohnaa.Plain
open Go Go.RowKit Go.Proofs.Ythaeecoahbohnaa.PJour Go.Proofs.YthaeecoahbohnaaW.PrintWords Go.Proofs.YthaeecoahbohnaaW.PrintLast Go.Proofs.YthaeecoahbohnaaW.PrintMore
open Go.ChangeShapes Go.WideShapes Go.Deep
set_option linter.unusedVariables false
theorem int_range {n : Int} (h : (Lit.int .i64 n).wf = true) : -9223372036854775808 ≤ n ∧ n ≤ 9223372036854775807 := by
  have e1 : IntKind.i64.min = -9223372036854775808 := by decide
  have e2 : IntKind.i64.max = 9223372036854775807 := by decide
  simpa only [Lit.wf, e1, e2, Bool.and_eq_true, decide_eq_true_eq] using h
/-- A row of ints that is read, shorter than what stands there. -/
theorem ints_row {w : World} {a : Addr} {len : Nat} {zs : List Int} (hl : len ≤ zs.length) (hm : len ≤ 9223372036854775807) (hc : ∀ i, i < zs.length → w.cell? (a.add i) = some (.int .i64 (zs.getD i 0))) : (Kd.int .i64).C w (some a) len (zs.take len) := by
  have h : ReadsInt w .i64 (some a) len (zs.take len) := ⟨by rw [List.length_take]; omega, hm, fun _ => ⟨a, rfl, fun j hj => by
    rw [hc j (by omega)]
    congr 2
    rw [List.getD_eq_getElem?_getD, List.getD_eq_getElem?_getD, List.getElem?_take_of_lt hj]⟩⟩
  exact Kd.C_of_reads h
section
variable {H : Type} {enc : TypeId × Value → H} {w : World} {base : Nat} {spare : Nat → Bool} {held : Bool}
theorem open_nums {fuel : Nat} {v : Value} {y : DataW H × List MemPlace} (h : DataW.trod enc Try.prog w base spare held fuel 27 [v] = some y) :
    ∃ (A : Option Addr) (c : Nat) (ns : List Int), v = .slice A ns.length c ∧ ns.length ≤ c ∧ (Kd.int .i64).C w A ns.length ns ∧ (∀ n ∈ ns, -9223372036854775808 ≤ n ∧ n ≤ 9223372036854775807) ∧ ns.length ≤ maxLen := by
  rcases open_ints Try.underlying27 Try.underlying3 (by kernel_rfl) h with ⟨hcs, _⟩ | ⟨x, l, c, zs, hcs, _, hl, hm, hz, _, hcell, hwz⟩
  · have e : v = .slice none 0 0 := by simpa using hcs
    exact ⟨none, 0, [], e, Nat.le_refl _, ⟨rfl, Nat.zero_le _, fun h => absurd h (by simp)⟩, fun n hn => absurd hn (by simp), Nat.zero_le _⟩
  · have e : v = .slice (some x) l c := by simpa using hcs
    have hlz : l ≤ zs.length := by rw [hz]; split <;> omega
    have hlen : (zs.take l).length = l := by rw [List.length_take]; omega
    have hm63 : l ≤ 9223372036854775807 := by
      have : maxLen ≤ 9223372036854775807 := by decide
      omega
    refine ⟨some x, c, zs.take l, by rw [hlen]; exact e, by rw [hlen]; exact hl, by rw [hlen]; exact ints_row hlz hm63 hcell, fun n hn => int_range (hwz n (List.mem_of_mem_take hn)), by rw [hlen]; omega⟩
structure Fits (x : S29) : Prop where
  r : InR x
  n : x.f1.length ≤ maxLen
  t : x.f2.size ≤ maxLen
theorem cells29 : Try.prog.cellsOf 29 = 3 := by kernel_rfl
theorem cells3 : Try.prog.cellsOf 3 = 1 := by kernel_rfl
theorem cells27 : Try.prog.cellsOf 27 = 1 := by kernel_rfl
theorem cells9 : Try.prog.cellsOf 9 = 1 := by kernel_rfl
/-- One record. -/
theorem rec_at {fuel : Nat} {cs : List Value} {y : DataW H × List MemPlace} (h : DataW.trod enc Try.prog w base spare held fuel 29 cs = some y) : ∃ x : S29, Fits x ∧ k29.K w x cs := by
  obtain ⟨xs, n, _, _, hlen, hxl, hfd⟩ := DataW.trod_struct Try.underlying29 h
  rw [cells29] at hlen
  match cs, xs, hlen, hxl with
  | [u0, u1, u2], [y0, y1, y2], _, _ =>
    have t0 : DataW.trod enc Try.prog w base spare held n 3 [u0] = some y0 := by
      have e : DataW.trod enc Try.prog w base spare held n 3 ((([u0, u1, u2] : List Value).drop 0).take (Try.prog.cellsOf 3)) = some y0 := hfd 0 _ rfl
      rw [cells3] at e
      exact e
    have t1 : DataW.trod enc Try.prog w base spare held n 27 [u1] = some y1 := by
      have e : DataW.trod enc Try.prog w base spare held n 27 ((([u0, u1, u2] : List Value).drop 1).take (Try.prog.cellsOf 27)) = some y1 := hfd 1 _ rfl
      rw [cells27] at e
      exact e
    have t2 : DataW.trod enc Try.prog w base spare held n 9 [u2] = some y2 := by
      have e : DataW.trod enc Try.prog w base spare held n 9 ((([u0, u1, u2] : List Value).drop 2).take (Try.prog.cellsOf 9)) = some y2 := hfd 2 _ rfl
      rw [cells9] at e
      exact e
    obtain ⟨z, hz, _, hwf⟩ := DataW.trod_int Try.underlying3 t0
    obtain ⟨A1, k1, ns, hv1, hk1, hC1, hr1, hn1⟩ := open_nums t1
    obtain ⟨s, hs, _, hss⟩ := DataW.trod_string Try.underlying9 t2
    obtain rfl : u0 = .int .i64 z := by simpa using hz
    obtain rfl : u2 = .string s := by simpa using hs
    subst hv1
    exact ⟨⟨z, ns, s⟩, ⟨⟨int_range hwf, hr1⟩, hn1, hss⟩, k29_mk w ⟨z, ns, s⟩ hk1 hC1⟩
theorem open_recs {r : Reach} {b0 : Nat} {v : Value} {d : DataW H} {p : List MemPlace} (hval : Value.okWide Try.prog w r b0 22 v) (h : DataW.Trod enc Try.prog w base spare held 22 v d p) :
    ∃ (A : Option Addr) (c : Nat) (l : List S29), v = .slice A l.length c ∧ l.length ≤ c ∧ Kd.C k29 w A l.length l ∧ (∀ x ∈ l, Fits x) ∧ l.length ≤ maxLen := by
  obtain ⟨a0, len0, cap0, rfl⟩ := okWide_slice Try.underlying22 hval
  obtain ⟨fuel, hf⟩ := h
  rcases open_slice Try.underlying22 hf with ⟨hcs, _⟩ | ⟨a, len, cap, m, n, D, Pl, hcs, hb, hl, hm, hmm, _, hi⟩
  · simp [Value.cells] at hcs
    obtain ⟨rfl, rfl, rfl⟩ := hcs
    exact ⟨none, 0, [], rfl, Nat.le_refl _, ⟨rfl, Nat.zero_le _, fun h => absurd h (by simp)⟩, fun x hx => absurd hx (by simp), Nat.zero_le _⟩
  · simp [Value.cells] at hcs
    obtain ⟨rfl, rfl, rfl⟩ := hcs
    have hlm : len0 ≤ m := by rw [hmm]; split <;> omega
    rw [cells29] at hi
    have hx : ∀ i, i < m → ∃ x : S29, Fits x ∧ ∃ cs, cs.length = 3 ∧ k29.K w x cs ∧ ∀ j u, cs[j]? = some u → w.cell? (a.add (i * 3 + j)) = some u := by
      intro i him
      obtain ⟨cs, hc, ht⟩ := hi i him
      obtain ⟨_, hcl, hat⟩ := World.cells?_some hc
      obtain ⟨x, hxf, hxk⟩ := rec_at ht
      refine ⟨x, hxf, cs, hcl, hxk, fun j u hj => ?_⟩
      have hj3 : j < 3 := by rw [← hcl]; exact (List.getElem?_eq_some_iff.mp hj).1
      rw [← hj, ← hat j hj3, Go.Deep.add_add]
    obtain ⟨g, hg⟩ : ∃ g : Nat → S29, ∀ i, i < m → Fits (g i) ∧ ∃ cs, cs.length = 3 ∧ k29.K w (g i) cs ∧ ∀ j u, cs[j]? = some u → w.cell? (a.add (i * 3 + j)) = some u :=
      ⟨fun i => if h : i < m then (hx i h).choose else z29, fun i h => by
        have e : (fun i => if h : i < m then (hx i h).choose else z29) i = (hx i h).choose := dif_pos h
        rw [e]
        exact (hx i h).choose_spec⟩
    have hlen : ((List.range len0).map g).length = len0 := by rw [List.length_map, List.length_range]
    have hm63 : len0 ≤ 9223372036854775807 := by
      have : maxLen ≤ 9223372036854775807 := by decide
      omega
    refine ⟨some a, cap0, (List.range len0).map g, by rw [hlen], by rw [hlen]; exact hl, ⟨rfl, by rw [hlen]; exact hm63, fun _ => ⟨a, rfl, fun j p hj => ?_⟩⟩, fun x hxm => ?_, by rw [hlen]; omega⟩
    · rw [List.getElem?_map] at hj
      obtain ⟨i, hi', rfl⟩ := Option.map_eq_some_iff.mp hj
      have hjl : j < len0 := by
        have := (List.getElem?_eq_some_iff.mp hi').1
        rwa [List.length_range] at this
      obtain rfl : j = i := by
        rw [List.getElem?_range hjl] at hi'
        exact Option.some.inj hi'
      obtain ⟨_, cs, hc1, hc2, hc3⟩ := hg j (by omega)
      exact ⟨cs, hc1, hc2, hc3⟩
    · obtain ⟨i, hi', rfl⟩ := List.mem_map.mp hxm
      exact (hg i (by have := List.mem_range.mp hi'; omega)).1
end
end Go.Proofs.Ythaeecoahbohnaa.Plain
