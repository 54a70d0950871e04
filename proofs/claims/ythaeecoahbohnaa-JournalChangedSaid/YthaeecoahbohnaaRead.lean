/- Plain law on the printed Read of package journal: the records that its text reads as. For texts of at most 29320310074000 bytes (the list of records must fit the memory). -/
import Derived.Test.YthaeecoahbohnaaNext
namespace Go.Proofs.Ythaeecoahbohnaa.Plain
open Go Go.RowKit Go.Proofs.Ythaeecoahbohnaa.PJour Go.Proofs.YthaeecoahbohnaaW.PrintWords Go.Proofs.YthaeecoahbohnaaW.PrintLast Go.Proofs.YthaeecoahbohnaaW.PrintMore
set_option linter.unusedVariables false
/-- From some number of rounds on, it comes to `r`. -/
def EvK {α : Type} (f : Nat → Option α) (r : α) : Prop := ∃ K0, ∀ K, K0 ≤ K → f K = some r
theorem EvK.succ {α : Type} {f g : Nat → Option α} {r : α} (h : EvK g r) (e : ∀ K, f (K + 1) = g K) : EvK f r := by
  obtain ⟨K0, h⟩ := h
  refine ⟨K0 + 1, fun K hK => ?_⟩
  obtain ⟨K, rfl⟩ : ∃ m, K = m + 1 := ⟨K - 1, by omega⟩
  rw [e]
  exact h K (by omega)
theorem EvK.of {α : Type} {f g : Nat → Option α} {r : α} (h : EvK g r) (e : ∀ K, f K = g K) : EvK f r := by
  obtain ⟨K0, h⟩ := h
  exact ⟨K0, fun K hK => (e K).trans (h K hK)⟩
theorem EvK.bind {α β : Type} {f : Nat → Option α} {g : Nat → α → Option β} {a : α} {b : β} (h1 : EvK f a) (h2 : EvK (fun K => g K a) b) : EvK (fun K => (f K).bind (g K)) b := by
  obtain ⟨K1, h1⟩ := h1
  obtain ⟨K2, h2⟩ := h2
  refine ⟨K1 + K2, fun K hK => ?_⟩
  show (f K).bind (g K) = some b
  rw [h1 K (by omega), Option.bind_some]
  exact h2 K (by omega)
theorem EvK.now {α : Type} (r : α) : EvK (fun _ => some r) r := ⟨0, fun _ _ => rfl⟩
theorem EvK.mono {α : Type} {f : Nat → Option α} {r : α} (m : ∀ k, LeO (f k) (f (k + 1))) (k : Nat) (h : f k = some r) : EvK f r := ⟨k, fun K hK => at_rounds m hK h⟩
theorem EvK.one {α : Type} {f : Nat → Option α} {r : α} (h : EvK f r) : ∃ k, f k = some r := ⟨h.choose, h.choose_spec _ (Nat.le_refl _)⟩
theorem EvK.uni {α : Type} {f : Nat → Option α} {r q : α} (h : EvK f r) (g : EvK f q) : r = q := by
  obtain ⟨K1, h⟩ := h
  obtain ⟨K2, g⟩ := g
  have a := h (K1 + K2) (by omega)
  rw [g (K1 + K2) (by omega)] at a
  exact (Option.some.inj a).symm
theorem flat_len (rs : List Rec) : 10 * rs.length ≤ (flat rs).length := by
  induction rs with
  | nil => exact Nat.zero_le _
  | cons x xs ih =>
    show 10 * (xs.length + 1) ≤ (recB x ++ flat xs).length
    have := recB_len x
    rw [List.length_append]
    omega
theorem flat_append (a b : List Rec) : flat (a ++ b) = flat a ++ flat b := List.flatMap_append
theorem flat_one (x : Rec) : flat [x] = recB x := by
  show recB x ++ [] = recB x
  rw [List.append_nil]
theorem next_ev (s : ByteArray) (hs : s.size ≤ 140737488355328) : ∃ r1 r2 r3 r4, EvK (fun K => journal_next.f K s) (r1, r2, r3, r4) ∧ NextOk s.data.toList r1 r2 r3 r4 := by
  obtain ⟨r1, r2, r3, r4, h, hn⟩ := next_tells s hs 300 (Nat.le_refl _)
  exact ⟨r1, r2, r3, r4, EvK.mono (journal_next.mono s) 300 h, hn⟩
theorem read_step (s : ByteArray) (acc : List S29) (i K : Nat) (hi : i ≤ s.size) : journal_Read.l0 (K + 1) s acc (i : Int) =
    ((journal_next.f K (s.extract i s.size)).bind fun b => (if b.2.2.2 = 0 then (some (acc, (i : Int))) else (if acc.length < 2932031007402 then (journal_Read.l0 K s (acc ++ [(⟨b.1, b.2.1, b.2.2.1⟩ : S29)]) (wrap64 ((i : Int) + b.2.2.2))) else (none)))) := by
  have h1 : (0 : Int) ≤ (i : Int) := by omega
  have h2 : (i : Int) ≤ (s.size : Int) := by omega
  rw [journal_Read.l0]
  rw [if_pos h1, if_pos h2, Int.toNat_natCast]
theorem read_l0 (s : ByteArray) (hs : s.size ≤ 29320310074000) (d : Nat) : ∀ (i : Nat) (acc : List S29), s.size - i ≤ d → i ≤ s.size → (∀ x ∈ acc.map recS, Right x) → flat (acc.map recS) = s.data.toList.take i →
    ∃ out, EvK (fun K => journal_Read.l0 K s acc (i : Int)) (out, ((flat (out.map recS)).length : Int)) ∧ Reads s.data.toList (out.map recS) := by
  have hsl : s.data.toList.length = s.size := data_length s
  induction d with
  | zero =>
    intro i acc hd hi hr hf
    obtain rfl : i = s.size := by omega
    obtain ⟨r1, r2, r3, r4, hn, hok⟩ := next_ev (s.extract s.size s.size) (by rw [ext_size _ _ _ (Nat.le_refl _)]; omega)
    have hl : (flat (acc.map recS)).length = s.size := by rw [hf, List.length_take, hsl, Nat.min_self]
    rcases hok with ⟨h0, hno⟩ | ⟨_, hp, _⟩
    · refine ⟨acc, EvK.succ (hn.bind (g := fun K b => (if b.2.2.2 = 0 then (some (acc, (s.size : Int))) else (if acc.length < 2932031007402 then (journal_Read.l0 K s (acc ++ [(⟨b.1, b.2.1, b.2.2.1⟩ : S29)]) (wrap64 ((s.size : Int) + b.2.2.2))) else (none)))) ((EvK.now _).of fun K => ?_)) (fun K => read_step s acc s.size K hi), hr, [], ?_, noRec_nil⟩
      · rw [hl]
        exact if_pos h0
      · rw [List.append_nil, hf, List.take_of_length_le (by omega)]
    · have := hp.length_le
      have h10 := recB_len ⟨r1, r2, r3.data.toList⟩
      rw [data_length, ext_size _ _ _ (Nat.le_refl _)] at this
      omega
  | succ d ih =>
    intro i acc hd hi hr hf
    obtain ⟨r1, r2, r3, r4, hn, hok⟩ := next_ev (s.extract i s.size) (by rw [ext_size _ _ _ (Nat.le_refl _)]; omega)
    have hl : (flat (acc.map recS)).length = i := by rw [hf, List.length_take, hsl, Nat.min_eq_left hi]
    have hel : (s.extract i s.size).data.toList = s.data.toList.drop i := by
      rw [ext_list, List.take_of_length_le (by rw [List.length_drop, hsl]; exact Nat.le_refl _)]
    rw [hel] at hok
    rcases hok with ⟨h0, hno⟩ | ⟨hR, hp, h4⟩
    · refine ⟨acc, EvK.succ (hn.bind (g := fun K b => (if b.2.2.2 = 0 then (some (acc, (i : Int))) else (if acc.length < 2932031007402 then (journal_Read.l0 K s (acc ++ [(⟨b.1, b.2.1, b.2.2.1⟩ : S29)]) (wrap64 ((i : Int) + b.2.2.2))) else (none)))) ((EvK.now _).of fun K => ?_)) (fun K => read_step s acc i K hi), hr, s.data.toList.drop i, ?_, hno⟩
      · rw [hl]
        exact if_pos h0
      · rw [hf, List.take_append_drop]
    · have h10 := recB_len ⟨r1, r2, r3.data.toList⟩
      have hle := hp.length_le
      rw [List.length_drop, hsl] at hle
      obtain ⟨L, hL⟩ : ∃ L, L = (recB ⟨r1, r2, r3.data.toList⟩).length := ⟨_, rfl⟩
      rw [← hL] at h10 hle h4
      have hrec : recB ⟨r1, r2, r3.data.toList⟩ = (s.data.toList.drop i).take L := by
        rw [hL]
        exact List.prefix_iff_eq_take.mp hp
      have hmap : (acc ++ [(⟨r1, r2, r3⟩ : S29)]).map recS = acc.map recS ++ [⟨r1, r2, r3.data.toList⟩] := List.map_append
      have hfl := flat_len (acc.map recS)
      rw [hl, List.length_map] at hfl
      obtain ⟨out, ho, hR2⟩ := ih (i + L) (acc ++ [(⟨r1, r2, r3⟩ : S29)]) (by omega) (by omega)
        (by
          rw [hmap]
          intro x hx
          rcases List.mem_append.mp hx with hx | hx
          · exact hr x hx
          · rw [List.mem_singleton.mp hx]
            exact hR)
        (by rw [hmap, flat_append, flat_one, hf, hrec, List.take_add])
      refine ⟨out, EvK.succ (hn.bind (g := fun K b => (if b.2.2.2 = 0 then (some (acc, (i : Int))) else (if acc.length < 2932031007402 then (journal_Read.l0 K s (acc ++ [(⟨b.1, b.2.1, b.2.2.1⟩ : S29)]) (wrap64 ((i : Int) + b.2.2.2))) else (none)))) (ho.of fun K => ?_)) (fun K => read_step s acc i K hi), hR2⟩
      have hne : ¬ (r4 = 0) := by omega
      have hla : acc.length < 2932031007402 := by omega
      have hw : wrap64 ((i : Int) + r4) = ((i + L : Nat) : Int) := by rw [h4]; unfold wrap64; omega
      show (if r4 = 0 then _ else _) = _
      rw [if_neg hne, if_pos hla, hw]
theorem read_tells (s : ByteArray) (hs : s.size ≤ 29320310074000) : ∃ out, EvK (fun K => journal_Read.f K s) (out, ((flat (out.map recS)).length : Int)) ∧ Reads s.data.toList (out.map recS) :=
  read_l0 s hs s.size 0 [] (by omega) (by omega) (fun x hx => absurd hx (by simp)) rfl
/-- Equal as records, equal as lists. -/
theorem recS_inj {x y : S29} (h : recS x = recS y) : x = y := by
  obtain ⟨a, b, c⟩ := x
  obtain ⟨a', b', c'⟩ := y
  have h1 : a = a' := congrArg Rec.k h
  have h2 : b = b' := congrArg Rec.ns h
  have h3 : c.data.toList = c'.data.toList := congrArg Rec.t h
  rw [h1, h2, bytes_ext h3]
theorem map_recS_inj (a : List S29) : ∀ b : List S29, a.map recS = b.map recS → a = b := by
  induction a with
  | nil => intro b h; cases b with
    | nil => rfl
    | cons y ys => exact absurd h (by simp)
  | cons x xs ih =>
    intro b h
    cases b with
    | nil => exact absurd h (by simp)
    | cons y ys =>
      rw [List.map_cons, List.map_cons, List.cons.injEq] at h
      rw [recS_inj h.1, ih ys h.2]
/-- Read of a text that reads as rs. -/
theorem read_of (s : ByteArray) (hs : s.size ≤ 29320310074000) (rs : List S29) (h : Reads s.data.toList (rs.map recS)) : EvK (fun K => journal_Read.f K s) (rs, ((flat (rs.map recS)).length : Int)) := by
  obtain ⟨out, ho, hr⟩ := read_tells s hs
  have e := map_recS_inj _ _ (reads_unique _ _ _ h hr)
  rw [e]
  exact ho
theorem reads_flat (rs : List Rec) (h : ∀ x ∈ rs, Right x) : Reads (flat rs) rs := ⟨h, [], by rw [List.append_nil], noRec_nil⟩
end Go.Proofs.Ythaeecoahbohnaa.Plain
