/- What the frame of an argument of any size hands on of slices of slices of bytes. -/
import Derived.Test.YtnolmcdahpkcnaaFt
import Derived.SizedLaws
namespace Go.Proofs.Ytnolmcdahpkcnaa
open Go.RowKit
set_option linter.unusedVariables false

theorem weightsAll_mem {H : Type} {P : Program} {e : TypeId} : ∀ {l : List (DataW H)} {d : DataW H}, d ∈ l → ∀ n ∈ d.weights P e, n ∈ DataW.weightsAll P e l
  | d' :: r, d, hd, n, hn => by
    simp only [DataW.weightsAll, List.mem_append]
    rcases List.mem_cons.1 hd with rfl | h
    · exact .inl hn
    · exact .inr (weightsAll_mem h n hn)

theorem open_rows2 {H : Type} {enc : TypeId × Value → H} {w : World} {base : Nat} {held : Bool} {fuel : Nat} {a : Option Addr} {len cap : Nat} {x : DataW H × List MemPlace}
    (h : DataW.trod enc Try.prog w base (fun _ => true) held fuel 34 (Value.cells (.slice a len cap)).toList = some x) (hwt : ∀ n ∈ x.1.weights Try.prog 34, n ≤ reachBytes) :
    ∃ bss, Lst w w.heap.size a len bss ∧ len ≤ cap ∧ cap ≤ 9223372036854775807 ∧ ∀ i, i < len → (bss.getD i []).length ≤ 140737488351232 := by
  rcases Go.Deep.open_int_rows Try.underlying34 Try.underlying22 Try.underlying5 (by kernel_rfl) (by kernel_rfl) h with ⟨hcs, rfl⟩ | ⟨y, l, c, A, L, C, Z, hcs, _, hl, hm, rfl, hx⟩
  · simp [Value.cells] at hcs
    obtain ⟨rfl, rfl, rfl⟩ := hcs
    exact ⟨[], ⟨rfl, .inl rfl⟩, Nat.le_refl _, by omega, fun i hi => absurd hi (Nat.not_lt_zero _)⟩
  · simp [Value.cells] at hcs
    obtain ⟨rfl, rfl, rfl⟩ := hcs
    have each : ∀ i, i < len → ∃ bs, Byt w w.heap.size (A i) (L i) bs ∧ L i ≤ C i ∧ C i ≤ 9223372036854775807 := fun i hi => by
      obtain ⟨h1, h2, h3, h4, h5, h6, h7⟩ := hx i (by omega)
      have hrow : IsRow .u8 w (A i) (L i) (C i) (Z i) := by
        cases hA : A i with
        | none =>
          have hc := h6 hA
          have hl0 : L i = 0 := by omega
          have hz : Z i = [] := List.length_eq_zero_iff.1 (by omega)
          exact .inl ⟨rfl, hl0, hc, hz⟩
        | some a' => exact .inr ⟨a', rfl, h2, h3, h4, fun j hj => (h7 a' hA).2 j (by omega), h5⟩
      exact hrow.byt
    obtain ⟨f, hf⟩ : ∃ f : Nat → List UInt8, ∀ i, i < len → Byt w w.heap.size (A i) (L i) (f i) ∧ L i ≤ C i ∧ C i ≤ 9223372036854775807 :=
      ⟨fun i => if hi : i < len then (each i hi).choose else [], fun i hi => by simp only [hi, dite_true]; exact (each i hi).choose_spec⟩
    have hlen : ∀ i, i < len → L i ≤ 140737488351232 := fun i hi => by
      obtain ⟨h1, h2, h3, h4, h5, h6, h7⟩ := hx i (by omega)
      cases hA : A i with
      | none => have := h6 hA; omega
      | some a' =>
        have hb1 : Try.prog.bytesOf 5 = 1 := by kernel_rfl
        have hmem : (L i + (C i - L i)) ∈ DataW.weights Try.prog 22 (Go.Deep.intRow (H := H) .u8 (A i) (L i) (Z i)) := by
          rw [hA]
          unfold Go.Deep.intRow
          simp only [DataW.weights, Try.underlying22, hb1]
          refine List.mem_cons.2 (.inl ?_)
          simp [Go.ChangeShapes.lits]
          omega
        have := hwt _ (by
          rw [DataW.weights, Try.underlying34]
          exact List.mem_cons_of_mem _ (List.mem_append_left _ (weightsAll_mem (List.mem_map.2 ⟨i, List.mem_range.2 hi, rfl⟩) _ hmem)))
        simp only [reachBytes] at this
        omega
    refine ⟨(List.range len).map f, ⟨by simp, ?_⟩, hl, by unfold maxLen at hm; omega, fun i hi => by rw [getD_eq (by simpa using hi)]; simp only [List.getElem_map, List.getElem_range]; rw [(hf i hi).1.1]; exact hlen i hi⟩
    rcases Nat.eq_zero_or_pos len with h0 | h0
    · exact .inl h0
    · obtain ⟨b, off, spot⟩ := y
      have hc0 := (hx 0 (by omega)).1
      have hspot : spot = none := by simpa [Addr.add] using World.cell?_spot hc0
      subst hspot
      have hlt := lt_of_cell hc0
      refine .inr ⟨b, off, rfl, by simpa [Addr.add] using hlt, fun i hi => ?_⟩
      have h1 := (hx i (by omega)).1
      rw [add_plain] at h1
      obtain ⟨h2, h3, h4⟩ := hf i hi
      refine ⟨A i, L i, C i, h1, h3, h4, ?_⟩
      have e : ((List.range len).map f).getD i [] = f i := by rw [getD_eq (by simp; exact hi)]; simp
      rw [e]; exact h2
end Go.Proofs.Ytnolmcdahpkcnaa
