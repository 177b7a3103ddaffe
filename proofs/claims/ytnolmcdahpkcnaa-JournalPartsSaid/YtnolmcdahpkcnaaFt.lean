/- What the frames hand on of slices of slices of bytes. -/
import Derived.Test.YtnolmcdahpkcnaaFs
import Derived.Deep.Matrix
import Derived.Test.YtnolmcdahpkcnaaBulk
namespace Go.Proofs.Ytnolmcdahpkcnaa
open Go.RowKit
set_option linter.unusedVariables false

theorem bulk_rows {H : Type} (k : IntKind) (A : Nat → Option Addr) (L C : Nat → Nat) (Z : Nat → List Int) (f : Nat → List UInt8) : ∀ l : List Nat, (∀ i ∈ l, (f i).length = L i ∧ L i ≤ C i ∧ (Z i).length = C i ∧ (A i = none → C i = 0)) →
    l.length + (l.map f).flatten.length ≤ Rows.uptoBulkAll (l.map fun r => Go.Deep.intRow (H := H) k (A r) (L r) (Z r)) := by
  intro l
  induction l with
  | nil => intro _; simp [Rows.uptoBulkAll]
  | cons i l ih =>
    intro h
    have h1 := ih fun j hj => h j (List.mem_cons_of_mem _ hj)
    obtain ⟨h2, h3, h4, h5⟩ := h i List.mem_cons_self
    have h6 : L i + 1 ≤ Rows.uptoBulk (Go.Deep.intRow (H := H) k (A i) (L i) (Z i)) := by
      cases hA : A i with
      | none => have := h5 hA; have := bulks.one_le (Go.Deep.intRow (H := H) k none (L i) (Z i)); omega
      | some a =>
        unfold Go.Deep.intRow
        have := bulks.slice_le (H := H) (Go.ChangeShapes.lits k ((Z i).take (L i))) (Go.ChangeShapes.lits k ((Z i).drop (L i)))
        have e : (Go.ChangeShapes.lits (H := H) k ((Z i).take (L i))).length = L i := by simp [Go.ChangeShapes.lits]; omega
        simp only
        omega
    simp only [List.map_cons, List.flatten_cons, List.length_append, List.length_cons, Rows.uptoBulkAll]
    omega

theorem open_rows {H : Type} {enc : TypeId × Value → H} {w : World} {base : Nat} {held : Bool} {fuel : Nat} {a : Option Addr} {len cap : Nat} {x : DataW H × List MemPlace}
    (h : DataW.trod enc Try.prog w base (fun _ => true) held fuel 34 (Value.cells (.slice a len cap)).toList = some x) :
    ∃ bss, Lst w w.heap.size a len bss ∧ len ≤ cap ∧ cap ≤ 9223372036854775807 ∧ len + bss.flatten.length ≤ Rows.uptoBulk x.1 := by
  rcases Go.Deep.open_int_rows Try.underlying34 Try.underlying22 Try.underlying5 (by kernel_rfl) (by kernel_rfl) h with ⟨hcs, rfl⟩ | ⟨y, l, c, A, L, C, Z, hcs, _, hl, hm, rfl, hx⟩
  · simp [Value.cells] at hcs
    obtain ⟨rfl, rfl, rfl⟩ := hcs
    exact ⟨[], ⟨rfl, .inl rfl⟩, Nat.le_refl _, by omega, by simp⟩
  · simp [Value.cells] at hcs
    obtain ⟨rfl, rfl, rfl⟩ := hcs
    have each : ∀ i, i < len → ∃ bs, Byt w w.heap.size (A i) (L i) bs ∧ L i ≤ C i ∧ C i ≤ 9223372036854775807 := fun i hi => by
      obtain ⟨h1, h2, h3, h4, h5, h6, h7⟩ := hx i (by omega)
      have hrow : IsRow .u8 w (A i) (L i) (C i) (Z i) := by
        cases hA : A i with
        | none =>
          have hc := h6 hA
          have hl0 : L i = 0 := by omega
          have hz : Z i = [] := List.length_eq_zero_iff.1 (by omega)
          exact .inl ⟨rfl, hl0, hc, hz⟩
        | some a' => exact .inr ⟨a', rfl, h2, h3, h4, fun j hj => (h7 a' hA).2 j (by omega), h5⟩
      exact hrow.byt
    obtain ⟨f, hf⟩ : ∃ f : Nat → List UInt8, ∀ i, i < len → Byt w w.heap.size (A i) (L i) (f i) ∧ L i ≤ C i ∧ C i ≤ 9223372036854775807 :=
      ⟨fun i => if hi : i < len then (each i hi).choose else [], fun i hi => by simp only [hi, dite_true]; exact (each i hi).choose_spec⟩
    have hbulk : len + ((List.range len).map f).flatten.length ≤ Rows.uptoBulkAll ((List.range len).map fun r => Go.Deep.intRow (H := H) .u8 (A r) (L r) (Z r)) := by
      have := bulk_rows (H := H) .u8 A L C Z f (List.range len) fun i hi => by
        have hi' : i < len := List.mem_range.1 hi
        obtain ⟨h1, h2, h3, h4, h5, h6, h7⟩ := hx i (by omega)
        exact ⟨(hf i hi').1.1, h2, h4, h6⟩
      rwa [List.length_range] at this
    refine ⟨(List.range len).map f, ⟨by simp, ?_⟩, hl, by unfold maxLen at hm; omega, Nat.le_trans hbulk (Nat.le_trans (Nat.le_succ _) (bulks.slice_elems _ _))⟩
    rcases Nat.eq_zero_or_pos len with h0 | h0
    · exact .inl h0
    · obtain ⟨b, off, spot⟩ := y
      have hc0 := (hx 0 (by omega)).1
      have hspot : spot = none := by simpa [Addr.add] using World.cell?_spot hc0
      subst hspot
      have hlt := lt_of_cell hc0
      refine .inr ⟨b, off, rfl, by simpa [Addr.add] using hlt, fun i hi => ?_⟩
      have h1 := (hx i (by omega)).1
      rw [add_plain] at h1
      obtain ⟨h2, h3, h4⟩ := hf i hi
      refine ⟨A i, L i, C i, h1, h3, h4, ?_⟩
      have e : ((List.range len).map f).getD i [] = f i := by rw [getD_eq (by simp; exact hi)]; simp
      rw [e]; exact h2
end Go.Proofs.Ytnolmcdahpkcnaa
