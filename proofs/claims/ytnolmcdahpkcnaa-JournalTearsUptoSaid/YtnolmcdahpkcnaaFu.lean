/- A list of lists of bytes as a row of values: to append it, and to read it behind. -/
import Derived.Test.YtnolmcdahpkcnaaFs
namespace Go.Proofs.Ytnolmcdahpkcnaa
open Go.RowKit
set_option linter.unusedVariables false

structure RowK (w : World) (K : Nat → Prop) (rows : List Value) (bss : List (List UInt8)) : Prop where
  len : rows.length = bss.length
  at_ : ∀ i, i < bss.length → ∃ A l c, rows[i]? = some (.slice A l c) ∧ l ≤ c ∧ c ≤ 9223372036854775807 ∧ ByK w K A l (bss.getD i [])

section
variable {w w' : World} {K K' : Nat → Prop} {rows rows' : List Value} {bss bss' : List (List UInt8)}
theorem ByK.imp {a : Option Addr} {n : Nat} {bs : List UInt8} (h : ByK w K a n bs) (hK : ∀ b, K b → K' b) : ByK w K' a n bs := by
  refine ⟨h.1, ?_⟩
  rcases h.2 with h0 | ⟨b, off, rfl, hb, hc⟩
  · exact .inl h0
  · exact .inr ⟨b, off, rfl, hK b hb, hc⟩
theorem LsK.imp {a : Option Addr} {n : Nat} (h : LsK w K a n bss) (hK : ∀ b, K b → K' b) : LsK w K' a n bss := by
  refine ⟨h.1, ?_⟩
  rcases h.2 with h0 | ⟨b, off, rfl, hb, hc⟩
  · exact .inl h0
  · refine .inr ⟨b, off, rfl, hK b hb, fun i hi => ?_⟩
    obtain ⟨A, l, c, h1, h2, h3, h4⟩ := hc i hi
    exact ⟨A, l, c, h1, h2, h3, h4.imp hK⟩
theorem RowK.imp (h : RowK w K rows bss) (hK : ∀ b, K b → K' b) : RowK w K' rows bss :=
  ⟨h.len, fun i hi => by obtain ⟨A, l, c, h1, h2, h3, h4⟩ := h.at_ i hi; exact ⟨A, l, c, h1, h2, h3, h4.imp hK⟩⟩
theorem RowK.keep (h : RowK w K rows bss) (hk : ∀ b, K b → w'.heap[b]? = w.heap[b]?) : RowK w' K rows bss :=
  ⟨h.len, fun i hi => by obtain ⟨A, l, c, h1, h2, h3, h4⟩ := h.at_ i hi; exact ⟨A, l, c, h1, h2, h3, h4.keep hk⟩⟩
theorem RowK.one (h : RowK w K rows bss) : ∀ u ∈ rows, u.oneCell' = true := by
  intro u hu
  obtain ⟨i, hi, rfl⟩ := List.getElem_of_mem hu
  obtain ⟨A, l, c, h1, _⟩ := h.at_ i (by rw [← h.len]; exact hi)
  rw [List.getElem?_eq_getElem hi] at h1
  injection h1 with h1
  rw [h1]; rfl
theorem RowK.append (h : RowK w K rows bss) (h' : RowK w K rows' bss') : RowK w K (rows ++ rows') (bss ++ bss') := by
  refine ⟨by rw [List.length_append, List.length_append, h.len, h'.len], fun i hi => ?_⟩
  by_cases e : i < bss.length
  · obtain ⟨A, l, c, h1, h2, h3, h4⟩ := h.at_ i e
    refine ⟨A, l, c, by rw [List.getElem?_append_left (by rw [h.len]; exact e)]; exact h1, h2, h3, ?_⟩
    have : (bss ++ bss').getD i [] = bss.getD i [] := by rw [List.getD_eq_getElem?_getD, List.getD_eq_getElem?_getD, List.getElem?_append_left e]
    rw [this]; exact h4
  · rw [List.length_append] at hi
    obtain ⟨A, l, c, h1, h2, h3, h4⟩ := h'.at_ (i - bss.length) (by omega)
    refine ⟨A, l, c, by rw [List.getElem?_append_right (by rw [h.len]; omega), h.len]; exact h1, h2, h3, ?_⟩
    have : (bss ++ bss').getD i [] = bss'.getD (i - bss.length) [] := by rw [List.getD_eq_getElem?_getD, List.getD_eq_getElem?_getD, List.getElem?_append_right (by omega)]
    rw [this]; exact h4
theorem LsK.to_rows {a : Option Addr} {n B : Nat} (h : LsK w K a n bss) (hK : ∀ b, K b → b < B) : ∃ rows, RowK w K rows bss ∧ Reads w B 1 a n rows := by
  rcases h.2 with h0 | ⟨b, off, rfl, hb, hc⟩
  · have : bss = [] := List.length_eq_zero_iff.1 (by rw [h.1, h0])
    subst this h0
    exact ⟨[], ⟨rfl, fun i hi => by simp at hi⟩, rfl, fun h => by omega⟩
  · obtain ⟨f, hf⟩ : ∃ f : Nat → Value, ∀ i, i < n → w.cell? ⟨b, off + i, none⟩ = some (f i) ∧ ∃ A l c, f i = .slice A l c ∧ l ≤ c ∧ c ≤ 9223372036854775807 ∧ ByK w K A l (bss.getD i []) := by
      refine ⟨fun i => (w.cell? ⟨b, off + i, none⟩).getD (.bool false), fun i hi => ?_⟩
      obtain ⟨A, l, c, h1, h2, h3, h4⟩ := hc i hi
      exact ⟨by simp [h1], A, l, c, by simp [h1], h2, h3, h4⟩
    refine ⟨(List.range n).map f, ⟨by simp [h.1], fun i hi => ?_⟩, by simp, fun _ => ⟨_, rfl, hK b hb, fun j u hu => ?_⟩⟩
    · rw [h.1] at hi
      obtain ⟨_, A, l, c, h1, h2, h3, h4⟩ := hf i hi
      exact ⟨A, l, c, by simp [hi, h1], h2, h3, h4⟩
    · have hj : j < n := by have := (List.getElem?_eq_some_iff.1 hu).1; simpa using this
      have hu' : f j = u := by simpa [hj] using hu
      rw [add_plain, (hf j hj).1, hu']
theorem own_lsk {base : Nat} {v : Value} {n : Nat} (h : w.ownsRow base 22 1 v n rows) (hr : RowK w K rows bss) (hn : bss.length = n) (hK : ∀ b, v.ownBlock = some b → K b) :
    ∃ a cap, v = .slice a n cap ∧ n ≤ cap ∧ cap ≤ 9223372036854775807 ∧ LsK w K a n bss := by
  subst hn
  rcases h.2 with ⟨rfl, h0⟩ | ⟨g, cap, cur, rfl, hb, hg, hn, hm, hcs⟩
  · exact ⟨none, 0, by rw [h0], by omega, by omega, rfl, .inl h0⟩
  · refine ⟨_, cap, rfl, hn, by unfold maxLen at hm; omega, rfl, ?_⟩
    rcases Nat.eq_zero_or_pos bss.length with h0 | h0
    · exact .inl h0
    · refine .inr ⟨g, 0, rfl, hK g rfl, fun i hi => ?_⟩
      obtain ⟨A, l, c, h1, h2, h3, h4⟩ := hr.at_ i hi
      have := World.ownsRow.cells h (g := g) rfl i _ h1
      rw [add_plain] at this
      exact ⟨A, l, c, this, h2, h3, h4⟩
end
end Go.Proofs.Ytnolmcdahpkcnaa
