/- Small laws for the walks of the laws: the same heap, the records of a scan. -/
import Derived.Test.YtnolmcdahpkcnaaFr
namespace Go.Proofs.Ytnolmcdahpkcnaa
open Go.RowKit
set_option linter.unusedVariables false

theorem scan_recs (n : Nat) : ∀ l : List UInt8, l.length ≤ n → ∀ i, i < (scanS l).1.length → ((scanS l).1.getD i []).length ≤ 65536 := by
  induction n with
  | zero => intro l hl i hi; have : l = [] := List.length_eq_zero_iff.1 (by omega)
            subst this; rw [scan_nil] at hi; simp at hi
  | succ n ih =>
    intro l hl i hi
    by_cases h0 : l = []
    · subst h0; rw [scan_nil] at hi; simp at hi
    · by_cases h : (nextS l).2 = 0
      · have h1 := nextS_len h
        have h2 := ih (l.drop (8 + (nextS l).1.length)) (by rw [List.length_drop]; omega)
        rw [scan_cons h] at hi ⊢
        cases i with
        | zero => exact h1.2
        | succ i => exact h2 i (by simpa using hi)
      · rw [scan_bad h0 h] at hi; simp at hi
theorem scan_rec (l : List UInt8) (i : Nat) (hi : i < (scanS l).1.length) : ((scanS l).1.getD i []).length ≤ 65536 := scan_recs l.length l (Nat.le_refl _) i hi

theorem Jrn.heap {w W : World} {base g : Nat} {bs : List UInt8} {bss : List (List UInt8)} (h : Jrn w base g bs bss) (e : W.heap = w.heap) : Jrn W base g bs bss := by
  obtain ⟨vb, vl, rows, h⟩ := h
  exact ⟨vb, vl, rows, h.keep fun k _ _ => by rw [e]⟩
theorem cell_heap {w W : World} (e : W.heap = w.heap) (p : Addr) : W.cell? p = w.cell? p := by unfold World.cell?; rw [e]
theorem Lst.heap {w W : World} {B : Nat} {a : Option Addr} {n : Nat} {bss : List (List UInt8)} (h : Lst w B a n bss) (e : W.heap = w.heap) : Lst W B a n bss := h.keep fun b o _ => cell_heap e _
theorem Byt.heap {w W : World} {B : Nat} {a : Option Addr} {n : Nat} {bs : List UInt8} (h : Byt w B a n bs) (e : W.heap = w.heap) : Byt W B a n bs := h.keep fun b o _ => cell_heap e _
theorem OwnR.form_ {w : World} {base : Nat} {v : Value} {rows : List Value} {bss : List (List UInt8)} {n : Nat} (h : OwnR w base v rows bss) (hn : bss.length = n) :
    ∃ a cap, v = .slice a n cap ∧ n ≤ cap ∧ cap ≤ 9223372036854775807 ∧ Lst w w.heap.size a n bss := by subst hn; exact h.form
/-- The same world but for its draws. -/
structure Alike (w W : World) : Prop where
  os : W.os = w.os
  tape : W.tape = w.tape
  output : W.output = w.output
  heap : W.heap = w.heap
theorem Alike.refl (w : World) : Alike w w := ⟨rfl, rfl, rfl, rfl⟩
theorem Alike.drewN {w W : World} (h : Alike w W) (n : Nat) : Alike w (W.drewN n) := ⟨h.os, h.tape, h.output, h.heap⟩
theorem Alike.drew {w W : World} (h : Alike w W) : Alike w W.drew := ⟨h.os, h.tape, h.output, h.heap⟩
theorem Alike.below {w W : World} {B : Nat} (h : Alike w W) : Below B w W := ⟨h.os, h.tape, h.output, by rw [h.heap]; exact Nat.le_refl _, fun k _ => by rw [h.heap]⟩
end Go.Proofs.Ytnolmcdahpkcnaa
