/- The contracts of the reader's item and of Decode. -/
import Derived.Test.YtkmikpmbnfcbpaaHi
namespace Go.Proofs.Ytkmikpmbnfcbpaa
open Go.RowKit Go.Lib
set_option linter.unusedVariables false
open Tree

theorem item_calls (g : Nat) : ∀ (d : Nat), d ≤ 20 → ∀ (w : World) (bs : List UInt8) (L : Int), bs.length ≤ 4194304 → 0 ≤ L → L ≤ 20000 → RdAt w g bs L false → Calls Try.prog 38 #[.pointer (some ⟨g, 0, none⟩), .int .i64 d] w (RdP w g d L bs) := by
  intro d
  induction d with
  | zero => intro hd w bs L hl h0 h1 hR; exact item_bad 0 w g bs L hd h0 h1 hR (.inr (.inl rfl))
  | succ d ih =>
    intro hd w bs L hl h0 h1 hR
    cases bs with
    | nil => exact item_bad _ w g [] L hd h0 h1 hR (.inr (.inr (by simp)))
    | cons b bs =>
      simp only [List.length_cons] at hl
      by_cases hL : L = 0
      · exact item_bad _ w g _ L hd h0 h1 hR (.inl hL)
      have hL1 : ¬ (L - 1 < 0) := by omega
      have hd0 : ¬ (((d + 1 : Nat) : Int) = 0) := by omega
      have hlen : bs.length ≤ 4194304 := by omega
      by_cases hb1 : b.toNat = 1
      · by_cases hn : bs.length < 8
        · exact item_num_bad _ w g b bs L hd hL1 h1 hd0 hR hb1 hn
        · exact item_num_ok _ w g b bs L hd hL1 h1 hd0 hR hb1 (by omega)
      by_cases hb2 : b.toNat = 2
      · by_cases hn : bs.length < 4
        · exact item_txt_short _ w g b bs L hd hL1 h1 hd0 hR hb2 hlen hn
        · by_cases hm : (bs.drop 4).length < ofBe (bs.take 4)
          · exact item_txt_cut _ w g b bs L hd hL1 h1 hd0 hR hb2 hlen ⟨by omega, hm⟩
          · exact item_txt_ok _ w g b bs L hd hL1 h1 hd0 hR hb2 hlen ⟨by omega, by omega⟩
      by_cases hb3 : b.toNat = 3
      · by_cases hn : bs.length < 4
        · exact item_lst_short _ w g b bs L hd hL1 h1 hd0 hR hb3 hlen hn
        · refine item_lst_ok _ w g b bs L hd hL1 h1 hd0 hR hb3 hlen (by omega) fun W cs M k1 k2 k3 k4 => ?_
          have e : ((d + 1 : Nat) : Int) - 1 = (d : Nat) := by omega
          rw [e]
          exact ih (by omega) W cs M k1 k2 k3 k4
      · exact item_kind _ w g b bs L hd hL1 h1 hd0 hR ⟨hb1, hb2, hb3⟩

/-- What Decode answers. -/
def Dec (bs : List UInt8) (t : Tree) (e : Int) : Prop := (e = 0 ∧ Fits t 20 ∧ Wf t ∧ enc t = bs) ∨ (e = 5 ∧ t = .mk 0 0 ⟨#[]⟩ [] ∧ ∀ u, Fits u 20 → Wf u → enc u ≠ bs)
def RetD (w : World) (bs : List UInt8) (e : Ending) (w' : World) : Prop :=
  ∃ t a c r, e = .returned (.tuple #[val t a c, .int .i64 r]) ∧ At w' (fun b => w.heap.size ≤ b ∧ b < w'.heap.size) t a c ∧ Below w.heap.size w w' ∧ Dec bs t r
end Go.Proofs.Ytkmikpmbnfcbpaa
