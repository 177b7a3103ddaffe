/- One byte changed: the sum changes. -/
import Derived.Test.YtnolmcdahpkcnaaPc
namespace Go.Proofs.Ytnolmcdahpkcnaa
set_option linter.unusedVariables false

theorem getD_set (l : List UInt8) (j : Nat) (y : UInt8) (i : Nat) (hj : j < l.length) : (l.set j y).getD i 0 = if i = j then y else l.getD i 0 := by
  rw [List.getD_eq_getElem?_getD, List.getD_eq_getElem?_getD, List.getElem?_set]
  by_cases h : j = i
  · subst h; simp [hj]
  · rw [if_neg h, if_neg (fun e => h e.symm)]
theorem sS_set (l : List UInt8) (j : Nat) (y : UInt8) (hj : j < l.length) : ∀ k, k ≤ l.length → sS (l.set j y) k + (if j < k then (l.getD j 0).toNat else 0) = sS l k + (if j < k then y.toNat else 0) := by
  intro k
  induction k with
  | zero => intro _; simp [sS]
  | succ k ih =>
    intro h
    have ih := ih (by omega)
    simp only [sS]
    rw [getD_set l j y k hj]
    by_cases h1 : k = j
    · subst h1
      rw [if_neg (by omega), if_neg (by omega)] at ih
      rw [if_pos rfl, if_pos (by omega), if_pos (by omega)]
      omega
    · rw [if_neg h1]
      by_cases h2 : j < k
      · rw [if_pos h2, if_pos h2] at ih
        rw [if_pos (by omega), if_pos (by omega)]
        omega
      · rw [if_neg h2, if_neg h2] at ih
        rw [if_neg (by omega), if_neg (by omega)]
        omega
theorem sumN_set {l : List UInt8} {j : Nat} {y : UInt8} (hj : j < l.length) (hy : y ≠ l.getD j 0) : sumN (l.set j y) ≠ sumN l := by
  intro e
  rw [sumN_sums, sumN_sums, List.length_set] at e
  have h := sS_set l j y hj l.length (Nat.le_refl _)
  rw [if_pos hj, if_pos hj] at h
  have h1 := (l.getD j 0).toNat_lt
  have h2 := y.toNat_lt
  have h3 : y.toNat ≠ (l.getD j 0).toNat := fun e => hy (UInt8.toNat_inj.1 e)
  generalize (l.getD j 0).toNat = p at *
  generalize y.toNat = q at *
  generalize sS (l.set j y) l.length = S' at *
  generalize sS l l.length = S at *
  have h4 := Nat.mod_lt (1 + S') (show 0 < 65521 by omega)
  have h5 := Nat.mod_lt (1 + S) (show 0 < 65521 by omega)
  have h6 : (1 + S') % 65521 = (1 + S) % 65521 := by omega
  omega
theorem xor_ne {a x : UInt8} (hx : x ≠ 0) : a ^^^ x ≠ a := by
  intro e
  apply hx
  have : a ^^^ (a ^^^ x) = a ^^^ a := by rw [e]
  rw [← UInt8.xor_assoc, UInt8.xor_self, UInt8.zero_xor] at this
  exact this
theorem xor_nat (a x : UInt8) : (a ^^^ x).toNat = a.toNat ^^^ x.toNat := UInt8.toNat_xor a x
end Go.Proofs.Ytnolmcdahpkcnaa
