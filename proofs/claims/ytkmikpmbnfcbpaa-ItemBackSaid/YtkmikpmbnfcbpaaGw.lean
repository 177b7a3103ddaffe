/- A value as an any, and back. -/
import Derived.Test.YtkmikpmbnfcbpaaGv
namespace Go.Proofs.Ytkmikpmbnfcbpaa
open Go.RowKit Go.Lib
set_option linter.unusedVariables false
open Tree Anyv

mutual
theorem ty_toA : ∀ (t : Tree) (d : Nat), Ty d (toA t)
  | .mk k n s l, d => by
    simp only [toA]
    split
    · simp only [Ty]
    · split
      · simp only [Ty]
      · simp only [Ty]; exact .inr (ty_toAL l (d + 1))
theorem ty_toAL : ∀ (l : List Tree) (d : Nat), TyL d (toAL l)
  | [], d => by simp only [toAL, TyL]
  | t :: r, d => by simp only [toAL, TyL]; exact ⟨ty_toA t d, ty_toAL r d⟩
end
mutual
theorem size_toA : ∀ t : Tree, (toA t).size ≤ t.count
  | .mk k n s l => by
    have := size_toAL l
    simp only [toA, count]
    split
    · simp only [Anyv.size]; omega
    · split
      · simp only [Anyv.size]; omega
      · simp only [Anyv.size]; omega
theorem size_toAL : ∀ l : List Tree, sizeL (toAL l) ≤ countL l
  | [] => by simp [toAL, sizeL]
  | t :: r => by have := size_toA t; have := size_toAL r; simp only [toAL, sizeL, countL]; omega
end
theorem depth_pos (t : Tree) : 1 ≤ t.depth := by rw [depth_eq]; omega
mutual
theorem ofA_toA : ∀ (t : Tree) (d : Nat), Right t → t.depth + d ≤ 21 → ofA d (toA t) = t
  | .mk k n s l, d, h, hd => by
    simp only [Right, fields, kind, Tree.num, text, list] at h
    simp only [depth] at hd
    obtain ⟨⟨h1, h2, h3, h4⟩, h5⟩ := h
    simp only [toA]
    split
    · rename_i e
      subst e
      rw [h3 (by omega), h4 (by omega)]
      simp only [ofA]
    · split
      · rename_i e
        subst e
        rw [h2 (by omega), h4 (by omega)]
        simp only [ofA]
      · have e : k = 3 := by omega
        subst e
        rw [h2 (by omega), h3 (by omega)]
        simp only [ofA]
        rw [if_neg (by omega), ofL_toAL l (d + 1) h5 (by omega)]
theorem ofL_toAL : ∀ (l : List Tree) (d : Nat), RightL l → depthL l + d ≤ 21 → ofL d (toAL l) = l
  | [], d, _, _ => by simp only [toAL, ofL]
  | t :: r, d, h, hd => by
    simp only [depthL] at hd
    simp only [toAL, ofL]
    rw [ofA_toA t d h.1 (by omega), ofL_toAL r d h.2 (by omega)]
end
theorem of_toA {t : Tree} (h : Fits t 20) : ofA 0 (toA t) = t := ofA_toA t 0 h.1 (by have := h.2.1; omega)
end Go.Proofs.Ytkmikpmbnfcbpaa
