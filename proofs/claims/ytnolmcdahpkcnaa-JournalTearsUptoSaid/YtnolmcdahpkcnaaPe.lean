/- One byte of the frames changed: what a scan reads. -/
import Derived.Test.YtnolmcdahpkcnaaFs
import Derived.Test.YtnolmcdahpkcnaaPd
namespace Go.Proofs.Ytnolmcdahpkcnaa
set_option linter.unusedVariables false

theorem framesL_cons (r : List UInt8) (A : List (List UInt8)) : framesL (r :: A) = frame r ++ framesL A := by
  rw [show r :: A = [r] ++ A from rfl, framesL_append, framesL_one]
theorem scan_frames (A : List (List UInt8)) (t : List UInt8) (h : ∀ r ∈ A, r.length ≤ 65536) : scanS (framesL A ++ t) = (A ++ (scanS t).1, longN A + (scanS t).2.1, (scanS t).2.2) := by
  induction A with
  | nil => simp [framesL, longN]
  | cons r A ih =>
    have ih := ih fun s hs => h s (List.mem_cons_of_mem _ hs)
    have e : longN (r :: A) = 8 + r.length + longN A := by unfold longN; rw [framesL_cons, List.length_append, frame_len]
    rw [framesL_cons, List.append_assoc, scan_frame r _ (h r List.mem_cons_self), ih, e]
    simp only [List.cons_append, Nat.add_assoc]
theorem un4_first {a b : List UInt8} (h : a.take 4 = b.take 4) : un4 a = un4 b := by rw [← un4_take a, ← un4_take b, h]
theorem un4_inj {a b : List UInt8} (ha : 4 ≤ a.length) (hb : 4 ≤ b.length) (h : un4 a = un4 b) : a.take 4 = b.take 4 := by
  rw [← be4_un4_take ha, ← be4_un4_take hb, h]
theorem set_ne {l : List UInt8} {j : Nat} {y : UInt8} (hj : j < l.length) (hy : y ≠ l.getD j 0) : l.set j y ≠ l := by
  intro e
  have := getD_set l j y j hj
  rw [if_pos rfl, e] at this
  exact hy this.symm
theorem next_hurt {r : List UInt8} {j : Nat} {y : UInt8} (t : List UInt8) (hr : r.length ≤ 65536) (h4 : 4 ≤ j) (hj : j < 8 + r.length) (hy : y ≠ (frame r).getD j 0) : nextS ((frame r).set j y ++ t) = ([], 30) := by
  have hfl : (frame r).length = 8 + r.length := frame_len r
  have hsl : ((frame r).set j y).length = 8 + r.length := by rw [List.length_set, hfl]
  have ht4 : ((frame r).set j y ++ t).take 4 = be4 r.length := by
    rw [List.take_append_of_le_length (by omega), List.take_set_of_le h4]
    show (be4 r.length ++ _).take 4 = _
    exact List.take_left (l₁ := be4 r.length)
  have hu : un4 ((frame r).set j y ++ t) = r.length := by
    have : un4 ((frame r).set j y ++ t) = un4 (be4 r.length ++ []) := un4_first (by rw [ht4]; simp [be4])
    rw [this, un4_be4 (by omega)]
  have hlen : ((frame r).set j y ++ t).length = 8 + r.length + t.length := by rw [List.length_append, hsl]
  refine next_bad (by omega) (by omega) (by omega) ?_
  rw [hu, ht4]
  have hd8 : (((frame r).set j y ++ t).drop 8).take r.length = ((frame r).set j y).drop 8 := by
    rw [List.drop_append_of_le_length (by omega), List.take_append_of_le_length (by rw [List.length_drop]; omega), List.take_of_length_le (by rw [List.length_drop]; omega)]
  rw [hd8]
  have hf4 : (frame r).drop 4 = be4 (sumN (be4 r.length ++ r)) ++ r := List.drop_left (l₁ := be4 r.length)
  have hf8 : (frame r).drop 8 = r := by rw [show (8 : Nat) = 4 + 4 from rfl, ← List.drop_drop, hf4]; exact List.drop_left (l₁ := be4 (sumN (be4 r.length ++ r)))
  have hg : ∀ i, (frame r).getD (8 + i) 0 = r.getD i 0 := fun i => by
    rw [List.getD_eq_getElem?_getD, List.getD_eq_getElem?_getD, ← List.getElem?_drop, hf8]
  by_cases h8 : j < 8
  · have e1 : ((frame r).set j y).drop 8 = r := by rw [List.drop_set_of_lt h8, hf8]
    rw [e1]
    intro e
    have e2 : un4 (((frame r).set j y ++ t).drop 4) = un4 (be4 (sumN (be4 r.length ++ r)) ++ r) := by rw [← e, un4_be4 (sumN_lt _)]
    have e3 := un4_inj (by rw [List.length_drop]; omega) (by rw [List.length_append, be4_len]; omega) e2
    rw [← hf4, List.drop_append_of_le_length (by omega), List.take_append_of_le_length (by rw [List.length_drop]; omega), List.drop_set, if_neg (by omega), List.take_set] at e3
    refine set_ne (l := ((frame r).drop 4).take 4) (j := j - 4) (y := y) (by rw [List.length_take, List.length_drop]; omega) ?_ e3
    intro e4
    apply hy
    rw [e4, List.getD_eq_getElem?_getD, List.getD_eq_getElem?_getD, List.getElem?_take, if_pos (by omega), List.getElem?_drop, show 4 + (j - 4) = j by omega]
  · have e1 : ((frame r).set j y).drop 8 = r.set (j - 8) y := by rw [List.drop_set, if_neg h8, hf8]
    have e2 : un4 (((frame r).set j y ++ t).drop 4) = sumN (be4 r.length ++ r) := by
      have : un4 (((frame r).set j y ++ t).drop 4) = un4 ((frame r).drop 4) := un4_first (by
        rw [List.drop_append_of_le_length (by omega), List.take_append_of_le_length (by rw [List.length_drop]; omega), List.drop_set, if_neg (by omega), List.take_set_of_le (by omega)])
      rw [this, hf4, un4_be4 (sumN_lt _)]
    rw [e1, e2]
    have e3 : be4 r.length ++ r.set (j - 8) y = (be4 r.length ++ r).set (4 + (j - 8)) y := by
      rw [List.set_append_right _ _ (by rw [be4_len]; omega), be4_len]
      congr 2
      omega
    rw [e3]
    refine sumN_set (by rw [List.length_append, be4_len]; omega) ?_
    rw [List.getD_eq_getElem?_getD, List.getElem?_append_right (by rw [be4_len]; omega), be4_len, ← List.getD_eq_getElem?_getD, show 4 + (j - 8) - 4 = j - 8 by omega, ← hg, show 8 + (j - 8) = j by omega]
    exact hy

theorem scan_hurt {bss : List (List UInt8)} {m k : Nat} {y : UInt8} (hm : m < bss.length) (h : ∀ r ∈ bss, r.length ≤ 65536) (h1 : longN (bss.take m) + 4 ≤ k) (h2 : k < longN (bss.take (m + 1))) (hy : y ≠ (framesL bss).getD k 0) :
    scanS ((framesL bss).set k y) = (bss.take m, longN (bss.take m), 30) := by
  obtain ⟨r, hr⟩ : ∃ r, bss.getD m [] = r := ⟨_, rfl⟩
  have hsplit : bss = bss.take m ++ (r :: bss.drop (m + 1)) := by
    have := List.drop_eq_getElem_cons hm
    rw [← hr, getD_eq hm, ← this, List.take_append_drop]
  have hrl : r.length ≤ 65536 := h r (by rw [hsplit]; simp)
  have hlen : longN (bss.take (m + 1)) = longN (bss.take m) + 8 + r.length := by rw [longN_take hm, hr]
  have hF : framesL bss = framesL (bss.take m) ++ (frame r ++ framesL (bss.drop (m + 1))) := by
    conv => lhs; rw [hsplit]
    rw [framesL_append, framesL_cons]
  have hS : (framesL bss).set k y = framesL (bss.take m) ++ ((frame r).set (k - longN (bss.take m)) y ++ framesL (bss.drop (m + 1))) := by
    rw [hF, List.set_append_right _ _ (by show longN (bss.take m) ≤ k; omega), List.set_append_left _ _ (by rw [frame_len]; show k - longN (bss.take m) < _; omega)]
    rfl
  have hn := next_hurt (r := r) (j := k - longN (bss.take m)) (y := y) (framesL (bss.drop (m + 1))) hrl (by omega) (by omega) (by
    rw [hF, List.getD_eq_getElem?_getD, List.getElem?_append_right (by show longN (bss.take m) ≤ k; omega), List.getElem?_append_left (by rw [frame_len]; show k - longN (bss.take m) < _; omega), ← List.getD_eq_getElem?_getD] at hy
    exact hy)
  rw [hS, scan_frames _ _ fun s hs => h s (List.mem_of_mem_take hs), scan_bad (by
    intro e
    have := congrArg List.length e
    rw [List.length_append, List.length_set, frame_len] at this
    simp at this) (by rw [hn]; decide), hn]
  simp
end Go.Proofs.Ytnolmcdahpkcnaa
