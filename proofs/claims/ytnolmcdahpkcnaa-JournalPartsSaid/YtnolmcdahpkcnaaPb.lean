/- The plain part of scanning. -/
import Derived.Test.YtnolmcdahpkcnaaPa
namespace Go.Proofs.Ytnolmcdahpkcnaa
set_option linter.unusedVariables false

/-- The record at a begin, or why there is none. -/
def nextS (l : List UInt8) : List UInt8 × Int :=
  if l.length < 8 then ([], 31)
  else if 65536 < un4 l then ([], 3)
  else if l.length < 8 + un4 l then ([], 31)
  else if sumN (l.take 4 ++ (l.drop 8).take (un4 l)) = un4 (l.drop 4) then ((l.drop 8).take (un4 l), 0)
  else ([], 30)
theorem nextS_len {l : List UInt8} (h : (nextS l).2 = 0) : 8 + (nextS l).1.length ≤ l.length ∧ (nextS l).1.length ≤ 65536 := by
  unfold nextS at *
  split
  · rename_i h1; rw [if_pos h1] at h; simp at h
  · rename_i h1
    rw [if_neg h1] at h
    split
    · rename_i h2; rw [if_pos h2] at h; simp at h
    · rename_i h2
      rw [if_neg h2] at h
      split
      · rename_i h3; rw [if_pos h3] at h; simp at h
      · rename_i h3
        rw [if_neg h3] at h
        split
        · simp only [List.length_take, List.length_drop]; omega
        · rename_i h4; rw [if_neg h4] at h; simp at h
theorem next_short {l : List UInt8} (h : l.length < 8) : nextS l = ([], 31) := by unfold nextS; rw [if_pos h]
theorem next_long {l : List UInt8} (h : ¬ l.length < 8) (h2 : 65536 < un4 l) : nextS l = ([], 3) := by unfold nextS; rw [if_neg h, if_pos h2]
theorem next_cut {l : List UInt8} (h : ¬ l.length < 8) (h2 : ¬ 65536 < un4 l) (h3 : l.length < 8 + un4 l) : nextS l = ([], 31) := by unfold nextS; rw [if_neg h, if_neg h2, if_pos h3]
theorem next_bad {l : List UInt8} (h : ¬ l.length < 8) (h2 : ¬ 65536 < un4 l) (h3 : ¬ l.length < 8 + un4 l) (h4 : sumN (l.take 4 ++ (l.drop 8).take (un4 l)) ≠ un4 (l.drop 4)) : nextS l = ([], 30) := by unfold nextS; rw [if_neg h, if_neg h2, if_neg h3, if_neg h4]
theorem next_good {l : List UInt8} (h : ¬ l.length < 8) (h2 : ¬ 65536 < un4 l) (h3 : ¬ l.length < 8 + un4 l) (h4 : sumN (l.take 4 ++ (l.drop 8).take (un4 l)) = un4 (l.drop 4)) : nextS l = ((l.drop 8).take (un4 l), 0) := by unfold nextS; rw [if_neg h, if_neg h2, if_neg h3, if_pos h4]

/-- All records, the bytes that their frames have, and why there are no more. -/
def scanS (l : List UInt8) : List (List UInt8) × Nat × Int :=
  if l.length = 0 then ([], 0, 0)
  else if h : (nextS l).2 = 0 then
    ((nextS l).1 :: (scanS (l.drop (8 + (nextS l).1.length))).1, 8 + (nextS l).1.length + (scanS (l.drop (8 + (nextS l).1.length))).2.1, (scanS (l.drop (8 + (nextS l).1.length))).2.2)
  else ([], 0, (nextS l).2)
termination_by l.length
decreasing_by all_goals (have := nextS_len h; rw [List.length_drop]; omega)

theorem scan_nil : scanS [] = ([], 0, 0) := by rw [scanS]; rfl
theorem scan_bad {l : List UInt8} (h0 : l ≠ []) (h : (nextS l).2 ≠ 0) : scanS l = ([], 0, (nextS l).2) := by
  rw [scanS, if_neg (by simpa using h0), dif_neg h]
theorem scan_cons {l : List UInt8} (h : (nextS l).2 = 0) : scanS l = ((nextS l).1 :: (scanS (l.drop (8 + (nextS l).1.length))).1, 8 + (nextS l).1.length + (scanS (l.drop (8 + (nextS l).1.length))).2.1, (scanS (l.drop (8 + (nextS l).1.length))).2.2) := by
  have := nextS_len h
  conv => lhs; rw [scanS]
  rw [if_neg (by omega), dif_pos h]
theorem scan_le (n : Nat) : ∀ l : List UInt8, l.length ≤ n → (scanS l).2.1 ≤ l.length := by
  induction n with
  | zero => intro l hl; have : l = [] := List.length_eq_zero_iff.1 (by omega)
            subst this; rw [scan_nil]; exact Nat.le_refl _
  | succ n ih =>
    intro l hl
    by_cases h0 : l = []
    · subst h0; rw [scan_nil]; exact Nat.le_refl _
    · by_cases h : (nextS l).2 = 0
      · have h1 := nextS_len h
        have h2 := ih (l.drop (8 + (nextS l).1.length)) (by rw [List.length_drop]; omega)
        rw [scan_cons h]
        rw [List.length_drop] at h2
        simp only
        omega
      · rw [scan_bad h0 h]; simp
theorem scan_at (l : List UInt8) : (scanS l).2.1 ≤ l.length := scan_le l.length l (Nat.le_refl _)

/-- The frame of a record, and whatever stands behind it. -/
theorem next_frame (r t : List UInt8) (hr : r.length ≤ 65536) : nextS (frame r ++ t) = (r, 0) := by
  have hf : frame r ++ t = be4 r.length ++ (be4 (sumN (be4 r.length ++ r)) ++ (r ++ t)) := by simp [frame]
  have hu : un4 (frame r ++ t) = r.length := by rw [hf, un4_be4 (by omega)]
  have h4 : (frame r ++ t).take 4 = be4 r.length := by rw [hf]; exact List.take_left (l₁ := be4 r.length)
  have hd : (frame r ++ t).drop 4 = be4 (sumN (be4 r.length ++ r)) ++ (r ++ t) := by rw [hf]; exact List.drop_left (l₁ := be4 r.length)
  have h8 : (frame r ++ t).drop 8 = r ++ t := by
    rw [show (8 : Nat) = 4 + 4 from rfl, ← List.drop_drop, hd]; exact List.drop_left (l₁ := be4 (sumN (be4 r.length ++ r)))
  have hl : (frame r ++ t).length = 8 + r.length + t.length := by rw [List.length_append, frame_len]
  rw [next_good (by omega) (by rw [hu]; omega) (by rw [hu]; omega)]
  · rw [hu, h8, List.take_left]
  · rw [hu, h4, h8, hd, List.take_left, un4_be4 (sumN_lt _)]
theorem scan_frame (r t : List UInt8) (hr : r.length ≤ 65536) : scanS (frame r ++ t) = (r :: (scanS t).1, 8 + r.length + (scanS t).2.1, (scanS t).2.2) := by
  have hn := next_frame r t hr
  have h0 : (nextS (frame r ++ t)).2 = 0 := by rw [hn]
  have hd : (frame r ++ t).drop (8 + r.length) = t := by rw [← frame_len]; exact List.drop_left
  rw [scan_cons h0, hn, hd]

/-- As the reference asks it: the frame of what stands there is what stands there. -/
theorem ref_frame {l : List UInt8} (h : ¬ l.length < 8) (h2 : ¬ 65536 < un4 l) (h3 : ¬ l.length < 8 + un4 l) :
    (frame ((l.drop 8).take (un4 l)) = l.take (8 + un4 l)) ↔ sumN (l.take 4 ++ (l.drop 8).take (un4 l)) = un4 (l.drop 4) := by
  have hrl : ((l.drop 8).take (un4 l)).length = un4 l := by rw [List.length_take, List.length_drop]; omega
  have hb : be4 (un4 l) = l.take 4 := be4_un4_take (by omega)
  have hb2 : be4 (un4 (l.drop 4)) = (l.drop 4).take 4 := be4_un4_take (by rw [List.length_drop]; omega)
  have hs : l.take (8 + un4 l) = l.take 4 ++ ((l.drop 4).take 4 ++ (l.drop 8).take (un4 l)) := by
    rw [show 8 + un4 l = 4 + (4 + un4 l) by omega, List.take_add, List.take_add, List.drop_drop]
  unfold frame
  rw [hrl, hb, hs]
  constructor
  · intro e
    have e1 := List.append_cancel_left e
    have e2 : be4 (sumN (l.take 4 ++ (l.drop 8).take (un4 l))) = (l.drop 4).take 4 := (List.append_inj e1 (by simp [be4_len]; omega)).1
    rw [← hb2] at e2
    have e3 : un4 (be4 (sumN (l.take 4 ++ (l.drop 8).take (un4 l))) ++ []) = un4 (be4 (un4 (l.drop 4)) ++ []) := by rw [e2]
    rwa [un4_be4 (sumN_lt _), un4_be4 (un4_lt _)] at e3
  · intro e
    rw [e, hb2]
end Go.Proofs.Ytnolmcdahpkcnaa
