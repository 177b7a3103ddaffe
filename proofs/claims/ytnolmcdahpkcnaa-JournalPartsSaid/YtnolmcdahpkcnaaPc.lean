/- A frame cut short. -/
import Derived.Test.YtnolmcdahpkcnaaPb
namespace Go.Proofs.Ytnolmcdahpkcnaa
set_option linter.unusedVariables false

theorem frame_take {r : List UInt8} {c : Nat} (hc : 4 ≤ c) : ∃ t, (frame r).take c = be4 r.length ++ t := by
  refine ⟨((be4 (sumN (be4 r.length ++ r)) ++ r)).take (c - 4), ?_⟩
  unfold frame
  rw [List.take_append, be4_len, List.take_of_length_le (by rw [be4_len]; exact hc)]
theorem next_part {r : List UInt8} {c : Nat} (hr : r.length ≤ 65536) (hc : c < 8 + r.length) : nextS ((frame r).take c) = ([], 31) := by
  have hl : ((frame r).take c).length = c := by rw [List.length_take, frame_len]; omega
  by_cases h8 : c < 8
  · exact next_short (by rw [hl]; exact h8)
  · obtain ⟨t, ht⟩ := frame_take (r := r) (c := c) (by omega)
    have hu : un4 ((frame r).take c) = r.length := by rw [ht, un4_be4 (by omega)]
    exact next_cut (by rw [hl]; exact h8) (by rw [hu]; omega) (by rw [hl, hu]; exact hc)
theorem scan_part {r : List UInt8} {c : Nat} (hr : r.length ≤ 65536) (hc : c < 8 + r.length) (h0 : c ≠ 0) : scanS ((frame r).take c) = ([], 0, 31) := by
  have h := next_part hr hc
  rw [scan_bad _ (by rw [h]; decide), h]
  intro e
  have := congrArg List.length e
  rw [List.length_take, frame_len] at this
  simp at this
  omega
theorem scan_two {r s : List UInt8} (hr : r.length ≤ 65536) (hs : s.length ≤ 65536) : scanS (frame r ++ frame s) = ([r, s], 16 + r.length + s.length, 0) := by
  have h1 := scan_frame s [] hs
  rw [List.append_nil, scan_nil] at h1
  rw [scan_frame r (frame s) hr, h1]
  simp only [Nat.add_zero, Prod.mk.injEq, and_true, true_and]
  omega
end Go.Proofs.Ytnolmcdahpkcnaa
