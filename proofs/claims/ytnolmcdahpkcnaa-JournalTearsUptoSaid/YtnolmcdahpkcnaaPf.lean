/- Frames cut anywhere: the records that are whole. -/
import Derived.Test.YtnolmcdahpkcnaaPe
namespace Go.Proofs.Ytnolmcdahpkcnaa
set_option linter.unusedVariables false

theorem frames_split (L : List (List UInt8)) (h : Nat) : framesL L = framesL (L.take h) ++ framesL (L.drop h) := by rw [← framesL_append, List.take_append_drop]
theorem frames_take (L : List (List UInt8)) (h : Nat) : (framesL L).take (longN (L.take h)) = framesL (L.take h) := by
  rw [frames_split L h]; exact List.take_left
theorem scan_cut {L : List (List UInt8)} {h c : Nat} (hL : ∀ r ∈ L, r.length ≤ 65536) (hh : h ≤ L.length) (h1 : longN (L.take h) ≤ c) (h2 : h = L.length ∨ c < longN (L.take (h + 1))) :
    ∃ x, scanS ((framesL L).take c) = (L.take h, longN (L.take h), x) := by
  have hT : ∀ r ∈ L.take h, r.length ≤ 65536 := fun r hr => hL r (List.mem_of_mem_take hr)
  have hlt : (framesL (L.take h)).length = longN (L.take h) := rfl
  rcases Nat.lt_or_ge h L.length with hlt2 | hge
  · have h3 : c < longN (L.take (h + 1)) := by
      rcases h2 with h2 | h2
      · omega
      · exact h2
    obtain ⟨r, hr⟩ : ∃ r, L.getD h [] = r := ⟨_, rfl⟩
    have hd : L.drop h = r :: L.drop (h + 1) := by rw [← hr, getD_eq hlt2]; exact List.drop_eq_getElem_cons hlt2
    have hrl : r.length ≤ 65536 := hL r (List.mem_of_mem_drop (i := h) (by rw [hd]; exact List.mem_cons_self))
    rw [longN_take hlt2, hr] at h3
    have e : (framesL L).take c = framesL (L.take h) ++ (frame r).take (c - longN (L.take h)) := by
      rw [frames_split L h, hd, framesL_cons, List.take_append, hlt, List.take_of_length_le (by rw [hlt]; exact h1), List.take_append_of_le_length (by rw [frame_len]; omega)]
    rw [e, scan_frames _ _ hT]
    by_cases h0 : c - longN (L.take h) = 0
    · rw [h0, List.take_zero, scan_nil]; exact ⟨0, by simp⟩
    · rw [scan_part hrl (by omega) h0]; exact ⟨31, by simp⟩
  · have e : h = L.length := by omega
    have e2 : L.take h = L := List.take_of_length_le hge
    rw [e2] at h1 hT ⊢
    rw [List.take_of_length_le h1]
    have := scan_frames L [] hT
    rw [List.append_nil, scan_nil] at this
    exact ⟨0, by rw [this]; simp⟩
end Go.Proofs.Ytnolmcdahpkcnaa
