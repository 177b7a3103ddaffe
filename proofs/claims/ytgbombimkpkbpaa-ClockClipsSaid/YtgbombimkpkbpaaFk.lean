/- The contract of known: what the chapter's examples fix. -/
import Derived.Test.YtgbombimkpkbpaaFh
namespace Go.Proofs.Ytgbombimkpkbpaa
open Go.RowKit

theorem known_add (b : Nat) (W : World) (h0 : W.cell? ⟨b, 0, none⟩ = some (.int .i64 4)) (h1 : W.cell? ⟨b, 1, none⟩ = some (.int .i64 5)) :
    Calls Try.prog 12 #[.int .i64 3, .slice (some ⟨b, 0, none⟩) 2 2] W fun e w' => e = .returned (.tuple #[.int .i64 12, .int .i64 0]) ∧ W = w' := by
  refine (add_calls 3 _ 2 2 [4, 5] W ⟨rfl, .inr ⟨b, 0, rfl, fun i hi => ?_⟩⟩ (by omega) (by omega) (by omega)).mono ?_
  · have : i = 0 ∨ i = 1 := by omega
    rcases this with rfl | rfl
    · exact h0
    · exact h1
  · rintro e w' ⟨rfl, rfl⟩
    exact ⟨rfl, rfl⟩
theorem known_clip (b : Nat) (W : World) (h0 : W.cell? ⟨b, 0, none⟩ = some (.int .i64 1)) :
    Calls Try.prog 14 #[.int .i64 1099511627775, .slice (some ⟨b, 0, none⟩) 1 1] W fun e w' => e = .returned (.int .i64 1099511627775) ∧ W = w' := by
  refine (clip_calls _ _ 1 1 [1] W ⟨rfl, .inr ⟨b, 0, rfl, fun i hi => ?_⟩⟩ (by omega)).mono ?_
  · obtain rfl : i = 0 := by omega
    exact h0
  · rintro e w' ⟨rfl, rfl⟩
    exact ⟨rfl, rfl⟩
theorem text40 : textSpec 40 = str [52, 48] := by
  have : digs 40 = [52, 48] := by rw [digs, if_neg (by omega), digs, if_pos (by omega)]; rfl
  unfold textSpec
  rw [if_pos (by rfl)]
  exact congrArg str this
theorem known_text (W : World) : Calls Try.prog 18 #[.int .i64 40] W fun e w' => e = .returned (.string (str [52, 48])) ∧ W = w' := by
  refine (text_calls 40 W).mono ?_
  rw [text40]
  exact fun e w' h => h
theorem read007 : readSpec [48, 48, 55] = (0, 5) := spec_form ⟨rfl, by simp⟩
theorem known_read (W : World) : Calls Try.prog 16 #[.string { data := #[48, 48, 55] }] W fun e w' => e = .returned (.tuple #[.int .i64 0, .int .i64 5]) ∧ Below W.heap.size W w' := by
  refine (read_calls { data := #[48, 48, 55] } W (by show 3 ≤ _; omega)).mono ?_
  rintro e w' ⟨rfl, h⟩
  refine ⟨?_, h⟩
  rw [show (ByteArray.mk #[48, 48, 55]).data.toList = [48, 48, 55] from rfl, read007]

set_option maxHeartbeats 1000000 in
theorem known_calls (w : World) : Calls Try.prog 11 #[] w fun e w' => e = .returned (.bool true) ∧ Below w.heap.size w w' := by
  have hs : (str [52, 48]).toList = [52, 48] := by unfold str; rw [ByteArray.toList_mk]
  go_enter Try.func11, Try.ntmps11
  go_wp2_with fail
  refine (known_add _ _ (by simp) (by simp)).mono ?_
  rintro e w' ⟨rfl, rfl⟩
  go_wp2_with fail
  refine (known_read _).mono ?_
  rintro e w1 ⟨rfl, hb⟩
  obtain ⟨hc, hf⟩ := bcell hb
  have hz : w.heap.size < w1.heap.size := by have := hb.size; simp at this; omega
  go_wp2_with fail
  refine (known_clip _ _ (by simp)).mono ?_
  rintro e w' ⟨rfl, rfl⟩
  go_wp2_with fail
  refine (known_text _).mono ?_
  rintro e w' ⟨rfl, rfl⟩
  go_wp2_with fail
  go_ret
  refine ⟨rfl, ?_⟩
  refine Below.alloc (Below.trans ?_ (hb.mono (B' := w.heap.size) (by simp))) (by omega) _
  exact (Below.refl _ _).alloc (Nat.le_refl _) _
end Go.Proofs.Ytgbombimkpkbpaa
