/- ClockTexts: the walk. -/
import Derived.Test.YtgbombimkpkbpaaFk
import Derived.OpenShut
namespace Go.Proofs.Ytgbombimkpkbpaa
open Go.RowKit
set_option linter.unusedVariables false

theorem rtext_any (t : Int) (w : World) : Calls Try.prog 19 #[.int .i64 t] w fun e w' => e = .returned (.string (textSpec t)) ∧ Below w.heap.size w w' := by
  by_cases ht : isT t = true
  · obtain ⟨ht0, ht1⟩ := isT_bd ht
    obtain ⟨n, rfl⟩ := Int.eq_ofNat_of_zero_le ht0
    exact rtext_calls n n w (Nat.le_refl _) ht1
  · have ht' : isT t = false := by simpa using ht
    clear ht
    go_enter Try.func19, Try.ntmps19
    go_wp2_with (first | (go_at_call 25; refine (ris_any _ _).mono ?_; rintro e w' ⟨rfl, rfl⟩))
    go_ret
    exact ⟨ret_str (by unfold textSpec; rw [ht']; rfl), Below.refl _ _⟩

set_option maxHeartbeats 1000000 in
theorem walk_clockTexts (a0 : Int) (a1 : ByteArray) (w0 : (Lit.int .i64 a0).wf = true) (w1 : a1.size ≤ maxLen) (w : World) :
    Calls Try.prog 4 #[.int .i64 a0, .string a1] w fun e w' => e = .returned (.bool true) ∧ Below w.heap.size w w' := by
  unfold maxLen at w1
  clear w0
  by_cases hlen : 300 < a1.size
  · go_enter Try.func4, Try.ntmps4
    go_wp2_with (first
      | (go_at_call 11; refine (known_calls _).mono ?_; rintro e w1 ⟨rfl, hb⟩))
    go_ret
    exact ⟨rfl, hb⟩
  · go_enter Try.func4, Try.ntmps4
    go_wp2_with fail
    refine (read_calls a1 w (by omega)).mono ?_
    rintro e w1 ⟨rfl, hb⟩
    go_wp2_with fail
    refine (rread_calls a1 w1 (by omega)).mono ?_
    rintro e w' ⟨rfl, rfl⟩
    go_wp2_with fail
    refine (text_calls a0 _).mono ?_
    rintro e w' ⟨rfl, rfl⟩
    go_wp2_with fail
    refine (rtext_any a0 _).mono ?_
    rintro e w2 ⟨rfl, hb2⟩
    go_wp2_with fail
    refine (known_calls _).mono ?_
    rintro e w3 ⟨rfl, hb3⟩
    go_wp2_with fail
    go_ret
    exact ⟨rfl, (hb.trans (hb2.mono hb.size)).trans (hb3.mono (Nat.le_trans hb.size hb2.size))⟩
end Go.Proofs.Ytgbombimkpkbpaa
