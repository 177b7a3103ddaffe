/- ClockBack: the walk. -/
import Derived.Test.YtgbombimkpkbpaaPa
import Derived.OpenShut
namespace Go.Proofs.Ytgbombimkpkbpaa
open Go.RowKit
set_option linter.unusedVariables false

theorem str_data (l : List UInt8) : (str l).data.toList = l := rfl
theorem read_text (t : Int) (w : World) : Calls Try.prog 16 #[.string (textSpec t)] w fun e w' => (e = .returned (.tuple #[.int .i64 (if isT t then t else 0), .int .i64 (if isT t then 0 else 5)])) ∧ Below w.heap.size w w' := by
  by_cases ht : isT t = true
  · obtain ⟨ht0, ht1⟩ := isT_bd ht
    obtain ⟨n, rfl⟩ := Int.eq_ofNat_of_zero_le ht0
    have hs : textSpec (n : Int) = str (digs n) := by rw [textSpec, if_pos ht, Int.toNat_natCast]
    rw [hs]
    have hl := (digs_len n).2
    refine (read_calls (str (digs n)) w (by rw [str_size]; omega)).mono ?_
    rintro e w' ⟨he, hb⟩
    rw [str_data, read_digs n ht1] at he
    rw [if_pos ht, if_pos ht]
    exact ⟨he, hb⟩
  · have hs : textSpec t = str [] := by rw [textSpec, if_neg ht]
    rw [hs]
    refine (read_calls (str []) w (by rw [str_size]; simp)).mono ?_
    rintro e w' ⟨he, hb⟩
    rw [str_data, spec_nil] at he
    rw [if_neg ht, if_neg ht]
    exact ⟨he, hb⟩

set_option maxHeartbeats 1000000 in
theorem walk_clockBack (a0 : Int) (a1 : ByteArray) (w0 : (Lit.int .i64 a0).wf = true) (w1 : a1.size ≤ maxLen) (w : World) :
    Calls Try.prog 5 #[.int .i64 a0, .string a1] w fun e w' => e = .returned (.bool true) ∧ Below w.heap.size w w' := by
  unfold maxLen at w1
  clear w0
  by_cases hlen : 300 < a1.size
  · go_enter Try.func5, Try.ntmps5
    go_wp2_with (first
      | (go_at_call 11; refine (known_calls _).mono ?_; rintro e w1 ⟨rfl, hb⟩))
    go_ret
    exact ⟨rfl, hb⟩
  · obtain ⟨rb, re, hr⟩ : ∃ rb re, readSpec a1.data.toList = (rb, re) := ⟨_, _, rfl⟩
    have hc : Hid (∀ W, Calls Try.prog 16 #[.string a1] W fun e w' => e = .returned (.tuple #[.int .i64 rb, .int .i64 re]) ∧ Below W.heap.size W w') := fun W => by
      refine (read_calls a1 W (by omega)).mono ?_
      rintro e w' ⟨he, hb⟩
      rw [hr] at he
      exact ⟨he, hb⟩
    have hre : Hid (re = 0 → (textSpec rb).toList = a1.toList) := by
      rintro rfl
      have := digs_read hr
      rw [textSpec, if_pos this.1, this.2]
      rw [ByteArray.toList_eq, ByteArray.toList_eq]; rfl
    clear hr
    by_cases ht : isT a0 = true
    · by_cases h0 : re = 0
      · have hts := hre.out h0
        subst h0
        go_enter Try.func5, Try.ntmps5
        go_wp2_with fail
        refine (text_calls a0 w).mono ?_
        rintro e w' ⟨rfl, rfl⟩
        go_wp2_with fail
        refine (read_text a0 _).mono ?_
        rintro e w1 ⟨rfl, hb⟩
        go_wp2_with fail
        refine (hc.out _).mono ?_
        rintro e w2 ⟨rfl, hb2⟩
        go_wp2_with fail
        refine (is_any a0 _).mono ?_
        rintro e w' ⟨rfl, rfl⟩
        go_wp2_with fail
        refine (text_calls rb _).mono ?_
        rintro e w' ⟨rfl, rfl⟩
        go_wp2_with fail
        refine (known_calls _).mono ?_
        rintro e w3 ⟨rfl, hb3⟩
        go_wp2_with fail
        go_ret
        exact ⟨rfl, (hb.trans (hb2.mono hb.size)).trans (hb3.mono (Nat.le_trans hb.size hb2.size))⟩
      · have h0' : (re == 0) = false := by simpa using h0
        clear h0
        go_enter Try.func5, Try.ntmps5
        go_wp2_with fail
        refine (text_calls a0 w).mono ?_
        rintro e w' ⟨rfl, rfl⟩
        go_wp2_with fail
        refine (read_text a0 _).mono ?_
        rintro e w1 ⟨rfl, hb⟩
        go_wp2_with fail
        refine (hc.out _).mono ?_
        rintro e w2 ⟨rfl, hb2⟩
        go_wp2_with fail
        refine (is_any a0 _).mono ?_
        rintro e w' ⟨rfl, rfl⟩
        go_wp2_with fail
        refine (known_calls _).mono ?_
        rintro e w3 ⟨rfl, hb3⟩
        go_wp2_with fail
        go_ret
        exact ⟨rfl, (hb.trans (hb2.mono hb.size)).trans (hb3.mono (Nat.le_trans hb.size hb2.size))⟩
    · have ht' : isT a0 = false := by simpa using ht
      clear ht
      by_cases h0 : re = 0
      · have hts := hre.out h0
        subst h0
        go_enter Try.func5, Try.ntmps5
        go_wp2_with fail
        refine (text_calls a0 w).mono ?_
        rintro e w' ⟨rfl, rfl⟩
        go_wp2_with fail
        refine (read_text a0 _).mono ?_
        rintro e w1 ⟨rfl, hb⟩
        go_wp2_with fail
        refine (hc.out _).mono ?_
        rintro e w2 ⟨rfl, hb2⟩
        go_wp2_with fail
        refine (is_any a0 _).mono ?_
        rintro e w' ⟨rfl, rfl⟩
        go_wp2_with fail
        refine (text_calls rb _).mono ?_
        rintro e w' ⟨rfl, rfl⟩
        go_wp2_with fail
        refine (known_calls _).mono ?_
        rintro e w3 ⟨rfl, hb3⟩
        go_wp2_with fail
        go_ret
        exact ⟨rfl, (hb.trans (hb2.mono hb.size)).trans (hb3.mono (Nat.le_trans hb.size hb2.size))⟩
      · have h0' : (re == 0) = false := by simpa using h0
        clear h0
        go_enter Try.func5, Try.ntmps5
        go_wp2_with fail
        refine (text_calls a0 w).mono ?_
        rintro e w' ⟨rfl, rfl⟩
        go_wp2_with fail
        refine (read_text a0 _).mono ?_
        rintro e w1 ⟨rfl, hb⟩
        go_wp2_with fail
        refine (hc.out _).mono ?_
        rintro e w2 ⟨rfl, hb2⟩
        go_wp2_with fail
        refine (is_any a0 _).mono ?_
        rintro e w' ⟨rfl, rfl⟩
        go_wp2_with fail
        refine (known_calls _).mono ?_
        rintro e w3 ⟨rfl, hb3⟩
        go_wp2_with fail
        go_ret
        exact ⟨rfl, (hb.trans (hb2.mono hb.size)).trans (hb3.mono (Nat.le_trans hb.size hb2.size))⟩
end Go.Proofs.Ytgbombimkpkbpaa
