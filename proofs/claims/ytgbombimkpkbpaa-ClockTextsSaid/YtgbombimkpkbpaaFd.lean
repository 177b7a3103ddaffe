/- Contracts of clock.Sub, clock.Mul and of their references. -/
import Derived.Test.YtgbombimkpkbpaaFc
namespace Go.Proofs.Ytgbombimkpkbpaa
open Go.RowKit

def subSpec (t u : Int) : Int × Int := if isT t && isT u then (if t < u then (0, 6) else (t - u, 0)) else (0, 2)
def mulSpec (t n : Int) : Int × Int := if isT t && decide (0 ≤ n) then (if 1099511627775 < t * n then (0, 6) else (t * n, 0)) else (0, 2)

theorem ret2 {a b : Int} {p : Int × Int} {w : World} (h : p = (a, b)) : Ending.returned (.tuple #[.int .i64 a, .int .i64 b]) = .returned (.tuple #[.int .i64 p.1, .int .i64 p.2]) ∧ w = w := by rw [h]; exact ⟨rfl, rfl⟩

theorem sub_calls (t u : Int) (w : World) : Calls Try.prog 22 #[.int .i64 t, .int .i64 u] w fun e w' => e = .returned (.tuple #[.int .i64 (subSpec t u).1, .int .i64 (subSpec t u).2]) ∧ w = w' := by
  by_cases ht : isT t = true
  · by_cases hu : isT u = true
    · obtain ⟨ht0, ht1⟩ := isT_bd ht
      obtain ⟨hu0, hu1⟩ := isT_bd hu
      by_cases h : t < u
      · have R : subSpec t u = (0, 6) := by simp [subSpec, ht, hu, h]
        have HR := Lib.hid R
        clear R
        go_enter Try.func22, Try.ntmps22
        go_wp2_with (first | (go_at_call 20; refine (is_any _ _).mono ?_; rintro e w' ⟨rfl, rfl⟩))
        go_ret2
        exact ret2 HR.out
      · have R : subSpec t u = (t - u, 0) := by simp [subSpec, ht, hu, h]
        have HR := Lib.hid R
        clear R
        go_enter Try.func22, Try.ntmps22
        go_wp2_with (first | (go_at_call 20; refine (is_any _ _).mono ?_; rintro e w' ⟨rfl, rfl⟩))
        go_ret2
        exact ret2 HR.out
    · have hu' : isT u = false := by simpa using hu
      have R : subSpec t u = (0, 2) := by simp [subSpec, hu']
      have HR := Lib.hid R
      clear R hu
      go_enter Try.func22, Try.ntmps22
      go_wp2_with (first | (go_at_call 20; refine (is_any _ _).mono ?_; rintro e w' ⟨rfl, rfl⟩))
      go_ret2
      exact ret2 HR.out
  · have ht' : isT t = false := by simpa using ht
    have R : subSpec t u = (0, 2) := by simp [subSpec, ht']
    have HR := Lib.hid R
    clear R ht
    go_enter Try.func22, Try.ntmps22
    go_wp2_with (first | (go_at_call 20; refine (is_any _ _).mono ?_; rintro e w' ⟨rfl, rfl⟩))
    go_ret2
    exact ret2 HR.out

theorem rsub_calls (t u : Int) (w : World) : Calls Try.prog 23 #[.int .i64 t, .int .i64 u] w fun e w' => e = .returned (.tuple #[.int .i64 (subSpec t u).1, .int .i64 (subSpec t u).2]) ∧ w = w' := by
  by_cases ht : isT t = true
  · by_cases hu : isT u = true
    · obtain ⟨ht0, ht1⟩ := isT_bd ht
      obtain ⟨hu0, hu1⟩ := isT_bd hu
      by_cases h : t < u
      · have R : subSpec t u = (0, 6) := by simp [subSpec, ht, hu, h]
        have HR := Lib.hid R
        clear R
        go_enter Try.func23, Try.ntmps23
        go_wp2_with (first | (go_at_call 25; refine (ris_any _ _).mono ?_; rintro e w' ⟨rfl, rfl⟩))
        go_ret2
        exact ret2 HR.out
      · have R : subSpec t u = (t - u, 0) := by simp [subSpec, ht, hu, h]
        have HR := Lib.hid R
        clear R
        go_enter Try.func23, Try.ntmps23
        go_wp2_with (first | (go_at_call 25; refine (ris_any _ _).mono ?_; rintro e w' ⟨rfl, rfl⟩))
        go_ret2
        exact ret2 HR.out
    · have hu' : isT u = false := by simpa using hu
      have R : subSpec t u = (0, 2) := by simp [subSpec, hu']
      have HR := Lib.hid R
      clear R hu
      go_enter Try.func23, Try.ntmps23
      go_wp2_with (first | (go_at_call 25; refine (ris_any _ _).mono ?_; rintro e w' ⟨rfl, rfl⟩))
      go_ret2
      exact ret2 HR.out
  · have ht' : isT t = false := by simpa using ht
    have R : subSpec t u = (0, 2) := by simp [subSpec, ht']
    have HR := Lib.hid R
    clear R ht
    go_enter Try.func23, Try.ntmps23
    go_wp2_with (first | (go_at_call 25; refine (ris_any _ _).mono ?_; rintro e w' ⟨rfl, rfl⟩))
    go_ret2
    exact ret2 HR.out

theorem mul_div {t n : Int} (ht : 0 < t) : 1099511627775 / t < n ↔ 1099511627775 < t * n := by
  rw [← Int.not_le, ← Int.not_le, Int.le_ediv_iff_mul_le ht, Int.mul_comm]

set_option maxHeartbeats 400000 in
theorem mul_calls (t n : Int) (w : World) (_hn : n ≤ 9223372036854775807) : Calls Try.prog 21 #[.int .i64 t, .int .i64 n] w fun e w' => e = .returned (.tuple #[.int .i64 (mulSpec t n).1, .int .i64 (mulSpec t n).2]) ∧ w = w' := by
  by_cases ht : isT t = true
  · obtain ⟨ht0, ht1⟩ := isT_bd ht
    by_cases hn : 0 ≤ n
    · by_cases hp : 0 < t
      · have hq : 0 ≤ 1099511627775 / t := Int.ediv_nonneg (by omega) (by omega)
        have hq2 : 1099511627775 / t ≤ 1099511627775 := Int.ediv_le_self _ (by omega)
        by_cases h : 1099511627775 / t < n
        · have R : mulSpec t n = (0, 6) := by have := (mul_div hp).1 h; simp [mulSpec, ht, hn, this]
          have HR := Lib.hid R
          clear R
          go_enter Try.func21, Try.ntmps21
          go_wp2_with (first | (go_at_call 20; refine (is_any _ _).mono ?_; rintro e w' ⟨rfl, rfl⟩))
          go_ret2
          exact ret2 HR.out
        · have h2 : t * n ≤ 1099511627775 := by have := mt (mul_div hp).2 h; omega
          have h3 : 0 ≤ t * n := Int.mul_nonneg ht0 hn
          have R : mulSpec t n = (t * n, 0) := by simp [mulSpec, ht, hn]; omega
          have HR := Lib.hid R
          clear R
          go_enter Try.func21, Try.ntmps21
          go_wp2_with (first | (go_at_call 20; refine (is_any _ _).mono ?_; rintro e w' ⟨rfl, rfl⟩))
          go_ret2
          exact ret2 HR.out
      · obtain rfl : t = 0 := by omega
        have R : mulSpec 0 n = (0, 0) := by simp [mulSpec, ht, hn]
        have HR := Lib.hid R
        clear R
        go_enter Try.func21, Try.ntmps21
        go_wp2_with (first | (go_at_call 20; refine (is_any _ _).mono ?_; rintro e w' ⟨rfl, rfl⟩))
        go_ret2
        exact ret2 (HR.out.trans (by simp))
    · have R : mulSpec t n = (0, 2) := by simp [mulSpec, hn]
      have HR := Lib.hid R
      clear R
      go_enter Try.func21, Try.ntmps21
      go_wp2_with (first | (go_at_call 20; refine (is_any _ _).mono ?_; rintro e w' ⟨rfl, rfl⟩))
      go_ret2
      exact ret2 HR.out
  · have ht' : isT t = false := by simpa using ht
    have R : mulSpec t n = (0, 2) := by simp [mulSpec, ht']
    have HR := Lib.hid R
    clear R ht
    go_enter Try.func21, Try.ntmps21
    go_wp2_with (first | (go_at_call 20; refine (is_any _ _).mono ?_; rintro e w' ⟨rfl, rfl⟩))
    go_ret2
    exact ret2 HR.out

theorem mul_six {t n : Int} (ht : isT t = true) (hn : 0 ≤ n) (h : 1099511627775 < t * n) : mulSpec t n = (0, 6) := by simp [mulSpec, ht, hn, h]
theorem mul_ok {t n : Int} (ht : isT t = true) (hn : 0 ≤ n) (h : t * n ≤ 1099511627775) : mulSpec t n = (t * n, 0) := by simp [mulSpec, ht, hn]; omega

set_option maxHeartbeats 1000000 in
theorem rmul_calls (t n : Int) (w : World) (_hn : n ≤ 9223372036854775807) : Calls Try.prog 24 #[.int .i64 t, .int .i64 n] w fun e w' => e = .returned (.tuple #[.int .i64 (mulSpec t n).1, .int .i64 (mulSpec t n).2]) ∧ w = w' := by
  by_cases ht : isT t = true
  · obtain ⟨ht0, ht1⟩ := isT_bd ht
    by_cases hn : 0 ≤ n
    · by_cases hp : t = 0
      · subst hp
        have R : mulSpec 0 n = (0, 0) := by simp [mulSpec, ht, hn]
        have HR := Lib.hid R
        clear R
        go_enter Try.func24, Try.ntmps24
        go_wp2_with (first | (go_at_call 25; refine (ris_any _ _).mono ?_; rintro e w' ⟨rfl, rfl⟩))
        go_ret2
        exact ret2 HR.out
      · have hp1 : 0 < t := by omega
        have hpb : (t == 0) = false := by simp; omega
        by_cases hz : n = 0
        · subst hz
          have R : mulSpec t 0 = (0, 0) := by simp [mulSpec, ht]
          have HR := Lib.hid R
          clear R hp
          go_enter Try.func24, Try.ntmps24
          go_wp2_with (first | (go_at_call 25; refine (ris_any _ _).mono ?_; rintro e w' ⟨rfl, rfl⟩))
          go_ret2
          exact ret2 HR.out
        · have hn1 : 0 < n := by omega
          have hnb : (n == 0) = false := by simp; omega
          clear hp hz
          have hq0 : 0 ≤ 1099511627775 / n := Int.ediv_nonneg (by omega) (by omega)
          have hq1 : 1099511627775 / n ≤ 1099511627775 := Int.ediv_le_self _ (by omega)
          have hm0 : 0 ≤ t * (n % 1048576) := Int.mul_nonneg ht0 (by omega)
          have hm1 : t * (n % 1048576) ≤ 1152921504606846976 := by
            have := Int.mul_le_mul ht1 (show n % 1048576 ≤ 1048576 by omega) (by omega) (by omega)
            omega
          have hm2 : t * (n % 1048576) ≤ t * n := Int.mul_le_mul_of_nonneg_left (by omega) ht0
          have hm3 : n ≤ t * n := by
            have := Int.mul_le_mul_of_nonneg_right (show 1 ≤ t by omega) hn
            omega
          by_cases hA : 1099511627775 < n
          · have hC : 1099511627775 < t * n := by omega
            clear hm2 hm3
            have R : mulSpec t n = (0, 6) := mul_six ht hn hC
            have HR := Lib.hid R
            clear R
            go_enter Try.func24, Try.ntmps24
            go_wp2_with (first | (go_at_call 25; refine (ris_any _ _).mono ?_; rintro e w' ⟨rfl, rfl⟩))
            go_ret2
            exact ret2 HR.out
          · by_cases hB : 1099511627775 < t * (n % 1048576)
            · have hC : 1099511627775 < t * n := by omega
              clear hm2 hm3
              have R : mulSpec t n = (0, 6) := mul_six ht hn hC
              have HR := Lib.hid R
              clear R
              go_enter Try.func24, Try.ntmps24
              go_wp2_with (first | (go_at_call 25; refine (ris_any _ _).mono ?_; rintro e w' ⟨rfl, rfl⟩))
              go_ret2
              exact ret2 HR.out
            · by_cases hE : 0 < n / 1048576
              · by_cases hD : 1099511627775 / n < t
                · have hC : 1099511627775 < t * n := by have := (mul_div hn1).1 hD; rw [Int.mul_comm]; exact this
                  clear hm2 hm3
                  have R : mulSpec t n = (0, 6) := mul_six ht hn hC
                  have HR := Lib.hid R
                  clear R
                  go_enter Try.func24, Try.ntmps24
                  go_wp2_with (first | (go_at_call 25; refine (ris_any _ _).mono ?_; rintro e w' ⟨rfl, rfl⟩))
                  go_ret2
                  exact ret2 HR.out
                · have hC : t * n ≤ 1099511627775 := by have := mt (mul_div hn1).2 hD; rw [Int.mul_comm]; omega
                  clear hm2 hm3
                  have P1 : t * n ≤ 1099511627775 := hC
                  have P0 : 0 ≤ t * n := Int.mul_nonneg ht0 hn
                  have R : mulSpec t n = (t * n, 0) := mul_ok ht hn P1
                  have HR := Lib.hid R
                  clear R
                  go_enter Try.func24, Try.ntmps24
                  go_wp2_with (first | (go_at_call 25; refine (ris_any _ _).mono ?_; rintro e w' ⟨rfl, rfl⟩))
                  go_ret2
                  exact ret2 HR.out
              · have hC : t * n ≤ 1099511627775 := by have : n % 1048576 = n := by omega
                                                      rw [this] at hB; omega
                clear hm2 hm3
                have P1 : t * n ≤ 1099511627775 := hC
                have P0 : 0 ≤ t * n := Int.mul_nonneg ht0 hn
                have R : mulSpec t n = (t * n, 0) := mul_ok ht hn P1
                have HR := Lib.hid R
                clear R
                go_enter Try.func24, Try.ntmps24
                go_wp2_with (first | (go_at_call 25; refine (ris_any _ _).mono ?_; rintro e w' ⟨rfl, rfl⟩))
                go_ret2
                exact ret2 HR.out
    · have R : mulSpec t n = (0, 2) := by simp [mulSpec, hn]
      have HR := Lib.hid R
      clear R
      go_enter Try.func24, Try.ntmps24
      go_wp2_with (first | (go_at_call 25; refine (ris_any _ _).mono ?_; rintro e w' ⟨rfl, rfl⟩))
      go_ret2
      exact ret2 HR.out
  · have ht' : isT t = false := by simpa using ht
    have R : mulSpec t n = (0, 2) := by simp [mulSpec, ht']
    have HR := Lib.hid R
    clear R ht
    go_enter Try.func24, Try.ntmps24
    go_wp2_with (first | (go_at_call 25; refine (ris_any _ _).mono ?_; rintro e w' ⟨rfl, rfl⟩))
    go_ret2
    exact ret2 HR.out
end Go.Proofs.Ytgbombimkpkbpaa
