/- ClockProducts: the walk. -/
import Derived.Test.YtgbombimkpkbpaaWClockOrders
namespace Go.Proofs.Ytgbombimkpkbpaa
open Go.RowKit
set_option linter.unusedVariables false

theorem ints1 {w : World} {g : Nat} {x : Int} (h0 : w.cell? ⟨g, 0, none⟩ = some (.int .i64 x)) : IsInts w (some ⟨g, 0, none⟩) 1 [x] := by
  refine ⟨rfl, .inr ⟨g, 0, rfl, fun i hi => ?_⟩⟩
  obtain rfl : i = 0 := by omega
  exact h0

/-- Where the loop stands after k rounds: the sum so far, or that it was too great. -/
def Sofar (t : Int) (n k : Nat) (s f : Int) : Prop :=
  (f = 0 ∧ s = t * k ∧ s ≤ 1099511627775) ∨ (f = 6 ∧ s = 0 ∧ 1099511627775 < t * n)
theorem sofar_start (t : Int) (n : Nat) : Sofar t n 0 0 0 := .inl ⟨rfl, by simp, by omega⟩
theorem sofar_step {t : Int} {n k : Nat} {s : Int} (ht : isT t = true) (h : Sofar t n k s 0) (hk : k < n) : Sofar t n (k + 1) (addSpec [s, t]).1 (addSpec [s, t]).2 := by
  obtain ⟨ht0, ht1⟩ := isT_bd ht
  rcases h with ⟨_, h1, h2⟩ | ⟨h, _⟩
  · have hs0 : 0 ≤ s := by rw [h1]; exact Int.mul_nonneg ht0 (by omega)
    have hsT : isT s = true := by simp only [isT, decide_eq_true_eq]; omega
    have ha : allT [s, t] [s, t].length := (all_iff _).1 (by simp [hsT, ht])
    have hst : s + t = t * ((k + 1 : Nat) : Int) := by rw [h1, Int.natCast_add, Int.mul_add]; simp
    have hsum : [s, t].sum = s + t := by simp
    by_cases hov : 1099511627775 < s + t
    · rw [addSpec_over ha (by rw [hsum]; exact hov)]
      refine .inr ⟨rfl, rfl, ?_⟩
      rw [hst] at hov
      have := Int.mul_le_mul_of_nonneg_left (show ((k + 1 : Nat) : Int) ≤ (n : Int) by omega) ht0
      omega
    · rw [addSpec_ok ha (by rw [hsum]; omega)]
      exact .inl ⟨rfl, by rw [hsum]; exact hst, by rw [hsum]; omega⟩
  · cases h
theorem sofar_end {t : Int} {n k : Nat} {s f : Int} (ht : isT t = true) (h : Sofar t n k s f) (hk : k = n ∨ f ≠ 0) : mulSpec t n = (s, f) := by
  rcases h with ⟨h0, h1, h2⟩ | ⟨h0, h1, h2⟩
  · have : k = n := by rcases hk with h | h
                       · exact h
                       · exact absurd h0 h
    subst this
    rw [mul_ok ht (by omega) (by omega), h0, h1]
  · rw [mul_six ht (by omega) h2, h0, h1]

theorem addSpec_nonneg (a b : Int) : 0 ≤ (addSpec [a, b]).1 ∧ (addSpec [a, b]).1 ≤ 1099511627775 := by
  by_cases h : allT [a, b] [a, b].length
  · by_cases h2 : 1099511627775 < [a, b].sum
    · rw [addSpec_over h h2]; simp
    · rw [addSpec_ok h (by omega)]
      refine ⟨?_, by omega⟩
      have h0 := isT_bd (h 0 (by simp))
      have h1 := isT_bd (h 1 (by simp))
      simp at h0 h1 ⊢
      omega
  · rw [addSpec_arg h]; simp

set_option maxHeartbeats 1000000 in
theorem walk_clockProducts (a0 : Int) (a1 : Int) (w0 : (Lit.int .i64 a0).wf = true) (w1 : (Lit.int .u8 a1).wf = true) (w : World) :
    Calls Try.prog 8 #[.int .i64 a0, .int .u8 a1] w fun e w' => e = .returned (.bool true) ∧ Below w.heap.size w w' := by
  obtain ⟨n0, n1⟩ := bounds_u8 w1
  clear w0 w1
  obtain ⟨n, rfl⟩ := Int.eq_ofNat_of_zero_le n0
  by_cases ht : isT a0 = true
  · obtain ⟨m, e, hm⟩ : ∃ m e, mulSpec a0 n = (m, e) := ⟨_, _, rfl⟩
    have HM := Lib.hid hm
    have hM : Hid (∀ W, Calls Try.prog 21 #[.int .i64 a0, .int .i64 n] W fun e' w' => e' = .returned (.tuple #[.int .i64 m, .int .i64 e]) ∧ W = w') := fun W => by
      refine (mul_calls a0 n W (by omega)).mono ?_
      rw [hm]; exact fun e' w' h => h
    clear hm
    go_enter Try.func8, Try.ntmps8
    go_wp2_with fail
    refine (hM.out _).mono ?_
    rintro e' w' ⟨rfl, rfl⟩
    go_wp2_with fail
    refine (is_any _ _).mono ?_
    rintro e' w' ⟨rfl, rfl⟩
    go_wp2_with fail
    go_loopw [7, 8, 9] (fun s f i wr => ∃ (k : Nat) (sn fn : Int), k ≤ n ∧ i = .int .i64 k ∧ s = .int .i64 sn ∧ f = .int .i64 fn ∧ Sofar a0 n k sn fn ∧ 0 ≤ sn ∧ sn ≤ 1099511627775 ∧ Below w.heap.size w wr) (fun _ _ i _ => n - (intOf i).toNat)
    case atStart => exact ⟨0, 0, 0, Nat.zero_le _, rfl, rfl, rfl, sofar_start _ _, by omega, by omega, Below.refl _ _⟩
    case round =>
      obtain ⟨k, sn, fn, hk, rfl, rfl, rfl, hso, hs0, hs1, hbl⟩ := hrel
      have HSO := Lib.hid hso
      clear hso
      by_cases hf : fn = 0
      · subst hf
        by_cases hlt : k < n
        · obtain ⟨x, y, hxy⟩ : ∃ x y, addSpec [sn, a0] = (x, y) := ⟨_, _, rfl⟩
          have hnn := addSpec_nonneg sn a0
          rw [hxy] at hnn
          obtain ⟨hx0, hx1⟩ := hnn
          have HN : Hid (Sofar a0 n (k + 1) x y) := by
            have := sofar_step ht HSO.out hlt
            rw [hxy] at this; exact this
          have HXY := Lib.hid hxy
          clear hxy
          go_wp2_with fail
          refine (add_calls sn _ _ _ [a0] _ (ints1 (by rw [cell_new (by simp)]; rfl)) (by omega) (by omega) (by omega)).mono ?_
          rintro e' w' ⟨rfl, rfl⟩
          rw [HXY.out]
          go_wp2_with fail
          go_roundw
          case rel => exact ⟨k + 1, x, y, by omega, by go_num, rfl, rfl, HN.out, hx0, hx1, hbl.alloc hbl.size _⟩
          case measure => simp [intOf]; omega
        · have HE : Hid (mulSpec a0 n = (sn, 0)) := sofar_end ht HSO.out (.inl (by omega))
          have he := HE.out
          rw [HM.out] at he
          simp only [Prod.mk.injEq] at he
          obtain ⟨rfl, rfl⟩ := he
          go_wp2_with fail
          refine (known_calls _).mono ?_
          rintro e w4 ⟨rfl, hb6⟩
          go_wp2_with fail
          go_ret
          exact ⟨rfl, hbl.trans (hb6.mono hbl.size)⟩
      · have hf' : (fn == 0) = false := by simpa using hf
        have he := sofar_end ht HSO.out (.inr hf)
        rw [HM.out] at he
        simp only [Prod.mk.injEq] at he
        obtain ⟨rfl, rfl⟩ := he
        clear hf
        by_cases hlt : k < n
        · go_wp2_with fail
          refine (known_calls _).mono ?_
          rintro e w4 ⟨rfl, hb6⟩
          go_wp2_with fail
          go_ret
          exact ⟨rfl, hbl.trans (hb6.mono hbl.size)⟩
        · go_wp2_with fail
          refine (known_calls _).mono ?_
          rintro e w4 ⟨rfl, hb6⟩
          go_wp2_with fail
          go_ret
          exact ⟨rfl, hbl.trans (hb6.mono hbl.size)⟩
  · have ht' : isT a0 = false := by simpa using ht
    have hm : mulSpec a0 n = (0, 2) := by simp [mulSpec, ht']
    have hM : Hid (∀ W, Calls Try.prog 21 #[.int .i64 a0, .int .i64 n] W fun e' w' => e' = .returned (.tuple #[.int .i64 0, .int .i64 2]) ∧ W = w') := fun W => by
      refine (mul_calls a0 n W (by omega)).mono ?_
      rw [hm]; exact fun e' w' h => h
    clear hm ht
    go_enter Try.func8, Try.ntmps8
    go_wp2_with fail
    refine (hM.out _).mono ?_
    rintro e' w' ⟨rfl, rfl⟩
    go_wp2_with fail
    refine (is_any _ _).mono ?_
    rintro e' w' ⟨rfl, rfl⟩
    go_wp2_with fail
    refine (known_calls _).mono ?_
    rintro e w4 ⟨rfl, hb6⟩
    go_wp2_with fail
    go_ret
    exact ⟨rfl, hb6⟩
end Go.Proofs.Ytgbombimkpkbpaa
