/- ClockLaws: the walk (the six ways are printed by gen_laws.py). -/
import Derived.Test.YtgbombimkpkbpaaWClockProducts
namespace Go.Proofs.Ytgbombimkpkbpaa
open Go.RowKit
set_option linter.unusedVariables false

theorem laws_sum {t u s : Int} (h : addSpec [t, u] = (s, 0)) : subSpec s u = (t, 0) ∧ clipAt t [u] 1 = s := by
  by_cases ha : allT [t, u] [t, u].length
  · by_cases h2 : 1099511627775 < [t, u].sum
    · rw [addSpec_over ha h2] at h; simp at h
    · rw [addSpec_ok ha (by omega)] at h
      simp only [Prod.mk.injEq, and_true] at h
      have h0 : isT t = true := by simpa using ha 0 (by simp)
      have h1 : isT u = true := by simpa using ha 1 (by simp)
      have b0 := isT_bd h0
      have b1 := isT_bd h1
      have hs : s = t + u := by rw [← h]; simp
      have hs2 : s ≤ 1099511627775 := by rw [← h]; omega
      have hsT : isT s = true := by simp only [isT, decide_eq_true_eq]; omega
      refine ⟨?_, ?_⟩
      · simp only [subSpec, hsT, h1, Bool.and_self, if_true]
        rw [if_neg (by omega), show s - u = t by omega]
      · show one (one t + one u) = s
        rw [one_of (show 0 ≤ t by omega), one_of (show 0 ≤ u by omega), if_neg (by omega), if_neg (by omega), one_of (by omega), if_neg (by omega), hs]
  · rw [addSpec_arg ha] at h; simp at h
theorem laws_mul {t n a : Int} (h : mulSpec t n = (a, 0)) : mulSpec t (n + 1) = addSpec [a, t] := by
  by_cases ht : isT t = true
  · by_cases hn : 0 ≤ n
    · by_cases h2 : 1099511627775 < t * n
      · rw [mul_six ht hn h2] at h; simp at h
      · rw [mul_ok ht hn (by omega)] at h
        simp only [Prod.mk.injEq, and_true] at h
        have b0 := isT_bd ht
        have ha0 : 0 ≤ a := by rw [← h]; exact Int.mul_nonneg b0.1 hn
        have haT : isT a = true := by simp only [isT, decide_eq_true_eq]; omega
        have hal : allT [a, t] [a, t].length := (all_iff _).1 (by simp [haT, ht])
        have hm : t * (n + 1) = [a, t].sum := by rw [Int.mul_add, h]; simp
        by_cases h3 : 1099511627775 < [a, t].sum
        · rw [addSpec_over hal h3, mul_six ht (by omega) (by omega)]
        · rw [addSpec_ok hal (by omega), mul_ok ht (by omega) (by omega), hm]
    · simp [mulSpec, hn] at h
  · have ht' : isT t = false := by simpa using ht
    simp [mulSpec, ht'] at h
theorem mulSpec_bd (t n : Int) : 0 ≤ (mulSpec t n).1 ∧ (mulSpec t n).1 ≤ 1099511627775 := by
  by_cases ht : isT t = true
  · by_cases hn : 0 ≤ n
    · by_cases h2 : 1099511627775 < t * n
      · rw [mul_six ht hn h2]; simp
      · rw [mul_ok ht hn (by omega)]; exact ⟨Int.mul_nonneg (isT_bd ht).1 hn, by simp only; omega⟩
    · simp [mulSpec, hn]
  · have ht' : isT t = false := by simpa using ht
    simp [mulSpec, ht']

set_option maxHeartbeats 4000000 in
theorem walk_clockLaws (a0 a1 a2 : Int) (w0 : (Lit.int .i64 a0).wf = true) (w1 : (Lit.int .i64 a1).wf = true) (w2 : (Lit.int .i64 a2).wf = true) (w : World) :
    Calls Try.prog 10 #[.int .i64 a0, .int .i64 a1, .int .i64 a2] w fun e w' => e = .returned (.bool true) ∧ Below w.heap.size w w' := by
  obtain ⟨b0, b1⟩ := bounds_i64 w0
  obtain ⟨b2, b3⟩ := bounds_i64 w2
  clear w0 w1 w2
  obtain ⟨s, e, hse⟩ : ∃ s e, addSpec [a0, a1] = (s, e) := ⟨_, _, rfl⟩
  have HSE := Lib.hid hse
  obtain ⟨m, f, hmf⟩ : ∃ m f, mulSpec a0 a2 = (m, f) := ⟨_, _, rfl⟩
  have HMF := Lib.hid hmf
  have hmb := mulSpec_bd a0 a2
  rw [hmf] at hmb
  obtain ⟨hm0, hm1⟩ := hmb
  obtain ⟨x, y, hxy⟩ : ∃ x y, addSpec [m, a0] = (x, y) := ⟨_, _, rfl⟩
  have HXY := Lib.hid hxy
  obtain ⟨p, q, hpq⟩ : ∃ p q, mulSpec a0 (a2 + 1) = (p, q) := ⟨_, _, rfl⟩
  have HPQ := Lib.hid hpq
  have HC := Lib.hid (clip_isT a0 [a1, a2] 2)
  clear hse hmf hxy hpq
  by_cases he : e = 0
  · subst he
    by_cases hn : a2 < 4611686018427387904 ∧ 0 ≤ a2
    · obtain ⟨hn1, hn2⟩ := hn
      by_cases hf : f = 0
      · subst hf
        have hpx := HPQ.out.symm.trans ((laws_mul HMF.out).trans HXY.out)
        simp only [Prod.mk.injEq] at hpx
        obtain ⟨rfl, rfl⟩ := hpx
        go_enter Try.func10, Try.ntmps10
        go_wp2_with fail
        refine (add_calls a0 _ _ _ [a1] _ (ints1 (by rw [cell_new (by simp)]; rfl)) (by omega) (by omega) (by omega)).mono ?_
        rintro e' w' ⟨rfl, rfl⟩
        rw [HSE.out]
        go_wp2_with fail
        refine (sub_calls _ _ _).mono ?_
        rintro e' w' ⟨rfl, rfl⟩
        rw [(laws_sum HSE.out).1]
        go_wp2_with fail
        refine (clip_calls a0 _ _ _ [a1] _ (ints1 (by rw [cell_new (by simp)]; rfl)) (by omega)).mono ?_
        rintro e' w' ⟨rfl, rfl⟩
        rw [show clipAt a0 [a1] [a1].length = s from (laws_sum HSE.out).2]
        go_wp2_with fail
        refine (mul_calls _ _ _ (by omega)).mono ?_
        rintro e' w' ⟨rfl, rfl⟩
        rw [HMF.out]
        go_wp2_with fail
        refine (mul_calls _ _ _ (by omega)).mono ?_
        rintro e' w' ⟨rfl, rfl⟩
        rw [HPQ.out]
        go_wp2_with fail
        refine (add_calls m _ _ _ [a0] _ (ints1 (by rw [cell_new (by simp)]; rfl)) (by omega) (by omega) (by omega)).mono ?_
        rintro e' w' ⟨rfl, rfl⟩
        rw [HXY.out]
        go_wp2_with fail
        refine (clip_calls a0 _ _ _ [a1, a2] _ (ints2 (by rw [cell_new (by simp)]; rfl) (by rw [cell_new (by simp)]; rfl)) (by omega)).mono ?_
        rintro e' w' ⟨rfl, rfl⟩
        go_wp2_with fail
        refine (is_any _ _).mono ?_
        rintro e' w' ⟨rfl, rfl⟩
        rw [HC.out]
        go_wp2_with fail
        refine (known_calls _).mono ?_
        rintro e' w4 ⟨rfl, hb6⟩
        go_wp2_with fail
        go_ret
        refine ⟨rfl, Below.trans ?_ (hb6.mono (B' := w.heap.size) (by simp; try omega))⟩
        repeat (first | exact Below.refl _ _ | refine Below.alloc ?_ (by simp; try omega) _)
      · have hf' : (f == 0) = false := by simpa using hf
        clear hf
        go_enter Try.func10, Try.ntmps10
        go_wp2_with fail
        refine (add_calls a0 _ _ _ [a1] _ (ints1 (by rw [cell_new (by simp)]; rfl)) (by omega) (by omega) (by omega)).mono ?_
        rintro e' w' ⟨rfl, rfl⟩
        rw [HSE.out]
        go_wp2_with fail
        refine (sub_calls _ _ _).mono ?_
        rintro e' w' ⟨rfl, rfl⟩
        rw [(laws_sum HSE.out).1]
        go_wp2_with fail
        refine (clip_calls a0 _ _ _ [a1] _ (ints1 (by rw [cell_new (by simp)]; rfl)) (by omega)).mono ?_
        rintro e' w' ⟨rfl, rfl⟩
        rw [show clipAt a0 [a1] [a1].length = s from (laws_sum HSE.out).2]
        go_wp2_with fail
        refine (mul_calls _ _ _ (by omega)).mono ?_
        rintro e' w' ⟨rfl, rfl⟩
        rw [HMF.out]
        go_wp2_with fail
        refine (mul_calls _ _ _ (by omega)).mono ?_
        rintro e' w' ⟨rfl, rfl⟩
        rw [HPQ.out]
        go_wp2_with fail
        refine (add_calls m _ _ _ [a0] _ (ints1 (by rw [cell_new (by simp)]; rfl)) (by omega) (by omega) (by omega)).mono ?_
        rintro e' w' ⟨rfl, rfl⟩
        rw [HXY.out]
        go_wp2_with fail
        refine (clip_calls a0 _ _ _ [a1, a2] _ (ints2 (by rw [cell_new (by simp)]; rfl) (by rw [cell_new (by simp)]; rfl)) (by omega)).mono ?_
        rintro e' w' ⟨rfl, rfl⟩
        go_wp2_with fail
        refine (is_any _ _).mono ?_
        rintro e' w' ⟨rfl, rfl⟩
        rw [HC.out]
        go_wp2_with fail
        refine (known_calls _).mono ?_
        rintro e' w4 ⟨rfl, hb6⟩
        go_wp2_with fail
        go_ret
        refine ⟨rfl, Below.trans ?_ (hb6.mono (B' := w.heap.size) (by simp; try omega))⟩
        repeat (first | exact Below.refl _ _ | refine Below.alloc ?_ (by simp; try omega) _)
    · by_cases hn1 : a2 < 4611686018427387904
      · have hn2 : a2 < 0 := by omega
        clear hn
        go_enter Try.func10, Try.ntmps10
        go_wp2_with fail
        refine (add_calls a0 _ _ _ [a1] _ (ints1 (by rw [cell_new (by simp)]; rfl)) (by omega) (by omega) (by omega)).mono ?_
        rintro e' w' ⟨rfl, rfl⟩
        rw [HSE.out]
        go_wp2_with fail
        refine (sub_calls _ _ _).mono ?_
        rintro e' w' ⟨rfl, rfl⟩
        rw [(laws_sum HSE.out).1]
        go_wp2_with fail
        refine (clip_calls a0 _ _ _ [a1] _ (ints1 (by rw [cell_new (by simp)]; rfl)) (by omega)).mono ?_
        rintro e' w' ⟨rfl, rfl⟩
        rw [show clipAt a0 [a1] [a1].length = s from (laws_sum HSE.out).2]
        go_wp2_with fail
        refine (clip_calls a0 _ _ _ [a1, a2] _ (ints2 (by rw [cell_new (by simp)]; rfl) (by rw [cell_new (by simp)]; rfl)) (by omega)).mono ?_
        rintro e' w' ⟨rfl, rfl⟩
        go_wp2_with fail
        refine (is_any _ _).mono ?_
        rintro e' w' ⟨rfl, rfl⟩
        rw [HC.out]
        go_wp2_with fail
        refine (known_calls _).mono ?_
        rintro e' w4 ⟨rfl, hb6⟩
        go_wp2_with fail
        go_ret
        refine ⟨rfl, Below.trans ?_ (hb6.mono (B' := w.heap.size) (by simp; try omega))⟩
        repeat (first | exact Below.refl _ _ | refine Below.alloc ?_ (by simp; try omega) _)
      · clear hn
        go_enter Try.func10, Try.ntmps10
        go_wp2_with fail
        refine (add_calls a0 _ _ _ [a1] _ (ints1 (by rw [cell_new (by simp)]; rfl)) (by omega) (by omega) (by omega)).mono ?_
        rintro e' w' ⟨rfl, rfl⟩
        rw [HSE.out]
        go_wp2_with fail
        refine (sub_calls _ _ _).mono ?_
        rintro e' w' ⟨rfl, rfl⟩
        rw [(laws_sum HSE.out).1]
        go_wp2_with fail
        refine (clip_calls a0 _ _ _ [a1] _ (ints1 (by rw [cell_new (by simp)]; rfl)) (by omega)).mono ?_
        rintro e' w' ⟨rfl, rfl⟩
        rw [show clipAt a0 [a1] [a1].length = s from (laws_sum HSE.out).2]
        go_wp2_with fail
        refine (clip_calls a0 _ _ _ [a1, a2] _ (ints2 (by rw [cell_new (by simp)]; rfl) (by rw [cell_new (by simp)]; rfl)) (by omega)).mono ?_
        rintro e' w' ⟨rfl, rfl⟩
        go_wp2_with fail
        refine (is_any _ _).mono ?_
        rintro e' w' ⟨rfl, rfl⟩
        rw [HC.out]
        go_wp2_with fail
        refine (known_calls _).mono ?_
        rintro e' w4 ⟨rfl, hb6⟩
        go_wp2_with fail
        go_ret
        refine ⟨rfl, Below.trans ?_ (hb6.mono (B' := w.heap.size) (by simp; try omega))⟩
        repeat (first | exact Below.refl _ _ | refine Below.alloc ?_ (by simp; try omega) _)
  · have he' : (e == 0) = false := by simpa using he
    clear he
    by_cases hn : a2 < 4611686018427387904 ∧ 0 ≤ a2
    · obtain ⟨hn1, hn2⟩ := hn
      by_cases hf : f = 0
      · subst hf
        have hpx := HPQ.out.symm.trans ((laws_mul HMF.out).trans HXY.out)
        simp only [Prod.mk.injEq] at hpx
        obtain ⟨rfl, rfl⟩ := hpx
        go_enter Try.func10, Try.ntmps10
        go_wp2_with fail
        refine (add_calls a0 _ _ _ [a1] _ (ints1 (by rw [cell_new (by simp)]; rfl)) (by omega) (by omega) (by omega)).mono ?_
        rintro e' w' ⟨rfl, rfl⟩
        rw [HSE.out]
        go_wp2_with fail
        refine (mul_calls _ _ _ (by omega)).mono ?_
        rintro e' w' ⟨rfl, rfl⟩
        rw [HMF.out]
        go_wp2_with fail
        refine (mul_calls _ _ _ (by omega)).mono ?_
        rintro e' w' ⟨rfl, rfl⟩
        rw [HPQ.out]
        go_wp2_with fail
        refine (add_calls m _ _ _ [a0] _ (ints1 (by rw [cell_new (by simp)]; rfl)) (by omega) (by omega) (by omega)).mono ?_
        rintro e' w' ⟨rfl, rfl⟩
        rw [HXY.out]
        go_wp2_with fail
        refine (clip_calls a0 _ _ _ [a1, a2] _ (ints2 (by rw [cell_new (by simp)]; rfl) (by rw [cell_new (by simp)]; rfl)) (by omega)).mono ?_
        rintro e' w' ⟨rfl, rfl⟩
        go_wp2_with fail
        refine (is_any _ _).mono ?_
        rintro e' w' ⟨rfl, rfl⟩
        rw [HC.out]
        go_wp2_with fail
        refine (known_calls _).mono ?_
        rintro e' w4 ⟨rfl, hb6⟩
        go_wp2_with fail
        go_ret
        refine ⟨rfl, Below.trans ?_ (hb6.mono (B' := w.heap.size) (by simp; try omega))⟩
        repeat (first | exact Below.refl _ _ | refine Below.alloc ?_ (by simp; try omega) _)
      · have hf' : (f == 0) = false := by simpa using hf
        clear hf
        go_enter Try.func10, Try.ntmps10
        go_wp2_with fail
        refine (add_calls a0 _ _ _ [a1] _ (ints1 (by rw [cell_new (by simp)]; rfl)) (by omega) (by omega) (by omega)).mono ?_
        rintro e' w' ⟨rfl, rfl⟩
        rw [HSE.out]
        go_wp2_with fail
        refine (mul_calls _ _ _ (by omega)).mono ?_
        rintro e' w' ⟨rfl, rfl⟩
        rw [HMF.out]
        go_wp2_with fail
        refine (mul_calls _ _ _ (by omega)).mono ?_
        rintro e' w' ⟨rfl, rfl⟩
        rw [HPQ.out]
        go_wp2_with fail
        refine (add_calls m _ _ _ [a0] _ (ints1 (by rw [cell_new (by simp)]; rfl)) (by omega) (by omega) (by omega)).mono ?_
        rintro e' w' ⟨rfl, rfl⟩
        rw [HXY.out]
        go_wp2_with fail
        refine (clip_calls a0 _ _ _ [a1, a2] _ (ints2 (by rw [cell_new (by simp)]; rfl) (by rw [cell_new (by simp)]; rfl)) (by omega)).mono ?_
        rintro e' w' ⟨rfl, rfl⟩
        go_wp2_with fail
        refine (is_any _ _).mono ?_
        rintro e' w' ⟨rfl, rfl⟩
        rw [HC.out]
        go_wp2_with fail
        refine (known_calls _).mono ?_
        rintro e' w4 ⟨rfl, hb6⟩
        go_wp2_with fail
        go_ret
        refine ⟨rfl, Below.trans ?_ (hb6.mono (B' := w.heap.size) (by simp; try omega))⟩
        repeat (first | exact Below.refl _ _ | refine Below.alloc ?_ (by simp; try omega) _)
    · by_cases hn1 : a2 < 4611686018427387904
      · have hn2 : a2 < 0 := by omega
        clear hn
        go_enter Try.func10, Try.ntmps10
        go_wp2_with fail
        refine (add_calls a0 _ _ _ [a1] _ (ints1 (by rw [cell_new (by simp)]; rfl)) (by omega) (by omega) (by omega)).mono ?_
        rintro e' w' ⟨rfl, rfl⟩
        rw [HSE.out]
        go_wp2_with fail
        refine (clip_calls a0 _ _ _ [a1, a2] _ (ints2 (by rw [cell_new (by simp)]; rfl) (by rw [cell_new (by simp)]; rfl)) (by omega)).mono ?_
        rintro e' w' ⟨rfl, rfl⟩
        go_wp2_with fail
        refine (is_any _ _).mono ?_
        rintro e' w' ⟨rfl, rfl⟩
        rw [HC.out]
        go_wp2_with fail
        refine (known_calls _).mono ?_
        rintro e' w4 ⟨rfl, hb6⟩
        go_wp2_with fail
        go_ret
        refine ⟨rfl, Below.trans ?_ (hb6.mono (B' := w.heap.size) (by simp; try omega))⟩
        repeat (first | exact Below.refl _ _ | refine Below.alloc ?_ (by simp; try omega) _)
      · clear hn
        go_enter Try.func10, Try.ntmps10
        go_wp2_with fail
        refine (add_calls a0 _ _ _ [a1] _ (ints1 (by rw [cell_new (by simp)]; rfl)) (by omega) (by omega) (by omega)).mono ?_
        rintro e' w' ⟨rfl, rfl⟩
        rw [HSE.out]
        go_wp2_with fail
        refine (clip_calls a0 _ _ _ [a1, a2] _ (ints2 (by rw [cell_new (by simp)]; rfl) (by rw [cell_new (by simp)]; rfl)) (by omega)).mono ?_
        rintro e' w' ⟨rfl, rfl⟩
        go_wp2_with fail
        refine (is_any _ _).mono ?_
        rintro e' w' ⟨rfl, rfl⟩
        rw [HC.out]
        go_wp2_with fail
        refine (known_calls _).mono ?_
        rintro e' w4 ⟨rfl, hb6⟩
        go_wp2_with fail
        go_ret
        refine ⟨rfl, Below.trans ?_ (hb6.mono (B' := w.heap.size) (by simp; try omega))⟩
        repeat (first | exact Below.refl _ _ | refine Below.alloc ?_ (by simp; try omega) _)
end Go.Proofs.Ytgbombimkpkbpaa
