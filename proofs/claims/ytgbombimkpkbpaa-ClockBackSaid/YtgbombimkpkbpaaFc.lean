/- Contracts of clock.Add, clock.Clip and of their references, said by one plain function each. -/
import Derived.Test.YtgbombimkpkbpaaFb
namespace Go.Proofs.Ytgbombimkpkbpaa
open Go.RowKit

/-- What the chapter says of a sum. -/
def addSpec (zs : List Int) : Int × Int := if zs.all isT then (if 1099511627775 < zs.sum then (0, 6) else (zs.sum, 0)) else (0, 2)
def clipAt (t : Int) (zs : List Int) (k : Nat) : Int := (zs.take k).foldl (fun s u => one (s + one u)) (one t)

theorem sum_take_succ (zs : List Int) (k : Nat) (h : k < zs.length) : (zs.take (k + 1)).sum = (zs.take k).sum + zs.getD k 0 := by
  rw [take_succ zs k h, List.sum_append]; simp

theorem addAt_sum (t : Int) (zs : List Int) (ht : isT t = true) : ∀ k, k ≤ zs.length → allT zs k →
    ((addAt t zs k).1 = true ∧ (addAt t zs k).2 = t + (zs.take k).sum ∧ t + (zs.take k).sum ≤ 1099511627775) ∨ ((addAt t zs k).1 = false ∧ 1099511627775 < t + (zs.take k).sum) := by
  intro k
  induction k with
  | zero => intro _ _; left; have := isT_bd ht; refine ⟨rfl, ?_, ?_⟩ <;> simp [addAt]; omega
  | succ k ih =>
    intro hk ha
    have hu := isT_bd (ha k (by omega))
    have hs := sum_take_succ zs k (by omega)
    rw [addAt_succ t zs k (by omega)]
    rcases ih (by omega) (fun i hi => ha i (by omega)) with ⟨h1, h2, h3⟩ | ⟨h1, h2⟩
    · unfold addStep
      by_cases h : (addAt t zs k).2 > 1099511627775 - zs.getD k 0
      · rw [if_pos h]; right; exact ⟨rfl, by omega⟩
      · rw [if_neg h]; left; exact ⟨h1, by show (addAt t zs k).2 + zs.getD k 0 = _; omega, by omega⟩
    · unfold addStep
      by_cases h : (addAt t zs k).2 > 1099511627775 - zs.getD k 0
      · rw [if_pos h]; right; exact ⟨rfl, by omega⟩
      · rw [if_neg h]; right; exact ⟨h1, by omega⟩

theorem all_iff (zs : List Int) : zs.all isT = true ↔ allT zs zs.length := by
  rw [List.all_eq_true]
  constructor
  · intro h i hi; rw [List.getD_eq_getElem?_getD, List.getElem?_eq_getElem hi]; exact h _ (List.getElem_mem hi)
  · intro h x hx
    obtain ⟨i, hi, rfl⟩ := List.getElem_of_mem hx
    have := h i hi
    rw [List.getD_eq_getElem?_getD, List.getElem?_eq_getElem hi] at this; exact this

theorem addSpec_arg {zs : List Int} (h : ¬ allT zs zs.length) : addSpec zs = (0, 2) := by
  rw [addSpec, if_neg (by rw [all_iff]; exact h)]
theorem addSpec_over {zs : List Int} (h : allT zs zs.length) (h2 : 1099511627775 < zs.sum) : addSpec zs = (0, 6) := by
  rw [addSpec, if_pos ((all_iff zs).2 h), if_pos h2]
theorem addSpec_ok {zs : List Int} (h : allT zs zs.length) (h2 : zs.sum ≤ 1099511627775) : addSpec zs = (zs.sum, 0) := by
  rw [addSpec, if_pos ((all_iff zs).2 h), if_neg (by omega)]
theorem allT_cons {t : Int} {zs : List Int} : allT (t :: zs) (t :: zs).length ↔ (isT t = true ∧ allT zs zs.length) := by
  rw [← all_iff, ← all_iff]; simp

theorem add_calls (t : Int) (a : Option Addr) (len cap : Nat) (zs : List Int) (w : World) (hr : IsInts w a len zs) (hl : len ≤ 9223372036854775807) (ht : -9223372036854775808 ≤ t) (hT : t ≤ 9223372036854775807) :
    Calls Try.prog 12 #[.int .i64 t, .slice a len cap] w fun e w' => e = .returned (.tuple #[.int .i64 (addSpec (t :: zs)).1, .int .i64 (addSpec (t :: zs)).2]) ∧ w = w' := by
  refine (add_any t a len cap zs w hr hl ht hT).mono ?_
  rintro e w' ⟨rfl, h⟩
  refine ⟨?_, rfl⟩
  rcases h with ⟨rfl, h⟩ | ⟨h0, h1, h⟩
  · rw [addSpec_arg (by rw [allT_cons]; exact h)]
  · have ha := (allT_cons (t := t) (zs := zs)).2 ⟨h0, h1⟩
    have := addAt_sum t zs h0 zs.length (Nat.le_refl _) h1
    rw [List.take_length] at this
    rcases h with ⟨rfl, h⟩ | ⟨rfl, h⟩
    · rcases this with ⟨h2, _⟩ | ⟨_, h3⟩
      · rw [h2] at h; cases h
      · rw [addSpec_over ha (by simpa using h3)]
    · rcases this with ⟨_, h2, h3⟩ | ⟨h3, _⟩
      · rw [addSpec_ok ha (by simpa using h3), h2]; simp
      · rw [h3] at h; cases h

theorem clipAt_succ (t : Int) (zs : List Int) (k : Nat) (h : k < zs.length) : clipAt t zs (k + 1) = one (clipAt t zs k + one (zs.getD k 0)) := by
  unfold clipAt; rw [take_succ zs k h, List.foldl_append]; rfl
theorem one_bd (t : Int) : 0 ≤ one t ∧ one t ≤ 1099511627775 := by unfold one; split <;> (try split) <;> omega
theorem clipAt_bd (t : Int) (zs : List Int) (k : Nat) : 0 ≤ clipAt t zs k ∧ clipAt t zs k ≤ 1099511627775 := by
  induction k with
  | zero => exact one_bd t
  | succ k ih =>
    by_cases h : k < zs.length
    · rw [clipAt_succ t zs k h]; exact one_bd _
    · have : clipAt t zs (k + 1) = clipAt t zs k := by unfold clipAt; rw [List.take_of_length_le (by omega), List.take_of_length_le (by omega)]
      rw [this]; exact ih

theorem ret_int {k : IntKind} {a b : Int} (h : a = b) : Ending.returned (.int k a) = .returned (.int k b) := by rw [h]

set_option maxHeartbeats 400000 in
theorem clip_calls (t : Int) (a : Option Addr) (len cap : Nat) (zs : List Int) (w : World) (hr : IsInts w a len zs) (hl : len ≤ 9223372036854775807) :
    Calls Try.prog 14 #[.int .i64 t, .slice a len cap] w fun e w' => e = .returned (.int .i64 (clipAt t zs zs.length)) ∧ w = w' := by
  obtain ⟨hz, hr⟩ := hr
  have HZ := Lib.hid hz
  clear hz
  rcases hr with rfl | ⟨b, off, rfl, hc⟩
  · go_enter Try.func14, Try.ntmps14
    go_wp2_with (first | (go_at_call 26; refine (clip_any _ _).mono ?_; rintro e w' ⟨rfl, rfl⟩))
    refine wp_loop_once ?_
    go_wp2_with fail
    go_ret
    exact ⟨ret_int (by rw [HZ.out]; rfl), rfl⟩
  · have HC := Lib.hid hc
    clear hc
    go_enter Try.func14, Try.ntmps14
    go_wp2_with (first | (go_at_call 26; refine (clip_any _ _).mono ?_; rintro e w' ⟨rfl, rfl⟩))
    go_loop [5, 12] (fun s i => ∃ k : Nat, k ≤ len ∧ i = .int .i64 k ∧ s = .int .i64 (clipAt t zs k)) (fun _ i => len - (intOf i).toNat)
    case atStart => exact ⟨0, Nat.zero_le _, rfl, rfl⟩
    case round =>
      obtain ⟨k, hk, rfl, rfl⟩ := hrel
      have hbd := clipAt_bd t zs k
      obtain ⟨s, hst⟩ : ∃ s, clipAt t zs k = s := ⟨_, rfl⟩
      rw [hst] at hbd
      rw [hst]
      have HS := Lib.hid hst
      obtain ⟨hb1, hb2⟩ := hbd
      clear hst
      by_cases hlt : k < len
      · obtain ⟨u, hu⟩ : ∃ u, u = zs.getD k 0 := ⟨_, rfl⟩
        have hcell : w.cell? ⟨b, off + k, none⟩ = some (.int .i64 u) := by rw [hu]; exact HC.out k hlt
        have HU := Lib.hid hu
        clear hu
        obtain ⟨hu0, hu1⟩ := one_bd u
        go_wp2_with fail
        refine (clip_any _ _).mono ?_
        rintro e w' ⟨rfl, rfl⟩
        go_wp2_with fail
        refine (clip_any _ _).mono ?_
        rintro e w' ⟨rfl, rfl⟩
        go_wp2_with fail
        go_round
        case rel => exact ⟨k + 1, by omega, by go_num, by rw [clipAt_succ t zs k (by rw [HZ.out]; exact hlt), HS.out, ← HU.out]⟩
        case measure => simp [intOf]; omega
      · obtain rfl : k = len := by omega
        go_wp2_with fail
        go_ret
        exact ⟨ret_int (by rw [HZ.out]; exact HS.out.symm), rfl⟩

set_option maxHeartbeats 400000 in
theorem rclip_calls (a : Option Addr) (len cap : Nat) (zs : List Int) (w : World) (hr : IsInts w a len zs) (hl : len ≤ 9223372036854775807) :
    Calls Try.prog 15 #[.slice a len cap] w fun e w' => e = .returned (.int .i64 (clipAt 0 zs zs.length)) ∧ w = w' := by
  obtain ⟨hz, hr⟩ := hr
  have HZ := Lib.hid hz
  clear hz
  rcases hr with rfl | ⟨b, off, rfl, hc⟩
  · go_enter Try.func15, Try.ntmps15
    go_wp2_with fail
    refine wp_loop_once ?_
    go_wp2_with fail
    go_ret
    exact ⟨ret_int (by rw [HZ.out]; rfl), rfl⟩
  · have HC := Lib.hid hc
    clear hc
    go_enter Try.func15, Try.ntmps15
    go_wp2_with fail
    go_loop [3, 4] (fun s i => ∃ k : Nat, k ≤ len ∧ i = .int .i64 k ∧ s = .int .i64 (clipAt 0 zs k)) (fun _ i => len - (intOf i).toNat)
    case atStart => exact ⟨0, Nat.zero_le _, rfl, rfl⟩
    case round =>
      obtain ⟨k, hk, rfl, rfl⟩ := hrel
      have hbd := clipAt_bd 0 zs k
      obtain ⟨s, hst⟩ : ∃ s, clipAt 0 zs k = s := ⟨_, rfl⟩
      rw [hst] at hbd
      rw [hst]
      have HS := Lib.hid hst
      obtain ⟨hb1, hb2⟩ := hbd
      clear hst
      by_cases hlt : k < len
      · obtain ⟨u, hu⟩ : ∃ u, u = zs.getD k 0 := ⟨_, rfl⟩
        have hcell : w.cell? ⟨b, off + k, none⟩ = some (.int .i64 u) := by rw [hu]; exact HC.out k hlt
        have HU := Lib.hid hu
        clear hu
        obtain ⟨hu0, hu1⟩ := one_bd u
        go_wp2_with fail
        refine (one_any _ _).mono ?_
        rintro e w' ⟨rfl, rfl⟩
        go_wp2_with fail
        refine (one_any _ _).mono ?_
        rintro e w' ⟨rfl, rfl⟩
        go_wp2_with fail
        go_round
        case rel => exact ⟨k + 1, by omega, by go_num, by rw [clipAt_succ 0 zs k (by rw [HZ.out]; exact hlt), HS.out, ← HU.out]⟩
        case measure => simp [intOf]; omega
      · obtain rfl : k = len := by omega
        go_wp2_with fail
        go_ret
        exact ⟨ret_int (by rw [HZ.out]; exact HS.out.symm), rfl⟩

def sumAt (zs : List Int) (k : Nat) : Int := (zs.take k).sum
theorem sumAt_succ (zs : List Int) (k : Nat) (h : k < zs.length) : sumAt zs (k + 1) = sumAt zs k + zs.getD k 0 := sum_take_succ zs k h
theorem sumAt_mono (zs : List Int) (ha : allT zs zs.length) (k : Nat) (hk : k ≤ zs.length) : 0 ≤ sumAt zs k ∧ sumAt zs k ≤ zs.sum := by
  have h : ∀ k, k ≤ zs.length → 0 ≤ sumAt zs k := by
    intro k
    induction k with
    | zero => intro _; simp [sumAt]
    | succ k ih => intro h; rw [sumAt_succ zs k h]; have := ih (by omega); have := isT_bd (ha k h); omega
  refine ⟨h k hk, ?_⟩
  have : ∀ d, k + d ≤ zs.length → sumAt zs k ≤ sumAt zs (k + d) := by
    intro d
    induction d with
    | zero => intro _; exact Int.le_refl _
    | succ d ih => intro h; rw [← Nat.add_assoc, sumAt_succ zs (k + d) (by omega)]; have := ih (by omega); have := isT_bd (ha (k + d) (by omega)); omega
  have := this (zs.length - k) (by omega)
  rw [show k + (zs.length - k) = zs.length from by omega] at this
  simpa [sumAt] using this

theorem post2 {a b : Int} {zs : List Int} {w : World} (h : addSpec zs = (a, b)) : Ending.returned (.tuple #[.int .i64 a, .int .i64 b]) = .returned (.tuple #[.int .i64 (addSpec zs).1, .int .i64 (addSpec zs).2]) ∧ w = w := by rw [h]; exact ⟨rfl, rfl⟩

set_option maxHeartbeats 400000 in
theorem radd_calls (a : Option Addr) (len cap : Nat) (zs : List Int) (w : World) (hr : IsInts w a len zs) (hl : len ≤ 9223372036854775807) :
    Calls Try.prog 13 #[.slice a len cap] w fun e w' => e = .returned (.tuple #[.int .i64 (addSpec zs).1, .int .i64 (addSpec zs).2]) ∧ w = w' := by
  obtain ⟨hz, hr⟩ := hr
  have HZ := Lib.hid hz
  clear hz
  rcases hr with rfl | ⟨b, off, rfl, hc⟩
  · go_enter Try.func13, Try.ntmps13
    go_wp2_with fail
    refine wp_loop_once ?_
    go_wp2_with fail
    refine wp_loop_once ?_
    go_wp2_with fail
    go_ret2
    exact post2 (by have : zs = [] := List.length_eq_zero_iff.1 HZ.out; subst this; rfl)
  · have HC := Lib.hid hc
    clear hc
    go_enter Try.func13, Try.ntmps13
    go_wp2_with fail
    go_loop [4] (fun i => ∃ k : Nat, k ≤ len ∧ i = .int .i64 k ∧ allT zs k) (fun i => len - (intOf i).toNat)
    case atStart => exact ⟨0, Nat.zero_le _, rfl, fun i hi => by omega⟩
    case round =>
      obtain ⟨k, hk, rfl, hall⟩ := hrel
      have HA := Lib.hid hall
      clear hall
      by_cases hlt : k < len
      · obtain ⟨u, hu⟩ : ∃ u, u = zs.getD k 0 := ⟨_, rfl⟩
        have hcell : w.cell? ⟨b, off + k, none⟩ = some (.int .i64 u) := by rw [hu]; exact HC.out k hlt
        have HU := Lib.hid hu
        clear hu
        by_cases hu : isT u = true
        · go_wp2_with (first | (go_at_call 25; refine (ris_any _ _).mono ?_; rintro e w' ⟨rfl, rfl⟩))
          go_round
          case rel => exact ⟨k + 1, by omega, by go_num, allT_succ HA.out HU.out hu⟩
          case measure => simp [intOf]; omega
        · have hu' : isT u = false := by simpa using hu
          go_wp2_with (first | (go_at_call 25; refine (ris_any _ _).mono ?_; rintro e w' ⟨rfl, rfl⟩))
          go_ret2
          exact post2 (addSpec_arg (fun h => by have := h k (by rw [HZ.out]; exact hlt); rw [← HU.out] at this; exact hu this))
      · obtain rfl : k = len := by omega
        go_wp2_with fail
        go_loop [5, 6] (fun s i => ∃ j : Nat, j ≤ k ∧ i = .int .i64 j ∧ s = .int .i64 (sumAt zs j) ∧ sumAt zs j ≤ 1099511627775) (fun _ i => k - (intOf i).toNat)
        case atStart => exact ⟨0, Nat.zero_le _, rfl, rfl, by simp [sumAt]⟩
        case round =>
          obtain ⟨j, hj, rfl, rfl, hs1⟩ := hrel
          have hs0 := (sumAt_mono zs (by rw [HZ.out]; exact HA.out) j (by rw [HZ.out]; exact hj)).1
          obtain ⟨s, hst⟩ : ∃ s, sumAt zs j = s := ⟨_, rfl⟩
          rw [hst] at hs0 hs1
          rw [hst]
          have HS := Lib.hid hst
          clear hst
          by_cases hlt : j < k
          · obtain ⟨u, hu⟩ : ∃ u, u = zs.getD j 0 := ⟨_, rfl⟩
            have hcell : w.cell? ⟨b, off + j, none⟩ = some (.int .i64 u) := by rw [hu]; exact HC.out j hlt
            have hu2 := isT_bd (HA.out j hlt)
            rw [← hu] at hu2
            have HU := Lib.hid hu
            clear hu
            obtain ⟨hu0, hu1⟩ := hu2
            by_cases hov : 1099511627775 < s + u
            · go_wp2_with fail
              go_ret2
              exact post2 (addSpec_over (by rw [HZ.out]; exact HA.out) (by
                have h1 := (sumAt_mono zs (by rw [HZ.out]; exact HA.out) (j + 1) (by rw [HZ.out]; exact hlt)).2
                rw [sumAt_succ zs j (by rw [HZ.out]; exact hlt), HS.out, ← HU.out] at h1; omega))
            · go_wp2_with fail
              go_round
              case rel => exact ⟨j + 1, by omega, by go_num, by rw [sumAt_succ zs j (by rw [HZ.out]; exact hlt), HS.out, ← HU.out], by rw [sumAt_succ zs j (by rw [HZ.out]; exact hlt), HS.out, ← HU.out]; omega⟩
              case measure => simp [intOf]; omega
          · obtain rfl : j = k := by omega
            go_wp2_with fail
            go_ret2
            have e : zs.sum = s := by rw [← HS.out, sumAt, ← HZ.out, List.take_length]
            exact post2 (by rw [addSpec_ok (by rw [HZ.out]; exact HA.out) (by omega), e])
end Go.Proofs.Ytgbombimkpkbpaa
