/- The contract of the reference's Read. -/
import Derived.Test.YtgbombimkpkbpaaFg
namespace Go.Proofs.Ytgbombimkpkbpaa
open Go.RowKit

theorem byte_at {s : ByteArray} {k : Nat} (h : k < s.size) : s.data.toList.getD k 0 = s[k]'h := by
  rw [List.getD_eq_getElem?_getD, List.getElem?_eq_getElem (by rw [len_eq]; exact h)]; rfl
theorem head_at {s : ByteArray} (h : 0 < s.size) : s.data.toList.head? = some (s[0]'h) := by
  rw [← byte_at h, List.head?_eq_getElem?, List.getD_eq_getElem?_getD, List.getElem?_eq_getElem (by rw [len_eq]; exact h)]; rfl

def allD (l : List UInt8) (k : Nat) : Prop := ∀ c ∈ l.take k, isD c = true
theorem allD_val {l : List UInt8} (h : allD l l.length) (hl : l.length ≤ 13) (k : Nat) (hk : k ≤ l.length) : val (l.take k) < 10000000000000 := by
  have h1 := val_small (l.take k) (fun c hc => by
    have := h c; rw [List.take_length] at this; exact this (List.mem_of_mem_take hc))
  have h2 : (l.take k).length ≤ 13 := by rw [List.length_take]; omega
  exact Nat.lt_of_lt_of_le h1 (Nat.pow_le_pow_right (by omega) h2 : 10 ^ _ ≤ 10 ^ 13)
theorem val_big {l : List UInt8} (h : allD l l.length) (hh : ¬ (l.head? = some 48 ∧ 1 < l.length)) (hl : 13 < l.length) : 1099511627775 < val l := by
  have hd : ∀ c ∈ l, isD c = true := fun c hc => h c (by rw [List.take_length]; exact hc)
  have key : ∀ n, n + 1 ≤ l.length → 10 ^ n ≤ val (l.take (n + 1)) := by
    intro n
    induction n with
    | zero =>
      intro hn
      have hd0 : isD (l.getD 0 0) = true := hd _ (by rw [List.getD_eq_getElem?_getD, List.getElem?_eq_getElem hn]; exact List.getElem_mem _)
      have := mt (head_of_val (by omega) hd0).1 (fun e => hh ⟨e, by omega⟩)
      simp only [Nat.zero_add, Nat.pow_zero]; omega
    | succ n ih => intro hn; have := ih (by omega); rw [take_snoc l (n + 1) (by omega), val_snoc, Nat.pow_succ]; omega
  have hmono : ∀ d, 14 + d ≤ l.length → 10000000000000 ≤ val (l.take (14 + d)) := by
    intro d
    induction d with
    | zero => intro hn; exact key 13 hn
    | succ d ih => intro hn; have := ih (by omega); rw [← Nat.add_assoc, take_snoc l (14 + d) (by omega), val_snoc]; omega
  have := hmono (l.length - 14) (by omega)
  rw [show 14 + (l.length - 14) = l.length from by omega, List.take_length] at this
  omega
theorem spec_form {l : List UInt8} (h : l.head? = some 48 ∧ 1 < l.length) : readSpec l = (0, 5) := by unfold readSpec; rw [if_pos (.inr (.inr h))]
theorem spec_good {l : List UInt8} (hn : l ≠ []) (h : allD l l.length) (hh : ¬ (l.head? = some 48 ∧ 1 < l.length)) : readSpec l = if 1099511627775 < val l then ((0, 6) : Int × Int) else ((val l : Int), 0) := by
  unfold readSpec
  rw [if_neg]
  rintro (h' | h' | h')
  · exact hn h'
  · exact h' (fun c hc => h c (by rw [List.take_length]; exact hc))
  · exact hh h'
theorem readPost' {s : ByteArray} {a b : Int} {w : World} (h : readSpec s.data.toList = (a, b)) : Ending.returned (.tuple #[.int .i64 a, .int .i64 b]) = .returned (.tuple #[.int .i64 (readSpec s.data.toList).1, .int .i64 (readSpec s.data.toList).2]) ∧ w = w :=
  ⟨by rw [h], rfl⟩

set_option maxHeartbeats 1000000 in
theorem rread_calls (s : ByteArray) (w : World) (hs : s.size ≤ 9223372036854775807) :
    Calls Try.prog 17 #[.string s] w fun e w' => e = .returned (.tuple #[.int .i64 (readSpec s.data.toList).1, .int .i64 (readSpec s.data.toList).2]) ∧ w = w' := by
  by_cases hz : s.size = 0
  · have hem : s.data.toList = [] := List.length_eq_zero_iff.1 (by rw [len_eq]; exact hz)
    have he : s.toList.isEmpty = true := by rw [ByteArray.toList_eq, hem]; rfl
    have HF : Hid (readSpec s.data.toList = (0, 5)) := by unfold Hid; rw [hem]; exact spec_nil
    clear hem hz
    go_enter Try.func17, Try.ntmps17
    go_wp2_with fail
    go_ret2
    exact readPost' HF.out
  · have h0 : 0 < s.size := by omega
    have hem : s.data.toList ≠ [] := fun h => hz (by rw [← len_eq, h]; rfl)
    have he : s.toList.isEmpty = false := by rw [ByteArray.toList_eq]; simpa using hem
    have HE := Lib.hid hem
    clear hem hz
    by_cases hh : s[0].toNat = 48 ∧ 1 < s.size
    · obtain ⟨hh1, hh2⟩ := hh
      have HF : Hid (readSpec s.data.toList = (0, 5)) := spec_form ⟨by rw [head_at h0]; congr 1; exact UInt8.toNat_inj.1 hh1, by rw [len_eq]; exact hh2⟩
      have ht : ((s[0].toNat : Int) == 48) = true := by simp; omega
      clear hh1
      go_enter Try.func17, Try.ntmps17
      go_wp2_with fail
      go_ret2
      exact readPost' HF.out
    · have hcase : ((((s[0].toNat : Int) == 48) = true ∧ decide ((1 : Int) < (s.size : Int)) = false)) ∨ ((s[0].toNat : Int) == 48) = false := by
        by_cases e : s[0].toNat = 48
        · left; refine ⟨by simp; omega, ?_⟩
          simp only [decide_eq_false_iff_not]; intro h; exact hh ⟨e, by omega⟩
        · right; simp; omega
      have HH : Hid (¬ (s.data.toList.head? = some 48 ∧ 1 < s.data.toList.length)) := by
        rintro ⟨h1, h2⟩
        rw [head_at h0, Option.some.injEq] at h1
        exact hh ⟨by rw [h1]; rfl, by rw [len_eq] at h2; exact h2⟩
      clear hh
      rcases hcase with ⟨ht, ht2⟩ | ht
      all_goals
        go_enter Try.func17, Try.ntmps17
        go_wp2_with fail
        go_loop [4] (fun i => ∃ k : Nat, k ≤ s.size ∧ i = .int .i64 k ∧ allD s.data.toList k) (fun i => s.size - (intOf i).toNat)
        case atStart => exact ⟨0, Nat.zero_le _, rfl, fun c hc => by simp at hc⟩
        case round =>
          obtain ⟨k, hk, rfl, hall⟩ := hrel
          have HA := Lib.hid hall
          clear hall
          by_cases hlt : k < s.size
          · have hlt' : k < s.data.toList.length := by rw [len_eq]; exact hlt
            have hb := byte_at hlt
            by_cases hd : isD (s[k]'hlt) = true
            · obtain ⟨hd0, hd1⟩ := isD_bd hd
              have HN : Hid (allD s.data.toList (k + 1)) := all_snoc HA.out hlt' (by rw [hb]; exact hd)
              clear hd hb hlt'
              go_wp2_with fail
              go_round
              case rel => exact ⟨k + 1, by omega, by go_num, HN.out⟩
              case measure => simp [intOf]; omega
            · have HF : Hid (readSpec s.data.toList = (0, 5)) := spec_bad hlt' (by rw [hb]; exact hd)
              have hd2 : (s[k]'hlt).toNat < 48 ∨ 57 < (s[k]'hlt).toNat := by simp only [isD, decide_eq_true_eq] at hd; omega
              clear hd hb hlt'
              by_cases hd3 : (s[k]'hlt).toNat < 48
              · clear hd2
                go_wp2_with fail
                go_ret2
                exact readPost' HF.out
              · have hd4 : 57 < (s[k]'hlt).toNat := by omega
                clear hd2
                go_wp2_with fail
                go_ret2
                exact readPost' HF.out
          · obtain rfl : k = s.size := by omega
            by_cases h13 : 13 < s.size
            · have HF : Hid (readSpec s.data.toList = (0, 6)) := by
                have hA := HA.out
                rw [← len_eq] at hA
                have := val_big hA HH.out (by rw [len_eq]; exact h13)
                unfold Hid
                rw [spec_good HE.out hA HH.out, if_pos this]
              go_wp2_with fail
              go_ret2
              exact readPost' HF.out
            · go_wp2_with fail
              go_loop [5, 6] (fun t i => ∃ j : Nat, j ≤ s.size ∧ i = .int .i64 j ∧ t = .int .i64 (val (s.data.toList.take j))) (fun _ i => s.size - (intOf i).toNat)
              case atStart => exact ⟨0, Nat.zero_le _, rfl, rfl⟩
              case round =>
                obtain ⟨j, hj, rfl, rfl⟩ := hrel
                have hA := HA.out
                rw [← len_eq] at hA
                have hv := allD_val hA (by rw [len_eq]; omega) j (by rw [len_eq]; exact hj)
                obtain ⟨v, hv'⟩ : ∃ v, v = val (s.data.toList.take j) := ⟨_, rfl⟩
                rw [← hv'] at hv ⊢
                have HV := Lib.hid hv'
                clear hv'
                by_cases hlj : j < s.size
                · have hlt' : j < s.data.toList.length := by rw [len_eq]; exact hlj
                  have hd : isD (s[j]'hlj) = true := by
                    rw [← byte_at hlj]
                    refine hA _ ?_
                    rw [List.take_length, List.getD_eq_getElem?_getD, List.getElem?_eq_getElem hlt']
                    exact List.getElem_mem _
                  obtain ⟨hd0, hd1⟩ := isD_bd hd
                  have HN : Hid (val (s.data.toList.take (j + 1)) = 10 * v + ((s[j]'hlj).toNat - 48)) := by
                    unfold Hid
                    rw [take_snoc _ j hlt', val_snoc, byte_at hlj, HV.out]
                  clear hd hA hlt'
                  go_wp2_with fail
                  go_round
                  case rel => exact ⟨j + 1, by omega, by go_num, by rw [HN.out]; go_num⟩
                  case measure => simp [intOf]; omega
                · obtain rfl : j = s.size := by omega
                  have hvv : v = val s.data.toList := by rw [HV.out, ← len_eq, List.take_length]
                  by_cases hov : 1099511627775 < v
                  · have HF : Hid (readSpec s.data.toList = (0, 6)) := by unfold Hid; rw [spec_good HE.out hA HH.out, if_pos (by omega)]
                    clear hA hvv
                    go_wp2_with fail
                    go_ret2
                    exact readPost' HF.out
                  · have HF : Hid (readSpec s.data.toList = ((v : Int), 0)) := by unfold Hid; rw [spec_good HE.out hA HH.out, if_neg (by omega), hvv]
                    clear hA hvv
                    go_wp2_with fail
                    go_ret2
                    exact readPost' HF.out
end Go.Proofs.Ytgbombimkpkbpaa
