/- The contract of journal.Sum. -/
import Derived.Test.YtnolmcdahpkcnaaFa
namespace Go.Proofs.Ytnolmcdahpkcnaa
open Go.RowKit
set_option linter.unusedVariables false

theorem wraps_u32 (n : Int) (h₀ : 0 ≤ n) (h₁ : n < 2 ^ 32) : IntKind.u32.wrap n = n := by rw [IntKind.wrap_u32]; omega
theorem or_16 (x y : Int) (hx : 0 ≤ x) (hx1 : x < 4294967296) (hd : x % 65536 = 0) (hy : 0 ≤ y) (hy1 : y < 65536) : bits .or .u32 x y = x + y :=
  bits_join .u32 32 (by decide) wraps_u32 16 x y hx hd (by omega) hy (by omega) (by omega)
theorem or_8 (x y : Int) (hx : 0 ≤ x) (hx1 : x < 4294967296) (hd : x % 256 = 0) (hy : 0 ≤ y) (hy1 : y < 256) : bits .or .u32 x y = x + y :=
  bits_join .u32 32 (by decide) wraps_u32 8 x y hx hd (by omega) hy (by omega) (by omega)
theorem or_24 (x y : Int) (hx : 0 ≤ x) (hx1 : x < 4294967296) (hd : x % 16777216 = 0) (hy : 0 ≤ y) (hy1 : y < 16777216) : bits .or .u32 x y = x + y :=
  bits_join .u32 32 (by decide) wraps_u32 24 x y hx hd (by omega) hy (by omega) (by omega)
theorem sum_bits (x y : Nat) (hx : x < 65521) (hy : y < 65521) : bits .or .u32 ((y : Int) * 65536) x = ((65536 * y + x : Nat) : Int) := by
  rw [or_16 _ _ (by omega) (by omega) (by omega) (by omega) (by omega)]
  omega

theorem ret_sum {bss : List (List UInt8)} {x y : Nat} (hx : x < 65521) (hy : y < 65521) (h : ad bss.flatten = (x, y)) : Ending.returned (.int .u32 (bits .or .u32 ((y : Int) * 65536) x)) = .returned (.int .u32 (sumN bss.flatten)) := by
  rw [sum_bits x y hx hy]
  unfold sumN
  rw [h]

theorem ad_step {l : List UInt8} {x y : Nat} (h : ad l = (x, y)) (c : UInt8) : ad (l ++ [c]) = ((x + c.toNat) % 65521, (y + (x + c.toNat) % 65521) % 65521) := by rw [ad_snoc, h]; rfl

set_option maxHeartbeats 400000 in
theorem sum_calls (w : World) (B : Nat) (a : Option Addr) (n cap : Nat) (bss : List (List UInt8)) (hr : Lst w B a n bss) (hn : n ≤ 9223372036854775807) :
    Calls Try.prog 13 #[.slice a n cap] w fun e w' => e = .returned (.int .u32 (sumN bss.flatten)) ∧ w = w' := by
  obtain ⟨hz, hr⟩ := hr
  have HZ := Lib.hid hz
  clear hz
  rcases hr with rfl | ⟨b, off, rfl, hbB, hc⟩
  · have : bss = [] := List.length_eq_zero_iff.1 HZ.out
    subst this
    go_enter Try.func13, Try.ntmps13
    go_wp2_with fail
    refine wp_loop_once ?_
    go_wp2_with fail
    go_ret
    exact ⟨ret_sum (x := 1) (y := 0) (by omega) (by omega) rfl, rfl⟩
  · have HC := Lib.hid hc
    clear hc
    go_enter Try.func13, Try.ntmps13
    go_wp2_with fail
    go_loop [3, 4, 11] (fun x y i => ∃ k : Nat, k ≤ n ∧ i = .int .i64 k ∧ x = .int .u32 (ad (flatTo bss k)).1 ∧ y = .int .u32 (ad (flatTo bss k)).2) (fun _ _ i => n - (intOf i).toNat)
    case atStart => exact ⟨0, Nat.zero_le _, rfl, rfl, rfl⟩
    case round =>
      obtain ⟨k, hk, rfl, rfl, rfl⟩ := hrel
      by_cases hkn : k < n
      · obtain ⟨A, l, c, h1, h2, h3, h4⟩ := HC.out k hkn
        have HB := Lib.hid h4
        clear h4
        go_wp2_with fail
        go_loop [3, 4, 17] (fun x y i => ∃ j : Nat, j ≤ l ∧ i = .int .i64 j ∧ x = .int .u32 (ad (flatTo bss k ++ (bss.getD k []).take j)).1 ∧ y = .int .u32 (ad (flatTo bss k ++ (bss.getD k []).take j)).2) (fun _ _ i => l - (intOf i).toNat)
        case atStart => exact ⟨0, Nat.zero_le _, rfl, by rw [List.take_zero, List.append_nil], by rw [List.take_zero, List.append_nil]⟩
        case round =>
          obtain ⟨j, hj, rfl, rfl, rfl⟩ := hrel
          by_cases hjl : j < l
          · obtain ⟨x, y, hxy⟩ : ∃ x y, ad (flatTo bss k ++ (bss.getD k []).take j) = (x, y) := ⟨_, _, rfl⟩
            have hlt := ad_lt (flatTo bss k ++ (bss.getD k []).take j)
            rw [hxy] at hlt ⊢
            obtain ⟨hx, hy⟩ := hlt
            simp only at hx hy
            obtain ⟨bb, bo, rfl, _, hcc⟩ := HB.out.at_ hjl
            obtain ⟨v, hv⟩ : ∃ v, v = (bss.getD k []).getD j 0 := ⟨_, rfl⟩
            have hcell : w.cell? ⟨bb, bo + j, none⟩ = some (.int .u8 v.toNat) := by rw [hv]; exact hcc j hjl
            have hv8 := v.toNat_lt
            have HN : Hid (ad (flatTo bss k ++ (bss.getD k []).take (j + 1)) = ((x + v.toNat) % 65521, (y + (x + v.toNat) % 65521) % 65521)) := by
              unfold Hid
              rw [take_snoc _ j (by rw [HB.out.1]; exact hjl), ← List.append_assoc, ad_step hxy, hv]
            clear hxy hcc hv
            go_wp2_with fail
            go_round
            case rel => exact ⟨j + 1, by omega, by go_num, by rw [HN.out]; go_num, by rw [HN.out]; go_num⟩
            case measure => simp [intOf]; omega
          · obtain rfl : j = l := by omega
            go_wp2_with fail
            go_round
            case rel =>
              have e : (bss.getD k []).take j = bss.getD k [] := List.take_of_length_le (by rw [HB.out.1]; exact Nat.le_refl _)
              exact ⟨k + 1, by omega, by go_num, by rw [flatTo_succ (by rw [HZ.out]; exact hkn), e], by rw [flatTo_succ (by rw [HZ.out]; exact hkn), e]⟩
            case measure => simp [intOf]; omega
      · obtain rfl : k = n := by omega
        obtain ⟨x, y, hxy⟩ : ∃ x y, ad (flatTo bss k) = (x, y) := ⟨_, _, rfl⟩
        have hlt := ad_lt (flatTo bss k)
        rw [hxy] at hlt ⊢
        obtain ⟨hx, hy⟩ := hlt
        simp only at hx hy
        have HXY : Hid (ad bss.flatten = (x, y)) := by unfold Hid; rw [← flatTo_all, HZ.out]; exact hxy
        clear hxy
        go_wp2_with fail
        go_ret
        exact ⟨ret_sum hx hy HXY.out, rfl⟩
end Go.Proofs.Ytnolmcdahpkcnaa
