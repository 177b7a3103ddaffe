/- Contracts of put, get, four, the reference's Sum, Same. -/
import Derived.Test.YtnolmcdahpkcnaaFb
import Derived.Deep.QuietTactic
import Derived.BigQuiet
namespace Go.Proofs.Ytnolmcdahpkcnaa
open Go.RowKit
set_option linter.unusedVariables false

theorem be4_cells {n : Nat} (h : n < 4294967296) : (cells (be4 n)).toArray = #[.int .u8 ((n : Int) / 16777216), .int .u8 ((n : Int) / 65536 % 256), .int .u8 ((n : Int) / 256 % 256), .int .u8 ((n : Int) % 256)] := by
  unfold cells be4
  simp only [List.map_cons, List.map_nil]
  rw [toNat_ofNat (by omega), toNat_ofNat (by omega), toNat_ofNat (by omega), toNat_ofNat (by omega)]
  rfl
theorem un4_bits (a b c d : Nat) (ha : a < 256) (hb : b < 256) (hc : c < 256) (hd : d < 256) :
    bits .or .u32 (bits .or .u32 (bits .or .u32 ((a : Int) * 16777216) ((b : Int) * 65536)) ((c : Int) * 256)) d = ((a * 16777216 + b * 65536 + c * 256 + d : Nat) : Int) := by
  rw [or_24 ((a : Int) * 16777216) _ (by omega) (by omega) (by omega) (by omega) (by omega), or_16 ((a : Int) * 16777216 + (b : Int) * 65536) _ (by omega) (by omega) (by omega) (by omega) (by omega), or_8 ((a : Int) * 16777216 + (b : Int) * 65536 + (c : Int) * 256) _ (by omega) (by omega) (by omega) (by omega) (by omega)]
  omega

set_option maxHeartbeats 400000 in
theorem put_calls (n : Nat) (w : World) (hn : n < 4294967296) :
    Calls Try.prog 29 #[.int .u32 n] w fun e w' => e = .returned (.slice (some ⟨w.heap.size, 0, none⟩) 4 4) ∧ w.alloc (.cells (cells (be4 n)).toArray 5) = w' := by
  go_enter Try.func29, Try.ntmps29
  go_wp2_with fail
  go_ret
  exact ⟨rfl, by rw [be4_cells hn]⟩

set_option maxHeartbeats 400000 in
theorem four_calls (n : Nat) (w : World) (hn : n < 4294967296) :
    Calls Try.prog 30 #[.int .i64 n] w fun e w' => e = .returned (.slice (some ⟨w.heap.size, 0, none⟩) 4 4) ∧ w.alloc (.cells (cells (be4 n)).toArray 5) = w' := by
  go_enter Try.func30, Try.ntmps30
  go_wp2_with fail
  go_ret
  exact ⟨rfl, by rw [be4_cells hn]⟩

set_option maxHeartbeats 400000 in
theorem get_calls (w : World) (B : Nat) (a : Option Addr) (n cap : Nat) (bs : List UInt8) (hr : Byt w B a n bs) (hn : 4 ≤ n) :
    Calls Try.prog 32 #[.slice a n cap] w fun e w' => e = .returned (.int .u32 (un4 bs)) ∧ ∃ m, w' = w.drewN m := by
  obtain ⟨b, off, rfl, hb, hc⟩ := hr.at_ (i := 0) (by omega)
  have c0 := hc 0 (by omega)
  have c1 := hc 1 (by omega)
  have c2 := hc 2 (by omega)
  have c3 := hc 3 (by omega)
  clear hc hr
  rw [Nat.add_zero] at c0
  unfold un4
  have b0 := (bs.getD 0 0).toNat_lt
  have b1 := (bs.getD 1 0).toNat_lt
  have b2 := (bs.getD 2 0).toNat_lt
  have b3 := (bs.getD 3 0).toNat_lt
  generalize bs.getD 0 0 = x0 at *
  generalize bs.getD 1 0 = x1 at *
  generalize bs.getD 2 0 = x2 at *
  generalize bs.getD 3 0 = x3 at *
  have h1 : (1 : Int) < (n : Int) := by omega
  have h2 : (2 : Int) < (n : Int) := by omega
  have h3 : (3 : Int) < (n : Int) := by omega
  have h0 : (0 : Int) < (n : Int) := by omega
  go_enter Try.func32, Try.ntmps32
  go_wp2_with fail
  go_quiet (fail)
  go_wp2_with fail
  go_ret
  exact ⟨ret_int (un4_bits _ _ _ _ b0 b1 b2 b3), nq, rfl⟩

theorem ret_rsum {bs : List UInt8} {n : Nat} (hn : bs.length = n) (h1 : (sT n bs n) ≤ 255 * n * n) (hb : n ≤ 100000) : Ending.returned (.int .i64 (65536 * (((n + sT n bs n : Nat) : Int) % 65521) + ((1 + sS bs n : Nat) : Int) % 65521)) = .returned (.int .i64 (sumN bs)) := by
  rw [sumN_sums, hn]; rfl

set_option maxHeartbeats 1000000 in
theorem rsum_calls (w : World) (B : Nat) (a : Option Addr) (n cap : Nat) (bs : List UInt8) (hr : Byt w B a n bs) (hn : n ≤ 100000) :
    Calls Try.prog 14 #[.slice a n cap] w fun e w' => e = .returned (.int .i64 (sumN bs)) ∧ w = w' := by
  obtain ⟨hz, hr⟩ := hr
  have HZ := Lib.hid hz
  clear hz
  have hsq : 255 * n * n ≤ 2550000000000 := by
    have := Nat.mul_le_mul (show 255 * n ≤ 25500000 by omega) hn
    omega
  rcases hr with rfl | ⟨b, off, rfl, hbB, hc⟩
  · have : bs = [] := List.length_eq_zero_iff.1 HZ.out
    subst this
    go_enter Try.func14, Try.ntmps14
    go_wp2_with fail
    refine wp_loop_once ?_
    go_wp2_with fail
    go_ret
    exact ⟨ret_int rfl, rfl⟩
  · have HC := Lib.hid hc
    have HSQ := Lib.hid hsq
    clear hc hsq
    go_enter Try.func14, Try.ntmps14
    go_wp2_with fail
    go_loop [3, 4, 5] (fun x y i => ∃ k : Nat, k ≤ n ∧ i = .int .i64 k ∧ x = .int .i64 ((1 + sS bs k : Nat) : Int) ∧ y = .int .i64 ((n + sT n bs k : Nat) : Int)) (fun _ _ i => n - (intOf i).toNat)
    case atStart => exact ⟨0, Nat.zero_le _, rfl, rfl, rfl⟩
    case round =>
      obtain ⟨k, hk, rfl, rfl, rfl⟩ := hrel
      have hs1 := sS_le bs k
      have hs2 := sT_le n bs k
      have hs3 : 255 * n * k ≤ 255 * n * n := Nat.mul_le_mul_left _ hk
      have hs4 := HSQ.out
      obtain ⟨x, hx⟩ : ∃ x : Nat, x = 1 + sS bs k := ⟨_, rfl⟩
      obtain ⟨y, hy⟩ : ∃ y : Nat, y = n + sT n bs k := ⟨_, rfl⟩
      have hx1 : x ≤ 100000000 := by omega
      have hy1 : y ≤ 2560000000000 := by omega
      rw [← hx, ← hy]
      have HX := Lib.hid hx
      have HY := Lib.hid hy
      clear hx hy hs1 hs2 hs3 hs4
      by_cases hkn : k < n
      · obtain ⟨v, hv⟩ : ∃ v, v = bs.getD k 0 := ⟨_, rfl⟩
        have hcell : w.cell? ⟨b, off + k, none⟩ = some (.int .u8 v.toNat) := by rw [hv]; exact HC.out k hkn
        have hv8 := v.toNat_lt
        have hp0 : 0 ≤ ((n : Int) - (k : Int)) * (v.toNat : Int) := Int.mul_nonneg (by omega) (by omega)
        have hp1 : ((n : Int) - (k : Int)) * (v.toNat : Int) ≤ 100000 * 256 := Int.mul_le_mul (by omega) (by omega) (by omega) (by omega)
        have HP : Hid (((n : Int) - (k : Int)) * (v.toNat : Int) = (((n - k) * v.toNat : Nat) : Int)) := by
          unfold Hid; rw [Int.natCast_mul, Int.ofNat_sub hk]
        have HN1 : Hid (1 + sS bs (k + 1) = x + v.toNat) := by unfold Hid; rw [HX.out]; simp only [sS]; rw [hv]; omega
        have HN2 : Hid (n + sT n bs (k + 1) = y + (n - k) * v.toNat) := by unfold Hid; rw [HY.out]; simp only [sT]; rw [hv]; omega
        clear hv
        go_wp2_with fail
        go_round
        case rel => exact ⟨k + 1, by omega, by go_num, by rw [HN1.out]; go_num, by rw [HN2.out, HP.out]; go_num⟩
        case measure => simp [intOf]; omega
      · obtain rfl : k = n := by omega
        go_wp2_with fail
        go_ret
        exact ⟨ret_int (by rw [sumN_sums, HZ.out, HX.out, HY.out]; rfl), rfl⟩

/-- string(b) of bytes. -/
theorem conv_byt {w : World} {B : Nat} {a : Option Addr} {n cap : Nat} {bs : List UInt8} (h : Byt w B a n bs) :
    (convert 22 9 (.slice a n cap)).run Try.prog w = .ok (.string ⟨bs.toArray⟩) w := by
  rcases a with _ | ad
  · have h0 : n = 0 := by
      rcases h.2 with h0 | ⟨_, _, e, _⟩
      · exact h0
      · cases e
    subst h0
    have : bs = [] := List.length_eq_zero_iff.1 h.1
    subst this
    exact run_convert_bytes_nil (P := Try.prog) w 22 5 Try.underlying22 Try.underlying5 0 cap 9 Try.underlying9
  · rw [← h.1]
    refine run_convert_bytes_back (P := Try.prog) w 22 9 5 ad cap bs Try.underlying22 Try.underlying5 Try.underlying9 (fun j hj => ?_)
    rw [h.1] at hj
    obtain ⟨b, off, e, _, hc⟩ := h.at_ hj
    injection e with e
    subst e
    rw [add_plain, hc j hj, getD_eq (by rw [h.1]; exact hj)]

theorem same_calls (w : World) (B B' : Nat) (a a' : Option Addr) (n n' c c' : Nat) (bs bs' : List UInt8) (h : Byt w B a n bs) (h' : Byt w B' a' n' bs') :
    Calls Try.prog 15 #[.slice a n c, .slice a' n' c'] w fun e w' => e = .returned (.bool (bs == bs')) ∧ w = w' := by
  have c1 := conv_byt (cap := c) h
  have c2 := conv_byt (cap := c') h'
  clear h h'
  go_enter Try.func15, Try.ntmps15
  go_wp2_with fail
  go_ret
  exact ⟨rfl, rfl⟩
end Go.Proofs.Ytnolmcdahpkcnaa
