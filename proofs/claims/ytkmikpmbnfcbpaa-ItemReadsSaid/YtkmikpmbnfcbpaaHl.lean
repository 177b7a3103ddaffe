/- The contract of the reference's get. -/
import Derived.Test.YtkmikpmbnfcbpaaHk
namespace Go.Proofs.Ytkmikpmbnfcbpaa
open Go.RowKit Go.Lib
set_option linter.unusedVariables false
open Tree

theorem getD_drop (bs : List UInt8) (p q : Nat) : (bs.drop p).getD q 0 = bs.getD (p + q) 0 := by
  rw [List.getD_eq_getElem?_getD, List.getD_eq_getElem?_getD, List.getElem?_drop]

set_option maxHeartbeats 2000000 in
theorem get54 (w : World) (B n cap p m : Nat) (A : Option Addr) (bs xs : List UInt8) (hB : Byt w B A n bs) (hn : n ≤ 4194304) (hp : p + m ≤ n) (hmm : m ≤ 8) (hxs : (bs.drop p).take m = xs) :
    Calls Try.prog 54 #[.slice A n cap, .int .i64 p, .int .i64 m] w fun e w' => e = .returned (.int .u64 (ofBe xs : Nat)) ∧ w' = w := by
  have HL : Hid (xs.length = m) := by unfold Hid; rw [← hxs, List.length_take, List.length_drop, hB.1]; omega
  have HG : Hid (∀ q, q < m → xs.getD q 0 = bs.getD (p + q) 0) := fun q hq => by
    rw [← hxs, ← getD_drop]
    rw [List.getD_eq_getElem?_getD, List.getD_eq_getElem?_getD, List.getElem?_take, if_pos hq]
  have HB := Lib.hid hB
  have hwp : IntKind.i64.wrap ((p : Int) + (m : Int)) = (p : Int) + (m : Int) := IntWalk.i64_in _ (by omega)
  clear hB hxs
  go_enter Try.func54, Try.ntmps54
  go_wp2_with fail
  go_loopw [7, 8] (fun u i wr => ∃ q, q ≤ m ∧ i = .int .i64 (p + q : Nat) ∧ u = .int .u64 (ofBe (xs.take q) : Nat) ∧ wr = w) (fun _ i _ => p + m - (intOf i).toNat)
  case atStart => exact ⟨0, Nat.zero_le _, rfl, rfl, rfl⟩
  case round =>
    obtain ⟨q, hq, rfl, rfl, rfl⟩ := hrel
    by_cases hlt : q < m
    · obtain ⟨b, off, rfl, hb, hc⟩ := HB.out.at_ (i := p + q) (by omega)
      have f1 := hc (p + q) (by omega)
      have hcu := (bs.getD (p + q) 0).toNat_lt
      have htk : ofBe (xs.take (q + 1)) = ofBe (xs.take q) * 256 + (bs.getD (p + q) 0).toNat := by rw [take_snoc _ _ (by rw [HL.out]; exact hlt), ofBe_snoc, HG.out q hlt]
      have hlt8 : ofBe (xs.take (q + 1)) < 18446744073709551616 := by
        have h1 := ofBe_lt (xs.take (q + 1))
        rw [List.length_take, HL.out, Nat.min_eq_left (by omega)] at h1
        exact Nat.lt_of_lt_of_le h1 (Nat.pow_le_pow_right (n := 256) (by omega) (by omega : q + 1 ≤ 8))
      generalize (bs.getD (p + q) 0).toNat = c at f1 hcu htk
      generalize ofBe (xs.take q) = n0 at htk ⊢
      have HST : Hid (((n0 : Int) * 256) + (c : Int) = ((ofBe (xs.take (q + 1)) : Nat) : Int)) := by
        unfold Hid; rw [htk]; omega
      have hn0 : n0 * 256 + c < 18446744073709551616 := by omega
      have hw0 : IntKind.u64.wrap ((n0 : Int) * 256) = (n0 : Int) * 256 := by rw [IntKind.wrap_u64]; omega
      have hw1 : IntKind.u64.wrap ((n0 : Int) * 256 + (c : Int)) = (n0 : Int) * 256 + (c : Int) := by rw [IntKind.wrap_u64]; omega
      clear hc htk hlt8
      go_wp2_with fail
      go_roundw
      case rel => exact ⟨q + 1, by omega, by go_num, by rw [HST.out], by trivial⟩
      case measure => simp [intOf]; omega
    · obtain rfl : q = m := by omega
      have HQ : Hid (xs.take q = xs) := by unfold Hid; exact List.take_of_length_le (by rw [HL.out]; exact Nat.le_refl _)
      rw [HQ.out]
      go_wp2_with fail
      go_ret
      exact ⟨rfl, rfl⟩
end Go.Proofs.Ytkmikpmbnfcbpaa
