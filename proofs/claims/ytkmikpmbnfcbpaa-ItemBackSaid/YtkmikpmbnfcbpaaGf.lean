/- The bytes of a number; the contract of word. -/
import Derived.Test.YtkmikpmbnfcbpaaGe
namespace Go.Proofs.Ytkmikpmbnfcbpaa
open Go.RowKit
set_option linter.unusedVariables false

/-- The bytes of a number, so many, the highest first. -/
def be (n : Nat) : Nat → List UInt8
  | 0 => []
  | k + 1 => be (n / 256) k ++ [UInt8.ofNat (n % 256)]
theorem be_len (n k : Nat) : (be n k).length = k := by
  induction k generalizing n with
  | zero => rfl
  | succ k ih => simp [be, ih]

theorem shr_byte (n j : Nat) : (n : Int) / 2 ^ (8 * j) % 256 = ((UInt8.ofNat (n / 256 ^ j % 256)).toNat : Int) := by
  rw [toNat_ofNat (Nat.mod_lt _ (by omega)), show (256 : Nat) ^ j = 2 ^ (8 * j) by rw [Nat.pow_mul]]
  generalize 8 * j = k
  rw [Int.natCast_emod, Int.natCast_ediv, Int.natCast_pow]
  rfl

theorem info_byte : (Try.prog.info? 5).map (fun i => (i.zero, i.size, i.bytes)) = some (some (.int .u8 0), 1, 1) := by kernel_rfl

set_option maxHeartbeats 1000000 in
theorem word_calls (n size : Nat) (w : World) (hn : n < 18446744073709551616) (hs : size ≤ 8) :
    Calls Try.prog 55 #[.int .u64 n, .int .i64 size] w (RetB w (be n size)) := by
  obtain ⟨i0, hi0, hz0, hz1, hz2⟩ := info_parts byte_info
  go_enter Try.func55, Try.ntmps55
  go_wp2_with fail
  go_loopw [5, 6] (fun u i wr => ∃ (k : Nat) (v : Value), k ≤ size ∧ i = .int .i64 ((k : Int) - 1) ∧ v = u ∧ OwnB wr w.heap.size v (be (n / 256 ^ k) (size - k)) ∧ Below w.heap.size w wr) (fun _ i _ => (intOf i + 1).toNat)
  case atStart => exact ⟨size, _, Nat.le_refl _, by go_num, rfl, by rw [Nat.sub_self]; exact OwnB.nil _ _, Below.refl _ _⟩
  case round =>
    obtain ⟨k, v, hk, rfl, rfl, hO, hbl⟩ := hrel
    have HO := Lib.hid hO
    have HW := Lib.hid hbl
    have hsz := hbl.size
    clear hO hbl
    by_cases hk0 : k = 0
    · subst hk0
      go_wp2_with fail
      go_ret
      exact ⟨v, rfl, by have := HO.out; simpa using this, HW.out⟩
    · obtain ⟨j, rfl⟩ : ∃ j, k = j + 1 := ⟨k - 1, by omega⟩
      have hje : ((j + 1 : Nat) : Int) - 1 = (j : Int) := by omega
      rw [hje]
      have hx := shr_byte n j
      have HX := Lib.hid hx
      have hstep : be (n / 256 ^ j) (size - j) = be (n / 256 ^ (j + 1)) (size - (j + 1)) ++ [UInt8.ofNat (n / 256 ^ j % 256)] := by
        rw [show size - j = (size - (j + 1)) + 1 by omega, be, Nat.div_div_eq_div_mul, ← Nat.pow_succ]
      have HST := Lib.hid hstep
      obtain ⟨q, hq⟩ : ∃ q, size - (j + 1) = q := ⟨_, rfl⟩
      have hq8 : q ≤ 8 := by omega
      have HOO : Hid (wr.ownsRow w.heap.size 5 1 v q (cells (be (n / 256 ^ (j + 1)) q))) := by
        have := HO.out
        unfold OwnB at this
        rw [hq, be_len] at this; exact this
      rw [hq] at HST
      clear hx hstep hje hq
      go_wp2_with (first
        | (at_builtin
           refine wpList_append_any _ rfl (.tmp 13) (.tmp 19) _ rfl w.heap.size 5 i0 _ 1 1 Try.underlying22 hi0 hz0 hz1 hz2 rfl (by omega) v q (cells (be (n / 256 ^ (j + 1)) q)) rfl
             (HOO.out.alloc _) (wr.heap.size + 1) (some ⟨wr.heap.size, 0, none⟩) 1 1 [.int .u8 ((n : Int) / 2 ^ (8 * j) % 256)] rfl ⟨rfl, fun _ => ⟨_, rfl, by show wr.heap.size < wr.heap.size + 1; omega, fun i u hu => by
               obtain rfl : i = 0 := by cases i with
                 | zero => rfl
                 | succ i => simp at hu
               rw [add_plain, cell_new rfl]; simpa using hu⟩⟩ (by intro u hu; simp at hu; subst hu; rfl) (by simp only [maxLen]; omega) (by omega) (by simp; omega) ?_
           intro v2 w2 hown2 hg2 hat2
           have HO2 : Hid (OwnB w2 w.heap.size v2 (be (n / 256 ^ j) (size - j))) := by
             unfold Hid OwnB
             rw [HST.out, List.length_append, be_len, cells_append]
             rw [HX.out] at hown2
             exact hown2
           have HW2 : Hid (Below w.heap.size w w2) := (HW.out.alloc hsz _).grown hg2 (by simp; omega) (fun k hk => (HOO.out.lt k hk).1)
           clear hown2 hg2 hat2))
      go_roundw
      case rel => exact ⟨j, v2, by omega, by go_num, rfl, HO2.out, HW2.out⟩
      case measure => simp [intOf]
end Go.Proofs.Ytkmikpmbnfcbpaa
