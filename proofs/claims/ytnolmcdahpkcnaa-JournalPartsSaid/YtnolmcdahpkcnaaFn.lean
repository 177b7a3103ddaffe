/- The contract of next. -/
import Derived.Test.YtnolmcdahpkcnaaFm
import Derived.Test.YtnolmcdahpkcnaaPb
import Derived.Deep.RegionWith
namespace Go.Proofs.Ytnolmcdahpkcnaa
open Go.RowKit
set_option linter.unusedVariables false

theorem run_size5 (W : World) : (sizeOf (Try.prog.elem 22)).run Try.prog W = .ok 1 W := by kernel_rfl
/-- A part of a slice of bytes: where it lies, and what it reads as. -/
theorem cut_run {w : World} {B n cap : Nat} {a : Option Addr} {bs : List UInt8} (h : Byt w B a n bs) (hc : n ≤ cap) (lo hi : Nat) (h1 : lo ≤ hi) (h2 : hi ≤ n) :
    ∃ A, (∀ (W : World) (lI hI : Int), lI = lo → hI = hi → (Instr.slice 22 (.slice a n cap) (some (.int .i64 lI)) (some (.int .i64 hI)) none).run Try.prog W = .ok (.slice A (hi - lo) (cap - lo)) W) ∧
      Byt w B A (hi - lo) ((bs.drop lo).take (hi - lo)) := by
  refine ⟨if cap = lo then a else a.map (·.add (lo * 1)), fun W lI hI e1 e2 => ?_, ?_⟩
  · subst e1 e2
    rw [run_slice_lh (P := Try.prog) W 22 a n cap (by kernel_rfl) .i64 .i64 _ _ (by omega) (by omega) (by omega), run_size5]
    rfl
  · refine ⟨by rw [List.length_take, List.length_drop, h.1]; omega, ?_⟩
    rcases Nat.eq_zero_or_pos (hi - lo) with h0 | h0
    · exact .inl h0
    · right
      obtain ⟨b, off, rfl, hb, hcell⟩ := h.at_ (i := lo) (by omega)
      refine ⟨b, off + lo, ?_, hb, fun i hi' => ?_⟩
      · rw [if_neg (by omega)]
        simp only [Option.map_some, Nat.mul_one, Option.some.injEq]
        exact add_plain b off lo
      · rw [Nat.add_assoc, hcell (lo + i) (by omega)]
        congr 4
        rw [List.getD_eq_getElem?_getD, List.getD_eq_getElem?_getD, List.getElem?_take, if_pos hi', List.getElem?_drop]
theorem cut_to {w : World} {B n cap : Nat} {a : Option Addr} {bs : List UInt8} (h : Byt w B a n bs) (hc : n ≤ cap) (hi : Nat) (h2 : hi ≤ n) :
    ∃ A, (∀ (W : World) (hI : Int), hI = hi → (Instr.slice 22 (.slice a n cap) none (some (.int .i64 hI)) none).run Try.prog W = .ok (.slice A hi cap) W) ∧ Byt w B A hi (bs.take hi) := by
  obtain ⟨A, h1, h3⟩ := cut_run h hc 0 hi (by omega) h2
  refine ⟨if cap = 0 then a else a.map (·.add (0 * 1)), fun W hI e => ?_, ?_⟩
  · subst e
    rw [run_slice_h (P := Try.prog) W 22 a n cap (by kernel_rfl) .i64 _ (by omega) (by omega), run_size5]
    rfl
  · have h4 := h1 w 0 hi rfl rfl
    rw [run_slice_lh (P := Try.prog) w 22 a n cap (by kernel_rfl) .i64 .i64 _ _ (by omega) (by omega) (by omega), run_size5] at h4
    have h5 : A = if cap = 0 then a else a.map (·.add (0 * 1)) := by
      simp only [Result.andThen, sliced] at h4
      injection h4 with h4 _
      injection h4 with h4 _ _
      exact h4.symm
    rw [← h5]
    simpa using h3
theorem cut_from {w : World} {B n cap : Nat} {a : Option Addr} {bs : List UInt8} (h : Byt w B a n bs) (hc : n ≤ cap) (lo : Nat) (h2 : lo ≤ n) :
    ∃ A, (∀ (W : World) (lI : Int), lI = lo → (Instr.slice 22 (.slice a n cap) (some (.int .i64 lI)) none none).run Try.prog W = .ok (.slice A (n - lo) (cap - lo)) W) ∧ Byt w B A (n - lo) (bs.drop lo) := by
  obtain ⟨A, h1, h3⟩ := cut_run h hc lo n (by omega) (Nat.le_refl _)
  refine ⟨if cap = lo then a else a.map (·.add (lo * 1)), fun W lI e => ?_, ?_⟩
  · subst e
    rw [run_slice_l (P := Try.prog) W 22 a n cap (by kernel_rfl) .i64 _ (by omega) (by omega), run_size5]
    rfl
  · have h4 := h1 w lo n rfl rfl
    rw [run_slice_lh (P := Try.prog) w 22 a n cap (by kernel_rfl) .i64 .i64 _ _ (by omega) (by omega) (by omega), run_size5] at h4
    have h5 : A = if cap = lo then a else a.map (·.add (lo * 1)) := by
      simp only [Result.andThen, sliced, Int.toNat_natCast] at h4
      injection h4 with h4 _
      injection h4 with h4 _ _
      exact h4.symm
    rw [← h5]
    rwa [List.take_of_length_le (by rw [List.length_drop, h.1]; exact Nat.le_refl _)] at h3

def RetN (w : World) (bs : List UInt8) (x : Int) (e : Ending) (w' : World) : Prop := ∃ v, e = .returned (.tuple #[v, .int .i64 x]) ∧ OwnB w' w.heap.size v bs ∧ Below w.heap.size w w'
theorem retN_none {w w' : World} {l : List UInt8} {x : Int} (h : nextS l = ([], x)) (hb : Below w.heap.size w w') : RetN w (nextS l).1 (nextS l).2 (.returned (.tuple #[.slice none 0 0, .int .i64 x])) w' := by
  rw [h]; exact ⟨_, rfl, OwnB.nil _ _, hb⟩
theorem below_drewN {B : Nat} {a w : World} (h : Below B a w) (n : Nat) : Below B a (w.drewN n) := ⟨h.os, h.tape, h.output, h.size, h.block⟩

set_option maxHeartbeats 2000000 in
theorem next_calls (w : World) (a : Option Addr) (n cap : Nat) (bs : List UInt8) (hr : Byt w w.heap.size a n bs) (hc1 : n ≤ cap) (hc2 : cap ≤ 9223372036854775807) :
    Calls Try.prog 31 #[.slice a n cap] w (RetN w (nextS bs).1 (nextS bs).2) := by
  have HR := Lib.hid hr
  have HL := Lib.hid hr.1
  clear hr
  by_cases h8 : n < 8
  · have HF := Lib.hid (next_short (l := bs) (by rw [HL.out]; exact h8))
    go_enter Try.func31, Try.ntmps31
    go_wp2_with fail
    go_ret2
    exact retN_none HF.out (Below.refl _ _)
  · have hu := un4_lt bs
    obtain ⟨u, hU⟩ : ∃ u, u = un4 bs := ⟨_, rfl⟩
    have HU := Lib.hid hU
    rw [← hU] at hu
    clear hU
    have hget : Hid (∀ W (B : Nat) (c : Nat), Byt W B a n bs → Calls Try.prog 32 #[.slice a n c] W fun e w' => e = .returned (.int .u32 u) ∧ ∃ m, w' = W.drewN m) := fun W B c h => by
      rw [HU.out]; exact get_calls W B a n c bs h (by omega)
    by_cases h64 : 65536 < u
    · have HF := Lib.hid (next_long (l := bs) (by rw [HL.out]; exact h8) (by rw [← HU.out]; exact h64))
      go_enter Try.func31, Try.ntmps31
      go_wp2_with fail
      refine (hget.out _ _ _ HR.out).mono ?_
      rintro e w' ⟨rfl, m, rfl⟩
      go_wp2_with fail
      go_ret2
      exact retN_none HF.out (below_drewN (Below.refl _ _) m)
    · by_cases hn : n < 8 + u
      · have HF := Lib.hid (next_cut (l := bs) (by rw [HL.out]; exact h8) (by rw [← HU.out]; exact h64) (by rw [HL.out, ← HU.out]; exact hn))
        go_enter Try.func31, Try.ntmps31
        go_wp2_with fail
        refine (hget.out _ _ _ HR.out).mono ?_
        rintro e w' ⟨rfl, m, rfl⟩
        go_wp2_with fail
        go_ret2
        exact retN_none HF.out (below_drewN (Below.refl _ _) m)
      · obtain ⟨A1, r1, y1⟩ := cut_run HR.out hc1 8 (8 + u) (by omega) (by omega)
        obtain ⟨A2, r2, y2⟩ := cut_to HR.out hc1 4 (by omega)
        obtain ⟨A3, r3, y3⟩ := cut_from HR.out hc1 4 (by omega)
        rw [show 8 + u - 8 = u by omega] at r1 y1
        have Y1 := Lib.hid y1
        have Y2 := Lib.hid y2
        have Y3 := Lib.hid y3
        clear y1 y2 y3
        obtain ⟨x, hx⟩ : ∃ x, x = sumN (bs.take 4 ++ (bs.drop 8).take u) := ⟨_, rfl⟩
        obtain ⟨y, hy⟩ : ∃ y, y = un4 (bs.drop 4) := ⟨_, rfl⟩
        have HLST : Hid (Lst (w.alloc (.cells #[.slice A2 4 cap, .slice A1 u (cap - 8)] 22)) (w.heap.size + 1) (some ⟨w.heap.size, 0, none⟩) 2 [bs.take 4, (bs.drop 8).take u]) := lst_two Y2.out (by omega) hc2 Y1.out (by omega) (by omega)
        have hsum : Hid (∀ W, Lst W (w.heap.size + 1) (some ⟨w.heap.size, 0, none⟩) 2 [bs.take 4, (bs.drop 8).take u] → Calls Try.prog 13 #[.slice (some ⟨w.heap.size, 0, none⟩) 2 2] W fun e w' => e = .returned (.int .u32 x) ∧ W = w') := fun W h => by
          have := sum_calls W _ _ 2 2 _ h (by omega)
          rw [show [bs.take 4, (bs.drop 8).take u].flatten = bs.take 4 ++ (bs.drop 8).take u by simp, ← hx] at this
          exact this
        have hget2 : Hid (∀ W, Byt W w.heap.size A3 (n - 4) (bs.drop 4) → Calls Try.prog 32 #[.slice A3 (n - 4) (cap - 4)] W fun e w' => e = .returned (.int .u32 y) ∧ ∃ m, w' = W.drewN m) := fun W h => by
          rw [hy]; exact get_calls W _ A3 (n - 4) (cap - 4) (bs.drop 4) h (by omega)
        by_cases hxy : x = y
        · have HF : Hid (nextS bs = ((bs.drop 8).take u, 0)) := by
            have := next_good (l := bs) (by rw [HL.out]; exact h8) (by rw [← HU.out]; exact h64) (by rw [HL.out, ← HU.out]; exact hn) (by rw [← HU.out, ← hx, ← hy]; exact hxy)
            rw [← HU.out] at this; exact this
          clear hx hy
          subst hxy
          obtain ⟨i0, hi0, hz0, hz1, hz2⟩ := info_parts byte_info
          go_enter Try.func31, Try.ntmps31
          go_wp2_with fail
          refine (hget.out _ _ _ HR.out).mono ?_
          rintro e w' ⟨rfl, m, rfl⟩
          go_wp2_with fail
          go_region_with (first
            | (go_at_call 13; refine (hsum.out _ (by exact HLST.out)).mono ?_; rintro e w' ⟨rfl, rfl⟩)
            | (go_at_call 32; refine (hget2.out _ (by first | exact Y3.out | exact Byt.alloc Y3.out (Nat.le_refl _) _)).mono ?_; rintro e w' ⟨rfl, m2, rfl⟩))
          go_wp2_with (first
            | (at_builtin
               refine wpList_append_any _ rfl (.const (.slice none 0 0)) (.tmp 35) _ rfl w.heap.size 5 i0 _ 1 1 Try.underlying22 hi0 hz0 hz1 hz2 rfl (by omega) (.slice none 0 0) 0 [] rfl
                 (World.ownsRow_nil _ _ _ _) w.heap.size A1 u (cap - 8) (cells ((bs.drop 8).take u)) rfl (by exact Byt.reads (by first | exact Y1.out | exact Byt.alloc Y1.out (Nat.le_refl _) _)) (cells_one _) (by simp only [maxLen]; omega) (by omega) (by simp) ?_
               intro v3 w3 hown3 hg3 hat3))
          go_ret2
          have hO3 : OwnB w3 w.heap.size v3 ((bs.drop 8).take u) := by
            unfold OwnB
            rw [Y1.out.1]
            simpa using hown3
          unfold RetN
          rw [HF.out]
          refine ⟨v3, rfl, hO3, Below.grown ?_ hg3 (by simp) (fun k hk => by simp [Value.ownBlock] at hk)⟩
          repeat (first | exact Below.refl _ _ | apply below_drewN | apply Below.drew | refine Below.alloc ?_ (by simp) _)
        · have HF : Hid (nextS bs = ([], 30)) := next_bad (l := bs) (by rw [HL.out]; exact h8) (by rw [← HU.out]; exact h64) (by rw [HL.out, ← HU.out]; exact hn) (by rw [← HU.out, ← hx, ← hy]; exact hxy)
          clear hx hy
          have hne : ((x : Int) == (y : Int)) = false := by simp; omega
          clear hxy
          go_enter Try.func31, Try.ntmps31
          go_wp2_with fail
          refine (hget.out _ _ _ HR.out).mono ?_
          rintro e w' ⟨rfl, m, rfl⟩
          go_wp2_with fail
          go_region_with (first
            | (go_at_call 13; refine (hsum.out _ (by exact HLST.out)).mono ?_; rintro e w' ⟨rfl, rfl⟩)
            | (go_at_call 32; refine (hget2.out _ (by first | exact Y3.out | exact Byt.alloc Y3.out (Nat.le_refl _) _)).mono ?_; rintro e w' ⟨rfl, m2, rfl⟩))
          go_wp2_with fail
          go_ret2
          refine retN_none HF.out ?_
          repeat (first | exact Below.refl _ _ | apply below_drewN | apply Below.drew | refine Below.alloc ?_ (by simp) _)
end Go.Proofs.Ytnolmcdahpkcnaa
