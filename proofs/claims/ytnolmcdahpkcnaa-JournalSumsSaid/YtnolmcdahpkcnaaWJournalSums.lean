/- JournalSums: the walk. -/
import Derived.Test.YtnolmcdahpkcnaaFm
namespace Go.Proofs.Ytnolmcdahpkcnaa
open Go.RowKit
set_option linter.unusedVariables false

set_option maxHeartbeats 1000000 in
theorem walk_journalSums (a0 : Option Addr) (len0 cap0 : Nat) (z0 : List Int) (w : World) (w0 : IsRow .u8 w a0 len0 cap0 z0) :
    Calls Try.prog 3 #[.slice a0 len0 cap0] w fun e w' => e = .returned (.bool true) ∧ Below w.heap.size w w' := by
  obtain ⟨bs, hB, hc1, hc2⟩ := w0.byt
  clear w0
  have HB := Lib.hid hB
  clear hB
  by_cases hl : 3000 < len0
  · go_enter Try.func3, Try.ntmps3
    go_wp2_with (first
      | (go_at_call 10; refine (known_calls _).mono ?_; rintro e w1 ⟨rfl, hb⟩))
    go_ret
    exact ⟨rfl, hb⟩
  · go_enter Try.func3, Try.ntmps3
    go_wp2_with fail
    refine (frame_calls w a0 len0 cap0 bs HB.out hc1 hc2 (by omega)).mono ?_
    rintro e w1 ⟨v1, rfl, hO1, hb1⟩
    obtain ⟨A1, c1, rfl, _, _, hB1⟩ := hO1.form
    have HB1 := Lib.hid hB1
    have HW1 := Lib.hid hb1
    have hs1 := hb1.size
    clear hO1 hB1 hb1
    go_wp2_with fail
    refine (rframe_calls w1 a0 len0 cap0 bs ((HB.out.below HW1.out).more hs1) hc1 hc2 (by omega)).mono ?_
    rintro e w2 ⟨v2, rfl, hO2, hb2⟩
    obtain ⟨A2, c2, rfl, _, _, hB2⟩ := hO2.form
    have HB2 := Lib.hid hB2
    have HB12 := Lib.hid ((HB1.out.below hb2).more hb2.size)
    have HW2 := Lib.hid (HW1.out.trans (hb2.mono hs1))
    have hs2 := hb2.size
    clear hO2 hB2 hb2
    go_wp2_with fail
    refine (sum_calls _ _ _ 1 1 [bs] (lst_one ((HB.out.below HW2.out).more (by omega)) hc1 hc2) (by omega)).mono ?_
    rintro e w' ⟨rfl, rfl⟩
    have hflat : [bs].flatten = bs := by simp
    rw [hflat]
    have hlt := sumN_lt bs
    clear hflat
    go_wp2_with fail
    refine (rsum_calls _ w.heap.size a0 len0 cap0 bs ((HB.out.below HW2.out).alloc (by omega) _) (by omega)).mono ?_
    rintro e w' ⟨rfl, rfl⟩
    go_wp2_with fail
    refine (same_calls _ w2.heap.size w2.heap.size _ _ _ _ _ _ (frame bs) (frame bs) (HB12.out.alloc (Nat.le_refl _) _) (HB2.out.alloc (Nat.le_refl _) _)).mono ?_
    rintro e w' ⟨rfl, rfl⟩
    go_wp2_with fail
    refine (known_calls _).mono ?_
    rintro e w3 ⟨rfl, hb3⟩
    go_wp2_with fail
    go_ret
    refine ⟨rfl, (HW2.out.alloc (by omega) _).trans (hb3.mono (by simp; omega))⟩
end Go.Proofs.Ytnolmcdahpkcnaa
