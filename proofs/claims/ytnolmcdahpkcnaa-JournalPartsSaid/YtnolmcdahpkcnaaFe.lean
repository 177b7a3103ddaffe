/- The contract of the reference's Frame. -/
import Derived.Test.YtnolmcdahpkcnaaFd
namespace Go.Proofs.Ytnolmcdahpkcnaa
open Go.RowKit
set_option linter.unusedVariables false

set_option maxHeartbeats 1000000 in
theorem rframe_calls (w : World) (a : Option Addr) (n cap : Nat) (bs : List UInt8) (hr : Byt w w.heap.size a n bs) (hc1 : n ≤ cap) (hc2 : cap ≤ 9223372036854775807) (hn : n ≤ 65536) :
    Calls Try.prog 12 #[.slice a n cap] w (RetB2 w (frame bs)) := by
  obtain ⟨i0, hi0, hz0, hz1, hz2⟩ := info_parts byte_info
  have HR := Lib.hid hr
  clear hr
  go_enter Try.func12, Try.ntmps12
  go_wp2_with fail
  refine (four_new n w (by omega)).mono ?_
  rintro e w1 ⟨v1, rfl, hO1, hb1⟩
  obtain ⟨A1, c1, rfl, hl1, hl1', hB1⟩ := hO1.form_ (be4_len n)
  have HO1 := Lib.hid hO1
  have HB1 := Lib.hid hB1
  have HBW1 := Lib.hid hb1
  have hs1 := hb1.size
  clear hO1 hB1 hb1
  go_wp2_with fail
  refine (copy_calls w1 A1 4 c1 (be4 n) HB1.out (by omega)).mono ?_
  rintro e w2 ⟨v2, rfl, hO2, hb2⟩
  have HO2 := Lib.hid hO2
  have HBW2 := Lib.hid (HBW1.out.trans (hb2.mono hs1))
  have HO12 := Lib.hid (HO1.out.below hb2)
  have hs2 := hb2.size
  clear hO2 hb2
  go_wp2_with (first
    | (at_builtin
       refine wpList_append_any _ rfl (.tmp 14) (.tmp 15) _ rfl w1.heap.size 5 i0 _ 1 1 Try.underlying22 hi0 hz0 hz1 hz2 rfl (by omega) v2 4 (cells (be4 n)) rfl
         HO2.out w.heap.size a n cap (cells bs) rfl (HR.out.below HBW2.out).reads (cells_one _) (by simp only [maxLen]; omega) (by omega) (by omega) ?_
       intro v3 w3 hown3 hg3 hat3
       have hb3 : Below w1.heap.size w2 w3 := (Below.refl _ _).grown hg3 (by omega) (fun k hk => (HO2.out.lt k hk).1)
       have HBW3 : Hid (Below w.heap.size w w3) := HBW2.out.trans (hb3.mono hs1)
       have HO13 : Hid (OwnB w3 w.heap.size (.slice A1 4 c1) (be4 n)) := World.ownsRow.kept HO12.out hg3 (by
         by_cases e : Value.ownBlock (.slice A1 4 c1) = none
         · exact .inl e
         · right
           intro e2
           cases hk : Value.ownBlock (.slice A1 4 c1) with
           | none => exact e hk
           | some k =>
             have h1 := (HO1.out.lt k hk).2
             have h2 := (HO2.out.lt k (by rw [← e2, hk])).1
             omega)
       have hs3 := hb3.size
       have HO3 : Hid (OwnB w3 w1.heap.size v3 (be4 n ++ bs)) := by
         unfold Hid OwnB
         rw [List.length_append, be4_len, HR.out.1, cells_append]; exact hown3
       clear hown3 hg3 hat3 hb3))
  obtain ⟨A3, c3, hv3, hl3, hl3', hB3⟩ := HO3.out.form_ (n := 4 + n) (by rw [List.length_append, be4_len, HR.out.1])
  subst hv3
  have HB3 := Lib.hid hB3
  clear hB3
  go_wp2_with fail
  refine (rsum_calls w3 _ A3 (4 + n) c3 (be4 n ++ bs) HB3.out (by omega)).mono ?_
  rintro e w' ⟨rfl, rfl⟩
  have hlt := sumN_lt (be4 n ++ bs)
  have HF : Hid (frame bs = be4 n ++ (be4 (sumN (be4 n ++ bs)) ++ bs)) := by unfold Hid frame; rw [HR.out.1]
  generalize sumN (be4 n ++ bs) = sm at hlt HF ⊢
  go_wp2_with fail
  refine (four_new sm _ hlt).mono ?_
  rintro e w4 ⟨v4, rfl, hO4, hb4⟩
  obtain ⟨A4, c4, rfl, hl4, hl4', hB4⟩ := hO4.form_ (be4_len sm)
  have HB4 := Lib.hid hB4
  have HO14 := Lib.hid (HO13.out.below hb4)
  have HBW4 := Lib.hid (HBW3.out.trans (hb4.mono (by omega)))
  have hs4 := hb4.size
  clear hO4 hB4 hb4
  go_wp2_with (first
    | (at_builtin
       refine wpList_append_any _ rfl (.tmp 17) (.tmp 20) _ rfl w.heap.size 5 i0 _ 1 1 Try.underlying22 hi0 hz0 hz1 hz2 rfl (by omega) (.slice A1 4 c1) 4 (cells (be4 n)) rfl
         HO14.out w4.heap.size A4 4 c4 (cells (be4 sm)) rfl HB4.out.reads (cells_one _) (by simp only [maxLen]; omega) (by omega) (by omega) ?_
       intro v5 w5 hown5 hg5 hat5
       have hb5 : Below w.heap.size w4 w5 := (Below.refl _ _).grown hg5 (by omega) (fun k hk => (HO14.out.lt k hk).1)
       have HBW5 : Hid (Below w.heap.size w w5) := HBW4.out.trans hb5
       have hs5 := hb5.size
       have HO5 := Lib.hid hown5
       clear hown5 hg5 hat5 hb5)
    | (at_builtin
       refine wpList_append_any _ rfl (.tmp 22) (.tmp 23) _ rfl w.heap.size 5 i0 _ 1 1 Try.underlying22 hi0 hz0 hz1 hz2 rfl (by omega) v5 (4 + 4) (cells (be4 n) ++ cells (be4 sm)) rfl
         HO5.out w.heap.size a n cap (cells bs) rfl (HR.out.below HBW5.out).reads (cells_one _) (by simp only [maxLen]; omega) (by omega) (by omega) ?_
       intro v6 w6 hown6 hg6 hat6))
  have hb6 : Below w.heap.size w5 w6 := (Below.refl _ _).grown hg6 (by omega) (fun k hk => (HO5.out.lt k hk).1)
  have HO6 : Hid (OwnB w6 w.heap.size v6 (frame bs)) := by
    unfold Hid OwnB
    rw [frame_len, HF.out, HR.out.1]
    have h := hown6
    rw [← cells_append, ← cells_append, List.append_assoc] at h
    exact h
  have HBW6 : Hid (Below w.heap.size w w6) := HBW5.out.trans hb6
  clear hown6 hg6 hat6
  go_wp2_with fail
  go_ret2
  exact ⟨v6, rfl, HO6.out, HBW6.out⟩

theorem rframe_long (w : World) (a : Option Addr) (n cap : Nat) (hn : 65536 < n) (hm : n ≤ 9223372036854775807) :
    Calls Try.prog 12 #[.slice a n cap] w fun e w' => e = .returned (.tuple #[.slice none 0 0, .int .i64 3]) ∧ w = w' := by
  go_enter Try.func12, Try.ntmps12
  go_wp2_with fail
  go_ret2
  exact ⟨rfl, rfl⟩
end Go.Proofs.Ytnolmcdahpkcnaa
