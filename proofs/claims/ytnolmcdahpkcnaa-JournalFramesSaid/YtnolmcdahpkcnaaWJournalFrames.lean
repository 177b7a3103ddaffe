/- JournalFrames: the walk. -/
import Derived.Test.YtnolmcdahpkcnaaFs
import Derived.Test.YtnolmcdahpkcnaaPc
namespace Go.Proofs.Ytnolmcdahpkcnaa
open Go.RowKit
set_option linter.unusedVariables false

set_option maxHeartbeats 2000000 in
theorem walk_journalFrames (a0 : Option Addr) (len0 cap0 : Nat) (z0 : List Int) (a1 : Option Addr) (len1 cap1 : Nat) (z1 : List Int) (a2 : Int) (w : World) (w0 : IsRow .u8 w a0 len0 cap0 z0) (w1 : IsRow .u8 w a1 len1 cap1 z1) (w2 : (Lit.int .u16 a2).wf = true) :
    Calls Try.prog 6 #[.slice a0 len0 cap0, .slice a1 len1 cap1, .int .u16 a2] w fun e w' => e = .returned (.bool true) ∧ Below w.heap.size w w' := by
  obtain ⟨i0, hi0, hz0, hz1, hz2⟩ := info_parts byte_info
  obtain ⟨r, hR, hc1, hc2⟩ := w0.byt
  obtain ⟨s, hS, hd1, hd2⟩ := w1.byt
  clear w0 w1
  have HR := Lib.hid hR
  have HS := Lib.hid hS
  have hrl := Lib.hid hR.1
  have hsl := Lib.hid hS.1
  clear hR hS
  by_cases hl : 1000 < len0
  · go_enter Try.func6, Try.ntmps6
    go_wp2_with (first
      | (go_at_call 10; refine (known_calls _).mono ?_; rintro e w1 ⟨rfl, hb⟩))
    go_ret
    exact ⟨rfl, hb⟩
  · by_cases hl1 : 1000 < len1
    · go_enter Try.func6, Try.ntmps6
      go_wp2_with (first
        | (go_at_call 10; refine (known_calls _).mono ?_; rintro e w1 ⟨rfl, hb⟩))
      go_ret
      exact ⟨rfl, hb⟩
    · obtain ⟨c, rfl, hcl⟩ : ∃ c : Nat, a2 = c ∧ c ≤ 65535 := by
        have := w2
        have m1 : IntKind.u16.min = 0 := by decide
        have m2 : IntKind.u16.max = 65535 := by decide
        simp [Lit.wf, m1, m2] at this
        exact ⟨a2.toNat, by omega, by omega⟩
      clear w2
      obtain ⟨d, hd⟩ : ∃ d, c % (8 + len0) = d := ⟨_, rfl⟩
      have hdl : d < 8 + len0 := by rw [← hd]; exact Nat.mod_lt _ (by omega)
      have hmod : ((c : Int) % (8 + (len0 : Int))) = (d : Int) := by rw [← hd]; push_cast; rfl
      have HD := Lib.hid hmod
      clear hd
      go_enter Try.func6, Try.ntmps6
      go_wp2_with fail
      refine (frame_calls w a0 len0 cap0 r HR.out hc1 hc2 (by omega)).mono ?_
      rintro e w1 ⟨v1, rfl, hO1, hb1⟩
      obtain ⟨A1, c1, rfl, q1, q1', hB1⟩ := hO1.form_ (n := 8 + len0) (by rw [frame_len, hrl.out])
      have HB1 := Lib.hid hB1
      have HW1 := Lib.hid hb1
      have hs1 := hb1.size
      clear hO1 hB1 hb1
      go_wp2_with fail
      refine (frame_calls w1 a1 len1 cap1 s ((HS.out.below HW1.out).more hs1) hd1 hd2 (by omega)).mono ?_
      rintro e w2 ⟨v2, rfl, hO2, hb2⟩
      obtain ⟨A2, c2, rfl, q2, q2', hB2⟩ := hO2.form_ (n := 8 + len1) (by rw [frame_len, hsl.out])
      have HB2 := Lib.hid hB2
      have HK2 := Lib.hid hb2
      have HW2 := Lib.hid (HW1.out.trans (hb2.mono hs1))
      have hs2 := hb2.size
      clear hO2 hB2 hb2
      go_wp2_with (first
        | (at_builtin
           refine wpList_append_any _ rfl (.tmp 51) (.tmp 52) _ rfl w2.heap.size 5 i0 _ 1 1 Try.underlying22 hi0 hz0 hz1 hz2 rfl (by omega) (.slice none 0 0) 0 [] rfl
               (World.ownsRow_nil _ _ _ _) w1.heap.size A1 (8 + len0) c1 (cells (frame r)) rfl (HB1.out.below HK2.out).reads (cells_one _) (by simp only [maxLen]; omega) (by omega) (by exact Nat.le_refl _) ?_
           intro v3 w3 hown3 hg3 hat3
           have HO3 : Hid (OwnB w3 w2.heap.size v3 (frame r)) := by unfold Hid OwnB; rw [frame_len, hrl.out]; simpa using hown3
           have HK3 : Hid (Below w2.heap.size w2 w3) := (Below.refl _ _).grown hg3 (Nat.le_refl _) (fun k hk => by simp [Value.ownBlock] at hk)
           clear hown3 hg3 hat3)
        | (at_builtin
           go_loud (
             refine wpList_append_any _ rfl (.tmp 54) (.tmp 55) _ rfl w2.heap.size 5 i0 _ 1 1 Try.underlying22 hi0 hz0 hz1 hz2 rfl (by omega) v3 (8 + len0) (cells (frame r)) rfl
               (by have := HO3.out; unfold OwnB at this; rw [frame_len, hrl.out] at this; exact this) w2.heap.size A2 (8 + len1) c2 (cells (frame s)) rfl (HB2.out.below HK3.out).reads (cells_one _) (by simp only [maxLen]; omega) (by omega) (by have := HK3.out.size; omega) ?_)
           intro v4 w4 hown4 hg4 hat4
           have HO4 : Hid (OwnB w4 w2.heap.size v4 (frame r ++ frame s)) := by unfold Hid OwnB; rw [List.length_append, frame_len, frame_len, hrl.out, hsl.out, cells_append]; exact hown4
           have HK4 : Hid (Below w2.heap.size w2 w4) := HK3.out.grown hg4 HK3.out.size (fun k hk => (HO3.out.lt k hk).1)
           clear hown4 hg4 hat4))
      obtain ⟨q, hq⟩ : ∃ q, q = 16 + len0 + len1 := ⟨_, rfl⟩
      obtain ⟨A4, c4, hv4, q4, q4', hB4⟩ := HO4.out.form_ (n := q) (by rw [List.length_append, frame_len, frame_len, hrl.out, hsl.out, hq]; omega)
      subst hv4
      have HB4 := Lib.hid hB4
      clear hB4
      go_wp2_with fail
      refine (scan_calls w4 A4 q c4 _ HB4.out q4 q4' (by omega)).mono ?_
      rintro e w5 ⟨v5, rows5, rfl, hR5, hb5⟩
      rw [scan_two (by rw [hrl.out]; omega) (by rw [hsl.out]; omega)] at hR5 ⊢
      obtain ⟨A5, c5, rfl, q5, q5', hL5⟩ := hR5.form_ (n := 2) rfl
      have HR5 := Lib.hid hR5
      have HK5 := Lib.hid (HK4.out.trans (hb5.mono HK4.out.size))
      clear hR5 hb5 hL5
      have hat16 : 16 + r.length + s.length = q := by rw [hrl.out, hsl.out, hq]
      rw [hat16]
      clear hat16
      go_wp2_with fail
      have hx : ∃ x : Int, scanS ((frame r).take d) = ([], 0, x) ∧ ((x = 31 ∧ d ≠ 0) ∨ (x = 0 ∧ d = 0)) := by
        by_cases h0 : d = 0
        · exact ⟨0, by rw [h0, List.take_zero, scan_nil], .inr ⟨rfl, h0⟩⟩
        · exact ⟨31, scan_part (by rw [hrl.out]; omega) (by rw [hrl.out]; exact hdl) h0, .inl ⟨rfl, h0⟩⟩
      obtain ⟨x, hsx, hx⟩ := hx
      have HX := Lib.hid hx
      have hK15 : Below w1.heap.size w1 w5 := HK2.out.trans (HK5.out.mono hs2)
      refine (scan_calls w5 A1 d c1 _ (((HB1.out.below hK15).more hK15.size).pre d (by omega)) (by omega) q1' (by omega)).mono ?_
      rintro e w6 ⟨v6, rows6, rfl, hR6, hb6⟩
      rw [hsx] at hR6 ⊢
      obtain ⟨A6, c6, rfl, q6, q6', hL6⟩ := hR6.form_ (n := 0) rfl
      obtain ⟨y5, z5, e5, _, _, hL5⟩ := (HR5.out.below hb6).form_ (n := 2) rfl
      injection e5 with e5 _ e5'
      subst e5 e5'
      have HL5 := Lib.hid hL5
      have HK6 : Hid (Below w.heap.size w w6) := HW2.out.trans ((HK5.out.mono (Nat.le_trans hs1 hs2)).trans (hb6.mono (Nat.le_trans (Nat.le_trans hs1 hs2) HK5.out.size)))
      have HL2 : Hid (Lst (w6.alloc (.cells #[.slice a0 len0 cap0, .slice a1 len1 cap1] 22)) (w6.heap.size + 1) (some ⟨w6.heap.size, 0, none⟩) 2 [r, s]) :=
        lst_two ((HR.out.below HK6.out).more HK6.out.size) hc1 hc2 ((HS.out.below HK6.out).more HK6.out.size) hd1 hd2
      have hcl : Hid (Calls Try.prog 20 #[.slice A5 2 c5, .slice (some ⟨w6.heap.size, 0, none⟩) 2 2] (w6.alloc (.cells #[.slice a0 len0 cap0, .slice a1 len1 cap1] 22)) fun e w' => e = .returned (.bool true) ∧ ∃ m, w' = (w6.alloc (.cells #[.slice a0 len0 cap0, .slice a1 len1 cap1] 22)).drewN m) := by
        have := lists_calls _ _ _ A5 (some ⟨w6.heap.size, 0, none⟩) 2 2 c5 2 [r, s] [r, s] (HL5.out.alloc (Nat.le_refl _) _) HL2.out (by omega) (by omega)
        rwa [decide_eq_true rfl] at this
      clear hsx hx hR6 hL6 hb6 hL5
      rcases HX.out with ⟨rfl, h0⟩ | ⟨rfl, h0⟩
      · go_wp2_with fail
        refine hcl.out.mono ?_
        rintro e w' ⟨rfl, m, rfl⟩
        go_wp2_with fail
        refine (known_calls _).mono ?_
        rintro e w7 ⟨rfl, hb7⟩
        go_wp2_with fail
        go_ret
        exact ⟨rfl, (below_drewN (HK6.out.alloc HK6.out.size _) m).trans (hb7.mono (by have := HK6.out.size; simp; omega))⟩
      · have hdb : ((d : Int) == 0) = true := by simp [h0]
        have hd0 : (d : Int) = 0 := by omega
        go_wp2_with fail
        refine hcl.out.mono ?_
        rintro e w' ⟨rfl, m, rfl⟩
        go_wp2_with fail
        refine (known_calls _).mono ?_
        rintro e w7 ⟨rfl, hb7⟩
        go_wp2_with fail
        go_ret
        exact ⟨rfl, (below_drewN (HK6.out.alloc HK6.out.size _) m).trans (hb7.mono (by have := HK6.out.size; simp; omega))⟩
end Go.Proofs.Ytnolmcdahpkcnaa
