/- ClockClips: the walk. -/
import Derived.Test.YtgbombimkpkbpaaWClockAdds
import Derived.Test.YtgbombimkpkbpaaPa
namespace Go.Proofs.Ytgbombimkpkbpaa
open Go.RowKit
set_option linter.unusedVariables false

set_option maxHeartbeats 1000000 in
theorem walk_clockClips (a0 : Int) (a1 : Option Addr) (len1 cap1 : Nat) (z1 : List Int) (a2 : Int) (w : World) (w0 : (Lit.int .i64 a0).wf = true) (w1 : IsRow .i64 w a1 len1 cap1 z1) (w2 : (Lit.int .i64 a2).wf = true) :
    Calls Try.prog 7 #[.int .i64 a0, .slice a1 len1 cap1, .int .i64 a2] w fun e w' => e = .returned (.bool true) ∧ Below w.heap.size w w' := by
  have hl := w1.open_.2.1
  have HI := Lib.hid w1.ints
  have HR := Lib.hid w1.reads
  generalize z1.take len1 = zs at HI HR
  clear w0 w1 w2
  unfold maxLen at hl
  by_cases hlen : 200 < len1
  · go_enter Try.func7, Try.ntmps7
    go_wp2_with (first
      | (go_at_call 11; refine (known_calls _).mono ?_; rintro e w1 ⟨rfl, hb⟩))
    go_ret
    exact ⟨rfl, hb⟩
  · obtain ⟨i0, hi0, hz0, hz1, hz2⟩ := info_parts int_info
    go_enter Try.func7, Try.ntmps7
    go_wp2_with (first
      | (at_builtin
         refine wpList_append_any _ rfl (.tmp 16) (.tmp 17) _ rfl w.heap.size 3 i0 _ 1 8 Try.underlying22 hi0 hz0 hz1 hz2 rfl (by omega) (.slice (some ⟨w.heap.size, 0, none⟩) 1 1) 1 [.int .i64 a0] rfl
           ⟨rfl, .inr ⟨w.heap.size, 1, #[.int .i64 a0], rfl, Nat.le_refl _, heap_alloc_new w _, Nat.le_refl _, by simp [maxLen], rfl, rfl⟩⟩ w.heap.size a1 len1 cap1 (zs.map (Value.int .i64)) rfl (HR.out.alloc (Nat.le_refl _) _) (one_ints _) (by simp only [maxLen]; omega) (by omega) (by simp) ?_
         intro v1 w1 hown1 hg1 hat1))
    have hown2 : w1.ownsRow w.heap.size 3 1 v1 (1 + len1) ((a0 :: zs).map (Value.int .i64)) := hown1
    obtain ⟨g, cap, hv, hg, hz⟩ := own_ints hown2 (by omega)
    subst hv
    have hb : Below w.heap.size w w1 := ((Below.refl _ _).alloc (Nat.le_refl _) _).grown hg1 (by simp) (fun k hk => by simp [Value.ownBlock] at hk; omega)
    have HI1 := Lib.hid (HI.out.below hb rfl)
    have HR1 := Lib.hid (HR.out.below hb)
    have HZ := Lib.hid hz
    have HO := Lib.hid hown2
    have hgl : g < w1.heap.size := by have := hown2.lt g rfl; exact this.2
    have hsz : w.heap.size ≤ w1.heap.size := hb.size
    have HC := Lib.hid (clip_cons a0 zs)
    clear hown1 hown2 hg1 hat1 hz HR HI
    go_wp2_with (first
      | (at_builtin
         refine wpList_append_any _ rfl (.tmp 22) (.tmp 23) _ rfl w1.heap.size 3 i0 _ 1 8 Try.underlying22 hi0 hz0 hz1 hz2 rfl (by omega) (.slice none 0 0) 0 [] rfl
           (World.ownsRow_nil _ _ _ _) w.heap.size a1 len1 cap1 (zs.map (Value.int .i64)) rfl HR1.out (one_ints _) (by simp only [maxLen]; omega) (by omega) (Nat.le_refl _) ?_
         intro v2 w2 hown2 hg2 hat2
         have HG2 := Lib.hid hg2
         simp only [Nat.zero_add, List.nil_append] at hown2
         have HO2 := Lib.hid hown2
         have hsz2 : w1.heap.size ≤ w2.heap.size := hg2.size
         clear hg2 hown2 hat2)
      | (at_builtin
         refine wpList_append_own _ rfl (.tmp 25) (.tmp 27) _ rfl w1.heap.size 3 i0 _ 1 8 Try.underlying22 hi0 hz0 hz1 hz2 rfl (by omega) v2 len1 (zs.map (Value.int .i64)) rfl
           (HO2.out.alloc _) ⟨w2.heap.size, 0, none⟩ 1 1 [.int .i64 a2] rfl rfl (cell_one_new _ _ _) (by intro u hu; simp at hu; subst hu; rfl) (by simp only [maxLen]; omega) (by omega) (by simp; omega) ?_
         intro v3 w3 hown3 hg3 hat3)
      | (go_at_call 14; refine (clip_calls _ _ _ _ zs _ HI1.out (by omega)).mono ?_; rintro e w' ⟨rfl, rfl⟩))
    have hown4 : w3.ownsRow w1.heap.size 3 1 v3 (len1 + 1) ((zs ++ [a2]).map (Value.int .i64)) := by rw [List.map_append]; exact hown3
    obtain ⟨g3, cap3, hv3, hg3', hz3⟩ := own_ints hown4 (by omega)
    subst hv3
    have hb2 : Below w1.heap.size w1 w2 := (Below.refl _ _).grown HG2.out (Nat.le_refl _) (fun k hk => by simp [Value.ownBlock] at hk)
    have hb3 : Below w1.heap.size w2 w3 := ((Below.refl _ _).alloc hb2.size _).grown hg3 (by simp; omega) (fun k hk => (HO2.out.lt k hk).1)
    have hb4 := hb2.trans hb3
    have hb5 : Below w.heap.size w w3 := hb.trans (hb4.mono hsz)
    have HZ3 := Lib.hid (HZ.out.below hb4 rfl)
    have HZ4 := Lib.hid hz3
    have hcm := clip_more a0 a2 zs
    have hci := clip_isT a0 zs zs.length
    have hzl := HZ.out.1
    have hzl2 := hz3.1
    clear hown3 hown4 hg3 hat3 hz3
    obtain ⟨c0, hc0⟩ : ∃ c, clipAt a0 zs zs.length = c := ⟨_, rfl⟩
    obtain ⟨c1, hc1⟩ : ∃ c, clipAt a0 (zs ++ [a2]) (zs ++ [a2]).length = c := ⟨_, rfl⟩
    rw [hc0] at hcm hci ⊢
    rw [hc1] at hcm
    have HC0 := Lib.hid hc0
    have HC1 := Lib.hid hc1
    clear hc0 hc1 hzl hzl2
    go_wp2_with fail
    refine (rclip_calls _ _ _ (a0 :: zs) _ HZ3.out (by omega)).mono ?_
    rintro e w' ⟨rfl, rfl⟩
    rw [HC.out, HC0.out]
    go_wp2_with fail
    refine (is_any _ _).mono ?_
    rintro e w' ⟨rfl, rfl⟩
    rw [hci]
    go_wp2_with fail
    refine (clip_calls _ _ _ _ (zs ++ [a2]) _ HZ4.out (by omega)).mono ?_
    rintro e w' ⟨rfl, rfl⟩
    rw [HC1.out]
    go_wp2_with fail
    refine (known_calls _).mono ?_
    rintro e w4 ⟨rfl, hb6⟩
    go_wp2_with fail
    go_ret
    exact ⟨rfl, hb5.trans (hb6.mono hb5.size)⟩
end Go.Proofs.Ytgbombimkpkbpaa
