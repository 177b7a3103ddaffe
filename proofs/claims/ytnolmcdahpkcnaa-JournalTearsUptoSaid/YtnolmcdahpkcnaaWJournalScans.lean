/- JournalScans: the walk. -/
import Derived.Test.YtnolmcdahpkcnaaFs
import Derived.Deep.RegionHeld3
namespace Go.Proofs.Ytnolmcdahpkcnaa
open Go.RowKit
set_option linter.unusedVariables false

theorem lists_true {w : World} {B B' : Nat} {a a' : Option Addr} {n n' c c' : Nat} {xs : List (List UInt8)} (h : Lst w B a n xs) (h' : Lst w B' a' n' xs) (hn : n ≤ c) (hc : c ≤ 9223372036854775807) (hn' : n' ≤ c') (hc' : c' ≤ 9223372036854775807) (W : World) (e : W.heap = w.heap) :
    Calls Try.prog 20 #[.slice a n c, .slice a' n' c'] W fun e w' => e = .returned (.bool true) ∧ ∃ m, w' = W.drewN m := by
  have := lists_calls W B B' a a' n n' c c' xs xs (h.heap e) (h'.heap e) (by omega) (by omega)
  rwa [decide_eq_true rfl] at this

set_option maxHeartbeats 2000000 in
theorem walk_journalScans (a0 : Option Addr) (len0 cap0 : Nat) (z0 : List Int) (w : World) (w0 : IsRow .u8 w a0 len0 cap0 z0) :
    Calls Try.prog 7 #[.slice a0 len0 cap0] w fun e w' => e = .returned (.bool true) ∧ Below w.heap.size w w' := by
  obtain ⟨bs, hB, hc1, hc2⟩ := w0.byt
  clear w0
  have HB := Lib.hid hB
  have hat := scan_at bs
  have hfew := scan_few bs
  have HREC := Lib.hid (scan_rec bs)
  rw [hB.1] at hat hfew
  clear hB
  by_cases hl : 2000 < len0
  · go_enter Try.func7, Try.ntmps7
    go_wp2_with (first
      | (go_at_call 10; refine (known_calls _).mono ?_; rintro e w1 ⟨rfl, hb⟩))
    go_ret
    exact ⟨rfl, hb⟩
  · have hs1 : Hid (Calls Try.prog 19 #[.slice a0 len0 cap0] w (RetS w (scanS bs))) := scan_calls w a0 len0 cap0 bs HB.out hc1 hc2 (by omega)
    have hs2 : Hid (∀ w1, Below w.heap.size w w1 → Calls Try.prog 21 #[.slice a0 len0 cap0] w1 (RetS w1 (scanS bs))) := fun w1 hb => rscan_calls len0 w1 a0 len0 cap0 bs (Nat.le_refl _) ((HB.out.below hb).more hb.size) hc1 hc2 (by omega)
    have hs3 : Hid (∀ w1, Below w.heap.size w w1 → Calls Try.prog 22 #[.slice a0 len0 cap0] w1 (RetJ w1 len0 (scanS bs) bs)) := fun w1 hb => open_calls w1 a0 len0 cap0 bs ((HB.out.below hb).more hb.size) hc1 hc2 (by omega)
    obtain ⟨sl, sk, sx, hs⟩ : ∃ sl sk sx, scanS bs = (sl, sk, sx) := ⟨_, _, _, rfl⟩
    rw [hs] at hs1 hs2 hs3 hat hfew HREC
    simp only at hat hfew
    obtain ⟨n, hn⟩ : ∃ n, sl.length = n := ⟨_, rfl⟩
    rw [hn] at hfew
    have HN := Lib.hid hn
    have hmI : IntKind.i64.wrap ((len0 : Int) - (sk : Int)) = (len0 : Int) - (sk : Int) := IntWalk.i64_in _ (by omega)
    have hsc : sk ≤ cap0 := by omega
    have hscI : (sk : Int) ≤ (cap0 : Int) := by omega
    clear hs hn
    go_enter Try.func7, Try.ntmps7
    go_wp2_with fail
    refine hs1.out.mono ?_
    rintro e w1 ⟨v1, r1, rfl, hR1, hb1⟩
    have HR1 := Lib.hid hR1
    have HB1 := Lib.hid hb1
    obtain ⟨A1, c1, rfl, q1, q1', hL1⟩ := hR1.form_ HN.out
    clear hR1 hb1 hL1 hs1
    go_wp2_with fail
    refine (hs2.out w1 HB1.out).mono ?_
    rintro e w2 ⟨v2, r2, rfl, hR2, hb2⟩
    have HR2 := Lib.hid hR2
    have HB2 := Lib.hid (HB1.out.trans (hb2.mono HB1.out.size))
    have HR12 := Lib.hid (HR1.out.below hb2)
    obtain ⟨A2, c2, rfl, q2, q2', hL2⟩ := hR2.form_ HN.out
    clear hR2 hb2 hL2 hs2
    go_wp2_with fail
    refine (hs3.out w2 HB2.out).mono ?_
    rintro e w3 ⟨g, rfl, hJ, hb3⟩
    have HJ := Lib.hid hJ
    have HB3 := Lib.hid (HB2.out.trans (hb3.mono HB2.out.size))
    obtain ⟨x1, y1, e1, _, _, hL1⟩ := (HR12.out.below hb3).form_ HN.out
    obtain ⟨x2, y2, e2, _, _, hL2⟩ := (HR2.out.below hb3).form_ HN.out
    injection e1 with e1 _ e1'
    injection e2 with e2 _ e2'
    subst e1 e1' e2 e2'
    have HL1 := Lib.hid hL1
    have HL2 := Lib.hid hL2
    clear hJ hb3 hs3 hL1 hL2
    have hcL : Hid (∀ W, W.heap = w3.heap → Calls Try.prog 20 #[.slice A1 n c1, .slice A2 n c2] W fun e w' => e = .returned (.bool true) ∧ ∃ m, w' = W.drewN m) :=
      fun W e => lists_true HL1.out HL2.out q1 q1' q2 q2' W e
    have hcR : Hid (∀ W, W.heap = w3.heap → Calls Try.prog 23 #[.pointer (some ⟨g, 0, none⟩)] W (RetL W sl)) :=
      fun W e => records_calls W _ g _ _ (HJ.out.heap e) (by rw [HN.out]; omega) (fun i hi => Nat.le_trans (HREC.out i hi) (by omega))
    go_wp2_with fail
    go_region_held3 (fun _ => True) (trivial) (first
      | (go_at_call_of 20 (Value.slice A4 n c4); refine (hcL2.out _ ?_).mono ?_; exact rfl; rintro e w' ⟨rfl, m2, rfl⟩)
      | (go_at_call_of 20 (Value.slice A1 n c1); refine (hcL.out _ ?_).mono ?_; exact rfl; rintro e w' ⟨rfl, m1, rfl⟩)
      | (go_at_call 23; refine (hcR.out _ (by exact rfl)).mono ?_; rintro e w4 ⟨v4, r4, rfl, hR4, hb4⟩
         obtain ⟨A4, c4, rfl, q4, q4', hL4⟩ := hR4.form_ HN.out
         have HB4 : Hid (Below w.heap.size w w4) := Below.trans (by repeat (first | exact HB3.out | apply below_drewN | apply Below.drew)) (hb4.mono HB3.out.size)
         have hL24 := (HL2.out.heap (W := _) (by exact rfl)).below hb4
         have hJ4 := (HJ.out.heap (W := _) (by exact rfl)).below hb4
         have hcL2 : Hid (∀ W, W.heap = w4.heap → Calls Try.prog 20 #[.slice A4 n c4, .slice A2 n c2] W fun e w' => e = .returned (.bool true) ∧ ∃ m, w' = W.drewN m) := fun W e => lists_true hL4 hL24 q4 q4' q2 q2' W e
         have hcN : Hid (∀ W, W.heap = w4.heap → Calls Try.prog 24 #[.pointer (some ⟨g, 0, none⟩)] W fun e w' => e = .returned (.int .i64 n) ∧ W = w') := fun W e => by
           have := len_calls W _ g _ _ (hJ4.heap e); rwa [HN.out] at this
         have hcB : Hid (∀ W, W.heap = w4.heap → Calls Try.prog 25 #[.pointer (some ⟨g, 0, none⟩)] W (RetB W (bs.take sk))) := fun W e =>
           bytes_calls W _ g _ _ (hJ4.heap e) (by rw [List.length_take]; omega)
         clear hR4 hb4 hL4 hL24 hJ4)
      | (go_at_call 24; refine (hcN.out _ (by exact rfl)).mono ?_; rintro e w' ⟨rfl, rfl⟩)
      | (go_at_call 25; refine (hcB.out _ (by exact rfl)).mono ?_; rintro e w5 ⟨v5, rfl, hO5, hb5⟩
         have HB5 : Hid (Below w.heap.size w w5) := Below.trans (by repeat (first | exact HB4.out | apply below_drewN | apply Below.drew)) (hb5.mono HB4.out.size)
         obtain ⟨A5, c5, rfl, q5, q5', hB5⟩ := hO5.form_ (n := sk) (by rw [List.length_take, HB.out.1]; omega)
         have hcS : Hid (∀ W, W.heap = w5.heap → Calls Try.prog 15 #[.slice A5 sk c5, .slice a0 sk cap0] W fun e w' => e = .returned (.bool true) ∧ W = w') := fun W e => by
           have := same_calls W _ _ A5 a0 sk sk c5 cap0 _ _ (hB5.heap e) (((HB.out.below HB5.out).pre sk hat).heap e)
           rwa [beq_self_eq_true] at this
         clear hO5 hb5 hB5)
      | (go_at_call 15; refine (hcS.out _ (by exact rfl)).mono ?_; rintro e w' ⟨rfl, rfl⟩)
      | (go_at_call 10; refine (known_calls _).mono ?_; rintro e w6 ⟨rfl, hb6⟩
         have HB6 : Hid (Below w.heap.size w w6) := Below.trans (by repeat (first | exact HB5.out | apply below_drewN | apply Below.drew)) (hb6.mono HB5.out.size)
         clear hb6))
    all_goals go_wp2_with fail
    all_goals go_ret
    all_goals exact ⟨rfl, HB6.out⟩
end Go.Proofs.Ytnolmcdahpkcnaa
