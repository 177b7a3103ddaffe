/- Contracts of SameLists, Frames, long. -/
import Derived.Test.YtnolmcdahpkcnaaFo
namespace Go.Proofs.Ytnolmcdahpkcnaa
open Go.RowKit
set_option linter.unusedVariables false

theorem ret_bool {a b : Bool} {w w' : World} (h : a = b) (hd : ∃ m, w' = w.drewN m) : Ending.returned (.bool a) = .returned (.bool b) ∧ ∃ m, w' = w.drewN m := by rw [h]; exact ⟨rfl, hd⟩
theorem ret_b {a b : Bool} (h : a = b) : Ending.returned (.bool a) = .returned (.bool b) := by rw [h]
def SameTo (xs bs : List (List UInt8)) (k : Nat) : Prop := ∀ i, i < k → xs.getD i [] = bs.getD i []
theorem same_all {xs bs : List (List UInt8)} (hl : xs.length = bs.length) (h : SameTo xs bs xs.length) : xs = bs := by
  apply List.ext_getElem hl
  intro i h1 h2
  have := h i h1
  rwa [getD_eq h1, getD_eq h2] at this

theorem bytes_ne (x y : List UInt8) (h : x ≠ y) : ((⟨x.toArray⟩ : ByteArray).toList == (⟨y.toArray⟩ : ByteArray).toList) = false := by
  rw [ByteArray.toList_mk, ByteArray.toList_mk]; simpa using h

set_option maxHeartbeats 1000000 in
theorem lists_calls (w : World) (B B' : Nat) (a a' : Option Addr) (n n' c c' : Nat) (xs bs : List (List UInt8)) (h : Lst w B a n xs) (h' : Lst w B' a' n' bs) (hn : n ≤ 9223372036854775807) (hn' : n' ≤ 9223372036854775807) :
    Calls Try.prog 20 #[.slice a n c, .slice a' n' c'] w fun e w' => e = .returned (.bool (decide (xs = bs))) ∧ ∃ m, w' = w.drewN m := by
  have HL := Lib.hid h.1
  have HL' := Lib.hid h'.1
  by_cases hnn : n = n'
  · subst hnn
    rcases Nat.eq_zero_or_pos n with h0 | h0
    · subst h0
      have e1 : xs = [] := List.length_eq_zero_iff.1 HL.out
      have e2 : bs = [] := List.length_eq_zero_iff.1 HL'.out
      subst e1 e2
      go_enter Try.func20, Try.ntmps20
      go_wp2_with fail
      refine wp_loop_once ?_
      go_wp2_with fail
      go_ret
      exact ret_bool (by simp) ⟨0, rfl⟩
    · rcases h.2 with h1 | ⟨b, off, rfl, _, hc⟩
      · omega
      rcases h'.2 with h1 | ⟨b', off', rfl, _, hc'⟩
      · omega
      have HC := Lib.hid hc
      have HC' := Lib.hid hc'
      clear h h' hc hc' h0
      go_enter Try.func20, Try.ntmps20
      go_wp2_with fail
      go_loopw [5] (fun i wr => ∃ (k m : Nat), k ≤ n ∧ i = .int .i64 k ∧ wr = w.drewN m ∧ SameTo xs bs k) (fun i _ => n - (intOf i).toNat)
      case atStart => exact ⟨0, 0, Nat.zero_le _, rfl, rfl, fun i hi => by omega⟩
      case round =>
        obtain ⟨k, m, hk, rfl, rfl, hs⟩ := hrel
        have HS := Lib.hid hs
        clear hs
        by_cases hlt : k < n
        · obtain ⟨A, l, cc, h1, _, _, h4⟩ := HC.out k hlt
          obtain ⟨A', l', cc', h1', _, _, h4'⟩ := HC'.out k hlt
          have hcv : ∀ q, (convert 22 9 (.slice A l cc)).run Try.prog (w.drewN q) = .ok (.string ⟨(xs.getD k []).toArray⟩) (w.drewN q) := fun q => conv_byt (w := w.drewN q) (by exact h4)
          have hcv' : ∀ q, (convert 22 9 (.slice A' l' cc')).run Try.prog (w.drewN q) = .ok (.string ⟨(bs.getD k []).toArray⟩) (w.drewN q) := fun q => conv_byt (w := w.drewN q) (by exact h4')
          generalize hx : xs.getD k [] = x at hcv
          generalize hy : bs.getD k [] = y at hcv'
          have HX := Lib.hid hx
          have HY := Lib.hid hy
          have hki : (k : Int) < (n : Int) := by omega
          have hk0 : (0 : Int) ≤ (k : Int) := by omega
          clear hx hy h4 h4'
          by_cases hxy : x = y
          · subst hxy
            go_wp2_with fail
            go_quiet (fail)
            go_wp2_with fail
            go_roundw
            case rel =>
              refine ⟨k + 1, _, by omega, by go_num, rfl, fun i hi => ?_⟩
              by_cases e : i = k
              · subst e; rw [HX.out, HY.out]
              · exact HS.out i (by omega)
            case measure => simp [intOf]; omega
          · have hne : (x == y) = false := by simpa using hxy
            have hd : Hid (decide (xs = bs) = false) := by
              unfold Hid
              simp only [decide_eq_false_iff_not]
              rintro rfl
              exact hxy (HX.out.symm.trans HY.out)
            clear hxy
            go_wp2_with fail
            go_quiet (fail)
            go_wp2_with fail
            go_ret
            exact ret_bool hd.out.symm ⟨m + nq, by simp [World.drewN, Nat.add_assoc]⟩
        · obtain rfl : k = n := by omega
          have hd : Hid (decide (xs = bs) = true) := by
            unfold Hid
            simp only [decide_eq_true_eq]
            exact same_all (by rw [HL.out, HL'.out]) (by rw [HL.out]; exact HS.out)
          go_wp2_with fail
          go_ret
          exact ret_bool hd.out.symm ⟨_, rfl⟩
  · have hd : Hid (decide (xs = bs) = false) := by
      unfold Hid
      simp only [decide_eq_false_iff_not]
      rintro rfl
      exact hnn (HL.out.symm.trans HL'.out)
    have hne : ((n : Int) == (n' : Int)) = false := by simp; omega
    clear h h' hnn
    go_enter Try.func20, Try.ntmps20
    go_wp2_with fail
    go_ret
    exact ret_bool hd.out.symm ⟨0, rfl⟩

def longN (lss : List (List UInt8)) : Nat := (framesL lss).length
theorem longN_take {lss : List (List UInt8)} {k : Nat} (h : k < lss.length) : longN (lss.take (k + 1)) = longN (lss.take k) + 8 + (lss.getD k []).length := by
  unfold longN; rw [framesL_take h, List.length_append, frame_len]; omega
theorem longN_le (lss : List (List UInt8)) (k : Nat) : longN (lss.take k) ≤ longN lss := framesL_le lss k

set_option maxHeartbeats 400000 in
theorem long_calls (w : World) (B : Nat) (a : Option Addr) (n c : Nat) (lss : List (List UInt8)) (h : Lst w B a n lss) (hs : longN lss ≤ 1000000000) :
    Calls Try.prog 17 #[.slice a n c] w fun e w' => e = .returned (.bool (decide ((2000 : Int) < (longN lss : Int)))) ∧ w = w' := by
  have HL := Lib.hid h.1
  have hn : 8 * n ≤ longN lss := by rw [← h.1]; exact framesL_len lss
  obtain ⟨t, ht⟩ : ∃ t, t = longN lss := ⟨_, rfl⟩
  rw [← ht] at hs hn
  have HT := Lib.hid ht
  clear ht
  rcases h.2 with h0 | ⟨b, off, rfl, _, hc⟩
  · subst h0
    have e1 : lss = [] := List.length_eq_zero_iff.1 HL.out
    subst e1
    clear h
    go_enter Try.func17, Try.ntmps17
    go_wp2_with fail
    refine wp_loop_once ?_
    go_wp2_with fail
    go_ret
    exact ⟨rfl, rfl⟩
  · have HC := Lib.hid hc
    clear h hc
    go_enter Try.func17, Try.ntmps17
    go_wp2_with fail
    go_loop [3, 4] (fun s i => ∃ k : Nat, k ≤ n ∧ i = .int .i64 k ∧ s = .int .i64 (longN (lss.take k))) (fun _ i => n - (intOf i).toNat)
    case atStart => exact ⟨0, Nat.zero_le _, rfl, rfl⟩
    case round =>
      obtain ⟨k, hk, rfl, rfl⟩ := hrel
      have hle := longN_le lss k
      rw [← HT.out] at hle
      by_cases hlt : k < n
      · obtain ⟨A, l, cc, h1, _, _, h4⟩ := HC.out k hlt
        have hN := longN_take (lss := lss) (k := k) (by rw [HL.out]; exact hlt)
        have hle2 := longN_le lss (k + 1)
        rw [← HT.out, hN, h4.1] at hle2
        rw [h4.1] at hN
        have HN := Lib.hid hN
        generalize longN (lss.take k) = s at hle hle2 HN ⊢
        clear hN h4
        go_wp2_with fail
        go_round
        case rel => exact ⟨k + 1, by omega, by go_num, by rw [HN.out]; go_num⟩
        case measure => simp [intOf]; omega
      · obtain rfl : k = n := by omega
        have e : longN (lss.take k) = t := by rw [HT.out, List.take_of_length_le (by rw [HL.out]; exact Nat.le_refl _)]
        rw [e]
        clear e
        go_wp2_with fail
        go_ret
        exact ⟨ret_b (by rw [← HT.out]), rfl⟩

set_option maxHeartbeats 1000000 in
theorem frames_calls (w : World) (a : Option Addr) (n cap : Nat) (lss : List (List UInt8)) (hl : Lst w w.heap.size a n lss) (hrec : ∀ i, i < lss.length → (lss.getD i []).length ≤ 65536) (hsum : longN lss ≤ 100000000) :
    Calls Try.prog 18 #[.slice a n cap] w (RetB w (framesL lss)) := by
  obtain ⟨i0, hi0, hz0, hz1, hz2⟩ := info_parts byte_info
  have HL := Lib.hid hl
  have HREC := Lib.hid hrec
  have hnl : 8 * n ≤ longN lss := by rw [← hl.1]; exact framesL_len lss
  obtain ⟨tot, htot⟩ : ∃ t, t = longN lss := ⟨_, rfl⟩
  rw [← htot] at hsum hnl
  have HT := Lib.hid htot
  clear hl hrec htot
  go_enter Try.func18, Try.ntmps18
  go_wp2_with fail
  go_loopw [3, 4] (fun u i wr => ∃ (k : Nat) (v : Value), k ≤ n ∧ i = .int .i64 k ∧ v = u ∧ OwnB wr w.heap.size v (framesL (lss.take k)) ∧ Below w.heap.size w wr) (fun _ i _ => n - (intOf i).toNat)
  case atStart => exact ⟨0, _, Nat.zero_le _, rfl, rfl, OwnB.nil _ _, Below.refl _ _⟩
  case round =>
    obtain ⟨k, v, hk, rfl, rfl, hown, hbl⟩ := hrel
    have HO := Lib.hid hown
    have HW := Lib.hid hbl
    have hsz := hbl.size
    clear hown hbl
    by_cases hlt : k < n
    · rcases HL.out.2 with h0 | ⟨b, off, rfl, hb, hc⟩
      · omega
      · obtain ⟨A, l, c, h1, h2, h3, h4⟩ := hc k hlt
        have hcell : wr.cell? ⟨b, off + k, none⟩ = some (.slice A l c) := (HW.out.cell (p := ⟨b, off + k, none⟩) hb).trans h1
        have H4 : Hid (Byt wr wr.heap.size A l (lss.getD k [])) := (h4.below HW.out).more hsz
        have hll : l ≤ 65536 := by rw [← h4.1]; exact HREC.out k (by rw [HL.out.1]; exact hlt)
        have hft : (framesL (lss.take (k + 1))).length ≤ tot := by rw [HT.out]; exact framesL_le lss (k + 1)
        have HFT := Lib.hid (framesL_take (lss := lss) (k := k) (by rw [HL.out.1]; exact hlt))
        rw [HFT.out, List.length_append] at hft
        clear hc h1 h4
        go_wp2_with fail
        refine (rframe_calls wr A l c (lss.getD k []) H4.out h2 h3 hll).mono ?_
        rintro e w1 ⟨v1, rfl, hO1, hb1⟩
        obtain ⟨A1, c1, rfl, hl1, hl1', hB1⟩ := hO1.form
        have HB1 := Lib.hid hB1
        have HO1 := Lib.hid (HO.out.below hb1)
        have HW1 := Lib.hid (HW.out.trans (hb1.mono hsz))
        have hs1 := hb1.size
        clear hO1 hB1 hb1
        go_wp2_with (first
          | (at_builtin
             refine wpList_append_any _ rfl (.tmp 21) (.tmp 22) _ rfl w.heap.size 5 i0 _ 1 1 Try.underlying22 hi0 hz0 hz1 hz2 rfl (by omega) v (framesL (lss.take k)).length (cells (framesL (lss.take k))) rfl
               HO1.out w1.heap.size A1 (frame (lss.getD k [])).length c1 (cells (frame (lss.getD k []))) rfl HB1.out.reads (cells_one _) (by simp only [maxLen]; omega) (by omega) (by omega) ?_
             intro v2 w2 hown2 hg2 hat2))
        go_roundw
        case rel =>
          refine ⟨k + 1, _, by omega, by go_num, rfl, ?_, HW1.out.grown hg2 (by omega) (fun k hk => (HO1.out.lt k hk).1)⟩
          unfold OwnB
          rw [HFT.out, List.length_append, cells_append]
          exact hown2
        case measure => simp [intOf]; omega
    · obtain rfl : k = n := by omega
      have hO : Hid (OwnB wr w.heap.size v (framesL lss)) := by
        have := HO.out
        rwa [List.take_of_length_le (by rw [HL.out.1]; exact Nat.le_refl _)] at this
      go_wp2_with fail
      go_ret
      exact ⟨v, rfl, hO.out, HW.out⟩
end Go.Proofs.Ytnolmcdahpkcnaa
