/- The contract of Scan. -/
import Derived.Test.YtnolmcdahpkcnaaFn
namespace Go.Proofs.Ytnolmcdahpkcnaa
open Go.RowKit
set_option linter.unusedVariables false

def RetS (w : World) (s : List (List UInt8) × Nat × Int) (e : Ending) (w' : World) : Prop :=
  ∃ v rows, e = .returned (.tuple #[v, .int .i64 s.2.1, .int .i64 s.2.2]) ∧ OwnR w' w.heap.size v rows s.1 ∧ Below w.heap.size w w'

/-- Where the scan stands: the records so far, from k on all is as the plain scan has it. -/
def Sc (bs : List UInt8) (k : Nat) (done : List (List UInt8)) : Prop :=
  scanS bs = (done ++ (scanS (bs.drop k)).1, k + (scanS (bs.drop k)).2.1, (scanS (bs.drop k)).2.2) ∧ 8 * done.length ≤ k
theorem sc_start (bs : List UInt8) : Sc bs 0 [] := ⟨by simp, by simp⟩
theorem sc_step {bs : List UInt8} {k : Nat} {done : List (List UInt8)} (h : Sc bs k done) (hn : (nextS (bs.drop k)).2 = 0) : Sc bs (k + (8 + (nextS (bs.drop k)).1.length)) (done ++ [(nextS (bs.drop k)).1]) := by
  refine ⟨?_, ?_⟩
  · have h1 := h.1
    rw [scan_cons hn, List.drop_drop] at h1
    rw [h1]
    simp only [List.append_assoc, List.singleton_append, Nat.add_assoc]
  · have := h.2
    simp only [List.length_append, List.length_singleton]; omega
theorem sc_end {bs : List UInt8} {k : Nat} {done : List (List UInt8)} (h : Sc bs k done) (hk : bs.length ≤ k) : scanS bs = (done, k, 0) := by
  rw [h.1, List.drop_eq_nil_of_le hk, scan_nil]; simp
theorem sc_bad {bs : List UInt8} {k : Nat} {done : List (List UInt8)} (h : Sc bs k done) (hk : k < bs.length) (hn : (nextS (bs.drop k)).2 ≠ 0) : scanS bs = (done, k, (nextS (bs.drop k)).2) := by
  rw [h.1, scan_bad (by intro e; have := congrArg List.length e; rw [List.length_drop] at this; simp at this; omega) hn]; simp

theorem retS {w w' : World} {s : List (List UInt8) × Nat × Int} {v : Value} {rows : List Value} {done : List (List UInt8)} {k : Nat} {x : Int} (h : s = (done, k, x)) (hO : OwnR w' w.heap.size v rows done) (hb : Below w.heap.size w w') :
    RetS w s (.returned (.tuple #[v, .int .i64 k, .int .i64 x])) w' := by subst h; exact ⟨v, rows, rfl, hO, hb⟩

set_option maxHeartbeats 2000000 in
theorem scan_calls (w : World) (a : Option Addr) (n cap : Nat) (bs : List UInt8) (hr : Byt w w.heap.size a n bs) (hc1 : n ≤ cap) (hc2 : cap ≤ 9223372036854775807) (hn : n ≤ 100000000) :
    Calls Try.prog 19 #[.slice a n cap] w (RetS w (scanS bs)) := by
  obtain ⟨i1, hi1, hy0, hy1, hy2⟩ := info_parts rows_info
  have HR := Lib.hid hr
  have HL := Lib.hid hr.1
  clear hr
  go_enter Try.func19, Try.ntmps19
  go_wp2_with fail
  go_step3
  go_wp2_with fail
  go_step3
  go_wp2_with fail
  go_loopw [5, 6, 7] (fun u at_ y wr => ∃ (k : Nat) (v : Value) (rows : List Value) (done : List (List UInt8)), k ≤ n ∧ at_ = .int .i64 k ∧ v = u ∧ y = .int .i64 0 ∧ OwnR wr w.heap.size v rows done ∧ Sc bs k done ∧ Below w.heap.size w wr) (fun _ i _ _ => n - (intOf i).toNat)
  case atStart => exact ⟨0, _, [], [], Nat.zero_le _, rfl, rfl, rfl, OwnR.nil _ _, sc_start _, Below.refl _ _⟩
  case round =>
    obtain ⟨k, v, rows, done, hk, rfl, rfl, rfl, hO, hsc, hbl⟩ := hrel
    have HO := Lib.hid hO
    have HW := Lib.hid hbl
    have hsz := hbl.size
    have hdl : 8 * done.length ≤ k := hsc.2
    have HSC := Lib.hid hsc
    clear hO hsc hbl
    by_cases hlt : k < n
    · obtain ⟨A1, r1, y1⟩ := cut_from (HR.out.below HW.out) hc1 k hk
      have Y1 := Lib.hid (y1.more hsz)
      clear y1
      obtain ⟨r, x, hrx⟩ : ∃ r x, nextS (bs.drop k) = (r, x) := ⟨_, _, rfl⟩
      have HRX := Lib.hid hrx
      have hnx : Hid (Calls Try.prog 31 #[.slice A1 (n - k) (cap - k)] wr (RetN wr r x)) := by
        have := next_calls wr A1 (n - k) (cap - k) (bs.drop k) Y1.out (by omega) (by omega)
        rw [hrx] at this; exact this
      clear hrx
      by_cases hx : x = 0
      · have hq := nextS_len (l := bs.drop k) (by rw [HRX.out]; exact hx)
        rw [HRX.out, List.length_drop, HL.out] at hq
        obtain ⟨hq1, hq2⟩ := hq
        simp only at hq1 hq2
        have HS : Hid (Sc bs (k + (8 + r.length)) (done ++ [r])) := by
          have := sc_step HSC.out (by rw [HRX.out]; exact hx)
          rw [HRX.out] at this; exact this
        subst hx
        go_wp2_with fail
        refine hnx.out.mono ?_
        rintro e w1 ⟨v1, rfl, hO1, hb1⟩
        obtain ⟨rl, hrl⟩ : ∃ rl, rl = r.length := ⟨_, rfl⟩
        rw [← hrl] at hq1 hq2 HS
        obtain ⟨A2, c2, rfl, _, _, _⟩ := hO1.form_ hrl.symm
        have HRL := Lib.hid hrl
        have HO1 : Hid (OwnB w1 w.heap.size (.slice A2 rl c2) r) := World.ownsRow.base hO1 hsz
        have HOR1 := Lib.hid (HO.out.below hb1)
        have HW1 := Lib.hid (HW.out.trans (hb1.mono hsz))
        have hs1 := hb1.size
        clear hO1 hb1 hrl
        go_wp2_with (first
          | (at_builtin
             refine wpList_append_own _ rfl (.tmp 24) (.tmp 26) _ rfl w.heap.size 22 i1 _ 1 24 Try.underlying34 hi1 hy0 hy1 hy2 rfl (by omega) v done.length rows rfl
               (HOR1.out.list.alloc _) ⟨w1.heap.size, 0, none⟩ 1 1 [.slice A2 rl c2] rfl rfl (cell_one_new _ _ _) (by intro u hu; simp at hu; subst hu; rfl) (by simp only [maxLen]; omega) (by omega) (by simp; omega) ?_
             intro v2 w2 hown2 hg2 hat2))
        go_roundw
        case rel =>
          refine ⟨k + (8 + rl), v2, rows ++ [.slice A2 rl c2], done ++ [r], by omega, by go_num, rfl, rfl, ?_, HS.out, ?_⟩
          · exact OwnR.push (HOR1.out.below ((Below.refl _ _).alloc (Nat.le_refl _) _)) (HO1.out.below ((Below.refl _ _).alloc (Nat.le_refl _) _)) hown2 hg2
          · exact (HW1.out.alloc (by omega) _).grown hg2 (by simp; omega) (fun k hk => (HOR1.out.list.lt k hk).1)
        case measure => simp [intOf]; omega
      · have hx' : (x == 0) = false := by simpa using hx
        have HS := Lib.hid (sc_bad HSC.out (by rw [HL.out]; exact hlt) (by rw [HRX.out]; exact hx))
        rw [HRX.out] at HS
        clear hx
        go_wp2_with fail
        refine hnx.out.mono ?_
        rintro e w1 ⟨v1, rfl, hO1, hb1⟩
        have HOR1 := Lib.hid (HO.out.below hb1)
        have HW1 := Lib.hid (HW.out.trans (hb1.mono hsz))
        clear hO1 hb1
        go_wp2_with fail
        try rw [Exit.noGoto_ret]
        go_ret3
        exact retS HS.out HOR1.out HW1.out
    · obtain rfl : k = n := by omega
      have HS := Lib.hid (sc_end HSC.out (by rw [HL.out]; exact Nat.le_refl _))
      go_wp2_with fail
      try rw [Exit.noGoto_ret]
      go_ret3
      exact retS HS.out HO.out HW.out
end Go.Proofs.Ytnolmcdahpkcnaa
