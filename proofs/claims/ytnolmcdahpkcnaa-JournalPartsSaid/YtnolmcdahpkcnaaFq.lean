/- The contract of the reference's Scan. -/
import Derived.Test.YtnolmcdahpkcnaaFp
namespace Go.Proofs.Ytnolmcdahpkcnaa
open Go.RowKit
set_option linter.unusedVariables false

theorem scan_count (n : Nat) : ∀ l : List UInt8, l.length ≤ n → 8 * (scanS l).1.length ≤ (scanS l).2.1 := by
  induction n with
  | zero => intro l hl; have : l = [] := List.length_eq_zero_iff.1 (by omega)
            subst this; rw [scan_nil]; exact Nat.le_refl _
  | succ n ih =>
    intro l hl
    by_cases h0 : l = []
    · subst h0; rw [scan_nil]; exact Nat.le_refl _
    · by_cases h : (nextS l).2 = 0
      · have h1 := nextS_len h
        have h2 := ih (l.drop (8 + (nextS l).1.length)) (by rw [List.length_drop]; omega)
        rw [scan_cons h]
        simp only [List.length_cons]
        omega
      · rw [scan_bad h0 h]; simp
theorem scan_few (l : List UInt8) : 8 * (scanS l).1.length ≤ l.length := Nat.le_trans (scan_count l.length l (Nat.le_refl _)) (scan_at l)

theorem new_ownR {W : World} {base : Nat} {u : Value} {b : List UInt8} (h : OwnB W base u b) (hb : base ≤ W.heap.size) : OwnR (W.alloc (.cells #[u] 22)) base (.slice (some ⟨W.heap.size, 0, none⟩) 1 1) [u] [b] := by
  refine ⟨⟨rfl, .inr ⟨W.heap.size, 1, #[u], rfl, hb, heap_alloc_new W _, Nat.le_refl _, by simp [maxLen], rfl, rfl⟩⟩, fun i hi => ?_⟩
  have : i = 0 := by simp at hi; omega
  subst this
  exact ⟨u, rfl, h.below ((Below.refl _ _).alloc (Nat.le_refl _) _)⟩
theorem OwnR.append {w w' : World} {base : Nat} {v v' vl : Value} {rows rowsl : List Value} {bss bssl : List (List UInt8)} (h : OwnR w base v rows bss) (hl : OwnR w base vl rowsl bssl)
    (hown : w'.ownsRow base 22 1 v' (bss.length + bssl.length) (rows ++ rowsl)) (hg : w.grownBy w' v.ownBlock) : OwnR w' base v' (rows ++ rowsl) (bss ++ bssl) := by
  refine ⟨by rw [List.length_append]; exact hown, fun i hi => ?_⟩
  have kept : ∀ {x : Value} {c : List UInt8}, OwnB w base x c → OwnB w' base x c := fun {x c} hx => hx.keep fun k hk =>
    hg.block k (hx.lt k hk).2 (fun e => ne_block hx h.list k hk e.symm)
  by_cases e : i < bss.length
  · obtain ⟨x, h1, h2⟩ := h.recs i e
    refine ⟨x, by rw [List.getElem?_append_left (by rw [h.len]; exact e)]; exact h1, ?_⟩
    have : (bss ++ bssl).getD i [] = bss.getD i [] := by rw [List.getD_eq_getElem?_getD, List.getD_eq_getElem?_getD, List.getElem?_append_left e]
    rw [this]; exact kept h2
  · rw [List.length_append] at hi
    obtain ⟨x, h1, h2⟩ := hl.recs (i - bss.length) (by omega)
    refine ⟨x, by rw [List.getElem?_append_right (by rw [h.len]; omega), h.len]; exact h1, ?_⟩
    have : (bss ++ bssl).getD i [] = bssl.getD (i - bss.length) [] := by rw [List.getD_eq_getElem?_getD, List.getD_eq_getElem?_getD, List.getElem?_append_right (by omega)]
    rw [this]; exact kept h2

theorem OwnR.one {w : World} {base : Nat} {v : Value} {rows : List Value} {bss : List (List UInt8)} (h : OwnR w base v rows bss) : ∀ u ∈ rows, u.oneCell' = true := by
  intro u hu
  obtain ⟨i, hi, rfl⟩ := List.getElem_of_mem hu
  obtain ⟨x, h1, h2⟩ := h.recs i (by rw [← h.len]; exact hi)
  rw [List.getElem?_eq_getElem hi] at h1
  injection h1 with h1
  rw [h1]
  obtain ⟨a, c, rfl, _⟩ := h2.form
  rfl

theorem be_sums (x0 x1 x2 x3 : Nat) (b0 : x0 ≤ 255) (b1 : x1 ≤ 255) (b2 : x2 ≤ 255) (b3 : x3 ≤ 255) :
    IntKind.i64.wrap ((x0 : Int) * 16777216) = (x0 : Int) * 16777216 ∧
    IntKind.i64.wrap ((x1 : Int) * 65536) = (x1 : Int) * 65536 ∧
    IntKind.i64.wrap ((x0 : Int) * 16777216 + (x1 : Int) * 65536) = (x0 : Int) * 16777216 + (x1 : Int) * 65536 ∧
    IntKind.i64.wrap ((x2 : Int) * 256) = (x2 : Int) * 256 ∧
    IntKind.i64.wrap ((x0 : Int) * 16777216 + (x1 : Int) * 65536 + (x2 : Int) * 256) = (x0 : Int) * 16777216 + (x1 : Int) * 65536 + (x2 : Int) * 256 ∧
    IntKind.i64.wrap ((x0 : Int) * 16777216 + (x1 : Int) * 65536 + (x2 : Int) * 256 + (x3 : Int)) = (x0 : Int) * 16777216 + (x1 : Int) * 65536 + (x2 : Int) * 256 + (x3 : Int) ∧
    IntKind.i64.wrap (x3 : Int) = (x3 : Int) :=
  ⟨IntWalk.i64_in _ (by omega), IntWalk.i64_in _ (by omega), IntWalk.i64_in _ (by omega), IntWalk.i64_in _ (by omega), IntWalk.i64_in _ (by omega), IntWalk.i64_in _ (by omega), IntWalk.i64_in _ (by omega)⟩

set_option maxHeartbeats 2000000 in
theorem rscan_calls (N : Nat) : ∀ (w : World) (a : Option Addr) (n cap : Nat) (bs : List UInt8), n ≤ N → Byt w w.heap.size a n bs → n ≤ cap → cap ≤ 9223372036854775807 → n ≤ 100000000 →
    Calls Try.prog 21 #[.slice a n cap] w (RetS w (scanS bs)) := by
  induction N with
  | zero =>
    intro w a n cap bs hN hr hc1 hc2 hn
    obtain rfl : n = 0 := by omega
    have e1 : bs = [] := List.length_eq_zero_iff.1 hr.1
    subst e1
    clear hr
    go_enter Try.func21, Try.ntmps21
    go_wp2_with fail
    go_ret3
    exact retS scan_nil (OwnR.nil _ _) (Below.refl _ _)
  | succ N ih =>
    intro w a n cap bs hN hr hc1 hc2 hn
    obtain ⟨i1, hi1, hy0, hy1, hy2⟩ := info_parts rows_info
    have HL := Lib.hid hr.1
    have HR := Lib.hid hr
    have IH := Lib.hid ih
    clear hr ih
    by_cases h0 : n = 0
    · subst h0
      have e1 : bs = [] := List.length_eq_zero_iff.1 HL.out
      subst e1
      go_enter Try.func21, Try.ntmps21
      go_wp2_with fail
      go_ret3
      exact retS scan_nil (OwnR.nil _ _) (Below.refl _ _)
    · have hne : bs ≠ [] := fun e => h0 (by rw [← HL.out, e]; rfl)
      have hn0 : ((n : Int) == 0) = false := by simp; omega
      have HNE := Lib.hid hne
      have hnpos : 0 < n := by omega
      clear hne h0
      by_cases h8 : n < 8
      · have hnx := next_short (l := bs) (by rw [HL.out]; exact h8)
        have HF : Hid (scanS bs = ([], 0, 31)) := by unfold Hid; rw [scan_bad HNE.out (by rw [hnx]; simp), hnx]
        clear hnx
        go_enter Try.func21, Try.ntmps21
        go_wp2_with fail
        go_ret3
        exact retS HF.out (OwnR.nil _ _) (Below.refl _ _)
      · obtain ⟨b, off, ha, hb, hc⟩ := HR.out.at_ (i := 0) (by omega)
        subst ha
        have c0 := hc 0 (by omega)
        have c1 := hc 1 (by omega)
        have c2 := hc 2 (by omega)
        have c3 := hc 3 (by omega)
        rw [Nat.add_zero] at c0
        have hu : un4 bs = (bs.getD 0 0).toNat * 16777216 + (bs.getD 1 0).toNat * 65536 + (bs.getD 2 0).toNat * 256 + (bs.getD 3 0).toNat := rfl
        have b0 : (bs.getD 0 0).toNat ≤ 255 := Nat.le_of_lt_succ (bs.getD 0 0).toNat_lt
        have b1 : (bs.getD 1 0).toNat ≤ 255 := Nat.le_of_lt_succ (bs.getD 1 0).toNat_lt
        have b2 : (bs.getD 2 0).toNat ≤ 255 := Nat.le_of_lt_succ (bs.getD 2 0).toNat_lt
        have b3 : (bs.getD 3 0).toNat ≤ 255 := Nat.le_of_lt_succ (bs.getD 3 0).toNat_lt
        generalize (bs.getD 0 0).toNat = x0 at c0 hu b0
        generalize (bs.getD 1 0).toNat = x1 at c1 hu b1
        generalize (bs.getD 2 0).toNat = x2 at c2 hu b2
        generalize (bs.getD 3 0).toNat = x3 at c3 hu b3
        have q0 : (0 : Int) < (n : Int) := by omega
        have q1 : (1 : Int) < (n : Int) := by omega
        have q2 : (2 : Int) < (n : Int) := by omega
        have q3 : (3 : Int) < (n : Int) := by omega
        have HU := Lib.hid hu
        clear hc hu
        obtain ⟨e1, e2, e3, e4, e5, e6, e7⟩ := be_sums x0 x1 x2 x3 b0 b1 b2 b3
        go_enter Try.func21, Try.ntmps21
        go_wp2_with fail
        go_quiet (fail)
        clear e1 e2 e3 e4 e5 e6 e7
        have hsum : (x0 : Int) * 16777216 + (x1 : Int) * 65536 + (x2 : Int) * 256 + (x3 : Int) = ((un4 bs : Nat) : Int) := by rw [HU.out]; omega
        rw [hsum]
        clear hsum
        have hu := un4_lt bs
        obtain ⟨u, hU⟩ : ∃ u, u = un4 bs := ⟨_, rfl⟩
        rw [← hU] at hu ⊢
        have HUU := Lib.hid hU
        clear hU c0 c1 c2 c3 q0 q1 q2 q3 HU b0 b1 b2 b3
        obtain ⟨w1, hw1⟩ : ∃ w1, w1 = w.drewN nq := ⟨_, rfl⟩
        rw [← hw1]
        have HW1 : Hid (Below w.heap.size w w1) := by unfold Hid; rw [hw1]; exact below_drewN (Below.refl _ _) nq
        have HR1 : Hid (Byt w1 w1.heap.size (some ⟨b, off, none⟩) n bs) := by unfold Hid; rw [hw1]; exact HR.out
        have hs1 : w.heap.size ≤ w1.heap.size := HW1.out.size
        clear hw1
        by_cases h64 : 65536 < u
        · have HF : Hid (scanS bs = ([], 0, 3)) := by
            unfold Hid
            have hnx := next_long (l := bs) (by rw [HL.out]; exact h8) (by rw [← HUU.out]; exact h64)
            rw [scan_bad HNE.out (by rw [hnx]; simp), hnx]
          go_wp2_with fail
          go_ret3
          exact retS HF.out (OwnR.nil _ _) HW1.out
        · by_cases hnu : n < 8 + u
          · have HF : Hid (scanS bs = ([], 0, 31)) := by
              unfold Hid
              have hnx := next_cut (l := bs) (by rw [HL.out]; exact h8) (by rw [← HUU.out]; exact h64) (by rw [HL.out, ← HUU.out]; exact hnu)
              rw [scan_bad HNE.out (by rw [hnx]; simp), hnx]
            go_wp2_with fail
            go_ret3
            exact retS HF.out (OwnR.nil _ _) HW1.out
          · obtain ⟨A1, r1, y1⟩ := cut_run HR1.out hc1 8 (8 + u) (by omega) (by omega)
            obtain ⟨A2, r2, y2⟩ := cut_to HR1.out hc1 (8 + u) (by omega)
            obtain ⟨A3, r3, y3⟩ := cut_from HR1.out hc1 (8 + u) (by omega)
            rw [show 8 + u - 8 = u by omega] at r1 y1
            have Y1 := Lib.hid y1
            have Y2 := Lib.hid y2
            have Y3 := Lib.hid y3
            have hrf := ref_frame (l := bs) (by rw [HL.out]; exact h8) (by rw [← HUU.out]; exact h64) (by rw [HL.out, ← HUU.out]; exact hnu)
            rw [← HUU.out] at hrf
            have HRF := Lib.hid hrf
            obtain ⟨r, hr⟩ : ∃ r, r = (bs.drop 8).take u := ⟨_, rfl⟩
            rw [← hr] at Y1 HRF
            have HRR := Lib.hid hr
            clear y1 y2 y3 hrf hr
            go_wp2_with fail
            refine (rframe_calls w1 A1 u (cap - 8) r Y1.out (by omega) (by omega) (by omega)).mono ?_
            rintro e w2 ⟨v2, rfl, hO2, hb2⟩
            obtain ⟨A4, c4, rfl, _, _, hB2⟩ := hO2.form
            have HB2 := Lib.hid hB2
            have HB12 := Lib.hid hb2
            have hs2 := hb2.size
            clear hO2 hB2 hb2
            go_wp2_with fail
            refine (same_calls w2 _ _ A4 A2 _ _ _ _ (frame r) (bs.take (8 + u)) HB2.out (Y2.out.below HB12.out)).mono ?_
            rintro e w' ⟨rfl, rfl⟩
            by_cases heq : frame r = bs.take (8 + u)
            · have hbt : (frame r == bs.take (8 + u)) = true := by simpa using heq
              have hnx : nextS bs = (r, 0) := by
                rw [next_good (l := bs) (by rw [HL.out]; exact h8) (by rw [← HUU.out]; exact h64) (by rw [HL.out, ← HUU.out]; exact hnu) (by rw [← HUU.out, ← HRR.out]; exact HRF.out.1 heq), ← HUU.out, ← HRR.out]
              have hru : r.length = u := Y1.out.1
              have hsc := scan_cons (l := bs) (by rw [hnx])
              rw [hnx] at hsc
              simp only [hru] at hsc
              have hfew := scan_few (bs.drop (8 + u))
              rw [List.length_drop, HL.out] at hfew
              have HAT := scan_at (bs.drop (8 + u))
              rw [List.length_drop, HL.out] at HAT
              have HSC := Lib.hid hsc
              rw [hbt]
              obtain ⟨sl, sk, sx, hsl⟩ : ∃ sl sk sx, scanS (bs.drop (8 + u)) = (sl, sk, sx) := ⟨_, _, _, rfl⟩
              rw [hsl] at hfew HAT HSC
              simp only at hfew HAT
              have HSL := Lib.hid hsl
              clear hnx hsc hsl heq hbt
              go_wp2_with fail
              refine (IH.out w2 A3 (n - (8 + u)) (cap - (8 + u)) (bs.drop (8 + u)) (by omega) ((Y3.out.below HB12.out).more hs2) (by omega) (by omega) (by omega)).mono ?_
              rw [HSL.out]
              rintro e w3 ⟨v3, rows3, rfl, hR3, hb3⟩
              obtain ⟨m3, hm3⟩ : ∃ m, m = sl.length := ⟨_, rfl⟩
              obtain ⟨A5, c5, hv3, _, _, _⟩ := hR3.form
              rw [← hm3] at hv3 hfew
              have hli := hR3.list
              rw [← hm3] at hli
              have HM3 := Lib.hid hm3
              have HLI := Lib.hid hli
              have HR3 := Lib.hid hR3
              have HB3 := Lib.hid (HB12.out.trans (hb3.mono hs2))
              have hs3 := hb3.size
              clear hR3 hb3 hli hm3
              go_wp2_with fail
              refine (copy_calls w3 A1 u (cap - 8) r ((Y1.out.below HB3.out).more (by omega)) (by omega)).mono ?_
              rintro e w4 ⟨v4, rfl, hO4, hb4⟩
              obtain ⟨A6, c6, rfl, _, _, _⟩ := hO4.form_ hru
              have HO4 := Lib.hid hO4
              have HB4 := Lib.hid hb4
              have hs4 := hb4.size
              subst hv3
              clear hO4 hb4
              have HOR3 : Hid (OwnR w4 w.heap.size (.slice A5 m3 c5) rows3 sl) := (HR3.out.base (by omega)).below HB4.out
              have HNR := Lib.hid (new_ownR (base := w.heap.size) (World.ownsRow.base HO4.out (by omega) : OwnB w4 w.heap.size _ r) (by omega))
              have HR5 : Hid (Reads (w4.alloc (.cells #[.slice A6 u c6] 22)) w3.heap.size 1 A5 m3 rows3) := ((Reads.of_own HLI.out).below HB4.out).alloc hs4 _
              go_wp2_with (first
                | (at_builtin
                   refine wpList_append_any _ rfl (.tmp 77) (.tmp 78) _ rfl w.heap.size 22 i1 _ 1 24 Try.underlying34 hi1 hy0 hy1 hy2 rfl (by omega) (.slice (some ⟨w4.heap.size, 0, none⟩) 1 1) 1 [.slice A6 u c6] rfl
                     HNR.out.list w3.heap.size A5 m3 c5 rows3 rfl HR5.out (HR3.out.one) (by simp only [maxLen]; omega) (by omega) (by simp; omega) ?_
                   intro v7 w7 hown7 hg7 hat7))
              go_ret3
              refine retS HSC.out (OwnR.append HNR.out (HOR3.out.below ((Below.refl _ _).alloc (Nat.le_refl _) _)) ?_ hg7) ?_
              · rw [← HM3.out]; exact hown7
              · exact (((HW1.out.trans (HB3.out.mono hs1)).trans (HB4.out.mono (by omega))).alloc (by omega) _).grown hg7 (by simp; omega) (fun k hk => (HNR.out.list.lt k hk).1)
            · have hbf : (frame r == bs.take (8 + u)) = false := by simpa using heq
              have HF : Hid (scanS bs = ([], 0, 30)) := by
                unfold Hid
                have hnx := next_bad (l := bs) (by rw [HL.out]; exact h8) (by rw [← HUU.out]; exact h64) (by rw [HL.out, ← HUU.out]; exact hnu) (by rw [← HUU.out, ← HRR.out]; exact fun e => heq (HRF.out.2 e))
                rw [scan_bad HNE.out (by rw [hnx]; simp), hnx]
              rw [hbf]
              clear heq hbf
              go_wp2_with fail
              go_ret3
              exact retS HF.out (OwnR.nil _ _) (HW1.out.trans (HB12.out.mono hs1))
end Go.Proofs.Ytnolmcdahpkcnaa
