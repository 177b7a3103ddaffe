/- JournalTears: the walk. -/
import Derived.Test.YtnolmcdahpkcnaaWJournalAdds
import Derived.Test.YtnolmcdahpkcnaaPf
namespace Go.Proofs.Ytnolmcdahpkcnaa
open Go.RowKit
set_option linter.unusedVariables false

theorem u16_nat {a : Int} (h : (Lit.int .u16 a).wf = true) : ∃ c : Nat, a = c ∧ c ≤ 65535 := by
  have m1 : IntKind.u16.min = 0 := by decide
  have m2 : IntKind.u16.max = 65535 := by decide
  simp [Lit.wf, m1, m2] at h
  exact ⟨a.toNat, by omega, by omega⟩
theorem tear_at {w : World} {base g T c k sk : Nat} {F : List UInt8} {L sl : List (List UInt8)} {sx : Int} (h : Jrn w base g F L) (hT : F.length = T) (hk : k ≤ T) (hn : T ≤ 4194304) (hc : T - k = c) (hs : scanS (F.take c) = (sl, sk, sx)) :
    Calls Try.prog 28 #[.pointer (some ⟨g, 0, none⟩), .int .i64 k] w (TearPost w base g ((F.take c).take sk) sl) := by
  have := tear_calls w base g F L h k (by omega) (by omega)
  rw [hT, hc, hs] at this
  exact this

set_option maxHeartbeats 4000000 in
theorem walk_journalTears (a0 : Option Addr) (len0 cap0 : Nat) (L : List (List UInt8)) (a1 a2 : Int) (w : World) (hL : Lst w w.heap.size a0 len0 L) (hc1 : len0 ≤ cap0) (hc2 : cap0 ≤ 9223372036854775807)
    (w1 : (Lit.int .u16 a1).wf = true) (w2 : (Lit.int .u16 a2).wf = true) (hbulk : len0 + L.flatten.length ≤ 1048576) :
    Calls Try.prog 9 #[.slice a0 len0 cap0, .int .u16 a1, .int .u16 a2] w fun e w' => e = .returned (.bool true) ∧ Below w.heap.size w w' := by
  have HL := Lib.hid hL
  obtain ⟨n1, rfl, hn1⟩ := u16_nat w1
  obtain ⟨n2, rfl, hn2⟩ := u16_nat w2
  clear w1 w2
  have hflat := longN_flat L
  rw [hL.1] at hflat
  have hlong := long_calls w w.heap.size a0 len0 cap0 L hL (by omega)
  obtain ⟨T, hT⟩ : ∃ T, longN L = T := ⟨_, rfl⟩
  have HT := Lib.hid hT
  rw [hT] at hflat hlong
  clear hL hT
  by_cases hbig : 2000 < T
  · have HLO : Hid (Calls Try.prog 17 #[.slice a0 len0 cap0] w fun e w' => e = .returned (.bool true) ∧ w = w') := by
      rw [decide_eq_true (by omega)] at hlong; exact hlong
    clear hlong hflat hbulk
    go_enter Try.func9, Try.ntmps9
    go_wp2_with fail
    refine HLO.out.mono ?_
    rintro e w' ⟨rfl, rfl⟩
    go_wp2_with fail
    refine (known_calls _).mono ?_
    rintro e w1 ⟨rfl, hb⟩
    go_wp2_with fail
    go_ret
    exact ⟨rfl, hb⟩
  · have HLO : Hid (Calls Try.prog 17 #[.slice a0 len0 cap0] w fun e w' => e = .returned (.bool false) ∧ w = w') := by
      rw [decide_eq_false (by omega)] at hlong; exact hlong
    have hln : len0 ≤ 2000 := by omega
    have hT2 : T ≤ 2000 := by omega
    have HM : Hid (∀ r ∈ L, r.length ≤ 65536) := fun r hr => Nat.le_trans (mem_le (N := 2000) (by rw [HT.out]; omega) r hr) (by omega)
    obtain ⟨a, ha⟩ : ∃ a, n1 % (T + 1) = a := ⟨_, rfl⟩
    have haT : a ≤ T := by rw [← ha]; have := Nat.mod_lt n1 (show 0 < T + 1 by omega); omega
    have hmod : (n1 : Int) % ((T : Int) + 1) = (a : Int) := by rw [← ha]; push_cast; rfl
    obtain ⟨c, hc⟩ : ∃ c, T - a = c := ⟨_, rfl⟩
    have hcI : (T : Int) - (a : Int) = (c : Int) := by omega
    have hcT : c ≤ T := by omega
    obtain ⟨F, hF⟩ : ∃ F, framesL L = F := ⟨_, rfl⟩
    have HF := Lib.hid hF
    have HFL : Hid (F.length = T) := by rw [← hF]; exact HT.out
    obtain ⟨sl, sk, sx, hs⟩ : ∃ sl sk sx, scanS (F.take c) = (sl, sk, sx) := ⟨_, _, _, rfl⟩
    have HS := Lib.hid hs
    have hsk : sk ≤ c := by
      have := scan_at (F.take c)
      rw [hs, List.length_take] at this
      simp only at this; omega
    have HSR : Hid (sl.length ≤ 1000000 ∧ ∀ i, i < sl.length → (sl.getD i []).length ≤ 100000000) := by
      have h1 := scan_few (F.take c)
      have h2 := scan_rec (F.take c)
      rw [hs] at h1 h2
      rw [List.length_take] at h1
      simp only at h1 h2
      exact ⟨by omega, fun i hi => Nat.le_trans (h2 i hi) (by omega)⟩
    obtain ⟨G, hG⟩ : ∃ G, (F.take c).take sk = G := ⟨_, rfl⟩
    have HG := Lib.hid hG
    have HGL : Hid (G.length = sk) := by rw [← hG, List.take_take, List.length_take, HFL.out]; show min (min sk c) T = sk; omega
    obtain ⟨b, hb⟩ : ∃ b, n2 % (sk + 1) = b := ⟨_, rfl⟩
    have hbs : b ≤ sk := by rw [← hb]; have := Nat.mod_lt n2 (show 0 < sk + 1 by omega); omega
    have hmod2 : (n2 : Int) % ((sk : Int) + 1) = (b : Int) := by rw [← hb]; push_cast; rfl
    obtain ⟨d, hd⟩ : ∃ d, sk - b = d := ⟨_, rfl⟩
    have hdI : (sk : Int) - (b : Int) = (d : Int) := by omega
    have hds : d ≤ sk := by omega
    have HD := Lib.hid hd
    obtain ⟨tl, tk, tx, ht⟩ : ∃ tl tk tx, scanS (G.take d) = (tl, tk, tx) := ⟨_, _, _, rfl⟩
    have HTS := Lib.hid ht
    have HTR : Hid (tl.length ≤ 1000000 ∧ ∀ i, i < tl.length → (tl.getD i []).length ≤ 100000000) := by
      have h1 := scan_few (G.take d)
      have h2 := scan_rec (G.take d)
      rw [ht] at h1 h2
      rw [List.length_take] at h1
      simp only at h1 h2
      exact ⟨by omega, fun i hi => Nat.le_trans (h2 i hi) (by omega)⟩
    clear hlong hflat hbulk ha hF hs hG hb hd ht
    have HC := Lib.hid hc
    clear hc
    go_enter Try.func9, Try.ntmps9
    go_wp2_with fail
    refine HLO.out.mono ?_
    rintro e w' ⟨rfl, rfl⟩
    go_wp2_with fail
    refine (new_calls w).mono ?_
    rintro e w1 ⟨rfl, hw1⟩
    have hJ : JrnV w1 w.heap.size w.heap.size (.slice none 0 0) (.slice none 0 0) [] [] [] := by rw [← hw1]; exact new_jrn w
    have hb1 : Below w.heap.size w w1 := by rw [← hw1]; exact (Below.refl _ _).alloc (Nat.le_refl _) _
    have HJ := Lib.hid hJ
    have HB1 := Lib.hid hb1
    clear hw1 hJ hb1
    go_wp2_with fail
    refine (add_calls w1 _ _ _ _ _ _ _ HJ.out (· < w.heap.size) (fun b hb => ⟨Nat.lt_of_lt_of_le hb HB1.out.size, wr_base HJ.out hb⟩) a0 len0 cap0 L (HL.out.below HB1.out).lsk
      (fun i hi => by rw [getD_eq hi]; exact HM.out _ (List.getElem_mem _)) (by show 0 + longN L ≤ _; rw [HT.out]; omega) (by simp)).mono ?_
    intro e w2 hA
    have hb2 := add_below HJ.out hA (Nat.le_refl _)
    obtain ⟨vb2, vl2, rows2, rfl, hJ2, hdrop⟩ := hA
    have HJ2 : Hid (Jrn w2 w.heap.size w.heap.size F L) := ⟨vb2, vl2, rows2, by rw [← HF.out]; exact hJ2⟩
    have HB2 := Lib.hid (HB1.out.trans hb2)
    have hg2 : w.heap.size < w2.heap.size := hJ2.blk.lt
    clear hJ2 hb2 hdrop
    go_wp2_with fail
    refine (bytes_calls w2 _ _ _ _ HJ2.out (by rw [HFL.out]; omega)).mono ?_
    rintro e w3 ⟨v3, rfl, hO3, hb3⟩
    obtain ⟨A3, c3, rfl, q3, q3', hB3⟩ := hO3.form_ HFL.out
    have HK3 := Lib.hid hb3
    have HB3 := Lib.hid (HB2.out.trans (hb3.mono HB2.out.size))
    clear hO3 hB3 hb3
    go_wp2_with fail
    refine (frames_calls w3 a0 len0 cap0 L ((HL.out.below HB3.out).more HB3.out.size) (fun i hi => by rw [getD_eq hi]; exact HM.out _ (List.getElem_mem _)) (by rw [HT.out]; omega)).mono ?_
    rintro e w4 ⟨v4, rfl, hO4, hb4⟩
    rw [HF.out] at hO4
    obtain ⟨A4, c4, rfl, q4, q4', hB4⟩ := hO4.form_ HFL.out
    have HK4 : Hid (Below w2.heap.size w2 w4) := HK3.out.trans (hb4.mono HK3.out.size)
    clear hO4 hB4 hb4
    go_wp2_with fail
    refine (bytes_calls w4 _ _ _ _ (HJ2.out.below HK4.out) (by rw [HFL.out]; omega)).mono ?_
    rintro e w5 ⟨v5, rfl, hO5, hb5⟩
    obtain ⟨A5, c5, rfl, q5, q5', hB5⟩ := hO5.form_ HFL.out
    have HK5 : Hid (Below w2.heap.size w2 w5) := HK4.out.trans (hb5.mono HK4.out.size)
    have hop := open_calls w5 A5 c c5 _ (hB5.pre c hcT) (by omega) q5' (by omega)
    rw [HS.out] at hop
    have HOP := Lib.hid hop
    clear hO5 hB5 hb5 hop
    go_wp2_with fail
    refine HOP.out.mono ?_
    rintro e w6 ⟨gk, rfl, hJk, hb6⟩
    have HJk := Lib.hid hJk
    have HK6 : Hid (Below w2.heap.size w2 w6) := HK5.out.trans (hb6.mono HK5.out.size)
    have hs5 := HK5.out.size
    have hs6 := HK6.out.size
    clear hJk hb6
    go_wp2_with fail
    refine (tear_at (HJ2.out.below HK6.out) HFL.out haT (by omega) HC.out HS.out).mono ?_
    rintro e w7 ⟨rfl, hJ7, hM7⟩
    have HJ7 := Lib.hid hJ7
    have HB7 : Hid (Below w.heap.size w w7) := (HB2.out.trans (HK6.out.mono HB2.out.size)).trans (hM7.below (fun k hk => by subst hk; exact Nat.le_refl _) (Nat.le_trans HB2.out.size HK6.out.size))
    have HJk7 : Hid (Jrn w7 w5.heap.size gk ((F.take c).take sk) sl) := by
      obtain ⟨vb, vl, rows, h⟩ := HJk.out
      exact ⟨vb, vl, rows, h.keep fun k hk hk2 => hM7.block k hk2 (by omega)⟩
    clear hJ7 hM7
    rw [HG.out] at HJ7 HJk7
    have hskc : (0 : Int) ≤ (c : Int) - (sk : Int) := by omega
    go_wp2_with fail
    go_loop [14, 15, 16] (fun wh at_ i => ∃ (h t q : Nat), q ≤ len0 ∧ h ≤ q ∧ wh = .int .i64 h ∧ at_ = .int .i64 t ∧ i = .int .i64 q ∧ t = longN (L.take q) ∧ longN (L.take h) ≤ c ∧ (h = q ∨ c < longN (L.take (h + 1)))) (fun _ _ i => len0 - (intOf i).toNat)
    case atStart => exact ⟨0, 0, 0, Nat.zero_le _, Nat.le_refl _, rfl, rfl, rfl, by simp [longN, framesL], by simp [longN, framesL], .inl rfl⟩
    case round =>
      obtain ⟨h, t, q, hq, hhq, rfl, rfl, rfl, htq, hhc, hor⟩ := hrel
      have HTQ := Lib.hid htq
      have HHC := Lib.hid hhc
      have HOR := Lib.hid hor
      clear htq hhc hor
      by_cases hlt : q < len0
      · rcases HL.out.2 with h1 | ⟨bb, off, rfl, hbb, hcc⟩
        · omega
        obtain ⟨A1, l, cl, h1, h2, h3, h4⟩ := hcc q hlt
        have hcell : w7.cell? ⟨bb, off + q, none⟩ = some (.slice A1 l cl) := (HB7.out.cell (p := ⟨bb, off + q, none⟩) hbb).trans h1
        have HS1 : Hid (longN (L.take (q + 1)) = t + 8 + l) := by
          have := longN_take (lss := L) (k := q) (by rw [HL.out.1]; exact hlt)
          rw [h4.1, ← HTQ.out] at this; exact this
        have hlt2 : t + 8 + l ≤ 2000 := by
          have := longN_le L (q + 1)
          rw [HS1.out, HT.out] at this; omega
        clear hcc h1 h4
        by_cases hgo : t + 8 + l ≤ c
        · have hgoI : (t : Int) + 8 + (l : Int) ≤ (c : Int) := by omega
          go_wp2_with fail
          go_round
          case rel => exact ⟨q + 1, t + 8 + l, q + 1, by omega, by omega, by go_num, by go_num, by go_num, HS1.out.symm, by rw [HS1.out]; exact hgo, .inl rfl⟩
          case measure => simp [intOf]; omega
        · have hgoI : ¬ ((t : Int) + 8 + (l : Int) ≤ (c : Int)) := by omega
          go_wp2_with fail
          go_round
          case rel => exact ⟨h, t + 8 + l, q + 1, by omega, by omega, rfl, by go_num, by go_num, HS1.out.symm, HHC.out, .inr (by
            rcases HOR.out with h5 | h5
            · rw [h5, HS1.out]; omega
            · exact h5)⟩
          case measure => simp [intOf]; omega
      · obtain rfl : q = len0 := by omega
        obtain ⟨x, hres⟩ := scan_cut (L := L) (h := h) (c := c) HM.out (by rw [HL.out.1]; exact hhq) HHC.out (by rw [HL.out.1]; exact HOR.out)
        rw [HF.out, HS.out] at hres
        injection hres with e1 e2
        injection e2 with e2 e3
        have HSL : Hid (L.take h = sl) := e1.symm
        have HNS : Hid (sl.length = h) := by rw [← HSL.out]; show (L.take h).length = h; rw [List.length_take, HL.out.1]; omega
        have HFS : Hid (framesL sl = G) := by
          rw [← HG.out, ← HSL.out, List.take_take, Nat.min_eq_left hsk, e2, ← HF.out]
          exact (frames_take L h).symm
        have hhc : h ≤ cap0 := by omega
        have hhI : (h : Int) ≤ (cap0 : Int) := by omega
        have hLh : Hid (∀ W, Below w.heap.size w W → Lst W W.heap.size a0 h sl) := fun W hb => by
          rw [← HSL.out]; exact ((HL.out.below hb).more hb.size).pre h hhq
        have hB7 : Hid (∀ W, Below w7.heap.size w7 W → Below w.heap.size w W) := fun W hb => HB7.out.trans (hb.mono HB7.out.size)
        have hRJ : Hid (∀ W, W.heap = w7.heap → Calls Try.prog 23 #[.pointer (some ⟨w.heap.size, 0, none⟩)] W (RetL W sl)) := fun W e => records_calls W _ _ _ _ (HJ7.out.heap e) HSR.out.1 HSR.out.2
        have hJat : Hid (∀ W, Below w7.heap.size w7 W → Jrn W w.heap.size w.heap.size G sl) := fun W hb => HJ7.out.below hb
        have hKat : Hid (∀ W, Below w7.heap.size w7 W → Jrn W w5.heap.size gk G sl) := fun W hb => HJk7.out.below hb
        clear e1 e2 e3 HHC HOR HTQ
        go_wp2_with fail
        go_region_held3 (fun _ => True) (trivial) (first
          | (go_at_call_of 23 (Value.pointer (some ⟨w.heap.size, 0, none⟩)); refine (hRJ.out _ ?_).mono ?_; exact rfl; rintro e w8 ⟨v8, r8, rfl, hR8, hb8⟩
             obtain ⟨A8, c8, rfl, q8, q8', hL8⟩ := hR8.form_ HNS.out
             have HB8 : Hid (Below w7.heap.size w7 w8) := Below.trans (by repeat (first | exact Below.refl _ _ | apply below_drewN | apply Below.drew)) (hb8.mono (by exact Nat.le_refl _))
             have hcL1 : Hid (∀ W, W.heap = w8.heap → Calls Try.prog 20 #[.slice A8 h c8, .slice a0 h cap0] W fun e w' => e = .returned (.bool true) ∧ ∃ m, w' = W.drewN m) := fun W e => lists_true hL8 (hLh.out w8 (hB7.out w8 HB8.out)) q8 q8' hhc hc2 W e
             have hRK : Hid (∀ W, W.heap = w8.heap → Calls Try.prog 23 #[.pointer (some ⟨gk, 0, none⟩)] W (RetL W sl)) := fun W e => records_calls W _ _ _ _ ((hKat.out w8 HB8.out).heap e) HSR.out.1 HSR.out.2
             clear hR8 hb8 hL8)
          | (go_at_call_of 20 (Value.slice A8 h c8); refine (hcL1.out _ ?_).mono ?_; exact rfl; rintro e w' ⟨rfl, m1, rfl⟩)
          | (go_at_call_of 23 (Value.pointer (some ⟨gk, 0, none⟩)); refine (hRK.out _ ?_).mono ?_; exact rfl; rintro e w9 ⟨v9, r9, rfl, hR9, hb9⟩
             obtain ⟨A9, c9, rfl, q9, q9', hL9⟩ := hR9.form_ HNS.out
             have HB9 : Hid (Below w7.heap.size w7 w9) := Below.trans (by repeat (first | exact HB8.out | apply below_drewN | apply Below.drew)) (hb9.mono HB8.out.size)
             have hcL2 : Hid (∀ W, W.heap = w9.heap → Calls Try.prog 20 #[.slice A9 h c9, .slice a0 h cap0] W fun e w' => e = .returned (.bool true) ∧ ∃ m, w' = W.drewN m) := fun W e => lists_true hL9 (hLh.out w9 (hB7.out w9 HB9.out)) q9 q9' hhc hc2 W e
             clear hR9 hb9 hL9)
          | (go_at_call_of 20 (Value.slice A9 h c9); refine (hcL2.out _ ?_).mono ?_; exact rfl; rintro e w' ⟨rfl, m2, rfl⟩))
        have HB92 : Hid (Below w7.heap.size w7 (w9.drewN m2)) := below_drewN HB9.out m2
        clear hcL1 hcL2 hRK hRJ
        go_wp2_with fail
        refine (bytes_calls _ _ _ _ _ (hJat.out _ HB92.out) (by rw [HGL.out]; omega)).mono ?_
        rintro e w10 ⟨v10, rfl, hO10, hb10⟩
        obtain ⟨A10, c10, rfl, q10, q10', hB10⟩ := hO10.form_ HGL.out
        have HB10 : Hid (Below w7.heap.size w7 w10) := HB92.out.trans (hb10.mono HB92.out.size)
        clear hO10 hB10 hb10
        go_wp2_with fail
        refine (tear_arg _ _ _ _ _ (hJat.out _ HB10.out) _ (.inr (by rw [HGL.out]; omega))).mono ?_
        rintro e w' ⟨rfl, rfl⟩
        go_wp2_with fail
        refine (tear_at (hJat.out _ HB10.out) HGL.out hbs (by omega) HD.out HTS.out).mono ?_
        rintro e w11 ⟨rfl, hJ11, hM11⟩
        have HJ11 := Lib.hid hJ11
        have HB11 : Hid (Below w.heap.size w w11) := (hB7.out _ HB10.out).trans (hM11.below (fun k hk => by subst hk; exact Nat.le_refl _) (hB7.out _ HB10.out).size)
        clear hJ11 hM11
        go_wp2_with fail
        refine (frames_calls w11 a0 h cap0 sl (hLh.out _ HB11.out) (fun i hi => by
          have h1 : sl[i] ∈ L := by
            have h2 : sl[i] ∈ L.take h := by rw [HSL.out]; exact List.getElem_mem _
            exact List.mem_of_mem_take h2
          rw [getD_eq hi]; exact HM.out _ h1) (by show (framesL sl).length ≤ _; rw [HFS.out, HGL.out]; omega)).mono ?_
        rintro e w12 ⟨v12, rfl, hO12, hb12⟩
        rw [HFS.out] at hO12
        obtain ⟨A12, c12, rfl, q12, q12', hB12⟩ := hO12.form_ HGL.out
        have hop := open_calls w12 A12 d c12 _ (hB12.pre d hds) (by omega) q12' (by omega)
        rw [HTS.out] at hop
        have HOP2 := Lib.hid hop
        have HK12 := Lib.hid hb12
        clear hO12 hB12 hb12 hop
        go_wp2_with fail
        refine HOP2.out.mono ?_
        rintro e w13 ⟨go, rfl, hJo, hb13⟩
        have HJo := Lib.hid hJo
        have HK13 : Hid (Below w11.heap.size w11 w13) := HK12.out.trans (hb13.mono HK12.out.size)
        clear hJo hb13
        obtain ⟨tn, htn⟩ : ∃ tn, tl.length = tn := ⟨_, rfl⟩
        have HTN := Lib.hid htn
        clear htn
        go_wp2_with fail
        refine (records_calls w13 _ _ _ _ (HJ11.out.below HK13.out) HTR.out.1 HTR.out.2).mono ?_
        rintro e w14 ⟨v14, r14, rfl, hR14, hb14⟩
        obtain ⟨A14, c14, rfl, q14, q14', hL14⟩ := hR14.form_ HTN.out
        have HR14 := Lib.hid hR14
        have HK14 := Lib.hid hb14
        clear hR14 hL14 hb14
        go_wp2_with fail
        refine (records_calls w14 _ _ _ _ (HJo.out.below HK14.out) HTR.out.1 HTR.out.2).mono ?_
        rintro e w15 ⟨v15, r15, rfl, hR15, hb15⟩
        obtain ⟨A15, c15, rfl, q15, q15', hL15⟩ := hR15.form_ HTN.out
        obtain ⟨x14, y14, e14, _, _, hL14⟩ := (HR14.out.below hb15).form_ HTN.out
        injection e14 with e14 _ e14'
        subst e14 e14'
        have hcl := lists_true hL14 hL15 q14 q14' q15 q15' w15 rfl
        have HCL := Lib.hid hcl
        have HK15 : Hid (Below w11.heap.size w11 w15) := (HK13.out.trans (HK14.out.mono HK13.out.size)).trans (hb15.mono (Nat.le_trans HK13.out.size HK14.out.size))
        clear hR15 hb15 hL14 hL15 hcl
        go_wp2_with fail
        refine HCL.out.mono ?_
        rintro e w' ⟨rfl, m3, rfl⟩
        go_wp2_with fail
        refine (known_calls _).mono ?_
        rintro e w16 ⟨rfl, hb16⟩
        have HKE : Hid (Below w.heap.size w w16) := (HB11.out.trans ((below_drewN HK15.out m3).mono HB11.out.size)).trans (hb16.mono (Nat.le_trans HB11.out.size HK15.out.size))
        clear hb16
        go_wp2_with fail
        try rw [Exit.noGoto_ret]
        go_ret
        exact ⟨rfl, HKE.out⟩
end Go.Proofs.Ytnolmcdahpkcnaa
